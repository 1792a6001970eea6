import Derived.Test.YtgmciihlmgeecaaPuE
import Derived.Test.YtgmciihlmgeecaaWEE
/- The reference's Linear: what is told of it is so, and it is the program's. Conditions: those that each lemma names. -/
namespace Go.Proofs.Ytgmciihlmgeecaa.Fn
open Go Go.RowKit Go.Proofs.Ytgmciihlmgeecaa.Mt Go.Proofs.Ytgmciihlmgeecaa.Zm
set_option linter.unusedVariables false
set_option linter.unusedSimpArgs false

theorem finR_far {f : (Int × Int) × Bool} (h : (finR f).2 = true) : -1099511627776 ≤ (finR f).1.2 ∧ (finR f).1.2 ≤ 1099511627776 := by
  unfold finR at h ⊢
  split at h
  · cases h
  · rename_i q
    rw [if_neg q]
    omega
theorem refC_far (d : Nat) (cs : List Cell) : (refC d cs).2 = true → -1099511627776 ≤ (refC d cs).1.2 ∧ (refC d cs).1.2 ≤ 1099511627776 := by
  cases d with
  | zero => intro h; cases h
  | succ d => exact finR_far
theorem fin_leaf (v s : Int) : bif decide (s > 1099511627776) then (Ret.mk (.tup [.one (.v (.int .i64 0)), .one (.v (.int .i64 0)), .one (.v (.bool false))]) [] = l3Ret (finR ((v, s), true))) else (bif decide (s < -1099511627776) then (Ret.mk (.tup [.one (.v (.int .i64 0)), .one (.v (.int .i64 0)), .one (.v (.bool false))]) [] = l3Ret (finR ((v, s), true)))
    else (Ret.mk (.tup [.one (.v (.int .i64 v)), .one (.v (.int .i64 s)), .one (.v (.bool true))]) [] = l3Ret (finR ((v, s), true)))) := by
  unfold finR
  dsimp only
  refine cond_i (fun q => ?_) (fun q => cond_i (fun q2 => ?_) (fun q2 => ?_))
  · rw [if_pos (.inr (.inl (of_decide_eq_true q)))]; rfl
  · rw [if_pos (.inr (.inr (of_decide_eq_true q2)))]; rfl
  · rw [if_neg (by rintro (x | x | x); cases x; exact of_decide_eq_false q x; exact of_decide_eq_false q2 x)]; rfl
theorem finR_no : finR ((0, 0), false) = ((0, 0), false) := rfl
set_option maxHeartbeats 4000000 in
theorem f70_spec (DD : Nat) (a b c : Int) (n : Nat) (l : List Cell) (h : okE (DD + 1) (ex a b c n l) = true) : f70_wp DD a b c n l (fun r' => r' = l3Ret (refC (DD + 1) (ex a b c n l))) := by
  obtain ⟨h1, h2⟩ := okE_kid h
  have e : refC (DD + 1) (ex a b c n l) = finR (if a = 1 ∧ n = 0 then ((-1, b), true) else if a = 2 ∧ n = 0 then ((c, 0), true) else if (a = 4 ∨ a = 5) ∧ n = 2 then refP a (refC DD (List.take 4 l)) (refC DD (List.take 4 (List.drop 4 l))) else ((-1, 0), false)) := by
    show refO (ex a b c n l) (refC DD (kid (ex a b c n l) 0)) (refC DD (kid (ex a b c n l) 1)) = _
    rw [kid_0, kid_1]; rfl
  have f0 := refC_far DD (List.take 4 l)
  have f1 := refC_far DD (List.take 4 (List.drop 4 l))
  rw [e]
  clear e
  unfold f70_wp
  have L1 := fin_leaf (-1) b
  have L2 := fin_leaf c 0
  rcases (show n = 0 ∨ n = 2 ∨ (n ≠ 0 ∧ n ≠ 2) by omega) with rfl | rfl | ⟨n0, n2⟩
  · rcases (show a = 1 ∨ a = 2 ∨ a = 4 ∨ a = 5 ∨ (a ≠ 1 ∧ a ≠ 2 ∧ a ≠ 4 ∧ a ≠ 5) by omega) with rfl | rfl | rfl | rfl | ⟨k1, k2, k4, k5⟩
    · exact L1
    · rfl
    · rfl
    · rfl
    · rw [if_neg (by omega), if_neg (by omega), if_neg (by omega)]
      simp only [show (a == 1) = false by simpa using k1, show (a == 2) = false by simpa using k2, show (a == 4) = false by simpa using k4, show (a == 5) = false by simpa using k5, cond_false]
      rfl
  · have o0 := h2 0 (by omega)
    have o1 := h2 1 (by omega)
    rw [kid_0] at o0
    rw [kid_1] at o1
    have p0 := (okE_plain o0).1
    have p1 := (okE_plain o1).1
    rcases (show a = 1 ∨ a = 2 ∨ (a = 4 ∨ a = 5) ∨ (a ≠ 1 ∧ a ≠ 2 ∧ a ≠ 4 ∧ a ≠ 5) by omega) with rfl | rfl | hk | ⟨k1, k2, k4, k5⟩
    · exact ⟨rfl, rfl, rfl, rfl⟩
    · exact ⟨rfl, rfl, rfl⟩
    · rw [if_neg (by omega), if_neg (by omega), if_pos ⟨hk, rfl⟩]
      rcases hk with rfl | rfl
      · refine cond_i (fun t => absurd t (by decide)) (fun _ => cond_i (fun t => absurd t (by decide)) (fun _ => cond_i (fun _ => cond_i (fun _ => ?_) (fun t => absurd t (by decide))) (fun t => absurd t (by decide))))
        refine ck_i (by simp; omega) (ck_i (by simp; omega) ?_)
        refine letV_j fun u hu => ?_
        rw [hu] at f0 ⊢
        refine ck_i (by simp only [o0, p0]; rfl) ?_
        refine ck_i (by simp; omega) (ck_i (by simp; omega) ?_)
        refine letV_j fun w hw => ?_
        rw [hw] at f1 ⊢
        refine ck_i (by simp only [o1, p1]; rfl) ?_
        clear hu hw o0 o1 p0 p1 h h1 h2 L1 L2
        obtain ⟨⟨v, s⟩, q⟩ := u
        obtain ⟨⟨v', s'⟩, q'⟩ := w
        unfold refP
        dsimp only at f0 f1 ⊢
        cases q with
        | false => rfl
        | true =>
          cases q' with
          | false => rfl
          | true =>
            have f0 := f0 rfl
            have f1 := f1 rfl
            rw [max_if']
            refine cond_i (fun x => by cases x) (fun _ => cond_i (fun x => by cases x) (fun _ => ?_))
            rw [w64 (a := s + s') (by omega) (by omega)]
            refine cond_i (fun x => ?_) (fun x => ?_)
            · have x : v ≥ 0 := of_decide_eq_true x
              refine cond_i (fun y => ?_) (fun y => ?_)
              · have y : v' ≥ 0 := of_decide_eq_true y
                rw [if_pos (.inr (.inr (.inl ⟨x, y⟩)))]; rfl
              · have y : ¬ v' ≥ 0 := of_decide_eq_false y
                rw [if_neg (by rintro (z | z | z | z); cases z; cases z; exact y z.2; exact y z.2), if_neg (by omega)]
                exact ⟨rfl, fin_leaf _ _⟩
            · have x : ¬ v ≥ 0 := of_decide_eq_false x
              rw [if_neg (by rintro (z | z | z | z); cases z; cases z; exact x z.1; omega), if_neg (by omega)]
              exact ⟨rfl, fin_leaf _ _⟩
      · refine cond_i (fun t => absurd t (by decide)) (fun _ => cond_i (fun t => absurd t (by decide)) (fun _ => cond_i (fun t => absurd t (by decide)) (fun _ => cond_i (fun _ => cond_i (fun _ => ?_) (fun t => absurd t (by decide))) (fun t => absurd t (by decide)))))
        refine ck_i (by simp; omega) (ck_i (by simp; omega) ?_)
        refine letV_j fun u hu => ?_
        rw [hu] at f0 ⊢
        refine ck_i (by simp only [o0, p0]; rfl) ?_
        refine ck_i (by simp; omega) (ck_i (by simp; omega) ?_)
        refine letV_j fun w hw => ?_
        rw [hw] at f1 ⊢
        refine ck_i (by simp only [o1, p1]; rfl) ?_
        clear hu hw o0 o1 p0 p1 h h1 h2 L1 L2
        obtain ⟨⟨v, s⟩, q⟩ := u
        obtain ⟨⟨v', s'⟩, q'⟩ := w
        unfold refP
        dsimp only at f0 f1 ⊢
        cases q with
        | false => rfl
        | true =>
          cases q' with
          | false => rfl
          | true =>
            have f0 := f0 rfl
            have f1 := f1 rfl
            rw [max_if']
            refine cond_i (fun x => by cases x) (fun _ => cond_i (fun x => by cases x) (fun _ => ?_))
            rw [w64 (a := s - s') (by omega) (by omega)]
            refine cond_i (fun x => ?_) (fun x => ?_)
            · refine cond_i (fun y => ?_) (fun y => ?_)
              · have y : v' ≥ 0 := of_decide_eq_true y
                rw [if_pos (.inr (.inr (.inr ⟨rfl, y⟩)))]; rfl
              · have y : ¬ v' ≥ 0 := of_decide_eq_false y
                rw [if_neg (by rintro (z | z | z | z); cases z; cases z; exact y z.2; exact y z.2), if_pos rfl]
                exact fin_leaf _ _
            · refine cond_i (fun y => ?_) (fun y => ?_)
              · have y : v' ≥ 0 := of_decide_eq_true y
                rw [if_pos (.inr (.inr (.inr ⟨rfl, y⟩)))]; rfl
              · have y : ¬ v' ≥ 0 := of_decide_eq_false y
                rw [if_neg (by rintro (z | z | z | z); cases z; cases z; exact y z.2; exact y z.2), if_pos rfl]
                exact fin_leaf _ _
    · rw [if_neg (by omega), if_neg (by omega), if_neg (by omega)]
      simp only [show (a == 1) = false by simpa using k1, show (a == 2) = false by simpa using k2, show (a == 4) = false by simpa using k4, show (a == 5) = false by simpa using k5, cond_false]
      rfl
  · rw [if_neg (fun x => n0 x.2), if_neg (fun x => n0 x.2), if_neg (fun x => n2 x.2)]
    have n0' : ((n : Int) == 0) = false := by simp; omega
    have n2' : ((n : Int) == 2) = false := by simp; omega
    simp only [n0', n2', cond_false]
    refine cond_i (fun x => ?_) (fun x => cond_i (fun y => ?_) (fun y => ?_))
    · obtain rfl : a = 1 := by simpa using x
      exact ⟨rfl, rfl, rfl, rfl⟩
    · obtain rfl : a = 2 := by simpa using y
      exact ⟨rfl, rfl, rfl⟩
    · simp only [cond_eq_ite, ite_self]; rfl
theorem sum70_ok : ∀ d vs r, sum70 d vs = some (true, r) → SoundAt Try.prog 70 vs r := by
  intro d
  induction d with
  | zero =>
    intro vs r h
    unfold sum70 at h
    split at h
    · simp only [Option.some.injEq, Prod.mk.injEq] at h; exact absurd h.1 (by unfold okE; simp)
    · cases h
  | succ d ih =>
    intro vs r h
    unfold sum70 at h
    split at h
    · rename_i e
      simp only [Option.some.injEq, Prod.mk.injEq] at h
      obtain ⟨h0, rfl⟩ := h
      have hv := okE_agg h0
      obtain ⟨d', hd', a, b, c, n, l, e1, _, _⟩ := okE_elim h0
      rw [e1] at h0 hv ⊢
      rw [hv]
      exact f70_sound d a b c n l (ctx_cons (g := 70) ctx_nil (by kernel_rfl) ih) (f70_spec d a b c n l h0)
    · cases h

end Go.Proofs.Ytgmciihlmgeecaa.Fn
