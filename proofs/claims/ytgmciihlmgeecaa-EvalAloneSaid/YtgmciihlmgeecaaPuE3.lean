import Derived.Test.YtgmciihlmgeecaaPuE
import Derived.Test.YtgmciihlmgeecaaWEC
import Derived.Test.YtgmciihlmgeecaaMtFz
/- The law's functions of expressions: what is told of each is so. Conditions: those that each lemma names. -/
namespace Go.Proofs.Ytgmciihlmgeecaa.Fn
open Go Go.RowKit Go.Proofs.Ytgmciihlmgeecaa.Mt Go.Proofs.Ytgmciihlmgeecaa.Zm
set_option linter.unusedVariables false
set_option linter.unusedSimpArgs false

theorem tameO_ex (cs : List Cell) (deep vars : Int) (a b : List Cell) : ∃ k n x m l, tameO cs deep vars a b = ex k n x m l := by
  unfold tameO
  split
  · exact ⟨_, _, _, _, _, rfl⟩
  · split
    · exact ⟨_, _, _, _, _, rfl⟩
    · split
      · exact ⟨_, _, _, _, _, rfl⟩
      · exact ⟨_, _, _, _, _, rfl⟩
theorem tameC_ex (d : Nat) (deep vars : Int) (cs : List Cell) : ∃ k n x m l, tameC d deep vars cs = ex k n x m l := by
  cases d with
  | zero => exact ⟨1, 0, 0, 0, [], rfl⟩
  | succ d => exact tameO_ex _ _ _ _ _
theorem four_tame (d : Nat) (deep vars : Int) (cs : List Cell) : four (tameC d deep vars cs) = tameC d deep vars cs := by
  obtain ⟨k, n, x, m, l, e⟩ := tameC_ex d deep vars cs
  rw [e]; rfl
def leafR (k n x : Int) : Ret := Ret.mk (.agg [.v (.int .i64 k), .v (.int .i64 n), .v (.int .i64 x), .v (.slice none 0 0)]) []
def tameRaw (DD : Nat) (a b c : Int) (n : Nat) (l : List Cell) (deep vars : Int) : Ret :=
  if (4 ≤ a ∧ a ≤ 8) ∧ n = 2 ∧ deep > 0 then Ret.mk (.agg [.v (.int .i64 a), .v (.int .i64 0), .v (.int .i64 0), .own 0 0]) [⟨93, 4, 2, four (tameC DD (deep - 1) vars (List.take 4 l)) ++ four (tameC DD (deep - 1) vars (List.take 4 (List.drop 4 l))), true⟩]
  else if a = 3 ∧ n = 1 ∧ deep > 0 then Ret.mk (.agg [.v (.int .i64 3), .v (.int .i64 0), .v (.int .i64 0), .own 0 0]) [⟨93, 4, 1, four (tameC DD (deep - 1) vars (List.take 4 l)), true⟩]
  else if a = 2 then leafR 2 0 (IntKind.i64.wrap ((IntKind.u64.wrap c).tmod (IntKind.u64.wrap vars)))
  else leafR 1 (IntKind.i64.wrap ((IntKind.u64.wrap b).tmod 2147483648)) 0
set_option maxHeartbeats 2000000 in
theorem f67_spec (DD : Nat) (a b c : Int) (n : Nat) (l : List Cell) (deep vars : Int) (h : okE (DD + 1) (ex a b c n l) = true) (hd : inB deep = true) (hv : inB vars = true) (h0 : 0 < vars) :
    f67_wp DD a b c n l deep vars (fun r' => r' = tameRaw DD a b c n l deep vars) := by
  obtain ⟨h1, h2⟩ := okE_kid h
  have hd' := inB_iff.1 hd
  have hv' := inB_iff.1 hv
  have w : IntKind.i64.wrap (deep - 1) = deep - 1 := w64 (by omega) (by omega)
  have u0 : (IntKind.u64.wrap vars != 0) = true := by rw [IntWalk.u64_in vars ⟨by omega, by omega⟩]; simp; omega
  unfold f67_wp
  (try delta X67_4); (try delta X67_3); (try delta X67_2); (try delta X67_1); (try delta X67_0)
  rw [w]
  simp only [u0, cond_true]
  unfold tameRaw
  by_cases hk : 4 ≤ a ∧ a ≤ 8
  · have e1 : decide (a ≥ 4) = true := decide_eq_true hk.1
    have e2 : decide (a ≤ 8) = true := decide_eq_true hk.2
    have e3 : (a == 3) = false := by simp; omega
    have e4 : (a == 2) = false := by simp; omega
    simp only [e1, e2, e3, e4, cond_true, cond_false]
    by_cases hn : n = 2
    · subst hn
      by_cases hp : deep > 0
      · have iD : inB (deep - 1) = true := inB_iff.2 (by omega)
        have o0 := h2 0 (by omega)
        have o1 := h2 1 (by omega)
        rw [kid_0] at o0
        rw [kid_1] at o1
        rw [if_pos ⟨hk, rfl, hp⟩]
        refine cond_i (fun _ => ?_) (fun x => absurd x (by decide))
        refine cond_i (fun _ => ?_) (fun x => absurd hp (of_decide_eq_false x))
        refine ck_i (by simp; omega) (ck_i (by simp; omega) (ck_i ?_ (ck_i (by simp; omega) (ck_i (by simp; omega) (ck_i ?_ rfl)))))
        · simp only [(okE_plain o0).1, o0, iD, hv, decide_eq_true h0]; rfl
        · simp only [(okE_plain o1).1, o1, iD, hv, decide_eq_true h0]; rfl
      · rw [if_neg (fun x => hp x.2.2), if_neg (fun x => hp x.2.2), if_neg (by omega)]
        refine cond_i (fun _ => ?_) (fun x => absurd x (by decide))
        refine cond_i (fun x => absurd (of_decide_eq_true x) hp) (fun _ => ?_)
        rfl
    · rw [if_neg (fun x => hn x.2.1), if_neg (fun x => by omega), if_neg (by omega)]
      have e5 : ((n : Int) == 2) = false := by simp; omega
      simp only [e5, cond_false]
      rfl
  · rw [if_neg (fun x => hk x.1)]
    have tail : ∀ (A B : Prop), (bif decide (a ≥ 4) then (bif decide (a ≤ 8) then A else B) else B) = B := fun A B => by
      by_cases x : a ≥ 4
      · rw [decide_eq_true x, cond_true, decide_eq_false (fun y => hk ⟨x, y⟩), cond_false]
      · rw [decide_eq_false x, cond_false]
    rw [tail]
    by_cases a3 : a = 3
    · subst a3
      by_cases hn : n = 1
      · subst hn
        refine cond_i (fun _ => ?_) (fun x => absurd x (by decide))
        refine cond_i (fun _ => ?_) (fun x => absurd x (by decide))
        by_cases hp : deep > 0
        · have iD : inB (deep - 1) = true := inB_iff.2 (by omega)
          have o0 := h2 0 (by omega)
          rw [kid_0] at o0
          rw [if_pos ⟨rfl, rfl, hp⟩]
          refine cond_i (fun _ => ?_) (fun x => absurd hp (of_decide_eq_false x))
          refine ck_i (by simp; omega) (ck_i (by simp; omega) (ck_i ?_ rfl))
          simp only [(okE_plain o0).1, o0, iD, hv, decide_eq_true h0]; rfl
        · rw [if_neg (fun x => hp x.2.2), if_neg (by omega)]
          refine cond_i (fun x => absurd (of_decide_eq_true x) hp) (fun _ => ?_)
          rfl
      · rw [if_neg (fun x => hn x.2.1), if_neg (by omega)]
        have e5 : ((n : Int) == 1) = false := by simp; omega
        refine cond_i (fun _ => ?_) (fun x => absurd x (by decide))
        rw [e5]; rfl
    · rw [if_neg (fun x => a3 x.1), show (a == 3) = false by simpa using a3]
      rw [cond_false]
      refine cond_i (fun x => ?_) (fun x => ?_)
      · rw [if_pos (by simpa using x)]; rfl
      · rw [if_neg (by simpa using x)]; rfl
theorem tame_frz (DD : Nat) (a b c : Int) (n : Nat) (l : List Cell) (deep vars : Int) : frzR (tameRaw DD a b c n l deep vars) = Ret.mk (.agg (four (tameC (DD + 1) deep vars (ex a b c n l)))) [] ∧ sees (tameRaw DD a b c n l deep vars).cv = true := by
  rw [four_tame]
  show _ = Ret.mk (.agg (tameO (ex a b c n l) deep vars (tameC DD (deep - 1) vars (kid (ex a b c n l) 0)) (tameC DD (deep - 1) vars (kid (ex a b c n l) 1)))) [] ∧ _
  rw [kid_0, kid_1]
  unfold tameRaw tameO
  rw [four_tame, four_tame]
  show frzR (if (4 ≤ a ∧ a ≤ 8) ∧ n = 2 ∧ deep > 0 then _ else if a = 3 ∧ n = 1 ∧ deep > 0 then _ else if a = 2 then _ else _) = Ret.mk (.agg (if (4 ≤ a ∧ a ≤ 8) ∧ n = 2 ∧ deep > 0 then _ else if a = 3 ∧ n = 1 ∧ deep > 0 then _ else if a = 2 then _ else _)) [] ∧ _
  split
  · exact ⟨rfl, rfl⟩
  · split
    · exact ⟨rfl, rfl⟩
    · split
      · exact ⟨rfl, rfl⟩
      · exact ⟨rfl, rfl⟩
theorem sum67_ok : ∀ d vs r, sum67 d vs = some (true, r) → SoundAt Try.prog 67 vs r := by
  intro d
  induction d with
  | zero =>
    intro vs r h
    unfold sum67 at h
    split at h
    · simp only [Option.some.injEq, Prod.mk.injEq, Bool.and_eq_true] at h; exact absurd h.1.1.1.1.1.1 (by unfold okE; simp)
    · cases h
  | succ d ih =>
    intro vs r h
    unfold sum67 at h
    split at h
    · rename_i e x y
      simp only [Option.some.injEq, Prod.mk.injEq, Bool.and_eq_true, decide_eq_true_eq] at h
      obtain ⟨⟨⟨⟨⟨⟨h0, h1⟩, h2⟩, h3⟩, h4⟩, h5⟩, rfl⟩ := h
      have hv := okE_agg h0
      obtain ⟨d', hd', a, b, c, n, l, e1, _, _⟩ := okE_elim h0
      obtain ⟨x, rfl⟩ := int_elim h1
      obtain ⟨y, rfl⟩ := int_elim h2
      rw [e1] at h0 hv ⊢
      rw [hv]
      obtain ⟨t1, t2⟩ := tame_frz d a b c n l x y
      have s := (f67_sound d a b c n l x y (ctx_cons (g := 67) ctx_nil (by kernel_rfl) ih) (f67_spec d a b c n l x y h0 h3 h4 h5)).frz t2
      rw [t1] at s
      exact s
    · cases h

theorem four_id {d : Nat} {cs : List Cell} (h : okE d cs = true) : four cs = cs := by
  obtain ⟨_, rfl, a, b, c, n, l, rfl, _⟩ := okE_elim h; rfl
def exprRaw (a b c : Int) (n : Nat) (l : List Cell) : Ret :=
  if n = 0 then Ret.mk (.agg [.v (.int .i64 a), .v (.int .i64 b), .v (.int .i64 c), .v (.slice none 0 0)]) []
  else Ret.mk (.agg [.v (.int .i64 a), .v (.int .i64 b), .v (.int .i64 c), .own 0 0]) [⟨99, 4, n, l, true⟩]
theorem okB_kid {d : Nat} {a b c : Int} {n : Nat} {l : List Cell} (h : okB (d + 1) (ex a b c n l) = true) : n * 48 ≤ 140737488355328 ∧ ∀ i, i < n → okB d (kid (ex a b c n l) i) = true := by
  unfold okB at h
  simp only [Bool.and_eq_true, decide_eq_true_eq, List.all_eq_true, List.mem_range] at h
  exact h
theorem f69_spec (DD : Nat) (a b c : Int) (n : Nat) (l : List Cell) (h : okE (DD + 1) (ex a b c n l) = true) (hB : okB (DD + 1) (ex a b c n l) = true) : f69_wp DD a b c n l (fun r' => r' = exprRaw a b c n l) := by
  obtain ⟨h1, h2⟩ := okE_kid h
  obtain ⟨hb, h3⟩ := okB_kid hB
  unfold f69_wp
  (try delta X69_0)
  refine LoopP.ind (I := sumE (fun _ => True) (fun z => 1 ≤ z.1 ∧ z.1 ≤ ((n : Nat) : Int) ∧ z.2.1 = z.1.toNat ∧ z.2.2 = l.take (z.1.toNat * 4))) (μ := sumE (fun _ => n + 1) (fun z => ((n : Int) - z.1).toNat)) ?_ trivial
  rintro (u | ⟨x, m, cs⟩) k0 hI hk
  · dsimp only [sumE_l, sumE_r]
    refine cond_i (fun q => ?_) (fun q => ?_)
    · have q : (0 : Int) < n := of_decide_eq_true q
      have o0 := h2 0 (by omega)
      have b0 := h3 0 (by omega)
      rw [kid_0] at o0 b0
      refine ck_i (by simp; omega) (ck_i (by simp; omega) (ck_i (by simp only [(okE_plain o0).1, o0, b0]; rfl) ?_))
      have e := four_id o0
      unfold four at e
      rw [e]
      exact hk _ ⟨by dsimp only; omega, by dsimp only; omega, rfl, rfl⟩ (by dsimp only [sumE_l, sumE_r]; omega)
    · have q : ¬ (0 : Int) < n := of_decide_eq_false q
      unfold exprRaw
      rw [if_pos (by omega)]
  · obtain ⟨i1, i2, i3, i4⟩ := hI
    dsimp only at i1 i2 i3 i4
    subst i3; subst i4
    dsimp only [sumE_l, sumE_r]
    refine cond_i (fun q => ?_) (fun q => ?_)
    · have q : x < n := of_decide_eq_true q
      have o0 : okE DD (List.take 4 (List.drop (x.toNat * 4) l)) = true := h2 x.toNat (by omega)
      have b0 : okB DD (List.take 4 (List.drop (x.toNat * 4) l)) = true := h3 x.toNat (by omega)
      refine ck_i (by simp; omega) (ck_i (by simp; omega) (ck_i (by simp only [(okE_plain o0).1, o0, b0]; rfl) (ck_i (by simp; omega) ?_)))
      have e := four_id o0
      unfold four at e
      rw [e, w64 (a := x + 1) (by omega) (by omega), ← List.take_add]
      refine hk _ ⟨by dsimp only; omega, by dsimp only; omega, by dsimp only; omega, ?_⟩ (by dsimp only [sumE_l, sumE_r]; omega)
      dsimp only
      rw [show (x + 1).toNat * 4 = x.toNat * 4 + 4 by omega]
    · have q : ¬ x < n := of_decide_eq_false q
      unfold exprRaw
      rw [if_neg (by omega), show x.toNat = n by omega, List.take_of_length_le (by omega)]
theorem expr_frz {DD : Nat} {a b c : Int} {n : Nat} {l : List Cell} (h : okE (DD + 1) (ex a b c n l) = true) : frzR (exprRaw a b c n l) = Ret.mk (.agg (four (ex a b c n l))) [] ∧ sees (exprRaw a b c n l).cv = true := by
  unfold exprRaw
  split
  · rename_i e
    subst e
    have hl := (okE_kid h).1
    obtain rfl : l = [] := List.eq_nil_of_length_eq_zero (by omega)
    exact ⟨rfl, rfl⟩
  · exact ⟨rfl, rfl⟩
theorem sum69_ok : ∀ d vs r, sum69 d vs = some (true, r) → SoundAt Try.prog 69 vs r := by
  intro d
  induction d with
  | zero =>
    intro vs r h
    unfold sum69 at h
    split at h
    · simp only [Option.some.injEq, Prod.mk.injEq, Bool.and_eq_true] at h; exact absurd h.1.1 (by unfold okE; simp)
    · cases h
  | succ d ih =>
    intro vs r h
    unfold sum69 at h
    split at h
    · rename_i e
      simp only [Option.some.injEq, Prod.mk.injEq, Bool.and_eq_true] at h
      obtain ⟨⟨h0, hB⟩, rfl⟩ := h
      have hv := okE_agg h0
      obtain ⟨d', hd', a, b, c, n, l, e1, _, _⟩ := okE_elim h0
      rw [e1] at h0 hB hv ⊢
      rw [hv]
      obtain ⟨t1, t2⟩ := expr_frz h0
      have s := (f69_sound d a b c n l (ctx_cons (g := 69) ctx_nil (by kernel_rfl) ih) (f69_spec d a b c n l h0 hB)).frz t2
      rw [t1] at s
      exact s
    · cases h

end Go.Proofs.Ytgmciihlmgeecaa.Fn
