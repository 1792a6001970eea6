import Derived.Test.YtgmciihlmgeecaaPuI
import Derived.Test.YtgmciihlmgeecaaPuN1
import Derived.Test.YtgmciihlmgeecaaWE
/- Functions of expressions: what is told of each is so. Conditions: those that each lemma names. -/
namespace Go.Proofs.Ytgmciihlmgeecaa.Fn
open Go Go.RowKit Go.Proofs.Ytgmciihlmgeecaa.Mt Go.Proofs.Ytgmciihlmgeecaa.Zm
set_option linter.unusedVariables false
set_option linter.unusedSimpArgs false

abbrev ex (a b c : Int) (n : Nat) (l : List Cell) : List Cell := [.v (.int .i64 a), .v (.int .i64 b), .v (.int .i64 c), .sl n l]
theorem isInt_elim {c : Cell} (h : isInt .i64 c = true) : ∃ x, c = .v (.int .i64 x) := by
  unfold isInt at h
  split at h
  · simp at h; subst h; exact ⟨_, rfl⟩
  · cases h
theorem okE_elim {d : Nat} {cs : List Cell} (h : okE d cs = true) : ∃ d', d = d' + 1 ∧ ∃ (a b c : Int) (n : Nat) (l : List Cell), cs = ex a b c n l ∧ l.length = n * 4 ∧ ∀ i, i < n → okE d' ((l.drop (i * 4)).take 4) = true := by
  cases d with
  | zero => cases h
  | succ d =>
    unfold okE at h
    split at h
    · cases ‹_ = 0›
    · rename_i d' a b c m ks e
      obtain rfl : d' = d := by simpa using e.symm
      simp only [Bool.and_eq_true, beq_iff_eq, List.all_eq_true, List.mem_range] at h
      obtain ⟨⟨⟨⟨h1, h2⟩, h3⟩, h4⟩, h5⟩ := h
      obtain ⟨a, rfl⟩ := isInt_elim h1
      obtain ⟨b, rfl⟩ := isInt_elim h2
      obtain ⟨c, rfl⟩ := isInt_elim h3
      exact ⟨d', rfl, a, b, c, m, ks, rfl, h4, h5⟩
    · cases h
theorem okE_agg {v : CV} {d : Nat} (h : okE d (cellsA v) = true) : v = .agg (cellsA v) := by
  cases v with
  | agg cs => rfl
  | _ => exact absurd (okE_elim h) (by rintro ⟨_, _, _, _, _, _, _, h, _⟩; cases h)
theorem okE_plain {d : Nat} {cs : List Cell} (h : okE d cs = true) : cs.all plainC = true ∧ cs.length = 4 := by
  obtain ⟨_, rfl, a, b, c, n, l, rfl, _⟩ := okE_elim h
  exact ⟨rfl, rfl⟩

theorem linC_far (d : Nat) (cs : List Cell) : (linC d cs).2 = true → -1099511627776 ≤ (linC d cs).1.2 ∧ (linC d cs).1.2 ≤ 1099511627776 := by
  cases d with
  | zero => intro h; cases h
  | succ d =>
    intro h
    unfold linC linO farP at h ⊢
    simp only [Bool.and_eq_true, decide_eq_true_eq] at h
    exact ⟨h.2, h.1.2⟩
theorem far_leaf (v b : Int) : (bif decide (b ≤ 1099511627776) then (Ret.mk (.tup [.agg [.v (.int .i64 v), .v (.int .i64 b)], .one (.v (.bool (decide (b ≥ -1099511627776))))]) [] = liRet (farP ((v, b), true)))
    else (Ret.mk (.tup [.agg [.v (.int .i64 v), .v (.int .i64 b)], .one (.v (.bool false))]) [] = liRet (farP ((v, b), true)))) := by
  unfold farP liRet
  refine cond_i (fun q => ?_) (fun q => ?_) <;> simp [q]
theorem far_leafP (p : (Int × Int) × Bool) : (bif p.2 then (bif decide (p.1.2 ≤ 1099511627776) then (Ret.mk (.tup [.agg [.v (.int .i64 p.1.1), .v (.int .i64 p.1.2)], .one (.v (.bool (decide (p.1.2 ≥ -1099511627776))))]) [] = liRet (farP p))
    else (Ret.mk (.tup [.agg [.v (.int .i64 p.1.1), .v (.int .i64 p.1.2)], .one (.v (.bool false))]) [] = liRet (farP p)))
    else (Ret.mk (.tup [.agg [.v (.int .i64 p.1.1), .v (.int .i64 p.1.2)], .one (.v (.bool false))]) [] = liRet (farP p))) := by
  obtain ⟨⟨v, b⟩, q⟩ := p
  cases q with
  | true => exact far_leaf v b
  | false => rfl

set_option maxHeartbeats 2000000 in
theorem f103_spec (DD : Nat) (a b c : Int) (n : Nat) (l : List Cell) (h : okE (DD + 1) (ex a b c n l) = true) : f103_wp DD a b c n l (fun r' => r' = liRet (linC (DD + 1) (ex a b c n l))) := by
  have e : linC (DD + 1) (ex a b c n l) = farP (if a = 1 ∧ n = 0 then ((-1, b), true) else if a = 2 ∧ n = 0 then ((c, 0), true) else if (a = 4 ∨ a = 5) ∧ n = 2 then pairC (DD + 1) (ex a b c n l) else ((-1, 0), false)) := rfl
  have k2 : decide (2 ≤ kN (ex a b c n l)) = decide (2 ≤ n) := rfl
  rw [e]
  unfold f103_wp
  (try delta X103_3); (try delta X103_2); (try delta X103_1); (try delta X103_0)
  unfold letV
  simp only [k2, h]
  have L := far_leafP (pairC (DD + 1) (ex a b c n l))
  generalize pairC (DD + 1) (ex a b c n l) = P at *
  have L1 := far_leaf (-1) b
  have L2 := far_leaf c 0
  rcases (show n = 0 ∨ n = 2 ∨ (n ≠ 0 ∧ n ≠ 2) by omega) with rfl | rfl | ⟨n0, n2⟩
  · rcases (show a = 1 ∨ a = 2 ∨ a = 4 ∨ a = 5 ∨ (a ≠ 1 ∧ a ≠ 2 ∧ a ≠ 4 ∧ a ≠ 5) by omega) with rfl | rfl | rfl | rfl | ⟨h1, h2, h4, h5⟩
    · exact L1
    · exact L2
    · rfl
    · rfl
    · simp [h1, h2, h4, h5]; rfl
  · rcases (show a = 1 ∨ a = 2 ∨ a = 4 ∨ a = 5 ∨ (a ≠ 1 ∧ a ≠ 2 ∧ a ≠ 4 ∧ a ≠ 5) by omega) with rfl | rfl | rfl | rfl | ⟨h1, h2, h4, h5⟩
    · rfl
    · rfl
    · exact L
    · exact L
    · simp [h1, h2, h4, h5]; rfl
  · have n0' : ((n : Int) == 0) = false := by simp; omega
    have n2' : ((n : Int) == 2) = false := by simp; omega
    simp only [n0', n2', cond_false]
    rw [if_neg (fun x => n0 x.2), if_neg (fun x => n0 x.2), if_neg (fun x => n2 x.2)]
    simp only [cond_eq_ite, ite_self]
    rfl

theorem kid_0 {a b c : Int} {n : Nat} {l : List Cell} : kid (ex a b c n l) 0 = List.take 4 l := by simp [kid, rC]
theorem kid_1 {a b c : Int} {n : Nat} {l : List Cell} : kid (ex a b c n l) 1 = List.take 4 (List.drop 4 l) := rfl
theorem okE_kid {d : Nat} {a b c : Int} {n : Nat} {l : List Cell} (h : okE (d + 1) (ex a b c n l) = true) : l.length = n * 4 ∧ ∀ i, i < n → okE d (kid (ex a b c n l) i) = true := by
  obtain ⟨d', e, a', b', c', n', l', e2, h1, h2⟩ := okE_elim h
  obtain rfl : d = d' := by omega
  simp only [ex, List.cons.injEq, Cell.v.injEq, Value.int.injEq, Cell.sl.injEq, and_true, true_and] at e2
  obtain ⟨rfl, rfl, rfl, rfl, rfl⟩ := e2
  exact ⟨h1, h2⟩
theorem f113_spec (DD : Nat) (a b c : Int) (n : Nat) (l : List Cell) (h : okE (DD + 1) (ex a b c n l) = true) (hn : decide (2 ≤ kN (ex a b c n l)) = true) : f113_wp DD a b c n l (fun r' => r' = liRet (pairC (DD + 1) (ex a b c n l))) := by
  have hn : 2 ≤ n := of_decide_eq_true hn
  obtain ⟨h1, h2⟩ := okE_kid h
  have o0 := h2 0 (by omega)
  have o1 := h2 1 (by omega)
  rw [kid_0] at o0
  rw [kid_1] at o1
  have p0 := (okE_plain o0).1
  have p1 := (okE_plain o1).1
  have f0 := linC_far DD (List.take 4 l)
  have f1 := linC_far DD (List.take 4 (List.drop 4 l))
  have e : pairC (DD + 1) (ex a b c n l) = pairO a (linC DD (List.take 4 l)) (linC DD (List.take 4 (List.drop 4 l))) := by
    show pairO a (linC DD (kid (ex a b c n l) 0)) (linC DD (kid (ex a b c n l) 1)) = _
    rw [kid_0, kid_1]
  rw [e]
  unfold f113_wp
  (try delta X113_1); (try delta X113_0)
  refine ck_i (by simp; omega) (ck_i (by simp; omega) ?_)
  refine letV_j fun u hu => ?_
  rw [hu] at f0 ⊢
  refine ck_i (by simp only [o0, p0]; rfl) ?_
  refine ck_i (by simp; omega) (ck_i (by simp; omega) ?_)
  refine letV_j fun w hw => ?_
  rw [hw] at f1 ⊢
  refine ck_i (by simp only [o1, p1]; rfl) ?_
  clear hu hw e o0 o1 p0 p1 h h1 h2
  obtain ⟨⟨v, s⟩, q⟩ := u
  obtain ⟨⟨v', s'⟩, q'⟩ := w
  unfold pairO
  dsimp only at f0 f1 ⊢
  cases q with
  | false => rfl
  | true =>
    cases q' with
    | false => rfl
    | true =>
      have f0 := f0 rfl
      have f1 := f1 rfl
      rw [w64 (a := s + s') (by omega) (by omega), w64 (a := s - s') (by omega) (by omega), max_if', if_neg (by simp)]
      refine cond_i (fun x => by cases x) (fun _ => cond_i (fun x => by cases x) (fun _ => ?_))
      refine cond_i (fun x => ?_) (fun x => ?_)
      · have x : v' ≠ -1 := by simpa using x
        refine cond_i (fun y => ?_) (fun y => ?_)
        · rw [if_pos ⟨x, .inl (by simpa using y)⟩]; rfl
        · have y : a ≠ 5 := by simpa using y
          refine cond_i (fun z => ?_) (fun z => ?_)
          · rw [if_pos ⟨x, .inr (by simpa using z)⟩]; rfl
          · rw [if_neg (by rintro ⟨_, t | t⟩; exact y t; exact t (by simpa using z)), if_neg y]; rfl
      · have x : v' = -1 := by simpa using x
        rw [if_neg (fun t => t.1 x)]
        refine cond_i (fun y => ?_) (fun y => ?_)
        · rw [if_pos (by simpa using y)]; rfl
        · rw [if_neg (by simpa using y)]; rfl
theorem lin_ok : ∀ d, (∀ vs r, sum103 d vs = some (true, r) → SoundAt Try.prog 103 vs r) ∧ (∀ vs r, sum113 (d + 1) vs = some (true, r) → SoundAt Try.prog 113 vs r) := by
  have pair : ∀ d, (∀ vs r, sum103 d vs = some (true, r) → SoundAt Try.prog 103 vs r) → ∀ vs r, sum113 (d + 1) vs = some (true, r) → SoundAt Try.prog 113 vs r := by
    intro d hd vs r h
    unfold sum113 at h
    split at h
    · rename_i e
      simp only [Option.some.injEq, Prod.mk.injEq, Bool.and_eq_true] at h
      obtain ⟨⟨h0, h1⟩, rfl⟩ := h
      have hv := okE_agg h0
      obtain ⟨d', hd', a, b, c, n, l, e1, h2, h3⟩ := okE_elim h0
      rw [e1] at h0 h1 hv ⊢
      rw [hv]
      exact f113_sound d a b c n l (ctx_cons (g := 103) ctx_nil (by kernel_rfl) hd) (f113_spec d a b c n l h0 h1)
    · cases h
  have lin : ∀ d, (∀ vs r, sum113 (d + 1) vs = some (true, r) → SoundAt Try.prog 113 vs r) → ∀ vs r, sum103 (d + 1) vs = some (true, r) → SoundAt Try.prog 103 vs r := by
    intro d hd vs r h
    unfold sum103 at h
    split at h
    · rename_i e
      simp only [Option.some.injEq, Prod.mk.injEq] at h
      obtain ⟨h0, rfl⟩ := h
      have hv := okE_agg h0
      obtain ⟨d', hd', a, b, c, n, l, e1, h2, h3⟩ := okE_elim h0
      rw [e1] at h0 hv ⊢
      rw [hv]
      exact f103_sound d a b c n l (ctx_cons (g := 113) ctx_nil (by kernel_rfl) hd) (f103_spec d a b c n l h0)
    · cases h
  intro d
  induction d with
  | zero =>
    have h0 : ∀ vs r, sum103 0 vs = some (true, r) → SoundAt Try.prog 103 vs r := by
      intro vs r h
      unfold sum103 at h
      split at h
      · simp only [Option.some.injEq, Prod.mk.injEq] at h; exact absurd h.1 (by unfold okE; simp)
      · cases h
    exact ⟨h0, pair 0 h0⟩
  | succ d ih =>
    have h := lin d ih.2
    exact ⟨h, pair (d + 1) h⟩
theorem sum103_ok (d : Nat) : ∀ vs r, sum103 d vs = some (true, r) → SoundAt Try.prog 103 vs r := (lin_ok d).1
theorem f68_spec (DD : Nat) (a b c : Int) (n : Nat) (l : List Cell) (h : okE DD (ex a b c n l) = true) : f68_wp DD a b c n l (fun r' => r' = l3Ret (lin3 (linC DD (ex a b c n l)))) := by
  unfold f68_wp
  refine letV_j fun u hu => ?_
  have hu : linC DD (ex a b c n l) = u := hu
  have h : okE DD [.v (.int .i64 a), .v (.int .i64 b), .v (.int .i64 c), .sl n l] = true := h
  rw [hu]
  refine ck_i (by simp only [h]; rfl) ?_
  obtain ⟨⟨v, s⟩, q⟩ := u
  cases q <;> rfl
theorem cx68_ok (d : Nat) : CtxOk Try.prog (cx68 d).q.ctx := ctx_cons (g := 103) ctx_nil (by kernel_rfl) (sum103_ok d)
theorem sum68_ok (d : Nat) : ∀ vs r, sum68 d vs = some (true, r) → SoundAt Try.prog 68 vs r := by
  intro vs r h
  unfold sum68 at h
  split at h
  · rename_i e
    simp only [Option.some.injEq, Prod.mk.injEq] at h
    obtain ⟨h0, rfl⟩ := h
    have hv := okE_agg h0
    obtain ⟨d', hd', a, b, c, n, l, e1, h2, h3⟩ := okE_elim h0
    rw [e1] at h0 hv ⊢
    rw [hv]
    exact f68_sound d a b c n l (cx68_ok d) (f68_spec d a b c n l h0)
  · cases h
theorem f105_spec (a b c d : Bool) : f105_wp a b c d (fun r' => r' = erRet (eiE (a, b) (c, d))) := by
  cases a <;> cases b <;> rfl
theorem cx105_ok : CtxOk Try.prog cx105.q.ctx := ctx_nil
theorem bools_elim {v : CV} (h : okEr v = true) : ∃ a b, v = .agg [.v (.bool a), .v (.bool b)] :=
  okA_elim h (motive := fun v => ∃ a b, v = .agg [.v (.bool a), .v (.bool b)]) ⟨_, _, rfl⟩
theorem sum105_ok : ∀ vs r, sum105 vs = some (true, r) → SoundAt Try.prog 105 vs r := by
  intro vs r h
  unfold sum105 at h
  split at h
  · simp only [Option.some.injEq, Prod.mk.injEq, Bool.and_eq_true] at h
    obtain ⟨⟨h0, h1⟩, rfl⟩ := h
    obtain ⟨a, b, rfl⟩ := bools_elim h0
    obtain ⟨c, d, rfl⟩ := bools_elim h1
    exact f105_sound _ _ _ _ cx105_ok (f105_spec a b c d)
  · cases h

theorem f106_spec (DD : Nat) (a b c : Int) (n : Nat) (l : List Cell) (h : okE (DD + 1) (ex a b c n l) = true) (nn : Bool) (rn : Nat) (rl : List Int) (hr : rl.length = rn * 2) (N : Int) (B : Bool) (D : List Int) (hl : D.length = 49) (hn : decide (2 ≤ kN (ex a b c n l)) = true) :
    f106_wp DD a b c n l nn rn (ic .i64 rl) N B (ic .i64 D) (fun r' => r' = evRet (twoC (DD + 1) (ex a b c n l) nn rn rl)) := by
  have hn : 2 ≤ n := of_decide_eq_true hn
  obtain ⟨h1, h2⟩ := okE_kid h
  have o0 := h2 0 (by omega)
  have o1 := h2 1 (by omega)
  rw [kid_0] at o0
  rw [kid_1] at o1
  have p0 := (okE_plain o0).1
  have p1 := (okE_plain o1).1
  have e : twoC (DD + 1) (ex a b c n l) nn rn rl = twoO a (evalC DD (List.take 4 l) nn rn rl) (evalC DD (List.take 4 (List.drop 4 l)) nn rn rl) := by
    show twoO a (evalC DD (kid (ex a b c n l) 0) nn rn rl) (evalC DD (kid (ex a b c n l) 1) nn rn rl) = _
    rw [kid_0, kid_1]
  have ro := okSl_ic hr
  rw [e]
  unfold f106_wp
  simp only [map_ic]
  refine ck_i (by simp; omega) (ck_i (by simp; omega) (ck_i (by simp [ic_len, hl]) ?_))
  refine letV_j fun u hu => ?_
  rw [hu]
  refine ck_i (by simp [o0, p0, ro, ics, hl]) ?_
  unfold twoO emptyP
  refine cond_i (fun x => ?_) (fun x => ?_)
  · rw [if_pos (of_decide_eq_true x)]; rfl
  · rw [if_neg (of_decide_eq_false x)]
    refine ck_i (by simp; omega) (ck_i (by simp; omega) ?_)
    refine letV_j fun w hw => ?_
    rw [hw]
    refine ck_i (by simp [o1, p1, ro, ics, hl]) ?_
    exact letV_u rfl
set_option maxHeartbeats 2000000 in
theorem f75_spec (DD : Nat) (a b c : Int) (n : Nat) (l : List Cell) (h : okE (DD + 1) (ex a b c n l) = true) (nn : Bool) (rn : Nat) (rl : List Int) (hr : rl.length = rn * 2) (N : Int) (B : Bool) (D : List Int) (hl : D.length = 49) :
    f75_wp DD a b c n l nn rn (ic .i64 rl) N B (ic .i64 D) (fun r' => r' = evRet (evalC (DD + 1) (ex a b c n l) nn rn rl)) := by
  obtain ⟨h1, h2⟩ := okE_kid h
  have e : evalC (DD + 1) (ex a b c n l) nn rn rl = (if nn = true then ((1, 0), false, false)
      else if a = 1 then (ofP b b, false, false)
      else if a = 2 ∧ 0 ≤ c ∧ c < (rn : Int) then ((rl.getD (c.toNat * 2) 0, rl.getD (c.toNat * 2 + 1) 0), false, false)
      else if a = 3 ∧ n = 1 then negO (evalC DD (List.take 4 l) nn rn rl)
      else if (4 ≤ a ∧ a ≤ 8) ∧ n = 2 then twoC (DD + 1) (ex a b c n l) nn rn rl
      else ((1, 0), false, false)) := by
    show evalO (ex a b c n l) nn rn rl (evalC DD (kid (ex a b c n l) 0) nn rn rl) (evalC DD (kid (ex a b c n l) 1) nn rn rl) = _
    rw [kid_0]; rfl
  have k2 : decide (2 ≤ kN (ex a b c n l)) = decide (2 ≤ n) := rfl
  have ro := okSl_ic hr
  have leaf : ∀ {R : Prop}, (Ret.mk (.tup [(.agg [(.v (.int .i64 1)), (.v (.int .i64 0))]), (.agg [(.v (.bool .false)), (.v (.bool .false))])]) [] : Ret) = evRet ((1, 0), false, false) := fun {R} => rfl
  rw [e]
  unfold f75_wp
  (try delta X75_2); (try delta X75_1); (try delta X75_0)
  simp only [map_ic, k2, h, ro, ics, hl]
  cases nn with
  | true => rfl
  | false =>
    simp only [cond_false, Bool.false_eq_true, if_false]
    by_cases a1 : a = 1
    · subst a1
      rw [if_pos rfl]
      exact letV_u rfl
    rw [if_neg a1, show (a == 1) = false by simpa using a1]
    simp only [cond_false]
    by_cases a2 : a = 2
    · subst a2
      refine cond_i (fun _ => ?_) (fun x => absurd x (by decide))
      refine cond_i (fun x => ?_) (fun x => ?_)
      · have x : c ≥ 0 := of_decide_eq_true x
        refine cond_i (fun y => ?_) (fun y => ?_)
        · have y : c < rn := of_decide_eq_true y
          rw [if_pos ⟨rfl, x, y⟩]
          refine ck_i (by simp; omega) (ck_i (by simp; omega) ?_)
          rfl
        · rw [if_neg (fun z => absurd z.2.2 (of_decide_eq_false y))]; rfl
      · rw [if_neg (fun z => absurd z.2.1 (of_decide_eq_false x))]; rfl
    rw [if_neg (fun z => a2 z.1), show (a == 2) = false by simpa using a2]
    simp only [cond_false]
    by_cases a3 : a = 3
    · subst a3
      by_cases n1 : n = 1
      · subst n1
        have o0 := h2 0 (by omega)
        rw [kid_0] at o0
        have p0 := (okE_plain o0).1
        rw [if_pos ⟨rfl, rfl⟩]
        refine cond_i (fun _ => cond_i (fun _ => ?_) (fun x => absurd x (by decide))) (fun x => absurd x (by decide))
        refine ck_i (by simp; omega) (ck_i (by simp; omega) ?_)
        refine ck_i (by simp) ?_
        refine letV_j fun u hu => ?_
        have hu : evalC DD (List.take 4 l) false rn rl = u := hu
        rw [hu]
        refine ck_i (by simp [o0, p0]) ?_
        exact letV_u rfl
      · rw [if_neg (fun z => n1 z.2), if_neg (by omega), show ((n : Int) == 1) = false by simp; omega]; rfl
    rw [if_neg (fun z => a3 z.1), show (a == 3) = false by simpa using a3]
    simp only [cond_false]
    refine cond_i (fun x => ?_) (fun x => ?_)
    · have x : a ≥ 4 := of_decide_eq_true x
      refine cond_i (fun y => ?_) (fun y => ?_)
      · have y : a ≤ 8 := of_decide_eq_true y
        refine cond_i (fun z => ?_) (fun z => ?_)
        · have z : n = 2 := by simp at z; omega
          rw [if_pos ⟨⟨x, y⟩, z⟩]
          refine ck_i (by simp) ?_
          refine letV_j fun u hu => ?_
          have hu : twoC (DD + 1) (ex a b c n l) false rn rl = u := hu
          rw [hu]
          exact ck_i (by simp; omega) rfl
        · have z : ¬ n = 2 := by simp at z; omega
          rw [if_neg (fun t => z t.2)]; rfl
      · rw [if_neg (fun t => absurd t.1.2 (of_decide_eq_false y))]; rfl
    · rw [if_neg (fun t => absurd t.1.1 (of_decide_eq_false x))]; rfl

theorem eval_ok : ∀ d, (∀ vs r, sum75 d vs = some (true, r) → SoundAt Try.prog 75 vs r) ∧ (∀ vs r, sum106 (d + 1) vs = some (true, r) → SoundAt Try.prog 106 vs r) := by
  have two : ∀ d, (∀ vs r, sum75 d vs = some (true, r) → SoundAt Try.prog 75 vs r) → ∀ vs r, sum106 (d + 1) vs = some (true, r) → SoundAt Try.prog 106 vs r := by
    intro d hd vs r h
    unfold sum106 at h
    split at h
    · rename_i e a
      simp only [Option.some.injEq, Prod.mk.injEq, Bool.and_eq_true] at h
      obtain ⟨⟨⟨h0, h1⟩, h2⟩, rfl⟩ := h
      have hv := okE_agg h0
      obtain ⟨d', hd', a, b, c, n, l, e1, _, _⟩ := okE_elim h0
      obtain ⟨nn, rn, rl, N, B, D, hr, hl, hc, rfl⟩ := num_elim h1
      rw [e1] at h0 h2 hv ⊢
      rw [hv]
      show SoundAt _ _ _ (evRet (twoC (d + 1) (ex a b c n l) nn rn ((ic .i64 rl).map intC)))
      rw [map_ic]
      exact f106_sound d a b c n l _ _ _ _ _ _ (ctx_cons (g := 75) (ctx_cons (g := 44) (ctx_cons (g := 105) (ctx_cons (g := 114) ctx_nil (by kernel_rfl) sum114_ok) (by kernel_rfl) sum105_ok) (by kernel_rfl) sum44_ok) (by kernel_rfl) hd) (f106_spec d a b c n l h0 nn rn rl hr N B D hl h2)
    · cases h
  have one : ∀ d, (∀ vs r, sum75 d vs = some (true, r) → SoundAt Try.prog 75 vs r) → (∀ vs r, sum106 (d + 1) vs = some (true, r) → SoundAt Try.prog 106 vs r) → ∀ vs r, sum75 (d + 1) vs = some (true, r) → SoundAt Try.prog 75 vs r := by
    intro d hd hd2 vs r h
    unfold sum75 at h
    split at h
    · rename_i e a
      simp only [Option.some.injEq, Prod.mk.injEq, Bool.and_eq_true] at h
      obtain ⟨⟨h0, h1⟩, rfl⟩ := h
      have hv := okE_agg h0
      obtain ⟨d', hd', a, b, c, n, l, e1, _, _⟩ := okE_elim h0
      obtain ⟨nn, rn, rl, N, B, D, hr, hl, hc, rfl⟩ := num_elim h1
      rw [e1] at h0 hv ⊢
      rw [hv]
      show SoundAt _ _ _ (evRet (evalC (d + 1) (ex a b c n l) nn rn ((ic .i64 rl).map intC)))
      rw [map_ic]
      exact f75_sound d a b c n l _ _ _ _ _ _ (ctx_cons (g := 30) (ctx_cons (g := 75) (ctx_cons (g := 104) (ctx_cons (g := 105) (ctx_cons (g := 106) (ctx_cons (g := 36) ctx_nil (by kernel_rfl) sum36_ok) (by kernel_rfl) hd2) (by kernel_rfl) sum105_ok) (by kernel_rfl) sum104_ok) (by kernel_rfl) hd) (by kernel_rfl) sum30_ok) (f75_spec d a b c n l h0 nn rn rl hr N B D hl)
    · cases h
  intro d
  induction d with
  | zero =>
    have h0 : ∀ vs r, sum75 0 vs = some (true, r) → SoundAt Try.prog 75 vs r := by
      intro vs r h
      unfold sum75 at h
      split at h
      · simp only [Option.some.injEq, Prod.mk.injEq, Bool.and_eq_true] at h; exact absurd h.1.1 (by unfold okE; simp)
      · cases h
    exact ⟨h0, two 0 h0⟩
  | succ d ih =>
    have h := one d ih.1 ih.2
    exact ⟨h, two (d + 1) h⟩
theorem sum75_ok (d : Nat) : ∀ vs r, sum75 d vs = some (true, r) → SoundAt Try.prog 75 vs r := (eval_ok d).1

end Go.Proofs.Ytgmciihlmgeecaa.Fn
