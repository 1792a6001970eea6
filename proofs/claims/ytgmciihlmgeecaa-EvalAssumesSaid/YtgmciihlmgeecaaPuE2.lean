import Derived.Test.YtgmciihlmgeecaaPuE
import Derived.Test.YtgmciihlmgeecaaWEB
/- Assignments and comparisons: what is told of each is so. Conditions: those that each lemma names. -/
namespace Go.Proofs.Ytgmciihlmgeecaa.Fn
open Go Go.RowKit Go.Proofs.Ytgmciihlmgeecaa.Mt Go.Proofs.Ytgmciihlmgeecaa.Zm
set_option linter.unusedVariables false
set_option linter.unusedSimpArgs false

theorem inM_iff {a : Int} : inM a = true ↔ -4398046511104 ≤ a ∧ a ≤ 4398046511104 := by simp [inM]
theorem inMP_iff {p : Int × Int} : inMP p = true ↔ (-4398046511104 ≤ p.1 ∧ p.1 ≤ 4398046511104) ∧ -4398046511104 ≤ p.2 ∧ p.2 ≤ 4398046511104 := by simp [inMP, inM]
theorem heldF_len {z : Zo} {f i : Int × Int} (h : z.2.2.length = 49) : (heldF z f i).2.2.length = 49 := by
  unfold heldF
  split
  · exact h
  · exact heldZ_len h
theorem belowF_len {z : Zo} {f g : Int × Int} {s : Int} (h : z.2.2.length = 49) : (belowF z f g s).2.2.length = 49 := by
  unfold belowF
  split
  · exact h
  · exact boundZ_len h
theorem compF_len {z : Zo} {k : Int} {f g : Int × Int} (h : z.2.2.length = 49) : (compF z k f g).2.2.length = 49 := by
  unfold compF
  split
  · exact belowF_len (belowF_len h)
  · split
    · exact belowF_len h
    · split
      · exact belowF_len h
      · split
        · exact belowF_len h
        · split
          · exact belowF_len h
          · exact h
theorem numOk_z {z : Zo} : numOk z.2.1 (.sl (capN z.1).toNat (ic .i64 (itvsZ z (capN z.1).toNat))) z = true := by simp [numOk, eqRow]
theorem numOk_el {c : Bool} {rn : Nat} {l : List Int} {z : Zo} (h : numOk c (.sl rn (ic .i64 l)) z = true) : c = z.2.1 ∧ rn = (capN z.1).toNat ∧ l = itvsZ z (capN z.1).toNat := by
  simp only [numOk, eqRow, rN, rL, map_ic, Bool.and_eq_true, beq_iff_eq, decide_eq_true_eq] at h
  exact ⟨h.1, of_decide_eq_true h.2.1, h.2.2⟩
theorem numR_elim {v : CV} (h : okNumR v = true) : ∃ z : Zo, z.2.2.length = 49 ∧ v = .agg (.v (.bool z.2.1) :: .sl (capN z.1).toNat (ic .i64 (itvsZ z (capN z.1).toNat)) :: .v (.int .i64 z.1) :: .v (.bool z.2.1) :: ic .i64 z.2.2) := by
  unfold okNumR at h
  simp only [Bool.and_eq_true] at h
  obtain ⟨h0, h1⟩ := h
  obtain ⟨c, rn, l, n0, b0, D0, hr, hl0, hc0, rfl⟩ := num_elim h0
  simp only [uZ_ic] at h1
  obtain ⟨rfl, rfl, rfl⟩ := numOk_el (c := c) (rn := rn) (l := l) h1
  exact ⟨(n0, c, D0), hl0, rfl⟩

theorem f119_spec (a b s : Int) (h : inMP (a, b) = true) (hs : inM s = true) : f119_wp a b s (fun r' => r' = itRet (a - s, b - s)) := by
  have h := inMP_iff.1 h
  have hs := inM_iff.1 hs
  dsimp only at h
  unfold f119_wp
  rw [w64 (a := a - s) (by omega) (by omega), w64 (a := b - s) (by omega) (by omega)]; rfl
theorem cx119_ok : CtxOk Try.prog cx119.q.ctx := ctx_nil
theorem sum119_ok : ∀ vs r, sum119 vs = some (true, r) → SoundAt Try.prog 119 vs r := by
  intro vs r h
  unfold sum119 at h
  split at h
  · simp only [Option.some.injEq, Prod.mk.injEq, Bool.and_eq_true] at h
    obtain ⟨⟨⟨⟨h0, h1⟩, h2⟩, h3⟩, rfl⟩ := h
    obtain ⟨x0, y0, rfl⟩ := pair_elim h0
    obtain ⟨x1, rfl⟩ := int_elim h1
    (try simp only [zO_ic] at h2)
    (try simp only [zO_ic] at h3)
    (try simp only [zO_ic])
    exact f119_sound _ _ _ cx119_ok (f119_spec x0 y0 x1 h2 h3)
  · cases h
theorem f109_spec (z : Zo) (hl : z.2.2.length = 49) (f0 f1 i0 i1 : Int) (hf : inM f1 = true) (hi : inMP (i0, i1) = true) :
    f109_wp z.2.1 (capN z.1).toNat (ic .i64 (itvsZ z (capN z.1).toNat)) z.1 z.2.1 (ic .i64 z.2.2) f0 f1 i0 i1 (fun r' => r' = numRe (heldF z (f0, f1) (i0, i1))) := by
  have ro := okSl_itvs (z := z) (t := (capN z.1).toNat)
  have lh := heldF_len (f := (f0, f1)) (i := (i0, i1)) hl
  unfold f109_wp
  simp only [map_ic, Prod.eta]
  unfold heldF at lh ⊢
  dsimp only at lh ⊢
  refine cond_i (fun q => ?_) (fun q => ?_)
  · have q : f0 = -1 := by simpa using q
    rw [if_pos q]
    clear q lh
    (repeat ((first | with_reducible apply ck_i | with_reducible apply And.intro); · (first | with_reducible rfl | ((try simp only [ics]) <;> simp [ics, *] <;> omega)))); rfl
  · have q : ¬ f0 = -1 := by simpa using q
    rw [if_neg q] at lh ⊢
    clear q
    (repeat ((first | with_reducible apply ck_i | with_reducible apply And.intro); · (first | with_reducible rfl | ((try simp only [ics]) <;> simp [ics, *] <;> omega))))
    refine letV_j fun u hu => ?_
    rw [hu] at lh ⊢
    clear hu
    (repeat ((first | with_reducible apply ck_i | with_reducible apply And.intro); · (first | with_reducible rfl | ((try simp only [ics]) <;> simp [ics, *] <;> omega)))); rfl
theorem cx109_ok : CtxOk Try.prog cx109.q.ctx := (ctx_cons (g := 119) (ctx_cons (g := 52) ctx_nil (by kernel_rfl) sum52_ok) (by kernel_rfl) sum119_ok)
theorem sum109_ok : ∀ vs r, sum109 vs = some (true, r) → SoundAt Try.prog 109 vs r := by
  intro vs r h
  unfold sum109 at h
  split at h
  · simp only [Option.some.injEq, Prod.mk.injEq, Bool.and_eq_true] at h
    obtain ⟨⟨⟨⟨⟨h0, h1⟩, h2⟩, h3⟩, h4⟩, rfl⟩ := h
    obtain ⟨z, hl, rfl⟩ := numR_elim h0
    obtain ⟨f0, f1, rfl⟩ := pair_elim h1
    obtain ⟨i0, i1, rfl⟩ := pair_elim h2
    simp only [uZ_ic]
    exact f109_sound _ _ _ _ _ _ _ _ _ _ cx109_ok (f109_spec z hl f0 f1 i0 i1 h3 h4)
  · cases h
theorem f120_spec (z : Zo) (hl : z.2.2.length = 49) (f0 f1 g0 g1 s : Int) (hf : inM f1 = true) (hg : inM g1 = true) (hs : inM s = true) :
    f120_wp z.2.1 (capN z.1).toNat (ic .i64 (itvsZ z (capN z.1).toNat)) z.1 z.2.1 (ic .i64 z.2.2) f0 f1 g0 g1 s (fun r' => r' = numRe (belowF z (f0, f1) (g0, g1) s)) := by
  have ro := okSl_itvs (z := z) (t := (capN z.1).toNat)
  have lh := belowF_len (f := (f0, f1)) (g := (g0, g1)) (s := s) hl
  have hf := inM_iff.1 hf
  have hg := inM_iff.1 hg
  have hs := inM_iff.1 hs
  unfold f120_wp
  rw [w64 (a := g1 - f1) (by omega) (by omega), w64 (a := g1 - f1 - s) (by omega) (by omega)]
  simp only [map_ic, Prod.eta]
  unfold belowF at lh ⊢
  dsimp only at lh ⊢
  clear hf hg hs
  refine cond_i (fun q => ?_) (fun q => ?_)
  · have q : f0 = g0 := by simpa using q
    rw [if_pos q]
    clear q lh
    (repeat ((first | with_reducible apply ck_i | with_reducible apply And.intro); · (first | with_reducible rfl | ((try simp only [ics]) <;> simp [ics, *] <;> omega)))); rfl
  · have q : ¬ f0 = g0 := by simpa using q
    rw [if_neg q] at lh ⊢
    clear q
    (repeat ((first | with_reducible apply ck_i | with_reducible apply And.intro); · (first | with_reducible rfl | ((try simp only [ics]) <;> simp [ics, *] <;> omega))))
    refine letV_j fun u hu => ?_
    rw [hu] at lh ⊢
    clear hu
    (repeat ((first | with_reducible apply ck_i | with_reducible apply And.intro); · (first | with_reducible rfl | ((try simp only [ics]) <;> simp [ics, *] <;> omega)))); rfl
theorem cx120_ok : CtxOk Try.prog cx120.q.ctx := (ctx_cons (g := 50) ctx_nil (by kernel_rfl) sum50_ok)
theorem sum120_ok : ∀ vs r, sum120 vs = some (true, r) → SoundAt Try.prog 120 vs r := by
  intro vs r h
  unfold sum120 at h
  split at h
  · simp only [Option.some.injEq, Prod.mk.injEq, Bool.and_eq_true] at h
    obtain ⟨⟨⟨⟨⟨⟨⟨h0, h1⟩, h2⟩, h5⟩, h3⟩, h4⟩, h6⟩, rfl⟩ := h
    obtain ⟨z, hl, rfl⟩ := numR_elim h0
    obtain ⟨f0, f1, rfl⟩ := pair_elim h1
    obtain ⟨g0, g1, rfl⟩ := pair_elim h2
    obtain ⟨s, rfl⟩ := int_elim h5
    simp only [uZ_ic]
    exact f120_sound _ _ _ _ _ _ _ _ _ _ _ cx120_ok (f120_spec z hl f0 f1 g0 g1 s h3 h4 h6)
  · cases h
set_option maxHeartbeats 1000000 in
theorem f110_spec (z : Zo) (hl : z.2.2.length = 49) (k f0 f1 g0 g1 : Int) (hf : inM f1 = true) (hg : inM g1 = true) :
    f110_wp z.2.1 (capN z.1).toNat (ic .i64 (itvsZ z (capN z.1).toNat)) z.1 z.2.1 (ic .i64 z.2.2) k f0 f1 g0 g1 (fun r' => r' = numRe (compF z k (f0, f1) (g0, g1))) := by
  have ro := okSl_itvs (z := z) (t := (capN z.1).toNat)
  have nz := numOk_z (z := z)
  unfold f110_wp
  (try delta X110_1); (try delta X110_0)
  simp only [map_ic, Prod.eta]
  unfold compF
  refine cond_i (fun q => ?_) (fun q => ?_)
  · have q : k = 1 := by simpa using q
    rw [if_pos q]
    clear q
    (repeat ((first | with_reducible apply ck_i | with_reducible apply And.intro); · (first | with_reducible rfl | ((try simp only [ics]) <;> simp [ics, *] <;> omega))))
    refine letV_j fun u hu => ?_
    have lu : u.2.2.length = 49 := by rw [← hu]; exact belowF_len hl
    have ou := okSl_itvs (z := u) (t := (capN u.1).toNat)
    have nu := numOk_z (z := u)
    rw [hu]
    clear hu
    (repeat ((first | with_reducible apply ck_i | with_reducible apply And.intro); · (first | with_reducible rfl | ((try simp only [ics]) <;> simp [ics, *] <;> omega))))
    refine letV_j fun w hw => ?_
    have lw : w.2.2.length = 49 := by rw [← hw]; exact belowF_len lu
    rw [hw]
    clear hw
    (repeat ((first | with_reducible apply ck_i | with_reducible apply And.intro); · (first | with_reducible rfl | ((try simp only [ics]) <;> simp [ics, *] <;> omega)))); rfl
  have q : ¬ k = 1 := by simpa using q
  rw [if_neg q]
  clear q
  refine cond_i (fun q => ?_) (fun q => ?_)
  · have q : k = 3 := by simpa using q
    rw [if_pos q]
    clear q
    (repeat ((first | with_reducible apply ck_i | with_reducible apply And.intro); · (first | with_reducible rfl | ((try simp only [ics]) <;> simp [ics, *] <;> omega))))
    refine letV_j fun u hu => ?_
    have lu : u.2.2.length = 49 := by rw [← hu]; exact belowF_len hl
    rw [hu]
    clear hu
    (repeat ((first | with_reducible apply ck_i | with_reducible apply And.intro); · (first | with_reducible rfl | ((try simp only [ics]) <;> simp [ics, *] <;> omega)))); rfl
  have q : ¬ k = 3 := by simpa using q
  rw [if_neg q]
  clear q
  refine cond_i (fun q => ?_) (fun q => ?_)
  · have q : k = 4 := by simpa using q
    rw [if_pos q]
    clear q
    (repeat ((first | with_reducible apply ck_i | with_reducible apply And.intro); · (first | with_reducible rfl | ((try simp only [ics]) <;> simp [ics, *] <;> omega))))
    refine letV_j fun u hu => ?_
    have lu : u.2.2.length = 49 := by rw [← hu]; exact belowF_len hl
    rw [hu]
    clear hu
    (repeat ((first | with_reducible apply ck_i | with_reducible apply And.intro); · (first | with_reducible rfl | ((try simp only [ics]) <;> simp [ics, *] <;> omega)))); rfl
  have q : ¬ k = 4 := by simpa using q
  rw [if_neg q]
  clear q
  refine cond_i (fun q => ?_) (fun q => ?_)
  · have q : k = 5 := by simpa using q
    rw [if_pos q]
    clear q
    (repeat ((first | with_reducible apply ck_i | with_reducible apply And.intro); · (first | with_reducible rfl | ((try simp only [ics]) <;> simp [ics, *] <;> omega))))
    refine letV_j fun u hu => ?_
    have lu : u.2.2.length = 49 := by rw [← hu]; exact belowF_len hl
    rw [hu]
    clear hu
    (repeat ((first | with_reducible apply ck_i | with_reducible apply And.intro); · (first | with_reducible rfl | ((try simp only [ics]) <;> simp [ics, *] <;> omega)))); rfl
  have q : ¬ k = 5 := by simpa using q
  rw [if_neg q]
  clear q
  refine cond_i (fun q => ?_) (fun q => ?_)
  · have q : k = 6 := by simpa using q
    rw [if_pos q]
    clear q
    (repeat ((first | with_reducible apply ck_i | with_reducible apply And.intro); · (first | with_reducible rfl | ((try simp only [ics]) <;> simp [ics, *] <;> omega))))
    refine letV_j fun u hu => ?_
    have lu : u.2.2.length = 49 := by rw [← hu]; exact belowF_len hl
    rw [hu]
    clear hu
    (repeat ((first | with_reducible apply ck_i | with_reducible apply And.intro); · (first | with_reducible rfl | ((try simp only [ics]) <;> simp [ics, *] <;> omega)))); rfl
  have q : ¬ k = 6 := by simpa using q
  rw [if_neg q]
  clear q
  (repeat ((first | with_reducible apply ck_i | with_reducible apply And.intro); · (first | with_reducible rfl | ((try simp only [ics]) <;> simp [ics, *] <;> omega)))); rfl
theorem cx110_ok : CtxOk Try.prog cx110.q.ctx := (ctx_cons (g := 120) ctx_nil (by kernel_rfl) sum120_ok)
theorem sum110_ok : ∀ vs r, sum110 vs = some (true, r) → SoundAt Try.prog 110 vs r := by
  intro vs r h
  unfold sum110 at h
  split at h
  · simp only [Option.some.injEq, Prod.mk.injEq, Bool.and_eq_true] at h
    obtain ⟨⟨⟨⟨⟨⟨h0, h5⟩, h1⟩, h2⟩, h3⟩, h4⟩, rfl⟩ := h
    obtain ⟨z, hl, rfl⟩ := numR_elim h0
    obtain ⟨k, rfl⟩ := int_elim h5
    obtain ⟨f0, f1, rfl⟩ := pair_elim h1
    obtain ⟨g0, g1, rfl⟩ := pair_elim h2
    simp only [uZ_ic]
    exact f110_sound _ _ _ _ _ _ _ _ _ _ _ cx110_ok (f110_spec z hl k f0 f1 g0 g1 h3 h4)
  · cases h

theorem f107_spec (DD : Nat) (nn : Bool) (rn : Nat) (rl : List Int) (hr : rl.length = rn * 2) (N : Int) (B : Bool) (D : List Int) (hl : D.length = 49) (k a b c : Int) (n : Nat) (l : List Cell) (a' b' c' : Int) (n' : Nat) (l' : List Cell)
    (h : okE DD (ex a b c n l) = true) (h' : okE DD (ex a' b' c' n' l') = true) :
    f107_wp DD nn rn (ic .i64 rl) N B (ic .i64 D) k a b c n l a' b' c' n' l' (fun r' => r' = siRet (sideO (evalC DD (ex a b c n l) nn rn rl) (evalC DD (ex a' b' c' n' l') nn rn rl))) := by
  have ro := okSl_ic hr
  unfold f107_wp
  simp only [map_ic]
  refine ck_i (by simp [ic_len, hl]) ?_
  refine letV_j fun u hu => ?_
  have hu : evalC DD (ex a b c n l) nn rn rl = u := hu
  rw [hu]
  refine ck_i (by simp [h, ro, ics, hl]) ?_
  unfold sideO emptyP
  refine cond_i (fun x => ?_) (fun x => ?_)
  · rw [if_pos (of_decide_eq_true x)]; rfl
  · rw [if_neg (of_decide_eq_false x)]
    refine letV_j fun w hw => ?_
    have hw : evalC DD (ex a' b' c' n' l') nn rn rl = w := hw
    rw [hw]
    refine ck_i (by simp [h', ro, ics, hl]) rfl
theorem cx107_ok (d : Nat) : CtxOk Try.prog (cx107 d).q.ctx := ctx_cons (g := 75) (ctx_cons (g := 44) (ctx_cons (g := 36) (ctx_cons (g := 105) ctx_nil (by kernel_rfl) sum105_ok) (by kernel_rfl) sum36_ok) (by kernel_rfl) sum44_ok) (by kernel_rfl) (sum75_ok d)
theorem cond_elim {d : Nat} {v : CV} (h : okCond d v = true) : ∃ (k a b c : Int) (n : Nat) (l : List Cell) (a' b' c' : Int) (n' : Nat) (l' : List Cell), v = .agg (.v (.int .i64 k) :: (ex a b c n l ++ ex a' b' c' n' l')) ∧ okE d (ex a b c n l) = true ∧ okE d (ex a' b' c' n' l') = true := by
  unfold okCond cL cR at h
  simp only [Bool.and_eq_true, beq_iff_eq] at h
  obtain ⟨⟨⟨h0, h1⟩, h2⟩, h3⟩ := h
  obtain ⟨_, _, a, b, c, n, l, e1, _⟩ := okE_elim h1
  obtain ⟨_, _, a', b', c', n', l', e2, _⟩ := okE_elim h2
  rw [e1] at h1
  rw [e2] at h2
  cases v with
  | agg cs =>
    have h3 : cs.length = 9 := h3
    have e1 : (cs.drop 1).take 4 = ex a b c n l := e1
    have e2 : (cs.drop 5).take 4 = ex a' b' c' n' l' := e2
    match cs, h3 with
    | [x0, x1, x2, x3, x4, x5, x6, x7, x8], _ =>
      obtain ⟨k, hk⟩ := int_elim h0
      simp only [cellA, cellsA, List.getD_cons_zero, CV.one.injEq] at hk
      simp only [List.drop_succ_cons, List.drop_zero, List.take_succ_cons, List.take_zero, ex, List.cons.injEq, and_true] at e1 e2
      obtain ⟨rfl, rfl, rfl, rfl⟩ := e1
      obtain ⟨rfl, rfl, rfl, rfl⟩ := e2
      subst hk
      exact ⟨k, a, b, c, n, l, a', b', c', n', l', rfl, h1, h2⟩
  | _ => cases h3
theorem sum107_ok (d : Nat) : ∀ vs r, sum107 d vs = some (true, r) → SoundAt Try.prog 107 vs r := by
  intro vs r h
  unfold sum107 at h
  split at h
  · simp only [Option.some.injEq, Prod.mk.injEq, Bool.and_eq_true] at h
    obtain ⟨⟨h0, h1⟩, rfl⟩ := h
    obtain ⟨nn, rn, rl, N, B, D, hr, hl, hc, rfl⟩ := num_elim h0
    obtain ⟨k, a, b, c, n, l, a', b', c', n', l', rfl, o1, o2⟩ := cond_elim h1
    show SoundAt _ _ _ (siRet (sideO (evalC d (ex a b c n l) nn rn ((ic .i64 rl).map intC)) (evalC d (ex a' b' c' n' l') nn rn ((ic .i64 rl).map intC))))
    rw [map_ic]
    exact f107_sound d _ _ _ _ _ _ _ _ _ _ _ _ _ _ _ _ _ (cx107_ok d) (f107_spec d nn rn rl hr N B D hl k a b c n l a' b' c' n' l' o1 o2)
  · cases h

theorem mI_in {p q : Int × Int} (h : inP p = true) : (mI p q).1 > (mI p q).2 ∨ inP (mI p q) = true := by
  have h := inP_iff.1 h
  rw [inP_iff]
  unfold mI normP
  split
  · left; dsimp only; omega
  · split
    · left; dsimp only; omega
    · right; dsimp only; omega
theorem un_in {p q : Int × Int} (h : inP p = true) : (unequalP p q).1 > (unequalP p q).2 ∨ inP (unequalP p q) = true := by
  have h := inP_iff.1 h
  rw [inP_iff]
  unfold unequalP
  split
  · right; exact h
  · have hA : p.1 ≤ (if p.1 = q.1 then p.1 + 1 else p.1) ∧ (if p.1 = q.1 then p.1 + 1 else p.1) ≤ p.1 + 1 := by split <;> omega
    have hB : p.2 - 1 ≤ (if p.2 = q.1 then p.2 - 1 else p.2) ∧ (if p.2 = q.1 then p.2 - 1 else p.2) ≤ p.2 := by split <;> omega
    generalize (if p.1 = q.1 then p.1 + 1 else p.1) = A at *
    generalize (if p.2 = q.1 then p.2 - 1 else p.2) = B at *
    unfold normP
    split
    · left; decide
    · right; dsimp only; omega
theorem test_in (k : Int) (p q : Int × Int) : ((testP k p q).1.1 > (testP k p q).1.2 ∨ inP (testP k p q).1 = true) ∧ ((testP k p q).2.1 > (testP k p q).2.2 ∨ inP (testP k p q).2 = true) := by
  unfold testP
  split
  · exact ⟨.inl (by decide), .inl (by decide)⟩
  · rename_i h
    have h1 := (mI_all p).resolve_left fun e => h (.inl e)
    have h2 := (mI_all q).resolve_left fun e => h (.inr e)
    generalize mI p allI = p at *
    generalize mI q allI = q at *
    unfold testQ
    split
    · exact ⟨mI_in h1, mI_in h1⟩
    · split
      · exact ⟨un_in h1, un_in h2⟩
      · split
        · exact ⟨mI_in h1, mI_in h2⟩
        · split
          · exact ⟨mI_in h1, mI_in h2⟩
          · split
            · exact ⟨mI_in h1, mI_in h2⟩
            · split
              · exact ⟨mI_in h1, mI_in h2⟩
              · exact ⟨.inl (by decide), .inl (by decide)⟩

theorem inM_P {p : Int × Int} (h : inP p = true) : inMP p = true := by
  have h := inP_iff.1 h
  exact inMP_iff.2 (by omega)
theorem lin_M {d : Nat} {cs : List Cell} (h : (linC d cs).2 = true) : inM (linC d cs).1.2 = true := by
  have := linC_far d cs h
  exact inM_iff.2 (by omega)
set_option maxHeartbeats 2000000 in
theorem f76_spec (DD : Nat) (z : Zo) (hl : z.2.2.length = 49) (k a b c : Int) (n : Nat) (l : List Cell) (a' b' c' : Int) (n' : Nat) (l' : List Cell) (h : okE DD (ex a b c n l) = true) (h' : okE DD (ex a' b' c' n' l') = true) (S : (Int × Int) × (Int × Int) × Bool × Bool)
    (hS : sideO (evalC DD (ex a b c n l) z.2.1 (capN z.1).toNat (itvsZ z (capN z.1).toNat)) (evalC DD (ex a' b' c' n' l') z.2.1 (capN z.1).toNat (itvsZ z (capN z.1).toNat)) = S) :
    f76_wp DD z.2.1 (capN z.1).toNat (ic .i64 (itvsZ z (capN z.1).toNat)) z.1 z.2.1 (ic .i64 z.2.2) k a b c n l a' b' c' n' l'
      (fun r' => r' = asRet (assZ z (capN z.1).toNat k (testP k S.1 S.2.1) (linC DD (ex a b c n l)) (linC DD (ex a' b' c' n' l'))) S.2.2) := by
  have ro := okSl_itvs (z := z) (t := (capN z.1).toNat)
  have nz := numOk_z (z := z)
  unfold f76_wp
  (try delta X76_1); (try delta X76_0)
  simp only [map_ic, Prod.eta]
  refine ck_i (by simp [ic_len, hl]) ?_
  refine letV_j fun u hu => ?_
  have hu : sideO (evalC DD (ex a b c n l) z.2.1 (capN z.1).toNat (itvsZ z (capN z.1).toNat)) (evalC DD (ex a' b' c' n' l') z.2.1 (capN z.1).toNat (itvsZ z (capN z.1).toNat)) = u := hu
  obtain rfl : S = u := by rw [← hS, ← hu]
  clear hS hu
  refine ck_i (by simp [h, h', ro, ics, hl]) ?_
  have ti := test_in k S.1 S.2.1
  refine letV_j fun t ht => ?_
  have ht : testP k S.1 S.2.1 = t := ht
  rw [ht] at ti ⊢
  clear ht
  unfold assZ emptyP
  refine cond_i (fun q => ?_) (fun q => ?_)
  · rw [if_pos (.inl (of_decide_eq_true q))]
    refine letV_j fun w hw => ?_
    rw [hw, rep49, show zeroL = w.2.2 by rw [← hw]; rfl]; rfl
  have q := of_decide_eq_false q
  have t1 := inM_P (ti.1.resolve_left q)
  refine cond_i (fun q2 => ?_) (fun q2 => ?_)
  · rw [if_pos (.inr (of_decide_eq_true q2))]
    refine letV_j fun w hw => ?_
    rw [hw, rep49, show zeroL = w.2.2 by rw [← hw]; rfl]; rfl
  have q2 := of_decide_eq_false q2
  have t2 := inM_P (ti.2.resolve_left q2)
  rw [if_neg (by rintro (x | x); exact q x; exact q2 x)]
  clear q q2 ti
  have f1 := lin_M (d := DD) (cs := ex a b c n l)
  have g1 := lin_M (d := DD) (cs := ex a' b' c' n' l')
  refine letV_j fun f hf => ?_
  have hf : linC DD (ex a b c n l) = f := hf
  rw [hf] at f1 ⊢
  refine ck_i (by simp [h]) ?_
  refine letV_j fun g hg => ?_
  have hg : linC DD (ex a' b' c' n' l') = g := hg
  rw [hg] at g1 ⊢
  refine ck_i (by simp [h']) ?_
  clear hf hg h h'
  obtain ⟨f, fb⟩ := f
  obtain ⟨g, gb⟩ := g
  dsimp only at f1 g1 ⊢
  cases fb with
  | true =>
    have f1 := f1 rfl
    simp only [cond_true, if_true, true_and]
    refine letV_j fun z1 h1 => ?_
    have l1 : z1.2.2.length = 49 := by rw [← h1]; exact heldF_len hl
    have o1 := okSl_itvs (z := z1) (t := (capN z1.1).toNat)
    have n1 := numOk_z (z := z1)
    rw [h1]
    clear h1
    (repeat ((first | with_reducible apply ck_i | with_reducible apply And.intro); · (first | with_reducible rfl | ((try simp only [ics]) <;> simp [ics, *] <;> omega))))
    cases gb with
    | true =>
      have g1 := g1 rfl
      simp only [cond_true, if_true]
      (repeat ((first | with_reducible apply ck_i | with_reducible apply And.intro); · (first | with_reducible rfl | ((try simp only [ics]) <;> simp [ics, *] <;> omega))))
      refine letV_j fun z2 h2 => ?_
      have l2 : z2.2.2.length = 49 := by rw [← h2]; exact heldF_len l1
      have o2 := okSl_itvs (z := z2) (t := (capN z2.1).toNat)
      have n2 := numOk_z (z := z2)
      rw [h2]
      clear h2
      (repeat ((first | with_reducible apply ck_i | with_reducible apply And.intro); · (first | with_reducible rfl | ((try simp only [ics]) <;> simp [ics, *] <;> omega))))
      refine letV_j fun z3 h3 => ?_
      have l3 : z3.2.2.length = 49 := by rw [← h3]; exact compF_len l2
      rw [h3]
      clear h3
      (repeat ((first | with_reducible apply ck_i | with_reducible apply And.intro); · (first | with_reducible rfl | ((try simp only [ics]) <;> simp [ics, *] <;> omega)))); rfl
    | false =>
      simp only [cond_false, Bool.false_eq_true, if_false]
      (repeat ((first | with_reducible apply ck_i | with_reducible apply And.intro); · (first | with_reducible rfl | ((try simp only [ics]) <;> simp [ics, *] <;> omega)))); rfl
  | false =>
    simp only [cond_false, Bool.false_eq_true, if_false, false_and]
    cases gb with
    | true =>
      have g1 := g1 rfl
      simp only [cond_true, if_true]
      refine letV_j fun z2 h2 => ?_
      have l2 : z2.2.2.length = 49 := by rw [← h2]; exact heldF_len hl
      rw [h2]
      clear h2
      (repeat ((first | with_reducible apply ck_i | with_reducible apply And.intro); · (first | with_reducible rfl | ((try simp only [ics]) <;> simp [ics, *] <;> omega)))); rfl
    | false =>
      simp only [cond_false, Bool.false_eq_true, if_false]
      (repeat ((first | with_reducible apply ck_i | with_reducible apply And.intro); · (first | with_reducible rfl | ((try simp only [ics]) <;> simp [ics, *] <;> omega)))); rfl
theorem cx76_ok (d : Nat) : CtxOk Try.prog (cx76 d).q.ctx := ctx_cons (g := 107) (ctx_cons (g := 108) (ctx_cons (g := 44) (ctx_cons (g := 57) (ctx_cons (g := 103) (ctx_cons (g := 109) (ctx_cons (g := 110) ctx_nil (by kernel_rfl) sum110_ok) (by kernel_rfl) sum109_ok) (by kernel_rfl) (sum103_ok d)) (by kernel_rfl) sum57_ok) (by kernel_rfl) sum44_ok) (by kernel_rfl) sum108_ok) (by kernel_rfl) (sum107_ok d)
theorem sum76_ok (d : Nat) : ∀ vs r, sum76 d vs = some (true, r) → SoundAt Try.prog 76 vs r := by
  intro vs r h
  unfold sum76 at h
  split at h
  · simp only [Option.some.injEq, Prod.mk.injEq, Bool.and_eq_true] at h
    obtain ⟨⟨h0, h1⟩, rfl⟩ := h
    obtain ⟨z, hl, rfl⟩ := numR_elim h0
    obtain ⟨k, a, b, c, n, l, a', b', c', n', l', rfl, o1, o2⟩ := cond_elim h1
    have e : (ic .i64 (itvsZ z (capN z.1).toNat)).map intC = itvsZ z (capN z.1).toNat := map_ic
    have s := f76_sound d _ _ _ _ _ _ _ _ _ _ _ _ _ _ _ _ _ (cx76_ok d) (f76_spec d z hl k a b c n l a' b' c' n' l' o1 o2 _ rfl)
    rw [uZ_ic]
    unfold sideC
    have e2 : ∀ (x : CV), rL (cellA (.agg (.v (.bool z.2.1) :: .sl (capN z.1).toNat (ic .i64 (itvsZ z (capN z.1).toNat)) :: .v (.int .i64 z.1) :: .v (.bool z.2.1) :: ic .i64 z.2.2)) 1) = itvsZ z (capN z.1).toNat := fun _ => e
    rw [e2 (.one .dead)]
    exact s
  · cases h

end Go.Proofs.Ytgmciihlmgeecaa.Fn
