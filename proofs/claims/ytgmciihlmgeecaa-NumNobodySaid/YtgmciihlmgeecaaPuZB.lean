import Derived.Test.YtgmciihlmgeecaaPuZA
import Derived.Test.YtgmciihlmgeecaaWZB
/- Functions of two zones: what is told of each is so. Conditions: those that each lemma names. -/
namespace Go.Proofs.Ytgmciihlmgeecaa.Fn
open Go Go.RowKit Go.Proofs.Ytgmciihlmgeecaa.Mt Go.Proofs.Ytgmciihlmgeecaa.Zm
set_option linter.unusedVariables false
set_option linter.unusedSimpArgs false
theorem f101_spec (a b : Int) : f101_wp a b (fun r' => r' = inRet (max a b)) := by
  unfold f101_wp
  simp only [min_if, max_if]
  show _ = inRet _
  rw [Int.max_comm]; rfl
theorem cx101_ok : CtxOk Try.prog cx101.q.ctx := ctx_nil
theorem sum101_ok : ∀ vs r, sum101 vs = some (true, r) → SoundAt Try.prog 101 vs r := by
  intro vs r h
  unfold sum101 at h
  split at h
  · simp only [Option.some.injEq, Prod.mk.injEq, Bool.and_eq_true] at h
    obtain ⟨⟨h0, h1⟩, rfl⟩ := h
    obtain ⟨x0, rfl⟩ := int_elim h0
    obtain ⟨x1, rfl⟩ := int_elim h1
    (try simp only [zO_ic])
    exact f101_sound _ _ cx101_ok (f101_spec x0 x1)
  · cases h
theorem f102_spec (a b : Int) : f102_wp a b (fun r' => r' = inRet (keptP a b)) := by
  unfold f102_wp keptP
  refine cond_i (fun q => ?_) (fun q => ?_)
  · rw [if_pos (of_decide_eq_true q)]; rfl
  · rw [if_neg (of_decide_eq_false q)]; rfl
theorem cx102_ok : CtxOk Try.prog cx102.q.ctx := ctx_nil
theorem sum102_ok : ∀ vs r, sum102 vs = some (true, r) → SoundAt Try.prog 102 vs r := by
  intro vs r h
  unfold sum102 at h
  split at h
  · simp only [Option.some.injEq, Prod.mk.injEq, Bool.and_eq_true] at h
    obtain ⟨⟨h0, h1⟩, rfl⟩ := h
    obtain ⟨x0, rfl⟩ := int_elim h0
    obtain ⟨x1, rfl⟩ := int_elim h1
    (try simp only [zO_ic])
    exact f102_sound _ _ cx102_ok (f102_spec x0 x1)
  · cases h
theorem f96_spec (n : Int) (b : Bool) (D : List Int) (hl : D.length = 49) (n2 : Int) (b2 : Bool) (D2 : List Int) (hl2 : D2.length = 49) : f96_wp n b (ic .i64 D) n2 b2 (ic .i64 D2) (fun r' => r' = boRet (alikeZ (n, b, D) (n2, b2, D2))) := by
  unfold f96_wp alikeZ
  refine cond_i (fun q => ?_) (fun q => ?_)
  · have q : n = n2 := by simpa using q
    simp [q, boRet]
  · have q : ¬ n = n2 := by simpa using q
    simp [q, boRet]
theorem cx96_ok : CtxOk Try.prog cx96.q.ctx := (ctx_cons (g := 91) ctx_nil (by kernel_rfl) sum91_ok)
theorem sum96_ok : ∀ vs r, sum96 vs = some (true, r) → SoundAt Try.prog 96 vs r := by
  intro vs r h
  unfold sum96 at h
  split at h
  · simp only [Option.some.injEq, Prod.mk.injEq, Bool.and_eq_true] at h
    obtain ⟨⟨h0, h1⟩, rfl⟩ := h
    obtain ⟨n0, b0, D0, hl0, hc0, rfl⟩ := zone_elim h0
    obtain ⟨n1, b1, D1, hl1, hc1, rfl⟩ := zone_elim h1
    (try simp only [zO_ic])
    exact f96_sound _ _ _ _ _ _ cx96_ok (f96_spec n0 b0 D0 hl0 n1 b1 D1 hl1)
  · cases h
theorem f47_spec (n : Int) (b : Bool) (D : List Int) (hl : D.length = 49) (n2 : Int) (b2 : Bool) (D2 : List Int) (hl2 : D2.length = 49) : f47_wp n b (ic .i64 D) n2 b2 (ic .i64 D2) (fun r' => r' = boRet (withinZ (n, b, D) (n2, b2, D2))) := by
  unfold f47_wp
  (try delta X47_0)
  simp only [take_ic hl, map_ic, row7]
  (repeat ((first | with_reducible apply ck_i | with_reducible apply And.intro); · (first | with_reducible rfl | ((try simp only [closeZ_len, closeR_len, forT_len, movT_len, ownT_len, min_if, max_if, mkD_len, movZ_len, forgetR_len, closeZ_fst, closeR_fst, forgetR_fst, ics]) <;> simp [closeZ_len, closeR_len, forT_len, movT_len, ownT_len, min_if, max_if, mkD_len, movZ_len, forgetR_len, closeZ_fst, closeR_fst, forgetR_fst, ics, *] <;> omega))))
  refine cond_i (fun q => ?_) (fun q => ?_)
  · have q : alikeZ (n, b, D) (n2, b2, D2) = false := by simpa using q
    unfold withinZ; rw [q]; rfl
  · have q : alikeZ (n, b, D) (n2, b2, D2) = true := by simpa using q
    refine cond_i (fun q1 => ?_) (fun q1 => ?_)
    · unfold withinZ; rw [q, q1]; rfl
    · refine cond_i (fun q2 => ?_) (fun q2 => ?_)
      · unfold withinZ; rw [q, q1, q2]; rfl
      · subst q1 q2
        have hf : withinZ (n, false, D) (n2, false, D2) = true ↔ ∀ i j : Nat, i < 7 → j < 7 → g D i j ≤ g D2 i j := by
          unfold withinZ; rw [q]
          simp only [Bool.not_true, Bool.false_eq_true, if_false, all7, decide_eq_true_eq]
        (repeat ((first | with_reducible apply ck_i | with_reducible apply And.intro); · (first | with_reducible rfl | ((try simp only [closeZ_len, closeR_len, forT_len, movT_len, ownT_len, min_if, max_if, mkD_len, movZ_len, forgetR_len, closeZ_fst, closeR_fst, forgetR_fst, ics]) <;> simp [closeZ_len, closeR_len, forT_len, movT_len, ownT_len, min_if, max_if, mkD_len, movZ_len, forgetR_len, closeZ_fst, closeR_fst, forgetR_fst, ics, *] <;> omega))))
        refine LoopP.ind (I := fun z => 0 ≤ z ∧ z ≤ 7 ∧ ∀ i j : Nat, (i : Int) < z → j < 7 → g D i j ≤ g D2 i j) (μ := fun z => (7 - z).toNat) ?_ ⟨by omega, by omega, fun i j hi _ => absurd hi (by omega)⟩
        rintro i k0 ⟨i1, i2, i3⟩ hk
        refine cond_i (fun q1 => ?_) (fun q1 => ?_)
        · have q1 := of_decide_eq_true q1
          (repeat ((first | with_reducible apply ck_i | with_reducible apply And.intro); · (first | with_reducible rfl | ((try simp only [closeZ_len, closeR_len, forT_len, movT_len, ownT_len, min_if, max_if, mkD_len, movZ_len, forgetR_len, closeZ_fst, closeR_fst, forgetR_fst, ics]) <;> simp [closeZ_len, closeR_len, forT_len, movT_len, ownT_len, min_if, max_if, mkD_len, movZ_len, forgetR_len, closeZ_fst, closeR_fst, forgetR_fst, ics, *] <;> omega))))
          refine LoopP.ind (I := fun z => 0 ≤ z ∧ z ≤ 7 ∧ ∀ j : Nat, (j : Int) < z → g D i.toNat j ≤ g D2 i.toNat j) (μ := fun z => (7 - z).toNat) ?_ ⟨by omega, by omega, fun i hi => absurd hi (by omega)⟩
          rintro j k1 ⟨j1, j2, j3⟩ hk1
          refine cond_i (fun q4 => ?_) (fun q4 => ?_)
          · have q4 := of_decide_eq_true q4
            simp only [closeZ_len, closeR_len, forT_len, movT_len, ownT_len, min_if, max_if, mkD_len, movZ_len, forgetR_len, closeZ_fst, closeR_fst, forgetR_fst, ics, g_row (D := D) (i := i.toNat) (j := j.toNat) (by omega)]
            have lr := rowOf_len (D := D) (i := i.toNat)
            (repeat ((first | with_reducible apply ck_i | with_reducible apply And.intro); · (first | with_reducible rfl | ((try simp only [closeZ_len, closeR_len, forT_len, movT_len, ownT_len, min_if, max_if, mkD_len, movZ_len, forgetR_len, closeZ_fst, closeR_fst, forgetR_fst, ics]) <;> simp [closeZ_len, closeR_len, forT_len, movT_len, ownT_len, min_if, max_if, mkD_len, movZ_len, forgetR_len, closeZ_fst, closeR_fst, forgetR_fst, ics, *] <;> omega))))
            refine cond_i (fun q7 => ?_) (fun q7 => ?_)
            · have q7 := of_decide_eq_true q7
              cases e : withinZ (n, false, D) (n2, false, D2) with
              | false => rfl
              | true =>
                have := hf.1 e i.toNat j.toNat (by omega) (by omega)
                omega
            · have q7 := of_decide_eq_false q7
              rw [wr1 (by omega) (by omega)]
              refine And.intro (by (first | with_reducible rfl | ((try simp only [closeZ_len, closeR_len, forT_len, movT_len, ownT_len, min_if, max_if, mkD_len, movZ_len, forgetR_len, closeZ_fst, closeR_fst, forgetR_fst, ics]) <;> simp [closeZ_len, closeR_len, forT_len, movT_len, ownT_len, min_if, max_if, mkD_len, movZ_len, forgetR_len, closeZ_fst, closeR_fst, forgetR_fst, ics, *] <;> omega))) (hk1 _ ⟨by omega, by omega, fun t ht => ?_⟩ (by omega))
              by_cases e : (t : Int) < j
              · exact j3 t e
              · obtain rfl : t = j.toNat := by omega
                omega
          · have q4 := of_decide_eq_false q4
            rw [wr1 (by omega) (by omega)]
            refine And.intro (by (first | with_reducible rfl | ((try simp only [closeZ_len, closeR_len, forT_len, movT_len, ownT_len, min_if, max_if, mkD_len, movZ_len, forgetR_len, closeZ_fst, closeR_fst, forgetR_fst, ics]) <;> simp [closeZ_len, closeR_len, forT_len, movT_len, ownT_len, min_if, max_if, mkD_len, movZ_len, forgetR_len, closeZ_fst, closeR_fst, forgetR_fst, ics, *] <;> omega))) (hk _ ⟨by omega, by omega, fun t s ht hs => ?_⟩ (by omega))
            by_cases e : (t : Int) < i
            · exact i3 t s e hs
            · obtain rfl : t = i.toNat := by omega
              exact j3 s (by omega)
        · have q1 := of_decide_eq_false q1
          rw [hf.2 fun t s ht hs => i3 t s (by omega) hs]; rfl
theorem cx47_ok : CtxOk Try.prog cx47.q.ctx := (ctx_cons (g := 96) ctx_nil (by kernel_rfl) sum96_ok)
theorem sum47_ok : ∀ vs r, sum47 vs = some (true, r) → SoundAt Try.prog 47 vs r := by
  intro vs r h
  unfold sum47 at h
  split at h
  · simp only [Option.some.injEq, Prod.mk.injEq, Bool.and_eq_true] at h
    obtain ⟨⟨h0, h1⟩, rfl⟩ := h
    obtain ⟨n0, b0, D0, hl0, hc0, rfl⟩ := zone_elim h0
    obtain ⟨n1, b1, D1, hl1, hc1, rfl⟩ := zone_elim h1
    (try simp only [zO_ic])
    exact f47_sound _ _ _ _ _ _ cx47_ok (f47_spec n0 b0 D0 hl0 n1 b1 D1 hl1)
  · cases h
theorem f100_spec (n : Int) (b : Bool) (D : List Int) (hl : D.length = 49) (n2 : Int) (b2 : Bool) (D2 : List Int) (hl2 : D2.length = 49) : f100_wp n b (ic .i64 D) n2 b2 (ic .i64 D2) (fun r' => r' = zRe (joinZ (n, b, D) (n2, b2, D2))) := by
  unfold f100_wp
  (try delta X100_1)
  (try delta X100_0)
  simp only [take_ic hl, map_ic, row7]
  (repeat ((first | with_reducible apply ck_i | with_reducible apply And.intro); · (first | with_reducible rfl | ((try simp only [closeZ_len, closeR_len, min_if, max_if, mkD_len, topZ_len, topR_len, boundR_len, ics]) <;> simp [closeZ_len, closeR_len, min_if, max_if, mkD_len, topZ_len, topR_len, boundR_len, ics, *] <;> omega))))
  refine cond_i (fun q => ?_) (fun q => ?_)
  · have q : alikeZ (n, b, D) (n2, b2, D2) = false := by simpa using q
    have e : joinZ (n, b, D) (n2, b2, D2) = (n, b, D) := by unfold joinZ; rw [q]; rfl
    rw [e]
    (repeat ((first | with_reducible apply ck_i | with_reducible apply And.intro); · (first | with_reducible rfl | ((try simp only [closeZ_len, closeR_len, min_if, max_if, mkD_len, topZ_len, topR_len, boundR_len, ics]) <;> simp [closeZ_len, closeR_len, min_if, max_if, mkD_len, topZ_len, topR_len, boundR_len, ics, *] <;> omega)))); rfl
  · have q : alikeZ (n, b, D) (n2, b2, D2) = true := by simpa using q
    refine cond_i (fun q1 => ?_) (fun q1 => ?_)
    · have e : joinZ (n, b, D) (n2, b2, D2) = (n, b, D) := by unfold joinZ; rw [q, q1]; rfl
      rw [e]
      (repeat ((first | with_reducible apply ck_i | with_reducible apply And.intro); · (first | with_reducible rfl | ((try simp only [closeZ_len, closeR_len, min_if, max_if, mkD_len, topZ_len, topR_len, boundR_len, ics]) <;> simp [closeZ_len, closeR_len, min_if, max_if, mkD_len, topZ_len, topR_len, boundR_len, ics, *] <;> omega)))); rfl
    · refine cond_i (fun q2 => ?_) (fun q2 => ?_)
      · have e : joinZ (n, b, D) (n2, b2, D2) = (n2, b2, D2) := by unfold joinZ; rw [q, q1, q2]; rfl
        rw [e]
        (repeat ((first | with_reducible apply ck_i | with_reducible apply And.intro); · (first | with_reducible rfl | ((try simp only [closeZ_len, closeR_len, min_if, max_if, mkD_len, topZ_len, topR_len, boundR_len, ics]) <;> simp [closeZ_len, closeR_len, min_if, max_if, mkD_len, topZ_len, topR_len, boundR_len, ics, *] <;> omega)))); rfl
      · have e : joinZ (n, b, D) (n2, b2, D2) = (n, b, mkD fun i j => max (g D i j) (g D2 i j)) := by unfold joinZ; rw [q, q1, q2]; rfl
        rw [e]
        (repeat ((first | with_reducible apply ck_i | with_reducible apply And.intro); · (first | with_reducible rfl | ((try simp only [closeZ_len, closeR_len, min_if, max_if, mkD_len, topZ_len, topR_len, boundR_len, ics]) <;> simp [closeZ_len, closeR_len, min_if, max_if, mkD_len, topZ_len, topR_len, boundR_len, ics, *] <;> omega))))
        have e0 := parD_0 hl (fun i j => max (g D i j) (g D2 i j))
        refine LoopP.ind (I := fun z => 0 ≤ z.1 ∧ z.1 ≤ 7 ∧ z.2 = ic .i64 (parD (fun i j => max (g D i j) (g D2 i j)) (g D) z.1.toNat 0)) (μ := fun z => (7 - z.1).toNat) ?_ ⟨by dsimp only; omega, by dsimp only; omega, congrArg _ e0⟩
        clear e0
        rintro ⟨i, cs⟩ k0 ⟨i1, i2, i3⟩ hk
        dsimp only at i1 i2 i3 ⊢
        subst i3
        refine cond_i (fun q1 => ?_) (fun q1 => ?_)
        · have q1 := of_decide_eq_true q1
          (repeat ((first | with_reducible apply ck_i | with_reducible apply And.intro); · (first | with_reducible rfl | ((try simp only [closeZ_len, closeR_len, min_if, max_if, mkD_len, topZ_len, topR_len, boundR_len, ics]) <;> simp [closeZ_len, closeR_len, min_if, max_if, mkD_len, topZ_len, topR_len, boundR_len, ics, *] <;> omega))))
          refine LoopP.ind (I := fun z => 0 ≤ z.1 ∧ z.1 ≤ 7 ∧ z.2 = ic .i64 (parD (fun i j => max (g D i j) (g D2 i j)) (g D) i.toNat z.1.toNat)) (μ := fun z => (7 - z.1).toNat) ?_ ⟨by dsimp only; omega, by dsimp only; omega, rfl⟩
          rintro ⟨j, cs⟩ k1 ⟨j1, j2, j3⟩ hk1
          dsimp only at j1 j2 j3 ⊢
          subst j3
          refine cond_i (fun q4 => ?_) (fun q4 => ?_)
          · have q4 := of_decide_eq_true q4
            have hk' := hk1 (j + 1, ic .i64 (parD (fun i j => max (g D i j) (g D2 i j)) (g D) i.toNat (j + 1).toNat)) ⟨by dsimp only; omega, by dsimp only; omega, rfl⟩ (by dsimp only; omega)
            rw [show (j + 1).toNat = j.toNat + 1 by omega, ← parD_set (by omega) (by omega)] at hk'
            have lE := parD_len (f := fun i j => max (g D i j) (g D2 i j)) (h := g D) (i := i.toNat) (j := j.toNat)
            clear hk hk1
            generalize parD (fun i j => max (g D i j) (g D2 i j)) (g D) i.toNat j.toNat = E at *
            simp only [closeZ_len, closeR_len, min_if, max_if, mkD_len, topZ_len, topR_len, boundR_len, ics, g_row (D := D) (i := i.toNat) (j := j.toNat) (by omega), wr1 (show -1000 ≤ j by omega) (show j ≤ 1000 by omega)]
            have lr := rowOf_len (D := D) (i := i.toNat)
            (repeat ((first | with_reducible apply ck_i | with_reducible apply And.intro); · (first | with_reducible rfl | ((try simp only [closeZ_len, closeR_len, min_if, max_if, mkD_len, topZ_len, topR_len, boundR_len, ics]) <;> simp [closeZ_len, closeR_len, min_if, max_if, mkD_len, topZ_len, topR_len, boundR_len, ics, *] <;> omega))))
            exact hk'
          · have q4 := of_decide_eq_false q4
            rw [wr1 (by omega) (by omega)]
            have lE := parD_len (f := fun i j => max (g D i j) (g D2 i j)) (h := g D) (i := i.toNat) (j := j.toNat)
            refine And.intro (by (first | with_reducible rfl | ((try simp only [closeZ_len, closeR_len, min_if, max_if, mkD_len, topZ_len, topR_len, boundR_len, ics]) <;> simp [closeZ_len, closeR_len, min_if, max_if, mkD_len, topZ_len, topR_len, boundR_len, ics, *] <;> omega))) (hk _ ⟨by dsimp only; omega, by dsimp only; omega, ?_⟩ (by dsimp only; omega))
            dsimp only
            rw [show j.toNat = 7 by omega, parD_row (.inl rfl), show (i + 1).toNat = i.toNat + 1 by omega]
        · have q1 := of_decide_eq_false q1
          rw [show i.toNat = 7 by omega, parD_end]
          (repeat ((first | with_reducible apply ck_i | with_reducible apply And.intro); · (first | with_reducible rfl | ((try simp only [closeZ_len, closeR_len, min_if, max_if, mkD_len, topZ_len, topR_len, boundR_len, ics]) <;> simp [closeZ_len, closeR_len, min_if, max_if, mkD_len, topZ_len, topR_len, boundR_len, ics, *] <;> omega)))); rfl
theorem cx100_ok : CtxOk Try.prog cx100.q.ctx := (ctx_cons (g := 96) (ctx_cons (g := 101) ctx_nil (by kernel_rfl) sum101_ok) (by kernel_rfl) sum96_ok)
theorem sum100_ok : ∀ vs r, sum100 vs = some (true, r) → SoundAt Try.prog 100 vs r := by
  intro vs r h
  unfold sum100 at h
  split at h
  · rename_i a b f
    split at h
    · rename_i e
      simp only [Option.some.injEq, Prod.mk.injEq, Bool.and_eq_true] at h
      obtain ⟨⟨h0, h1⟩, rfl⟩ := h
      obtain ⟨n0, b0, D0, hl0, hc0, rfl⟩ := zone_elim h0
      obtain ⟨n1, b1, D1, hl1, hc1, rfl⟩ := zone_elim h1
      simp only [zO_ic]
      unfold fnOf at e
      split at e
      · rename_i g' fs cs
        split at e
        · rename_i hz
          simp only [Option.some.injEq] at e
          subst e
          have hfs : fs = #[] := Array.size_eq_zero_iff.1 hz.1
          have hcs : cs = #[] := Array.size_eq_zero_iff.1 hz.2
          subst hfs hcs
          exact f100_sound _ _ _ _ _ _ cx100_ok (f100_spec n0 b0 D0 hl0 n1 b1 D1 hl1)
        · cases e
      · cases e
    · cases h
  · cases h
theorem joinZ_len {a b : Zo} (h : a.2.2.length = 49) (h' : b.2.2.length = 49) : (joinZ a b).2.2.length = 49 := by
  unfold joinZ
  split
  · exact h
  · split
    · exact h'
    · exact mkD_len (fun i j => max (g a.2.2 i j) (g b.2.2 i j))
theorem f61_spec (n : Int) (b : Bool) (D : List Int) (hl : D.length = 49) (n2 : Int) (b2 : Bool) (D2 : List Int) (hl2 : D2.length = 49) : f61_wp n b (ic .i64 D) n2 b2 (ic .i64 D2) (fun r' => r' = zRe (joinZ (n, b, D) (n2, b2, D2))) := by
  unfold f61_wp
  (try delta X61_0)
  have lj := joinZ_len (a := (n, b, D)) (b := (n2, b2, D2)) hl hl2
  simp only [closeZ_len, closeR_len, min_if, max_if, mkD_len, topZ_len, topR_len, boundR_len, ics]
  (repeat ((first | with_reducible apply ck_i | with_reducible apply And.intro); · (first | with_reducible rfl | ((try simp only [closeZ_len, closeR_len, min_if, max_if, mkD_len, topZ_len, topR_len, boundR_len, ics]) <;> simp [closeZ_len, closeR_len, min_if, max_if, mkD_len, topZ_len, topR_len, boundR_len, ics, *] <;> omega)))); rfl
theorem cx61_ok : CtxOk Try.prog cx61.q.ctx := (ctx_cons (g := 100) ctx_nil (by kernel_rfl) sum100_ok)
theorem sum61_ok : ∀ vs r, sum61 vs = some (true, r) → SoundAt Try.prog 61 vs r := by
  intro vs r h
  unfold sum61 at h
  split at h
  · simp only [Option.some.injEq, Prod.mk.injEq, Bool.and_eq_true] at h
    obtain ⟨⟨h0, h1⟩, rfl⟩ := h
    obtain ⟨n0, b0, D0, hl0, hc0, rfl⟩ := zone_elim h0
    obtain ⟨n1, b1, D1, hl1, hc1, rfl⟩ := zone_elim h1
    (try simp only [zO_ic])
    exact f61_sound _ _ _ _ _ _ cx61_ok (f61_spec n0 b0 D0 hl0 n1 b1 D1 hl1)
  · cases h
def widF (a b : List Int) (n : Nat) (T : List Int) (i j : Nat) : Int :=
  if 1 ≤ i ∧ i ≤ n ∧ j = 0 then keptP (g a i 0) (g b i 0) else if i = 0 ∧ 1 ≤ j ∧ j ≤ n then keptP (g a 0 j) (g b 0 j) else if 1 ≤ i ∧ i ≤ n ∧ 1 ≤ j ∧ j ≤ n ∧ i ≠ j then 1099511627776 else g T i j
def widG (n i j a b : Nat) : Bool := decide ((1 ≤ a ∧ a < i ∧ b ≤ n) ∨ (a = 0 ∧ 1 ≤ b ∧ b < i) ∨ (a = i ∧ 1 ≤ j ∧ b < j) ∨ (a = 0 ∧ b = i ∧ 1 ≤ j))
def widS (A B : List Int) (n : Nat) (T : List Int) (i j : Nat) : List Int := mkD fun a b => if widG n i j a b then widF A B n T a b else g T a b
theorem widS_len {A B T : List Int} {n i j : Nat} : (widS A B n T i j).length = 49 := mkD_len _
theorem widS_0 {A B T : List Int} {n : Nat} (hl : T.length = 49) : T = widS A B n T 1 0 := mk_eq hl fun a b _ _ => by
  rw [if_neg]
  unfold widG; simp; omega
theorem widS_two {A B T : List Int} {n i : Nat} (h1 : 1 ≤ i) (hi : i ≤ n) (hn : n ≤ 6) : st (st (widS A B n T i 0) i 0 (keptP (g A i 0) (g B i 0))) 0 i (keptP (g A 0 i) (g B 0 i)) = widS A B n T i 1 := by
  unfold widS
  rw [st_mk _ (by omega) (by omega), st_mk _ (by omega) (by omega)]
  refine mk_ext fun a b ha hb => ?_
  unfold widG
  by_cases e1 : a = 0 ∧ b = i
  · obtain ⟨rfl, rfl⟩ := e1
    rw [if_pos ⟨rfl, rfl⟩, if_pos (by simp <;> omega)]
    unfold widF
    rw [if_neg (by omega), if_pos (by omega)]
  · rw [if_neg e1]
    by_cases e2 : a = i ∧ b = 0
    · obtain ⟨rfl, rfl⟩ := e2
      rw [if_pos ⟨rfl, rfl⟩, if_pos (by simp <;> omega)]
      unfold widF
      rw [if_pos (by omega)]
    · rw [if_neg e2]
      have : (decide ((1 ≤ a ∧ a < i ∧ b ≤ n) ∨ (a = 0 ∧ 1 ≤ b ∧ b < i) ∨ (a = i ∧ 1 ≤ 0 ∧ b < 0) ∨ (a = 0 ∧ b = i ∧ 1 ≤ 0))) = decide ((1 ≤ a ∧ a < i ∧ b ≤ n) ∨ (a = 0 ∧ 1 ≤ b ∧ b < i) ∨ (a = i ∧ 1 ≤ 1 ∧ b < 1) ∨ (a = 0 ∧ b = i ∧ 1 ≤ 1)) := by
        rw [decide_eq_decide]; omega
      rw [this]
theorem widS_far {A B T : List Int} {n i j : Nat} (h1 : 1 ≤ i) (hi : i ≤ n) (hn : n ≤ 6) (j1 : 1 ≤ j) (hj : j ≤ n) (hij : i ≠ j) : st (widS A B n T i j) i j 1099511627776 = widS A B n T i (j + 1) := by
  unfold widS
  rw [st_mk _ (by omega) (by omega)]
  refine mk_ext fun a b ha hb => ?_
  unfold widG
  by_cases e1 : a = i ∧ b = j
  · obtain ⟨rfl, rfl⟩ := e1
    rw [if_pos ⟨rfl, rfl⟩, if_pos (by simp <;> omega)]
    unfold widF
    rw [if_neg (by omega), if_neg (by omega), if_pos (by omega)]
  · rw [if_neg e1]
    have : (decide ((1 ≤ a ∧ a < i ∧ b ≤ n) ∨ (a = 0 ∧ 1 ≤ b ∧ b < i) ∨ (a = i ∧ 1 ≤ j ∧ b < j) ∨ (a = 0 ∧ b = i ∧ 1 ≤ j))) = decide ((1 ≤ a ∧ a < i ∧ b ≤ n) ∨ (a = 0 ∧ 1 ≤ b ∧ b < i) ∨ (a = i ∧ 1 ≤ j + 1 ∧ b < j + 1) ∨ (a = 0 ∧ b = i ∧ 1 ≤ j + 1)) := by
      rw [decide_eq_decide]; omega
    rw [this]
theorem widS_same {A B T : List Int} {n i : Nat} (h1 : 1 ≤ i) (hi : i ≤ n) : widS A B n T i i = widS A B n T i (i + 1) := mk_ext fun a b ha hb => by
  unfold widG
  by_cases e1 : a = i ∧ b = i
  · obtain ⟨rfl, rfl⟩ := e1
    rw [if_neg (by simp <;> omega), if_pos (by simp <;> omega)]
    unfold widF
    rw [if_neg (by omega), if_neg (by omega), if_neg (by omega)]
  · have : (decide ((1 ≤ a ∧ a < i ∧ b ≤ n) ∨ (a = 0 ∧ 1 ≤ b ∧ b < i) ∨ (a = i ∧ 1 ≤ i ∧ b < i) ∨ (a = 0 ∧ b = i ∧ 1 ≤ i))) = decide ((1 ≤ a ∧ a < i ∧ b ≤ n) ∨ (a = 0 ∧ 1 ≤ b ∧ b < i) ∨ (a = i ∧ 1 ≤ i + 1 ∧ b < i + 1) ∨ (a = 0 ∧ b = i ∧ 1 ≤ i + 1)) := by
      rw [decide_eq_decide]; omega
    rw [this]
theorem widS_row {A B T : List Int} {n i : Nat} (h1 : 1 ≤ i) (hi : i ≤ n) : widS A B n T i (n + 1) = widS A B n T (i + 1) 0 := mk_ext fun a b ha hb => by
  unfold widG
  have : (decide ((1 ≤ a ∧ a < i ∧ b ≤ n) ∨ (a = 0 ∧ 1 ≤ b ∧ b < i) ∨ (a = i ∧ 1 ≤ n + 1 ∧ b < n + 1) ∨ (a = 0 ∧ b = i ∧ 1 ≤ n + 1))) = decide ((1 ≤ a ∧ a < i + 1 ∧ b ≤ n) ∨ (a = 0 ∧ 1 ≤ b ∧ b < i + 1) ∨ (a = i + 1 ∧ 1 ≤ 0 ∧ b < 0) ∨ (a = 0 ∧ b = i + 1 ∧ 1 ≤ 0)) := by
    rw [decide_eq_decide]; omega
  rw [this]
theorem widS_end {A B T : List Int} {n : Nat} : widS A B n T (n + 1) 0 = widD A B n T := mk_ext fun a b ha hb => by
  show (if widG n (n + 1) 0 a b then widF A B n T a b else g T a b) = widF A B n T a b
  by_cases e : widG n (n + 1) 0 a b = true
  · rw [if_pos e]
  · rw [if_neg e]
    unfold widG at e
    simp at e
    unfold widF
    rw [if_neg (by omega), if_neg (by omega), if_neg (by omega)]
theorem f62_spec (n : Int) (b : Bool) (D : List Int) (hl : D.length = 49) (n2 : Int) (b2 : Bool) (D2 : List Int) (hl2 : D2.length = 49) : f62_wp n b (ic .i64 D) n2 b2 (ic .i64 D2) (fun r' => r' = zRe (widenZ (n, b, D) (n2, b2, D2))) := by
  unfold f62_wp
  (try delta X62_1)
  (try delta X62_0)
  simp only [map_ic]
  (repeat ((first | with_reducible apply ck_i | with_reducible apply And.intro); · (first | with_reducible rfl | ((try simp only [closeZ_len, closeR_len, min_if, max_if, mkD_len, topZ_len, topR_len, boundR_len, ics]) <;> simp [closeZ_len, closeR_len, min_if, max_if, mkD_len, topZ_len, topR_len, boundR_len, ics, *] <;> omega))))
  refine cond_i (fun q => ?_) (fun q => ?_)
  · have q : alikeZ (n, b, D) (n2, b2, D2) = false := by simpa using q
    have e : widenZ (n, b, D) (n2, b2, D2) = (n, b, D) := by unfold widenZ; rw [q]; rfl
    rw [e]
    (repeat ((first | with_reducible apply ck_i | with_reducible apply And.intro); · (first | with_reducible rfl | ((try simp only [closeZ_len, closeR_len, min_if, max_if, mkD_len, topZ_len, topR_len, boundR_len, ics]) <;> simp [closeZ_len, closeR_len, min_if, max_if, mkD_len, topZ_len, topR_len, boundR_len, ics, *] <;> omega)))); rfl
  · have q : alikeZ (n, b, D) (n2, b2, D2) = true := by simpa using q
    have rn : 0 ≤ n ∧ n ≤ 6 := by
      unfold alikeZ at q
      rw [Bool.and_eq_true] at q
      exact okN_rng q.2
    (repeat ((first | with_reducible apply ck_i | with_reducible apply And.intro); · (first | with_reducible rfl | ((try simp only [closeZ_len, closeR_len, min_if, max_if, mkD_len, topZ_len, topR_len, boundR_len, ics]) <;> simp [closeZ_len, closeR_len, min_if, max_if, mkD_len, topZ_len, topR_len, boundR_len, ics, *] <;> omega))))
    refine cond_i (fun q1 => ?_) (fun q1 => ?_)
    · have e : widenZ (n, b, D) (n2, b2, D2) = (n, b, D) := by unfold widenZ; rw [q, q1]; rfl
      rw [e]
      (repeat ((first | with_reducible apply ck_i | with_reducible apply And.intro); · (first | with_reducible rfl | ((try simp only [closeZ_len, closeR_len, min_if, max_if, mkD_len, topZ_len, topR_len, boundR_len, ics]) <;> simp [closeZ_len, closeR_len, min_if, max_if, mkD_len, topZ_len, topR_len, boundR_len, ics, *] <;> omega)))); rfl
    · refine cond_i (fun q2 => ?_) (fun q2 => ?_)
      · have e : widenZ (n, b, D) (n2, b2, D2) = (n2, b2, D2) := by unfold widenZ; rw [q, q1, q2]; rfl
        rw [e]
        (repeat ((first | with_reducible apply ck_i | with_reducible apply And.intro); · (first | with_reducible rfl | ((try simp only [closeZ_len, closeR_len, min_if, max_if, mkD_len, topZ_len, topR_len, boundR_len, ics]) <;> simp [closeZ_len, closeR_len, min_if, max_if, mkD_len, topZ_len, topR_len, boundR_len, ics, *] <;> omega)))); rfl
      · have e : widenZ (n, b, D) (n2, b2, D2) = closeZ ((topZ n).1, (topZ n).2.1, widD D D2 n.toNat (topZ n).2.2) := by unfold widenZ; rw [q, q1, q2]; rfl
        rw [e]
        have lT := topZ_len (n := n)
        generalize topZ n = T0 at *
        obtain ⟨tn, tb, T⟩ := T0
        dsimp only at lT ⊢
        (repeat ((first | with_reducible apply ck_i | with_reducible apply And.intro); · (first | with_reducible rfl | ((try simp only [closeZ_len, closeR_len, min_if, max_if, mkD_len, topZ_len, topR_len, boundR_len, ics]) <;> simp [closeZ_len, closeR_len, min_if, max_if, mkD_len, topZ_len, topR_len, boundR_len, ics, *] <;> omega))))
        have e0 := widS_0 (A := D) (B := D2) (n := n.toNat) lT
        refine LoopP.ind (I := fun z => 1 ≤ z.1 ∧ z.1 ≤ n + 1 ∧ z.2 = ic .i64 (widS D D2 n.toNat T z.1.toNat 0)) (μ := fun z => (n + 1 - z.1).toNat) ?_ ⟨by dsimp only; omega, by dsimp only; omega, congrArg _ e0⟩
        clear e0
        rintro ⟨i, cs⟩ k0 ⟨i1, i2, i3⟩ hk
        dsimp only at i1 i2 i3 ⊢
        subst i3
        refine cond_i (fun q1 => ?_) (fun q1 => ?_)
        · have q1 := of_decide_eq_true q1
          have lS := widS_len (A := D) (B := D2) (T := T) (n := n.toNat) (i := i.toNat) (j := 0)
          simp only [closeZ_len, closeR_len, min_if, max_if, mkD_len, topZ_len, topR_len, boundR_len, ics, widS_two (A := D) (B := D2) (T := T) (n := n.toNat) (i := i.toNat) (by omega) (by omega) (by omega)]
          have lS1 := widS_len (A := D) (B := D2) (T := T) (n := n.toNat) (i := i.toNat) (j := 1)
          (repeat ((first | with_reducible apply ck_i | with_reducible apply And.intro); · (first | with_reducible rfl | ((try simp only [closeZ_len, closeR_len, min_if, max_if, mkD_len, topZ_len, topR_len, boundR_len, ics]) <;> simp [closeZ_len, closeR_len, min_if, max_if, mkD_len, topZ_len, topR_len, boundR_len, ics, *] <;> omega))))
          refine LoopP.ind (I := fun z => 1 ≤ z.1 ∧ z.1 ≤ n + 1 ∧ z.2 = ic .i64 (widS D D2 n.toNat T i.toNat z.1.toNat)) (μ := fun z => (n + 1 - z.1).toNat) ?_ ⟨by dsimp only; omega, by dsimp only; omega, rfl⟩
          rintro ⟨j, cs⟩ k1 ⟨j1, j2, j3⟩ hk1
          dsimp only at j1 j2 j3 ⊢
          subst j3
          clear lS lS1
          have lE := widS_len (A := D) (B := D2) (T := T) (n := n.toNat) (i := i.toNat) (j := j.toNat)
          refine cond_i (fun q4 => ?_) (fun q4 => ?_)
          · have q4 := of_decide_eq_true q4
            have hk' := hk1 (j + 1, ic .i64 (widS D D2 n.toNat T i.toNat (j + 1).toNat)) ⟨by dsimp only; omega, by dsimp only; omega, rfl⟩ (by dsimp only; omega)
            rw [show (j + 1).toNat = j.toNat + 1 by omega] at hk'
            rw [wr1 (by omega) (by omega)]
            clear hk hk1
            refine cond_i (fun q5 => ?_) (fun q5 => ?_)
            · have q5 : ¬ i = j := by simpa using q5
              rw [← widS_far (by omega) (by omega) (by omega) (by omega) (by omega) (by omega)] at hk'
              simp only [closeZ_len, closeR_len, min_if, max_if, mkD_len, topZ_len, topR_len, boundR_len, ics]
              (repeat ((first | with_reducible apply ck_i | with_reducible apply And.intro); · (first | with_reducible rfl | ((try simp only [closeZ_len, closeR_len, min_if, max_if, mkD_len, topZ_len, topR_len, boundR_len, ics]) <;> simp [closeZ_len, closeR_len, min_if, max_if, mkD_len, topZ_len, topR_len, boundR_len, ics, *] <;> omega))))
              exact hk'
            · have q5 : i = j := by simpa using q5
              subst q5
              rw [← widS_same (by omega) (by omega)] at hk'
              (repeat ((first | with_reducible apply ck_i | with_reducible apply And.intro); · (first | with_reducible rfl | ((try simp only [closeZ_len, closeR_len, min_if, max_if, mkD_len, topZ_len, topR_len, boundR_len, ics]) <;> simp [closeZ_len, closeR_len, min_if, max_if, mkD_len, topZ_len, topR_len, boundR_len, ics, *] <;> omega))))
              exact hk'
          · have q4 := of_decide_eq_false q4
            rw [wr1 (by omega) (by omega)]
            refine And.intro (by (first | with_reducible rfl | ((try simp only [closeZ_len, closeR_len, min_if, max_if, mkD_len, topZ_len, topR_len, boundR_len, ics]) <;> simp [closeZ_len, closeR_len, min_if, max_if, mkD_len, topZ_len, topR_len, boundR_len, ics, *] <;> omega))) (hk _ ⟨by dsimp only; omega, by dsimp only; omega, ?_⟩ (by dsimp only; omega))
            dsimp only
            rw [show j.toNat = n.toNat + 1 by omega, widS_row (by omega) (by omega), show (i + 1).toNat = i.toNat + 1 by omega]
        · have q1 := of_decide_eq_false q1
          rw [show i.toNat = n.toNat + 1 by omega, widS_end]
          have lD : (widD D D2 n.toNat T).length = 49 := mkD_len _
          clear hk
          generalize widD D D2 n.toNat T = E at *
          simp only [closeZ_len, closeR_len, min_if, max_if, mkD_len, topZ_len, topR_len, boundR_len, ics]
          (repeat ((first | with_reducible apply ck_i | with_reducible apply And.intro); · (first | with_reducible rfl | ((try simp only [closeZ_len, closeR_len, min_if, max_if, mkD_len, topZ_len, topR_len, boundR_len, ics]) <;> simp [closeZ_len, closeR_len, min_if, max_if, mkD_len, topZ_len, topR_len, boundR_len, ics, *] <;> omega)))); rfl
theorem cx62_ok : CtxOk Try.prog cx62.q.ctx := (ctx_cons (g := 96) (ctx_cons (g := 47) (ctx_cons (g := 25) (ctx_cons (g := 102) (ctx_cons (g := 83) ctx_nil (by kernel_rfl) sum83_ok) (by kernel_rfl) sum102_ok) (by kernel_rfl) sum25_ok) (by kernel_rfl) sum47_ok) (by kernel_rfl) sum96_ok)
theorem sum62_ok : ∀ vs r, sum62 vs = some (true, r) → SoundAt Try.prog 62 vs r := by
  intro vs r h
  unfold sum62 at h
  split at h
  · simp only [Option.some.injEq, Prod.mk.injEq, Bool.and_eq_true] at h
    obtain ⟨⟨h0, h1⟩, rfl⟩ := h
    obtain ⟨n0, b0, D0, hl0, hc0, rfl⟩ := zone_elim h0
    obtain ⟨n1, b1, D1, hl1, hc1, rfl⟩ := zone_elim h1
    (try simp only [zO_ic])
    exact f62_sound _ _ _ _ _ _ cx62_ok (f62_spec n0 b0 D0 hl0 n1 b1 D1 hl1)
  · cases h
theorem f46_spec (n : Int) (b : Bool) (D : List Int) (hl : D.length = 49) (k x y c : Int) : f46_wp n b (ic .i64 D) k x y c (fun r' => r' = zRe (boundA (n, b, D) x y c)) := by
  unfold f46_wp boundA
  (try delta X46_0)
  refine cond_i (fun q => ?_) (fun q => ?_)
  · rw [if_pos (by simpa using q)]
    (repeat ((first | with_reducible apply ck_i | with_reducible apply And.intro); · (first | with_reducible rfl | ((try simp only [min_if, max_if, ics]) <;> simp [min_if, max_if, ics, *] <;> omega)))); rfl
  · rw [if_neg (by simpa using q)]
    have lB := fun x y c => boundZ_len (z := (n, b, D)) (x := x) (y := y) (c := c) hl
    simp only [min_if, max_if, ics]
    (repeat ((first | with_reducible apply ck_i | with_reducible apply And.intro); · (first | with_reducible rfl | ((try simp only [min_if, max_if, ics]) <;> simp [min_if, max_if, ics, *] <;> omega)))); rfl
theorem cx46_ok : CtxOk Try.prog cx46.q.ctx := (ctx_cons (g := 26) ctx_nil (by kernel_rfl) sum26_ok)
theorem sum46_ok : ∀ vs r, sum46 vs = some (true, r) → SoundAt Try.prog 46 vs r := by
  intro vs r h
  unfold sum46 at h
  split at h
  · simp only [Option.some.injEq, Prod.mk.injEq, Bool.and_eq_true] at h
    obtain ⟨⟨h0, h1⟩, rfl⟩ := h
    obtain ⟨n0, b0, D0, hl0, hc0, rfl⟩ := zone_elim h0
    obtain ⟨x1, y1, z1, w1, rfl⟩ := act_elim h1
    (try simp only [zO_ic])
    exact f46_sound _ _ _ _ _ _ _ cx46_ok (f46_spec n0 b0 D0 hl0 x1 y1 z1 w1)
  · cases h

end Go.Proofs.Ytgmciihlmgeecaa.Fn
