import Derived.Test.YtgmciihlmgeecaaPuZA
import Derived.Test.YtgmciihlmgeecaaWZB
/- Functions of two zones: what is told of each is so. Conditions: those that each lemma names. -/
namespace Go.Proofs.Ytgmciihlmgeecaa.Fn
open Go Go.RowKit Go.Proofs.Ytgmciihlmgeecaa.Mt Go.Proofs.Ytgmciihlmgeecaa.Zm
set_option linter.unusedVariables false
set_option linter.unusedSimpArgs false
theorem f101_spec (a b : Int) : f101_wp a b (fun r' => r' = inRet (max a b)) := by
  unfold f101_wp
  simp only [min_if, max_if]
  show _ = inRet _
  rw [Int.max_comm]; rfl
theorem cx101_ok : CtxOk Try.prog cx101.q.ctx := ctx_nil
theorem sum101_ok : ∀ vs r, sum101 vs = some (true, r) → SoundAt Try.prog 101 vs r := by
  intro vs r h
  unfold sum101 at h
  split at h
  · simp only [Option.some.injEq, Prod.mk.injEq, Bool.and_eq_true] at h
    obtain ⟨⟨h0, h1⟩, rfl⟩ := h
    obtain ⟨x0, rfl⟩ := int_elim h0
    obtain ⟨x1, rfl⟩ := int_elim h1
    (try simp only [zO_ic])
    exact f101_sound _ _ cx101_ok (f101_spec x0 x1)
  · cases h
theorem f96_spec (n : Int) (b : Bool) (D : List Int) (hl : D.length = 49) (n2 : Int) (b2 : Bool) (D2 : List Int) (hl2 : D2.length = 49) : f96_wp n b (ic .i64 D) n2 b2 (ic .i64 D2) (fun r' => r' = boRet (alikeZ (n, b, D) (n2, b2, D2))) := by
  unfold f96_wp alikeZ
  refine cond_i (fun q => ?_) (fun q => ?_)
  · have q : n = n2 := by simpa using q
    simp [q, boRet]
  · have q : ¬ n = n2 := by simpa using q
    simp [q, boRet]
theorem cx96_ok : CtxOk Try.prog cx96.q.ctx := (ctx_cons (g := 91) ctx_nil (by kernel_rfl) sum91_ok)
theorem sum96_ok : ∀ vs r, sum96 vs = some (true, r) → SoundAt Try.prog 96 vs r := by
  intro vs r h
  unfold sum96 at h
  split at h
  · simp only [Option.some.injEq, Prod.mk.injEq, Bool.and_eq_true] at h
    obtain ⟨⟨h0, h1⟩, rfl⟩ := h
    obtain ⟨n0, b0, D0, hl0, hc0, rfl⟩ := zone_elim h0
    obtain ⟨n1, b1, D1, hl1, hc1, rfl⟩ := zone_elim h1
    (try simp only [zO_ic])
    exact f96_sound _ _ _ _ _ _ cx96_ok (f96_spec n0 b0 D0 hl0 n1 b1 D1 hl1)
  · cases h
theorem f47_spec (n : Int) (b : Bool) (D : List Int) (hl : D.length = 49) (n2 : Int) (b2 : Bool) (D2 : List Int) (hl2 : D2.length = 49) : f47_wp n b (ic .i64 D) n2 b2 (ic .i64 D2) (fun r' => r' = boRet (withinZ (n, b, D) (n2, b2, D2))) := by
  unfold f47_wp
  (try delta X47_0)
  simp only [take_ic hl, map_ic, row7]
  (repeat ((first | with_reducible apply ck_i | with_reducible apply And.intro); · (first | with_reducible rfl | ((try simp only [closeZ_len, closeR_len, forT_len, movT_len, ownT_len, min_if, max_if, mkD_len, movZ_len, forgetR_len, closeZ_fst, closeR_fst, forgetR_fst, ics]) <;> simp [closeZ_len, closeR_len, forT_len, movT_len, ownT_len, min_if, max_if, mkD_len, movZ_len, forgetR_len, closeZ_fst, closeR_fst, forgetR_fst, ics, *] <;> omega))))
  refine cond_i (fun q => ?_) (fun q => ?_)
  · have q : alikeZ (n, b, D) (n2, b2, D2) = false := by simpa using q
    unfold withinZ; rw [q]; rfl
  · have q : alikeZ (n, b, D) (n2, b2, D2) = true := by simpa using q
    refine cond_i (fun q1 => ?_) (fun q1 => ?_)
    · unfold withinZ; rw [q, q1]; rfl
    · refine cond_i (fun q2 => ?_) (fun q2 => ?_)
      · unfold withinZ; rw [q, q1, q2]; rfl
      · subst q1 q2
        have hf : withinZ (n, false, D) (n2, false, D2) = true ↔ ∀ i j : Nat, i < 7 → j < 7 → g D i j ≤ g D2 i j := by
          unfold withinZ; rw [q]
          simp only [Bool.not_true, Bool.false_eq_true, if_false, all7, decide_eq_true_eq]
        (repeat ((first | with_reducible apply ck_i | with_reducible apply And.intro); · (first | with_reducible rfl | ((try simp only [closeZ_len, closeR_len, forT_len, movT_len, ownT_len, min_if, max_if, mkD_len, movZ_len, forgetR_len, closeZ_fst, closeR_fst, forgetR_fst, ics]) <;> simp [closeZ_len, closeR_len, forT_len, movT_len, ownT_len, min_if, max_if, mkD_len, movZ_len, forgetR_len, closeZ_fst, closeR_fst, forgetR_fst, ics, *] <;> omega))))
        refine LoopP.ind (I := fun z => 0 ≤ z ∧ z ≤ 7 ∧ ∀ i j : Nat, (i : Int) < z → j < 7 → g D i j ≤ g D2 i j) (μ := fun z => (7 - z).toNat) ?_ ⟨by omega, by omega, fun i j hi _ => absurd hi (by omega)⟩
        rintro i k0 ⟨i1, i2, i3⟩ hk
        refine cond_i (fun q1 => ?_) (fun q1 => ?_)
        · have q1 := of_decide_eq_true q1
          (repeat ((first | with_reducible apply ck_i | with_reducible apply And.intro); · (first | with_reducible rfl | ((try simp only [closeZ_len, closeR_len, forT_len, movT_len, ownT_len, min_if, max_if, mkD_len, movZ_len, forgetR_len, closeZ_fst, closeR_fst, forgetR_fst, ics]) <;> simp [closeZ_len, closeR_len, forT_len, movT_len, ownT_len, min_if, max_if, mkD_len, movZ_len, forgetR_len, closeZ_fst, closeR_fst, forgetR_fst, ics, *] <;> omega))))
          refine LoopP.ind (I := fun z => 0 ≤ z ∧ z ≤ 7 ∧ ∀ j : Nat, (j : Int) < z → g D i.toNat j ≤ g D2 i.toNat j) (μ := fun z => (7 - z).toNat) ?_ ⟨by omega, by omega, fun i hi => absurd hi (by omega)⟩
          rintro j k1 ⟨j1, j2, j3⟩ hk1
          refine cond_i (fun q4 => ?_) (fun q4 => ?_)
          · have q4 := of_decide_eq_true q4
            simp only [closeZ_len, closeR_len, forT_len, movT_len, ownT_len, min_if, max_if, mkD_len, movZ_len, forgetR_len, closeZ_fst, closeR_fst, forgetR_fst, ics, g_row (D := D) (i := i.toNat) (j := j.toNat) (by omega)]
            have lr := rowOf_len (D := D) (i := i.toNat)
            (repeat ((first | with_reducible apply ck_i | with_reducible apply And.intro); · (first | with_reducible rfl | ((try simp only [closeZ_len, closeR_len, forT_len, movT_len, ownT_len, min_if, max_if, mkD_len, movZ_len, forgetR_len, closeZ_fst, closeR_fst, forgetR_fst, ics]) <;> simp [closeZ_len, closeR_len, forT_len, movT_len, ownT_len, min_if, max_if, mkD_len, movZ_len, forgetR_len, closeZ_fst, closeR_fst, forgetR_fst, ics, *] <;> omega))))
            refine cond_i (fun q7 => ?_) (fun q7 => ?_)
            · have q7 := of_decide_eq_true q7
              cases e : withinZ (n, false, D) (n2, false, D2) with
              | false => rfl
              | true =>
                have := hf.1 e i.toNat j.toNat (by omega) (by omega)
                omega
            · have q7 := of_decide_eq_false q7
              rw [wr1 (by omega) (by omega)]
              refine And.intro (by (first | with_reducible rfl | ((try simp only [closeZ_len, closeR_len, forT_len, movT_len, ownT_len, min_if, max_if, mkD_len, movZ_len, forgetR_len, closeZ_fst, closeR_fst, forgetR_fst, ics]) <;> simp [closeZ_len, closeR_len, forT_len, movT_len, ownT_len, min_if, max_if, mkD_len, movZ_len, forgetR_len, closeZ_fst, closeR_fst, forgetR_fst, ics, *] <;> omega))) (hk1 _ ⟨by omega, by omega, fun t ht => ?_⟩ (by omega))
              by_cases e : (t : Int) < j
              · exact j3 t e
              · obtain rfl : t = j.toNat := by omega
                omega
          · have q4 := of_decide_eq_false q4
            rw [wr1 (by omega) (by omega)]
            refine And.intro (by (first | with_reducible rfl | ((try simp only [closeZ_len, closeR_len, forT_len, movT_len, ownT_len, min_if, max_if, mkD_len, movZ_len, forgetR_len, closeZ_fst, closeR_fst, forgetR_fst, ics]) <;> simp [closeZ_len, closeR_len, forT_len, movT_len, ownT_len, min_if, max_if, mkD_len, movZ_len, forgetR_len, closeZ_fst, closeR_fst, forgetR_fst, ics, *] <;> omega))) (hk _ ⟨by omega, by omega, fun t s ht hs => ?_⟩ (by omega))
            by_cases e : (t : Int) < i
            · exact i3 t s e hs
            · obtain rfl : t = i.toNat := by omega
              exact j3 s (by omega)
        · have q1 := of_decide_eq_false q1
          rw [hf.2 fun t s ht hs => i3 t s (by omega) hs]; rfl
theorem cx47_ok : CtxOk Try.prog cx47.q.ctx := (ctx_cons (g := 96) ctx_nil (by kernel_rfl) sum96_ok)
theorem sum47_ok : ∀ vs r, sum47 vs = some (true, r) → SoundAt Try.prog 47 vs r := by
  intro vs r h
  unfold sum47 at h
  split at h
  · simp only [Option.some.injEq, Prod.mk.injEq, Bool.and_eq_true] at h
    obtain ⟨⟨h0, h1⟩, rfl⟩ := h
    obtain ⟨n0, b0, D0, hl0, hc0, rfl⟩ := zone_elim h0
    obtain ⟨n1, b1, D1, hl1, hc1, rfl⟩ := zone_elim h1
    (try simp only [zO_ic])
    exact f47_sound _ _ _ _ _ _ cx47_ok (f47_spec n0 b0 D0 hl0 n1 b1 D1 hl1)
  · cases h
theorem f100_spec (n : Int) (b : Bool) (D : List Int) (hl : D.length = 49) (n2 : Int) (b2 : Bool) (D2 : List Int) (hl2 : D2.length = 49) : f100_wp n b (ic .i64 D) n2 b2 (ic .i64 D2) (fun r' => r' = zRe (joinZ (n, b, D) (n2, b2, D2))) := by
  unfold f100_wp
  (try delta X100_1)
  (try delta X100_0)
  simp only [take_ic hl, map_ic, row7]
  (repeat ((first | with_reducible apply ck_i | with_reducible apply And.intro); · (first | with_reducible rfl | ((try simp only [closeZ_len, closeR_len, min_if, max_if, mkD_len, topZ_len, topR_len, boundR_len, ics]) <;> simp [closeZ_len, closeR_len, min_if, max_if, mkD_len, topZ_len, topR_len, boundR_len, ics, *] <;> omega))))
  refine cond_i (fun q => ?_) (fun q => ?_)
  · have q : alikeZ (n, b, D) (n2, b2, D2) = false := by simpa using q
    have e : joinZ (n, b, D) (n2, b2, D2) = (n, b, D) := by unfold joinZ; rw [q]; rfl
    rw [e]
    (repeat ((first | with_reducible apply ck_i | with_reducible apply And.intro); · (first | with_reducible rfl | ((try simp only [closeZ_len, closeR_len, min_if, max_if, mkD_len, topZ_len, topR_len, boundR_len, ics]) <;> simp [closeZ_len, closeR_len, min_if, max_if, mkD_len, topZ_len, topR_len, boundR_len, ics, *] <;> omega)))); rfl
  · have q : alikeZ (n, b, D) (n2, b2, D2) = true := by simpa using q
    refine cond_i (fun q1 => ?_) (fun q1 => ?_)
    · have e : joinZ (n, b, D) (n2, b2, D2) = (n, b, D) := by unfold joinZ; rw [q, q1]; rfl
      rw [e]
      (repeat ((first | with_reducible apply ck_i | with_reducible apply And.intro); · (first | with_reducible rfl | ((try simp only [closeZ_len, closeR_len, min_if, max_if, mkD_len, topZ_len, topR_len, boundR_len, ics]) <;> simp [closeZ_len, closeR_len, min_if, max_if, mkD_len, topZ_len, topR_len, boundR_len, ics, *] <;> omega)))); rfl
    · refine cond_i (fun q2 => ?_) (fun q2 => ?_)
      · have e : joinZ (n, b, D) (n2, b2, D2) = (n2, b2, D2) := by unfold joinZ; rw [q, q1, q2]; rfl
        rw [e]
        (repeat ((first | with_reducible apply ck_i | with_reducible apply And.intro); · (first | with_reducible rfl | ((try simp only [closeZ_len, closeR_len, min_if, max_if, mkD_len, topZ_len, topR_len, boundR_len, ics]) <;> simp [closeZ_len, closeR_len, min_if, max_if, mkD_len, topZ_len, topR_len, boundR_len, ics, *] <;> omega)))); rfl
      · have e : joinZ (n, b, D) (n2, b2, D2) = (n, b, mkD fun i j => max (g D i j) (g D2 i j)) := by unfold joinZ; rw [q, q1, q2]; rfl
        rw [e]
        (repeat ((first | with_reducible apply ck_i | with_reducible apply And.intro); · (first | with_reducible rfl | ((try simp only [closeZ_len, closeR_len, min_if, max_if, mkD_len, topZ_len, topR_len, boundR_len, ics]) <;> simp [closeZ_len, closeR_len, min_if, max_if, mkD_len, topZ_len, topR_len, boundR_len, ics, *] <;> omega))))
        have e0 := parD_0 hl (fun i j => max (g D i j) (g D2 i j))
        refine LoopP.ind (I := fun z => 0 ≤ z.1 ∧ z.1 ≤ 7 ∧ z.2 = ic .i64 (parD (fun i j => max (g D i j) (g D2 i j)) (g D) z.1.toNat 0)) (μ := fun z => (7 - z.1).toNat) ?_ ⟨by dsimp only; omega, by dsimp only; omega, congrArg _ e0⟩
        clear e0
        rintro ⟨i, cs⟩ k0 ⟨i1, i2, i3⟩ hk
        dsimp only at i1 i2 i3 ⊢
        subst i3
        refine cond_i (fun q1 => ?_) (fun q1 => ?_)
        · have q1 := of_decide_eq_true q1
          (repeat ((first | with_reducible apply ck_i | with_reducible apply And.intro); · (first | with_reducible rfl | ((try simp only [closeZ_len, closeR_len, min_if, max_if, mkD_len, topZ_len, topR_len, boundR_len, ics]) <;> simp [closeZ_len, closeR_len, min_if, max_if, mkD_len, topZ_len, topR_len, boundR_len, ics, *] <;> omega))))
          refine LoopP.ind (I := fun z => 0 ≤ z.1 ∧ z.1 ≤ 7 ∧ z.2 = ic .i64 (parD (fun i j => max (g D i j) (g D2 i j)) (g D) i.toNat z.1.toNat)) (μ := fun z => (7 - z.1).toNat) ?_ ⟨by dsimp only; omega, by dsimp only; omega, rfl⟩
          rintro ⟨j, cs⟩ k1 ⟨j1, j2, j3⟩ hk1
          dsimp only at j1 j2 j3 ⊢
          subst j3
          refine cond_i (fun q4 => ?_) (fun q4 => ?_)
          · have q4 := of_decide_eq_true q4
            have hk' := hk1 (j + 1, ic .i64 (parD (fun i j => max (g D i j) (g D2 i j)) (g D) i.toNat (j + 1).toNat)) ⟨by dsimp only; omega, by dsimp only; omega, rfl⟩ (by dsimp only; omega)
            rw [show (j + 1).toNat = j.toNat + 1 by omega, ← parD_set (by omega) (by omega)] at hk'
            have lE := parD_len (f := fun i j => max (g D i j) (g D2 i j)) (h := g D) (i := i.toNat) (j := j.toNat)
            clear hk hk1
            generalize parD (fun i j => max (g D i j) (g D2 i j)) (g D) i.toNat j.toNat = E at *
            simp only [closeZ_len, closeR_len, min_if, max_if, mkD_len, topZ_len, topR_len, boundR_len, ics, g_row (D := D) (i := i.toNat) (j := j.toNat) (by omega), wr1 (show -1000 ≤ j by omega) (show j ≤ 1000 by omega)]
            have lr := rowOf_len (D := D) (i := i.toNat)
            (repeat ((first | with_reducible apply ck_i | with_reducible apply And.intro); · (first | with_reducible rfl | ((try simp only [closeZ_len, closeR_len, min_if, max_if, mkD_len, topZ_len, topR_len, boundR_len, ics]) <;> simp [closeZ_len, closeR_len, min_if, max_if, mkD_len, topZ_len, topR_len, boundR_len, ics, *] <;> omega))))
            exact hk'
          · have q4 := of_decide_eq_false q4
            rw [wr1 (by omega) (by omega)]
            have lE := parD_len (f := fun i j => max (g D i j) (g D2 i j)) (h := g D) (i := i.toNat) (j := j.toNat)
            refine And.intro (by (first | with_reducible rfl | ((try simp only [closeZ_len, closeR_len, min_if, max_if, mkD_len, topZ_len, topR_len, boundR_len, ics]) <;> simp [closeZ_len, closeR_len, min_if, max_if, mkD_len, topZ_len, topR_len, boundR_len, ics, *] <;> omega))) (hk _ ⟨by dsimp only; omega, by dsimp only; omega, ?_⟩ (by dsimp only; omega))
            dsimp only
            rw [show j.toNat = 7 by omega, parD_row (.inl rfl), show (i + 1).toNat = i.toNat + 1 by omega]
        · have q1 := of_decide_eq_false q1
          rw [show i.toNat = 7 by omega, parD_end]
          (repeat ((first | with_reducible apply ck_i | with_reducible apply And.intro); · (first | with_reducible rfl | ((try simp only [closeZ_len, closeR_len, min_if, max_if, mkD_len, topZ_len, topR_len, boundR_len, ics]) <;> simp [closeZ_len, closeR_len, min_if, max_if, mkD_len, topZ_len, topR_len, boundR_len, ics, *] <;> omega)))); rfl
theorem cx100_ok : CtxOk Try.prog cx100.q.ctx := (ctx_cons (g := 96) (ctx_cons (g := 101) ctx_nil (by kernel_rfl) sum101_ok) (by kernel_rfl) sum96_ok)
theorem sum100_ok : ∀ vs r, sum100 vs = some (true, r) → SoundAt Try.prog 100 vs r := by
  intro vs r h
  unfold sum100 at h
  split at h
  · rename_i a b f
    split at h
    · rename_i e
      simp only [Option.some.injEq, Prod.mk.injEq, Bool.and_eq_true] at h
      obtain ⟨⟨h0, h1⟩, rfl⟩ := h
      obtain ⟨n0, b0, D0, hl0, hc0, rfl⟩ := zone_elim h0
      obtain ⟨n1, b1, D1, hl1, hc1, rfl⟩ := zone_elim h1
      simp only [zO_ic]
      unfold fnOf at e
      split at e
      · rename_i g' fs cs
        split at e
        · rename_i hz
          simp only [Option.some.injEq] at e
          subst e
          have hfs : fs = #[] := Array.size_eq_zero_iff.1 hz.1
          have hcs : cs = #[] := Array.size_eq_zero_iff.1 hz.2
          subst hfs hcs
          exact f100_sound _ _ _ _ _ _ cx100_ok (f100_spec n0 b0 D0 hl0 n1 b1 D1 hl1)
        · cases e
      · cases e
    · cases h
  · cases h
theorem joinZ_len {a b : Zo} (h : a.2.2.length = 49) (h' : b.2.2.length = 49) : (joinZ a b).2.2.length = 49 := by
  unfold joinZ
  split
  · exact h
  · split
    · exact h'
    · exact mkD_len (fun i j => max (g a.2.2 i j) (g b.2.2 i j))
theorem f61_spec (n : Int) (b : Bool) (D : List Int) (hl : D.length = 49) (n2 : Int) (b2 : Bool) (D2 : List Int) (hl2 : D2.length = 49) : f61_wp n b (ic .i64 D) n2 b2 (ic .i64 D2) (fun r' => r' = zRe (joinZ (n, b, D) (n2, b2, D2))) := by
  unfold f61_wp
  (try delta X61_0)
  have lj := joinZ_len (a := (n, b, D)) (b := (n2, b2, D2)) hl hl2
  simp only [closeZ_len, closeR_len, min_if, max_if, mkD_len, topZ_len, topR_len, boundR_len, ics]
  (repeat ((first | with_reducible apply ck_i | with_reducible apply And.intro); · (first | with_reducible rfl | ((try simp only [closeZ_len, closeR_len, min_if, max_if, mkD_len, topZ_len, topR_len, boundR_len, ics]) <;> simp [closeZ_len, closeR_len, min_if, max_if, mkD_len, topZ_len, topR_len, boundR_len, ics, *] <;> omega)))); rfl
theorem cx61_ok : CtxOk Try.prog cx61.q.ctx := (ctx_cons (g := 100) ctx_nil (by kernel_rfl) sum100_ok)
theorem sum61_ok : ∀ vs r, sum61 vs = some (true, r) → SoundAt Try.prog 61 vs r := by
  intro vs r h
  unfold sum61 at h
  split at h
  · simp only [Option.some.injEq, Prod.mk.injEq, Bool.and_eq_true] at h
    obtain ⟨⟨h0, h1⟩, rfl⟩ := h
    obtain ⟨n0, b0, D0, hl0, hc0, rfl⟩ := zone_elim h0
    obtain ⟨n1, b1, D1, hl1, hc1, rfl⟩ := zone_elim h1
    (try simp only [zO_ic])
    exact f61_sound _ _ _ _ _ _ cx61_ok (f61_spec n0 b0 D0 hl0 n1 b1 D1 hl1)
  · cases h
end Go.Proofs.Ytgmciihlmgeecaa.Fn
