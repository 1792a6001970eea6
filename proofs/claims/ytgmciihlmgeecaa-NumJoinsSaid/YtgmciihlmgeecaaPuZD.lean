import Derived.Test.YtgmciihlmgeecaaPuZA
import Derived.Test.YtgmciihlmgeecaaPuZC
import Derived.Test.YtgmciihlmgeecaaWZD
/- The reference's functions of zones: what is told of each is so. Conditions: those that each lemma names. -/
namespace Go.Proofs.Ytgmciihlmgeecaa.Fn
open Go Go.RowKit Go.Proofs.Ytgmciihlmgeecaa.Mt Go.Proofs.Ytgmciihlmgeecaa.Zm
set_option linter.unusedVariables false
set_option linter.unusedSimpArgs false
theorem f65_spec (n : Int) (b : Bool) (D : List Int) (hl : D.length = 49) (n2 : Int) (b2 : Bool) (D2 : List Int) (hl2 : D2.length = 49) (hn : okN n = true) : f65_wp n b (ic .i64 D) n2 b2 (ic .i64 D2) (fun r' => r' = boRet (withinR (n, b, D) (n2, b2, D2))) := by
  have rn := okN_rng hn
  unfold f65_wp
  refine cond_i (fun q => ?_) (fun q => ?_)
  · have q : ¬ n = n2 := by simpa using q
    unfold withinR; rw [decide_eq_false (by exact q)]; rfl
  · have q : n = n2 := by simpa using q
    subst q
    refine cond_i (fun q1 => ?_) (fun q1 => ?_)
    · subst q1; unfold withinR; simp [boRet]
    · subst q1
      (repeat ((first | with_reducible apply ck_i | with_reducible apply And.intro); · (first | with_reducible rfl | ((try simp only [closeZ_len, closeR_len, forT_len, movT_len, ownT_len, min_if, max_if, mkD_len, movZ_len, forgetR_len, closeZ_fst, closeR_fst, forgetR_fst, ics]) <;> simp [closeZ_len, closeR_len, forT_len, movT_len, ownT_len, min_if, max_if, mkD_len, movZ_len, forgetR_len, closeZ_fst, closeR_fst, forgetR_fst, ics, *] <;> omega))))
      have hf : withinR (n, false, D) (n, false, D2) = true ↔ ∀ i j : Nat, i < n.toNat + 1 → j < n.toNat + 1 → g D i j ≤ g D2 i j := by
        unfold withinR
        simp only [decide_true, Bool.not_true, Bool.false_eq_true, if_false, all7, decide_eq_true_eq]
      cases b2 with
      | true =>
        refine LoopP.ind (I := fun z => z = 0) (μ := fun z => 0) ?_ rfl
        rintro i k0 rfl hk
        refine cond_i (fun q1 => ?_) (fun q1 => ?_)
        · refine cond_i (fun q2 => by cases q2) (fun q2 => ?_)
          unfold withinR; simp [boRet]
        · have := of_decide_eq_false q1; omega
      | false =>
        refine LoopP.ind (I := fun z => 0 ≤ z ∧ z ≤ n + 1 ∧ ∀ i j : Nat, (i : Int) < z → j < n.toNat + 1 → g D i j ≤ g D2 i j) (μ := fun z => (n + 1 - z).toNat) ?_ ⟨by omega, by omega, fun i j hi _ => absurd hi (by omega)⟩
        rintro i k0 ⟨i1, i2, i3⟩ hk
        refine cond_i (fun q1 => ?_) (fun q1 => ?_)
        · have q1 := of_decide_eq_true q1
          refine cond_i (fun q2 => ?_) (fun q2 => by cases q2)
          (repeat ((first | with_reducible apply ck_i | with_reducible apply And.intro); · (first | with_reducible rfl | ((try simp only [closeZ_len, closeR_len, forT_len, movT_len, ownT_len, min_if, max_if, mkD_len, movZ_len, forgetR_len, closeZ_fst, closeR_fst, forgetR_fst, ics]) <;> simp [closeZ_len, closeR_len, forT_len, movT_len, ownT_len, min_if, max_if, mkD_len, movZ_len, forgetR_len, closeZ_fst, closeR_fst, forgetR_fst, ics, *] <;> omega))))
          refine LoopP.ind (I := fun z => 0 ≤ z ∧ z ≤ n + 1 ∧ ∀ j : Nat, (j : Int) < z → g D i.toNat j ≤ g D2 i.toNat j) (μ := fun z => (n + 1 - z).toNat) ?_ ⟨by omega, by omega, fun i hi => absurd hi (by omega)⟩
          rintro j k1 ⟨j1, j2, j3⟩ hk1
          refine cond_i (fun q4 => ?_) (fun q4 => ?_)
          · have q4 := of_decide_eq_true q4
            simp only [closeZ_len, closeR_len, forT_len, movT_len, ownT_len, min_if, max_if, mkD_len, movZ_len, forgetR_len, closeZ_fst, closeR_fst, forgetR_fst, ics]
            (repeat ((first | with_reducible apply ck_i | with_reducible apply And.intro); · (first | with_reducible rfl | ((try simp only [closeZ_len, closeR_len, forT_len, movT_len, ownT_len, min_if, max_if, mkD_len, movZ_len, forgetR_len, closeZ_fst, closeR_fst, forgetR_fst, ics]) <;> simp [closeZ_len, closeR_len, forT_len, movT_len, ownT_len, min_if, max_if, mkD_len, movZ_len, forgetR_len, closeZ_fst, closeR_fst, forgetR_fst, ics, *] <;> omega))))
            refine cond_i (fun q7 => ?_) (fun q7 => ?_)
            · have q7 := of_decide_eq_true q7
              cases e : withinR (n, false, D) (n, false, D2) with
              | false => rfl
              | true =>
                have := hf.1 e i.toNat j.toNat (by omega) (by omega)
                omega
            · have q7 := of_decide_eq_false q7
              rw [wr1 (by omega) (by omega)]
              refine And.intro (by (first | with_reducible rfl | ((try simp only [closeZ_len, closeR_len, forT_len, movT_len, ownT_len, min_if, max_if, mkD_len, movZ_len, forgetR_len, closeZ_fst, closeR_fst, forgetR_fst, ics]) <;> simp [closeZ_len, closeR_len, forT_len, movT_len, ownT_len, min_if, max_if, mkD_len, movZ_len, forgetR_len, closeZ_fst, closeR_fst, forgetR_fst, ics, *] <;> omega))) (hk1 _ ⟨by omega, by omega, fun t ht => ?_⟩ (by omega))
              by_cases e : (t : Int) < j
              · exact j3 t e
              · obtain rfl : t = j.toNat := by omega
                omega
          · have q4 := of_decide_eq_false q4
            rw [wr1 (by omega) (by omega)]
            refine And.intro (by (first | with_reducible rfl | ((try simp only [closeZ_len, closeR_len, forT_len, movT_len, ownT_len, min_if, max_if, mkD_len, movZ_len, forgetR_len, closeZ_fst, closeR_fst, forgetR_fst, ics]) <;> simp [closeZ_len, closeR_len, forT_len, movT_len, ownT_len, min_if, max_if, mkD_len, movZ_len, forgetR_len, closeZ_fst, closeR_fst, forgetR_fst, ics, *] <;> omega))) (hk _ ⟨by omega, by omega, fun t s ht hs => ?_⟩ (by omega))
            by_cases e : (t : Int) < i
            · exact i3 t s e hs
            · obtain rfl : t = i.toNat := by omega
              exact j3 s (by omega)
        · have q1 := of_decide_eq_false q1
          rw [hf.2 fun t s ht hs => i3 t s (by omega) hs]; rfl
theorem cx65_ok : CtxOk Try.prog cx65.q.ctx := ctx_nil
theorem sum65_ok : ∀ vs r, sum65 vs = some (true, r) → SoundAt Try.prog 65 vs r := by
  intro vs r h
  unfold sum65 at h
  split at h
  · simp only [Option.some.injEq, Prod.mk.injEq, Bool.and_eq_true] at h
    obtain ⟨⟨⟨h0, h1⟩, h2⟩, rfl⟩ := h
    obtain ⟨n0, b0, D0, hl0, hc0, rfl⟩ := zone_elim h0
    obtain ⟨n1, b1, D1, hl1, hc1, rfl⟩ := zone_elim h1
    (try simp only [zO_ic] at h2)
    (try simp only [zO_ic])
    exact f65_sound _ _ _ _ _ _ cx65_ok (f65_spec n0 b0 D0 hl0 n1 b1 D1 hl1 h2)
  · cases h
theorem f63_spec (n : Int) (b : Bool) (D : List Int) (hl : D.length = 49) (n2 : Int) (b2 : Bool) (D2 : List Int) (hl2 : D2.length = 49) (hn : okN n = true) : f63_wp n b (ic .i64 D) n2 b2 (ic .i64 D2) (fun r' => r' = zRe (joinR (n, b, D) (n2, b2, D2))) := by
  have rn := okN_rng hn
  unfold f63_wp joinR
  (try delta X63_0)
  refine cond_i (fun q => ?_) (fun q => ?_)
  · rw [if_pos q]
    (repeat ((first | with_reducible apply ck_i | with_reducible apply And.intro); · (first | with_reducible rfl | ((try simp only [closeZ_len, closeR_len, min_if, max_if, mkD_len, topZ_len, topR_len, boundR_len, ics]) <;> simp [closeZ_len, closeR_len, min_if, max_if, mkD_len, topZ_len, topR_len, boundR_len, ics, *] <;> omega)))); rfl
  · rw [if_neg (by rw [q]; simp)]
    refine cond_i (fun q1 => ?_) (fun q1 => ?_)
    · rw [if_pos q1]
      (repeat ((first | with_reducible apply ck_i | with_reducible apply And.intro); · (first | with_reducible rfl | ((try simp only [closeZ_len, closeR_len, min_if, max_if, mkD_len, topZ_len, topR_len, boundR_len, ics]) <;> simp [closeZ_len, closeR_len, min_if, max_if, mkD_len, topZ_len, topR_len, boundR_len, ics, *] <;> omega)))); rfl
    · rw [if_neg (by rw [q1]; simp)]
      (repeat ((first | with_reducible apply ck_i | with_reducible apply And.intro); · (first | with_reducible rfl | ((try simp only [closeZ_len, closeR_len, min_if, max_if, mkD_len, topZ_len, topR_len, boundR_len, ics]) <;> simp [closeZ_len, closeR_len, min_if, max_if, mkD_len, topZ_len, topR_len, boundR_len, ics, *] <;> omega))))
      have e0 := parD_0 hl (fun i j => if i ≤ n.toNat ∧ j ≤ n.toNat then max (g D i j) (g D2 i j) else g D i j)
      refine LoopP.ind (I := fun z => 0 ≤ z.1 ∧ z.1 ≤ n + 1 ∧ z.2 = ic .i64 (parD (fun i j => if i ≤ n.toNat ∧ j ≤ n.toNat then max (g D i j) (g D2 i j) else g D i j) (g D) z.1.toNat 0)) (μ := fun z => (n + 1 - z.1).toNat) ?_ ⟨by dsimp only; omega, by dsimp only; omega, congrArg _ e0⟩
      clear e0
      rintro ⟨i, cs⟩ k0 ⟨i1, i2, i3⟩ hk
      dsimp only at i1 i2 i3 ⊢
      subst i3
      have lE0 := parD_len (f := fun i j => if i ≤ n.toNat ∧ j ≤ n.toNat then max (g D i j) (g D2 i j) else g D i j) (h := g D) (i := i.toNat) (j := 0)
      refine cond_i (fun q1 => ?_) (fun q1 => ?_)
      · have q1 := of_decide_eq_true q1
        (repeat ((first | with_reducible apply ck_i | with_reducible apply And.intro); · (first | with_reducible rfl | ((try simp only [closeZ_len, closeR_len, min_if, max_if, mkD_len, topZ_len, topR_len, boundR_len, ics]) <;> simp [closeZ_len, closeR_len, min_if, max_if, mkD_len, topZ_len, topR_len, boundR_len, ics, *] <;> omega))))
        refine LoopP.ind (I := fun z => 0 ≤ z.1 ∧ z.1 ≤ n + 1 ∧ z.2 = ic .i64 (parD (fun i j => if i ≤ n.toNat ∧ j ≤ n.toNat then max (g D i j) (g D2 i j) else g D i j) (g D) i.toNat z.1.toNat)) (μ := fun z => (n + 1 - z.1).toNat) ?_ ⟨by dsimp only; omega, by dsimp only; omega, rfl⟩
        rintro ⟨j, cs⟩ k1 ⟨j1, j2, j3⟩ hk1
        dsimp only at j1 j2 j3 ⊢
        subst j3
        have lE := parD_len (f := fun i j => if i ≤ n.toNat ∧ j ≤ n.toNat then max (g D i j) (g D2 i j) else g D i j) (h := g D) (i := i.toNat) (j := j.toNat)
        refine cond_i (fun q4 => ?_) (fun q4 => ?_)
        · have q4 := of_decide_eq_true q4
          have hk' := hk1 (j + 1, ic .i64 (parD (fun i j => if i ≤ n.toNat ∧ j ≤ n.toNat then max (g D i j) (g D2 i j) else g D i j) (g D) i.toNat (j + 1).toNat)) ⟨by dsimp only; omega, by dsimp only; omega, rfl⟩ (by dsimp only; omega)
          rw [show (j + 1).toNat = j.toNat + 1 by omega, ← parD_set (by omega) (by omega), if_pos (by omega)] at hk'
          have gE := parD_g (f := fun i j => if i ≤ n.toNat ∧ j ≤ n.toNat then max (g D i j) (g D2 i j) else g D i j) (h := g D) (i := i.toNat) (j := j.toNat) (by omega) (by omega)
          clear hk hk1 lE0
          generalize parD (fun i j => if i ≤ n.toNat ∧ j ≤ n.toNat then max (g D i j) (g D2 i j) else g D i j) (g D) i.toNat j.toNat = E at *
          simp only [closeZ_len, closeR_len, min_if, max_if, mkD_len, topZ_len, topR_len, boundR_len, ics, gE, wr1 (show -1000 ≤ j by omega) (show j ≤ 1000 by omega)]
          (repeat ((first | with_reducible apply ck_i | with_reducible apply And.intro); · (first | with_reducible rfl | ((try simp only [closeZ_len, closeR_len, min_if, max_if, mkD_len, topZ_len, topR_len, boundR_len, ics]) <;> simp [closeZ_len, closeR_len, min_if, max_if, mkD_len, topZ_len, topR_len, boundR_len, ics, *] <;> omega))))
          exact hk'
        · have q4 := of_decide_eq_false q4
          rw [wr1 (by omega) (by omega)]
          refine And.intro (by (first | with_reducible rfl | ((try simp only [closeZ_len, closeR_len, min_if, max_if, mkD_len, topZ_len, topR_len, boundR_len, ics]) <;> simp [closeZ_len, closeR_len, min_if, max_if, mkD_len, topZ_len, topR_len, boundR_len, ics, *] <;> omega))) (hk _ ⟨by dsimp only; omega, by dsimp only; omega, ?_⟩ (by dsimp only; omega))
          dsimp only
          rw [parD_row (.inr fun a b ha hb hk => by rw [if_neg (by omega)]), show (i + 1).toNat = i.toNat + 1 by omega]
      · have q1 := of_decide_eq_false q1
        have e : parD (fun i j => if i ≤ n.toNat ∧ j ≤ n.toNat then max (g D i j) (g D2 i j) else g D i j) (g D) i.toNat 0 = mkD fun i j => if i ≤ n.toNat ∧ j ≤ n.toNat then max (g D i j) (g D2 i j) else g D i j := mk_ext fun a b ha hb => by
          by_cases e : a < i.toNat ∨ (a = i.toNat ∧ b < 0)
          · rw [if_pos e]
          · rw [if_neg e, if_neg (by omega)]
        rw [e]
        (repeat ((first | with_reducible apply ck_i | with_reducible apply And.intro); · (first | with_reducible rfl | ((try simp only [closeZ_len, closeR_len, min_if, max_if, mkD_len, topZ_len, topR_len, boundR_len, ics]) <;> simp [closeZ_len, closeR_len, min_if, max_if, mkD_len, topZ_len, topR_len, boundR_len, ics, *] <;> omega)))); rfl
theorem cx63_ok : CtxOk Try.prog cx63.q.ctx := ctx_nil
theorem sum63_ok : ∀ vs r, sum63 vs = some (true, r) → SoundAt Try.prog 63 vs r := by
  intro vs r h
  unfold sum63 at h
  split at h
  · simp only [Option.some.injEq, Prod.mk.injEq, Bool.and_eq_true] at h
    obtain ⟨⟨⟨h0, h1⟩, h2⟩, rfl⟩ := h
    obtain ⟨n0, b0, D0, hl0, hc0, rfl⟩ := zone_elim h0
    obtain ⟨n1, b1, D1, hl1, hc1, rfl⟩ := zone_elim h1
    (try simp only [zO_ic] at h2)
    (try simp only [zO_ic])
    exact f63_sound _ _ _ _ _ _ cx63_ok (f63_spec n0 b0 D0 hl0 n1 b1 D1 hl1 h2)
  · cases h
theorem widR_fst {a b : List Int} {t : Nat} {z : Zo} : (widR a b t z).1 = z.1 := by
  induction t with
  | zero => rfl
  | succ t ih =>
    rw [widR]
    split <;> split <;> simp [boundR_fst, ih]
theorem widR_len {a b : List Int} {t : Nat} {z : Zo} (h : z.2.2.length = 49) : (widR a b t z).2.2.length = 49 := by
  induction t with
  | zero => exact h
  | succ t ih =>
    rw [widR]
    split
    · split
      · exact boundR_len (boundR_len ih)
      · exact boundR_len ih
    · split
      · exact boundR_len ih
      · exact ih
theorem f64_spec (n : Int) (b : Bool) (D : List Int) (hl : D.length = 49) (n2 : Int) (b2 : Bool) (D2 : List Int) (hl2 : D2.length = 49) (hn : okN n = true) (hn2 : okN n2 = true) : f64_wp n b (ic .i64 D) n2 b2 (ic .i64 D2) (fun r' => r' = zRe (widenR (n, b, D) (n2, b2, D2))) := by
  have rn := okN_rng hn
  unfold f64_wp
  (try delta X64_4)
  (try delta X64_2)
  (try delta X64_0)
  (try delta X64_3)
  (try delta X64_1)
  simp only [map_ic]
  refine cond_i (fun q => ?_) (fun q => ?_)
  · have e : widenR (n, b, D) (n2, b2, D2) = (n2, b2, D2) := by unfold widenR; rw [q]; rfl
    rw [e]
    (repeat ((first | with_reducible apply ck_i | with_reducible apply And.intro); · (first | with_reducible rfl | ((try simp only [closeZ_len, closeR_len, min_if, max_if, mkD_len, topZ_len, topR_len, boundR_len, ics]) <;> simp [closeZ_len, closeR_len, min_if, max_if, mkD_len, topZ_len, topR_len, boundR_len, ics, *] <;> omega)))); rfl
  · subst q
    (repeat ((first | with_reducible apply ck_i | with_reducible apply And.intro); · (first | with_reducible rfl | ((try simp only [closeZ_len, closeR_len, min_if, max_if, mkD_len, topZ_len, topR_len, boundR_len, ics]) <;> simp [closeZ_len, closeR_len, min_if, max_if, mkD_len, topZ_len, topR_len, boundR_len, ics, *] <;> omega))))
    refine cond_i (fun q1 => ?_) (fun q1 => ?_)
    · have e : widenR (n, false, D) (n2, b2, D2) = (n, false, D) := by unfold widenR; rw [q1]; rfl
      rw [e]
      (repeat ((first | with_reducible apply ck_i | with_reducible apply And.intro); · (first | with_reducible rfl | ((try simp only [closeZ_len, closeR_len, min_if, max_if, mkD_len, topZ_len, topR_len, boundR_len, ics]) <;> simp [closeZ_len, closeR_len, min_if, max_if, mkD_len, topZ_len, topR_len, boundR_len, ics, *] <;> omega)))); rfl
    · have e : widenR (n, false, D) (n2, b2, D2) = widR D D2 n.toNat (topR n) := by unfold widenR; rw [q1]; rfl
      rw [e]
      have lT := topR_len (n := n)
      have fT : (topR n).1 = n := by
        unfold topR
        rw [closeR_fst]
        unfold capN
        show min (max n 0) 6 = n
        omega
      generalize topR n = T at *
      (repeat ((first | with_reducible apply ck_i | with_reducible apply And.intro); · (first | with_reducible rfl | ((try simp only [closeZ_len, closeR_len, min_if, max_if, mkD_len, topZ_len, topR_len, boundR_len, ics]) <;> simp [closeZ_len, closeR_len, min_if, max_if, mkD_len, topZ_len, topR_len, boundR_len, ics, *] <;> omega))))
      refine LoopP.ind (I := fun z => 0 ≤ z.1 ∧ z.1 ≤ n ∧ z.2 = ((widR D D2 z.1.toNat T).1, (widR D D2 z.1.toNat T).2.1, ic .i64 (widR D D2 z.1.toNat T).2.2)) (μ := fun z => (n - z.1).toNat) ?_ ⟨by dsimp only; omega, by dsimp only; omega, rfl⟩
      rintro ⟨x, wn, wb, cs⟩ k0 ⟨i1, i2, i3⟩ hk
      dsimp only at i1 i2 i3 ⊢
      simp only [Prod.mk.injEq] at i3
      obtain ⟨rfl, rfl, rfl⟩ := i3
      have lW := widR_len (a := D) (b := D2) (t := x.toNat) lT
      have fW : (widR D D2 x.toNat T).1 = n := by rw [widR_fst]; exact fT
      refine cond_i (fun q1 => ?_) (fun q1 => ?_)
      · have q1 := of_decide_eq_true q1
        have hk' := hk (x + 1, (widR D D2 (x + 1).toNat T).1, (widR D D2 (x + 1).toNat T).2.1, ic .i64 (widR D D2 (x + 1).toNat T).2.2) ⟨by dsimp only; omega, by dsimp only; omega, rfl⟩ (by dsimp only; omega)
        rw [show (x + 1).toNat = x.toNat + 1 by omega, widR] at hk'
        rw [show ((x.toNat : Nat) : Int) = x by omega] at hk'
        clear hk e lT fT
        have wx := wr1 (show -1000 ≤ x by omega) (show x ≤ 1000 by omega)
        have tx : (x + 1).toNat = x.toNat + 1 := by omega
        have hx : in16 x = true := by unfold in16; simp; omega
        generalize widR D D2 x.toNat T = W at *
        obtain ⟨wn, wb, WD⟩ := W
        dsimp only at lW fW hk' ⊢
        subst fW
        simp only [wx, tx, closeZ_len, closeR_len, min_if, max_if, mkD_len, topZ_len, topR_len, boundR_len, ics]
        (repeat ((first | with_reducible apply ck_i | with_reducible apply And.intro); · (first | with_reducible rfl | ((try simp only [closeZ_len, closeR_len, min_if, max_if, mkD_len, topZ_len, topR_len, boundR_len, ics]) <;> simp [closeZ_len, closeR_len, min_if, max_if, mkD_len, topZ_len, topR_len, boundR_len, ics, *] <;> omega))))
        refine cond_i (fun q2 => ?_) (fun q2 => ?_)
        · have q2 := of_decide_eq_true q2
          rw [if_pos q2] at hk'
          have lB := boundR_len (z := (wn, wb, WD)) (x := x) (y := -1) (c := g D (x.toNat + 1) 0) lW
          have fB := boundR_fst (z := (wn, wb, WD)) (x := x) (y := -1) (c := g D (x.toNat + 1) 0)
          have lB2 := boundR_len (z := boundR (wn, wb, WD) x (-1) (g D (x.toNat + 1) 0)) (x := -1) (y := x) (c := g D 0 (x.toNat + 1)) lB
          have oB : okN (boundR (wn, wb, WD) x (-1) (g D (x.toNat + 1) 0)).1 = true := by rw [fB]; exact hn
          (repeat ((first | with_reducible apply ck_i | with_reducible apply And.intro); · (first | with_reducible rfl | ((try simp only [closeZ_len, closeR_len, min_if, max_if, mkD_len, topZ_len, topR_len, boundR_len, ics]) <;> simp [closeZ_len, closeR_len, min_if, max_if, mkD_len, topZ_len, topR_len, boundR_len, ics, *] <;> omega))))
          refine cond_i (fun q3 => ?_) (fun q3 => ?_)
          · have q3 := of_decide_eq_true q3
            rw [if_pos q3] at hk'
            (repeat ((first | with_reducible apply ck_i | with_reducible apply And.intro); · (first | with_reducible rfl | ((try simp only [closeZ_len, closeR_len, min_if, max_if, mkD_len, topZ_len, topR_len, boundR_len, ics]) <;> simp [closeZ_len, closeR_len, min_if, max_if, mkD_len, topZ_len, topR_len, boundR_len, ics, *] <;> omega))))
            exact hk'
          · have q3 := of_decide_eq_false q3
            rw [if_neg q3] at hk'
            (repeat ((first | with_reducible apply ck_i | with_reducible apply And.intro); · (first | with_reducible rfl | ((try simp only [closeZ_len, closeR_len, min_if, max_if, mkD_len, topZ_len, topR_len, boundR_len, ics]) <;> simp [closeZ_len, closeR_len, min_if, max_if, mkD_len, topZ_len, topR_len, boundR_len, ics, *] <;> omega))))
            exact hk'
        · have q2 := of_decide_eq_false q2
          rw [if_neg q2] at hk'
          have lB2 := boundR_len (z := (wn, wb, WD)) (x := -1) (y := x) (c := g D 0 (x.toNat + 1)) lW
          (repeat ((first | with_reducible apply ck_i | with_reducible apply And.intro); · (first | with_reducible rfl | ((try simp only [closeZ_len, closeR_len, min_if, max_if, mkD_len, topZ_len, topR_len, boundR_len, ics]) <;> simp [closeZ_len, closeR_len, min_if, max_if, mkD_len, topZ_len, topR_len, boundR_len, ics, *] <;> omega))))
          refine cond_i (fun q3 => ?_) (fun q3 => ?_)
          · have q3 := of_decide_eq_true q3
            rw [if_pos q3] at hk'
            (repeat ((first | with_reducible apply ck_i | with_reducible apply And.intro); · (first | with_reducible rfl | ((try simp only [closeZ_len, closeR_len, min_if, max_if, mkD_len, topZ_len, topR_len, boundR_len, ics]) <;> simp [closeZ_len, closeR_len, min_if, max_if, mkD_len, topZ_len, topR_len, boundR_len, ics, *] <;> omega))))
            exact hk'
          · have q3 := of_decide_eq_false q3
            rw [if_neg q3] at hk'
            (repeat ((first | with_reducible apply ck_i | with_reducible apply And.intro); · (first | with_reducible rfl | ((try simp only [closeZ_len, closeR_len, min_if, max_if, mkD_len, topZ_len, topR_len, boundR_len, ics]) <;> simp [closeZ_len, closeR_len, min_if, max_if, mkD_len, topZ_len, topR_len, boundR_len, ics, *] <;> omega))))
            exact hk'
      · have q1 := of_decide_eq_false q1
        rw [show x.toNat = n.toNat by omega] at lW ⊢
        (repeat ((first | with_reducible apply ck_i | with_reducible apply And.intro); · (first | with_reducible rfl | ((try simp only [closeZ_len, closeR_len, min_if, max_if, mkD_len, topZ_len, topR_len, boundR_len, ics]) <;> simp [closeZ_len, closeR_len, min_if, max_if, mkD_len, topZ_len, topR_len, boundR_len, ics, *] <;> omega)))); rfl
theorem cx64_ok : CtxOk Try.prog cx64.q.ctx := (ctx_cons (g := 65) (ctx_cons (g := 31) (ctx_cons (g := 33) ctx_nil (by kernel_rfl) sum33_ok) (by kernel_rfl) sum31_ok) (by kernel_rfl) sum65_ok)
theorem sum64_ok : ∀ vs r, sum64 vs = some (true, r) → SoundAt Try.prog 64 vs r := by
  intro vs r h
  unfold sum64 at h
  split at h
  · simp only [Option.some.injEq, Prod.mk.injEq, Bool.and_eq_true] at h
    obtain ⟨⟨⟨⟨h0, h1⟩, h2⟩, h3⟩, rfl⟩ := h
    obtain ⟨n0, b0, D0, hl0, hc0, rfl⟩ := zone_elim h0
    obtain ⟨n1, b1, D1, hl1, hc1, rfl⟩ := zone_elim h1
    (try simp only [zO_ic] at h2)
    (try simp only [zO_ic] at h3)
    (try simp only [zO_ic])
    exact f64_sound _ _ _ _ _ _ cx64_ok (f64_spec n0 b0 D0 hl0 n1 b1 D1 hl1 h2 h3)
  · cases h
end Go.Proofs.Ytgmciihlmgeecaa.Fn
