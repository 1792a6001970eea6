import Derived.Test.YtgmciihlmgeecaaPuZ3
/- Functions of zones, on: the reference's closing, all numbers, copies, has. Conditions: those that each lemma names. -/
namespace Go.Proofs.Ytgmciihlmgeecaa.Fn
open Go Go.RowKit Go.Proofs.Ytgmciihlmgeecaa.Mt Go.Proofs.Ytgmciihlmgeecaa.Zm
set_option linter.unusedVariables false
set_option linter.unusedSimpArgs false

theorem relaxR_mm {k i j : Nat} {E : List Int} : st E i j (max (min (g E i j) (IntKind.i64.wrap (g E i k + g E k j))) (-35184372088832)) = relaxR k i j E := by
  rw [IntWalk.i64_left]; rfl

set_option maxHeartbeats 1000000 in
theorem f88_spec (n : Int) (b : Bool) (D : List Int) (hl : D.length = 49) (hn : okN n = true) : f88_wp n b (ic .i64 D) (fun r' => r' = zRe (closeR (n, b, D))) := by
  have hn := okN_rng hn
  unfold f88_wp
  (try delta X88_2)
  (try delta X88_1)
  (try delta X88_0)
  cases b with
  | true => (try simp only [cond_true]); (repeat ((first | with_reducible apply ck_i | with_reducible apply And.intro); · (first | (simp only [closeZ_len, closeR_len, forT_len, movT_len, ownT_len, min_if, max_if, mkD_len, ics]; done) | with_reducible rfl | ((try simp only [closeZ_len, closeR_len, forT_len, movT_len, ownT_len, min_if, max_if, mkD_len, ics]); simp [closeZ_len, closeR_len, forT_len, movT_len, ownT_len, min_if, max_if, mkD_len, ics, *]; done) | ((try simp only [closeZ_len, closeR_len, forT_len, movT_len, ownT_len, min_if, max_if, mkD_len, ics]); simp [closeZ_len, closeR_len, forT_len, movT_len, ownT_len, min_if, max_if, mkD_len, ics, *]; omega)))); rfl
  | false =>
    refine cond_i (fun q => by cases q) (fun _ => ?_)
    (repeat ((first | with_reducible apply ck_i | with_reducible apply And.intro); · (first | (simp only [closeZ_len, closeR_len, forT_len, movT_len, ownT_len, min_if, max_if, mkD_len, ics]; done) | with_reducible rfl | ((try simp only [closeZ_len, closeR_len, forT_len, movT_len, ownT_len, min_if, max_if, mkD_len, ics]); simp [closeZ_len, closeR_len, forT_len, movT_len, ownT_len, min_if, max_if, mkD_len, ics, *]; done) | ((try simp only [closeZ_len, closeR_len, forT_len, movT_len, ownT_len, min_if, max_if, mkD_len, ics]); simp [closeZ_len, closeR_len, forT_len, movT_len, ownT_len, min_if, max_if, mkD_len, ics, *]; omega))))
    refine LoopP.ind (I := fun z => 1 ≤ z.1 ∧ z.1 ≤ n + 1 ∧ z.2 = ic .i64 (ownT (z.1 - 1).toNat D)) (μ := fun z => (n + 1 - z.1).toNat) ?_ ⟨by dsimp only; omega, by dsimp only; omega, rfl⟩
    rintro ⟨i, cs⟩ k0 ⟨i1, i2, i3⟩ hk
    dsimp only at i1 i2 i3 ⊢
    subst i3
    have lE : (ownT (i - 1).toNat D).length = 49 := by rw [ownT_len]; exact hl
    refine cond_i (fun q => ?_) (fun q => ?_)
    · have q := of_decide_eq_true q
      have hk' := hk (i + 1, ic .i64 (ownT (i + 1 - 1).toNat D)) ⟨by dsimp only; omega, by dsimp only; omega, rfl⟩ (by dsimp only; omega)
      have en : ownT (i + 1 - 1).toNat D = st (st (ownT (i - 1).toNat D) i.toNat 0 (min (g (ownT (i - 1).toNat D) i.toNat 0) 2147483647)) 0 i.toNat (min (g (ownT (i - 1).toNat D) 0 i.toNat) 2147483648) := by
        rw [show (i + 1 - 1).toNat = (i - 1).toNat + 1 by omega, show i.toNat = (i - 1).toNat + 1 by omega]; rfl
      rw [en] at hk'
      clear hk en
      generalize ownT (i - 1).toNat D = E at *
      simp only [closeZ_len, closeR_len, forT_len, movT_len, ownT_len, min_if, max_if, mkD_len, ics, wr1 (show -1000 ≤ i by omega) (show i ≤ 1000 by omega), min_if]
      have gF : g (st E i.toNat 0 (min (g E i.toNat 0) 2147483647)) 0 i.toNat = g E 0 i.toNat := by
        rw [g_st (by omega) (by omega) (by omega) (by omega) (by omega), if_neg (by omega)]
      rw [gF]
      (repeat ((first | with_reducible apply ck_i | with_reducible apply And.intro); · (first | (simp only [closeZ_len, closeR_len, forT_len, movT_len, ownT_len, min_if, max_if, mkD_len, ics]; done) | with_reducible rfl | ((try simp only [closeZ_len, closeR_len, forT_len, movT_len, ownT_len, min_if, max_if, mkD_len, ics]); simp [closeZ_len, closeR_len, forT_len, movT_len, ownT_len, min_if, max_if, mkD_len, ics, *]; done) | ((try simp only [closeZ_len, closeR_len, forT_len, movT_len, ownT_len, min_if, max_if, mkD_len, ics]); simp [closeZ_len, closeR_len, forT_len, movT_len, ownT_len, min_if, max_if, mkD_len, ics, *]; omega))))
      exact hk'
    · have q := of_decide_eq_false q
      rw [show (i - 1).toNat = n.toNat by omega] at lE ⊢
      have e : closeR (n, false, D) = if diagB n.toNat (rR n.toNat (n.toNat + 2) (ownT n.toNat D)) then (n, false, rR n.toNat (n.toNat + 2) (ownT n.toNat D)) else (n, true, zeroL) := rfl
      rw [e]
      clear hk e
      generalize ownT n.toNat D = E at *
      rw [wr1 (show -1000 ≤ n by omega) (show n ≤ 1000 by omega)]
      (repeat ((first | with_reducible apply ck_i | with_reducible apply And.intro); · (first | (simp only [closeZ_len, closeR_len, forT_len, movT_len, ownT_len, min_if, max_if, mkD_len, ics]; done) | with_reducible rfl | ((try simp only [closeZ_len, closeR_len, forT_len, movT_len, ownT_len, min_if, max_if, mkD_len, ics]); simp [closeZ_len, closeR_len, forT_len, movT_len, ownT_len, min_if, max_if, mkD_len, ics, *]; done) | ((try simp only [closeZ_len, closeR_len, forT_len, movT_len, ownT_len, min_if, max_if, mkD_len, ics]); simp [closeZ_len, closeR_len, forT_len, movT_len, ownT_len, min_if, max_if, mkD_len, ics, *]; omega))))
      refine LoopP.ind (I := fun z => 0 ≤ z.1 ∧ z.1 ≤ n + 2 ∧ z.2 = ic .i64 (rR n.toNat z.1.toNat E)) (μ := fun z => (n + 2 - z.1).toNat) ?_ ⟨by dsimp only; omega, by dsimp only; omega, rfl⟩
      rintro ⟨t, cs⟩ kk ⟨i1, i2, i3⟩ hk
      dsimp only at i1 i2 i3 ⊢
      subst i3
      have lA : (rR n.toNat t.toNat E).length = 49 := by rw [rR_len]; exact lE
      refine cond_i (fun q => ?_) (fun q => ?_)
      · have q := of_decide_eq_true q
        refine And.intro (by (first | (simp only [closeZ_len, closeR_len, forT_len, movT_len, ownT_len, min_if, max_if, mkD_len, ics]; done) | with_reducible rfl | ((try simp only [closeZ_len, closeR_len, forT_len, movT_len, ownT_len, min_if, max_if, mkD_len, ics]); simp [closeZ_len, closeR_len, forT_len, movT_len, ownT_len, min_if, max_if, mkD_len, ics, *]; done) | ((try simp only [closeZ_len, closeR_len, forT_len, movT_len, ownT_len, min_if, max_if, mkD_len, ics]); simp [closeZ_len, closeR_len, forT_len, movT_len, ownT_len, min_if, max_if, mkD_len, ics, *]; omega))) ?_
        have hk' := hk (t + 1, ic .i64 (rR n.toNat (t + 1).toNat E)) ⟨by dsimp only; omega, by dsimp only; omega, rfl⟩ (by dsimp only; omega)
        rw [show (t + 1).toNat = t.toNat + 1 by omega] at hk'
        have eA : rR n.toNat (t.toNat + 1) E = iR n.toNat (n.toNat + 1) (rR n.toNat t.toNat E) := rfl
        rw [eA] at hk'
        clear hk eA
        generalize rR n.toNat t.toNat E = A at *
        refine LoopP.ind (I := fun z => 0 ≤ z.1 ∧ z.1 ≤ n + 1 ∧ z.2 = ic .i64 (iR n.toNat z.1.toNat A)) (μ := fun z => (n + 1 - z.1).toNat) ?_ ⟨by dsimp only; omega, by dsimp only; omega, rfl⟩
        rintro ⟨i, cs⟩ kk2 ⟨j1, j2, j3⟩ hk
        dsimp only at j1 j2 j3 ⊢
        subst j3
        have lM : (iR n.toNat i.toNat A).length = 49 := by rw [iR_len]; exact lA
        refine cond_i (fun q2 => ?_) (fun q2 => ?_)
        · have q2 := of_decide_eq_true q2
          refine And.intro (by (first | (simp only [closeZ_len, closeR_len, forT_len, movT_len, ownT_len, min_if, max_if, mkD_len, ics]; done) | with_reducible rfl | ((try simp only [closeZ_len, closeR_len, forT_len, movT_len, ownT_len, min_if, max_if, mkD_len, ics]); simp [closeZ_len, closeR_len, forT_len, movT_len, ownT_len, min_if, max_if, mkD_len, ics, *]; done) | ((try simp only [closeZ_len, closeR_len, forT_len, movT_len, ownT_len, min_if, max_if, mkD_len, ics]); simp [closeZ_len, closeR_len, forT_len, movT_len, ownT_len, min_if, max_if, mkD_len, ics, *]; omega))) ?_
          have hm' := hk (i + 1, ic .i64 (iR n.toNat (i + 1).toNat A)) ⟨by dsimp only; omega, by dsimp only; omega, rfl⟩ (by dsimp only; omega)
          rw [show (i + 1).toNat = i.toNat + 1 by omega] at hm'
          have eM : iR n.toNat (i.toNat + 1) A = jR i.toNat n.toNat (n.toNat + 1) (iR n.toNat i.toNat A) := rfl
          rw [eM] at hm'
          clear hk eM
          generalize iR n.toNat i.toNat A = B at *
          refine LoopP.ind (I := fun z => 0 ≤ z.1 ∧ z.1 ≤ n + 1 ∧ z.2 = ic .i64 (jR i.toNat n.toNat z.1.toNat B)) (μ := fun z => (n + 1 - z.1).toNat) ?_ ⟨by dsimp only; omega, by dsimp only; omega, rfl⟩
          rintro ⟨j, cs⟩ kk3 ⟨l1, l2, l3⟩ hk
          dsimp only at l1 l2 l3 ⊢
          subst l3
          have lR : (jR i.toNat n.toNat j.toNat B).length = 49 := by rw [jR_len]; exact lM
          refine cond_i (fun q3 => ?_) (fun q3 => ?_)
          · have q3 := of_decide_eq_true q3
            refine And.intro (by (first | (simp only [closeZ_len, closeR_len, forT_len, movT_len, ownT_len, min_if, max_if, mkD_len, ics]; done) | with_reducible rfl | ((try simp only [closeZ_len, closeR_len, forT_len, movT_len, ownT_len, min_if, max_if, mkD_len, ics]); simp [closeZ_len, closeR_len, forT_len, movT_len, ownT_len, min_if, max_if, mkD_len, ics, *]; done) | ((try simp only [closeZ_len, closeR_len, forT_len, movT_len, ownT_len, min_if, max_if, mkD_len, ics]); simp [closeZ_len, closeR_len, forT_len, movT_len, ownT_len, min_if, max_if, mkD_len, ics, *]; omega))) ?_
            have hr' := hk (j + 1, ic .i64 (jR i.toNat n.toNat (j + 1).toNat B)) ⟨by dsimp only; omega, by dsimp only; omega, rfl⟩ (by dsimp only; omega)
            rw [show (j + 1).toNat = j.toNat + 1 by omega] at hr'
            have eR : jR i.toNat n.toNat (j.toNat + 1) B = kR i.toNat j.toNat (n.toNat + 1) (jR i.toNat n.toNat j.toNat B) := rfl
            rw [eR] at hr'
            clear hk eR
            generalize jR i.toNat n.toNat j.toNat B = C at *
            refine LoopP.ind (I := fun z => 0 ≤ z.1 ∧ z.1 ≤ n + 1 ∧ z.2 = ic .i64 (kR i.toNat j.toNat z.1.toNat C)) (μ := fun z => (n + 1 - z.1).toNat) ?_ ⟨by dsimp only; omega, by dsimp only; omega, rfl⟩
            rintro ⟨k, cs⟩ kk4 ⟨m1, m2, m3⟩ hk
            dsimp only at m1 m2 m3 ⊢
            subst m3
            have lK : (kR i.toNat j.toNat k.toNat C).length = 49 := by rw [kR_len]; exact lR
            refine cond_i (fun q4 => ?_) (fun q4 => ?_)
            · have q4 := of_decide_eq_true q4
              have hx' := hk (k + 1, ic .i64 (kR i.toNat j.toNat (k + 1).toNat C)) ⟨by dsimp only; omega, by dsimp only; omega, rfl⟩ (by dsimp only; omega)
              rw [show (k + 1).toNat = k.toNat + 1 by omega] at hx'
              have eK : kR i.toNat j.toNat (k.toNat + 1) C = relaxR k.toNat i.toNat j.toNat (kR i.toNat j.toNat k.toNat C) := rfl
              rw [eK] at hx'
              clear hk eK
              generalize kR i.toNat j.toNat k.toNat C = F at *
              simp only [closeZ_len, closeR_len, forT_len, movT_len, ownT_len, min_if, max_if, mkD_len, ics, relaxR_mm, wr1 (show -1000 ≤ k by omega) (show k ≤ 1000 by omega)]
              (repeat ((first | with_reducible apply ck_i | with_reducible apply And.intro); · (first | (simp only [closeZ_len, closeR_len, forT_len, movT_len, ownT_len, min_if, max_if, mkD_len, ics]; done) | with_reducible rfl | ((try simp only [closeZ_len, closeR_len, forT_len, movT_len, ownT_len, min_if, max_if, mkD_len, ics]); simp [closeZ_len, closeR_len, forT_len, movT_len, ownT_len, min_if, max_if, mkD_len, ics, *]; done) | ((try simp only [closeZ_len, closeR_len, forT_len, movT_len, ownT_len, min_if, max_if, mkD_len, ics]); simp [closeZ_len, closeR_len, forT_len, movT_len, ownT_len, min_if, max_if, mkD_len, ics, *]; omega))))
              exact hx'
            · have q4 := of_decide_eq_false q4
              refine And.intro (by (first | (simp only [closeZ_len, closeR_len, forT_len, movT_len, ownT_len, min_if, max_if, mkD_len, ics]; done) | with_reducible rfl | ((try simp only [closeZ_len, closeR_len, forT_len, movT_len, ownT_len, min_if, max_if, mkD_len, ics]); simp [closeZ_len, closeR_len, forT_len, movT_len, ownT_len, min_if, max_if, mkD_len, ics, *]; done) | ((try simp only [closeZ_len, closeR_len, forT_len, movT_len, ownT_len, min_if, max_if, mkD_len, ics]); simp [closeZ_len, closeR_len, forT_len, movT_len, ownT_len, min_if, max_if, mkD_len, ics, *]; omega))) ?_
              rw [wr1 (by omega) (by omega), show k.toNat = n.toNat + 1 by omega]
              exact hr'
          · have q3 := of_decide_eq_false q3
            refine And.intro (by (first | (simp only [closeZ_len, closeR_len, forT_len, movT_len, ownT_len, min_if, max_if, mkD_len, ics]; done) | with_reducible rfl | ((try simp only [closeZ_len, closeR_len, forT_len, movT_len, ownT_len, min_if, max_if, mkD_len, ics]); simp [closeZ_len, closeR_len, forT_len, movT_len, ownT_len, min_if, max_if, mkD_len, ics, *]; done) | ((try simp only [closeZ_len, closeR_len, forT_len, movT_len, ownT_len, min_if, max_if, mkD_len, ics]); simp [closeZ_len, closeR_len, forT_len, movT_len, ownT_len, min_if, max_if, mkD_len, ics, *]; omega))) ?_
            rw [wr1 (by omega) (by omega), show j.toNat = n.toNat + 1 by omega]
            exact hm'
        · have q2 := of_decide_eq_false q2
          refine And.intro (by (first | (simp only [closeZ_len, closeR_len, forT_len, movT_len, ownT_len, min_if, max_if, mkD_len, ics]; done) | with_reducible rfl | ((try simp only [closeZ_len, closeR_len, forT_len, movT_len, ownT_len, min_if, max_if, mkD_len, ics]); simp [closeZ_len, closeR_len, forT_len, movT_len, ownT_len, min_if, max_if, mkD_len, ics, *]; done) | ((try simp only [closeZ_len, closeR_len, forT_len, movT_len, ownT_len, min_if, max_if, mkD_len, ics]); simp [closeZ_len, closeR_len, forT_len, movT_len, ownT_len, min_if, max_if, mkD_len, ics, *]; omega))) ?_
          rw [wr1 (by omega) (by omega), show i.toNat = n.toNat + 1 by omega]
          exact hk'
      · have q := of_decide_eq_false q
        refine And.intro (by (first | (simp only [closeZ_len, closeR_len, forT_len, movT_len, ownT_len, min_if, max_if, mkD_len, ics]; done) | with_reducible rfl | ((try simp only [closeZ_len, closeR_len, forT_len, movT_len, ownT_len, min_if, max_if, mkD_len, ics]); simp [closeZ_len, closeR_len, forT_len, movT_len, ownT_len, min_if, max_if, mkD_len, ics, *]; done) | ((try simp only [closeZ_len, closeR_len, forT_len, movT_len, ownT_len, min_if, max_if, mkD_len, ics]); simp [closeZ_len, closeR_len, forT_len, movT_len, ownT_len, min_if, max_if, mkD_len, ics, *]; omega))) ?_
        rw [show t.toNat = n.toNat + 2 by omega] at lA ⊢
        clear hk
        generalize rR n.toNat (n.toNat + 2) E = A at *
        refine LoopP.ind (I := fun z => 0 ≤ z ∧ z ≤ n + 1 ∧ ∀ i : Nat, (i : Int) < z → 0 ≤ g A i i) (μ := fun z => (n + 1 - z).toNat) ?_ ⟨by omega, by omega, fun i hi => by omega⟩
        rintro i kk2 ⟨j1, j2, j3⟩ hk
        refine cond_i (fun q2 => ?_) (fun q2 => ?_)
        · have q2 := of_decide_eq_true q2
          simp only [closeZ_len, closeR_len, forT_len, movT_len, ownT_len, min_if, max_if, mkD_len, ics]
          (repeat ((first | with_reducible apply ck_i | with_reducible apply And.intro); · (first | (simp only [closeZ_len, closeR_len, forT_len, movT_len, ownT_len, min_if, max_if, mkD_len, ics]; done) | with_reducible rfl | ((try simp only [closeZ_len, closeR_len, forT_len, movT_len, ownT_len, min_if, max_if, mkD_len, ics]); simp [closeZ_len, closeR_len, forT_len, movT_len, ownT_len, min_if, max_if, mkD_len, ics, *]; done) | ((try simp only [closeZ_len, closeR_len, forT_len, movT_len, ownT_len, min_if, max_if, mkD_len, ics]); simp [closeZ_len, closeR_len, forT_len, movT_len, ownT_len, min_if, max_if, mkD_len, ics, *]; omega))))
          refine cond_i (fun q3 => ?_) (fun q3 => ?_)
          · have q3 := of_decide_eq_true q3
            have e : diagB n.toNat A = false := by
              cases h : diagB n.toNat A with
              | false => rfl
              | true =>
                have := diagB_ok.1 h i.toNat (by omega)
                omega
            rw [e]; rfl
          · have q3 := of_decide_eq_false q3
            refine And.intro (by (first | (simp only [closeZ_len, closeR_len, forT_len, movT_len, ownT_len, min_if, max_if, mkD_len, ics]; done) | with_reducible rfl | ((try simp only [closeZ_len, closeR_len, forT_len, movT_len, ownT_len, min_if, max_if, mkD_len, ics]); simp [closeZ_len, closeR_len, forT_len, movT_len, ownT_len, min_if, max_if, mkD_len, ics, *]; done) | ((try simp only [closeZ_len, closeR_len, forT_len, movT_len, ownT_len, min_if, max_if, mkD_len, ics]); simp [closeZ_len, closeR_len, forT_len, movT_len, ownT_len, min_if, max_if, mkD_len, ics, *]; omega))) ?_
            rw [wr1 (by omega) (by omega)]
            refine hk _ ⟨by omega, by omega, fun t ht => ?_⟩ (by omega)
            by_cases e : (t : Int) < i
            · exact j3 t e
            · have : t = i.toNat := by omega
              subst this; omega
        · have q2 := of_decide_eq_false q2
          have e : diagB n.toNat A = true := diagB_ok.2 fun t ht => j3 t (by omega)
          rw [e]
          (repeat ((first | with_reducible apply ck_i | with_reducible apply And.intro); · (first | (simp only [closeZ_len, closeR_len, forT_len, movT_len, ownT_len, min_if, max_if, mkD_len, ics]; done) | with_reducible rfl | ((try simp only [closeZ_len, closeR_len, forT_len, movT_len, ownT_len, min_if, max_if, mkD_len, ics]); simp [closeZ_len, closeR_len, forT_len, movT_len, ownT_len, min_if, max_if, mkD_len, ics, *]; done) | ((try simp only [closeZ_len, closeR_len, forT_len, movT_len, ownT_len, min_if, max_if, mkD_len, ics]); simp [closeZ_len, closeR_len, forT_len, movT_len, ownT_len, min_if, max_if, mkD_len, ics, *]; omega))))
          rfl
theorem cx88_ok : CtxOk Try.prog cx88.q.ctx := ctx_nil
theorem sum88_ok : ∀ vs r, sum88 vs = some (true, r) → SoundAt Try.prog 88 vs r := by
  intro vs r h
  unfold sum88 at h
  split at h
  · simp only [Option.some.injEq, Prod.mk.injEq, Bool.and_eq_true] at h
    obtain ⟨⟨h0, h1⟩, rfl⟩ := h
    obtain ⟨n0, b0, D0, hl0, hc0, rfl⟩ := zone_elim h0
    (try simp only [zO_ic] at h1)
    (try simp only [zO_ic])
    exact f88_sound _ _ _ cx88_ok (f88_spec n0 b0 D0 hl0 h1)
  · cases h

/-! ### All numbers -/
def topS (k i j : Nat) : List Int := mkD fun a b => if a ≤ k ∧ b ≤ k ∧ a ≠ b ∧ (a < i ∨ (a = i ∧ b < j)) then 1099511627776 else 0
theorem topS_0 (k : Nat) : zeroL = topS k 0 0 := by
  rw [zero_mk]
  exact mk_ext fun i j hi hj => by rw [if_neg (by omega)]
theorem topS_row {k i : Nat} : topS k i (k + 1) = topS k (i + 1) 0 := mk_ext fun a b ha hb => by
  by_cases e : a ≤ k ∧ b ≤ k ∧ a ≠ b ∧ (a < i ∨ (a = i ∧ b < k + 1))
  · rw [if_pos e, if_pos (by omega)]
  · rw [if_neg e, if_neg (by omega)]
theorem topS_set {k i j : Nat} (hi : i ≤ k) (hj : j ≤ k) (hk : k ≤ 6) (h : i ≠ j) : st (topS k i j) i j 1099511627776 = topS k i (j + 1) := by
  unfold topS
  rw [st_mk _ (by omega) (by omega)]
  refine mk_ext fun a b ha hb => ?_
  by_cases e : a = i ∧ b = j
  · rw [if_pos e, if_pos (by omega)]
  · rw [if_neg e]
    by_cases e2 : a ≤ k ∧ b ≤ k ∧ a ≠ b ∧ (a < i ∨ (a = i ∧ b < j))
    · rw [if_pos e2, if_pos (by omega)]
    · rw [if_neg e2, if_neg (by omega)]
theorem topS_same {k i : Nat} : topS k i i = topS k i (i + 1) := mk_ext fun a b ha hb => by
  by_cases e2 : a ≤ k ∧ b ≤ k ∧ a ≠ b ∧ (a < i ∨ (a = i ∧ b < i))
  · rw [if_pos e2, if_pos (by omega)]
  · rw [if_neg e2, if_neg (by omega)]
theorem topS_end {k : Nat} : topS k (k + 1) 0 = topD k := mk_ext fun a b ha hb => by
  by_cases e2 : a ≤ k ∧ b ≤ k ∧ a ≠ b
  · rw [if_pos (by omega), if_pos e2]
  · rw [if_neg (by omega), if_neg e2]
theorem topS_len {k i j : Nat} : (topS k i j).length = 49 := mkD_len _

theorem f25_spec (a : Int) : f25_wp a (fun r' => r' = zRe (topZ a)) := by
  unfold f25_wp
  (try delta X25_0)
  simp only [min_if, max_if]
  have e0 : min (max a 0) 6 = capN a := rfl
  have e1 : zRe (topZ a) = zRe (closeZ (capN a, false, topD (capN a).toNat)) := rfl
  rw [e1]
  simp only [e0]
  have hn : 0 ≤ capN a ∧ capN a ≤ 6 := by unfold capN; omega
  generalize capN a = n at *
  rw [rep_ic, topS_0 n.toNat]
  refine LoopP.ind (I := fun z => 0 ≤ z.1 ∧ z.1 ≤ n + 1 ∧ z.2 = ic .i64 (topS n.toNat z.1.toNat 0)) (μ := fun z => (n + 1 - z.1).toNat) ?_ ⟨by dsimp only; omega, by dsimp only; omega, rfl⟩
  rintro ⟨i, cs⟩ kk ⟨i1, i2, i3⟩ hk
  dsimp only at i1 i2 i3 ⊢
  subst i3
  refine cond_i (fun q => ?_) (fun q => ?_)
  · have q := of_decide_eq_true q
    refine And.intro (by (first | (simp only [closeZ_len, closeR_len, forT_len, movT_len, ownT_len, min_if, max_if, mkD_len, ics]; done) | with_reducible rfl | ((try simp only [closeZ_len, closeR_len, forT_len, movT_len, ownT_len, min_if, max_if, mkD_len, ics]); simp [closeZ_len, closeR_len, forT_len, movT_len, ownT_len, min_if, max_if, mkD_len, ics, *]; done) | ((try simp only [closeZ_len, closeR_len, forT_len, movT_len, ownT_len, min_if, max_if, mkD_len, ics]); simp [closeZ_len, closeR_len, forT_len, movT_len, ownT_len, min_if, max_if, mkD_len, ics, *]; omega))) ?_
    have hk' := hk (i + 1, ic .i64 (topS n.toNat (i + 1).toNat 0)) ⟨by dsimp only; omega, by dsimp only; omega, rfl⟩ (by dsimp only; omega)
    rw [show (i + 1).toNat = i.toNat + 1 by omega] at hk'
    clear hk
    refine LoopP.ind (I := fun z => 0 ≤ z.1 ∧ z.1 ≤ n + 1 ∧ z.2 = ic .i64 (topS n.toNat i.toNat z.1.toNat)) (μ := fun z => (n + 1 - z.1).toNat) ?_ ⟨by dsimp only; omega, by dsimp only; omega, rfl⟩
    rintro ⟨j, cs⟩ kk2 ⟨j1, j2, j3⟩ hk
    dsimp only at j1 j2 j3 ⊢
    subst j3
    have lE := topS_len (k := n.toNat) (i := i.toNat) (j := j.toNat)
    refine cond_i (fun q2 => ?_) (fun q2 => ?_)
    · have q2 := of_decide_eq_true q2
      have hm' := hk (j + 1, ic .i64 (topS n.toNat i.toNat (j + 1).toNat)) ⟨by dsimp only; omega, by dsimp only; omega, rfl⟩ (by dsimp only; omega)
      rw [show (j + 1).toNat = j.toNat + 1 by omega] at hm'
      rw [wr1 (by omega) (by omega)]
      refine cond_i (fun q3 => ?_) (fun q3 => ?_)
      · have q3 : ¬ i = j := by simpa using q3
        rw [← topS_set (by omega) (by omega) (by omega) (by omega)] at hm'
        simp only [closeZ_len, closeR_len, forT_len, movT_len, ownT_len, min_if, max_if, mkD_len, ics]
        (repeat ((first | with_reducible apply ck_i | with_reducible apply And.intro); · (first | (simp only [closeZ_len, closeR_len, forT_len, movT_len, ownT_len, min_if, max_if, mkD_len, ics]; done) | with_reducible rfl | ((try simp only [closeZ_len, closeR_len, forT_len, movT_len, ownT_len, min_if, max_if, mkD_len, ics]); simp [closeZ_len, closeR_len, forT_len, movT_len, ownT_len, min_if, max_if, mkD_len, ics, *]; done) | ((try simp only [closeZ_len, closeR_len, forT_len, movT_len, ownT_len, min_if, max_if, mkD_len, ics]); simp [closeZ_len, closeR_len, forT_len, movT_len, ownT_len, min_if, max_if, mkD_len, ics, *]; omega))))
        exact hm'
      · have q3 : i = j := by simpa using q3
        subst q3
        rw [← topS_same] at hm'
        (repeat ((first | with_reducible apply ck_i | with_reducible apply And.intro); · (first | (simp only [closeZ_len, closeR_len, forT_len, movT_len, ownT_len, min_if, max_if, mkD_len, ics]; done) | with_reducible rfl | ((try simp only [closeZ_len, closeR_len, forT_len, movT_len, ownT_len, min_if, max_if, mkD_len, ics]); simp [closeZ_len, closeR_len, forT_len, movT_len, ownT_len, min_if, max_if, mkD_len, ics, *]; done) | ((try simp only [closeZ_len, closeR_len, forT_len, movT_len, ownT_len, min_if, max_if, mkD_len, ics]); simp [closeZ_len, closeR_len, forT_len, movT_len, ownT_len, min_if, max_if, mkD_len, ics, *]; omega))))
        exact hm'
    · have q2 := of_decide_eq_false q2
      refine And.intro (by (first | (simp only [closeZ_len, closeR_len, forT_len, movT_len, ownT_len, min_if, max_if, mkD_len, ics]; done) | with_reducible rfl | ((try simp only [closeZ_len, closeR_len, forT_len, movT_len, ownT_len, min_if, max_if, mkD_len, ics]); simp [closeZ_len, closeR_len, forT_len, movT_len, ownT_len, min_if, max_if, mkD_len, ics, *]; done) | ((try simp only [closeZ_len, closeR_len, forT_len, movT_len, ownT_len, min_if, max_if, mkD_len, ics]); simp [closeZ_len, closeR_len, forT_len, movT_len, ownT_len, min_if, max_if, mkD_len, ics, *]; omega))) ?_
      rw [wr1 (by omega) (by omega), show j.toNat = n.toNat + 1 by omega, topS_row]
      exact hk'
  · have q := of_decide_eq_false q
    rw [show i.toNat = n.toNat + 1 by omega, topS_end]
    have lD : (topD n.toNat).length = 49 := mkD_len _
    clear hk
    generalize topD n.toNat = E at *
    (repeat ((first | with_reducible apply ck_i | with_reducible apply And.intro); · (first | (simp only [closeZ_len, closeR_len, forT_len, movT_len, ownT_len, min_if, max_if, mkD_len, ics]; done) | with_reducible rfl | ((try simp only [closeZ_len, closeR_len, forT_len, movT_len, ownT_len, min_if, max_if, mkD_len, ics]); simp [closeZ_len, closeR_len, forT_len, movT_len, ownT_len, min_if, max_if, mkD_len, ics, *]; done) | ((try simp only [closeZ_len, closeR_len, forT_len, movT_len, ownT_len, min_if, max_if, mkD_len, ics]); simp [closeZ_len, closeR_len, forT_len, movT_len, ownT_len, min_if, max_if, mkD_len, ics, *]; omega))))
    simp only [closeZ_len, closeR_len, forT_len, movT_len, ownT_len, min_if, max_if, mkD_len, ics]; rfl
theorem cx25_ok : CtxOk Try.prog cx25.q.ctx := (ctx_cons (g := 83) ctx_nil (by kernel_rfl) sum83_ok)
theorem sum25_ok : ∀ vs r, sum25 vs = some (true, r) → SoundAt Try.prog 25 vs r := by
  intro vs r h
  unfold sum25 at h
  split at h
  · simp only [Option.some.injEq, Prod.mk.injEq, Bool.and_eq_true] at h
    obtain ⟨h0, rfl⟩ := h
    obtain ⟨x0, rfl⟩ := int_elim h0
    (try simp only [zO_ic])
    exact f25_sound _ cx25_ok (f25_spec x0)
  · cases h
theorem f31_spec (a : Int) : f31_wp a (fun r' => r' = zRe (topR a)) := by
  unfold f31_wp
  (try delta X31_0)
  simp only [min_if, max_if]
  have e0 : min (max a 0) 6 = capN a := rfl
  have e1 : zRe (topR a) = zRe (closeR (capN a, false, topD (capN a).toNat)) := rfl
  rw [e1]
  simp only [e0]
  have hn : 0 ≤ capN a ∧ capN a ≤ 6 := by unfold capN; omega
  generalize capN a = n at *
  have ho : okN n = true := by unfold okN; simp; omega
  rw [rep_ic, topS_0 n.toNat]
  refine LoopP.ind (I := fun z => 0 ≤ z.1 ∧ z.1 ≤ n + 1 ∧ z.2 = ic .i64 (topS n.toNat z.1.toNat 0)) (μ := fun z => (n + 1 - z.1).toNat) ?_ ⟨by dsimp only; omega, by dsimp only; omega, rfl⟩
  rintro ⟨i, cs⟩ kk ⟨i1, i2, i3⟩ hk
  dsimp only at i1 i2 i3 ⊢
  subst i3
  refine cond_i (fun q => ?_) (fun q => ?_)
  · have q := of_decide_eq_true q
    refine And.intro (by (first | (simp only [closeZ_len, closeR_len, forT_len, movT_len, ownT_len, min_if, max_if, mkD_len, ics]; done) | with_reducible rfl | ((try simp only [closeZ_len, closeR_len, forT_len, movT_len, ownT_len, min_if, max_if, mkD_len, ics]); simp [closeZ_len, closeR_len, forT_len, movT_len, ownT_len, min_if, max_if, mkD_len, ics, *]; done) | ((try simp only [closeZ_len, closeR_len, forT_len, movT_len, ownT_len, min_if, max_if, mkD_len, ics]); simp [closeZ_len, closeR_len, forT_len, movT_len, ownT_len, min_if, max_if, mkD_len, ics, *]; omega))) ?_
    have hk' := hk (i + 1, ic .i64 (topS n.toNat (i + 1).toNat 0)) ⟨by dsimp only; omega, by dsimp only; omega, rfl⟩ (by dsimp only; omega)
    rw [show (i + 1).toNat = i.toNat + 1 by omega] at hk'
    clear hk
    refine LoopP.ind (I := fun z => 0 ≤ z.1 ∧ z.1 ≤ n + 1 ∧ z.2 = ic .i64 (topS n.toNat i.toNat z.1.toNat)) (μ := fun z => (n + 1 - z.1).toNat) ?_ ⟨by dsimp only; omega, by dsimp only; omega, rfl⟩
    rintro ⟨j, cs⟩ kk2 ⟨j1, j2, j3⟩ hk
    dsimp only at j1 j2 j3 ⊢
    subst j3
    have lE := topS_len (k := n.toNat) (i := i.toNat) (j := j.toNat)
    refine cond_i (fun q2 => ?_) (fun q2 => ?_)
    · have q2 := of_decide_eq_true q2
      have hm' := hk (j + 1, ic .i64 (topS n.toNat i.toNat (j + 1).toNat)) ⟨by dsimp only; omega, by dsimp only; omega, rfl⟩ (by dsimp only; omega)
      rw [show (j + 1).toNat = j.toNat + 1 by omega] at hm'
      rw [wr1 (by omega) (by omega)]
      refine cond_i (fun q3 => ?_) (fun q3 => ?_)
      · have q3 : ¬ i = j := by simpa using q3
        rw [← topS_set (by omega) (by omega) (by omega) (by omega)] at hm'
        simp only [closeZ_len, closeR_len, forT_len, movT_len, ownT_len, min_if, max_if, mkD_len, ics]
        (repeat ((first | with_reducible apply ck_i | with_reducible apply And.intro); · (first | (simp only [closeZ_len, closeR_len, forT_len, movT_len, ownT_len, min_if, max_if, mkD_len, ics]; done) | with_reducible rfl | ((try simp only [closeZ_len, closeR_len, forT_len, movT_len, ownT_len, min_if, max_if, mkD_len, ics]); simp [closeZ_len, closeR_len, forT_len, movT_len, ownT_len, min_if, max_if, mkD_len, ics, *]; done) | ((try simp only [closeZ_len, closeR_len, forT_len, movT_len, ownT_len, min_if, max_if, mkD_len, ics]); simp [closeZ_len, closeR_len, forT_len, movT_len, ownT_len, min_if, max_if, mkD_len, ics, *]; omega))))
        exact hm'
      · have q3 : i = j := by simpa using q3
        subst q3
        rw [← topS_same] at hm'
        (repeat ((first | with_reducible apply ck_i | with_reducible apply And.intro); · (first | (simp only [closeZ_len, closeR_len, forT_len, movT_len, ownT_len, min_if, max_if, mkD_len, ics]; done) | with_reducible rfl | ((try simp only [closeZ_len, closeR_len, forT_len, movT_len, ownT_len, min_if, max_if, mkD_len, ics]); simp [closeZ_len, closeR_len, forT_len, movT_len, ownT_len, min_if, max_if, mkD_len, ics, *]; done) | ((try simp only [closeZ_len, closeR_len, forT_len, movT_len, ownT_len, min_if, max_if, mkD_len, ics]); simp [closeZ_len, closeR_len, forT_len, movT_len, ownT_len, min_if, max_if, mkD_len, ics, *]; omega))))
        exact hm'
    · have q2 := of_decide_eq_false q2
      refine And.intro (by (first | (simp only [closeZ_len, closeR_len, forT_len, movT_len, ownT_len, min_if, max_if, mkD_len, ics]; done) | with_reducible rfl | ((try simp only [closeZ_len, closeR_len, forT_len, movT_len, ownT_len, min_if, max_if, mkD_len, ics]); simp [closeZ_len, closeR_len, forT_len, movT_len, ownT_len, min_if, max_if, mkD_len, ics, *]; done) | ((try simp only [closeZ_len, closeR_len, forT_len, movT_len, ownT_len, min_if, max_if, mkD_len, ics]); simp [closeZ_len, closeR_len, forT_len, movT_len, ownT_len, min_if, max_if, mkD_len, ics, *]; omega))) ?_
      rw [wr1 (by omega) (by omega), show j.toNat = n.toNat + 1 by omega, topS_row]
      exact hk'
  · have q := of_decide_eq_false q
    rw [show i.toNat = n.toNat + 1 by omega, topS_end]
    have lD : (topD n.toNat).length = 49 := mkD_len _
    clear hk
    generalize topD n.toNat = E at *
    (repeat ((first | with_reducible apply ck_i | with_reducible apply And.intro); · (first | (simp only [closeZ_len, closeR_len, forT_len, movT_len, ownT_len, min_if, max_if, mkD_len, ics]; done) | with_reducible rfl | ((try simp only [closeZ_len, closeR_len, forT_len, movT_len, ownT_len, min_if, max_if, mkD_len, ics]); simp [closeZ_len, closeR_len, forT_len, movT_len, ownT_len, min_if, max_if, mkD_len, ics, *]; done) | ((try simp only [closeZ_len, closeR_len, forT_len, movT_len, ownT_len, min_if, max_if, mkD_len, ics]); simp [closeZ_len, closeR_len, forT_len, movT_len, ownT_len, min_if, max_if, mkD_len, ics, *]; omega))))
    simp only [closeZ_len, closeR_len, forT_len, movT_len, ownT_len, min_if, max_if, mkD_len, ics]; rfl
theorem cx31_ok : CtxOk Try.prog cx31.q.ctx := (ctx_cons (g := 88) ctx_nil (by kernel_rfl) sum88_ok)
theorem sum31_ok : ∀ vs r, sum31 vs = some (true, r) → SoundAt Try.prog 31 vs r := by
  intro vs r h
  unfold sum31 at h
  split at h
  · simp only [Option.some.injEq, Prod.mk.injEq, Bool.and_eq_true] at h
    obtain ⟨h0, rfl⟩ := h
    obtain ⟨x0, rfl⟩ := int_elim h0
    (try simp only [zO_ic])
    exact f31_sound _ cx31_ok (f31_spec x0)
  · cases h

/-! ### The reference's bounds, forgetting, copies; the program's copies -/
theorem f33_spec (n : Int) (b : Bool) (D : List Int) (hl : D.length = 49) (x y c : Int) (hn : okN n = true) (hx : in16 x = true) (hy : in16 y = true) : f33_wp n b (ic .i64 D) x y c (fun r' => r' = zRe (boundR (n, b, D) x y c)) := by
  have r1 := in16_rng hx
  have r2 := in16_rng hy
  unfold f33_wp boundR
  (try delta X33_1)
  (try delta X33_0)
  cases b with
  | true => (try simp only [cond_true]); (repeat ((first | with_reducible apply ck_i | with_reducible apply And.intro); · (first | (simp only [closeZ_len, closeR_len, forT_len, movT_len, ownT_len, min_if, max_if, mkD_len, ics]; done) | with_reducible rfl | ((try simp only [closeZ_len, closeR_len, forT_len, movT_len, ownT_len, min_if, max_if, mkD_len, ics]); simp [closeZ_len, closeR_len, forT_len, movT_len, ownT_len, min_if, max_if, mkD_len, ics, *]; done) | ((try simp only [closeZ_len, closeR_len, forT_len, movT_len, ownT_len, min_if, max_if, mkD_len, ics]); simp [closeZ_len, closeR_len, forT_len, movT_len, ownT_len, min_if, max_if, mkD_len, ics, *]; omega)))); rfl
  | false =>
    refine cond_i (fun q => by cases q) (fun _ => ?_)
    simp only [closeZ_len, closeR_len, forT_len, movT_len, ownT_len, min_if, max_if, mkD_len, ics, wr1 (show -1000 ≤ x by omega) (show x ≤ 1000 by omega), wr1 (show -1000 ≤ y by omega) (show y ≤ 1000 by omega)]
    (repeat ((first | with_reducible apply ck_i | with_reducible apply And.intro); · (first | (simp only [closeZ_len, closeR_len, forT_len, movT_len, ownT_len, min_if, max_if, mkD_len, ics]; done) | with_reducible rfl | ((try simp only [closeZ_len, closeR_len, forT_len, movT_len, ownT_len, min_if, max_if, mkD_len, ics]); simp [closeZ_len, closeR_len, forT_len, movT_len, ownT_len, min_if, max_if, mkD_len, ics, *]; done) | ((try simp only [closeZ_len, closeR_len, forT_len, movT_len, ownT_len, min_if, max_if, mkD_len, ics]); simp [closeZ_len, closeR_len, forT_len, movT_len, ownT_len, min_if, max_if, mkD_len, ics, *]; omega)))); rfl
theorem cx33_ok : CtxOk Try.prog cx33.q.ctx := (ctx_cons (g := 88) ctx_nil (by kernel_rfl) sum88_ok)
theorem sum33_ok : ∀ vs r, sum33 vs = some (true, r) → SoundAt Try.prog 33 vs r := by
  intro vs r h
  unfold sum33 at h
  split at h
  · simp only [Option.some.injEq, Prod.mk.injEq, Bool.and_eq_true] at h
    obtain ⟨⟨⟨⟨⟨⟨⟨h0, h1⟩, h2⟩, h3⟩, h4⟩, h5⟩, h6⟩, rfl⟩ := h
    obtain ⟨n0, b0, D0, hl0, hc0, rfl⟩ := zone_elim h0
    obtain ⟨x2, rfl⟩ := int_elim h2
    obtain ⟨x3, rfl⟩ := int_elim h3
    obtain ⟨x4, rfl⟩ := int_elim h4
    (try simp only [zO_ic] at h1)
    (try simp only [zO_ic] at h5)
    (try simp only [zO_ic] at h6)
    (try simp only [zO_ic])
    exact f33_sound _ _ _ _ _ _ cx33_ok (f33_spec n0 b0 D0 hl0 x2 x3 x4 h1 h5 h6)
  · cases h

theorem f89_spec (n : Int) (b : Bool) (D : List Int) (hl : D.length = 49) (x : Int) (hn : okN n = true) (hx : in16 x = true) : f89_wp n b (ic .i64 D) x (fun r' => r' = zRe (forgetR (n, b, D) x)) := by
  have r1 := in16_rng hx
  have rn := okN_rng hn
  unfold f89_wp
  (try delta X89_1)
  (try delta X89_0)
  cases b with
  | true => (try simp only [cond_true]); (repeat ((first | with_reducible apply ck_i | with_reducible apply And.intro); · (first | (simp only [closeZ_len, closeR_len, forT_len, movT_len, ownT_len, min_if, max_if, mkD_len, ics]; done) | with_reducible rfl | ((try simp only [closeZ_len, closeR_len, forT_len, movT_len, ownT_len, min_if, max_if, mkD_len, ics]); simp [closeZ_len, closeR_len, forT_len, movT_len, ownT_len, min_if, max_if, mkD_len, ics, *]; done) | ((try simp only [closeZ_len, closeR_len, forT_len, movT_len, ownT_len, min_if, max_if, mkD_len, ics]); simp [closeZ_len, closeR_len, forT_len, movT_len, ownT_len, min_if, max_if, mkD_len, ics, *]; omega)))); rfl
  | false =>
    refine cond_i (fun q => by cases q) (fun _ => ?_)
    have e : forgetR (n, false, D) x = closeR (n, false, forT (x + 1).toNat (n.toNat + 1) D) := rfl
    rw [e]
    simp only [wr1 (show -1000 ≤ x by omega) (show x ≤ 1000 by omega)]
    (repeat ((first | with_reducible apply ck_i | with_reducible apply And.intro); · (first | (simp only [closeZ_len, closeR_len, forT_len, movT_len, ownT_len, min_if, max_if, mkD_len, ics]; done) | with_reducible rfl | ((try simp only [closeZ_len, closeR_len, forT_len, movT_len, ownT_len, min_if, max_if, mkD_len, ics]); simp [closeZ_len, closeR_len, forT_len, movT_len, ownT_len, min_if, max_if, mkD_len, ics, *]; done) | ((try simp only [closeZ_len, closeR_len, forT_len, movT_len, ownT_len, min_if, max_if, mkD_len, ics]); simp [closeZ_len, closeR_len, forT_len, movT_len, ownT_len, min_if, max_if, mkD_len, ics, *]; omega))))
    refine LoopP.ind (I := fun z => 0 ≤ z.1 ∧ z.1 ≤ n + 1 ∧ z.2 = ic .i64 (forT (x + 1).toNat z.1.toNat D)) (μ := fun z => (n + 1 - z.1).toNat) ?_ ⟨by dsimp only; omega, by dsimp only; omega, rfl⟩
    rintro ⟨i, cs⟩ k0 ⟨i1, i2, i3⟩ hk
    dsimp only at i1 i2 i3 ⊢
    subst i3
    have lE : (forT (x + 1).toNat i.toNat D).length = 49 := by rw [forT_len]; exact hl
    refine cond_i (fun q => ?_) (fun q => ?_)
    · have q := of_decide_eq_true q
      have hk' := hk (i + 1, ic .i64 (forT (x + 1).toNat (i + 1).toNat D)) ⟨by dsimp only; omega, by dsimp only; omega, rfl⟩ (by dsimp only; omega)
      rw [show (i + 1).toNat = i.toNat + 1 by omega, forT] at hk'
      clear hk
      refine cond_i (fun q2 => ?_) (fun q2 => ?_)
      · have q2 : ¬ i = x + 1 := by simpa using q2
        rw [if_neg (by omega)] at hk'
        generalize forT (x + 1).toNat i.toNat D = E at *
        simp only [closeZ_len, closeR_len, forT_len, movT_len, ownT_len, min_if, max_if, mkD_len, ics, wr1 (show -1000 ≤ i by omega) (show i ≤ 1000 by omega)]
        (repeat ((first | with_reducible apply ck_i | with_reducible apply And.intro); · (first | (simp only [closeZ_len, closeR_len, forT_len, movT_len, ownT_len, min_if, max_if, mkD_len, ics]; done) | with_reducible rfl | ((try simp only [closeZ_len, closeR_len, forT_len, movT_len, ownT_len, min_if, max_if, mkD_len, ics]); simp [closeZ_len, closeR_len, forT_len, movT_len, ownT_len, min_if, max_if, mkD_len, ics, *]; done) | ((try simp only [closeZ_len, closeR_len, forT_len, movT_len, ownT_len, min_if, max_if, mkD_len, ics]); simp [closeZ_len, closeR_len, forT_len, movT_len, ownT_len, min_if, max_if, mkD_len, ics, *]; omega))))
        exact hk'
      · have q2 : i = x + 1 := by simpa using q2
        rw [if_pos (by omega)] at hk'
        simp only [wr1 (show -1000 ≤ i by omega) (show i ≤ 1000 by omega)]
        (repeat ((first | with_reducible apply ck_i | with_reducible apply And.intro); · (first | (simp only [closeZ_len, closeR_len, forT_len, movT_len, ownT_len, min_if, max_if, mkD_len, ics]; done) | with_reducible rfl | ((try simp only [closeZ_len, closeR_len, forT_len, movT_len, ownT_len, min_if, max_if, mkD_len, ics]); simp [closeZ_len, closeR_len, forT_len, movT_len, ownT_len, min_if, max_if, mkD_len, ics, *]; done) | ((try simp only [closeZ_len, closeR_len, forT_len, movT_len, ownT_len, min_if, max_if, mkD_len, ics]); simp [closeZ_len, closeR_len, forT_len, movT_len, ownT_len, min_if, max_if, mkD_len, ics, *]; omega))))
        exact hk'
    · have q := of_decide_eq_false q
      have e : i.toNat = n.toNat + 1 := by omega
      rw [e] at lE ⊢
      clear hk
      generalize forT (x + 1).toNat (n.toNat + 1) D = E at *
      (repeat ((first | with_reducible apply ck_i | with_reducible apply And.intro); · (first | (simp only [closeZ_len, closeR_len, forT_len, movT_len, ownT_len, min_if, max_if, mkD_len, ics]; done) | with_reducible rfl | ((try simp only [closeZ_len, closeR_len, forT_len, movT_len, ownT_len, min_if, max_if, mkD_len, ics]); simp [closeZ_len, closeR_len, forT_len, movT_len, ownT_len, min_if, max_if, mkD_len, ics, *]; done) | ((try simp only [closeZ_len, closeR_len, forT_len, movT_len, ownT_len, min_if, max_if, mkD_len, ics]); simp [closeZ_len, closeR_len, forT_len, movT_len, ownT_len, min_if, max_if, mkD_len, ics, *]; omega))))
      simp only [closeZ_len, closeR_len, forT_len, movT_len, ownT_len, min_if, max_if, mkD_len, ics]; rfl
theorem cx89_ok : CtxOk Try.prog cx89.q.ctx := (ctx_cons (g := 88) ctx_nil (by kernel_rfl) sum88_ok)
theorem sum89_ok : ∀ vs r, sum89 vs = some (true, r) → SoundAt Try.prog 89 vs r := by
  intro vs r h
  unfold sum89 at h
  split at h
  · simp only [Option.some.injEq, Prod.mk.injEq, Bool.and_eq_true] at h
    obtain ⟨⟨⟨⟨h0, h1⟩, h2⟩, h3⟩, rfl⟩ := h
    obtain ⟨n0, b0, D0, hl0, hc0, rfl⟩ := zone_elim h0
    obtain ⟨x2, rfl⟩ := int_elim h2
    (try simp only [zO_ic] at h1)
    (try simp only [zO_ic] at h3)
    (try simp only [zO_ic])
    exact f89_sound _ _ _ _ cx89_ok (f89_spec n0 b0 D0 hl0 x2 h1 h3)
  · cases h

theorem movZ_len {n : Int} {b : Bool} {D : List Int} {r c : Int} (h : D.length = 49) : (movZ (n, b, D) r c).2.2.length = 49 := by
  unfold movZ
  exact closeZ_len (by rw [movT_len]; exact h)
theorem forgetR_len {n : Int} {b : Bool} {D : List Int} {x : Int} (h : D.length = 49) : (forgetR (n, b, D) x).2.2.length = 49 := by
  unfold forgetR
  split
  · exact h
  · exact closeR_len (by rw [forT_len]; exact h)

end Go.Proofs.Ytgmciihlmgeecaa.Fn
