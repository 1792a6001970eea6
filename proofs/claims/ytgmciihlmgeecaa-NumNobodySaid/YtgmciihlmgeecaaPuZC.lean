import Derived.Test.YtgmciihlmgeecaaPuZA
import Derived.Test.YtgmciihlmgeecaaWZC
/- The reference's functions of zones: what is told of each is so. Conditions: those that each lemma names. -/
namespace Go.Proofs.Ytgmciihlmgeecaa.Fn
open Go Go.RowKit Go.Proofs.Ytgmciihlmgeecaa.Mt Go.Proofs.Ytgmciihlmgeecaa.Zm
set_option linter.unusedVariables false
set_option linter.unusedSimpArgs false
theorem relaxR_mm {k i j : Nat} {E : List Int} : st E i j (max (min (g E i j) (IntKind.i64.wrap (g E i k + g E k j))) (-35184372088832)) = relaxR k i j E := by
  rw [IntWalk.i64_left]; rfl
set_option maxHeartbeats 1000000 in
theorem f88_spec (n : Int) (b : Bool) (D : List Int) (hl : D.length = 49) (hn : okN n = true) : f88_wp n b (ic .i64 D) (fun r' => r' = zRe (closeR (n, b, D))) := by
  have hn := okN_rng hn
  unfold f88_wp
  (try delta X88_2)
  (try delta X88_1)
  (try delta X88_0)
  cases b with
  | true => (try simp only [cond_true]); (repeat ((first | with_reducible apply ck_i | with_reducible apply And.intro); · (first | with_reducible rfl | ((try simp only [closeZ_len, closeR_len, forT_len, movT_len, ownT_len, min_if, max_if, mkD_len, ics]) <;> simp [closeZ_len, closeR_len, forT_len, movT_len, ownT_len, min_if, max_if, mkD_len, ics, *] <;> omega)))); rfl
  | false =>
    refine cond_i (fun q => by cases q) (fun _ => ?_)
    (repeat ((first | with_reducible apply ck_i | with_reducible apply And.intro); · (first | with_reducible rfl | ((try simp only [closeZ_len, closeR_len, forT_len, movT_len, ownT_len, min_if, max_if, mkD_len, ics]) <;> simp [closeZ_len, closeR_len, forT_len, movT_len, ownT_len, min_if, max_if, mkD_len, ics, *] <;> omega))))
    refine LoopP.ind (I := fun z => 1 ≤ z.1 ∧ z.1 ≤ n + 1 ∧ z.2 = ic .i64 (ownT (z.1 - 1).toNat D)) (μ := fun z => (n + 1 - z.1).toNat) ?_ ⟨by dsimp only; omega, by dsimp only; omega, rfl⟩
    rintro ⟨i, cs⟩ k0 ⟨i1, i2, i3⟩ hk
    dsimp only at i1 i2 i3 ⊢
    subst i3
    have lE : (ownT (i - 1).toNat D).length = 49 := by rw [ownT_len]; exact hl
    refine cond_i (fun q => ?_) (fun q => ?_)
    · have q := of_decide_eq_true q
      have hk' := hk (i + 1, ic .i64 (ownT (i + 1 - 1).toNat D)) ⟨by dsimp only; omega, by dsimp only; omega, rfl⟩ (by dsimp only; omega)
      have en : ownT (i + 1 - 1).toNat D = st (st (ownT (i - 1).toNat D) i.toNat 0 (min (g (ownT (i - 1).toNat D) i.toNat 0) 2147483647)) 0 i.toNat (min (g (ownT (i - 1).toNat D) 0 i.toNat) 2147483648) := by
        rw [show (i + 1 - 1).toNat = (i - 1).toNat + 1 by omega, show i.toNat = (i - 1).toNat + 1 by omega]; rfl
      rw [en] at hk'
      clear hk en
      generalize ownT (i - 1).toNat D = E at *
      simp only [closeZ_len, closeR_len, forT_len, movT_len, ownT_len, min_if, max_if, mkD_len, ics, wr1 (show -1000 ≤ i by omega) (show i ≤ 1000 by omega), min_if]
      have gF : g (st E i.toNat 0 (min (g E i.toNat 0) 2147483647)) 0 i.toNat = g E 0 i.toNat := by
        rw [g_st (by omega) (by omega) (by omega) (by omega) (by omega), if_neg (by omega)]
      rw [gF]
      (repeat ((first | with_reducible apply ck_i | with_reducible apply And.intro); · (first | with_reducible rfl | ((try simp only [closeZ_len, closeR_len, forT_len, movT_len, ownT_len, min_if, max_if, mkD_len, ics]) <;> simp [closeZ_len, closeR_len, forT_len, movT_len, ownT_len, min_if, max_if, mkD_len, ics, *] <;> omega))))
      exact hk'
    · have q := of_decide_eq_false q
      rw [show (i - 1).toNat = n.toNat by omega] at lE ⊢
      have e : closeR (n, false, D) = if diagB n.toNat (rR n.toNat (n.toNat + 2) (ownT n.toNat D)) then (n, false, rR n.toNat (n.toNat + 2) (ownT n.toNat D)) else (n, true, zeroL) := rfl
      rw [e]
      clear hk e
      generalize ownT n.toNat D = E at *
      rw [wr1 (show -1000 ≤ n by omega) (show n ≤ 1000 by omega)]
      (repeat ((first | with_reducible apply ck_i | with_reducible apply And.intro); · (first | with_reducible rfl | ((try simp only [closeZ_len, closeR_len, forT_len, movT_len, ownT_len, min_if, max_if, mkD_len, ics]) <;> simp [closeZ_len, closeR_len, forT_len, movT_len, ownT_len, min_if, max_if, mkD_len, ics, *] <;> omega))))
      refine LoopP.ind (I := fun z => 0 ≤ z.1 ∧ z.1 ≤ n + 2 ∧ z.2 = ic .i64 (rR n.toNat z.1.toNat E)) (μ := fun z => (n + 2 - z.1).toNat) ?_ ⟨by dsimp only; omega, by dsimp only; omega, rfl⟩
      rintro ⟨t, cs⟩ kk ⟨i1, i2, i3⟩ hk
      dsimp only at i1 i2 i3 ⊢
      subst i3
      have lA : (rR n.toNat t.toNat E).length = 49 := by rw [rR_len]; exact lE
      refine cond_i (fun q => ?_) (fun q => ?_)
      · have q := of_decide_eq_true q
        refine And.intro (by (first | with_reducible rfl | ((try simp only [closeZ_len, closeR_len, forT_len, movT_len, ownT_len, min_if, max_if, mkD_len, ics]) <;> simp [closeZ_len, closeR_len, forT_len, movT_len, ownT_len, min_if, max_if, mkD_len, ics, *] <;> omega))) ?_
        have hk' := hk (t + 1, ic .i64 (rR n.toNat (t + 1).toNat E)) ⟨by dsimp only; omega, by dsimp only; omega, rfl⟩ (by dsimp only; omega)
        rw [show (t + 1).toNat = t.toNat + 1 by omega] at hk'
        have eA : rR n.toNat (t.toNat + 1) E = iR n.toNat (n.toNat + 1) (rR n.toNat t.toNat E) := rfl
        rw [eA] at hk'
        clear hk eA
        generalize rR n.toNat t.toNat E = A at *
        refine LoopP.ind (I := fun z => 0 ≤ z.1 ∧ z.1 ≤ n + 1 ∧ z.2 = ic .i64 (iR n.toNat z.1.toNat A)) (μ := fun z => (n + 1 - z.1).toNat) ?_ ⟨by dsimp only; omega, by dsimp only; omega, rfl⟩
        rintro ⟨i, cs⟩ kk2 ⟨j1, j2, j3⟩ hk
        dsimp only at j1 j2 j3 ⊢
        subst j3
        have lM : (iR n.toNat i.toNat A).length = 49 := by rw [iR_len]; exact lA
        refine cond_i (fun q2 => ?_) (fun q2 => ?_)
        · have q2 := of_decide_eq_true q2
          refine And.intro (by (first | with_reducible rfl | ((try simp only [closeZ_len, closeR_len, forT_len, movT_len, ownT_len, min_if, max_if, mkD_len, ics]) <;> simp [closeZ_len, closeR_len, forT_len, movT_len, ownT_len, min_if, max_if, mkD_len, ics, *] <;> omega))) ?_
          have hm' := hk (i + 1, ic .i64 (iR n.toNat (i + 1).toNat A)) ⟨by dsimp only; omega, by dsimp only; omega, rfl⟩ (by dsimp only; omega)
          rw [show (i + 1).toNat = i.toNat + 1 by omega] at hm'
          have eM : iR n.toNat (i.toNat + 1) A = jR i.toNat n.toNat (n.toNat + 1) (iR n.toNat i.toNat A) := rfl
          rw [eM] at hm'
          clear hk eM
          generalize iR n.toNat i.toNat A = B at *
          refine LoopP.ind (I := fun z => 0 ≤ z.1 ∧ z.1 ≤ n + 1 ∧ z.2 = ic .i64 (jR i.toNat n.toNat z.1.toNat B)) (μ := fun z => (n + 1 - z.1).toNat) ?_ ⟨by dsimp only; omega, by dsimp only; omega, rfl⟩
          rintro ⟨j, cs⟩ kk3 ⟨l1, l2, l3⟩ hk
          dsimp only at l1 l2 l3 ⊢
          subst l3
          have lR : (jR i.toNat n.toNat j.toNat B).length = 49 := by rw [jR_len]; exact lM
          refine cond_i (fun q3 => ?_) (fun q3 => ?_)
          · have q3 := of_decide_eq_true q3
            refine And.intro (by (first | with_reducible rfl | ((try simp only [closeZ_len, closeR_len, forT_len, movT_len, ownT_len, min_if, max_if, mkD_len, ics]) <;> simp [closeZ_len, closeR_len, forT_len, movT_len, ownT_len, min_if, max_if, mkD_len, ics, *] <;> omega))) ?_
            have hr' := hk (j + 1, ic .i64 (jR i.toNat n.toNat (j + 1).toNat B)) ⟨by dsimp only; omega, by dsimp only; omega, rfl⟩ (by dsimp only; omega)
            rw [show (j + 1).toNat = j.toNat + 1 by omega] at hr'
            have eR : jR i.toNat n.toNat (j.toNat + 1) B = kR i.toNat j.toNat (n.toNat + 1) (jR i.toNat n.toNat j.toNat B) := rfl
            rw [eR] at hr'
            clear hk eR
            generalize jR i.toNat n.toNat j.toNat B = C at *
            refine LoopP.ind (I := fun z => 0 ≤ z.1 ∧ z.1 ≤ n + 1 ∧ z.2 = ic .i64 (kR i.toNat j.toNat z.1.toNat C)) (μ := fun z => (n + 1 - z.1).toNat) ?_ ⟨by dsimp only; omega, by dsimp only; omega, rfl⟩
            rintro ⟨k, cs⟩ kk4 ⟨m1, m2, m3⟩ hk
            dsimp only at m1 m2 m3 ⊢
            subst m3
            have lK : (kR i.toNat j.toNat k.toNat C).length = 49 := by rw [kR_len]; exact lR
            refine cond_i (fun q4 => ?_) (fun q4 => ?_)
            · have q4 := of_decide_eq_true q4
              have hx' := hk (k + 1, ic .i64 (kR i.toNat j.toNat (k + 1).toNat C)) ⟨by dsimp only; omega, by dsimp only; omega, rfl⟩ (by dsimp only; omega)
              rw [show (k + 1).toNat = k.toNat + 1 by omega] at hx'
              have eK : kR i.toNat j.toNat (k.toNat + 1) C = relaxR k.toNat i.toNat j.toNat (kR i.toNat j.toNat k.toNat C) := rfl
              rw [eK] at hx'
              clear hk eK
              generalize kR i.toNat j.toNat k.toNat C = F at *
              simp only [closeZ_len, closeR_len, forT_len, movT_len, ownT_len, min_if, max_if, mkD_len, ics, relaxR_mm, wr1 (show -1000 ≤ k by omega) (show k ≤ 1000 by omega)]
              (repeat ((first | with_reducible apply ck_i | with_reducible apply And.intro); · (first | with_reducible rfl | ((try simp only [closeZ_len, closeR_len, forT_len, movT_len, ownT_len, min_if, max_if, mkD_len, ics]) <;> simp [closeZ_len, closeR_len, forT_len, movT_len, ownT_len, min_if, max_if, mkD_len, ics, *] <;> omega))))
              exact hx'
            · have q4 := of_decide_eq_false q4
              refine And.intro (by (first | with_reducible rfl | ((try simp only [closeZ_len, closeR_len, forT_len, movT_len, ownT_len, min_if, max_if, mkD_len, ics]) <;> simp [closeZ_len, closeR_len, forT_len, movT_len, ownT_len, min_if, max_if, mkD_len, ics, *] <;> omega))) ?_
              rw [wr1 (by omega) (by omega), show k.toNat = n.toNat + 1 by omega]
              exact hr'
          · have q3 := of_decide_eq_false q3
            refine And.intro (by (first | with_reducible rfl | ((try simp only [closeZ_len, closeR_len, forT_len, movT_len, ownT_len, min_if, max_if, mkD_len, ics]) <;> simp [closeZ_len, closeR_len, forT_len, movT_len, ownT_len, min_if, max_if, mkD_len, ics, *] <;> omega))) ?_
            rw [wr1 (by omega) (by omega), show j.toNat = n.toNat + 1 by omega]
            exact hm'
        · have q2 := of_decide_eq_false q2
          refine And.intro (by (first | with_reducible rfl | ((try simp only [closeZ_len, closeR_len, forT_len, movT_len, ownT_len, min_if, max_if, mkD_len, ics]) <;> simp [closeZ_len, closeR_len, forT_len, movT_len, ownT_len, min_if, max_if, mkD_len, ics, *] <;> omega))) ?_
          rw [wr1 (by omega) (by omega), show i.toNat = n.toNat + 1 by omega]
          exact hk'
      · have q := of_decide_eq_false q
        refine And.intro (by (first | with_reducible rfl | ((try simp only [closeZ_len, closeR_len, forT_len, movT_len, ownT_len, min_if, max_if, mkD_len, ics]) <;> simp [closeZ_len, closeR_len, forT_len, movT_len, ownT_len, min_if, max_if, mkD_len, ics, *] <;> omega))) ?_
        rw [show t.toNat = n.toNat + 2 by omega] at lA ⊢
        clear hk
        generalize rR n.toNat (n.toNat + 2) E = A at *
        refine LoopP.ind (I := fun z => 0 ≤ z ∧ z ≤ n + 1 ∧ ∀ i : Nat, (i : Int) < z → 0 ≤ g A i i) (μ := fun z => (n + 1 - z).toNat) ?_ ⟨by omega, by omega, fun i hi => by omega⟩
        rintro i kk2 ⟨j1, j2, j3⟩ hk
        refine cond_i (fun q2 => ?_) (fun q2 => ?_)
        · have q2 := of_decide_eq_true q2
          simp only [closeZ_len, closeR_len, forT_len, movT_len, ownT_len, min_if, max_if, mkD_len, ics]
          (repeat ((first | with_reducible apply ck_i | with_reducible apply And.intro); · (first | with_reducible rfl | ((try simp only [closeZ_len, closeR_len, forT_len, movT_len, ownT_len, min_if, max_if, mkD_len, ics]) <;> simp [closeZ_len, closeR_len, forT_len, movT_len, ownT_len, min_if, max_if, mkD_len, ics, *] <;> omega))))
          refine cond_i (fun q3 => ?_) (fun q3 => ?_)
          · have q3 := of_decide_eq_true q3
            have e : diagB n.toNat A = false := by
              cases h : diagB n.toNat A with
              | false => rfl
              | true =>
                have := diagB_ok.1 h i.toNat (by omega)
                omega
            rw [e]; rfl
          · have q3 := of_decide_eq_false q3
            refine And.intro (by (first | with_reducible rfl | ((try simp only [closeZ_len, closeR_len, forT_len, movT_len, ownT_len, min_if, max_if, mkD_len, ics]) <;> simp [closeZ_len, closeR_len, forT_len, movT_len, ownT_len, min_if, max_if, mkD_len, ics, *] <;> omega))) ?_
            rw [wr1 (by omega) (by omega)]
            refine hk _ ⟨by omega, by omega, fun t ht => ?_⟩ (by omega)
            by_cases e : (t : Int) < i
            · exact j3 t e
            · have : t = i.toNat := by omega
              subst this; omega
        · have q2 := of_decide_eq_false q2
          have e : diagB n.toNat A = true := diagB_ok.2 fun t ht => j3 t (by omega)
          rw [e]
          (repeat ((first | with_reducible apply ck_i | with_reducible apply And.intro); · (first | with_reducible rfl | ((try simp only [closeZ_len, closeR_len, forT_len, movT_len, ownT_len, min_if, max_if, mkD_len, ics]) <;> simp [closeZ_len, closeR_len, forT_len, movT_len, ownT_len, min_if, max_if, mkD_len, ics, *] <;> omega))))
          rfl
theorem cx88_ok : CtxOk Try.prog cx88.q.ctx := ctx_nil
theorem sum88_ok : ∀ vs r, sum88 vs = some (true, r) → SoundAt Try.prog 88 vs r := by
  intro vs r h
  unfold sum88 at h
  split at h
  · simp only [Option.some.injEq, Prod.mk.injEq, Bool.and_eq_true] at h
    obtain ⟨⟨h0, h1⟩, rfl⟩ := h
    obtain ⟨n0, b0, D0, hl0, hc0, rfl⟩ := zone_elim h0
    (try simp only [zO_ic] at h1)
    (try simp only [zO_ic])
    exact f88_sound _ _ _ cx88_ok (f88_spec n0 b0 D0 hl0 h1)
  · cases h
theorem f31_spec (a : Int) : f31_wp a (fun r' => r' = zRe (topR a)) := by
  unfold f31_wp
  (try delta X31_0)
  simp only [min_if, max_if]
  have e0 : min (max a 0) 6 = capN a := rfl
  have e1 : zRe (topR a) = zRe (closeR (capN a, false, topD (capN a).toNat)) := rfl
  rw [e1]
  simp only [e0]
  have hn : 0 ≤ capN a ∧ capN a ≤ 6 := by unfold capN; omega
  generalize capN a = n at *
  have ho : okN n = true := by unfold okN; simp; omega
  rw [rep_ic, topS_0 n.toNat]
  refine LoopP.ind (I := fun z => 0 ≤ z.1 ∧ z.1 ≤ n + 1 ∧ z.2 = ic .i64 (topS n.toNat z.1.toNat 0)) (μ := fun z => (n + 1 - z.1).toNat) ?_ ⟨by dsimp only; omega, by dsimp only; omega, rfl⟩
  rintro ⟨i, cs⟩ kk ⟨i1, i2, i3⟩ hk
  dsimp only at i1 i2 i3 ⊢
  subst i3
  refine cond_i (fun q => ?_) (fun q => ?_)
  · have q := of_decide_eq_true q
    refine And.intro (by (first | with_reducible rfl | ((try simp only [closeZ_len, closeR_len, forT_len, movT_len, ownT_len, min_if, max_if, mkD_len, ics]) <;> simp [closeZ_len, closeR_len, forT_len, movT_len, ownT_len, min_if, max_if, mkD_len, ics, *] <;> omega))) ?_
    have hk' := hk (i + 1, ic .i64 (topS n.toNat (i + 1).toNat 0)) ⟨by dsimp only; omega, by dsimp only; omega, rfl⟩ (by dsimp only; omega)
    rw [show (i + 1).toNat = i.toNat + 1 by omega] at hk'
    clear hk
    refine LoopP.ind (I := fun z => 0 ≤ z.1 ∧ z.1 ≤ n + 1 ∧ z.2 = ic .i64 (topS n.toNat i.toNat z.1.toNat)) (μ := fun z => (n + 1 - z.1).toNat) ?_ ⟨by dsimp only; omega, by dsimp only; omega, rfl⟩
    rintro ⟨j, cs⟩ kk2 ⟨j1, j2, j3⟩ hk
    dsimp only at j1 j2 j3 ⊢
    subst j3
    have lE := topS_len (k := n.toNat) (i := i.toNat) (j := j.toNat)
    refine cond_i (fun q2 => ?_) (fun q2 => ?_)
    · have q2 := of_decide_eq_true q2
      have hm' := hk (j + 1, ic .i64 (topS n.toNat i.toNat (j + 1).toNat)) ⟨by dsimp only; omega, by dsimp only; omega, rfl⟩ (by dsimp only; omega)
      rw [show (j + 1).toNat = j.toNat + 1 by omega] at hm'
      rw [wr1 (by omega) (by omega)]
      refine cond_i (fun q3 => ?_) (fun q3 => ?_)
      · have q3 : ¬ i = j := by simpa using q3
        rw [← topS_set (by omega) (by omega) (by omega) (by omega)] at hm'
        simp only [closeZ_len, closeR_len, forT_len, movT_len, ownT_len, min_if, max_if, mkD_len, ics]
        (repeat ((first | with_reducible apply ck_i | with_reducible apply And.intro); · (first | with_reducible rfl | ((try simp only [closeZ_len, closeR_len, forT_len, movT_len, ownT_len, min_if, max_if, mkD_len, ics]) <;> simp [closeZ_len, closeR_len, forT_len, movT_len, ownT_len, min_if, max_if, mkD_len, ics, *] <;> omega))))
        exact hm'
      · have q3 : i = j := by simpa using q3
        subst q3
        rw [← topS_same] at hm'
        (repeat ((first | with_reducible apply ck_i | with_reducible apply And.intro); · (first | with_reducible rfl | ((try simp only [closeZ_len, closeR_len, forT_len, movT_len, ownT_len, min_if, max_if, mkD_len, ics]) <;> simp [closeZ_len, closeR_len, forT_len, movT_len, ownT_len, min_if, max_if, mkD_len, ics, *] <;> omega))))
        exact hm'
    · have q2 := of_decide_eq_false q2
      refine And.intro (by (first | with_reducible rfl | ((try simp only [closeZ_len, closeR_len, forT_len, movT_len, ownT_len, min_if, max_if, mkD_len, ics]) <;> simp [closeZ_len, closeR_len, forT_len, movT_len, ownT_len, min_if, max_if, mkD_len, ics, *] <;> omega))) ?_
      rw [wr1 (by omega) (by omega), show j.toNat = n.toNat + 1 by omega, topS_row]
      exact hk'
  · have q := of_decide_eq_false q
    rw [show i.toNat = n.toNat + 1 by omega, topS_end]
    have lD : (topD n.toNat).length = 49 := mkD_len _
    clear hk
    generalize topD n.toNat = E at *
    (repeat ((first | with_reducible apply ck_i | with_reducible apply And.intro); · (first | with_reducible rfl | ((try simp only [closeZ_len, closeR_len, forT_len, movT_len, ownT_len, min_if, max_if, mkD_len, ics]) <;> simp [closeZ_len, closeR_len, forT_len, movT_len, ownT_len, min_if, max_if, mkD_len, ics, *] <;> omega))))
    simp only [closeZ_len, closeR_len, forT_len, movT_len, ownT_len, min_if, max_if, mkD_len, ics]; rfl
theorem cx31_ok : CtxOk Try.prog cx31.q.ctx := (ctx_cons (g := 88) ctx_nil (by kernel_rfl) sum88_ok)
theorem sum31_ok : ∀ vs r, sum31 vs = some (true, r) → SoundAt Try.prog 31 vs r := by
  intro vs r h
  unfold sum31 at h
  split at h
  · simp only [Option.some.injEq, Prod.mk.injEq, Bool.and_eq_true] at h
    obtain ⟨h0, rfl⟩ := h
    obtain ⟨x0, rfl⟩ := int_elim h0
    (try simp only [zO_ic])
    exact f31_sound _ cx31_ok (f31_spec x0)
  · cases h
theorem f33_spec (n : Int) (b : Bool) (D : List Int) (hl : D.length = 49) (x y c : Int) (hn : okN n = true) (hx : in16 x = true) (hy : in16 y = true) : f33_wp n b (ic .i64 D) x y c (fun r' => r' = zRe (boundR (n, b, D) x y c)) := by
  have r1 := in16_rng hx
  have r2 := in16_rng hy
  unfold f33_wp boundR
  (try delta X33_1)
  (try delta X33_0)
  cases b with
  | true => (try simp only [cond_true]); (repeat ((first | with_reducible apply ck_i | with_reducible apply And.intro); · (first | with_reducible rfl | ((try simp only [closeZ_len, closeR_len, forT_len, movT_len, ownT_len, min_if, max_if, mkD_len, ics]) <;> simp [closeZ_len, closeR_len, forT_len, movT_len, ownT_len, min_if, max_if, mkD_len, ics, *] <;> omega)))); rfl
  | false =>
    refine cond_i (fun q => by cases q) (fun _ => ?_)
    simp only [closeZ_len, closeR_len, forT_len, movT_len, ownT_len, min_if, max_if, mkD_len, ics, wr1 (show -1000 ≤ x by omega) (show x ≤ 1000 by omega), wr1 (show -1000 ≤ y by omega) (show y ≤ 1000 by omega)]
    (repeat ((first | with_reducible apply ck_i | with_reducible apply And.intro); · (first | with_reducible rfl | ((try simp only [closeZ_len, closeR_len, forT_len, movT_len, ownT_len, min_if, max_if, mkD_len, ics]) <;> simp [closeZ_len, closeR_len, forT_len, movT_len, ownT_len, min_if, max_if, mkD_len, ics, *] <;> omega)))); rfl
theorem cx33_ok : CtxOk Try.prog cx33.q.ctx := (ctx_cons (g := 88) ctx_nil (by kernel_rfl) sum88_ok)
theorem sum33_ok : ∀ vs r, sum33 vs = some (true, r) → SoundAt Try.prog 33 vs r := by
  intro vs r h
  unfold sum33 at h
  split at h
  · simp only [Option.some.injEq, Prod.mk.injEq, Bool.and_eq_true] at h
    obtain ⟨⟨⟨⟨⟨⟨⟨h0, h1⟩, h2⟩, h3⟩, h4⟩, h5⟩, h6⟩, rfl⟩ := h
    obtain ⟨n0, b0, D0, hl0, hc0, rfl⟩ := zone_elim h0
    obtain ⟨x2, rfl⟩ := int_elim h2
    obtain ⟨x3, rfl⟩ := int_elim h3
    obtain ⟨x4, rfl⟩ := int_elim h4
    (try simp only [zO_ic] at h1)
    (try simp only [zO_ic] at h5)
    (try simp only [zO_ic] at h6)
    (try simp only [zO_ic])
    exact f33_sound _ _ _ _ _ _ cx33_ok (f33_spec n0 b0 D0 hl0 x2 x3 x4 h1 h5 h6)
  · cases h
theorem f89_spec (n : Int) (b : Bool) (D : List Int) (hl : D.length = 49) (x : Int) (hn : okN n = true) (hx : in16 x = true) : f89_wp n b (ic .i64 D) x (fun r' => r' = zRe (forgetR (n, b, D) x)) := by
  have r1 := in16_rng hx
  have rn := okN_rng hn
  unfold f89_wp
  (try delta X89_1)
  (try delta X89_0)
  cases b with
  | true => (try simp only [cond_true]); (repeat ((first | with_reducible apply ck_i | with_reducible apply And.intro); · (first | with_reducible rfl | ((try simp only [closeZ_len, closeR_len, forT_len, movT_len, ownT_len, min_if, max_if, mkD_len, ics]) <;> simp [closeZ_len, closeR_len, forT_len, movT_len, ownT_len, min_if, max_if, mkD_len, ics, *] <;> omega)))); rfl
  | false =>
    refine cond_i (fun q => by cases q) (fun _ => ?_)
    have e : forgetR (n, false, D) x = closeR (n, false, forT (x + 1).toNat (n.toNat + 1) D) := rfl
    rw [e]
    simp only [wr1 (show -1000 ≤ x by omega) (show x ≤ 1000 by omega)]
    (repeat ((first | with_reducible apply ck_i | with_reducible apply And.intro); · (first | with_reducible rfl | ((try simp only [closeZ_len, closeR_len, forT_len, movT_len, ownT_len, min_if, max_if, mkD_len, ics]) <;> simp [closeZ_len, closeR_len, forT_len, movT_len, ownT_len, min_if, max_if, mkD_len, ics, *] <;> omega))))
    refine LoopP.ind (I := fun z => 0 ≤ z.1 ∧ z.1 ≤ n + 1 ∧ z.2 = ic .i64 (forT (x + 1).toNat z.1.toNat D)) (μ := fun z => (n + 1 - z.1).toNat) ?_ ⟨by dsimp only; omega, by dsimp only; omega, rfl⟩
    rintro ⟨i, cs⟩ k0 ⟨i1, i2, i3⟩ hk
    dsimp only at i1 i2 i3 ⊢
    subst i3
    have lE : (forT (x + 1).toNat i.toNat D).length = 49 := by rw [forT_len]; exact hl
    refine cond_i (fun q => ?_) (fun q => ?_)
    · have q := of_decide_eq_true q
      have hk' := hk (i + 1, ic .i64 (forT (x + 1).toNat (i + 1).toNat D)) ⟨by dsimp only; omega, by dsimp only; omega, rfl⟩ (by dsimp only; omega)
      rw [show (i + 1).toNat = i.toNat + 1 by omega, forT] at hk'
      clear hk
      refine cond_i (fun q2 => ?_) (fun q2 => ?_)
      · have q2 : ¬ i = x + 1 := by simpa using q2
        rw [if_neg (by omega)] at hk'
        generalize forT (x + 1).toNat i.toNat D = E at *
        simp only [closeZ_len, closeR_len, forT_len, movT_len, ownT_len, min_if, max_if, mkD_len, ics, wr1 (show -1000 ≤ i by omega) (show i ≤ 1000 by omega)]
        (repeat ((first | with_reducible apply ck_i | with_reducible apply And.intro); · (first | with_reducible rfl | ((try simp only [closeZ_len, closeR_len, forT_len, movT_len, ownT_len, min_if, max_if, mkD_len, ics]) <;> simp [closeZ_len, closeR_len, forT_len, movT_len, ownT_len, min_if, max_if, mkD_len, ics, *] <;> omega))))
        exact hk'
      · have q2 : i = x + 1 := by simpa using q2
        rw [if_pos (by omega)] at hk'
        simp only [wr1 (show -1000 ≤ i by omega) (show i ≤ 1000 by omega)]
        (repeat ((first | with_reducible apply ck_i | with_reducible apply And.intro); · (first | with_reducible rfl | ((try simp only [closeZ_len, closeR_len, forT_len, movT_len, ownT_len, min_if, max_if, mkD_len, ics]) <;> simp [closeZ_len, closeR_len, forT_len, movT_len, ownT_len, min_if, max_if, mkD_len, ics, *] <;> omega))))
        exact hk'
    · have q := of_decide_eq_false q
      have e : i.toNat = n.toNat + 1 := by omega
      rw [e] at lE ⊢
      clear hk
      generalize forT (x + 1).toNat (n.toNat + 1) D = E at *
      (repeat ((first | with_reducible apply ck_i | with_reducible apply And.intro); · (first | with_reducible rfl | ((try simp only [closeZ_len, closeR_len, forT_len, movT_len, ownT_len, min_if, max_if, mkD_len, ics]) <;> simp [closeZ_len, closeR_len, forT_len, movT_len, ownT_len, min_if, max_if, mkD_len, ics, *] <;> omega))))
      simp only [closeZ_len, closeR_len, forT_len, movT_len, ownT_len, min_if, max_if, mkD_len, ics]; rfl
theorem cx89_ok : CtxOk Try.prog cx89.q.ctx := (ctx_cons (g := 88) ctx_nil (by kernel_rfl) sum88_ok)
theorem sum89_ok : ∀ vs r, sum89 vs = some (true, r) → SoundAt Try.prog 89 vs r := by
  intro vs r h
  unfold sum89 at h
  split at h
  · simp only [Option.some.injEq, Prod.mk.injEq, Bool.and_eq_true] at h
    obtain ⟨⟨⟨⟨h0, h1⟩, h2⟩, h3⟩, rfl⟩ := h
    obtain ⟨n0, b0, D0, hl0, hc0, rfl⟩ := zone_elim h0
    obtain ⟨x2, rfl⟩ := int_elim h2
    (try simp only [zO_ic] at h1)
    (try simp only [zO_ic] at h3)
    (try simp only [zO_ic])
    exact f89_sound _ _ _ _ cx89_ok (f89_spec n0 b0 D0 hl0 x2 h1 h3)
  · cases h
theorem f90_spec (n : Int) (b : Bool) (D : List Int) (hl : D.length = 49) (x y c : Int) (hn : okN n = true) (hx : in16 x = true) (hy : in16 y = true) : f90_wp n b (ic .i64 D) x y c (fun r' => r' = zRe (copyR (n, b, D) x y c)) := by
  have r1 := in16_rng hx
  have r2 := in16_rng hy
  have rn := okN_rng hn
  unfold f90_wp
  (try delta X90_4)
  (try delta X90_3)
  (try delta X90_2)
  (try delta X90_1)
  (try delta X90_0)
  cases b with
  | true => (try simp only [cond_true]); (repeat ((first | with_reducible apply ck_i | with_reducible apply And.intro); · (first | with_reducible rfl | ((try simp only [closeZ_len, closeR_len, forT_len, movT_len, ownT_len, min_if, max_if, mkD_len, movZ_len, forgetR_len, closeZ_fst, closeR_fst, forgetR_fst, ics]) <;> simp [closeZ_len, closeR_len, forT_len, movT_len, ownT_len, min_if, max_if, mkD_len, movZ_len, forgetR_len, closeZ_fst, closeR_fst, forgetR_fst, ics, *] <;> omega)))); (first | rfl | (unfold zRe zRet; (try unfold setZ); simp only [closeZ_fst, closeR_fst, forgetR_fst]))
  | false =>
    refine cond_i (fun q => by cases q) (fun _ => ?_)
    simp only [wr1 (show -1000 ≤ x by omega) (show x ≤ 1000 by omega), wr1 (show -1000 ≤ y by omega) (show y ≤ 1000 by omega)]
    refine cond_i (fun q3 => ?_) (fun q3 => ?_)
    · have q3 : x = y := by simpa using q3
      have e : copyR (n, false, D) x y c = closeR (n, false, movT (x + 1).toNat c (n.toNat + 1) D) := by unfold copyR; rw [if_neg (by simp), if_pos q3]
      rw [e]
      (repeat ((first | with_reducible apply ck_i | with_reducible apply And.intro); · (first | with_reducible rfl | ((try simp only [closeZ_len, closeR_len, forT_len, movT_len, ownT_len, min_if, max_if, mkD_len, movZ_len, forgetR_len, closeZ_fst, closeR_fst, forgetR_fst, ics]) <;> simp [closeZ_len, closeR_len, forT_len, movT_len, ownT_len, min_if, max_if, mkD_len, movZ_len, forgetR_len, closeZ_fst, closeR_fst, forgetR_fst, ics, *] <;> omega))))
      refine LoopP.ind (I := fun z => 0 ≤ z.1 ∧ z.1 ≤ n + 1 ∧ z.2 = ic .i64 (movT (x + 1).toNat c z.1.toNat D)) (μ := fun z => (n + 1 - z.1).toNat) ?_ ⟨by dsimp only; omega, by dsimp only; omega, rfl⟩
      rintro ⟨i, cs⟩ k0 ⟨i1, i2, i3⟩ hk
      dsimp only at i1 i2 i3 ⊢
      subst i3
      have lE : (movT (x + 1).toNat c i.toNat D).length = 49 := by rw [movT_len]; exact hl
      refine cond_i (fun q => ?_) (fun q => ?_)
      · have q := of_decide_eq_true q
        have hk' := hk (i + 1, ic .i64 (movT (x + 1).toNat c (i + 1).toNat D)) ⟨by dsimp only; omega, by dsimp only; omega, rfl⟩ (by dsimp only; omega)
        rw [show (i + 1).toNat = i.toNat + 1 by omega, movT] at hk'
        clear hk
        refine cond_i (fun q2 => ?_) (fun q2 => ?_)
        · have q2 : ¬ i = x + 1 := by simpa using q2
          rw [if_neg (by omega)] at hk'
          generalize movT (x + 1).toNat c i.toNat D = E at *
          simp only [closeZ_len, closeR_len, forT_len, movT_len, ownT_len, min_if, max_if, mkD_len, movZ_len, forgetR_len, closeZ_fst, closeR_fst, forgetR_fst, ics, wr1 (show -1000 ≤ i by omega) (show i ≤ 1000 by omega)]
          (repeat ((first | with_reducible apply ck_i | with_reducible apply And.intro); · (first | with_reducible rfl | ((try simp only [closeZ_len, closeR_len, forT_len, movT_len, ownT_len, min_if, max_if, mkD_len, movZ_len, forgetR_len, closeZ_fst, closeR_fst, forgetR_fst, ics]) <;> simp [closeZ_len, closeR_len, forT_len, movT_len, ownT_len, min_if, max_if, mkD_len, movZ_len, forgetR_len, closeZ_fst, closeR_fst, forgetR_fst, ics, *] <;> omega))))
          simp only [IntWalk.i64_left]
          exact hk'
        · have q2 : i = x + 1 := by simpa using q2
          rw [if_pos (by omega)] at hk'
          simp only [wr1 (show -1000 ≤ i by omega) (show i ≤ 1000 by omega)]
          (repeat ((first | with_reducible apply ck_i | with_reducible apply And.intro); · (first | with_reducible rfl | ((try simp only [closeZ_len, closeR_len, forT_len, movT_len, ownT_len, min_if, max_if, mkD_len, movZ_len, forgetR_len, closeZ_fst, closeR_fst, forgetR_fst, ics]) <;> simp [closeZ_len, closeR_len, forT_len, movT_len, ownT_len, min_if, max_if, mkD_len, movZ_len, forgetR_len, closeZ_fst, closeR_fst, forgetR_fst, ics, *] <;> omega))))
          exact hk'
      · have q := of_decide_eq_false q
        have e : i.toNat = n.toNat + 1 := by omega
        rw [e] at lE ⊢
        clear hk
        generalize movT (x + 1).toNat c (n.toNat + 1) D = E at *
        (repeat ((first | with_reducible apply ck_i | with_reducible apply And.intro); · (first | with_reducible rfl | ((try simp only [closeZ_len, closeR_len, forT_len, movT_len, ownT_len, min_if, max_if, mkD_len, movZ_len, forgetR_len, closeZ_fst, closeR_fst, forgetR_fst, ics]) <;> simp [closeZ_len, closeR_len, forT_len, movT_len, ownT_len, min_if, max_if, mkD_len, movZ_len, forgetR_len, closeZ_fst, closeR_fst, forgetR_fst, ics, *] <;> omega))))
        (try simp only [closeZ_len, closeR_len, forT_len, movT_len, ownT_len, min_if, max_if, mkD_len, movZ_len, forgetR_len, closeZ_fst, closeR_fst, forgetR_fst, ics]); (first | rfl | (unfold zRe zRet; (try unfold setZ); simp only [closeZ_fst, closeR_fst, forgetR_fst]))
    · have q3 : ¬ x = y := by simpa using q3
      have e : copyR (n, false, D) x y c = closeR (setZ (forgetR (n, false, D) x) (x + 1).toNat (y + 1).toNat c (wrap64 (0 - c))) := by unfold copyR; rw [if_neg (by simp), if_neg q3]
      rw [e]
      have lF := forgetR_len (n := n) (b := false) (x := x) hl
      have hf : okN (forgetR (n, false, D) x).1 = true := by rw [forgetR_fst]; exact hn
      simp only [closeZ_len, closeR_len, forT_len, movT_len, ownT_len, min_if, max_if, mkD_len, movZ_len, forgetR_len, closeZ_fst, closeR_fst, forgetR_fst, ics, IntWalk.i64_left]
      (repeat ((first | with_reducible apply ck_i | with_reducible apply And.intro); · (first | with_reducible rfl | ((try simp only [closeZ_len, closeR_len, forT_len, movT_len, ownT_len, min_if, max_if, mkD_len, movZ_len, forgetR_len, closeZ_fst, closeR_fst, forgetR_fst, ics]) <;> simp [closeZ_len, closeR_len, forT_len, movT_len, ownT_len, min_if, max_if, mkD_len, movZ_len, forgetR_len, closeZ_fst, closeR_fst, forgetR_fst, ics, *] <;> omega)))); (first | rfl | (unfold zRe zRet; (try unfold setZ); simp only [closeZ_fst, closeR_fst, forgetR_fst]))
theorem cx90_ok : CtxOk Try.prog cx90.q.ctx := (ctx_cons (g := 88) (ctx_cons (g := 89) ctx_nil (by kernel_rfl) sum89_ok) (by kernel_rfl) sum88_ok)
theorem sum90_ok : ∀ vs r, sum90 vs = some (true, r) → SoundAt Try.prog 90 vs r := by
  intro vs r h
  unfold sum90 at h
  split at h
  · simp only [Option.some.injEq, Prod.mk.injEq, Bool.and_eq_true] at h
    obtain ⟨⟨⟨⟨⟨⟨⟨h0, h1⟩, h2⟩, h3⟩, h4⟩, h5⟩, h6⟩, rfl⟩ := h
    obtain ⟨n0, b0, D0, hl0, hc0, rfl⟩ := zone_elim h0
    obtain ⟨x2, rfl⟩ := int_elim h2
    obtain ⟨x3, rfl⟩ := int_elim h3
    obtain ⟨x4, rfl⟩ := int_elim h4
    (try simp only [zO_ic] at h1)
    (try simp only [zO_ic] at h5)
    (try simp only [zO_ic] at h6)
    (try simp only [zO_ic])
    exact f90_sound _ _ _ _ _ _ cx90_ok (f90_spec n0 b0 D0 hl0 x2 x3 x4 h1 h5 h6)
  · cases h
theorem f34_spec (n : Int) (b : Bool) (D : List Int) (hl : D.length = 49) : f34_wp n b (ic .i64 D) (fun r' => r' = zRe (n, b, D)) := by
  unfold f34_wp
  have e : List.take 49 (ic .i64 D) = ic .i64 D := List.take_of_length_le (by rw [ic_len]; omega)
  rw [e]
  (repeat ((first | with_reducible apply ck_i | with_reducible apply And.intro); · (first | with_reducible rfl | ((try simp only [min_if, max_if, ics]) <;> simp [min_if, max_if, ics, *] <;> omega)))); rfl
theorem cx34_ok : CtxOk Try.prog cx34.q.ctx := ctx_nil
theorem sum34_ok : ∀ vs r, sum34 vs = some (true, r) → SoundAt Try.prog 34 vs r := by
  intro vs r h
  unfold sum34 at h
  split at h
  · simp only [Option.some.injEq, Prod.mk.injEq, Bool.and_eq_true] at h
    obtain ⟨h0, rfl⟩ := h
    obtain ⟨n, b, D, hl, hc, rfl⟩ := zone_elim h0
    show SoundAt Try.prog 34 _ (zRet n b ((ic .i64 D).map intC))
    rw [map_ic]
    exact f34_sound _ _ _ cx34_ok (f34_spec n b D hl)
  · cases h

end Go.Proofs.Ytgmciihlmgeecaa.Fn
