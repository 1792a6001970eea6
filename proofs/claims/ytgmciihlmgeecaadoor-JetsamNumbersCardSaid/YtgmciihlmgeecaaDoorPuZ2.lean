import Derived.Test.YtgmciihlmgeecaaDoorPuZ1
/- The least bounds: close, of the program and of the reference. Conditions: those that each lemma names. -/
namespace Go.Proofs.YtgmciihlmgeecaaDoor.Fn
open Go Go.RowKit Go.Proofs.YtgmciihlmgeecaaDoor.Mt Go.Proofs.YtgmciihlmgeecaaDoor.Zm
set_option linter.unusedVariables false
set_option linter.unusedSimpArgs false

theorem sum112_ok : ∀ vs r, sum112 vs = some (true, r) → SoundAt Tryd.prog 40 vs r := by
  intro vs r h
  unfold sum112 at h
  split at h
  · rename_i v
    simp only [Option.some.injEq, Prod.mk.injEq] at h
    obtain ⟨h0, rfl⟩ := h
    refine okO_elim h0 (motive := fun x => SoundAt Tryd.prog 40 [x] (zRet (intC (cellA v 0)) true zeroL)) ?_
    exact f112_sound _ cx112_ok rfl
  · cases h

theorem wr1 {i : Int} (h : -1000 ≤ i) (h' : i ≤ 1000) : IntKind.i64.wrap (i + 1) = i + 1 := i64_id (by omega) (by omega)
theorem not_dec {p : Prop} [Decidable p] (h : decide p = false) : ¬ p := of_decide_eq_false h
theorem relax_if {k i j : Nat} {E : List Int} : st E i j (if IntKind.i64.wrap (g E i k + g E k j) < g E i j then IntKind.i64.wrap (g E i k + g E k j) else g E i j) = relax k i j E := by
  rw [min_if, IntWalk.i64_left]; rfl

set_option maxHeartbeats 1000000 in
theorem f83_spec (n : Int) (b : Bool) (D : List Int) (hl : D.length = 49) : f83_wp n b (ic .i64 D) (fun r' => r' = zRe (closeZ (n, b, D))) := by
  unfold f83_wp
  (try delta X83_0)
  simp only [ics]
  cases b with
  | true => (try simp only [cond_true]); (repeat ((first | with_reducible apply ck_i | with_reducible apply And.intro); · (first | with_reducible rfl | ((try simp only [ics]) <;> simp [ics, *] <;> omega)))); rfl
  | false =>
    refine cond_i (fun q => by cases q) (fun _ => ?_)
    refine cond_i (fun q => ?_) (fun q => ?_)
    · have q : okN n = false := by simpa using q
      have e : closeZ (n, false, D) = (n, false, D) := by unfold closeZ; rw [q]; rfl
      rw [e]
      (repeat ((first | with_reducible apply ck_i | with_reducible apply And.intro); · (first | with_reducible rfl | ((try simp only [ics]) <;> simp [ics, *] <;> omega)))); rfl
    · have q : okN n = true := by simpa using q
      have hn : 0 ≤ n ∧ n ≤ 6 := by unfold okN at q; simpa using q
      have e : closeZ (n, false, D) = if diagB n.toNat (allL n.toNat (n.toNat + 1) (ownT n.toNat D)) then (n, false, allL n.toNat (n.toNat + 1) (ownT n.toNat D)) else (n, true, zeroL) := by unfold closeZ; rw [q]; rfl
      rw [e]
      have lO : (ownT n.toNat D).length = 49 := by rw [ownT_len]; exact hl
      generalize ownT n.toNat D = E at *
      (repeat ((first | with_reducible apply ck_i | with_reducible apply And.intro); · (first | with_reducible rfl | ((try simp only [ics]) <;> simp [ics, *] <;> omega))))
      refine LoopP.ind (I := fun z => 0 ≤ z.1 ∧ z.1 ≤ n + 1 ∧ z.2 = ic .i64 (allL n.toNat z.1.toNat E)) (μ := fun z => (n + 1 - z.1).toNat) ?_ ⟨by dsimp only; omega, by dsimp only; omega, rfl⟩
      rintro ⟨k, cs⟩ kk ⟨i1, i2, i3⟩ hk
      dsimp only at i1 i2 i3 ⊢
      subst i3
      have lA : (allL n.toNat k.toNat E).length = 49 := by rw [allL_length]; exact lO
      refine cond_i (fun q => ?_) (fun q => ?_)
      · have q := of_decide_eq_true q
        refine And.intro (by (first | with_reducible rfl | ((try simp only [ics]) <;> simp [ics, *] <;> omega))) ?_
        refine LoopP.ind (I := fun z => 0 ≤ z.1 ∧ z.1 ≤ n + 1 ∧ z.2 = ic .i64 (midL k.toNat n.toNat z.1.toNat (allL n.toNat k.toNat E))) (μ := fun z => (n + 1 - z.1).toNat) ?_ ⟨by dsimp only; omega, by dsimp only; omega, rfl⟩
        have hk' := hk (k + 1, ic .i64 (allL n.toNat (k + 1).toNat E)) ⟨by dsimp only; omega, by dsimp only; omega, rfl⟩ (by dsimp only; omega)
        rw [show (k + 1).toNat = k.toNat + 1 by omega] at hk'
        have eA : allL n.toNat (k.toNat + 1) E = midL k.toNat n.toNat (n.toNat + 1) (allL n.toNat k.toNat E) := rfl
        rw [eA] at hk'
        clear hk eA
        generalize allL n.toNat k.toNat E = A at *
        rintro ⟨i, cs⟩ kk2 ⟨j1, j2, j3⟩ hk
        dsimp only at j1 j2 j3 ⊢
        subst j3
        have lM : (midL k.toNat n.toNat i.toNat A).length = 49 := by rw [midL_length]; exact lA
        refine cond_i (fun q2 => ?_) (fun q2 => ?_)
        · have q2 := of_decide_eq_true q2
          refine And.intro (by (first | with_reducible rfl | ((try simp only [ics]) <;> simp [ics, *] <;> omega))) ?_
          refine LoopP.ind (I := fun z => 0 ≤ z.1 ∧ z.1 ≤ n + 1 ∧ z.2 = ic .i64 (rowL k.toNat i.toNat z.1.toNat (midL k.toNat n.toNat i.toNat A))) (μ := fun z => (n + 1 - z.1).toNat) ?_ ⟨by dsimp only; omega, by dsimp only; omega, rfl⟩
          have hm' := hk (i + 1, ic .i64 (midL k.toNat n.toNat (i + 1).toNat A)) ⟨by dsimp only; omega, by dsimp only; omega, rfl⟩ (by dsimp only; omega)
          rw [show (i + 1).toNat = i.toNat + 1 by omega] at hm'
          have eM : midL k.toNat n.toNat (i.toNat + 1) A = rowL k.toNat i.toNat (n.toNat + 1) (midL k.toNat n.toNat i.toNat A) := rfl
          rw [eM] at hm'
          clear hk eM
          generalize midL k.toNat n.toNat i.toNat A = B at *
          rintro ⟨j, cs⟩ kk3 ⟨l1, l2, l3⟩ hk
          dsimp only at l1 l2 l3 ⊢
          subst l3
          have lR : (rowL k.toNat i.toNat j.toNat B).length = 49 := by rw [rowL_length]; exact lM
          refine cond_i (fun q3 => ?_) (fun q3 => ?_)
          · have q3 := of_decide_eq_true q3
            have hr' := hk (j + 1, ic .i64 (rowL k.toNat i.toNat (j + 1).toNat B)) ⟨by dsimp only; omega, by dsimp only; omega, rfl⟩ (by dsimp only; omega)
            rw [show (j + 1).toNat = j.toNat + 1 by omega] at hr'
            have eR : rowL k.toNat i.toNat (j.toNat + 1) B = relax k.toNat i.toNat j.toNat (rowL k.toNat i.toNat j.toNat B) := rfl
            rw [eR] at hr'
            clear hk eR
            generalize rowL k.toNat i.toNat j.toNat B = C at *
            simp only [ics, relax_if, wr1 (show -1000 ≤ j by omega) (show j ≤ 1000 by omega)]
            (repeat ((first | with_reducible apply ck_i | with_reducible apply And.intro); · (first | with_reducible rfl | ((try simp only [ics]) <;> simp [ics, *] <;> omega))))
            exact hr'
          · have q3 := of_decide_eq_false q3
            refine And.intro (by (first | with_reducible rfl | ((try simp only [ics]) <;> simp [ics, *] <;> omega))) ?_
            rw [wr1 (by omega) (by omega), show j.toNat = n.toNat + 1 by omega]
            exact hm'
        · have q2 := of_decide_eq_false q2
          refine And.intro (by (first | with_reducible rfl | ((try simp only [ics]) <;> simp [ics, *] <;> omega))) ?_
          rw [wr1 (by omega) (by omega), show i.toNat = n.toNat + 1 by omega]
          exact hk'
      · have q := of_decide_eq_false q
        refine And.intro (by (first | with_reducible rfl | ((try simp only [ics]) <;> simp [ics, *] <;> omega))) ?_
        rw [show k.toNat = n.toNat + 1 by omega] at lA ⊢
        clear hk
        generalize allL n.toNat (n.toNat + 1) E = A at *
        refine LoopP.ind (I := fun z => 0 ≤ z ∧ z ≤ n + 1 ∧ ∀ i : Nat, (i : Int) < z → 0 ≤ g A i i) (μ := fun z => (n + 1 - z).toNat) ?_ ⟨by omega, by omega, fun i hi => by omega⟩
        rintro i kk2 ⟨j1, j2, j3⟩ hk
        refine cond_i (fun q2 => ?_) (fun q2 => ?_)
        · have q2 := of_decide_eq_true q2
          simp only [ics]
          (repeat ((first | with_reducible apply ck_i | with_reducible apply And.intro); · (first | with_reducible rfl | ((try simp only [ics]) <;> simp [ics, *] <;> omega))))
          refine cond_i (fun q3 => ?_) (fun q3 => ?_)
          · have q3 := of_decide_eq_true q3
            have e : diagB n.toNat A = false := by
              cases h : diagB n.toNat A with
              | false => rfl
              | true =>
                have := diagB_ok.1 h i.toNat (by omega)
                omega
            rw [e]; rfl
          · have q3 := of_decide_eq_false q3
            refine And.intro (by (first | with_reducible rfl | ((try simp only [ics]) <;> simp [ics, *] <;> omega))) ?_
            rw [wr1 (by omega) (by omega)]
            refine hk _ ⟨by omega, by omega, fun t ht => ?_⟩ (by omega)
            by_cases e : (t : Int) < i
            · exact j3 t e
            · have : t = i.toNat := by omega
              subst this; omega
        · have q2 := of_decide_eq_false q2
          have e : diagB n.toNat A = true := diagB_ok.2 fun t ht => j3 t (by omega)
          rw [e]
          (repeat ((first | with_reducible apply ck_i | with_reducible apply And.intro); · (first | with_reducible rfl | ((try simp only [ics]) <;> simp [ics, *] <;> omega))))
          rfl

theorem cx83_ok : CtxOk Tryd.prog cx83.q.ctx := (ctx_cons (g := 36) (ctx_cons (g := 40) (ctx_pcons (g := 39) ctx_nil (by kernel_rfl) psum111_ok) (by kernel_rfl) sum112_ok) (by kernel_rfl) sum91_ok)
theorem sum83_ok : ∀ vs r, sum83 vs = some (true, r) → SoundAt Tryd.prog 32 vs r := by
  intro vs r h
  unfold sum83 at h
  split at h
  · simp only [Option.some.injEq, Prod.mk.injEq, Bool.and_eq_true] at h
    obtain ⟨h0, rfl⟩ := h
    obtain ⟨n0, b0, D0, hl0, hc0, rfl⟩ := zone_elim h0
    (try simp only [zO_ic])
    exact f83_sound _ _ _ cx83_ok (f83_spec n0 b0 D0 hl0)
  · cases h

end Go.Proofs.YtgmciihlmgeecaaDoor.Fn
