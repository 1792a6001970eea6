import Derived.Test.YtlfojobligplkaaDoorPuC6
import Derived.Test.YtlfojobligplkaaDoorLex
import Derived.Test.YtlfojobligplkaaDoorWLJetsamChannels
/- JetsamChannels: the law's function tells true. Conditions: none beyond its arguments' types. -/
namespace Go.Proofs.YtlfojobligplkaaDoor.Fn
open Go Go.RowKit Go.Proofs Go.Proofs.YtlfojobligplkaaDoor.Mt
set_option linter.unusedVariables false
set_option linter.unusedSimpArgs false

/-- A round of the first kind: what is kept was cut. -/
def I1 (M : Int) (m : Nat) (z : Int × Nat × (List Cell) × Int × Int × Int × Int × (List Cell) × Nat × (List Cell)) : Prop :=
  ∃ l vals : List Int, ChI M m z.1 z.2.2.2.1 z.2.2.2.2.1 z.2.1 l vals ∧ z.2.2.1 = ic .i64 l ∧ z.2.2.2.2.2.1 = 0 ∧ z.2.2.2.2.2.2.1 = z.2.1 ∧ z.2.2.2.2.2.2.2.1 = ic .i64 vals
/-- A round of the other kind. -/
def I2 (M : Int) (m : Nat) (z : Int × Int × Int × Int × Int × (List Cell) × Nat × (List Cell)) : Prop :=
  ∃ l vals : List Int, ChI M m z.1 z.2.1 z.2.2.1 z.2.2.2.2.2.2.1 l vals ∧ z.2.2.2.2.2.2.2 = ic .i64 l ∧ z.2.2.2.1 = 0 ∧ z.2.2.2.2.1 = z.2.2.2.2.2.2.1 ∧ z.2.2.2.2.2.1 = ic .i64 vals

set_option maxHeartbeats 4000000 in
set_option maxRecDepth 100000 in
theorem f3_pure (a0 : Int) (m : Nat) (q : List Int) (hq : q.length = m * 1) (hw : ∀ x ∈ q, In x) : f3_wp a0 m (ic .i32 q) (fun r' => r' = boRet true) := by
  unfold f3_wp
  obtain ⟨hN, hN'⟩ := oneRem a0 16 (by decide) (by decide)
  generalize IntKind.i64.wrap (1 + IntKind.i64.wrap ((IntKind.u64.wrap a0).tmod 16)) = M at *
  have hval : ∀ j, j < q.length → In (q.getD j 0) := fun j hj => by
    rw [List.getD_eq_getElem?_getD, List.getElem?_eq_getElem hj, Option.getD_some]
    exact hw _ (List.getElem_mem hj)
  refine LoopP.ind (I := sumE (fun _ => True) (sumE (I1 M m) (I2 M m)))
    (μ := sumE (fun _ => m + 1) (sumE (fun z => ((m : Int) - z.2.2.2.2.1).toNat) (fun z => ((m : Int) - z.2.2.1).toNat))) ?_ trivial
  rintro (_ | ⟨s, n, cs, st, i, lo, hi, vs, bn, bc⟩ | ⟨s, st, i, lo, hi, vs, n, cs⟩) k0 hI hk
  · dsimp only [sumE_l, sumE_r]
    refine cond_i (fun h => ?_) (fun h => ⟨by have := of_decide_eq_false h; exact decide_eq_true (by omega), rfl⟩)
    have h := of_decide_eq_true h
    have g0 := ic_get (k := .i32) (l := q) (j := 0) (by omega)
    have vin := hval 0 (by omega)
    rw [g0]
    simp only [intC, ic_len]
    generalize q.getD 0 0 = v at *
    rw [i64_id (n := v) (by unfold In at vin; omega) (by unfold In at vin; omega), ofI_id vin]
    have e0 : List.map intC [Cell.v (Value.int .i64 1), Cell.v (Value.int .i64 0), Cell.v (Value.int .i64 1), Cell.v (Value.int .i64 0)] = [1, 0, 1, 0] := rfl
    have e1 : List.map intC [Cell.v (Value.int .i64 0), Cell.v (Value.int .i64 v)] = [0, v] := rfl
    rw [e0, e1]
    dsimp only
    obtain ⟨V, hf, lV, mono, new, oth⟩ := ch_step hN hN' (n := 0) (vals := [1, 0, 1, 0]) rfl (by omega) (t := 0) (v := v) (by omega) (by omega)
    have hf' : sendP M 0 0 2 [1, 0, 1, 0] 0 v v = (0, min (((0 : Nat) : Int) + 1) M, V) := hf
    rw [hf']
    have hV := okRow_ic (s := 2) (n := 2) lV (by omega)
    have oka := ok_app (l := []) (n := 0) rfl (fun j hj => absurd hj (by omega)) mono new
    have new' := (msgOk2.1 new).2
    have hh : min (((0 : Nat) : Int) + 1) M = 1 := by omega
    rw [hh]
    dsimp only
    simp only [ic_map]
    have J : ChI M m 2 1 1 1 [0, v] V := ⟨rfl, lV, by omega, by omega, by omega, by omega, by omega, oka, .inr ⟨by omega, rfl, rfl⟩, Int.le_trans new'.1 new'.2, .inl ⟨rfl, by rw [oth 1 (by omega) (by omega)]; rfl⟩⟩
    refine ck_i (by simp; omega) (ck_i (by simp [okK, isInt]; omega) (ck_i (by simp only [flat_ic, plain_ic]; rfl) (cond_i (fun h3 => absurd (of_decide_eq_true h3) (by omega)) (fun _ => ck_i (by simp only [hV]; rfl) ⟨?_, ?_⟩))))
    · rw [hasP_i (m := 1) (q := [0, v]) (by omega) oka]; rfl
    · exact hk _ ⟨[0, v], V, J, rfl, rfl, rfl, rfl⟩ (by dsimp only [sumE_l, sumE_r]; omega)
  · obtain ⟨l, vals, I, i1, i2, i3, i4⟩ := hI
    dsimp only at I i1 i2 i3 i4
    dsimp only [sumE_l, sumE_r]
    subst i1; subst i2; subst i3; subst i4
    have ii := I.i1
    have w : IntKind.i64.wrap (i + 1) = i + 1 := i64_id (by have := I.i40; omega) (by have := I.i40; omega)
    refine cond_i (fun h => cond_i (fun h2 => ?_) (fun h2 => by
      rw [ic_map]
      have hvals := okRow_ic (s := 2) (n := 2) I.lv (by omega)
      have hm : ¬ ((m : Int) < 1) := by have := I.i1; have := I.im; omega
      rcases I.v1 with ⟨_, e1⟩ | ⟨_, e1⟩
      · rw [tags1 I.v0 e1]
        exact ck_i (by rw [hvals]; rfl) (ck_i (by kernel_rfl) ⟨by kernel_rfl, cond_i (fun h => absurd (of_decide_eq_true h) hm) (fun _ => ck_i (by kernel_rfl) (by kernel_rfl))⟩)
      · rw [tags2 I.v0 e1]
        exact ck_i (by rw [hvals]; rfl) (ck_i (by kernel_rfl) ⟨by kernel_rfl, cond_i (fun h => absurd (of_decide_eq_true h) hm) (fun _ => ck_i (by kernel_rfl) (by kernel_rfl))⟩))) (fun h => by
      rw [ic_map]
      have hvals := okRow_ic (s := 2) (n := 2) I.lv (by omega)
      have hm : ¬ ((m : Int) < 1) := by have := I.i1; have := I.im; omega
      rcases I.v1 with ⟨_, e1⟩ | ⟨_, e1⟩
      · rw [tags1 I.v0 e1]
        exact ck_i (by rw [hvals]; rfl) (ck_i (by kernel_rfl) ⟨by kernel_rfl, cond_i (fun h => absurd (of_decide_eq_true h) hm) (fun _ => ck_i (by kernel_rfl) (by kernel_rfl))⟩)
      · rw [tags2 I.v0 e1]
        exact ck_i (by rw [hvals]; rfl) (ck_i (by kernel_rfl) ⟨by kernel_rfl, cond_i (fun h => absurd (of_decide_eq_true h) hm) (fun _ => ck_i (by kernel_rfl) (by kernel_rfl))⟩))
    have him : i < (m : Int) := of_decide_eq_true h
    have hi40 : i < 40 := of_decide_eq_true h2
    clear h h2
    have g0 := ic_get (k := .i32) (l := q) (j := i.toNat * 1) (by omega)
    have vin := hval (i.toNat * 1) (by omega)
    have tm : i.tmod 2 = i % 2 := Int.tmod_eq_emod_of_nonneg (by omega)
    rw [g0, w, tm]
    simp only [intC, ic_map, ic_len, Nat.zero_add]
    generalize q.getD (i.toNat * 1) 0 = v at *
    rw [i64_id (n := v) (by unfold In at vin; omega) (by unfold In at vin; omega), ofI_id vin]
    dsimp only
    have hvals := okRow_ic (s := 2) (n := 2) I.lv (by omega)
    have n8 : n ≤ 100 := by have := I.nM; omega
    have hR := okRow_ic (s := 2) I.ll (by omega)
    rcases I.par with ⟨pt, rfl, rfl⟩ | ⟨pt, rfl, rfl⟩
    · obtain ⟨V, hf, lV, oka, J1, J2⟩ := ch_next hN hN' I him hi40 v pt
      have la : (l ++ [0, v]).length = (n + 1) * 2 := by simp [I.ll]; omega
      have ea : ic .i64 l ++ [Cell.v (Value.int .i64 0), Cell.v (Value.int .i64 v)] = ic .i64 (l ++ [0, v]) := by rw [← ic_append]; rfl
      have hV := okRow_ic (s := 2) (n := 2) lV (by omega)
      rw [pt, hf, ea]
      dsimp only
      have ew : IntKind.i64.wrap (1 - 0) = 1 - 0 := by kernel_rfl
      have es : intC ((rwL ([Cell.sl 2 [Cell.v (Value.int .i64 1), Cell.v (Value.int .i64 (-1))], Cell.sl 2 [Cell.v (Value.int .i64 (-1)), Cell.v (Value.int .i64 0)]].getD (Int.toNat 0 * 1) .dead)).getD (Int.toNat 0 * 1) .dead) = 1 - 0 := by rfl
      simp only [ew]
      refine ck_i (by simp; omega) (ck_i (by simp [okK, isInt]; omega) (ck_i (by simp only [hV, hvals, flat_ic, plain_ic]; rfl) (ck_i (by kernel_rfl) (ck_i (by kernel_rfl) (ck_i (by kernel_rfl) (ck_i (by rfl) (ck_i (by rfl) (ck_i (by rfl) (ck_i (by simp [I.ll]; omega) (ck_i (by simp; omega) (cond_i (fun h3 => ?_) (fun h3 => ?_))))))))))))
      · have h3 := of_decide_eq_true h3
        have et : List.drop 2 (List.take ((n + 1) * 2) (ic .i64 (l ++ [0, v]))) = ic .i64 ((l ++ [0, v]).drop 2) := by
          rw [List.take_of_length_le (by rw [ic_len, la]; exact Nat.le_refl _)]
          simp [ic]
        have J := J2 (by omega)
        have hR2 := okRow_ic (s := 2) J.ll (by omega)
        rw [et, show n + 1 - 1 = n by omega]
        simp only [ic_map]
        refine ck_i (by simp) ⟨by kernel_rfl, by kernel_rfl, ck_i (by rfl) ⟨by rfl, ck_i (by rfl) ⟨by rfl, ck_i (by simp only [hV, hR2]; rfl) ⟨?_, ?_⟩⟩⟩⟩
        · rw [hasP_i (by have := I.nM; omega) J.ok]; rfl
        · exact hk _ ⟨_, V, J, rfl, rfl, by dsimp only; have := I.nM; omega, rfl⟩ (by dsimp only [sumE_l, sumE_r]; omega)
      · have h3 := of_decide_eq_false h3
        have J := J1 (by omega)
        have hR2 := okRow_ic (s := 2) la (by omega)
        simp only [ic_map]
        refine ⟨by kernel_rfl, by kernel_rfl, ck_i (by rfl) ⟨by rfl, ck_i (by rfl) ⟨by rfl, ck_i (by simp only [hV, hR2]; rfl) ⟨?_, ?_⟩⟩⟩⟩
        · rw [hasP_i (by omega) oka]; rfl
        · exact hk _ ⟨_, V, J, rfl, rfl, by dsimp only; omega, rfl⟩ (by dsimp only [sumE_l, sumE_r]; omega)
    · obtain ⟨V, hf, lV, oka, J1, J2⟩ := ch_next hN hN' I him hi40 v pt
      have la : (l ++ [1, v]).length = (n + 1) * 2 := by simp [I.ll]; omega
      have ea : ic .i64 l ++ [Cell.v (Value.int .i64 1), Cell.v (Value.int .i64 v)] = ic .i64 (l ++ [1, v]) := by rw [← ic_append]; rfl
      have hV := okRow_ic (s := 2) (n := 2) lV (by omega)
      rw [pt, hf, ea]
      dsimp only
      have ew : IntKind.i64.wrap (1 - 1) = 1 - 1 := by kernel_rfl
      have es : intC ((rwL ([Cell.sl 2 [Cell.v (Value.int .i64 1), Cell.v (Value.int .i64 (-1))], Cell.sl 2 [Cell.v (Value.int .i64 (-1)), Cell.v (Value.int .i64 0)]].getD (Int.toNat 1 * 1) .dead)).getD (Int.toNat 1 * 1) .dead) = 1 - 1 := by rfl
      simp only [ew]
      refine ck_i (by simp; omega) (ck_i (by simp [okK, isInt]; omega) (ck_i (by simp only [hV, hvals, flat_ic, plain_ic]; rfl) (ck_i (by kernel_rfl) (ck_i (by kernel_rfl) (ck_i (by kernel_rfl) (ck_i (by rfl) (ck_i (by rfl) (ck_i (by rfl) (ck_i (by simp [I.ll]; omega) (ck_i (by simp; omega) (cond_i (fun h3 => ?_) (fun h3 => ?_))))))))))))
      · have h3 := of_decide_eq_true h3
        have et : List.drop 2 (List.take ((n + 1) * 2) (ic .i64 (l ++ [1, v]))) = ic .i64 ((l ++ [1, v]).drop 2) := by
          rw [List.take_of_length_le (by rw [ic_len, la]; exact Nat.le_refl _)]
          simp [ic]
        have J := J2 (by omega)
        have hR2 := okRow_ic (s := 2) J.ll (by omega)
        rw [et, show n + 1 - 1 = n by omega]
        simp only [ic_map]
        refine ck_i (by simp) ⟨by kernel_rfl, by kernel_rfl, ck_i (by rfl) ⟨by rfl, ck_i (by rfl) ⟨by rfl, ck_i (by simp only [hV, hR2]; rfl) ⟨?_, ?_⟩⟩⟩⟩
        · rw [hasP_i (by have := I.nM; omega) J.ok]; rfl
        · exact hk _ ⟨_, V, J, rfl, rfl, by dsimp only; have := I.nM; omega, rfl⟩ (by dsimp only [sumE_l, sumE_r]; omega)
      · have h3 := of_decide_eq_false h3
        have J := J1 (by omega)
        have hR2 := okRow_ic (s := 2) la (by omega)
        simp only [ic_map]
        refine ⟨by kernel_rfl, by kernel_rfl, ck_i (by rfl) ⟨by rfl, ck_i (by rfl) ⟨by rfl, ck_i (by simp only [hV, hR2]; rfl) ⟨?_, ?_⟩⟩⟩⟩
        · rw [hasP_i (by omega) oka]; rfl
        · exact hk _ ⟨_, V, J, rfl, rfl, by dsimp only; omega, rfl⟩ (by dsimp only [sumE_l, sumE_r]; omega)
  · obtain ⟨l, vals, I, i1, i2, i3, i4⟩ := hI
    dsimp only at I i1 i2 i3 i4
    dsimp only [sumE_l, sumE_r]
    subst i1; subst i2; subst i3; subst i4
    have ii := I.i1
    have w : IntKind.i64.wrap (i + 1) = i + 1 := i64_id (by have := I.i40; omega) (by have := I.i40; omega)
    refine cond_i (fun h => cond_i (fun h2 => ?_) (fun h2 => by
      rw [ic_map]
      have hvals := okRow_ic (s := 2) (n := 2) I.lv (by omega)
      have hm : ¬ ((m : Int) < 1) := by have := I.i1; have := I.im; omega
      rcases I.v1 with ⟨_, e1⟩ | ⟨_, e1⟩
      · rw [tags1 I.v0 e1]
        exact ck_i (by rw [hvals]; rfl) (ck_i (by kernel_rfl) ⟨by kernel_rfl, cond_i (fun h => absurd (of_decide_eq_true h) hm) (fun _ => ck_i (by kernel_rfl) (by kernel_rfl))⟩)
      · rw [tags2 I.v0 e1]
        exact ck_i (by rw [hvals]; rfl) (ck_i (by kernel_rfl) ⟨by kernel_rfl, cond_i (fun h => absurd (of_decide_eq_true h) hm) (fun _ => ck_i (by kernel_rfl) (by kernel_rfl))⟩))) (fun h => by
      rw [ic_map]
      have hvals := okRow_ic (s := 2) (n := 2) I.lv (by omega)
      have hm : ¬ ((m : Int) < 1) := by have := I.i1; have := I.im; omega
      rcases I.v1 with ⟨_, e1⟩ | ⟨_, e1⟩
      · rw [tags1 I.v0 e1]
        exact ck_i (by rw [hvals]; rfl) (ck_i (by kernel_rfl) ⟨by kernel_rfl, cond_i (fun h => absurd (of_decide_eq_true h) hm) (fun _ => ck_i (by kernel_rfl) (by kernel_rfl))⟩)
      · rw [tags2 I.v0 e1]
        exact ck_i (by rw [hvals]; rfl) (ck_i (by kernel_rfl) ⟨by kernel_rfl, cond_i (fun h => absurd (of_decide_eq_true h) hm) (fun _ => ck_i (by kernel_rfl) (by kernel_rfl))⟩))
    have him : i < (m : Int) := of_decide_eq_true h
    have hi40 : i < 40 := of_decide_eq_true h2
    clear h h2
    have g0 := ic_get (k := .i32) (l := q) (j := i.toNat * 1) (by omega)
    have vin := hval (i.toNat * 1) (by omega)
    have tm : i.tmod 2 = i % 2 := Int.tmod_eq_emod_of_nonneg (by omega)
    rw [g0, w, tm]
    simp only [intC, ic_map, ic_len, Nat.zero_add]
    generalize q.getD (i.toNat * 1) 0 = v at *
    rw [i64_id (n := v) (by unfold In at vin; omega) (by unfold In at vin; omega), ofI_id vin]
    dsimp only
    have hvals := okRow_ic (s := 2) (n := 2) I.lv (by omega)
    have n8 : n ≤ 100 := by have := I.nM; omega
    have hR := okRow_ic (s := 2) I.ll (by omega)
    rcases I.par with ⟨pt, rfl, rfl⟩ | ⟨pt, rfl, rfl⟩
    · obtain ⟨V, hf, lV, oka, J1, J2⟩ := ch_next hN hN' I him hi40 v pt
      have la : (l ++ [0, v]).length = (n + 1) * 2 := by simp [I.ll]; omega
      have ea : ic .i64 l ++ [Cell.v (Value.int .i64 0), Cell.v (Value.int .i64 v)] = ic .i64 (l ++ [0, v]) := by rw [← ic_append]; rfl
      have hV := okRow_ic (s := 2) (n := 2) lV (by omega)
      rw [pt, hf, ea]
      dsimp only
      have ew : IntKind.i64.wrap (1 - 0) = 1 - 0 := by kernel_rfl
      have es : intC ((rwL ([Cell.sl 2 [Cell.v (Value.int .i64 1), Cell.v (Value.int .i64 (-1))], Cell.sl 2 [Cell.v (Value.int .i64 (-1)), Cell.v (Value.int .i64 0)]].getD (Int.toNat 0 * 1) .dead)).getD (Int.toNat 0 * 1) .dead) = 1 - 0 := by rfl
      simp only [ew]
      refine ck_i (by simp; omega) (ck_i (by simp [okK, isInt]; omega) (ck_i (by simp only [hV, hvals, flat_ic, plain_ic]; rfl) (ck_i (by kernel_rfl) (ck_i (by kernel_rfl) (ck_i (by kernel_rfl) (ck_i (by rfl) (ck_i (by rfl) (ck_i (by rfl) (ck_i (by simp [I.ll]; omega) (ck_i (by simp; omega) (cond_i (fun h3 => ?_) (fun h3 => ?_))))))))))))
      · have h3 := of_decide_eq_true h3
        have et : List.drop 2 (List.take ((n + 1) * 2) (ic .i64 (l ++ [0, v]))) = ic .i64 ((l ++ [0, v]).drop 2) := by
          rw [List.take_of_length_le (by rw [ic_len, la]; exact Nat.le_refl _)]
          simp [ic]
        have J := J2 (by omega)
        have hR2 := okRow_ic (s := 2) J.ll (by omega)
        rw [et, show n + 1 - 1 = n by omega]
        simp only [ic_map]
        refine ck_i (by simp) ⟨by kernel_rfl, by kernel_rfl, ck_i (by rfl) ⟨by rfl, ck_i (by rfl) ⟨by rfl, ck_i (by simp only [hV, hR2]; rfl) ⟨?_, ?_⟩⟩⟩⟩
        · rw [hasP_i (by have := I.nM; omega) J.ok]; rfl
        · exact hk _ ⟨_, V, J, rfl, rfl, by dsimp only; have := I.nM; omega, rfl⟩ (by dsimp only [sumE_l, sumE_r]; omega)
      · have h3 := of_decide_eq_false h3
        have J := J1 (by omega)
        have hR2 := okRow_ic (s := 2) la (by omega)
        simp only [ic_map]
        refine ⟨by kernel_rfl, by kernel_rfl, ck_i (by rfl) ⟨by rfl, ck_i (by rfl) ⟨by rfl, ck_i (by simp only [hV, hR2]; rfl) ⟨?_, ?_⟩⟩⟩⟩
        · rw [hasP_i (by omega) oka]; rfl
        · exact hk _ ⟨_, V, J, rfl, rfl, by dsimp only; omega, rfl⟩ (by dsimp only [sumE_l, sumE_r]; omega)
    · obtain ⟨V, hf, lV, oka, J1, J2⟩ := ch_next hN hN' I him hi40 v pt
      have la : (l ++ [1, v]).length = (n + 1) * 2 := by simp [I.ll]; omega
      have ea : ic .i64 l ++ [Cell.v (Value.int .i64 1), Cell.v (Value.int .i64 v)] = ic .i64 (l ++ [1, v]) := by rw [← ic_append]; rfl
      have hV := okRow_ic (s := 2) (n := 2) lV (by omega)
      rw [pt, hf, ea]
      dsimp only
      have ew : IntKind.i64.wrap (1 - 1) = 1 - 1 := by kernel_rfl
      have es : intC ((rwL ([Cell.sl 2 [Cell.v (Value.int .i64 1), Cell.v (Value.int .i64 (-1))], Cell.sl 2 [Cell.v (Value.int .i64 (-1)), Cell.v (Value.int .i64 0)]].getD (Int.toNat 1 * 1) .dead)).getD (Int.toNat 1 * 1) .dead) = 1 - 1 := by rfl
      simp only [ew]
      refine ck_i (by simp; omega) (ck_i (by simp [okK, isInt]; omega) (ck_i (by simp only [hV, hvals, flat_ic, plain_ic]; rfl) (ck_i (by kernel_rfl) (ck_i (by kernel_rfl) (ck_i (by kernel_rfl) (ck_i (by rfl) (ck_i (by rfl) (ck_i (by rfl) (ck_i (by simp [I.ll]; omega) (ck_i (by simp; omega) (cond_i (fun h3 => ?_) (fun h3 => ?_))))))))))))
      · have h3 := of_decide_eq_true h3
        have et : List.drop 2 (List.take ((n + 1) * 2) (ic .i64 (l ++ [1, v]))) = ic .i64 ((l ++ [1, v]).drop 2) := by
          rw [List.take_of_length_le (by rw [ic_len, la]; exact Nat.le_refl _)]
          simp [ic]
        have J := J2 (by omega)
        have hR2 := okRow_ic (s := 2) J.ll (by omega)
        rw [et, show n + 1 - 1 = n by omega]
        simp only [ic_map]
        refine ck_i (by simp) ⟨by kernel_rfl, by kernel_rfl, ck_i (by rfl) ⟨by rfl, ck_i (by rfl) ⟨by rfl, ck_i (by simp only [hV, hR2]; rfl) ⟨?_, ?_⟩⟩⟩⟩
        · rw [hasP_i (by have := I.nM; omega) J.ok]; rfl
        · exact hk _ ⟨_, V, J, rfl, rfl, by dsimp only; have := I.nM; omega, rfl⟩ (by dsimp only [sumE_l, sumE_r]; omega)
      · have h3 := of_decide_eq_false h3
        have J := J1 (by omega)
        have hR2 := okRow_ic (s := 2) la (by omega)
        simp only [ic_map]
        refine ⟨by kernel_rfl, by kernel_rfl, ck_i (by rfl) ⟨by rfl, ck_i (by rfl) ⟨by rfl, ck_i (by simp only [hV, hR2]; rfl) ⟨?_, ?_⟩⟩⟩⟩
        · rw [hasP_i (by omega) oka]; rfl
        · exact hk _ ⟨_, V, J, rfl, rfl, by dsimp only; omega, rfl⟩ (by dsimp only [sumE_l, sumE_r]; omega)
theorem sum11_ok : ∀ vs r, sum11 vs = some (true, r) → SoundAt Tryd.prog 11 vs r := fun vs r h => by
  cases vs with
  | nil => cases h; exact at11_0
  | cons a t => cases h
theorem cx3_ok : CtxOk Tryd.prog cx3.q.ctx := (ctx_cons (g := 4) (ctx_cons (g := 5) (ctx_cons (g := 7) (ctx_cons (g := 6) (ctx_cons (g := 8) (ctx_cons (g := 9) (ctx_cons (g := 10) (ctx_cons (g := 11) (ctx_cons (g := 13) (ctx_cons (g := 12) ctx_nil (by kernel_rfl) sum12_ok) (by kernel_rfl) sum13_ok) (by kernel_rfl) sum11_ok) (by kernel_rfl) sum10_ok) (by kernel_rfl) sum9_ok) (by kernel_rfl) sum8_ok) (by kernel_rfl) sum6_ok) (by kernel_rfl) sum7_ok) (by kernel_rfl) sum5_ok) (by kernel_rfl) sum4_ok)
theorem f3_true (a0 : Int) (n : Nat) (cs : List Cell) {p : Prop} (w : p) {D : Nat} (h : TyC Tryd.prog D 22 [.sl n cs]) : f3_wp a0 n cs (fun r' => r' = boRet true) := by
  obtain ⟨l, rfl, e, _, hw⟩ := row_ints (k := .i32) (S := [21]) (s := 1) (by kernel_rfl) Tryd.underlying22 (by decide) (by kernel_rfl) (by decide) h
  refine f3_pure a0 n l e fun x hx => ?_
  have := hw x hx
  unfold wfI at this
  unfold In
  simp [Lit.wf, IntKind.min, IntKind.max, IntKind.bits, IntKind.signed] at this
  omega
end Go.Proofs.YtlfojobligplkaaDoor.Fn
