import Derived.Test.YtlfojobligplkaaWLItvDoes
import Derived.Test.YtlfojobligplkaaPuM
import Derived.Test.YtlfojobligplkaaPuTests
/- The law ItvDoes holds of all numbers. No conditions. -/
namespace Go.Proofs.Ytlfojobligplkaa.Fn
open Go Go.Proofs.Ytlfojobligplkaa.Mt

theorem kind5 (a : Int) : 4 ≤ IntKind.i64.wrap (4 + IntKind.i64.wrap ((IntKind.u64.wrap a).tmod 5)) ∧ IntKind.i64.wrap (4 + IntKind.i64.wrap ((IntKind.u64.wrap a).tmod 5)) ≤ 8 := by
  have h0 := u64_nonneg a
  have h1 : (IntKind.u64.wrap a).tmod 5 = IntKind.u64.wrap a % 5 := Int.tmod_eq_emod_of_nonneg h0
  rw [h1, i64_id (n := IntKind.u64.wrap a % 5) (by omega) (by omega), i64_id (by omega) (by omega)]
  omega

theorem has_iff' (a b n : Int) : f27_0 a b n = true ↔ (a ≤ n ∧ n ≤ b) := has_iff a b n

theorem round6 {f0 f1 zl zh : Int} {zo zd : Bool} {A : Prop} (hA : A) (h0 : f1 = 0 → zl ≤ f0 ∧ f0 ≤ zh) (h2 : f1 = 2 → zo = true) (h3 : f1 = 3 → zd = true) :
    (bif f1 == 0 then ((!f27_0 zl zh f0) = false ∧ (bif f1 == 2 then ((!zo) = false ∧ (bif f1 == 3 then ((!zd) = false ∧ A) else A)) else (bif f1 == 3 then ((!zd) = false ∧ A) else A)))
      else (bif f1 == 2 then ((!zo) = false ∧ (bif f1 == 3 then ((!zd) = false ∧ A) else A)) else (bif f1 == 3 then ((!zd) = false ∧ A) else A))) := by
  have T3 : (bif f1 == 3 then ((!zd) = false ∧ A) else A) := cond_i (fun q => ⟨by rw [h3 (by simpa using q)]; rfl, hA⟩) (fun _ => hA)
  have T2 : (bif f1 == 2 then ((!zo) = false ∧ (bif f1 == 3 then ((!zd) = false ∧ A) else A)) else (bif f1 == 3 then ((!zd) = false ∧ A) else A)) :=
    cond_i (fun q => ⟨by rw [h2 (by simpa using q)]; rfl, T3⟩) (fun _ => T3)
  exact cond_i (fun q => ⟨by rw [(has_iff' _ _ _).2 (h0 (by simpa using q))]; rfl, T2⟩) (fun _ => T2)

/-- The least and the greatest of three. -/
theorem hull {p q r : Int} (hp : In p) (hq : In q) (hr : In r) : ∃ lo hi, In lo ∧ In hi ∧ lo ≤ p ∧ lo ≤ q ∧ lo ≤ r ∧ p ≤ hi ∧ q ≤ hi ∧ r ≤ hi ∧
    f24_0 (IntKind.i64.wrap (if r < if q < p then q else p then r else if q < p then q else p)) (IntKind.i64.wrap (if r > if q > p then q else p then r else if q > p then q else p)) = lo ∧
    f24_1 (IntKind.i64.wrap (if r < if q < p then q else p then r else if q < p then q else p)) (IntKind.i64.wrap (if r > if q > p then q else p then r else if q > p then q else p)) = hi := by
  have e1 : (if r < if q < p then q else p then r else if q < p then q else p) = min (min p q) r := by
    show min2 (min2 p q) r = _
    rw [min2_eq, min2_eq]
  have e2 : (if r > if q > p then q else p then r else if q > p then q else p) = max (max p q) r := by
    show max2 (max2 p q) r = _
    rw [max2_eq, max2_eq]
  unfold In at *
  refine ⟨min (min p q) r, max (max p q) r, by omega, by omega, by omega, by omega, by omega, by omega, by omega, by omega, ?_, ?_⟩
  · rw [e1, e2, i64_id (n := min (min p q) r) (by omega) (by omega), i64_id (n := max (max p q) r) (by omega) (by omega), (of_eq _ _).1]
    unfold nI
    rw [if_neg (by omega)]
    dsimp only; omega
  · rw [e1, e2, i64_id (n := min (min p q) r) (by omega) (by omega), i64_id (n := max (max p q) r) (by omega) (by omega), (of_eq _ _).2]
    unfold nI
    rw [if_neg (by omega)]
    dsimp only; omega

theorem third {a b c : Int} {P : Int → Prop} (ha : P a) (hb : P b) (hc : P c) {j : Nat} (hj : j < 3) : okK (some .i32) ([Cell.v (Value.int .i32 a), Cell.v (Value.int .i32 b), Cell.v (Value.int .i32 c)].getD (j * 1) .dead) = true ∧
    P (intC ([Cell.v (Value.int .i32 a), Cell.v (Value.int .i32 b), Cell.v (Value.int .i32 c)].getD (j * 1) .dead)) := by
  match j, hj with
  | 0, _ => exact ⟨rfl, ha⟩
  | 1, _ => exact ⟨rfl, hb⟩
  | 2, _ => exact ⟨rfl, hc⟩

theorem f6_true (a0_0 a0_1 a0_2 a1_0 a1_1 a1_2 a2 : Int) (h0 : (Lit.int .i32 a0_0).wf = true) (h1 : (Lit.int .i32 a0_1).wf = true) (h2 : (Lit.int .i32 a0_2).wf = true) (h3 : (Lit.int .i32 a1_0).wf = true) (h4 : (Lit.int .i32 a1_1).wf = true) (h5 : (Lit.int .i32 a1_2).wf = true)
    (_ : (Lit.int .i64 a2).wf = true) : f6_wp a0_0 a0_1 a0_2 a1_0 a1_1 a1_2 a2 (fun r' => r' = tt) := by
  have wf : ∀ {x : Int}, (Lit.int .i32 x).wf = true → In x := fun h => by simp [Lit.wf, IntKind.min, IntKind.max, IntKind.bits, IntKind.signed] at h; unfold In; omega
  have hk := kind5 a2
  obtain ⟨x0, x1, ix0, ix1, xp, xq, xr, yp, yq, yr, ex0, ex1⟩ := hull (wf h0) (wf h1) (wf h2)
  obtain ⟨y0, y1, iy0, iy1, up, uq, ur, vp, vq, vr, ey0, ey1⟩ := hull (wf h3) (wf h4) (wf h5)
  unfold f6_wp
  simp only [ex0, ex1, ey0, ey1]
  clear ex0 ex1 ey0 ey1
  generalize IntKind.i64.wrap (4 + IntKind.i64.wrap ((IntKind.u64.wrap a2).tmod 5)) = k at *
  refine ck_i (by rw [inB_iff.2 ix0, inB_iff.2 ix1, inB_iff.2 iy0, inB_iff.2 iy1]; rfl) ?_
  refine LoopP.ind (I := fun i => 0 ≤ i ∧ i ≤ 9) (μ := fun i => (9 - i).toNat) (fun i k0 hI hk0 => ?_) ⟨by omega, by omega⟩
  refine cond_i (fun q => ?_) (fun q => ?_)
  · have q := of_decide_eq_true q
    have hw : IntKind.i64.wrap (i + 1) = i + 1 := i64_id (by omega) (by omega)
    have hn := hk0 (i + 1) ⟨by omega, by omega⟩ (by omega)
    have t1 : i.tdiv 3 = i / 3 := Int.tdiv_eq_ediv_of_nonneg hI.1
    have t2 : i.tmod 3 = i % 3 := Int.tmod_eq_emod_of_nonneg hI.1
    have w3 : IntKind.i64.wrap (i / 3) = i / 3 := i64_id (by omega) (by omega)
    rw [hw, t1, t2, w3]
    obtain ⟨g1, g2⟩ := third (P := fun p => In p ∧ x0 ≤ p ∧ p ≤ x1) ⟨wf h0, xp, yp⟩ ⟨wf h1, xq, yq⟩ ⟨wf h2, xr, yr⟩ (j := (i / 3).toNat) (by omega)
    obtain ⟨g3, g4⟩ := third (P := fun p => In p ∧ y0 ≤ p ∧ p ≤ y1) ⟨wf h3, up, vp⟩ ⟨wf h4, uq, vq⟩ ⟨wf h5, ur, vr⟩ (j := (i % 3).toNat) (by omega)
    refine ck_i (by simp; omega) (ck_i ?_ (ck_i (by simp; omega) (ck_i ?_ ?_)))
    · rw [g1, Bool.and_true]; exact decide_eq_true (show (i / 3).toNat * 1 + 1 ≤ 3 by omega)
    · rw [g3, Bool.and_true]; exact decide_eq_true (show (i % 3).toNat * 1 + 1 ≤ 3 by omega)
    generalize intC ([Cell.v (Value.int .i32 a0_0), Cell.v (Value.int .i32 a0_1), Cell.v (Value.int .i32 a0_2)].getD ((i / 3).toNat * 1) .dead) = P at *
    generalize intC ([Cell.v (Value.int .i32 a1_0), Cell.v (Value.int .i32 a1_1), Cell.v (Value.int .i32 a1_2)].getD ((i % 3).toNat * 1) .dead) = Q at *
    obtain ⟨iP, P1, P2⟩ := g2
    obtain ⟨iQ, Q1, Q2⟩ := g4
    have wP : IntKind.i64.wrap P = P := by unfold In at iP; exact i64_id (by omega) (by omega)
    have wQ : IntKind.i64.wrap Q = Q := by unfold In at iQ; exact i64_id (by omega) (by omega)
    rw [wP, wQ]
    obtain ⟨o1, o2⟩ := one_eq hk iP iQ
    have D := do_has hk ix0 ix1 iy0 iy1 iP iQ P1 P2 Q1 Q2
    rw [← o2] at D
    rw [o1]
    exact round6 hn D.1 D.2.1 D.2.2
  · have hz := do_zero (k := k) (a := x0) (b := x1) (c := y0) (d := y1) hk (by omega) (by omega)
    have hr := do_ok8 k (a := x0) (b := x1) (c := y0) (d := y1)
    rw [hz]
    have fin : (bif f29_0 (doP k x0 x1 y0 y1).1 (doP k x0 x1 y0 y1).2.1 then ((fun r' => r' = tt) (Ret.mk (.one (.v (.bool .true))) [])) else ((decide ((doP k x0 x1 y0 y1).1 ≥ -2147483648)) = true ∧ ((fun r' => r' = tt) (Ret.mk (.one (.v (.bool (decide ((doP k x0 x1 y0 y1).2.1 ≤ 2147483647))))) [])))) := by
      refine cond_i (fun _ => rfl) (fun q => ?_)
      rw [empty_iff] at q
      have q := of_decide_eq_false q
      rcases hr with hr | hr
      · exact absurd hr q
      · unfold In at hr
        exact ⟨decide_eq_true (by omega), leaf (decide_eq_true (by omega))⟩
    refine cond_i (fun q => ⟨?_, fin⟩) (fun q => ⟨?_, fin⟩)
    · rw [has0_eq, decide_eq_true (show 7 ≤ k from of_decide_eq_true q)]
      simp
    · rw [decide_eq_false (show ¬ 7 ≤ k from of_decide_eq_false q)]
      rfl

end Go.Proofs.Ytlfojobligplkaa.Fn
