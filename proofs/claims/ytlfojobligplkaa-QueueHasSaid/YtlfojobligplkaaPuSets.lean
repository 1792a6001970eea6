import Derived.Test.YtlfojobligplkaaWLItvSets
import Derived.Test.YtlfojobligplkaaPuConsts
/- The law ItvSets holds of all numbers. No conditions. -/
namespace Go.Proofs.Ytlfojobligplkaa.Fn
open Go Go.Proofs.Ytlfojobligplkaa.Mt

def jI (a b c d : Int) : Int × Int := if a > b then nI c d else if c > d then (a, b) else (min a c, max b d)
def wI (a b c d : Int) : Int × Int := if a > b then nI c d else if c > d then (a, b) else ((if c < a then -2147483648 else a), (if d > b then 2147483647 else b))
theorem join_eq (a b c d : Int) : f45_0 a b c d = (jI a b c d).1 ∧ f45_1 a b c d = (jI a b c d).2 := by
  unfold f45_0 f45_1 jI
  by_cases h : a > b
  · rw [if_pos h, show decide (a > b) = true by simpa using h]; exact norm_eq c d
  · rw [if_neg h, show decide (a > b) = false by simpa using h]
    by_cases h' : c > d
    · rw [if_pos h', show decide (c > d) = true by simpa using h']; exact ⟨rfl, rfl⟩
    · rw [if_neg h', show decide (c > d) = false by simpa using h']
      refine ⟨?_, ?_⟩
      · show (if c < a then c else a) = min a c
        split <;> omega
      · show (if d > b then d else b) = max b d
        split <;> omega
theorem join8_eq (a b c d : Int) : f50_0 a b c d = (jI a b c d).1 ∧ f50_1 a b c d = (jI a b c d).2 := join_eq a b c d
theorem widen8_eq (a b c d : Int) : f51_0 a b c d = (wI a b c d).1 ∧ f51_1 a b c d = (wI a b c d).2 := by
  unfold f51_0 f51_1 wI
  by_cases h : a > b
  · rw [if_pos h, show decide (a > b) = true by simpa using h]; exact norm_eq c d
  · rw [if_neg h, show decide (a > b) = false by simpa using h]
    by_cases h' : c > d
    · rw [if_pos h', show decide (c > d) = true by simpa using h']; exact ⟨rfl, rfl⟩
    · rw [if_neg h', show decide (c > d) = false by simpa using h']
      by_cases h1 : c < a <;> by_cases h2 : d > b <;> simp [h1, h2] <;> rfl
theorem widen_eq (a b c d : Int) : f44_0 a b c d = (wI a b c d).1 ∧ f44_1 a b c d = (wI a b c d).2 := widen8_eq a b c d
theorem within_eq (a b c d : Int) : f42_0 a b c d = decide (a > b ∨ (c ≤ a ∧ b ≤ d)) := by
  rw [Bool.eq_iff_iff, within_iff]; simp

theorem in_wrap (n : Int) (hn : -9223372036854775808 ≤ n ∧ n ≤ 9223372036854775807) : (n = IntKind.i64.wrap (IntKind.i32.wrap n)) ↔ In n := by
  have e : IntKind.i32.wrap n = (n + 2147483648) % 4294967296 - 2147483648 := by rw [IntKind.wrap_i32]
  have h := i32_range n
  have e2 : IntKind.i64.wrap (IntKind.i32.wrap n) = IntKind.i32.wrap n := i64_id (by rw [e]; omega) (by rw [e]; omega)
  rw [e2, e]
  unfold In
  omega

theorem sets_pure (x y u v n : Int) (hx : In x) (_hy : In y) (hu : In u) (hv : In v) (hn : -9223372036854775808 ≤ n ∧ n ≤ 9223372036854775807) (a0_0 a0_1 a1_0 a1_1 : Int) (e0 : f31_0 a0_0 a0_1 = x) (e1 : f31_1 a0_0 a0_1 = y) (e2 : f31_0 a1_0 a1_1 = u) (e3 : f31_1 a1_0 a1_1 = v) : f13_wp a0_0 a0_1 a1_0 a1_1 n (fun r' => r' = tt) := by
  have e30 : ∀ a b, f30_0 a b = a := fun _ _ => rfl
  have e31 : ∀ a b, f30_1 a b = b := fun _ _ => rfl
  have e34 : ∀ a b, f34_0 a b = a := fun _ _ => rfl
  have e35 : ∀ a b, f34_1 a b = b := fun _ _ => rfl
  have W1 : f42_0 x y (jI x y u v).1 (jI x y u v).2 = true := by
    rw [within_eq, decide_eq_true_eq]; unfold jI nI; (repeat' split) <;> simp only [] <;> omega
  have W2 : f42_0 u v (jI x y u v).1 (jI x y u v).2 = true := by
    rw [within_eq, decide_eq_true_eq]; unfold jI nI; (repeat' split) <;> simp only [] <;> omega
  have W3 : f42_0 (jI x y u v).1 (jI x y u v).2 (wI x y u v).1 (wI x y u v).2 = true := by
    rw [within_eq, decide_eq_true_eq]; unfold In at *; unfold jI wI nI; (repeat' split) <;> simp only [] <;> omega
  have C2 : f29_0 (f24_0 n n) (f24_1 n n) = (n != IntKind.i64.wrap (IntKind.i32.wrap n)) := by
    rw [empty_iff, (of_eq n n).1, (of_eq n n).2, Bool.eq_iff_iff, decide_eq_true_eq, bne_iff_ne, Ne, in_wrap n hn]
    unfold nI In
    (repeat' split) <;> simp only [] <;> omega
  have C3 : f24_0 x v = (nI x v).1 ∧ f24_1 x v = (nI x v).2 := by
    unfold In at *
    rw [(of_eq x v).1, (of_eq x v).2, show max x (-2147483648) = x by omega, show min v 2147483647 = v by omega]
    exact ⟨rfl, rfl⟩
  have N0 : ∀ a b c d, f41_0 a b c d = f52_0 a b c d := fun _ _ _ _ => rfl
  have N1 : ∀ a b c d, f41_1 a b c d = f52_1 a b c d := fun _ _ _ _ => rfl
  have Q : f21_0 n = f24_0 n n ∧ f21_1 n = f24_1 n n := ⟨rfl, rfl⟩
  have H : ∀ a b c, f27_0 a b c = f49_0 a b c := fun _ _ _ => rfl
  have i0 : (if u > x then u else x) = max x u := by split <;> omega
  have i1 : (if v < y then v else y) = min y v := by split <;> omega
  unfold f13_wp
  simp only [e30, e31, e34, e35, e0, e1, e2, e3, H, empty_iff, (join_eq _ _ _ _).1, (join_eq _ _ _ _).2, (join8_eq _ _ _ _).1, (join8_eq _ _ _ _).2, (widen_eq _ _ _ _).1, (widen_eq _ _ _ _).2, (widen8_eq _ _ _ _).1, (widen8_eq _ _ _ _).2, N0, N1, W1, W2, W3, Q.1, Q.2, (meet_eq _ _ _ _).1, (meet_eq _ _ _ _).2, (norm8_eq _ _).1, (norm8_eq _ _).2, C3.1, C3.2, i0, i1]
  rw [empty_iff] at C2
  simp only [C2, within_eq]
  clear e0 e1 e2 e3 W1 W2 W3 C2 C3 N0 N1 Q H i0 i1 e30 e31 e34 e35 hx _hy hu hv hn
  by_cases hxy : x > y
  · rw [show mI x y u v = (1, 0) from if_pos (.inl hxy)]
    simp only [hxy, decide_true, true_or, cond_true]
    repeat' first | apply And.intro | refine cond_i (fun _ => ?_) (fun _ => ?_)
    all_goals first | rfl | trivial | (simp [tt]; done)
  · by_cases huv : u > v
    · rw [show mI x y u v = (1, 0) from if_pos (.inr huv)]
      simp only [hxy, huv, decide_true, decide_false, false_or, cond_true, cond_false]
      repeat' first | apply And.intro | refine cond_i (fun _ => ?_) (fun _ => ?_)
      all_goals first | rfl | trivial | (simp [tt]; done) | (simp_all; done) | (simp_all <;> omega)
    · rw [show mI x y u v = nI (max x u) (min y v) from if_neg (by omega)]
      simp only [hxy, huv, decide_false, false_or, cond_false]
      repeat' first | apply And.intro | refine cond_i (fun _ => ?_) (fun _ => ?_)
      all_goals first | rfl | trivial | (simp [tt]; done) | (simp_all; done) | (simp_all <;> omega)

theorem f13_true (a0_0 a0_1 a1_0 a1_1 a2 : Int) (_ : (Lit.int .i64 a0_0).wf = true) (_ : (Lit.int .i64 a0_1).wf = true) (_ : (Lit.int .i64 a1_0).wf = true) (_ : (Lit.int .i64 a1_1).wf = true) (h : (Lit.int .i64 a2).wf = true) : f13_wp a0_0 a0_1 a1_0 a1_1 a2 (fun r' => r' = tt) :=
  sets_pure _ _ _ _ a2 (bend0 ..) (bend1 ..) (bend0 ..) (bend1 ..) (by simp [Lit.wf, IntKind.min, IntKind.max, IntKind.bits, IntKind.signed] at h; omega) _ _ _ _ rfl rfl rfl rfl

end Go.Proofs.Ytlfojobligplkaa.Fn
