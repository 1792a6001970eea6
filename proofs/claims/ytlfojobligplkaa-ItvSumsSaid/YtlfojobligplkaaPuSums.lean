import Derived.Test.YtlfojobligplkaaWLItvSums
import Derived.Test.YtlfojobligplkaaPuB
/- The law ItvSums holds of all numbers. No conditions. -/
namespace Go.Proofs.Ytlfojobligplkaa.Fn
open Go Go.Proofs.Ytlfojobligplkaa.Mt

theorem sums_pure (x y u v : Int) (hx : In x) (hy : In y) (hu : In u) (hv : In v) (a0_0 a0_1 a1_0 a1_1 : Int) (e0 : f31_0 a0_0 a0_1 = x) (e1 : f31_1 a0_0 a0_1 = y) (e2 : f31_0 a1_0 a1_1 = u) (e3 : f31_1 a1_0 a1_1 = v) : f8_wp a0_0 a0_1 a1_0 a1_1 (fun r' => r' = tt) := by
  have e30 : ∀ a b, f30_0 a b = a := fun _ _ => rfl
  have e31 : ∀ a b, f30_1 a b = b := fun _ _ => rfl
  have e34 : ∀ a b, f34_0 a b = a := fun _ _ => rfl
  have e35 : ∀ a b, f34_1 a b = b := fun _ _ => rfl
  unfold f8_wp
  simp only [e30, e31, e34, e35, e0, e1, e2, e3, do_ok (.inl rfl), do_ok (.inr rfl), neg_ok, Bool.and_true, cond_true]
  have hw1 : IntKind.i64.wrap (0 - y) = 0 - y := by unfold In at *; exact i64_id (by omega) (by omega)
  have hw2 : IntKind.i64.wrap (0 - x) = 0 - x := by unfold In at *; exact i64_id (by omega) (by omega)
  have hw3 : IntKind.i64.wrap (x + u) = x + u := by unfold In at *; exact i64_id (by omega) (by omega)
  have hw4 : IntKind.i64.wrap (y + v) = y + v := by unfold In at *; exact i64_id (by omega) (by omega)
  have hw5 : IntKind.i64.wrap (x - v) = x - v := by unfold In at *; exact i64_id (by omega) (by omega)
  have hw6 : IntKind.i64.wrap (y - u) = y - u := by unfold In at *; exact i64_id (by omega) (by omega)
  simp only [hw1, hw2, hw3, hw4, hw5, hw6]
  refine cond_i (fun h => ?_) (fun h => ?_)
  · have h := of_decide_eq_true h
    obtain ⟨n0, n1, n2, n3⟩ := neg_empty h
    obtain ⟨p0, p1, p2, p3, _⟩ := do_empty (k := 4) (c := u) (d := v) (.inl h)
    obtain ⟨q0, q1, q2, q3, _⟩ := do_empty (k := 5) (c := u) (d := v) (.inl h)
    simp only [n0, n1, n2, n3, p0, p1, p2, p3, q0, q1, q2, q3]
    repeat' apply And.intro
    all_goals first | rfl | trivial | (simp; done)
  · have h : x ≤ y := by simpa using h
    obtain ⟨n0, n1, n2, n3⟩ := neg_in hx hy h
    simp only [n0, n1, n2, n3]
    by_cases h' : u > v
    · obtain ⟨p0, p1, p2, p3, _⟩ := do_empty (k := 4) (a := x) (b := y) (.inr h')
      obtain ⟨q0, q1, q2, q3, _⟩ := do_empty (k := 5) (a := x) (b := y) (.inr h')
      simp only [p0, p1, p2, p3, q0, q1, q2, q3, h', decide_true, cond_true]
      repeat' apply And.intro
      all_goals first | rfl | trivial | (simp; done)
    · have h' : u ≤ v := by omega
      obtain ⟨p0, p1, p2, p3⟩ := do4 hx hy hu hv h h'
      obtain ⟨q0, q1, q2, q3⟩ := do5 hx hy hu hv h h'
      simp only [p0, p1, p2, p3, q0, q1, q2, q3, show ¬ u > v by omega, decide_false, cond_false]
      repeat' apply And.intro
      all_goals first | rfl | trivial | (simp; done) | exact leaf (by simp)

theorem f8_true (a0_0 a0_1 a1_0 a1_1 : Int) (_ : (Lit.int .i64 a0_0).wf = true) (_ : (Lit.int .i64 a0_1).wf = true) (_ : (Lit.int .i64 a1_0).wf = true) (_ : (Lit.int .i64 a1_1).wf = true) : f8_wp a0_0 a0_1 a1_0 a1_1 (fun r' => r' = tt) :=
  sums_pure _ _ _ _ (bend0 ..) (bend1 ..) (bend0 ..) (bend1 ..) _ _ _ _ rfl rfl rfl rfl

end Go.Proofs.Ytlfojobligplkaa.Fn
