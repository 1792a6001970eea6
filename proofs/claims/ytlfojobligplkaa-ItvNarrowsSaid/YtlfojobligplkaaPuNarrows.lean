import Derived.Test.YtlfojobligplkaaFnLItvNarrows
import Derived.Test.YtlfojobligplkaaPuItv
/- The law ItvNarrows of the functions found: true at all numbers. No conditions. -/
namespace Go.Proofs.Ytlfojobligplkaa.Fn
open Go Go.Proofs.Ytlfojobligplkaa.Mt

theorem narrows_pure (x0 x1 y0 y1 m0 m1 n0 n1 k0 k1 l0 l1 : Int)
    (hm : ((x0 > x1 ∨ y0 > y1) ∧ m0 = 1 ∧ m1 = 0) ∨ (x0 ≤ x1 ∧ y0 ≤ y1 ∧ ∃ x y, ((x = x0 ∧ y0 ≤ x0) ∨ (x = y0 ∧ x0 < y0)) ∧ ((y = x1 ∧ x1 ≤ y1) ∨ (y = y1 ∧ y1 < x1)) ∧ ((x > y ∧ m0 = 1 ∧ m1 = 0) ∨ (x ≤ y ∧ m0 = x ∧ m1 = y))))
    (hn : ((x0 > x1 ∨ m0 > m1) ∧ n0 = 1 ∧ n1 = 0) ∨ (x0 ≤ x1 ∧ m0 ≤ m1 ∧ ∃ x y, ((x0 = -2147483648 ∧ x = m0) ∨ (x0 ≠ -2147483648 ∧ x = x0)) ∧ ((x1 = 2147483647 ∧ y = m1) ∨ (x1 ≠ 2147483647 ∧ y = x1)) ∧ ((x > y ∧ n0 = 1 ∧ n1 = 0) ∨ (x ≤ y ∧ n0 = x ∧ n1 = y))))
    (hk : ((n0 > n1 ∨ m0 > m1) ∧ k0 = 1 ∧ k1 = 0) ∨ (n0 ≤ n1 ∧ m0 ≤ m1 ∧ ∃ x y, ((n0 = -2147483648 ∧ x = m0) ∨ (n0 ≠ -2147483648 ∧ x = n0)) ∧ ((n1 = 2147483647 ∧ y = m1) ∨ (n1 ≠ 2147483647 ∧ y = n1)) ∧ ((x > y ∧ k0 = 1 ∧ k1 = 0) ∨ (x ≤ y ∧ k0 = x ∧ k1 = y))))
    (hl : ((n0 > n1 ∨ k0 > k1) ∧ l0 = 1 ∧ l1 = 0) ∨ (n0 ≤ n1 ∧ k0 ≤ k1 ∧ ∃ x y, ((n0 = -2147483648 ∧ x = k0) ∨ (n0 ≠ -2147483648 ∧ x = n0)) ∧ ((n1 = 2147483647 ∧ y = k1) ∨ (n1 ≠ 2147483647 ∧ y = n1)) ∧ ((x > y ∧ l0 = 1 ∧ l1 = 0) ∨ (x ≤ y ∧ l0 = x ∧ l1 = y)))) :
    (n0 > n1 ∨ (x0 ≤ n0 ∧ n1 ≤ x1)) ∧ (m0 > m1 ∨ (n0 ≤ m0 ∧ m1 ≤ n1)) ∧ k0 = l0 ∧ k1 = l1 := by
  rcases hm with ⟨hm, rfl, rfl⟩ | ⟨hm1, hm2, x, y, hx, hy, hm⟩
  · rcases hn with ⟨hn, rfl, rfl⟩ | ⟨_, hn2, _⟩
    · rcases hk with ⟨hk, rfl, rfl⟩ | ⟨hk1, _⟩
      · rcases hl with ⟨hl, rfl, rfl⟩ | ⟨hl1, _⟩ <;> omega
      · omega
    · omega
  · rcases hn with ⟨hn, rfl, rfl⟩ | ⟨hn1, hn2, x', y', hx', hy', hn⟩
    · rcases hk with ⟨hk, rfl, rfl⟩ | ⟨hk1, _⟩
      · rcases hl with ⟨hl, rfl, rfl⟩ | ⟨hl1, _⟩ <;> omega
      · omega
    · rcases hk with ⟨hk, rfl, rfl⟩ | ⟨hk1, hk2, x'', y'', hx'', hy'', hk⟩
      · rcases hl with ⟨hl, rfl, rfl⟩ | ⟨hl1, hl2, x3, y3, hx3, hy3, hl⟩ <;> omega
      · rcases hl with ⟨hl, rfl, rfl⟩ | ⟨hl1, hl2, x3, y3, hx3, hy3, hl⟩ <;> omega

theorem f10_true (a0_0 a0_1 a1_0 a1_1 : Int) (_ : (Lit.int .i64 a0_0).wf = true) (_ : (Lit.int .i64 a0_1).wf = true) (_ : (Lit.int .i64 a1_0).wf = true) (_ : (Lit.int .i64 a1_1).wf = true) : f10_0 a0_0 a0_1 a1_0 a1_1 = true := by
  unfold f10_0
  generalize f30_0 (f39_0 (f31_0 a0_0 a0_1) (f31_1 a0_0 a0_1)) (f39_1 (f31_0 a0_0 a0_1) (f31_1 a0_0 a0_1)) = x0
  generalize f30_1 (f39_0 (f31_0 a0_0 a0_1) (f31_1 a0_0 a0_1)) (f39_1 (f31_0 a0_0 a0_1) (f31_1 a0_0 a0_1)) = x1
  generalize f30_0 (f39_0 (f31_0 a1_0 a1_1) (f31_1 a1_0 a1_1)) (f39_1 (f31_0 a1_0 a1_1) (f31_1 a1_0 a1_1)) = y0
  generalize f30_1 (f39_0 (f31_0 a1_0 a1_1) (f31_1 a1_0 a1_1)) (f39_1 (f31_0 a1_0 a1_1) (f31_1 a1_0 a1_1)) = y1
  have hm := meet_rel x0 x1 y0 y1
  have hn := narrow_rel x0 x1 (f40_0 x0 x1 y0 y1) (f40_1 x0 x1 y0 y1)
  have hk := narrow_rel (f41_0 x0 x1 (f40_0 x0 x1 y0 y1) (f40_1 x0 x1 y0 y1)) (f41_1 x0 x1 (f40_0 x0 x1 y0 y1) (f40_1 x0 x1 y0 y1)) (f40_0 x0 x1 y0 y1) (f40_1 x0 x1 y0 y1)
  generalize f40_0 x0 x1 y0 y1 = m0 at *
  generalize f40_1 x0 x1 y0 y1 = m1 at *
  generalize f41_0 x0 x1 m0 m1 = n0 at *
  generalize f41_1 x0 x1 m0 m1 = n1 at *
  have hl := narrow_rel n0 n1 (f41_0 n0 n1 m0 m1) (f41_1 n0 n1 m0 m1)
  have P := narrows_pure x0 x1 y0 y1 m0 m1 n0 n1 _ _ _ _ hm hn hk hl
  obtain ⟨p1, p2, p3, p4⟩ := P
  rw [(within_iff n0 n1 x0 x1).2 p1, (within_iff m0 m1 n0 n1).2 p2, ← p3, ← p4]
  simp

end Go.Proofs.Ytlfojobligplkaa.Fn
