import Derived.Test.YtlfojobligplkaaWLItvConsts
import Derived.Test.YtlfojobligplkaaPuT
/- The law ItvConsts holds of all numbers. No conditions. -/
namespace Go.Proofs.Ytlfojobligplkaa.Fn
open Go Go.Proofs.Ytlfojobligplkaa.Mt

def holdsP (k x y : Int) : Bool := if k = 1 then x == y else if k = 2 then x != y else if k = 3 then decide (x < y) else if k = 4 then decide (x ≤ y) else if k = 5 then decide (x > y) else if k = 6 then decide (x ≥ y) else false
theorem holds_eq (k x y : Int) : f56_0 k x y = holdsP k x y := by
  unfold f56_0 holdsP
  rw [show Int.ofNat 1 = (1 : Int) from rfl, show Int.ofNat 2 = (2 : Int) from rfl, show Int.ofNat 3 = (3 : Int) from rfl, show Int.ofNat 4 = (4 : Int) from rfl, show Int.ofNat 5 = (5 : Int) from rfl, show Int.ofNat 6 = (6 : Int) from rfl]
  by_cases k1 : k = 1
  · rw [if_pos k1, show (k == 1) = true by simpa using k1]; rfl
  rw [if_neg k1, show (k == 1) = false by simpa using k1]
  by_cases k2 : k = 2
  · rw [if_pos k2, show (k == 2) = true by simpa using k2]; rfl
  rw [if_neg k2, show (k == 2) = false by simpa using k2]
  by_cases k3 : k = 3
  · rw [if_pos k3, show (k == 3) = true by simpa using k3]; rfl
  rw [if_neg k3, show (k == 3) = false by simpa using k3]
  by_cases k4 : k = 4
  · rw [if_pos k4, show (k == 4) = true by simpa using k4]; rfl
  rw [if_neg k4, show (k == 4) = false by simpa using k4]
  by_cases k5 : k = 5
  · rw [if_pos k5, show (k == 5) = true by simpa using k5]; rfl
  rw [if_neg k5, show (k == 5) = false by simpa using k5]
  by_cases k6 : k = 6
  · rw [if_pos k6, show (k == 6) = true by simpa using k6]; rfl
  rw [if_neg k6, show (k == 6) = false by simpa using k6]; rfl

theorem const_eq {x : Int} (h : In x) : f21_0 x = x ∧ f21_1 x = x := by
  unfold In at h
  unfold f21_0 f21_1
  rw [(of_eq _ _).1, (of_eq _ _).2]
  unfold nI
  rw [if_neg (by omega)]
  exact ⟨by simp only; omega, by simp only; omega⟩

theorem test_const (k x y : Int) (hk : 1 ≤ k ∧ k ≤ 6) : testP k x x y y = if holdsP k x y = true then ((x, x), (y, y)) else ((1, 0), (1, 0)) := by
  have hk : k = 1 ∨ k = 2 ∨ k = 3 ∨ k = 4 ∨ k = 5 ∨ k = 6 := by omega
  unfold testP
  rw [if_neg (by omega)]
  rcases hk with rfl | rfl | rfl | rfl | rfl | rfl <;> simp only [holdsP, mI, nI, unequalP, belowP, aboveP, Int.reduceEq, if_true, if_false, beq_iff_eq, bne_iff_ne, ne_eq, decide_eq_true_eq] <;> (repeat' split) <;> first | omega | (simp only [Prod.mk.injEq] <;> omega) | (simp_all <;> omega)

theorem u64_nonneg (a : Int) : 0 ≤ IntKind.u64.wrap a := by
  have e : IntKind.u64.wrap a = a % 18446744073709551616 := by simp [IntKind.wrap, IntKind.bits, IntKind.signed]
  omega

theorem kind6 (a : Int) : 1 ≤ IntKind.i64.wrap (1 + IntKind.i64.wrap ((IntKind.u64.wrap a).tmod 6)) ∧ IntKind.i64.wrap (1 + IntKind.i64.wrap ((IntKind.u64.wrap a).tmod 6)) ≤ 6 := by
  have h0 : 0 ≤ IntKind.u64.wrap a := u64_nonneg a
  have h1 : (IntKind.u64.wrap a).tmod 6 = IntKind.u64.wrap a % 6 := Int.tmod_eq_emod_of_nonneg h0
  rw [h1, i64_id (n := IntKind.u64.wrap a % 6) (by omega) (by omega), i64_id (by omega) (by omega)]
  omega

theorem consts_pure (x y k : Int) (hx : In x) (hy : In y) (hk : 1 ≤ k ∧ k ≤ 6) (a0 a1 a2 : Int) (e0 : IntKind.i64.wrap a0 = x) (e1 : IntKind.i64.wrap a1 = y) (e2 : IntKind.i64.wrap (1 + IntKind.i64.wrap ((IntKind.u64.wrap a2).tmod 6)) = k) : f15_wp a0 a1 a2 (fun r' => r' = tt) := by
  obtain ⟨t0, t1, t2, t3⟩ := test_eq k hx hx hy hy
  rw [test_const k x y hk] at t0 t1 t2 t3
  obtain ⟨cx0, cx1⟩ := const_eq hx
  obtain ⟨cy0, cy1⟩ := const_eq hy
  have j0 : f45_0 x x y y = min x y := by
    unfold f45_0; simp only [Int.lt_irrefl, gt_iff_lt, decide_false, cond_false]; split <;> omega
  have j1 : f45_1 x x y y = max x y := by
    unfold f45_1; simp only [Int.lt_irrefl, gt_iff_lt, decide_false, cond_false]; split <;> omega
  have i0 : (if y < x then y else x) = min x y := by split <;> omega
  have i1 : (if y > x then y else x) = max x y := by split <;> omega
  have o0 : f24_0 (min x y) (max x y) = min x y := by unfold In at *; rw [(of_eq _ _).1]; unfold nI; rw [if_neg (by omega)]; simp only; omega
  have o1 : f24_1 (min x y) (max x y) = max x y := by unfold In at *; rw [(of_eq _ _).2]; unfold nI; rw [if_neg (by omega)]; simp only; omega
  have m : f29_0 (f40_0 x x y y) (f40_1 x x y y) = (x != y) := by
    rw [(meet_eq ..).1, (meet_eq ..).2]; unfold mI nI f29_0
    by_cases h : x = y
    · subst h; simp
    · rw [if_neg (by omega), if_pos (by omega)]; simp [h]
  have w : f42_0 x x y y = (x == y) := by
    unfold f42_0; by_cases h : x = y
    · subst h; simp
    · rw [show (x == y) = false by simpa using h]
      by_cases h' : y ≤ x
      · simp [show ¬ x > x by omega, h']; omega
      · simp [show ¬ x > x by omega, h']
  have hs : f27_0 x x x = true := by unfold f27_0; simp
  unfold f15_wp
  simp only [e0, e1, e2, cx0, cx1, cy0, cy1, t0, t1, t2, t3, holds_eq, j0, j1, i0, i1, o0, o1, m, w, hs]
  cases hh : holdsP k x y with
  | true => simp [tt]
  | false => simp [tt]

theorem f15_true (a0 a1 a2 : Int) (h0 : (Lit.int .i32 a0).wf = true) (h1 : (Lit.int .i32 a1).wf = true) (_ : (Lit.int .i64 a2).wf = true) : f15_wp a0 a1 a2 (fun r' => r' = tt) := by
  have r0 : In a0 := by simp [Lit.wf, IntKind.min, IntKind.max, IntKind.bits, IntKind.signed] at h0; unfold In; omega
  have r1 : In a1 := by simp [Lit.wf, IntKind.min, IntKind.max, IntKind.bits, IntKind.signed] at h1; unfold In; omega
  have e0 : IntKind.i64.wrap a0 = a0 := by unfold In at r0; exact i64_id (by omega) (by omega)
  have e1 : IntKind.i64.wrap a1 = a1 := by unfold In at r1; exact i64_id (by omega) (by omega)
  exact consts_pure a0 a1 _ r0 r1 (kind6 a2) a0 a1 a2 e0 e1 rfl

end Go.Proofs.Ytlfojobligplkaa.Fn
