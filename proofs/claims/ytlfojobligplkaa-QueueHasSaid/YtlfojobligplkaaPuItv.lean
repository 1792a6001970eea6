import Derived.Test.YtlfojobligplkaaFnA
/- What the functions of Itvs found tell, as inequalities. No conditions. -/
namespace Go.Proofs.Ytlfojobligplkaa.Fn
open Go Go.Proofs.Ytlfojobligplkaa.Mt

theorem norm_rel (a b : Int) : (a > b ∧ f60_0 a b = 1 ∧ f60_1 a b = 0) ∨ (a ≤ b ∧ f60_0 a b = a ∧ f60_1 a b = b) := by
  unfold f60_0 f60_1 f43_0 f43_1
  by_cases h : a > b
  · exact .inl ⟨h, by simp [h], by simp [h]⟩
  · exact .inr ⟨by omega, by simp [h], by simp [h]⟩

theorem norm8_rel (a b : Int) : (a > b ∧ f39_0 a b = 1 ∧ f39_1 a b = 0) ∨ (a ≤ b ∧ f39_0 a b = a ∧ f39_1 a b = b) := by
  unfold f39_0 f39_1
  by_cases h : a > b
  · exact .inl ⟨h, by simp [h], by simp [h]⟩
  · exact .inr ⟨by omega, by simp [h], by simp [h]⟩

theorem within_iff (a b c d : Int) : f42_0 a b c d = true ↔ (a > b ∨ (c ≤ a ∧ b ≤ d)) := by
  unfold f42_0
  by_cases h : a > b
  · simp [h]
  · by_cases h2 : c ≤ a
    · simp [h, h2]
    · simp [h, h2]

theorem meet_rel (a b c d : Int) : ((a > b ∨ c > d) ∧ f40_0 a b c d = 1 ∧ f40_1 a b c d = 0) ∨
    (a ≤ b ∧ c ≤ d ∧ ∃ x y, ((x = a ∧ c ≤ a) ∨ (x = c ∧ a < c)) ∧ ((y = b ∧ b ≤ d) ∨ (y = d ∧ d < b)) ∧ ((x > y ∧ f40_0 a b c d = 1 ∧ f40_1 a b c d = 0) ∨ (x ≤ y ∧ f40_0 a b c d = x ∧ f40_1 a b c d = y))) := by
  unfold f40_0 f40_1
  by_cases h : a > b
  · exact .inl ⟨.inl h, by simp [h, f43_0], by simp [h, f43_1]⟩
  · by_cases h2 : c > d
    · exact .inl ⟨.inr h2, by simp [h, h2, f43_0], by simp [h, h2, f43_1]⟩
    · refine .inr ⟨by omega, by omega, (if c > a then c else a), (if d < b then d else b), ?_, ?_, ?_⟩
      · split <;> omega
      · split <;> omega
      · simp only [h, h2, decide_false, cond_false]
        exact norm_rel _ _

theorem narrow_rel (a b c d : Int) : ((a > b ∨ c > d) ∧ f41_0 a b c d = 1 ∧ f41_1 a b c d = 0) ∨
    (a ≤ b ∧ c ≤ d ∧ ∃ x y, ((a = -2147483648 ∧ x = c) ∨ (a ≠ -2147483648 ∧ x = a)) ∧ ((b = 2147483647 ∧ y = d) ∨ (b ≠ 2147483647 ∧ y = b)) ∧ ((x > y ∧ f41_0 a b c d = 1 ∧ f41_1 a b c d = 0) ∨ (x ≤ y ∧ f41_0 a b c d = x ∧ f41_1 a b c d = y))) := by
  unfold f41_0 f41_1
  by_cases h : a > b
  · exact .inl ⟨.inl h, by simp [h, f43_0], by simp [h, f43_1]⟩
  · by_cases h2 : c > d
    · exact .inl ⟨.inr h2, by simp [h, h2, f43_0], by simp [h, h2, f43_1]⟩
    · refine .inr ⟨by omega, by omega, ?_⟩
      have e1 : Int.negSucc 2147483647 = -2147483648 := rfl
      have e2 : Int.ofNat 2147483647 = 2147483647 := rfl
      rw [e1, e2]
      by_cases h3 : a = -2147483648
      · have e3 : (a == -2147483648) = true := by simpa using h3
        by_cases h4 : b = 2147483647
        · have e4 : (b == 2147483647) = true := by simpa using h4
          refine ⟨c, d, .inl ⟨h3, rfl⟩, .inl ⟨h4, rfl⟩, ?_⟩
          simp only [h, h2, e3, e4, decide_false, cond_false, cond_true]
          simpa only [h2] using norm_rel c d
        · have e4 : (b == 2147483647) = false := by simpa using h4
          refine ⟨c, b, .inl ⟨h3, rfl⟩, .inr ⟨h4, rfl⟩, ?_⟩
          simp only [h, h2, e3, e4, decide_false, cond_false, cond_true]
          exact norm_rel c b
      · have e3 : (a == -2147483648) = false := by simpa using h3
        by_cases h4 : b = 2147483647
        · have e4 : (b == 2147483647) = true := by simpa using h4
          refine ⟨a, d, .inr ⟨h3, rfl⟩, .inl ⟨h4, rfl⟩, ?_⟩
          simp only [h, h2, e3, e4, decide_false, cond_false, cond_true]
          exact norm_rel a d
        · have e4 : (b == 2147483647) = false := by simpa using h4
          refine ⟨a, b, .inr ⟨h3, rfl⟩, .inr ⟨h4, rfl⟩, ?_⟩
          simp only [h, h2, e3, e4, decide_false, cond_false]
          simpa only [h] using norm_rel a b

end Go.Proofs.Ytlfojobligplkaa.Fn
