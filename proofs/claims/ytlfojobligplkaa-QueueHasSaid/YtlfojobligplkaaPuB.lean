import Derived.Test.YtlfojobligplkaaFnB
import Derived.Test.YtlfojobligplkaaPuItv
import Derived.Test.YtlfojobligplkaaMtO2
import Derived.IntWalk
/- What the functions of Itvs tell of numbers in their bounds. Conditions: those that each lemma names. -/
namespace Go.Proofs.Ytlfojobligplkaa.Fn
open Go Go.Proofs.Ytlfojobligplkaa.Mt

def tt : Ret := Ret.mk (.one (.v (.bool true))) []
theorem leaf {q : Bool} (h : q = true) : (fun r' => r' = tt) (Ret.mk (.one (.v (.bool q))) []) := by rw [h]; rfl

theorem i32_range (a : Int) : -2147483648 ≤ IntKind.i64.wrap (IntKind.i32.wrap a) ∧ IntKind.i64.wrap (IntKind.i32.wrap a) ≤ 2147483647 := by
  have h : -2147483648 ≤ IntKind.i32.wrap a ∧ IntKind.i32.wrap a ≤ 2147483647 := by
    rw [IntKind.wrap_i32]; omega
  rw [IntWalk.i64_in _ (by omega)]
  exact h

theorem i64_id {n : Int} (h : -9223372036854775808 ≤ n) (h' : n ≤ 9223372036854775807) : IntKind.i64.wrap n = n := IntWalk.i64_in n ⟨h, h'⟩

/-- In range. -/
def In (a : Int) : Prop := -2147483648 ≤ a ∧ a ≤ 2147483647

theorem bend0 (a b : Int) : In (f31_0 a b) := i32_range a
theorem bend1 (a b : Int) : In (f31_1 a b) := i32_range b

theorem empty_iff (a b : Int) : f29_0 a b = decide (a > b) := rfl
theorem meet_all {a b : Int} (ha : In a) (hb : In b) (h : a ≤ b) : f40_0 a b f61_0 f61_1 = a ∧ f40_1 a b f61_0 f61_1 = b := by
  unfold In at *
  have e0 : f61_0 = -2147483648 := rfl
  have e1 : f61_1 = 2147483647 := rfl
  rw [e0, e1]
  rcases meet_rel a b (-2147483648) 2147483647 with ⟨h1, _⟩ | ⟨_, _, x, y, hx, hy, h3 | h3⟩
  · omega
  · omega
  · rw [h3.2.1, h3.2.2]; omega

/-- The least Itv of the numbers that may be. -/
theorem of_rel (a b : Int) : f24_0 a b = f60_0 (max a (-2147483648)) (min b 2147483647) ∧ f24_1 a b = f60_1 (max a (-2147483648)) (min b 2147483647) := by
  unfold f24_0 f24_1
  have e1 : Int.negSucc 2147483647 = -2147483648 := rfl
  have e2 : Int.ofNat 2147483647 = 2147483647 := rfl
  rw [e1, e2]
  have h1 : (if (-2147483648 : Int) > a then (-2147483648 : Int) else a) = max a (-2147483648) := by split <;> omega
  have h2 : (if (2147483647 : Int) < b then (2147483647 : Int) else b) = min b 2147483647 := by split <;> omega
  rw [h1, h2]
  exact ⟨rfl, rfl⟩

theorem norm_same (a b : Int) : f60_0 a b = f39_0 a b ∧ f60_1 a b = f39_1 a b := by
  constructor <;> rfl

theorem cut_same (a b : Int) : f62_0 a b = f33_0 a b ∧ f62_1 a b = f33_1 a b ∧ f62_2 a b = f33_2 a b ∧ f62_3 a b = false := by
  unfold f62_0 f62_1 f62_2 f62_3 f33_0 f33_1 f33_2 f24_0 f24_1
  refine ⟨?_, ?_, rfl, ?_⟩
  · cases decide (a < Int.negSucc 2147483647) <;> rfl
  · cases decide (a < Int.negSucc 2147483647) <;> rfl
  · cases decide (a < Int.negSucc 2147483647) <;> rfl

/-- Sums and differences, of Itvs in range. -/
theorem do4 {a b c d : Int} (ha : In a) (hb : In b) (hc : In c) (hd : In d) (h : a ≤ b) (h' : c ≤ d) :
    f25_0 4 a b c d = f33_0 (a + c) (b + d) ∧ f25_1 4 a b c d = f33_1 (a + c) (b + d) ∧ f25_2 4 a b c d = f33_2 (a + c) (b + d) ∧ f25_3 4 a b c d = false := by
  obtain ⟨m0, m1⟩ := meet_all ha hb h
  obtain ⟨m2, m3⟩ := meet_all hc hd h'
  have e1 : f29_0 a b = false := by rw [empty_iff]; simpa using h
  have e2 : f29_0 c d = false := by rw [empty_iff]; simpa using h'
  unfold In at *
  have w1 : IntKind.i64.wrap (a + c) = a + c := i64_id (by omega) (by omega)
  have w2 : IntKind.i64.wrap (b + d) = b + d := i64_id (by omega) (by omega)
  obtain ⟨c0, c1, c2, c3⟩ := cut_same (a + c) (b + d)
  unfold f25_0 f25_1 f25_2 f25_3
  simp only [m0, m1, m2, m3, e1, e2, cond_false, show ((4 : Int) == 4) = true from rfl, cond_true, w1, w2]
  exact ⟨c0, c1, c2, c3⟩
theorem do5 {a b c d : Int} (ha : In a) (hb : In b) (hc : In c) (hd : In d) (h : a ≤ b) (h' : c ≤ d) :
    f25_0 5 a b c d = f33_0 (a - d) (b - c) ∧ f25_1 5 a b c d = f33_1 (a - d) (b - c) ∧ f25_2 5 a b c d = f33_2 (a - d) (b - c) ∧ f25_3 5 a b c d = false := by
  obtain ⟨m0, m1⟩ := meet_all ha hb h
  obtain ⟨m2, m3⟩ := meet_all hc hd h'
  have e1 : f29_0 a b = false := by rw [empty_iff]; simpa using h
  have e2 : f29_0 c d = false := by rw [empty_iff]; simpa using h'
  unfold In at *
  have w1 : IntKind.i64.wrap (a - d) = a - d := i64_id (by omega) (by omega)
  have w2 : IntKind.i64.wrap (b - c) = b - c := i64_id (by omega) (by omega)
  obtain ⟨c0, c1, c2, c3⟩ := cut_same (a - d) (b - c)
  unfold f25_0 f25_1 f25_2 f25_3
  simp only [m0, m1, m2, m3, e1, e2, cond_false, show ((5 : Int) == 4) = false from rfl, show ((5 : Int) == 5) = true from rfl, cond_true, w1, w2]
  exact ⟨c0, c1, c2, c3⟩
/-- Of none nothing comes. -/
theorem do_empty {k a b c d : Int} (h : a > b ∨ c > d) : f25_0 k a b c d = 1 ∧ f25_1 k a b c d = 0 ∧ f25_2 k a b c d = false ∧ f25_3 k a b c d = false ∧ f25_ok k a b c d = true := by
  unfold f25_0 f25_1 f25_2 f25_3 f25_ok
  simp only [empty_iff]
  by_cases h1 : a > b
  · simp [h1, f43_0, f43_1]
  · have h2 : c > d := by omega
    simp [h1, h2, f43_0, f43_1]
theorem do_ok {k : Int} (hk : k = 4 ∨ k = 5) (a b c d : Int) : f25_ok k a b c d = true := by
  unfold f25_ok
  rcases hk with rfl | rfl <;> (cases f29_0 a b <;> cases f29_0 c d <;> cases f29_0 (f40_0 a b f61_0 f61_1) (f40_1 a b f61_0 f61_1) <;> cases f29_0 (f40_0 c d f61_0 f61_1) (f40_1 c d f61_0 f61_1) <;> rfl)

theorem neg_ok (a b : Int) : f32_ok a b = true := by
  unfold f32_ok
  rw [do_ok (.inr rfl)]; rfl
theorem neg_in {a b : Int} (ha : In a) (hb : In b) (h : a ≤ b) : f32_0 a b = f33_0 (0 - b) (0 - a) ∧ f32_1 a b = f33_1 (0 - b) (0 - a) ∧ f32_2 a b = f33_2 (0 - b) (0 - a) ∧ f32_3 a b = false := by
  have e0 : f21_0 0 = 0 := by decide
  have e1 : f21_1 0 = 0 := by decide
  have := do5 (a := 0) (b := 0) (c := a) (d := b) (by unfold In; omega) (by unfold In; omega) ha hb (by omega) h
  unfold f32_0 f32_1 f32_2 f32_3
  rw [e0, e1]
  exact this
theorem neg_empty {a b : Int} (h : a > b) : f32_0 a b = 1 ∧ f32_1 a b = 0 ∧ f32_2 a b = false ∧ f32_3 a b = false := by
  have := do_empty (k := 5) (a := f21_0 0) (b := f21_1 0) (c := a) (d := b) (.inr h)
  unfold f32_0 f32_1 f32_2 f32_3
  exact ⟨this.1, this.2.1, this.2.2.1, this.2.2.2.1⟩

end Go.Proofs.Ytlfojobligplkaa.Fn
