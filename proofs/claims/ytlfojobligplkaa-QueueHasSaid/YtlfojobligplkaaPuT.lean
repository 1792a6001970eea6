import Derived.Test.YtlfojobligplkaaPuB
/- What comparisons tell of Itvs in range. Conditions: those that each lemma names. -/
namespace Go.Proofs.Ytlfojobligplkaa.Fn
open Go Go.Proofs.Ytlfojobligplkaa.Mt

def nI (a b : Int) : Int × Int := if a > b then (1, 0) else (a, b)
theorem norm_eq (a b : Int) : f60_0 a b = (nI a b).1 ∧ f60_1 a b = (nI a b).2 := by
  unfold f60_0 f60_1 nI
  by_cases h : a > b
  · simp [h, f43_0, f43_1]
  · simp [h]
theorem norm8_eq (a b : Int) : f39_0 a b = (nI a b).1 ∧ f39_1 a b = (nI a b).2 := norm_eq a b

theorem of_eq (a b : Int) : f24_0 a b = (nI (max a (-2147483648)) (min b 2147483647)).1 ∧ f24_1 a b = (nI (max a (-2147483648)) (min b 2147483647)).2 := by
  rw [(of_rel a b).1, (of_rel a b).2]
  exact norm_eq _ _

/-- Of both. -/
def mI (a b c d : Int) : Int × Int := if a > b ∨ c > d then (1, 0) else nI (max a c) (min b d)
theorem meet_eq (a b c d : Int) : f40_0 a b c d = (mI a b c d).1 ∧ f40_1 a b c d = (mI a b c d).2 := by
  unfold f40_0 f40_1 mI
  have h1 : (if c > a then c else a) = max a c := by split <;> omega
  have h2 : (if d < b then d else b) = min b d := by split <;> omega
  rw [h1, h2]
  by_cases h : a > b
  · simp [h, f43_0, f43_1]
  · by_cases h' : c > d
    · simp [h, h', f43_0, f43_1]
    · simp only [h, h', decide_false, cond_false, or_self, if_false]
      exact norm_eq _ _

def belowP (a b d by_ : Int) : Int × Int := nI a (min b (d - by_))
def aboveP (a b c by_ : Int) : Int × Int := nI (max a (c + by_)) b
def unequalP (a b c d : Int) : Int × Int := if c ≠ d then (a, b) else nI (if a = c then a + 1 else a) (if b = c then b - 1 else b)

theorem below_eq {a b c d s : Int} (ha : In a) (hb : In b) (hd : In d) (h : a ≤ b) (hs : s = 0 ∨ s = 1) : f69_0 a b c d s = (belowP a b d s).1 ∧ f69_1 a b c d s = (belowP a b d s).2 := by
  unfold In at *
  have w : IntKind.i64.wrap (d - s) = d - s := i64_id (by omega) (by omega)
  unfold f69_0 f69_1
  rw [w, (of_eq _ _).1, (of_eq _ _).2, (meet_eq _ _ _ _).1, (meet_eq _ _ _ _).2]
  have e : mI a b (nI (max (-2147483648) (-2147483648)) (min (d - s) 2147483647)).1 (nI (max (-2147483648) (-2147483648)) (min (d - s) 2147483647)).2 = belowP a b d s := by
    unfold mI belowP nI
    by_cases h1 : max (-2147483648 : Int) (-2147483648) > min (d - s) 2147483647
    · rw [if_pos h1]
      simp only
      rw [if_pos (.inr (by omega)), if_pos (by omega)]
    · rw [if_neg h1]
      simp only
      rw [if_neg (by omega), show max a (max (-2147483648) (-2147483648)) = a by omega, show min b (min (d - s) 2147483647) = min b (d - s) by omega]
  rw [e]; exact ⟨rfl, rfl⟩

theorem above_eq {a b c d s : Int} (ha : In a) (hb : In b) (hc : In c) (h : a ≤ b) (hs : s = 0 ∨ s = 1) : f70_0 a b c d s = (aboveP a b c s).1 ∧ f70_1 a b c d s = (aboveP a b c s).2 := by
  unfold In at *
  have w : IntKind.i64.wrap (c + s) = c + s := i64_id (by omega) (by omega)
  unfold f70_0 f70_1
  rw [w, (of_eq _ _).1, (of_eq _ _).2, (meet_eq _ _ _ _).1, (meet_eq _ _ _ _).2]
  have e : mI a b (nI (max (c + s) (-2147483648)) (min 2147483647 2147483647)).1 (nI (max (c + s) (-2147483648)) (min 2147483647 2147483647)).2 = aboveP a b c s := by
    unfold mI aboveP nI
    by_cases h1 : max (c + s) (-2147483648 : Int) > min 2147483647 2147483647
    · rw [if_pos h1]
      simp only
      rw [if_pos (.inr (by omega)), if_pos (by omega)]
    · rw [if_neg h1]
      simp only
      rw [if_neg (by omega), show max a (max (c + s) (-2147483648)) = max a (c + s) by omega, show min b (min 2147483647 2147483647) = b by omega]
  rw [e]; exact ⟨rfl, rfl⟩

theorem unequal_eq {a b c d : Int} (ha : In a) (hb : In b) : f68_0 a b c d = (unequalP a b c d).1 ∧ f68_1 a b c d = (unequalP a b c d).2 := by
  unfold In at *
  have w1 : IntKind.i64.wrap (a + 1) = a + 1 := i64_id (by omega) (by omega)
  have w2 : IntKind.i64.wrap (b - 1) = b - 1 := i64_id (by omega) (by omega)
  unfold f68_0 f68_1 unequalP
  rw [show Int.ofNat 1 = (1 : Int) from rfl, w1, w2]
  by_cases h : c = d
  · rw [if_neg (by simpa using h), show (c != d) = false by simpa using h]
    by_cases h1 : a = c
    · rw [if_pos h1, show (a == c) = true by simpa using h1]
      by_cases h2 : b = c
      · rw [if_pos h2, show (b == c) = true by simpa using h2]; exact norm_eq _ _
      · rw [if_neg h2, show (b == c) = false by simpa using h2]; exact norm_eq _ _
    · rw [if_neg h1, show (a == c) = false by simpa using h1]
      by_cases h2 : b = c
      · rw [if_pos h2, show (b == c) = true by simpa using h2]; exact norm_eq _ _
      · rw [if_neg h2, show (b == c) = false by simpa using h2]; exact norm_eq _ _
  · rw [if_pos h, show (c != d) = true by simpa using h]; exact ⟨rfl, rfl⟩

/-- A comparison's two Itvs. -/
def testP (k a b c d : Int) : (Int × Int) × (Int × Int) :=
  if a > b ∨ c > d then ((1, 0), (1, 0))
  else if k = 1 then (mI a b c d, mI a b c d)
  else if k = 2 then (unequalP a b c d, unequalP c d a b)
  else if k = 3 then (belowP a b d 1, aboveP c d a 1)
  else if k = 4 then (belowP a b d 0, aboveP c d a 0)
  else if k = 5 then (aboveP a b c 1, belowP c d b 1)
  else if k = 6 then (aboveP a b c 0, belowP c d b 0)
  else ((1, 0), (1, 0))

theorem meet_all_empty {a b : Int} (h : a > b) : f29_0 (f40_0 a b f61_0 f61_1) (f40_1 a b f61_0 f61_1) = true := by
  rw [(meet_eq _ _ _ _).1, (meet_eq _ _ _ _).2]
  unfold mI
  rw [if_pos (.inl h)]; rfl

theorem test_eq (k : Int) {a b c d : Int} (ha : In a) (hb : In b) (hc : In c) (hd : In d) :
    f53_0 k a b c d = (testP k a b c d).1.1 ∧ f53_1 k a b c d = (testP k a b c d).1.2 ∧ f53_2 k a b c d = (testP k a b c d).2.1 ∧ f53_3 k a b c d = (testP k a b c d).2.2 := by
  unfold f53_0 f53_1 f53_2 f53_3 testP
  by_cases h : a > b
  · rw [meet_all_empty h, if_pos (.inl h)]
    exact ⟨rfl, rfl, rfl, rfl⟩
  · by_cases h' : c > d
    · rw [meet_all_empty h', if_pos (.inr h')]
      cases f29_0 (f40_0 a b f61_0 f61_1) (f40_1 a b f61_0 f61_1) <;> exact ⟨rfl, rfl, rfl, rfl⟩
    · have h : a ≤ b := by omega
      have h' : c ≤ d := by omega
      obtain ⟨m0, m1⟩ := meet_all ha hb h
      obtain ⟨m2, m3⟩ := meet_all hc hd h'
      have e1 : f29_0 a b = false := by rw [empty_iff]; simpa using h
      have e2 : f29_0 c d = false := by rw [empty_iff]; simpa using h'
      rw [m0, m1, m2, m3, e1, e2, if_neg (by omega)]
      simp only [cond_false]
      by_cases k1 : k = 1
      · subst k1
        simp only [show ((1 : Int) == 1) = true from rfl, cond_true, if_true]
        exact ⟨(meet_eq ..).1, (meet_eq ..).2, (meet_eq ..).1, (meet_eq ..).2⟩
      rw [if_neg k1, show (k == 1) = false by simpa using k1]
      by_cases k2 : k = 2
      · subst k2
        simp only [show ((2 : Int) == 2) = true from rfl, cond_true, cond_false, if_true]
        exact ⟨(unequal_eq ha hb).1, (unequal_eq ha hb).2, (unequal_eq hc hd).1, (unequal_eq hc hd).2⟩
      rw [if_neg k2, show (k == 2) = false by simpa using k2]
      by_cases k3 : k = 3
      · subst k3
        simp only [show ((3 : Int) == 3) = true from rfl, cond_true, cond_false, if_true]
        exact ⟨(below_eq ha hb hd h (.inr rfl)).1, (below_eq ha hb hd h (.inr rfl)).2, (above_eq hc hd ha h' (.inr rfl)).1, (above_eq hc hd ha h' (.inr rfl)).2⟩
      rw [if_neg k3, show (k == 3) = false by simpa using k3]
      by_cases k4 : k = 4
      · subst k4
        simp only [show ((4 : Int) == 4) = true from rfl, cond_true, cond_false, if_true]
        exact ⟨(below_eq ha hb hd h (.inl rfl)).1, (below_eq ha hb hd h (.inl rfl)).2, (above_eq hc hd ha h' (.inl rfl)).1, (above_eq hc hd ha h' (.inl rfl)).2⟩
      rw [if_neg k4, show (k == 4) = false by simpa using k4]
      by_cases k5 : k = 5
      · subst k5
        simp only [show ((5 : Int) == 5) = true from rfl, cond_true, cond_false, if_true]
        exact ⟨(above_eq ha hb hc h (.inr rfl)).1, (above_eq ha hb hc h (.inr rfl)).2, (below_eq hc hd hb h' (.inr rfl)).1, (below_eq hc hd hb h' (.inr rfl)).2⟩
      rw [if_neg k5, show (k == 5) = false by simpa using k5]
      by_cases k6 : k = 6
      · subst k6
        simp only [show ((6 : Int) == 6) = true from rfl, cond_true, cond_false, if_true]
        exact ⟨(above_eq ha hb hc h (.inl rfl)).1, (above_eq ha hb hc h (.inl rfl)).2, (below_eq hc hd hb h' (.inl rfl)).1, (below_eq hc hd hb h' (.inl rfl)).2⟩
      rw [if_neg k6, show (k == 6) = false by simpa using k6]
      exact ⟨rfl, rfl, rfl, rfl⟩

end Go.Proofs.Ytlfojobligplkaa.Fn
