import Derived.Test.YtlfojobligplkaaPuD
/- Of one number of each Itv what an operation makes is one of what is told. Conditions: those that each lemma names. -/
namespace Go.Proofs.Ytlfojobligplkaa.Fn
open Go Go.Proofs.Ytlfojobligplkaa.Mt

/-! ### Plain mathematics -/

theorem min4_le (p q r s : Int) : min4 p q r s ≤ p ∧ min4 p q r s ≤ q ∧ min4 p q r s ≤ r ∧ min4 p q r s ≤ s := by
  unfold min4; simp only [min2_eq]; omega
theorem le_max4 (p q r s : Int) : p ≤ max4 p q r s ∧ q ≤ max4 p q r s ∧ r ≤ max4 p q r s ∧ s ≤ max4 p q r s := by
  unfold max4; simp only [max2_eq]; omega

theorem mul_btw {a x b y : Int} (h : a ≤ x) (h' : x ≤ b) : (a * y ≤ x * y ∧ x * y ≤ b * y) ∨ (b * y ≤ x * y ∧ x * y ≤ a * y) := by
  by_cases hy : 0 ≤ y
  · exact .inl ⟨Int.mul_le_mul_of_nonneg_right h hy, Int.mul_le_mul_of_nonneg_right h' hy⟩
  · exact .inr ⟨Int.mul_le_mul_of_nonpos_right h' (by omega), Int.mul_le_mul_of_nonpos_right h (by omega)⟩
theorem mul_btw' {c y d a : Int} (h : c ≤ y) (h' : y ≤ d) : (a * c ≤ a * y ∧ a * y ≤ a * d) ∨ (a * d ≤ a * y ∧ a * y ≤ a * c) := by
  have := mul_btw (y := a) h h'
  simpa only [Int.mul_comm _ a] using this

theorem mul_cor {a b c d x y : Int} (h1 : a ≤ x) (h2 : x ≤ b) (h3 : c ≤ y) (h4 : y ≤ d) : min4 (a * c) (a * d) (b * c) (b * d) ≤ x * y ∧ x * y ≤ max4 (a * c) (a * d) (b * c) (b * d) := by
  have m := min4_le (a * c) (a * d) (b * c) (b * d)
  have M := le_max4 (a * c) (a * d) (b * c) (b * d)
  have e1 := mul_btw (y := y) h1 h2
  have e2 := mul_btw' (a := a) h3 h4
  have e3 := mul_btw' (a := b) h3 h4
  omega

theorem div_anti {x p y : Int} (hx : 0 ≤ x) (hp : 1 ≤ p) (h : p ≤ y) : 0 ≤ x.tdiv y ∧ x.tdiv y ≤ x.tdiv p := by
  obtain ⟨n, rfl⟩ := Int.eq_ofNat_of_zero_le hx
  obtain ⟨m, rfl⟩ := Int.eq_ofNat_of_zero_le (show 0 ≤ p by omega)
  obtain ⟨l, rfl⟩ := Int.eq_ofNat_of_zero_le (show 0 ≤ y by omega)
  rw [← Int.ofNat_tdiv, ← Int.ofNat_tdiv]
  have := Nat.div_le_div_left (a := n) (show m ≤ l by omega) (by omega)
  exact ⟨Int.natCast_nonneg _, Int.ofNat_le.2 this⟩

/-- Of positive divisors. -/
theorem div_btw {a p y q : Int} (hp : 1 ≤ p) (h : p ≤ y) (h' : y ≤ q) : (a.tdiv p ≤ a.tdiv y ∧ a.tdiv y ≤ a.tdiv q) ∨ (a.tdiv q ≤ a.tdiv y ∧ a.tdiv y ≤ a.tdiv p) := by
  by_cases ha : 0 ≤ a
  · exact .inr ⟨(div_anti ha (by omega) h').2, (div_anti ha hp h).2⟩
  · have h1 := (div_anti (x := -a) (by omega) (show 1 ≤ y by omega) h').2
    have h2 := (div_anti (x := -a) (by omega) hp h).2
    simp only [Int.neg_tdiv] at h1 h2
    exact .inl ⟨by omega, by omega⟩

theorem div_cor {a b c d x y : Int} (h1 : a ≤ x) (h2 : x ≤ b) (h3 : c ≤ y) (h4 : y ≤ d) (hc : 1 ≤ c) : min4 (a.tdiv c) (a.tdiv d) (b.tdiv c) (b.tdiv d) ≤ x.tdiv y ∧ x.tdiv y ≤ max4 (a.tdiv c) (a.tdiv d) (b.tdiv c) (b.tdiv d) := by
  have m := min4_le (a.tdiv c) (a.tdiv d) (b.tdiv c) (b.tdiv d)
  have M := le_max4 (a.tdiv c) (a.tdiv d) (b.tdiv c) (b.tdiv d)
  have e1 := Int.tdiv_le_tdiv (show 0 < y by omega) h1
  have e2 := Int.tdiv_le_tdiv (show 0 < y by omega) h2
  have e3 := div_btw (a := a) hc h3 h4
  have e4 := div_btw (a := b) hc h3 h4
  omega

theorem div_cor' {a b c d x y : Int} (h1 : a ≤ x) (h2 : x ≤ b) (h3 : c ≤ y) (h4 : y ≤ d) (hd : d ≤ -1) : min4 (a.tdiv c) (a.tdiv d) (b.tdiv c) (b.tdiv d) ≤ x.tdiv y ∧ x.tdiv y ≤ max4 (a.tdiv c) (a.tdiv d) (b.tdiv c) (b.tdiv d) := by
  have m := min4_le (a.tdiv c) (a.tdiv d) (b.tdiv c) (b.tdiv d)
  have M := le_max4 (a.tdiv c) (a.tdiv d) (b.tdiv c) (b.tdiv d)
  have e1 := Int.tdiv_le_tdiv (show 0 < -y by omega) h1
  have e2 := Int.tdiv_le_tdiv (show 0 < -y by omega) h2
  have e3 := div_btw (a := a) (p := -d) (y := -y) (q := -c) (by omega) (by omega) (by omega)
  have e4 := div_btw (a := b) (p := -d) (y := -y) (q := -c) (by omega) (by omega) (by omega)
  simp only [Int.tdiv_neg] at e1 e2 e3 e4
  omega

theorem tdiv_bound {x y : Int} (hx : In x) : -2147483648 ≤ x.tdiv y ∧ x.tdiv y ≤ 2147483648 := by
  have := Int.natAbs_tdiv_le_natAbs x y
  unfold In at hx
  omega
theorem tmod_facts {x y : Int} (hy : y ≠ 0) : (0 ≤ x → 0 ≤ x.tmod y ∧ x.tmod y ≤ x) ∧ (x ≤ 0 → x ≤ x.tmod y ∧ x.tmod y ≤ 0) ∧ (x.tmod y).natAbs < y.natAbs := by
  have h := Int.natAbs_tmod x y
  have h1 : (x.tmod y).natAbs < y.natAbs := by rw [h]; exact Nat.mod_lt _ (by omega)
  have h2 : (x.tmod y).natAbs ≤ x.natAbs := by rw [h]; exact Nat.mod_le _ _
  refine ⟨fun hx => ?_, fun hx => ?_, h1⟩
  · have := Int.tmod_nonneg y hx
    omega
  · have := Int.tmod_nonneg y (show 0 ≤ -x by omega)
    rw [Int.neg_tmod] at this
    omega
theorem mul_bound {x y : Int} (hx : In x) (hy : In y) : -4611686018427387904 ≤ x * y ∧ x * y ≤ 4611686018427387904 := by
  unfold In at *
  have h : (x * y).natAbs = x.natAbs * y.natAbs := Int.natAbs_mul x y
  have h2 : x.natAbs * y.natAbs ≤ 2147483648 * 2147483648 := Nat.mul_le_mul (by omega) (by omega)
  omega

/-! ### One number of each -/

def onV (k x y : Int) : Int := if k = 4 then x + y else if k = 5 then x - y else if k = 6 then x * y else if k = 7 then x.tdiv y else x.tmod y
/-- What is told of one: a number, or which error. -/
def oneP (k x y : Int) : Int × Int := if 7 ≤ k ∧ y = 0 then (0, 3) else if onV k x y < -2147483648 ∨ onV k x y > 2147483647 then (0, 2) else (onV k x y, 0)

theorem cutone {v n e : Int} (hn : n = if v < -2147483648 then 0 else if v > 2147483647 then 0 else v) (he : e = if v < -2147483648 then 2 else if v > 2147483647 then 2 else 0) : (n, e) = if v < -2147483648 ∨ v > 2147483647 then ((0 : Int), (2 : Int)) else (v, 0) := by
  subst hn; subst he
  (repeat' split) <;> first | rfl | omega

theorem one_eq {k x y : Int} (hk : 4 ≤ k ∧ k ≤ 8) (hx : In x) (hy : In y) : f26_ok k x y = true ∧ (f26_0 k x y, f26_1 k x y) = oneP k x y := by
  have hk : k = 4 ∨ k = 5 ∨ k = 6 ∨ k = 7 ∨ k = 8 := by omega
  have hm := mul_bound hx hy
  have hd := tdiv_bound (y := y) hx
  have hx' := hx
  have hy' := hy
  unfold In at hx' hy'
  have w1 : IntKind.i64.wrap (x + y) = x + y := i64_id (by omega) (by omega)
  have w2 : IntKind.i64.wrap (x - y) = x - y := i64_id (by omega) (by omega)
  have w3 : IntKind.i64.wrap (x * y) = x * y := i64_id (by omega) (by omega)
  have w4 : IntKind.i64.wrap (x.tdiv y) = x.tdiv y := i64_id (by omega) (by omega)
  have n1 : Int.negSucc 2147483647 = -2147483648 := rfl
  have bif_if : ∀ (p : Prop) [Decidable p] (a b : Int), (bif decide p then a else b) = if p then a else b := fun p _ a b => by by_cases h : p <;> simp [h]
  unfold oneP
  rcases hk with rfl | rfl | rfl | rfl | rfl
  · refine ⟨rfl, ?_⟩
    rw [if_neg (by omega)]
    refine cutone ?_ ?_
    · show (bif decide (IntKind.i64.wrap (x + y) < Int.negSucc 2147483647) then _ else _) = _
      rw [w1, n1]; simp only [bif_if]; rfl
    · show (bif decide (IntKind.i64.wrap (x + y) < Int.negSucc 2147483647) then _ else _) = _
      rw [w1, n1]; simp only [bif_if]; rfl
  · refine ⟨rfl, ?_⟩
    rw [if_neg (by omega)]
    refine cutone ?_ ?_
    · show (bif decide (IntKind.i64.wrap (x - y) < Int.negSucc 2147483647) then _ else _) = _
      rw [w2, n1]; simp only [bif_if]; rfl
    · show (bif decide (IntKind.i64.wrap (x - y) < Int.negSucc 2147483647) then _ else _) = _
      rw [w2, n1]; simp only [bif_if]; rfl
  · refine ⟨rfl, ?_⟩
    rw [if_neg (by omega)]
    refine cutone ?_ ?_
    · show (bif decide (IntKind.i64.wrap (x * y) < Int.negSucc 2147483647) then _ else _) = _
      rw [w3, n1]; simp only [bif_if]; rfl
    · show (bif decide (IntKind.i64.wrap (x * y) < Int.negSucc 2147483647) then _ else _) = _
      rw [w3, n1]; simp only [bif_if]; rfl
  · by_cases h0 : y = 0
    · subst h0; exact ⟨rfl, rfl⟩
    · have b0 : (y == Int.ofNat 0) = false := by simpa using h0
      refine ⟨?_, ?_⟩
      · show (bif y == Int.ofNat 0 then _ else _) = _
        rw [b0]; simp [h0]
      · rw [if_neg (by omega)]
        refine cutone ?_ ?_
        · show (bif y == Int.ofNat 0 then _ else bif decide (IntKind.i64.wrap (x.tdiv y) < Int.negSucc 2147483647) then _ else _) = _
          rw [b0, w4, n1]; simp only [bif_if, cond_false]; rfl
        · show (bif y == Int.ofNat 0 then _ else bif decide (IntKind.i64.wrap (x.tdiv y) < Int.negSucc 2147483647) then _ else _) = _
          rw [b0, w4, n1]; simp only [bif_if, cond_false]; rfl
  · by_cases h0 : y = 0
    · subst h0; exact ⟨rfl, rfl⟩
    · have b0 : (y == Int.ofNat 0) = false := by simpa using h0
      have hq := Int.mul_tdiv_add_tmod x y
      have ht := tmod_facts (x := x) h0
      have hc : x.tdiv y * y = x - x.tmod y := by rw [Int.mul_comm]; omega
      have w5 : IntKind.i64.wrap (x.tdiv y * y) = x.tdiv y * y := i64_id (by rw [hc]; omega) (by rw [hc]; omega)
      have w6 : IntKind.i64.wrap (x - (x.tdiv y * y)) = x.tmod y := by rw [hc, show x - (x - x.tmod y) = x.tmod y by omega]; exact i64_id (by omega) (by omega)
      refine ⟨?_, ?_⟩
      · show (bif y == Int.ofNat 0 then _ else _) = _
        rw [b0]; simp [h0]
      · rw [if_neg (by omega)]
        refine cutone ?_ ?_
        · show (bif y == Int.ofNat 0 then _ else bif decide (IntKind.i64.wrap (x - IntKind.i64.wrap (IntKind.i64.wrap (x.tdiv y) * y)) < Int.negSucc 2147483647) then _ else _) = _
          rw [b0, w4, w5, w6, n1]; simp only [bif_if, cond_false]; rfl
        · show (bif y == Int.ofNat 0 then _ else bif decide (IntKind.i64.wrap (x - IntKind.i64.wrap (IntKind.i64.wrap (x.tdiv y) * y)) < Int.negSucc 2147483647) then _ else _) = _
          rw [b0, w4, w5, w6, n1]; simp only [bif_if, cond_false]; rfl


/-! ### Containment -/

theorem cor_mul {a b c d : Int} (ha : In a) (hb : In b) (hc : In c) (hd : In d) : cor f64_0 a b c d = (min4 (a * c) (a * d) (b * c) (b * d), max4 (a * c) (a * d) (b * c) (b * d)) := by
  have e : ∀ x y, In x → In y → f64_0 x y = x * y := fun x y hx hy => by
    have := mul_bound hx hy
    exact i64_id (by omega) (by omega)
  unfold cor
  rw [e a c ha hc, e a d ha hd, e b c hb hc, e b d hb hd]
theorem cor_div {a b c d : Int} (ha : In a) (hb : In b) : cor f75_0 a b c d = (min4 (a.tdiv c) (a.tdiv d) (b.tdiv c) (b.tdiv d), max4 (a.tdiv c) (a.tdiv d) (b.tdiv c) (b.tdiv d)) := by
  have e : ∀ x y, In x → f75_0 x y = x.tdiv y := fun x y hx => by
    have := tdiv_bound (y := y) hx
    exact i64_id (by omega) (by omega)
  unfold cor
  rw [e a c ha, e a d ha, e b c hb, e b d hb]

def Hasv (p : Int × Int) (n : Int) : Prop := p.1 ≤ n ∧ n ≤ p.2
theorem of_has {lo hi v : Int} (h : lo ≤ v) (h' : v ≤ hi) (hv : In v) : Hasv (ofI lo hi) v := by
  unfold In at hv
  unfold Hasv ofI nI
  rw [if_neg (by omega)]
  dsimp only
  omega
theorem out_of {lo hi v : Int} (h : lo ≤ v) (h' : v ≤ hi) (hv : v < -2147483648 ∨ v > 2147483647) : outI lo hi = true := by
  unfold outI
  rw [Bool.or_eq_true, decide_eq_true_eq, decide_eq_true_eq]
  omega
theorem of_in (lo hi : Int) : (ofI lo hi).1 > (ofI lo hi).2 ∨ (In (ofI lo hi).1 ∧ In (ofI lo hi).2) := by
  unfold ofI nI In
  split
  · exact .inl (by decide)
  · dsimp only; omega
theorem of_norm (lo hi : Int) : ofI lo hi = (1, 0) ∨ (ofI lo hi).1 ≤ (ofI lo hi).2 := by
  unfold ofI nI
  split
  · exact .inl rfl
  · exact .inr (by dsimp only; omega)
theorem join_has {a b c d n : Int} (h : Hasv (a, b) n ∨ Hasv (c, d) n) : Hasv (jI a b c d) n := by
  unfold Hasv jI nI at *
  dsimp only at h
  (repeat' split) <;> dsimp only <;> omega
theorem join_ok {a b c d : Int} (h : (a = 1 ∧ b = 0) ∨ (In a ∧ In b)) (h' : (c = 1 ∧ d = 0) ∨ (In c ∧ In d)) : ((jI a b c d).1 = 1 ∧ (jI a b c d).2 = 0) ∨ (In (jI a b c d).1 ∧ In (jI a b c d).2) := by
  unfold In jI nI at *
  (repeat' split) <;> dsimp only <;> omega
theorem of_ok (lo hi : Int) : ((ofI lo hi).1 = 1 ∧ (ofI lo hi).2 = 0) ∨ (In (ofI lo hi).1 ∧ In (ofI lo hi).2) := by
  rcases of_norm lo hi with h | h
  · rw [h]; exact .inl ⟨rfl, rfl⟩
  · rcases of_in lo hi with h2 | h2
    · omega
    · exact .inr h2

theorem mI_bounds (c d p q : Int) (h : ¬ (mI c d p q).1 > (mI c d p q).2) : mI c d p q = (max c p, min d q) ∧ c ≤ d ∧ p ≤ q := by
  unfold mI nI at *
  (repeat' split at h) <;> (repeat' split) <;> simp only [] at h ⊢ <;> first | omega | exact ⟨trivial, by omega, by omega⟩ | exact ⟨rfl, by omega, by omega⟩
theorem mI_has {c d p q y : Int} (h1 : c ≤ y) (h2 : y ≤ d) (h3 : p ≤ y) (h4 : y ≤ q) : ¬ (mI c d p q).1 > (mI c d p q).2 ∧ (mI c d p q).1 ≤ y ∧ y ≤ (mI c d p q).2 := by
  have e : mI c d p q = (max c p, min d q) := by
    unfold mI nI; rw [if_neg (by omega), if_neg (by omega)]
  rw [e]; dsimp only; omega

/-- What was had stays; what comes in is had. -/
theorem quoS_keep {a b : Int} {acc : Int × Int × Bool} {p : Int × Int} {v : Int} (h : Hasv (acc.1, acc.2.1) v) : Hasv ((quoS a b acc p).1, (quoS a b acc p).2.1) v := by
  unfold quoS
  split
  · exact h
  · exact join_has (.inl h)
theorem quoS_over {a b : Int} {acc : Int × Int × Bool} {p : Int × Int} (h : acc.2.2 = true) : (quoS a b acc p).2.2 = true := by
  unfold quoS
  split
  · exact h
  · show (acc.2.2 || _) = true
    rw [h]; rfl
theorem quoS_ok {a b : Int} {acc : Int × Int × Bool} {p : Int × Int} (h : (acc.1 = 1 ∧ acc.2.1 = 0) ∨ (In acc.1 ∧ In acc.2.1)) : ((quoS a b acc p).1 = 1 ∧ (quoS a b acc p).2.1 = 0) ∨ (In (quoS a b acc p).1 ∧ In (quoS a b acc p).2.1) := by
  unfold quoS
  split
  · exact h
  · exact join_ok h (of_ok _ _)
theorem quoS_new {a b : Int} {acc : Int × Int × Bool} {p : Int × Int} {x y : Int} (ha : In a) (hb : In b) (h1 : a ≤ x) (h2 : x ≤ b) (hp : ¬ p.1 > p.2) (h3 : p.1 ≤ y) (h4 : y ≤ p.2) (hs : 1 ≤ p.1 ∨ p.2 ≤ -1) :
    (In (x.tdiv y) → Hasv ((quoS a b acc p).1, (quoS a b acc p).2.1) (x.tdiv y)) ∧ ((x.tdiv y < -2147483648 ∨ x.tdiv y > 2147483647) → (quoS a b acc p).2.2 = true) := by
  have k : (cor f75_0 a b p.1 p.2).1 ≤ x.tdiv y ∧ x.tdiv y ≤ (cor f75_0 a b p.1 p.2).2 := by
    rw [cor_div ha hb]
    rcases hs with hs | hs
    · exact div_cor h1 h2 h3 h4 hs
    · exact div_cor' h1 h2 h3 h4 hs
  have e : quoS a b acc p = _ := if_neg hp
  rw [e]
  refine ⟨fun hv => join_has (.inr (of_has k.1 k.2 hv)), fun hv => ?_⟩
  show (acc.2.2 || _) = true
  rw [out_of k.1 k.2 hv, Bool.or_true]

theorem quo_has {a b c d x y : Int} (ha : In a) (hb : In b) (hy : In y) (h1 : a ≤ x) (h2 : x ≤ b) (h3 : c ≤ y) (h4 : y ≤ d) (h0 : y ≠ 0) :
    (In (x.tdiv y) → Hasv ((quoP a b c d).1, (quoP a b c d).2.1) (x.tdiv y)) ∧ ((x.tdiv y < -2147483648 ∨ x.tdiv y > 2147483647) → (quoP a b c d).2.2 = true) := by
  unfold In at hy
  unfold quoP
  by_cases hs : y < 0
  · obtain ⟨m1, m2, m3⟩ := mI_has h3 h4 (p := -2147483648) (q := -1) (by omega) (by omega)
    obtain ⟨k1, k2⟩ := quoS_new (acc := (1, 0, false)) (p := mI c d (-2147483648) (-1)) ha hb h1 h2 m1 m2 m3 (.inr (mI_neg m1).2)
    exact ⟨fun hv => quoS_keep (k1 hv), fun hv => quoS_over (k2 hv)⟩
  · obtain ⟨m1, m2, m3⟩ := mI_has h3 h4 (p := 1) (q := 2147483647) (by omega) (by omega)
    exact quoS_new (p := mI c d 1 2147483647) ha hb h1 h2 m1 m2 m3 (.inl (mI_pos m1).1)
theorem quo_ok (a b c d : Int) : ((quoP a b c d).1 = 1 ∧ (quoP a b c d).2.1 = 0) ∨ (In (quoP a b c d).1 ∧ In (quoP a b c d).2.1) :=
  quoS_ok (quoS_ok (.inl ⟨rfl, rfl⟩))

theorem rest_has {a b c d x y : Int} (hx : In x) (h1 : a ≤ x) (h2 : x ≤ b) (h3 : c ≤ y) (h4 : y ≤ d) (h0 : y ≠ 0) : Hasv (restP a b c d) (x.tmod y) ∧ In (x.tmod y) := by
  have ht := tmod_facts (x := x) h0
  have hi : In (x.tmod y) := by unfold In at *; omega
  refine ⟨?_, hi⟩
  by_cases h : a = b ∧ c = d
  · obtain ⟨rfl, rfl⟩ := h
    obtain rfl : x = a := by omega
    obtain rfl : y = c := by omega
    have e : restP x x y y = _ := if_pos ⟨rfl, rfl⟩
    rw [e]
    exact of_has (Int.le_refl _) (Int.le_refl _) hi
  · have e : restP a b c d = _ := if_neg h
    rw [e]
    refine of_has ?_ ?_ hi
    · omega
    · omega

/-- One number of each: what an operation makes of them is had, or the error is told. -/
theorem do_has {k a b c d x y : Int} (hk : 4 ≤ k ∧ k ≤ 8) (ha : In a) (hb : In b) (hc : In c) (hd : In d) (hx : In x) (hy : In y) (h1 : a ≤ x) (h2 : x ≤ b) (h3 : c ≤ y) (h4 : y ≤ d) :
    ((oneP k x y).2 = 0 → Hasv ((doP k a b c d).1, (doP k a b c d).2.1) (oneP k x y).1) ∧ ((oneP k x y).2 = 2 → (doP k a b c d).2.2.1 = true) ∧ ((oneP k x y).2 = 3 → (doP k a b c d).2.2.2 = true) := by
  have hk' : k = 4 ∨ k = 5 ∨ k = 6 ∨ k = 7 ∨ k = 8 := by omega
  have e : doP k a b c d = _ := if_neg (by omega)
  rw [e]
  -- of a number v that lies between two, cut
  have cut : ∀ (lo hi v : Int), lo ≤ v → v ≤ hi → oneP k x y = (if v < -2147483648 ∨ v > 2147483647 then (0, 2) else (v, 0)) →
      ((oneP k x y).2 = 0 → Hasv ((ofI lo hi).1, (ofI lo hi).2) (oneP k x y).1) ∧ ((oneP k x y).2 = 2 → outI lo hi = true) ∧ ((oneP k x y).2 = 3 → false = true) := by
    intro lo hi v g1 g2 ho
    rw [ho]
    split
    · rename_i hv
      exact ⟨fun h => (by cases h), fun _ => out_of g1 g2 hv, fun h => (by cases h)⟩
    · rename_i hv
      exact ⟨fun _ => of_has g1 g2 (by unfold In; omega), fun h => (by cases h), fun h => (by cases h)⟩
  rcases hk' with rfl | rfl | rfl | rfl | rfl
  · refine cut (a + c) (b + d) (x + y) (by omega) (by omega) ?_
    unfold oneP; rw [if_neg (by omega)]; rfl
  · refine cut (a - d) (b - c) (x - y) (by omega) (by omega) ?_
    unfold oneP; rw [if_neg (by omega)]; rfl
  · have m := mul_cor h1 h2 h3 h4
    refine cut (cor f64_0 a b c d).1 (cor f64_0 a b c d).2 (x * y) (by rw [cor_mul ha hb hc hd]; exact m.1) (by rw [cor_mul ha hb hc hd]; exact m.2) ?_
    unfold oneP; rw [if_neg (by omega)]; rfl
  · rw [if_neg (by omega), if_neg (by omega), if_neg (by omega), if_pos (by omega)]
    unfold divP
    by_cases h0 : y = 0
    · subst h0
      have ho : oneP 7 x 0 = (0, 3) := if_pos ⟨by omega, rfl⟩
      rw [ho]
      refine ⟨fun h => (by cases h), fun h => (by cases h), fun _ => ?_⟩
      split
      · rfl
      · rw [if_neg (by omega)]
        show (decide (c ≤ 0) && decide (0 ≤ d)) = true
        simp; omega
    · rw [if_neg (by omega), if_neg (by omega)]
      have q := quo_has ha hb hy h1 h2 h3 h4 h0
      have ho : oneP 7 x y = if x.tdiv y < -2147483648 ∨ x.tdiv y > 2147483647 then (0, 2) else (x.tdiv y, 0) := by
        unfold oneP; rw [if_neg (by omega)]; rfl
      rw [ho]
      split
      · rename_i hv
        exact ⟨fun h => (by cases h), fun _ => q.2 hv, fun h => (by cases h)⟩
      · rename_i hv
        exact ⟨fun _ => q.1 (by unfold In; omega), fun h => (by cases h), fun h => (by cases h)⟩
  · rw [if_neg (by omega), if_neg (by omega), if_neg (by omega), if_pos (by omega)]
    unfold divP
    by_cases h0 : y = 0
    · subst h0
      have ho : oneP 8 x 0 = (0, 3) := if_pos ⟨by omega, rfl⟩
      rw [ho]
      refine ⟨fun h => (by cases h), fun h => (by cases h), fun _ => ?_⟩
      split
      · rfl
      · rw [if_pos rfl]
        show (decide (c ≤ 0) && decide (0 ≤ d)) = true
        simp; omega
    · rw [if_neg (by omega), if_pos rfl]
      have q := rest_has hx h1 h2 h3 h4 h0
      have ho : oneP 8 x y = (x.tmod y, 0) := by
        have hi := q.2
        unfold In at hi
        unfold oneP; rw [if_neg (by omega), if_neg (show ¬ (onV 8 x y < -2147483648 ∨ onV 8 x y > 2147483647) by show ¬ (x.tmod y < -2147483648 ∨ x.tmod y > 2147483647); omega)]; rfl
      rw [ho]
      exact ⟨fun _ => q.1, fun h => (by cases h), fun h => (by cases h)⟩

theorem do_ok8 (k : Int) {a b c d : Int} : ((doP k a b c d).1 > (doP k a b c d).2.1) ∨ (In (doP k a b c d).1 ∧ In (doP k a b c d).2.1) := by
  have fin : ∀ {p q : Int}, ((p = 1 ∧ q = 0) ∨ (In p ∧ In q)) → p > q ∨ (In p ∧ In q) := fun h => h.elim (fun h => .inl (by omega)) .inr
  unfold doP
  split
  · exact .inl (by decide)
  split
  · exact fin (of_ok _ _)
  split
  · exact fin (of_ok _ _)
  split
  · exact fin (of_ok _ _)
  split
  · unfold divP
    split
    · exact .inl (by decide)
    split
    · refine fin ?_
      dsimp only
      unfold restP
      split
      · exact of_ok _ _
      · exact of_ok _ _
    · exact fin (quo_ok a b c d)
  · exact .inl (by decide)

theorem do_zero {k a b c d : Int} (hk : 4 ≤ k ∧ k ≤ 8) (h : a ≤ b) (h' : c ≤ d) : (doP k a b c d).2.2.2 = (decide (7 ≤ k) && (decide (c ≤ 0) && decide (0 ≤ d))) := by
  have hk' : k = 4 ∨ k = 5 ∨ k = 6 ∨ k = 7 ∨ k = 8 := by omega
  have e : doP k a b c d = _ := if_neg (by omega)
  rw [e]
  have fin : (divP 7 a b c d).2.2.2 = (decide (c ≤ 0) && decide (0 ≤ d)) ∧ (divP 8 a b c d).2.2.2 = (decide (c ≤ 0) && decide (0 ≤ d)) := by
    unfold divP
    by_cases h0 : c = 0 ∧ d = 0
    · rw [if_pos h0, if_pos h0, h0.1, h0.2]; exact ⟨rfl, rfl⟩
    · rw [if_neg h0, if_neg h0, if_neg (by omega), if_pos rfl]; exact ⟨rfl, rfl⟩
  rcases hk' with rfl | rfl | rfl | rfl | rfl
  · rfl
  · rfl
  · rfl
  · exact fin.1
  · exact fin.2

end Go.Proofs.Ytlfojobligplkaa.Fn
