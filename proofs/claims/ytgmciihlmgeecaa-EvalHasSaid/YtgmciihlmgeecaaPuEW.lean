import Derived.Test.YtgmciihlmgeecaaSpE2
import Derived.Test.YtgmciihlmgeecaaPuE6
import Derived.Test.YtgmciihlmgeecaaPuZA
import Derived.Test.YtgmciihlmgeecaaZLaws
/- What operations and expressions are of rows of numbers, with no program in sight. Conditions: those that each lemma names. -/
namespace Go.Proofs.Ytgmciihlmgeecaa.Fn
open Go Go.RowKit Go.Proofs.Ytgmciihlmgeecaa.Mt Go.Proofs.Ytgmciihlmgeecaa.Zm
set_option linter.unusedVariables false
set_option linter.unusedSimpArgs false

def In (a : Int) : Prop := -2147483648 ≤ a ∧ a ≤ 2147483647
def Hs (p : Int × Int) (n : Int) : Prop := p.1 ≤ n ∧ n ≤ p.2

theorem min4_le (p q r s : Int) : min4 p q r s ≤ p ∧ min4 p q r s ≤ q ∧ min4 p q r s ≤ r ∧ min4 p q r s ≤ s := by
  unfold min4; omega
theorem le_max4 (p q r s : Int) : p ≤ max4 p q r s ∧ q ≤ max4 p q r s ∧ r ≤ max4 p q r s ∧ s ≤ max4 p q r s := by
  unfold max4; omega
theorem mul_btw {a x b y : Int} (h : a ≤ x) (h' : x ≤ b) : (a * y ≤ x * y ∧ x * y ≤ b * y) ∨ (b * y ≤ x * y ∧ x * y ≤ a * y) := by
  by_cases hy : 0 ≤ y
  · exact .inl ⟨Int.mul_le_mul_of_nonneg_right h hy, Int.mul_le_mul_of_nonneg_right h' hy⟩
  · exact .inr ⟨Int.mul_le_mul_of_nonpos_right h' (by omega), Int.mul_le_mul_of_nonpos_right h (by omega)⟩
theorem mul_btw' {c y d a : Int} (h : c ≤ y) (h' : y ≤ d) : (a * c ≤ a * y ∧ a * y ≤ a * d) ∨ (a * d ≤ a * y ∧ a * y ≤ a * c) := by
  have := mul_btw (y := a) h h'
  simpa only [Int.mul_comm _ a] using this
theorem mul_cor {a b c d x y : Int} (h1 : a ≤ x) (h2 : x ≤ b) (h3 : c ≤ y) (h4 : y ≤ d) : Hs (corM (a, b) (c, d)) (x * y) := by
  have m := min4_le (a * c) (a * d) (b * c) (b * d)
  have M := le_max4 (a * c) (a * d) (b * c) (b * d)
  have e1 := mul_btw (y := y) h1 h2
  have e2 := mul_btw' (a := a) h3 h4
  have e3 := mul_btw' (a := b) h3 h4
  unfold Hs corM
  dsimp only
  omega
theorem div_anti {x p y : Int} (hx : 0 ≤ x) (hp : 1 ≤ p) (h : p ≤ y) : 0 ≤ x.tdiv y ∧ x.tdiv y ≤ x.tdiv p := by
  obtain ⟨n, rfl⟩ := Int.eq_ofNat_of_zero_le hx
  obtain ⟨m, rfl⟩ := Int.eq_ofNat_of_zero_le (show 0 ≤ p by omega)
  obtain ⟨l, rfl⟩ := Int.eq_ofNat_of_zero_le (show 0 ≤ y by omega)
  rw [← Int.ofNat_tdiv, ← Int.ofNat_tdiv]
  have := Nat.div_le_div_left (a := n) (show m ≤ l by omega) (by omega)
  exact ⟨Int.natCast_nonneg _, Int.ofNat_le.2 this⟩
theorem div_btw {a p y q : Int} (hp : 1 ≤ p) (h : p ≤ y) (h' : y ≤ q) : (a.tdiv p ≤ a.tdiv y ∧ a.tdiv y ≤ a.tdiv q) ∨ (a.tdiv q ≤ a.tdiv y ∧ a.tdiv y ≤ a.tdiv p) := by
  by_cases ha : 0 ≤ a
  · exact .inr ⟨(div_anti ha (by omega) h').2, (div_anti ha hp h).2⟩
  · have h1 := (div_anti (x := -a) (by omega) (show 1 ≤ y by omega) h').2
    have h2 := (div_anti (x := -a) (by omega) hp h).2
    simp only [Int.neg_tdiv] at h1 h2
    exact .inl ⟨by omega, by omega⟩
theorem div_cor {a b c d x y : Int} (h1 : a ≤ x) (h2 : x ≤ b) (h3 : c ≤ y) (h4 : y ≤ d) (hs : 1 ≤ c ∨ d ≤ -1) : Hs (corD (a, b) (c, d)) (x.tdiv y) := by
  have m := min4_le (a.tdiv c) (a.tdiv d) (b.tdiv c) (b.tdiv d)
  have M := le_max4 (a.tdiv c) (a.tdiv d) (b.tdiv c) (b.tdiv d)
  unfold Hs corD
  dsimp only
  rcases hs with hc | hd
  · have e1 := Int.tdiv_le_tdiv (show 0 < y by omega) h1
    have e2 := Int.tdiv_le_tdiv (show 0 < y by omega) h2
    have e3 := div_btw (a := a) hc h3 h4
    have e4 := div_btw (a := b) hc h3 h4
    omega
  · have e1 := Int.tdiv_le_tdiv (show 0 < -y by omega) h1
    have e2 := Int.tdiv_le_tdiv (show 0 < -y by omega) h2
    have e3 := div_btw (a := a) (p := -d) (y := -y) (q := -c) (by omega) (by omega) (by omega)
    have e4 := div_btw (a := b) (p := -d) (y := -y) (q := -c) (by omega) (by omega) (by omega)
    simp only [Int.tdiv_neg] at e1 e2 e3 e4
    omega
theorem tmod_facts {x y : Int} (hy : y ≠ 0) : (0 ≤ x → 0 ≤ x.tmod y ∧ x.tmod y ≤ x) ∧ (x ≤ 0 → x ≤ x.tmod y ∧ x.tmod y ≤ 0) ∧ (x.tmod y).natAbs < y.natAbs := by
  have h := Int.natAbs_tmod x y
  have h1 : (x.tmod y).natAbs < y.natAbs := by rw [h]; exact Nat.mod_lt _ (by omega)
  have h2 : (x.tmod y).natAbs ≤ x.natAbs := by rw [h]; exact Nat.mod_le _ _
  refine ⟨fun hx => ?_, fun hx => ?_, h1⟩
  · have := Int.tmod_nonneg y hx
    omega
  · have := Int.tmod_nonneg y (show 0 ≤ -x by omega)
    rw [Int.neg_tmod] at this
    omega

theorem of_has {lo hi v : Int} (h : lo ≤ v) (h' : v ≤ hi) (hv : In v) : Hs (ofP lo hi) v := by
  unfold In at hv
  unfold Hs ofP normP
  rw [if_neg (by omega)]
  dsimp only
  omega
theorem out_of {lo hi v : Int} (h : lo ≤ v) (h' : v ≤ hi) (hv : v < -2147483648 ∨ v > 2147483647) : outI lo hi = true := by
  unfold outI
  rw [Bool.or_eq_true, decide_eq_true_eq, decide_eq_true_eq]
  omega
theorem join_has {p q : Int × Int} {n : Int} (h : Hs p n ∨ Hs q n) : Hs (joinI p q) n := by
  unfold Hs joinI normP at *
  (repeat' split) <;> (try dsimp only) <;> omega
theorem mI_has {p q : Int × Int} {y : Int} (h : Hs p y) (h' : Hs q y) : Hs (mI p q) y := by
  unfold Hs at *
  have e : mI p q = (max p.1 q.1, min p.2 q.2) := by
    unfold mI normP; rw [if_neg (by omega), if_neg (by omega)]
  rw [e]; dsimp only; omega
theorem quoS_keep {p : Int × Int} {acc : (Int × Int) × Bool × Bool} {q : Int × Int} {v : Int} (h : Hs acc.1 v) : Hs (quoS p acc q).1 v := by
  unfold quoS
  split
  · exact h
  · exact join_has (.inl h)
theorem quoS_over {p : Int × Int} {acc : (Int × Int) × Bool × Bool} {q : Int × Int} (h : acc.2.1 = true) : (quoS p acc q).2.1 = true := by
  unfold quoS
  split
  · exact h
  · show (acc.2.1 || _) = true
    rw [h]; rfl
theorem quoS_new {p : Int × Int} {acc : (Int × Int) × Bool × Bool} {q : Int × Int} {x y : Int} (h1 : Hs p x) (h2 : Hs q y) (hs : 1 ≤ q.1 ∨ q.2 ≤ -1) :
    (In (x.tdiv y) → Hs (quoS p acc q).1 (x.tdiv y)) ∧ ((x.tdiv y < -2147483648 ∨ x.tdiv y > 2147483647) → (quoS p acc q).2.1 = true) := by
  have k : Hs (corD p q) (x.tdiv y) := div_cor h1.1 h1.2 h2.1 h2.2 hs
  have e : quoS p acc q = _ := if_neg (show ¬ q.1 > q.2 by unfold Hs at h2; omega)
  rw [e]
  refine ⟨fun hv => join_has (.inr (of_has k.1 k.2 hv)), fun hv => ?_⟩
  show (acc.2.1 || _) = true
  rw [out_of k.1 k.2 hv, Bool.or_true]
theorem quo_has {p q : Int × Int} {x y : Int} (hy : In y) (h1 : Hs p x) (h2 : Hs q y) (h0 : y ≠ 0) :
    (In (x.tdiv y) → Hs (quoP p q).1 (x.tdiv y)) ∧ ((x.tdiv y < -2147483648 ∨ x.tdiv y > 2147483647) → (quoP p q).2.1 = true) := by
  unfold In at hy
  unfold quoP
  by_cases hs : y < 0
  · have m := mI_has h2 (q := (-2147483648, -1)) ⟨by omega, by show y ≤ -1; omega⟩
    have r : (mI q (-2147483648, -1)).2 ≤ -1 := by
      have m' := m
      unfold Hs mI normP at m'
      unfold mI normP
      (repeat' split at m') <;> (repeat' split) <;> dsimp only at m' ⊢ <;> omega
    obtain ⟨k1, k2⟩ := quoS_new (acc := ((1, 0), false, false)) h1 m (.inr r)
    exact ⟨fun hv => quoS_keep (k1 hv), fun hv => quoS_over (k2 hv)⟩
  · have m := mI_has h2 (q := (1, 2147483647)) ⟨by show 1 ≤ y; omega, by omega⟩
    have r : 1 ≤ (mI q (1, 2147483647)).1 := by
      have m' := m
      unfold Hs mI normP at m'
      unfold mI normP
      (repeat' split at m') <;> (repeat' split) <;> dsimp only at m' ⊢ <;> omega
    exact quoS_new h1 m (.inl r)
theorem rest_has {p q : Int × Int} {x y : Int} (hx : In x) (h1 : Hs p x) (h2 : Hs q y) (h0 : y ≠ 0) : Hs (restP p q) (x.tmod y) ∧ In (x.tmod y) := by
  have ht := tmod_facts (x := x) h0
  have hi : In (x.tmod y) := by unfold In at *; omega
  refine ⟨?_, hi⟩
  unfold Hs at h1 h2
  by_cases h : p.1 = p.2 ∧ q.1 = q.2
  · obtain rfl : x = p.1 := by omega
    obtain rfl : y = q.1 := by omega
    have e : restP p q = _ := if_pos h
    rw [e]
    exact of_has (Int.le_refl _) (Int.le_refl _) hi
  · have e : restP p q = _ := if_neg h
    rw [e]
    unfold mostP
    refine of_has ?_ ?_ hi
    · omega
    · omega

/-- The number that an operation makes of two. -/
def onV (k x y : Int) : Int := if k = 4 then x + y else if k = 5 then x - y else if k = 6 then x * y else if k = 7 then x.tdiv y else x.tmod y
def oneP (k x y : Int) : Int × Int := if 7 ≤ k ∧ y = 0 then (0, 3) else if onV k x y < -2147483648 ∨ onV k x y > 2147483647 then (0, 2) else (onV k x y, 0)
/-- One told: a number is had, or the error is told. -/
def Tell (e : (Int × Int) × Bool × Bool) (r : Int × Int) : Prop := (r.2 = 0 → Hs e.1 r.1 ∧ In r.1) ∧ (r.2 = 2 → e.2.1 = true) ∧ (r.2 = 3 → e.2.2 = true)
theorem cut_tell {lo hi v : Int} {b : Bool} (g1 : lo ≤ v) (g2 : v ≤ hi) : Tell (ofP lo hi, outI lo hi, b) (if v < -2147483648 ∨ v > 2147483647 then (0, 2) else (v, 0)) := by
  split
  · rename_i hv
    exact ⟨fun h => (by cases h), fun _ => out_of g1 g2 hv, fun h => (by cases h)⟩
  · rename_i hv
    have hi : In v := by unfold In; omega
    exact ⟨fun _ => ⟨of_has g1 g2 hi, hi⟩, fun h => (by cases h), fun h => (by cases h)⟩
theorem doQ_tell {k : Int} {p q : Int × Int} {x y : Int} (hk : 4 ≤ k ∧ k ≤ 8) (hx : In x) (hy : In y) (h1 : Hs p x) (h2 : Hs q y) : Tell (doQ k p q) (oneP k x y) := by
  have hk' : k = 4 ∨ k = 5 ∨ k = 6 ∨ k = 7 ∨ k = 8 := by omega
  have h1' := h1
  have h2' := h2
  unfold Hs at h1' h2'
  rcases hk' with rfl | rfl | rfl | rfl | rfl
  · exact cut_tell (v := x + y) (by omega) (by omega)
  · exact cut_tell (v := x - y) (by omega) (by omega)
  · have m := mul_cor h1.1 h1.2 h2.1 h2.2
    exact cut_tell (v := x * y) m.1 m.2
  · have e : doQ 7 p q = divP 7 p q := rfl
    rw [e]
    by_cases h0 : y = 0
    · subst h0
      have ho : oneP 7 x 0 = (0, 3) := rfl
      rw [ho]
      refine ⟨fun h => (by cases h), fun h => (by cases h), fun _ => ?_⟩
      unfold divP
      split
      · rfl
      · rw [if_neg (by omega)]
        show (decide (q.1 ≤ 0) && decide (0 ≤ q.2)) = true
        simp; omega
    · unfold divP
      rw [if_neg (by omega), if_neg (by omega)]
      have qq := quo_has hy h1 h2 h0
      have ho : oneP 7 x y = if x.tdiv y < -2147483648 ∨ x.tdiv y > 2147483647 then (0, 2) else (x.tdiv y, 0) := by
        unfold oneP; rw [if_neg (by omega)]; rfl
      rw [ho]
      split
      · rename_i hv
        exact ⟨fun h => (by cases h), fun _ => qq.2 hv, fun h => (by cases h)⟩
      · rename_i hv
        have hi : In (x.tdiv y) := by unfold In; omega
        exact ⟨fun _ => ⟨qq.1 hi, hi⟩, fun h => (by cases h), fun h => (by cases h)⟩
  · have e : doQ 8 p q = divP 8 p q := rfl
    rw [e]
    by_cases h0 : y = 0
    · subst h0
      have ho : oneP 8 x 0 = (0, 3) := rfl
      rw [ho]
      refine ⟨fun h => (by cases h), fun h => (by cases h), fun _ => ?_⟩
      unfold divP
      split
      · rfl
      · rw [if_pos rfl]
        show (decide (q.1 ≤ 0) && decide (0 ≤ q.2)) = true
        simp; omega
    · unfold divP
      rw [if_neg (by omega), if_pos rfl]
      have qq := rest_has hx h1 h2 h0
      have ho : oneP 8 x y = (x.tmod y, 0) := by
        have hi := qq.2
        unfold In at hi
        unfold oneP; rw [if_neg (by omega), if_neg (show ¬ (onV 8 x y < -2147483648 ∨ onV 8 x y > 2147483647) by show ¬ (x.tmod y < -2147483648 ∨ x.tmod y > 2147483647); omega)]; rfl
      rw [ho]
      exact ⟨fun _ => qq, fun h => (by cases h), fun h => (by cases h)⟩
theorem do_tell {k : Int} {p q : Int × Int} {x y : Int} (hk : 4 ≤ k ∧ k ≤ 8) (hx : In x) (hy : In y) (h1 : Hs p x) (h2 : Hs q y) : Tell (doP k p q) (oneP k x y) := by
  have m1 : Hs (mI p allI) x := mI_has h1 hx
  have m2 : Hs (mI q allI) y := mI_has h2 hy
  have e : doP k p q = doQ k (mI p allI) (mI q allI) := if_neg (by unfold Hs at *; omega)
  rw [e]
  exact doQ_tell hk hx hy m1 m2
theorem neg_tell {p : Int × Int} {x : Int} (hx : In x) (h : Hs p x) : Tell (negP p) (oneP 5 0 x) :=
  do_tell (by omega) (by unfold In; omega) hx (show Hs (0, 0) 0 from ⟨by decide, by decide⟩) h

theorem eiE_l {a b : Bool × Bool} : (a.1 = true → (eiE a b).1 = true) ∧ (a.2 = true → (eiE a b).2 = true) := ⟨fun h => by simp [eiE, h], fun h => by simp [eiE, h]⟩
theorem eiE_r {a b : Bool × Bool} : (b.1 = true → (eiE a b).1 = true) ∧ (b.2 = true → (eiE a b).2 = true) := ⟨fun h => by simp [eiE, h], fun h => by simp [eiE, h]⟩
theorem opR_two {k : Int} (hk : 4 ≤ k ∧ k ≤ 8) (n y : Int) (m : Nat) (kids : List Cell) (a b : Int) (M : Nat) (l : List Int) : opR (ex k n y m kids) a b M l = oneP k a b := by
  have hk' : k = 4 ∨ k = 5 ∨ k = 6 ∨ k = 7 ∨ k = 8 := by omega
  unfold opR oneP numR onV
  rw [show kK (ex k n y m kids) = k from rfl]
  rcases hk' with rfl | rfl | rfl | rfl | rfl <;> simp
theorem opR_neg (n y : Int) (m : Nat) (kids : List Cell) (a b : Int) (M : Nat) (l : List Int) : opR (ex 3 n y m kids) a b M l = oneP 5 0 a := by
  unfold opR oneP numR onV
  rw [show kK (ex 3 n y m kids) = 3 from rfl]
  simp
/-- Errors are of these kinds alone. -/
theorem one_kind (k x y : Int) : (oneP k x y).2 = 0 ∨ (oneP k x y).2 = 2 ∨ (oneP k x y).2 = 3 := by
  unfold oneP
  (repeat' split) <;> simp
theorem two_tell {k : Int} {r s : (Int × Int) × Bool × Bool} {a b : Int × Int} (hk : 4 ≤ k ∧ k ≤ 8) (ha : Tell r a) (hb : Tell s b) (ka : a.2 = 0 ∨ a.2 = 2 ∨ a.2 = 3) (kb : b.2 = 0 ∨ b.2 = 2 ∨ b.2 = 3) :
    Tell (twoO k r s) (if a.2 ≠ 0 then (0, a.2) else if b.2 ≠ 0 then (0, b.2) else oneP k a.1 b.1) := by
  unfold twoO
  by_cases e : r.1.1 > r.1.2
  · rw [if_pos e]
    have h0 : a.2 ≠ 0 := fun h => by
      have := (ha.1 h).1
      unfold Hs at this
      omega
    rw [if_pos h0]
    exact ⟨fun h => absurd h h0, ha.2.1, ha.2.2⟩
  · rw [if_neg e]
    by_cases h0 : a.2 = 0
    · rw [if_neg (by omega)]
      obtain ⟨a1, a2⟩ := ha.1 h0
      by_cases h1 : b.2 = 0
      · rw [if_neg (by omega)]
        obtain ⟨b1, b2⟩ := hb.1 h1
        have d := do_tell hk a2 b2 a1 b1
        exact ⟨d.1, fun h => eiE_r.1 (d.2.1 h), fun h => eiE_r.2 (d.2.2 h)⟩
      · rw [if_pos h1]
        exact ⟨fun h => absurd h h1, fun h => eiE_l.1 (eiE_r.1 (hb.2.1 h)), fun h => eiE_l.2 (eiE_r.2 (hb.2.2 h))⟩
    · rw [if_pos h0]
      exact ⟨fun h => absurd h h0, fun h => eiE_l.1 (eiE_l.1 (ha.2.1 h)), fun h => eiE_l.2 (eiE_l.2 (ha.2.2 h))⟩
theorem neg_tell' {r : (Int × Int) × Bool × Bool} {a : Int × Int} (ha : Tell r a) : Tell (negO r) (if a.2 ≠ 0 then (0, a.2) else oneP 5 0 a.1) := by
  unfold negO
  by_cases h0 : a.2 = 0
  · rw [if_neg (by omega)]
    obtain ⟨a1, a2⟩ := ha.1 h0
    have d := neg_tell a2 a1
    exact ⟨d.1, fun h => eiE_r.1 (d.2.1 h), fun h => eiE_r.2 (d.2.2 h)⟩
  · rw [if_pos h0]
    exact ⟨fun h => absurd h h0, fun h => eiE_l.1 (ha.2.1 h), fun h => eiE_l.2 (ha.2.2 h)⟩

theorem evR_two {k : Int} (hk : 4 ≤ k ∧ k ≤ 8) {d : Nat} {ks : List Cell} {M : Nat} {l : List Int} :
    evRC (d + 1) (ex k 0 0 2 ks) M l = if (evRC d (kid (ex k 0 0 2 ks) 0) M l).2 ≠ 0 then (0, (evRC d (kid (ex k 0 0 2 ks) 0) M l).2) else if (evRC d (kid (ex k 0 0 2 ks) 1) M l).2 ≠ 0 then (0, (evRC d (kid (ex k 0 0 2 ks) 1) M l).2) else oneP k (evRC d (kid (ex k 0 0 2 ks) 0) M l).1 (evRC d (kid (ex k 0 0 2 ks) 1) M l).1 := by
  show evRO (ex k 0 0 2 ks) M l _ _ = _
  unfold evRO
  rw [opR_two hk, show kN (ex k 0 0 2 ks) = 2 from rfl]
  simp
theorem evR_neg {d : Nat} {ks : List Cell} {M : Nat} {l : List Int} :
    evRC (d + 1) (ex 3 0 0 1 ks) M l = if (evRC d (kid (ex 3 0 0 1 ks) 0) M l).2 ≠ 0 then (0, (evRC d (kid (ex 3 0 0 1 ks) 0) M l).2) else oneP 5 0 (evRC d (kid (ex 3 0 0 1 ks) 0) M l).1 := by
  show evRO (ex 3 0 0 1 ks) M l _ _ = _
  unfold evRO
  rw [opR_neg, show kN (ex 3 0 0 1 ks) = 1 from rfl]
  simp
theorem evR_num {d : Nat} {n : Int} {M : Nat} {l : List Int} (h : In n) : evRC (d + 1) (ex 1 n 0 0 []) M l = (n, 0) := by
  show opR (ex 1 n 0 0 []) _ _ M l = _
  unfold opR numR In at *
  rw [show kK (ex 1 n 0 0 []) = 1 from rfl, show kV (ex 1 n 0 0 []) = n from rfl]
  simp
  omega
theorem evR_var {d : Nat} {x : Int} {M : Nat} {l : List Int} (h : 0 ≤ x ∧ x < (M : Int)) (hi : In (l.getD x.toNat 0)) : evRC (d + 1) (ex 2 0 x 0 []) M l = (l.getD x.toNat 0, 0) := by
  show opR (ex 2 0 x 0 []) _ _ M l = _
  have e : ∀ a b, numR (ex 2 0 x 0 []) a b M l = l.getD x.toNat 0 := fun a b => by
    unfold numR
    rw [show kK (ex 2 0 x 0 []) = 2 from rfl, show kX (ex 2 0 x 0 []) = x from rfl, if_neg (by omega), if_pos rfl, if_pos h]
  unfold opR In at *
  rw [e, show kK (ex 2 0 x 0 []) = 2 from rfl, if_neg (by omega), if_neg (by omega)]
/-- One row lies within the Itvs. -/
def RowIn (vars : Int) (il vl : List Int) : Prop := ∀ x : Int, 0 ≤ x → x < vars → Hs (il.getD (x.toNat * 2) 0, il.getD (x.toNat * 2 + 1) 0) (vl.getD x.toNat 0) ∧ In (vl.getD x.toNat 0)
theorem eval_tell {vars : Int} {m M : Nat} {il vl : List Int} (hv : 0 < vars ∧ vars ≤ 1000) (hm : vars ≤ (m : Int)) (hM : vars ≤ (M : Int)) (hr : RowIn vars il vl) :
    ∀ (d : Nat) (deep : Int) (cs : List Cell), okE d cs = true → Tell (evalC d (tameC d deep vars cs) false m il) (evRC d (tameC d deep vars cs) M vl) ∧
      ((evRC d (tameC d deep vars cs) M vl).2 = 0 ∨ (evRC d (tameC d deep vars cs) M vl).2 = 2 ∨ (evRC d (tameC d deep vars cs) M vl).2 = 3)
  | 0, _, _, h => by cases h
  | d + 1, deep, cs, h => by
    rcases tame_cases d deep vars cs h hv with ⟨k, hk, e, o0, o1⟩ | ⟨e, o0⟩ | ⟨x, hx, e⟩ | ⟨n, hn, e⟩
    · rw [e]
      have l0 := tame_len d (deep - 1) vars (kid cs 0)
      have l1 := tame_len d (deep - 1) vars (kid cs 1)
      obtain ⟨t0, k0⟩ := eval_tell hv hm hM hr d (deep - 1) _ o0
      obtain ⟨t1, k1⟩ := eval_tell hv hm hM hr d (deep - 1) _ o1
      rw [evR_two hk]
      show Tell (evalO (ex k 0 0 2 _) false m il _ _) _ ∧ _
      rw [kid_two0 l0, kid_two1 l0 l1]
      have ee : ∀ r s, evalO (ex k 0 0 2 (tameC d (deep - 1) vars (kid cs 0) ++ tameC d (deep - 1) vars (kid cs 1))) false m il r s = twoO k r s := fun r s => by
        unfold evalO
        rw [show kK (ex k 0 0 2 (tameC d (deep - 1) vars (kid cs 0) ++ tameC d (deep - 1) vars (kid cs 1))) = k from rfl, if_neg (by decide), if_neg (by omega), if_neg (by omega), if_neg (by omega), if_pos ⟨hk, rfl⟩]
      rw [ee]
      refine ⟨two_tell hk t0 t1 k0 k1, ?_⟩
      split
      · exact k0
      · split
        · exact k1
        · exact one_kind _ _ _
    · rw [e]
      have l0 := tame_len d (deep - 1) vars (kid cs 0)
      obtain ⟨t0, k0⟩ := eval_tell hv hm hM hr d (deep - 1) _ o0
      rw [evR_neg]
      show Tell (evalO (ex 3 0 0 1 _) false m il _ _) _ ∧ _
      rw [kid_one l0]
      have ee : ∀ r s, evalO (ex 3 0 0 1 (tameC d (deep - 1) vars (kid cs 0))) false m il r s = negO r := fun r s => by
        unfold evalO
        rw [show kK (ex 3 0 0 1 (tameC d (deep - 1) vars (kid cs 0))) = 3 from rfl, if_neg (by decide), if_neg (by omega), if_neg (by omega), if_pos ⟨rfl, rfl⟩]
      rw [ee]
      refine ⟨neg_tell' t0, ?_⟩
      split
      · exact k0
      · exact one_kind _ _ _
    · rw [e]
      obtain ⟨h1, h2⟩ := hr x hx.1 hx.2
      rw [evR_var ⟨hx.1, by omega⟩ h2]
      show Tell (evalO (ex 2 0 x 0 []) false m il _ _) _ ∧ _
      have ee : ∀ r s, evalO (ex 2 0 x 0 []) false m il r s = ((il.getD (x.toNat * 2) 0, il.getD (x.toNat * 2 + 1) 0), false, false) := fun r s => by
        unfold evalO
        rw [show kK (ex 2 0 x 0 []) = 2 from rfl, show kX (ex 2 0 x 0 []) = x from rfl, if_neg (by decide), if_neg (by omega), if_pos ⟨rfl, hx.1, by omega⟩]
      rw [ee]
      exact ⟨⟨fun _ => ⟨h1, h2⟩, fun h => (by cases h), fun h => (by cases h)⟩, .inl rfl⟩
    · rw [e]
      have hi : In n := by unfold In; omega
      rw [evR_num hi]
      show Tell (evalO (ex 1 n 0 0 []) false m il _ _) _ ∧ _
      have ee : ∀ r s, evalO (ex 1 n 0 0 []) false m il r s = (ofP n n, false, false) := fun r s => rfl
      rw [ee]
      exact ⟨⟨fun _ => ⟨of_has (Int.le_refl _) (Int.le_refl _) hi, hi⟩, fun h => (by cases h), fun h => (by cases h)⟩, .inl rfl⟩

/-! ### A variable's number and so much more, of one row -/
def atV (vl : List Int) (x : Int) : Int := if x = -1 then 0 else vl.getD x.toNat 0
def LinOk (vars : Int) (f : (Int × Int) × Bool) (r : Int × Int) (vl : List Int) : Prop :=
  f.2 = true → (-1 ≤ f.1.1 ∧ f.1.1 < vars) ∧ (-1099511627776 ≤ f.1.2 ∧ f.1.2 ≤ 1099511627776) ∧ (r.2 = 0 → r.1 = atV vl f.1.1 + f.1.2)
theorem pair_ok {vars k : Int} (hv : 0 < vars) {f g : (Int × Int) × Bool} {a b : Int × Int} {vl : List Int} (hk : k = 4 ∨ k = 5) (hf : LinOk vars f a vl) (hg : LinOk vars g b vl) (ka : a.2 = 0 ∨ a.2 = 2 ∨ a.2 = 3) (kb : b.2 = 0 ∨ b.2 = 2 ∨ b.2 = 3) :
    LinOk vars (farP (pairO k f g)) (if a.2 ≠ 0 then (0, a.2) else if b.2 ≠ 0 then (0, b.2) else oneP k a.1 b.1) vl := by
  intro h
  unfold farP at h
  simp only [Bool.and_eq_true, decide_eq_true_eq] at h
  obtain ⟨⟨h1, h2⟩, h3⟩ := h
  show (-1 ≤ (pairO k f g).1.1 ∧ (pairO k f g).1.1 < vars) ∧ (-1099511627776 ≤ (pairO k f g).1.2 ∧ (pairO k f g).1.2 ≤ 1099511627776) ∧ (_ → _ = atV vl (pairO k f g).1.1 + (pairO k f g).1.2)
  have hb : f.2 = true ∧ g.2 = true ∧ ¬ (g.1.1 ≠ -1 ∧ (k = 5 ∨ f.1.1 ≠ -1)) ∧ pairO k f g = (if k = 5 then ((f.1.1, f.1.2 - g.1.2), true) else ((max f.1.1 g.1.1, f.1.2 + g.1.2), true)) := by
    unfold pairO at h1 ⊢
    by_cases q : f.2 = false ∨ g.2 = false
    · rw [if_pos q] at h1; cases h1
    · rw [if_neg q] at h1 ⊢
      by_cases q2 : g.1.1 ≠ -1 ∧ (k = 5 ∨ f.1.1 ≠ -1)
      · rw [if_pos q2] at h1; cases h1
      · rw [if_neg q2]
        refine ⟨?_, ?_, q2, rfl⟩
        · cases e : f.2
          · exact absurd (.inl e) q
          · rfl
        · cases e : g.2
          · exact absurd (.inr e) q
          · rfl
  obtain ⟨hf2, hg2, hn, e⟩ := hb
  obtain ⟨f1, f2, f3⟩ := hf hf2
  obtain ⟨g1, g2, g3⟩ := hg hg2
  rw [e] at h2 h3 ⊢
  have val : (if a.2 ≠ 0 then (0, a.2) else if b.2 ≠ 0 then (0, b.2) else oneP k a.1 b.1).2 = 0 → a.2 = 0 ∧ b.2 = 0 ∧ (if a.2 ≠ 0 then (0, a.2) else if b.2 ≠ 0 then (0, b.2) else oneP k a.1 b.1).1 = onV k a.1 b.1 := by
    intro q
    by_cases a0 : a.2 = 0
    · rw [if_neg (by omega)] at q ⊢
      by_cases b0 : b.2 = 0
      · rw [if_neg (by omega)] at q ⊢
        refine ⟨a0, b0, ?_⟩
        unfold oneP at q ⊢
        by_cases q1 : 7 ≤ k ∧ b.1 = 0
        · omega
        · rw [if_neg q1] at q ⊢
          by_cases q2 : onV k a.1 b.1 < -2147483648 ∨ onV k a.1 b.1 > 2147483647
          · rw [if_pos q2] at q; cases q
          · rw [if_neg q2]
      · rw [if_pos b0] at q; exact absurd q b0
    · rw [if_pos a0] at q; exact absurd q a0
  have am1 : atV vl (-1) = 0 := rfl
  rcases hk with rfl | rfl
  · rw [if_neg (by decide)] at h2 h3 ⊢
    refine ⟨by dsimp only; omega, ⟨h3, h2⟩, fun q => ?_⟩
    obtain ⟨a0, b0, v⟩ := val q
    rw [v]
    show a.1 + b.1 = atV vl (max f.1.1 g.1.1) + (f.1.2 + g.1.2)
    have := f3 a0
    have := g3 b0
    by_cases q1 : g.1.1 = -1
    · rw [show max f.1.1 g.1.1 = f.1.1 by omega]
      rw [q1, am1] at this
      omega
    · have q2 : f.1.1 = -1 := by
        by_cases q3 : f.1.1 = -1
        · exact q3
        · exact absurd ⟨q1, .inr q3⟩ hn
      rw [show max f.1.1 g.1.1 = g.1.1 by omega]
      have f4 := f3 a0
      rw [q2, am1] at f4
      omega
  · rw [if_pos rfl] at h2 h3 ⊢
    refine ⟨f1, ⟨h3, h2⟩, fun q => ?_⟩
    obtain ⟨a0, b0, v⟩ := val q
    rw [v]
    show a.1 - b.1 = atV vl f.1.1 + (f.1.2 - g.1.2)
    have := f3 a0
    have g4 := g3 b0
    have q1 : g.1.1 = -1 := by
      by_cases q3 : g.1.1 = -1
      · exact q3
      · exact absurd ⟨q3, .inl rfl⟩ hn
    rw [q1, am1] at g4
    omega
theorem lin_tell {vars : Int} {m M : Nat} {il vl : List Int} (hv : 0 < vars ∧ vars ≤ 1000) (hm : vars ≤ (m : Int)) (hM : vars ≤ (M : Int)) (hr : RowIn vars il vl) :
    ∀ (d : Nat) (deep : Int) (cs : List Cell), okE d cs = true → LinOk vars (linC d (tameC d deep vars cs)) (evRC d (tameC d deep vars cs) M vl) vl
  | 0, _, _, h => by cases h
  | d + 1, deep, cs, h => by
    rcases tame_cases d deep vars cs h hv with ⟨k, hk, e, o0, o1⟩ | ⟨e, o0⟩ | ⟨x, hx, e⟩ | ⟨n, hn, e⟩
    · rw [e]
      have l0 := tame_len d (deep - 1) vars (kid cs 0)
      have l1 := tame_len d (deep - 1) vars (kid cs 1)
      have t0 := lin_tell hv hm hM hr d (deep - 1) _ o0
      have t1 := lin_tell hv hm hM hr d (deep - 1) _ o1
      have k0 := (eval_tell hv hm hM hr d (deep - 1) _ o0).2
      have k1 := (eval_tell hv hm hM hr d (deep - 1) _ o1).2
      rw [evR_two hk]
      show LinOk vars (linO (ex k 0 0 2 _) (pairO k _ _)) _ vl
      rw [kid_two0 l0, kid_two1 l0 l1]
      unfold linO
      rw [show kK (ex k 0 0 2 (tameC d (deep - 1) vars (kid cs 0) ++ tameC d (deep - 1) vars (kid cs 1))) = k from rfl, show kN (ex k 0 0 2 (tameC d (deep - 1) vars (kid cs 0) ++ tameC d (deep - 1) vars (kid cs 1))) = 2 from rfl, if_neg (by omega), if_neg (by omega)]
      by_cases q : k = 4 ∨ k = 5
      · rw [if_pos ⟨q, rfl⟩]
        exact pair_ok hv.1 q t0 t1 k0 k1
      · rw [if_neg (fun q2 => q q2.1)]
        intro c; simp [farP] at c
    · rw [e]
      show LinOk vars (linO (ex 3 0 0 1 _) _) _ vl
      intro c
      unfold linO at c
      rw [show kK (ex 3 0 0 1 (tameC d (deep - 1) vars (kid cs 0))) = 3 from rfl, if_neg (by omega), if_neg (by omega), if_neg (by omega)] at c
      simp [farP] at c
    · rw [e]
      obtain ⟨h1, h2⟩ := hr x hx.1 hx.2
      rw [evR_var ⟨hx.1, by omega⟩ h2]
      show LinOk vars (farP ((x, 0), true)) _ vl
      intro _
      refine ⟨⟨by show -1 ≤ x; omega, hx.2⟩, ⟨by show (-1099511627776 : Int) ≤ 0; omega, by show (0 : Int) ≤ 1099511627776; omega⟩, fun _ => ?_⟩
      show vl.getD x.toNat 0 = atV vl x + 0
      unfold atV
      rw [if_neg (by omega), Int.add_zero]
    · rw [e]
      have hi : In n := by unfold In; omega
      rw [evR_num hi]
      show LinOk vars (farP ((-1, n), true)) _ vl
      intro _
      refine ⟨⟨by show (-1 : Int) ≤ -1; omega, by show (-1 : Int) < vars; omega⟩, ⟨by show (-1099511627776 : Int) ≤ n; omega, by show n ≤ 1099511627776; omega⟩, fun _ => ?_⟩
      show n = atV vl (-1) + n
      rw [show atV vl (-1) = 0 from rfl, Int.zero_add]

/-- Numbers in a row, nought ahead of them. -/
def vF (v : List Int) (i : Nat) : Int := atP v i
def InV (v : List Int) : Prop := ∀ x ∈ v, -2147483648 ≤ x ∧ x ≤ 2147483647
theorem vF_succ (v : List Int) (i : Nat) : vF v (i + 1) = v.getD i 0 := by
  unfold vF atP
  rw [if_neg (by omega), show ((i + 1 : Nat) : Int) - 1 = i by omega, Int.toNat_natCast]
theorem inV_get {v : List Int} (h : InV v) (j : Nat) : -2147483648 ≤ v.getD j 0 ∧ v.getD j 0 ≤ 2147483647 := by
  by_cases e : j < v.length
  · rw [List.getD_eq_getElem?_getD, List.getElem?_eq_getElem e]
    exact h _ (List.getElem_mem e)
  · rw [List.getD_eq_getElem?_getD, List.getElem?_eq_none (by omega)]; simp
theorem inV_in {v : List Int} (h : InV v) (n : Nat) : InR n (vF v) := by
  refine ⟨rfl, fun i h1 _ => ?_⟩
  obtain ⟨t, rfl⟩ : ∃ t, i = t + 1 := ⟨i - 1, by omega⟩
  rw [vF_succ]; exact inV_get h t
theorem inV_set {v : List Int} (h : InV v) {j : Nat} {x : Int} (hx : -2147483648 ≤ x ∧ x ≤ 2147483647) : InV (v.set j x) := fun y hy => by
  rcases List.mem_or_eq_of_mem_set hy with h' | rfl
  · exact h y h'
  · exact hx
theorem vF_set {v : List Int} {j : Nat} (hj : j < v.length) {x : Int} (i : Nat) : vF (v.set j x) i = if i = j + 1 then x else vF v i := by
  cases i with
  | zero => rw [if_neg (by omega)]; rfl
  | succ t =>
    rw [vF_succ, vF_succ, List.getD_eq_getElem?_getD, List.getElem?_set, List.getD_eq_getElem?_getD]
    by_cases e : j = t
    · subst e; rw [if_pos rfl, if_pos rfl, if_pos hj]; rfl
    · rw [if_neg e, if_neg (by omega)]
theorem has_true {n : Nat} {z : Zo} {v : List Int} (h : Gd n z) (hv : InV v) (hp : Pt n (vF v) z) : hasZ z n v = true := by
  have t := h.trip hp.1
  rw [t]
  have e := has_iff (n := (n : Int)) (D := z.2.2) (l := v) (by rw [← h.hn]; exact h.okN)
  rw [Int.toNat_natCast] at e
  have at' : ∀ i : Nat, -2147483648 ≤ vF v i ∧ vF v i ≤ 2147483647 := fun i => by
    cases i with
    | zero => show -2147483648 ≤ (0 : Int) ∧ (0 : Int) ≤ 2147483647; omega
    | succ t => rw [vF_succ]; exact inV_get hv t
  refine e.2 fun i hi => ⟨at' i, fun j hj => ?_⟩
  have a := at' i
  have b := at' j
  have c := hp.2 i j (by omega) (by omega)
  show wrap64 (vF v i - vF v j) ≤ _
  rw [wrap_in (by omega) (by omega)]
  exact c
/-- A number that is had, after each call. -/
theorem has_bound {n : Nat} {z : Zo} {v : List Int} (h : Gd n z) (hp : Pt n (vF v) z) {x y c : Int} (hx : -1 ≤ x ∧ x < n) (hy : -1 ≤ y ∧ y < n) (hc : vF v (x + 1).toNat - vF v (y + 1).toNat ≤ c) (h0 : -1099511627776 ≤ c) : Gd n (boundZ z x y c) ∧ Pt n (vF v) (boundZ z x y c) :=
  ⟨bound_gd h, (bound_pt h hx hy).2 ⟨hp, by omega⟩⟩
theorem has_forget {n : Nat} {z : Zo} {v : List Int} (h : Gd n z) (hl : v.length = n) (hv : InV v) (hp : Pt n (vF v) z) {x b : Int} (hx : 0 ≤ x ∧ x < n) (hb : -2147483648 ≤ b ∧ b ≤ 2147483647) : Gd n (forgetZ z x) ∧ Pt n (vF (v.set x.toNat b)) (forgetZ z x) ∧ InV (v.set x.toNat b) := by
  have iv := inV_set (j := x.toNat) hv hb
  refine ⟨forget_gd h, forget_pt h hx hp (inV_in iv n) fun i hi e => ?_, iv⟩
  rw [vF_set (by omega), if_neg (by omega)]
theorem has_copy {n : Nat} {z : Zo} {v : List Int} (h : Gd n z) (hl : v.length = n) (hv : InV v) (hp : Pt n (vF v) z) {x y b c : Int} (hx : 0 ≤ x ∧ x < n) (hy : -1 ≤ y ∧ y < n) (hb : -1099511627776 ≤ b ∧ b ≤ 1099511627776) (hc : c = vF v (y + 1).toNat + b) (hr : -2147483648 ≤ c ∧ c ≤ 2147483647) : Gd n (copyZ z x y b) ∧ Pt n (vF (v.set x.toNat c)) (copyZ z x y b) ∧ InV (v.set x.toNat c) := by
  have iv := inV_set (j := x.toNat) hv hr
  refine ⟨copy_gd h, copy_pt h hx hy hb hp (inV_in iv n) (fun i hi e => ?_) ?_, iv⟩
  · rw [vF_set (by omega), if_neg (by omega)]
  · rw [vF_set (by omega), if_pos (by omega)]; exact hc
theorem noneZ_gd {n : Nat} (h6 : n ≤ 6) : Gd n (noneZ n) :=
  ⟨capN_id h6, h6, zeroL_len, fun _ => rfl, fun h => (by cases h), fun h => (by cases h), fun h => (by cases h), fun h => (by cases h)⟩
theorem held_gd {n : Nat} {z : Zo} (h : Gd n z) {x lo hi : Int} : Gd n (heldZ z x lo hi) := by
  unfold heldZ
  split
  · exact h
  · split
    · rw [h.hn]; exact noneZ_gd h.n6
    · exact bound_gd (bound_gd h)
theorem has_held {n : Nat} {z : Zo} {v : List Int} (h : Gd n z) (hp : Pt n (vF v) z) {x lo hi : Int} (hx : 0 ≤ x ∧ x < n) (h1 : lo ≤ vF v (x + 1).toNat) (h2 : vF v (x + 1).toNat ≤ hi) (h3 : -4294967296 ≤ lo) (h4 : hi ≤ 4294967296) : Gd n (heldZ z x lo hi) ∧ Pt n (vF v) (heldZ z x lo hi) := by
  have hn := h.hn
  unfold heldZ
  rw [if_neg (by omega), if_neg (by omega), show wrap64 (-lo) = -lo from wrap_in (by omega) (by omega)]
  have v0 : vF v ((-1 : Int) + 1).toNat = 0 := rfl
  have a := has_bound h hp (x := x) (y := -1) (c := hi) (by omega) (by omega) (by rw [v0]; omega) (by omega)
  exact has_bound a.1 a.2 (x := -1) (y := x) (c := -lo) (by omega) (by omega) (by rw [v0]; omega) (by omega)

/-! ### Itvs in range -/
def EvIn (p : Int × Int) : Prop := p.1 ≤ p.2 → In p.1 ∧ In p.2
theorem of_in (a b : Int) : EvIn (ofP a b) := by
  unfold EvIn ofP normP In
  split
  · intro h; exact absurd h (by decide)
  · intro h; dsimp only at *; omega
theorem none_in : EvIn (1, 0) := fun h => absurd h (by decide)
theorem join_in {p q : Int × Int} (h : EvIn p) (h' : EvIn q) : EvIn (joinI p q) := by
  unfold EvIn joinI normP In at *
  (repeat' split) <;> (try dsimp only) <;> omega
theorem quoS_in {p : Int × Int} {acc : (Int × Int) × Bool × Bool} {q : Int × Int} (h : EvIn acc.1) : EvIn (quoS p acc q).1 := by
  unfold quoS
  split
  · exact h
  · exact join_in h (of_in _ _)
theorem doP_in (k : Int) (p q : Int × Int) : EvIn (doP k p q).1 := by
  unfold doP
  split
  · exact none_in
  · unfold doQ
    split
    · exact of_in _ _
    · split
      · exact of_in _ _
      · split
        · exact of_in _ _
        · split
          · unfold divP
            split
            · exact none_in
            · split
              · show EvIn (restP _ _)
                unfold restP
                split
                · exact of_in _ _
                · exact of_in _ _
              · exact quoS_in (quoS_in none_in)
          · exact none_in
theorem evalO_in {cs : List Cell} {nn : Bool} {m : Nat} {l : List Int} {a b : (Int × Int) × Bool × Bool} (hl : ∀ i : Nat, i < m → EvIn (l.getD (i * 2) 0, l.getD (i * 2 + 1) 0)) (ha : EvIn a.1) : EvIn (evalO cs nn m l a b).1 := by
  unfold evalO
  split
  · exact none_in
  · split
    · exact of_in _ _
    · split
      · rename_i q
        exact hl _ (by omega)
      · split
        · exact doP_in _ _ _
        · split
          · unfold twoO
            split
            · exact ha
            · exact doP_in _ _ _
          · exact none_in
theorem eval_in {nn : Bool} {m : Nat} {l : List Int} (hl : ∀ i : Nat, i < m → EvIn (l.getD (i * 2) 0, l.getD (i * 2 + 1) 0)) : ∀ (d : Nat) (cs : List Cell), EvIn (evalC d cs nn m l).1
  | 0, _ => none_in
  | d + 1, cs => evalO_in hl (eval_in hl d _)

/-! ### Behind an assignment -/
theorem atV_vF {v : List Int} {x : Int} (h : -1 ≤ x) : atV v x = vF v (x + 1).toNat := by
  unfold atV
  split
  · rename_i e; subst e; rfl
  · rw [show (x + 1).toNat = x.toNat + 1 by omega, vF_succ]
theorem asg_gd {n : Nat} {z : Zo} (h : Gd n z) {m : Nat} (hm : m = n) {x : Int} {e : (Int × Int) × Bool × Bool} {f : (Int × Int) × Bool} : Gd n (asgZ z m x e f) := by
  subst hm
  unfold asgZ
  split
  · exact noneZ_gd h.n6
  · split
    · exact held_gd (copy_gd h)
    · exact held_gd (forget_gd h)
/-- The row with the new number is had. -/
theorem asg_has {n : Nat} {z : Zo} {v : List Int} (h : Gd n z) (hl : v.length = n) (hv : InV v) (hp : Pt n (vF v) z) {m : Nat} {x : Int} (hx : 0 ≤ x ∧ x < n) {e : (Int × Int) × Bool × Bool} {f : (Int × Int) × Bool} {r : Int × Int}
    (he : Tell e r) (hi : EvIn e.1) (hf : LinOk (n : Int) f r v) (h0 : r.2 = 0) : Pt n (vF (v.set x.toNat r.1)) (asgZ z m x e f) ∧ InV (v.set x.toNat r.1) := by
  obtain ⟨⟨e1, e2⟩, e3⟩ := he.1 h0
  obtain ⟨i1, i2⟩ := hi (by omega)
  unfold In at e3 i1 i2
  unfold asgZ
  rw [if_neg (by omega)]
  have ex : vF (v.set x.toNat r.1) (x + 1).toNat = r.1 := by rw [vF_set (by omega), if_pos (by omega)]
  by_cases hf2 : f.2 = true
  · rw [if_pos hf2]
    obtain ⟨f1, f2, f3⟩ := hf hf2
    have c := has_copy h hl hv hp (x := x) (y := f.1.1) (b := f.1.2) (c := r.1) hx f1 f2 (by rw [f3 h0, atV_vF f1.1]) e3
    exact ⟨(has_held c.1 c.2.1 (x := x) (lo := e.1.1) (hi := e.1.2) hx (by rw [ex]; exact e1) (by rw [ex]; exact e2) (by omega) (by omega)).2, c.2.2⟩
  · rw [if_neg hf2]
    have c := has_forget h hl hv hp (x := x) (b := r.1) hx e3
    exact ⟨(has_held c.1 c.2.1 (x := x) (lo := e.1.1) (hi := e.1.2) hx (by rw [ex]; exact e1) (by rw [ex]; exact e2) (by omega) (by omega)).2, c.2.2⟩

theorem ofP_one {a : Int} (h : In a) : ofP a a = (a, a) := by
  unfold In at h
  unfold ofP normP
  rw [show max a (-2147483648) = a by omega, show min a 2147483647 = a by omega, if_neg (by omega)]
theorem row_step {z : Zo} {v : List Int} (h : Gd 3 z) (hl : v.length = 3) (hv : InV v) (hp : Pt 3 (vF v) z) {t : Nat} (ht : t < 3) {a : Int} (ha : In a) :
    Gd 3 (heldZ (forgetZ z t) t (ofP a a).1 (ofP a a).2) ∧ Pt 3 (vF (v.set t a)) (heldZ (forgetZ z t) t (ofP a a).1 (ofP a a).2) ∧ InV (v.set t a) := by
  rw [ofP_one ha]
  unfold In at ha
  have c := has_forget h hl hv hp (x := (t : Int)) (b := a) ⟨by omega, by omega⟩ ha
  rw [Int.toNat_natCast] at c
  have ex : vF (v.set t a) ((t : Int) + 1).toNat = a := by rw [vF_set (by omega), if_pos (by omega)]
  have d := has_held c.1 c.2.1 (x := (t : Int)) (lo := a) (hi := a) ⟨by omega, by omega⟩ (by rw [ex]; omega) (by rw [ex]; omega) (by omega) (by omega)
  exact ⟨d.1, d.2, c.2.2⟩
theorem row_has {a b c : Int} (ha : In a) (hb : In b) (hc : In c) : Gd 3 (rowZ [a, b, c] 3) ∧ Pt 3 (vF [a, b, c]) (rowZ [a, b, c] 3) := by
  have g0 : Gd 3 (zerosZ (3 : Nat)) := zeros_gd (by omega)
  have iv0 : InV [(0 : Int), 0, 0] := fun x hx => by simp at hx; omega
  have p0 : Pt 3 (vF [(0 : Int), 0, 0]) (zerosZ (3 : Nat)) := by
    refine ⟨rfl, fun i j hi hj => ?_⟩
    rw [zeros_g]
    have e : ∀ i, i ≤ 3 → vF [(0 : Int), 0, 0] i = 0 := fun i hi => by
      rcases (show i = 0 ∨ i = 1 ∨ i = 2 ∨ i = 3 by omega) with rfl | rfl | rfl | rfl <;> rfl
    show vF _ i - vF _ j ≤ 0
    rw [e i hi, e j hj]; omega
  have s1 := row_step g0 rfl iv0 p0 (t := 0) (by omega) ha
  have s2 := row_step s1.1 rfl s1.2.2 s1.2.1 (t := 1) (by omega) hb
  have s3 := row_step s2.1 rfl s2.2.2 s2.2.1 (t := 2) (by omega) hc
  exact ⟨s3.1, s3.2.1⟩
theorem two_has {a0 a1 a2 b0 b1 b2 : Int} (h0 : In a0) (h1 : In a1) (h2 : In a2) (k0 : In b0) (k1 : In b1) (k2 : In b2) :
    Gd 3 (twoZ [a0, a1, a2] [b0, b1, b2]) ∧ Pt 3 (vF [a0, a1, a2]) (twoZ [a0, a1, a2] [b0, b1, b2]) ∧ Pt 3 (vF [b0, b1, b2]) (twoZ [a0, a1, a2] [b0, b1, b2]) := by
  have ra := row_has h0 h1 h2
  have rb := row_has k0 k1 k2
  exact ⟨join_gd ra.1 rb.1, join_pt1 ra.1 rb.1 ra.2, join_pt2 ra.1 rb.1 rb.2⟩

/-! ### Itvs of a good zone -/
theorem itvs_get {z : Zo} {t i : Nat} (h : i < t) : (itvsZ z t).getD (i * 2) 0 = (itvZ z i).1 ∧ (itvsZ z t).getD (i * 2 + 1) 0 = (itvZ z i).2 := by
  induction t with
  | zero => omega
  | succ t ih =>
    have hl : ∀ t, (itvsZ z t).length = t * 2 := fun t => by
      induction t with
      | zero => rfl
      | succ t ih => rw [itvsZ, List.length_append, ih]; simp; omega
    rw [itvsZ, List.getD_eq_getElem?_getD, List.getD_eq_getElem?_getD]
    by_cases e : i = t
    · subst e
      rw [List.getElem?_append_right (by rw [hl]; omega), List.getElem?_append_right (by rw [hl]; omega), hl, show i * 2 - i * 2 = 0 by omega, show i * 2 + 1 - i * 2 = 1 by omega]
      exact ⟨rfl, rfl⟩
    · rw [List.getElem?_append_left (by rw [hl]; omega), List.getElem?_append_left (by rw [hl]; omega), ← List.getD_eq_getElem?_getD, ← List.getD_eq_getElem?_getD]
      exact ih (by omega)
theorem itvs_in {n : Nat} {z : Zo} (h : Gd n z) (hb : z.2.1 = false) : ∀ i : Nat, i < n → EvIn ((itvsZ z n).getD (i * 2) 0, (itvsZ z n).getD (i * 2 + 1) 0) := fun i hi => by
  rw [(itvs_get hi).1, (itvs_get hi).2]
  have q := itv_in h hb (x := (i : Int)) ⟨by omega, by omega⟩
  rw [q.1]
  intro _
  unfold In
  dsimp only
  omega
theorem itvs_row {n : Nat} {z : Zo} {v : List Int} (h : Gd n z) (hv : InV v) (hp : Pt n (vF v) z) : RowIn (n : Int) (itvsZ z n) v := fun x h0 h1 => by
  have q := itv_in h hp.1 (x := x) ⟨h0, h1⟩
  have n6 := h.n6
  rw [(itvs_get (show x.toNat < n by omega)).1, (itvs_get (show x.toNat < n by omega)).2, show ((x.toNat : Nat) : Int) = x by omega, q.1]
  have u := hp.2 (x + 1).toNat 0 (by omega) (by omega)
  have l := hp.2 0 (x + 1).toNat (by omega) (by omega)
  unfold ptM at u l
  rw [show (x + 1).toNat = x.toNat + 1 by omega] at u l ⊢
  rw [vF_succ] at u l
  have v0 : vF v 0 = 0 := rfl
  rw [v0] at u l
  exact ⟨⟨by dsimp only; omega, by dsimp only; omega⟩, inV_get hv x.toNat⟩

/-- The law EvalHas: of a zone that has a row. -/
theorem evalHas_law {D : Nat} {z : Zo} {v : List Int} (h : Gd 3 z) (hl : v.length = 3) (hv : InV v) (hp : Pt 3 (vF v) z) {k : Int} (hk : 0 ≤ k ∧ k < 3) {deep : Int} {cs t : List Cell} (ht : tameC D deep 3 cs = t) (hc : okE D cs = true)
    {e : (Int × Int) × Bool × Bool} (he : evalC D t false 3 (itvsZ z 3) = e) {f : (Int × Int) × Bool} (hf : linC D t = f) {r : Int × Int} (hr : evRC D t 3 v = r) :
    Gd 3 (asgZ z 3 k e f) ∧ (r.2 = 2 → e.2.1 = true) ∧ (r.2 = 3 → e.2.2 = true) ∧ (r.2 = 0 → Hs e.1 r.1 ∧ Pt 3 (vF (v.set k.toNat r.1)) (asgZ z 3 k e f) ∧ InV (v.set k.toNat r.1)) ∧ (r.2 = 0 ∨ r.2 = 2 ∨ r.2 = 3) := by
  subst ht
  have row := itvs_row h hv hp
  obtain ⟨T, K⟩ := eval_tell (m := 3) (M := 3) (show (0 : Int) < 3 ∧ (3 : Int) ≤ 1000 by omega) (by omega) (by omega) row D deep cs hc
  have L := lin_tell (m := 3) (M := 3) (show (0 : Int) < 3 ∧ (3 : Int) ≤ 1000 by omega) (by omega) (by omega) row D deep cs hc
  have EI := eval_in (nn := false) (itvs_in h hp.1) D (tameC D deep 3 cs)
  rw [he] at T EI
  rw [hr] at T K L
  rw [hf] at L
  exact ⟨asg_gd h rfl, T.2.1, T.2.2, fun h0 => ⟨(T.1 h0).1, asg_has h hl hv hp (by omega) T EI L h0⟩, K⟩

end Go.Proofs.Ytgmciihlmgeecaa.Fn
