import Derived.Test.YtgmciihlmgeecaaSpE3
/- Of one number of each Itv what an operation makes is one of what is told, or the error is told. Plain mathematics. -/
namespace Go.Proofs.Ytgmciihlmgeecaa.Fn
open Go Go.RowKit Go.Proofs.Ytgmciihlmgeecaa.Mt Go.Proofs.Ytgmciihlmgeecaa.Zm
set_option linter.unusedVariables false
set_option linter.unusedSimpArgs false

def In (a : Int) : Prop := -2147483648 ≤ a ∧ a ≤ 2147483647
def Hs (p : Int × Int) (n : Int) : Prop := p.1 ≤ n ∧ n ≤ p.2

theorem min4_le (p q r s : Int) : min4 p q r s ≤ p ∧ min4 p q r s ≤ q ∧ min4 p q r s ≤ r ∧ min4 p q r s ≤ s := by
  unfold min4; omega
theorem le_max4 (p q r s : Int) : p ≤ max4 p q r s ∧ q ≤ max4 p q r s ∧ r ≤ max4 p q r s ∧ s ≤ max4 p q r s := by
  unfold max4; omega
theorem mul_btw {a x b y : Int} (h : a ≤ x) (h' : x ≤ b) : (a * y ≤ x * y ∧ x * y ≤ b * y) ∨ (b * y ≤ x * y ∧ x * y ≤ a * y) := by
  by_cases hy : 0 ≤ y
  · exact .inl ⟨Int.mul_le_mul_of_nonneg_right h hy, Int.mul_le_mul_of_nonneg_right h' hy⟩
  · exact .inr ⟨Int.mul_le_mul_of_nonpos_right h' (by omega), Int.mul_le_mul_of_nonpos_right h (by omega)⟩
theorem mul_btw' {c y d a : Int} (h : c ≤ y) (h' : y ≤ d) : (a * c ≤ a * y ∧ a * y ≤ a * d) ∨ (a * d ≤ a * y ∧ a * y ≤ a * c) := by
  have := mul_btw (y := a) h h'
  simpa only [Int.mul_comm _ a] using this
theorem mul_cor {a b c d x y : Int} (h1 : a ≤ x) (h2 : x ≤ b) (h3 : c ≤ y) (h4 : y ≤ d) : Hs (corM (a, b) (c, d)) (x * y) := by
  have m := min4_le (a * c) (a * d) (b * c) (b * d)
  have M := le_max4 (a * c) (a * d) (b * c) (b * d)
  have e1 := mul_btw (y := y) h1 h2
  have e2 := mul_btw' (a := a) h3 h4
  have e3 := mul_btw' (a := b) h3 h4
  unfold Hs corM
  dsimp only
  omega
theorem div_anti {x p y : Int} (hx : 0 ≤ x) (hp : 1 ≤ p) (h : p ≤ y) : 0 ≤ x.tdiv y ∧ x.tdiv y ≤ x.tdiv p := by
  obtain ⟨n, rfl⟩ := Int.eq_ofNat_of_zero_le hx
  obtain ⟨m, rfl⟩ := Int.eq_ofNat_of_zero_le (show 0 ≤ p by omega)
  obtain ⟨l, rfl⟩ := Int.eq_ofNat_of_zero_le (show 0 ≤ y by omega)
  rw [← Int.ofNat_tdiv, ← Int.ofNat_tdiv]
  have := Nat.div_le_div_left (a := n) (show m ≤ l by omega) (by omega)
  exact ⟨Int.natCast_nonneg _, Int.ofNat_le.2 this⟩
theorem div_btw {a p y q : Int} (hp : 1 ≤ p) (h : p ≤ y) (h' : y ≤ q) : (a.tdiv p ≤ a.tdiv y ∧ a.tdiv y ≤ a.tdiv q) ∨ (a.tdiv q ≤ a.tdiv y ∧ a.tdiv y ≤ a.tdiv p) := by
  by_cases ha : 0 ≤ a
  · exact .inr ⟨(div_anti ha (by omega) h').2, (div_anti ha hp h).2⟩
  · have h1 := (div_anti (x := -a) (by omega) (show 1 ≤ y by omega) h').2
    have h2 := (div_anti (x := -a) (by omega) hp h).2
    simp only [Int.neg_tdiv] at h1 h2
    exact .inl ⟨by omega, by omega⟩
theorem div_cor {a b c d x y : Int} (h1 : a ≤ x) (h2 : x ≤ b) (h3 : c ≤ y) (h4 : y ≤ d) (hs : 1 ≤ c ∨ d ≤ -1) : Hs (corD (a, b) (c, d)) (x.tdiv y) := by
  have m := min4_le (a.tdiv c) (a.tdiv d) (b.tdiv c) (b.tdiv d)
  have M := le_max4 (a.tdiv c) (a.tdiv d) (b.tdiv c) (b.tdiv d)
  unfold Hs corD
  dsimp only
  rcases hs with hc | hd
  · have e1 := Int.tdiv_le_tdiv (show 0 < y by omega) h1
    have e2 := Int.tdiv_le_tdiv (show 0 < y by omega) h2
    have e3 := div_btw (a := a) hc h3 h4
    have e4 := div_btw (a := b) hc h3 h4
    omega
  · have e1 := Int.tdiv_le_tdiv (show 0 < -y by omega) h1
    have e2 := Int.tdiv_le_tdiv (show 0 < -y by omega) h2
    have e3 := div_btw (a := a) (p := -d) (y := -y) (q := -c) (by omega) (by omega) (by omega)
    have e4 := div_btw (a := b) (p := -d) (y := -y) (q := -c) (by omega) (by omega) (by omega)
    simp only [Int.tdiv_neg] at e1 e2 e3 e4
    omega
theorem tmod_facts {x y : Int} (hy : y ≠ 0) : (0 ≤ x → 0 ≤ x.tmod y ∧ x.tmod y ≤ x) ∧ (x ≤ 0 → x ≤ x.tmod y ∧ x.tmod y ≤ 0) ∧ (x.tmod y).natAbs < y.natAbs := by
  have h := Int.natAbs_tmod x y
  have h1 : (x.tmod y).natAbs < y.natAbs := by rw [h]; exact Nat.mod_lt _ (by omega)
  have h2 : (x.tmod y).natAbs ≤ x.natAbs := by rw [h]; exact Nat.mod_le _ _
  refine ⟨fun hx => ?_, fun hx => ?_, h1⟩
  · have := Int.tmod_nonneg y hx
    omega
  · have := Int.tmod_nonneg y (show 0 ≤ -x by omega)
    rw [Int.neg_tmod] at this
    omega

theorem of_has {lo hi v : Int} (h : lo ≤ v) (h' : v ≤ hi) (hv : In v) : Hs (ofP lo hi) v := by
  unfold In at hv
  unfold Hs ofP normP
  rw [if_neg (by omega)]
  dsimp only
  omega
theorem out_of {lo hi v : Int} (h : lo ≤ v) (h' : v ≤ hi) (hv : v < -2147483648 ∨ v > 2147483647) : outI lo hi = true := by
  unfold outI
  rw [Bool.or_eq_true, decide_eq_true_eq, decide_eq_true_eq]
  omega
theorem join_has {p q : Int × Int} {n : Int} (h : Hs p n ∨ Hs q n) : Hs (joinI p q) n := by
  unfold Hs joinI normP at *
  (repeat' split) <;> (try dsimp only) <;> omega
theorem mI_has {p q : Int × Int} {y : Int} (h : Hs p y) (h' : Hs q y) : Hs (mI p q) y := by
  unfold Hs at *
  have e : mI p q = (max p.1 q.1, min p.2 q.2) := by
    unfold mI normP; rw [if_neg (by omega), if_neg (by omega)]
  rw [e]; dsimp only; omega
theorem quoS_keep {p : Int × Int} {acc : (Int × Int) × Bool × Bool} {q : Int × Int} {v : Int} (h : Hs acc.1 v) : Hs (quoS p acc q).1 v := by
  unfold quoS
  split
  · exact h
  · exact join_has (.inl h)
theorem quoS_over {p : Int × Int} {acc : (Int × Int) × Bool × Bool} {q : Int × Int} (h : acc.2.1 = true) : (quoS p acc q).2.1 = true := by
  unfold quoS
  split
  · exact h
  · show (acc.2.1 || _) = true
    rw [h]; rfl
theorem quoS_new {p : Int × Int} {acc : (Int × Int) × Bool × Bool} {q : Int × Int} {x y : Int} (h1 : Hs p x) (h2 : Hs q y) (hs : 1 ≤ q.1 ∨ q.2 ≤ -1) :
    (In (x.tdiv y) → Hs (quoS p acc q).1 (x.tdiv y)) ∧ ((x.tdiv y < -2147483648 ∨ x.tdiv y > 2147483647) → (quoS p acc q).2.1 = true) := by
  have k : Hs (corD p q) (x.tdiv y) := div_cor h1.1 h1.2 h2.1 h2.2 hs
  have e : quoS p acc q = _ := if_neg (show ¬ q.1 > q.2 by unfold Hs at h2; omega)
  rw [e]
  refine ⟨fun hv => join_has (.inr (of_has k.1 k.2 hv)), fun hv => ?_⟩
  show (acc.2.1 || _) = true
  rw [out_of k.1 k.2 hv, Bool.or_true]
theorem quo_has {p q : Int × Int} {x y : Int} (hy : In y) (h1 : Hs p x) (h2 : Hs q y) (h0 : y ≠ 0) :
    (In (x.tdiv y) → Hs (quoP p q).1 (x.tdiv y)) ∧ ((x.tdiv y < -2147483648 ∨ x.tdiv y > 2147483647) → (quoP p q).2.1 = true) := by
  unfold In at hy
  unfold quoP
  by_cases hs : y < 0
  · have m := mI_has h2 (q := (-2147483648, -1)) ⟨by omega, by show y ≤ -1; omega⟩
    have r : (mI q (-2147483648, -1)).2 ≤ -1 := by
      have m' := m
      unfold Hs mI normP at m'
      unfold mI normP
      (repeat' split at m') <;> (repeat' split) <;> dsimp only at m' ⊢ <;> omega
    obtain ⟨k1, k2⟩ := quoS_new (acc := ((1, 0), false, false)) h1 m (.inr r)
    exact ⟨fun hv => quoS_keep (k1 hv), fun hv => quoS_over (k2 hv)⟩
  · have m := mI_has h2 (q := (1, 2147483647)) ⟨by show 1 ≤ y; omega, by omega⟩
    have r : 1 ≤ (mI q (1, 2147483647)).1 := by
      have m' := m
      unfold Hs mI normP at m'
      unfold mI normP
      (repeat' split at m') <;> (repeat' split) <;> dsimp only at m' ⊢ <;> omega
    exact quoS_new h1 m (.inl r)
theorem rest_has {p q : Int × Int} {x y : Int} (hx : In x) (h1 : Hs p x) (h2 : Hs q y) (h0 : y ≠ 0) : Hs (restP p q) (x.tmod y) ∧ In (x.tmod y) := by
  have ht := tmod_facts (x := x) h0
  have hi : In (x.tmod y) := by unfold In at *; omega
  refine ⟨?_, hi⟩
  unfold Hs at h1 h2
  by_cases h : p.1 = p.2 ∧ q.1 = q.2
  · obtain rfl : x = p.1 := by omega
    obtain rfl : y = q.1 := by omega
    have e : restP p q = _ := if_pos h
    rw [e]
    exact of_has (Int.le_refl _) (Int.le_refl _) hi
  · have e : restP p q = _ := if_neg h
    rw [e]
    unfold mostP
    refine of_has ?_ ?_ hi
    · omega
    · omega

def onV (k x y : Int) : Int := if k = 4 then x + y else if k = 5 then x - y else if k = 6 then x * y else if k = 7 then x.tdiv y else x.tmod y
def oneP (k x y : Int) : Int × Int := if 7 ≤ k ∧ y = 0 then (0, 3) else if onV k x y < -2147483648 ∨ onV k x y > 2147483647 then (0, 2) else (onV k x y, 0)
def Tell (e : (Int × Int) × Bool × Bool) (r : Int × Int) : Prop := (r.2 = 0 → Hs e.1 r.1 ∧ In r.1) ∧ (r.2 = 2 → e.2.1 = true) ∧ (r.2 = 3 → e.2.2 = true)
theorem cut_tell {lo hi v : Int} {b : Bool} (g1 : lo ≤ v) (g2 : v ≤ hi) : Tell (ofP lo hi, outI lo hi, b) (if v < -2147483648 ∨ v > 2147483647 then (0, 2) else (v, 0)) := by
  split
  · rename_i hv
    exact ⟨fun h => (by cases h), fun _ => out_of g1 g2 hv, fun h => (by cases h)⟩
  · rename_i hv
    have hi : In v := by unfold In; omega
    exact ⟨fun _ => ⟨of_has g1 g2 hi, hi⟩, fun h => (by cases h), fun h => (by cases h)⟩
theorem doQ_tell {k : Int} {p q : Int × Int} {x y : Int} (hk : 4 ≤ k ∧ k ≤ 8) (hx : In x) (hy : In y) (h1 : Hs p x) (h2 : Hs q y) : Tell (doQ k p q) (oneP k x y) := by
  have hk' : k = 4 ∨ k = 5 ∨ k = 6 ∨ k = 7 ∨ k = 8 := by omega
  have h1' := h1
  have h2' := h2
  unfold Hs at h1' h2'
  rcases hk' with rfl | rfl | rfl | rfl | rfl
  · exact cut_tell (v := x + y) (by omega) (by omega)
  · exact cut_tell (v := x - y) (by omega) (by omega)
  · have m := mul_cor h1.1 h1.2 h2.1 h2.2
    exact cut_tell (v := x * y) m.1 m.2
  · have e : doQ 7 p q = divP 7 p q := rfl
    rw [e]
    by_cases h0 : y = 0
    · subst h0
      have ho : oneP 7 x 0 = (0, 3) := rfl
      rw [ho]
      refine ⟨fun h => (by cases h), fun h => (by cases h), fun _ => ?_⟩
      unfold divP
      split
      · rfl
      · rw [if_neg (by omega)]
        show (decide (q.1 ≤ 0) && decide (0 ≤ q.2)) = true
        simp; omega
    · unfold divP
      rw [if_neg (by omega), if_neg (by omega)]
      have qq := quo_has hy h1 h2 h0
      have ho : oneP 7 x y = if x.tdiv y < -2147483648 ∨ x.tdiv y > 2147483647 then (0, 2) else (x.tdiv y, 0) := by
        unfold oneP; rw [if_neg (by omega)]; rfl
      rw [ho]
      split
      · rename_i hv
        exact ⟨fun h => (by cases h), fun _ => qq.2 hv, fun h => (by cases h)⟩
      · rename_i hv
        have hi : In (x.tdiv y) := by unfold In; omega
        exact ⟨fun _ => ⟨qq.1 hi, hi⟩, fun h => (by cases h), fun h => (by cases h)⟩
  · have e : doQ 8 p q = divP 8 p q := rfl
    rw [e]
    by_cases h0 : y = 0
    · subst h0
      have ho : oneP 8 x 0 = (0, 3) := rfl
      rw [ho]
      refine ⟨fun h => (by cases h), fun h => (by cases h), fun _ => ?_⟩
      unfold divP
      split
      · rfl
      · rw [if_pos rfl]
        show (decide (q.1 ≤ 0) && decide (0 ≤ q.2)) = true
        simp; omega
    · unfold divP
      rw [if_neg (by omega), if_pos rfl]
      have qq := rest_has hx h1 h2 h0
      have ho : oneP 8 x y = (x.tmod y, 0) := by
        have hi := qq.2
        unfold In at hi
        unfold oneP; rw [if_neg (by omega), if_neg (show ¬ (onV 8 x y < -2147483648 ∨ onV 8 x y > 2147483647) by show ¬ (x.tmod y < -2147483648 ∨ x.tmod y > 2147483647); omega)]; rfl
      rw [ho]
      exact ⟨fun _ => qq, fun h => (by cases h), fun h => (by cases h)⟩
theorem do_tell {k : Int} {p q : Int × Int} {x y : Int} (hk : 4 ≤ k ∧ k ≤ 8) (hx : In x) (hy : In y) (h1 : Hs p x) (h2 : Hs q y) : Tell (doP k p q) (oneP k x y) := by
  have m1 : Hs (mI p allI) x := mI_has h1 hx
  have m2 : Hs (mI q allI) y := mI_has h2 hy
  have e : doP k p q = doQ k (mI p allI) (mI q allI) := if_neg (by unfold Hs at *; omega)
  rw [e]
  exact doQ_tell hk hx hy m1 m2
theorem neg_tell {p : Int × Int} {x : Int} (hx : In x) (h : Hs p x) : Tell (negP p) (oneP 5 0 x) :=
  do_tell (by omega) (by unfold In; omega) hx (show Hs (0, 0) 0 from ⟨by decide, by decide⟩) h

end Go.Proofs.Ytgmciihlmgeecaa.Fn
