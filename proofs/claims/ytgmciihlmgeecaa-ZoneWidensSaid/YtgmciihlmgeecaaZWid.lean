import Derived.Test.YtgmciihlmgeecaaZActs
/- Widening ends: each change takes some of a number that is 14 at most. Conditions: those that each lemma names. -/
namespace Go.Proofs.Ytgmciihlmgeecaa.Zm
open Go Go.RowKit
set_option linter.unusedVariables false

/-! ### Widening ends -/
def cntR (f : Nat → Bool) : Nat → Nat
  | 0 => 0
  | t + 1 => cntR f t + (if f t then 1 else 0)
theorem cntR_le (f : Nat → Bool) (t : Nat) : cntR f t ≤ t := by
  induction t with
  | zero => exact Nat.le_refl _
  | succ t ih => rw [cntR]; split <;> omega
theorem cntR_mono {f h : Nat → Bool} {t : Nat} (hs : ∀ i, i < t → f i = true → h i = true) : cntR f t ≤ cntR h t := by
  induction t with
  | zero => exact Nat.le_refl _
  | succ t ih =>
    have ih := ih fun i hi => hs i (by omega)
    rw [cntR, cntR]
    cases e : f t with
    | false => simp; omega
    | true => rw [hs t (by omega) e]; simp; omega
theorem cntR_lt {f h : Nat → Bool} {t : Nat} (hs : ∀ i, i < t → f i = true → h i = true) {j : Nat} (hj : j < t) (h1 : h j = true) (h2 : f j = false) : cntR f t < cntR h t := by
  induction t with
  | zero => omega
  | succ t ih =>
    rw [cntR, cntR]
    by_cases e : j = t
    · subst e
      have := cntR_mono (t := j) fun i hi => hs i (by omega)
      rw [h1, h2]; simp; omega
    · have ih := ih (fun i hi => hs i (by omega)) (by omega)
      cases e : f t with
      | false => simp; omega
      | true => rw [hs t (by omega) e]; simp; omega

/-- Bounds of each variable alone: how many say something. -/
def cnt (n : Nat) (d : Mx) : Nat := cntR (fun i => decide (d (i + 1) 0 ≠ 2147483647)) n + cntR (fun i => decide (d 0 (i + 1) ≠ 2147483648)) n
def boxP (n : Nat) (d : Mx) : Bool := (List.range (n + 1)).all fun i => (List.range (n + 1)).all fun j => decide (i = j) || decide (i = 0) || decide (j = 0) || decide (d i j = d i 0 + d 0 j)
theorem box_iff {n : Nat} {d : Mx} : boxP n d = true ↔ ∀ i j, i ≤ n → j ≤ n → i ≠ j → i ≠ 0 → j ≠ 0 → d i j = d i 0 + d 0 j := by
  unfold boxP
  rw [all7]
  constructor
  · intro h i j hi hj e1 e2 e3
    have := h i j (by omega) (by omega)
    simpa [e1, e2, e3] using this
  · intro h i j hi hj
    by_cases e1 : i = j
    · simp [e1]
    · by_cases e2 : i = 0
      · simp [e2]
      · by_cases e3 : j = 0
        · simp [e3]
        · simp [h i j (by omega) (by omega) e1 e2 e3]
def pot (n : Nat) (z : Zo) : Nat := if z.2.1 then 14 else if boxP n (g z.2.2) then cnt n (g z.2.2) else 13

/-- What widening makes, bound by bound. -/
def wdK (a b : Mx) (i : Nat) : Int := if b i 0 ≤ a i 0 then a i 0 else 2147483647
def wdL (a b : Mx) (j : Nat) : Int := if b 0 j ≤ a 0 j then a 0 j else 2147483648
def wdM (a b : Mx) : Mx := fun i j => if i = j then 0 else (if i = 0 then 0 else wdK a b i) + (if j = 0 then 0 else wdL a b j)

section
variable {n : Nat} {a b : Zo}
theorem widen_is (h : Gd n a) (h' : Gd n b) (ha : a.2.1 = false) (hw : withinZ b a = false) : (widenZ a b).2.1 = false ∧ ∀ i j, i ≤ n → j ≤ n → g (widenZ a b).2.2 i j = wdM (g a.2.2) (g b.2.2) i j := by
  have hb := not_within_none h h' hw
  rw [widen_out h h' ha hw]
  have cl := h.clo ha
  have ow := h.own ha
  have ds := h.diag ha
  have kl : ∀ i, 1 ≤ i → i ≤ n → 0 ≤ wdK (g a.2.2) (g b.2.2) i + wdL (g a.2.2) (g b.2.2) i := fun i h1 hi => by
    have := cl.opp (i := i) (j := 0) hi (by omega)
    have := ow i h1 hi
    unfold wdK wdL
    split <;> split <;> omega
  refine (widen_rep h h' ha hb).eq (c := wdM (g a.2.2) (g b.2.2)) ⟨fun i hi => by unfold wdM; simp, fun i j k hi hj hk => ?_⟩ fun m hm => ?_
  · have ki : i ≠ 0 → 0 ≤ wdK (g a.2.2) (g b.2.2) i + wdL (g a.2.2) (g b.2.2) i := fun e => kl i (by omega) hi
    have kk : k ≠ 0 → 0 ≤ wdK (g a.2.2) (g b.2.2) k + wdL (g a.2.2) (g b.2.2) k := fun e => kl k (by omega) hk
    have kj : j ≠ 0 → 0 ≤ wdK (g a.2.2) (g b.2.2) j + wdL (g a.2.2) (g b.2.2) j := fun e => kl j (by omega) hj
    unfold wdM
    by_cases e1 : i = j
    · subst e1
      rw [if_pos rfl]
      by_cases e2 : i = k
      · subst e2; rw [if_pos rfl]; omega
      · rw [if_neg e2, if_neg (Ne.symm e2)]
        by_cases e3 : i = 0 <;> by_cases e4 : k = 0 <;> simp only [e3, e4, if_true, if_false] <;> (try have := ki e3) <;> (try have := kk e4) <;> omega
    · rw [if_neg e1]
      by_cases e2 : i = k
      · subst e2; rw [if_pos rfl, if_neg e1]; omega
      · by_cases e5 : k = j
        · subst e5; rw [if_pos rfl, if_neg e2]; omega
        · rw [if_neg e2, if_neg e5]
          by_cases e3 : k = 0
          · simp only [e3, if_true]; omega
          · have := kk e3
            simp only [e3, if_false]; omega
  · constructor
    · rintro ⟨⟨hd, ho⟩, hk⟩ i j hi hj
      have k0 : ∀ i, i ≤ n → m i 0 ≤ if i = 0 then 0 else wdK (g a.2.2) (g b.2.2) i := fun i hi => by
        by_cases e : i = 0
        · subst e; rw [if_pos rfl]; exact hd 0 (by omega)
        · rw [if_neg e]
          have := (hk i (by omega) hi).1
          have := (ho i (by omega) hi).1
          unfold wdK; split <;> omega
      have l0 : ∀ j, j ≤ n → m 0 j ≤ if j = 0 then 0 else wdL (g a.2.2) (g b.2.2) j := fun i hi => by
        by_cases e : i = 0
        · subst e; rw [if_pos rfl]; exact hd 0 (by omega)
        · rw [if_neg e]
          have := (hk i (by omega) hi).2
          have := (ho i (by omega) hi).2
          unfold wdL; split <;> omega
      have t := hm.2 i j 0 hi hj (by omega)
      have x := k0 i hi
      have y := l0 j hj
      unfold wdM
      by_cases e : i = j
      · subst e; rw [if_pos rfl]; exact hd i hi
      · rw [if_neg e]; omega
    · intro hl
      have k0 : ∀ i, 1 ≤ i → i ≤ n → m i 0 ≤ wdK (g a.2.2) (g b.2.2) i := fun i h1 hi => by
        have := hl i 0 hi (by omega)
        unfold wdM at this
        rw [if_neg (by omega), if_neg (by omega), if_pos rfl] at this
        omega
      have l0 : ∀ i, 1 ≤ i → i ≤ n → m 0 i ≤ wdL (g a.2.2) (g b.2.2) i := fun i h1 hi => by
        have := hl 0 i (by omega) hi
        unfold wdM at this
        rw [if_neg (by omega), if_pos rfl, if_neg (by omega)] at this
        omega
      refine ⟨⟨fun i hi => by have := hl i i hi hi; unfold wdM at this; rw [if_pos rfl] at this; exact this, fun i h1 hi => ⟨?_, ?_⟩⟩, fun i h1 hi => ⟨fun e => ?_, fun e => ?_⟩⟩
      · have y := (ow i h1 hi).1
        have x := k0 i h1 hi
        unfold wdK at x; split at x <;> omega
      · have y := (ow i h1 hi).2
        have x := l0 i h1 hi
        unfold wdL at x; split at x <;> omega
      · have := k0 i h1 hi
        unfold wdK at this; rw [if_pos e] at this; exact this
      · have := l0 i h1 hi
        unfold wdL at this; rw [if_pos e] at this; exact this

theorem pot_le (n : Nat) (h6 : n ≤ 6) (z : Zo) : pot n z ≤ 14 := by
  unfold pot cnt
  split
  · omega
  · split
    · have := cntR_le (fun i => decide (g z.2.2 (i + 1) 0 ≠ 2147483647)) n
      have := cntR_le (fun i => decide (g z.2.2 0 (i + 1) ≠ 2147483648)) n
      omega
    · omega
theorem pot_some (n : Nat) (h6 : n ≤ 6) {z : Zo} (hb : z.2.1 = false) : pot n z ≤ 13 := by
  unfold pot cnt
  rw [if_neg (by rw [hb]; decide)]
  split
  · have := cntR_le (fun i => decide (g z.2.2 (i + 1) 0 ≠ 2147483647)) n
    have := cntR_le (fun i => decide (g z.2.2 0 (i + 1) ≠ 2147483648)) n
    omega
  · omega

/-- Each change takes some of it. -/
theorem pot_step (h : Gd n a) (h' : Gd n b) (hne : widenZ a b ≠ a) : pot n (widenZ a b) + 1 ≤ pot n a := by
  have n6 := h.n6
  cases ha : a.2.1 with
  | true =>
    have e : pot n a = 14 := by unfold pot; rw [if_pos ha]
    rw [widen_none h h' ha] at hne ⊢
    cases hb : b.2.1 with
    | true => exact absurd (h'.ext h (by rw [ha, hb]) fun e => by rw [hb] at e; cases e) hne
    | false => have := pot_some n n6 hb; omega
  | false =>
    cases hw : withinZ b a with
    | true => exact absurd (widen_in h h' hw) hne
    | false =>
      have hb := not_within_none h h' hw
      obtain ⟨wn, we⟩ := widen_is h h' ha hw
      have wi : ∀ i, 1 ≤ i → i ≤ n → g (widenZ a b).2.2 i 0 = wdK (g a.2.2) (g b.2.2) i := fun i h1 hi => by
        rw [we i 0 hi (by omega)]
        unfold wdM
        rw [if_neg (by omega), if_neg (by omega), if_pos rfl]; omega
      have wj : ∀ i, 1 ≤ i → i ≤ n → g (widenZ a b).2.2 0 i = wdL (g a.2.2) (g b.2.2) i := fun i h1 hi => by
        rw [we 0 i (by omega) hi]
        unfold wdM
        rw [if_neg (by omega), if_pos rfl, if_neg (by omega)]; omega
      have wbox : boxP n (g (widenZ a b).2.2) = true := box_iff.2 fun i j hi hj e1 e2 e3 => by
        rw [we i j hi hj, wi i (by omega) hi, wj j (by omega) hj]
        unfold wdM
        rw [if_neg e1, if_neg e2, if_neg e3]
      have pw : pot n (widenZ a b) = cnt n (g (widenZ a b).2.2) := by unfold pot; rw [if_neg (by rw [wn]; decide), if_pos wbox]
      have lew : cnt n (g (widenZ a b).2.2) ≤ 12 := by
        unfold cnt
        have := cntR_le (fun i => decide (g (widenZ a b).2.2 (i + 1) 0 ≠ 2147483647)) n
        have := cntR_le (fun i => decide (g (widenZ a b).2.2 0 (i + 1) ≠ 2147483648)) n
        omega
      cases hbox : boxP n (g a.2.2) with
      | false =>
        have pa : pot n a = 13 := by unfold pot; rw [if_neg (by rw [ha]; decide), if_neg (by rw [hbox]; decide)]
        omega
      | true =>
        have pa : pot n a = cnt n (g a.2.2) := by unfold pot; rw [if_neg (by rw [ha]; decide), if_pos hbox]
        rw [pw, pa]
        have hbx := box_iff.1 hbox
        have s1 : ∀ i, i < n → decide (g (widenZ a b).2.2 (i + 1) 0 ≠ 2147483647) = true → decide (g a.2.2 (i + 1) 0 ≠ 2147483647) = true := fun i hi hd => by
          have hd := of_decide_eq_true hd
          rw [wi (i + 1) (by omega) (by omega)] at hd
          unfold wdK at hd
          split at hd
          · exact decide_eq_true hd
          · exact absurd rfl hd
        have s2 : ∀ i, i < n → decide (g (widenZ a b).2.2 0 (i + 1) ≠ 2147483648) = true → decide (g a.2.2 0 (i + 1) ≠ 2147483648) = true := fun i hi hd => by
          have hd := of_decide_eq_true hd
          rw [wj (i + 1) (by omega) (by omega)] at hd
          unfold wdL at hd
          split at hd
          · exact decide_eq_true hd
          · exact absurd rfl hd
        -- one of them has grown
        have ex : (∃ i, i < n ∧ g a.2.2 (i + 1) 0 < g b.2.2 (i + 1) 0) ∨ (∃ i, i < n ∧ g a.2.2 0 (i + 1) < g b.2.2 0 (i + 1)) := by
          apply Classical.byContradiction
          intro hno
          have k1 : ∀ i, 1 ≤ i → i ≤ n → g b.2.2 i 0 ≤ g a.2.2 i 0 := fun i h1 hi => by
            apply Classical.byContradiction
            intro hx
            exact hno (.inl ⟨i - 1, by omega, by rw [show i - 1 + 1 = i by omega]; omega⟩)
          have k2 : ∀ i, 1 ≤ i → i ≤ n → g b.2.2 0 i ≤ g a.2.2 0 i := fun i h1 hi => by
            apply Classical.byContradiction
            intro hx
            exact hno (.inr ⟨i - 1, by omega, by rw [show i - 1 + 1 = i by omega]; omega⟩)
          have : withinZ b a = true := (within_iff h' h).2 (.inr ⟨hb, ha, fun i j hi hj => by
            by_cases e1 : i = j
            · subst e1; rw [h.diag ha i hi, h'.diag hb i hi]; omega
            · by_cases e2 : i = 0
              · subst e2; exact k2 j (by omega) hj
              · by_cases e3 : j = 0
                · subst e3; exact k1 i (by omega) hi
                · have := k1 i (by omega) hi
                  have := k2 j (by omega) hj
                  have := (h'.clo hb).2 i j 0 hi hj (by omega)
                  rw [hbx i j hi hj e1 e2 e3]; omega⟩)
          rw [hw] at this; cases this
        unfold cnt
        rcases ex with ⟨i, hi, hx⟩ | ⟨i, hi, hx⟩
        · have o := (h'.own hb (i + 1) (by omega) (by omega)).1
          have := cntR_lt s1 hi (decide_eq_true (by omega)) (by
            rw [decide_eq_false_iff_not, Decidable.not_not, wi (i + 1) (by omega) (by omega)]
            unfold wdK
            rw [if_neg (by omega)])
          have := cntR_mono s2
          omega
        · have o := (h'.own hb (i + 1) (by omega) (by omega)).2
          have := cntR_lt s2 hi (decide_eq_true (by omega)) (by
            rw [decide_eq_false_iff_not, Decidable.not_not, wj (i + 1) (by omega) (by omega)]
            unfold wdL
            rw [if_neg (by omega)])
          have := cntR_mono s1
          omega
end

end Go.Proofs.Ytgmciihlmgeecaa.Zm
