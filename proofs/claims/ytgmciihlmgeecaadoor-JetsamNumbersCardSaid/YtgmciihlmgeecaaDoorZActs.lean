import Derived.Test.YtgmciihlmgeecaaDoorZOps4
import Derived.IntWalk
/- Rows of calls on zones in plain mathematics. Conditions: those that each lemma names. -/
namespace Go.Proofs.YtgmciihlmgeecaaDoor.Zm
open Go Go.RowKit
set_option linter.unusedVariables false

/-- Which variable, which other one or nought, by how much, which call. -/
def actX (n a : Int) : Int := IntKind.i64.wrap ((IntKind.u64.wrap a).tmod (IntKind.u64.wrap n))
def actY (n a : Int) : Int := IntKind.i64.wrap (IntKind.i64.wrap ((IntKind.u64.wrap a).tmod (IntKind.u64.wrap (IntKind.i64.wrap (n + 1)))) - 1)
def actB (b : Int) : Int := IntKind.i64.wrap (IntKind.i32.wrap b)
def actW (k : Int) : Int := IntKind.i64.wrap ((IntKind.u64.wrap k).tmod 5)
def stepZ (z : Zo) (k x y b : Int) : Zo :=
  if actW k = 0 then (if actX z.1 x = actY z.1 y then z else boundZ z (actX z.1 x) (actY z.1 y) (actB b))
  else if actW k = 1 then (if actX z.1 x = actY z.1 y then z else boundZ z (actY z.1 y) (actX z.1 x) (actB b))
  else if actW k = 2 then forgetZ z (actX z.1 x)
  else if actW k = 3 ∨ actW k = 4 then copyZ z (actX z.1 x) (actY z.1 y) (actB b) else z
def rowsZ (z : Zo) (l : List Int) : Nat → Zo
  | 0 => z
  | t + 1 => stepZ (rowsZ z l t) (l.getD (t * 4) 0) (l.getD (t * 4 + 1) 0) (l.getD (t * 4 + 2) 0) (l.getD (t * 4 + 3) 0)
def applyZ (z : Zo) (m : Nat) (l : List Int) : Zo := if z.1 = 0 then z else rowsZ z l (min m 20)
def sameZ (z w : Zo) : Bool := decide (z = w)
/-- A zone of one of the calls, to be decided. -/
def goodZ (z : Zo) : Bool :=
  okN z.1 && (z.2.2.length == 49) &&
    if z.2.1 then decide (z.2.2 = zeroL)
    else ((List.range (z.1.toNat + 1)).all fun i => decide (g z.2.2 i i = 0)) &&
      ((List.range (z.1.toNat + 1)).all fun i => (List.range (z.1.toNat + 1)).all fun j => (List.range (z.1.toNat + 1)).all fun k => decide (g z.2.2 i j ≤ g z.2.2 i k + g z.2.2 k j)) &&
      ((List.range (z.1.toNat + 1)).all fun i => (i == 0) || (decide (g z.2.2 i 0 ≤ 2147483647) && decide (g z.2.2 0 i ≤ 2147483648))) &&
      ((List.range 7).all fun i => (List.range 7).all fun j => (decide (i ≤ z.1.toNat) && decide (j ≤ z.1.toNat)) || decide (g z.2.2 i j = 0))
def zerosR (n : Int) : Zo := go n.toNat (topR n)
where go : Nat → Zo → Zo
  | 0, z => z
  | t + 1, z => boundR (boundR (go t z) t (-1) 0) (-1) t 0
/-- An act's bound, of four variables. -/
def boundA (z : Zo) (x y b : Int) : Zo :=
  if IntKind.i64.wrap ((IntKind.u64.wrap x).tmod 4) = IntKind.i64.wrap (IntKind.i64.wrap ((IntKind.u64.wrap y).tmod 5) - 1) then z
  else boundZ z (IntKind.i64.wrap ((IntKind.u64.wrap x).tmod 4)) (IntKind.i64.wrap (IntKind.i64.wrap ((IntKind.u64.wrap y).tmod 5) - 1)) (actB b)

theorem u64_nonneg (a : Int) : 0 ≤ IntKind.u64.wrap a := by
  have e : IntKind.u64.wrap a = a % 18446744073709551616 := by simp [IntKind.wrap, IntKind.bits, IntKind.signed]
  omega
theorem mod_in {a m : Int} (hm : 1 ≤ m) (h : m ≤ 1000) : 0 ≤ IntKind.i64.wrap ((IntKind.u64.wrap a).tmod m) ∧ IntKind.i64.wrap ((IntKind.u64.wrap a).tmod m) < m := by
  have h0 := u64_nonneg a
  have h1 : (IntKind.u64.wrap a).tmod m = IntKind.u64.wrap a % m := Int.tmod_eq_emod_of_nonneg h0
  have h2 := Int.emod_nonneg (IntKind.u64.wrap a) (show m ≠ 0 by omega)
  have h3 := Int.emod_lt_of_pos (IntKind.u64.wrap a) (show 0 < m by omega)
  rw [h1, IntWalk.i64_in _ ⟨by omega, by omega⟩]
  exact ⟨h2, h3⟩
theorem actX_in {n a : Int} (h : 1 ≤ n) (h' : n ≤ 6) : 0 ≤ actX n a ∧ actX n a < n := by
  unfold actX
  rw [IntWalk.u64_in n ⟨by omega, by omega⟩]
  exact mod_in h (by omega)
theorem actY_in {n a : Int} (h : 0 ≤ n) (h' : n ≤ 6) : -1 ≤ actY n a ∧ actY n a < n := by
  unfold actY
  rw [IntWalk.i64_in (n + 1) ⟨by omega, by omega⟩, IntWalk.u64_in (n + 1) ⟨by omega, by omega⟩]
  have := mod_in (a := a) (m := n + 1) (by omega) (by omega)
  rw [IntWalk.i64_in (IntKind.i64.wrap ((IntKind.u64.wrap a).tmod (n + 1)) - 1) ⟨by omega, by omega⟩]
  omega
theorem actB_in (b : Int) : -2147483648 ≤ actB b ∧ actB b ≤ 2147483647 := by
  unfold actB
  have : -2147483648 ≤ IntKind.i32.wrap b ∧ IntKind.i32.wrap b ≤ 2147483647 := by
    rw [IntWalk.i32_left]; unfold wrap32; omega
  rw [IntWalk.i64_in _ ⟨by omega, by omega⟩]
  exact this
theorem actW_in (k : Int) : 0 ≤ actW k ∧ actW k < 5 := mod_in (by omega) (by omega)

theorem good_iff {z : Zo} : goodZ z = true ↔ ∃ n, Gd n z := by
  unfold goodZ
  constructor
  · intro h
    simp only [Bool.and_eq_true, beq_iff_eq] at h
    obtain ⟨⟨h1, h2⟩, h3⟩ := h
    have hn : 0 ≤ z.1 ∧ z.1 ≤ 6 := by unfold okN at h1; simpa using h1
    refine ⟨z.1.toNat, ?_⟩
    cases hb : z.2.1 with
    | true =>
      rw [if_pos hb] at h3
      have h3 := of_decide_eq_true h3
      exact ⟨by omega, by omega, h2, fun _ => h3, fun e => (by rw [hb] at e; cases e), fun e => (by rw [hb] at e; cases e), fun e => (by rw [hb] at e; cases e), fun e => (by rw [hb] at e; cases e)⟩
    | false =>
      rw [if_neg (by rw [hb]; decide)] at h3
      simp only [Bool.and_eq_true, List.all_eq_true, List.mem_range, decide_eq_true_eq, Bool.or_eq_true, beq_iff_eq] at h3
      obtain ⟨⟨⟨k1, k2⟩, k3⟩, k4⟩ := h3
      refine ⟨by omega, by omega, h2, fun e => (by rw [hb] at e; cases e), fun _ => ⟨fun i hi => ?_, fun i j k hi hj hk => k2 i (by omega) j (by omega) k (by omega)⟩, fun _ i h1 hi => ?_, fun _ i hi => k1 i (by omega), fun _ a b ha hb' e => ?_⟩
      · rw [k1 i (by omega)]; omega
      · rcases k3 i (by omega) with e | e
        · omega
        · exact e
      · rcases k4 a ha b hb' with e' | e'
        · exact absurd e' e
        · exact e'
  · rintro ⟨n, h⟩
    have n6 := h.n6
    rw [h.okN, h.len]
    cases hb : z.2.1 with
    | true => simp [h.none hb]
    | false =>
      simp only [h.nat, Bool.and_eq_true, List.all_eq_true, List.mem_range, decide_eq_true_eq, Bool.or_eq_true, beq_iff_eq, true_and, Bool.false_eq_true, if_false, beq_self_eq_true]
      refine ⟨⟨⟨fun i hi => h.diag hb i (by omega), fun i hi j hj k hk => (h.clo hb).2 i j k (by omega) (by omega) (by omega)⟩, fun i hi => ?_⟩, fun i hi j hj => ?_⟩
      · by_cases e : i = 0
        · exact .inl e
        · exact .inr (h.own hb i (by omega) (by omega))
      · by_cases e : i ≤ n ∧ j ≤ n
        · exact .inl e
        · exact .inr (h.out hb i j hi hj e)

section
variable {n : Nat} {z : Zo}
theorem step_gd (h : Gd n z) {k x y b : Int} : Gd n (stepZ z k x y b) := by
  unfold stepZ
  split
  · split
    · exact h
    · exact bound_gd h
  · split
    · split
      · exact h
      · exact bound_gd h
    · split
      · exact forget_gd h
      · split
        · exact copy_gd h
        · exact h
theorem rows_gd (h : Gd n z) (l : List Int) (t : Nat) : Gd n (rowsZ z l t) := by
  induction t with
  | zero => exact h
  | succ t ih => exact step_gd ih
theorem apply_gd (h : Gd n z) {m : Nat} {l : List Int} : Gd n (applyZ z m l) := by
  unfold applyZ
  split
  · exact h
  · exact rows_gd h l _

/-- Bounds of nought: those of noughts alone. -/
theorem zeros_rep (h6 : n ≤ 6) : Rep n (fun m => ((∀ i, i ≤ n → m i i ≤ 0) ∧ Own n m) ∧ ∀ i, 1 ≤ i → i ≤ n → m i 0 ≤ 0 ∧ m 0 i ≤ 0) (zerosZ n) := by
  have gd := zeros_gd h6
  refine ⟨gd, fun e => (Bool.noConfusion e), fun _ m hm => ?_⟩
  constructor
  · rintro ⟨⟨h1, h2⟩, h3⟩ i j hi hj
    rw [zeros_g]
    have t := hm.2 i j 0 hi hj (by omega)
    have a : m i 0 ≤ 0 := by
      by_cases e : i = 0
      · subst e; exact h1 0 (by omega)
      · exact (h3 i (by omega) hi).1
    have b : m 0 j ≤ 0 := by
      by_cases e : j = 0
      · subst e; exact h1 0 (by omega)
      · exact (h3 j (by omega) hj).2
    omega
  · intro hl
    have hl' : ∀ i j, i ≤ n → j ≤ n → m i j ≤ 0 := fun i j hi hj => by have := hl i j hi hj; rw [zeros_g] at this; exact this
    refine ⟨⟨fun i hi => hl' i i hi hi, fun i h1 hi => ?_⟩, fun i h1 hi => ⟨hl' i 0 hi (by omega), hl' 0 i (by omega) hi⟩⟩
    have := hl' i 0 hi (by omega)
    have := hl' 0 i (by omega) hi
    omega
theorem zerosR_go (h6 : n ≤ 6) (t : Nat) (ht : t ≤ n) : Rep n (fun m => ((∀ i, i ≤ n → m i i ≤ 0) ∧ Own n m) ∧ ∀ i, 1 ≤ i → i ≤ t → m i 0 ≤ 0 ∧ m 0 i ≤ 0) (zerosR.go t (topZ n)) := by
  induction t with
  | zero => exact (top_rep h6).of fun m hm => ⟨fun h => ⟨h, fun i h1 hi => absurd h1 (by omega)⟩, fun h => h.1⟩
  | succ t ih =>
    have ih := ih (by omega)
    have e1 : ((t : Int) + 1).toNat = t + 1 := by omega
    have e2 : ((-1 : Int) + 1).toNat = 0 := rfl
    unfold zerosR.go
    have r1 := bound_rep ih (x := t) (y := -1) (b := 0) (by omega) (by omega)
    rw [boundR_eq ih.1 (by omega) (by omega) (by omega), boundR_eq r1.1 (by omega) (by omega) (by omega)]
    have r2 := bound_rep r1 (x := -1) (y := t) (b := 0) (by omega) (by omega)
    refine r2.of fun m hm => ?_
    rw [e1, e2, show max (0 : Int) (-1099511627776) = 0 from rfl]
    constructor
    · rintro ⟨⟨⟨h1, h2⟩, h3⟩, h4⟩
      refine ⟨h1, fun i i1 i2 => ?_⟩
      by_cases e : i = t + 1
      · subst e; exact ⟨h3, h4⟩
      · exact h2 i i1 (by omega)
    · rintro ⟨h1, h2⟩
      exact ⟨⟨⟨h1, fun i i1 i2 => h2 i i1 (by omega)⟩, (h2 (t + 1) (by omega) (by omega)).1⟩, (h2 (t + 1) (by omega) (by omega)).2⟩
theorem zerosR_eq (h6 : n ≤ 6) : zerosR n = zerosZ n := by
  unfold zerosR
  rw [topR_eq h6, Int.toNat_natCast]
  exact (zerosR_go h6 n (Nat.le_refl _)).uniq (zeros_rep h6) fun m hm => Iff.rfl
end

end Go.Proofs.YtgmciihlmgeecaaDoor.Zm
