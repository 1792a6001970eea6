import Derived.Test.YtgmciihlmgeecaaZOps4
import Derived.IntWalk
/- Rows of calls on zones in plain mathematics. Conditions: those that each lemma names. -/
namespace Go.Proofs.Ytgmciihlmgeecaa.Zm
open Go Go.RowKit
set_option linter.unusedVariables false

/-- Which variable, which other one or nought, by how much, which call. -/
def actX (n a : Int) : Int := IntKind.i64.wrap ((IntKind.u64.wrap a).tmod (IntKind.u64.wrap n))
def actY (n a : Int) : Int := IntKind.i64.wrap (IntKind.i64.wrap ((IntKind.u64.wrap a).tmod (IntKind.u64.wrap (IntKind.i64.wrap (n + 1)))) - 1)
def actB (b : Int) : Int := IntKind.i64.wrap (IntKind.i32.wrap b)
def actW (k : Int) : Int := IntKind.i64.wrap ((IntKind.u64.wrap k).tmod 5)
def stepZ (z : Zo) (k x y b : Int) : Zo :=
  if actW k = 0 then (if actX z.1 x = actY z.1 y then z else boundZ z (actX z.1 x) (actY z.1 y) (actB b))
  else if actW k = 1 then (if actX z.1 x = actY z.1 y then z else boundZ z (actY z.1 y) (actX z.1 x) (actB b))
  else if actW k = 2 then forgetZ z (actX z.1 x)
  else if actW k = 3 ∨ actW k = 4 then copyZ z (actX z.1 x) (actY z.1 y) (actB b) else z
def rowsZ (z : Zo) (l : List Int) : Nat → Zo
  | 0 => z
  | t + 1 => stepZ (rowsZ z l t) (l.getD (t * 4) 0) (l.getD (t * 4 + 1) 0) (l.getD (t * 4 + 2) 0) (l.getD (t * 4 + 3) 0)
def applyZ (z : Zo) (m : Nat) (l : List Int) : Zo := if z.1 = 0 then z else rowsZ z l (min m 20)
def sameZ (z w : Zo) : Bool := decide (z = w)
/-- A zone of one of the calls, to be decided. -/
def goodZ (z : Zo) : Bool :=
  okN z.1 && (z.2.2.length == 49) &&
    if z.2.1 then decide (z.2.2 = zeroL)
    else ((List.range (z.1.toNat + 1)).all fun i => decide (g z.2.2 i i = 0)) &&
      ((List.range (z.1.toNat + 1)).all fun i => (List.range (z.1.toNat + 1)).all fun j => (List.range (z.1.toNat + 1)).all fun k => decide (g z.2.2 i j ≤ g z.2.2 i k + g z.2.2 k j)) &&
      ((List.range (z.1.toNat + 1)).all fun i => (i == 0) || (decide (g z.2.2 i 0 ≤ 2147483647) && decide (g z.2.2 0 i ≤ 2147483648))) &&
      ((List.range 7).all fun i => (List.range 7).all fun j => (decide (i ≤ z.1.toNat) && decide (j ≤ z.1.toNat)) || decide (g z.2.2 i j = 0))
def zerosR (n : Int) : Zo := go n.toNat (topR n)
where go : Nat → Zo → Zo
  | 0, z => z
  | t + 1, z => boundR (boundR (go t z) t (-1) 0) (-1) t 0
/-- An act's bound, of four variables. -/
def boundA (z : Zo) (x y b : Int) : Zo :=
  if IntKind.i64.wrap ((IntKind.u64.wrap x).tmod 4) = IntKind.i64.wrap (IntKind.i64.wrap ((IntKind.u64.wrap y).tmod 5) - 1) then z
  else boundZ z (IntKind.i64.wrap ((IntKind.u64.wrap x).tmod 4)) (IntKind.i64.wrap (IntKind.i64.wrap ((IntKind.u64.wrap y).tmod 5) - 1)) (actB b)

theorem u64_nonneg (a : Int) : 0 ≤ IntKind.u64.wrap a := by
  have e : IntKind.u64.wrap a = a % 18446744073709551616 := by simp [IntKind.wrap, IntKind.bits, IntKind.signed]
  omega
theorem mod_in {a m : Int} (hm : 1 ≤ m) (h : m ≤ 1000) : 0 ≤ IntKind.i64.wrap ((IntKind.u64.wrap a).tmod m) ∧ IntKind.i64.wrap ((IntKind.u64.wrap a).tmod m) < m := by
  have h0 := u64_nonneg a
  have h1 : (IntKind.u64.wrap a).tmod m = IntKind.u64.wrap a % m := Int.tmod_eq_emod_of_nonneg h0
  have h2 := Int.emod_nonneg (IntKind.u64.wrap a) (show m ≠ 0 by omega)
  have h3 := Int.emod_lt_of_pos (IntKind.u64.wrap a) (show 0 < m by omega)
  rw [h1, IntWalk.i64_in _ ⟨by omega, by omega⟩]
  exact ⟨h2, h3⟩
section
variable {n : Nat} {z : Zo}
end

end Go.Proofs.Ytgmciihlmgeecaa.Zm
