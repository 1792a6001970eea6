import Derived.Test.YtgmciihlmgeecaaZOps4
import Derived.IntWalk
/- Rows of calls on zones in plain mathematics. Conditions: those that each lemma names. -/
namespace Go.Proofs.Ytgmciihlmgeecaa.Zm
open Go Go.RowKit
set_option linter.unusedVariables false

theorem u64_nonneg (a : Int) : 0 ≤ IntKind.u64.wrap a := by
  have e : IntKind.u64.wrap a = a % 18446744073709551616 := by simp [IntKind.wrap, IntKind.bits, IntKind.signed]
  omega
theorem mod_in {a m : Int} (hm : 1 ≤ m) (h : m ≤ 1000) : 0 ≤ IntKind.i64.wrap ((IntKind.u64.wrap a).tmod m) ∧ IntKind.i64.wrap ((IntKind.u64.wrap a).tmod m) < m := by
  have h0 := u64_nonneg a
  have h1 : (IntKind.u64.wrap a).tmod m = IntKind.u64.wrap a % m := Int.tmod_eq_emod_of_nonneg h0
  have h2 := Int.emod_nonneg (IntKind.u64.wrap a) (show m ≠ 0 by omega)
  have h3 := Int.emod_lt_of_pos (IntKind.u64.wrap a) (show 0 < m by omega)
  rw [h1, IntWalk.i64_in _ ⟨by omega, by omega⟩]
  exact ⟨h2, h3⟩
section
variable {n : Nat} {z : Zo}
end

end Go.Proofs.Ytgmciihlmgeecaa.Zm
