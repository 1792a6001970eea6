import Derived.Test.YtlfojobligplkaaPuQ6
/- Pairs of a row after a send. Conditions: those that each lemma names. -/
namespace Go.Proofs.Ytlfojobligplkaa.Fn
open Go Go.RowKit Go.Proofs.Ytlfojobligplkaa.Mt
set_option linter.unusedVariables false
set_option linter.unusedSimpArgs false

/-- One and a rest. -/
theorem oneRem (a : Int) (m : Int) (h : 1 ≤ m) (h' : m ≤ 1000) : 1 ≤ IntKind.i64.wrap (1 + IntKind.i64.wrap ((IntKind.u64.wrap a).tmod m)) ∧ IntKind.i64.wrap (1 + IntKind.i64.wrap ((IntKind.u64.wrap a).tmod m)) ≤ m := by
  have h0 : 0 ≤ IntKind.u64.wrap a := by
    have e : IntKind.u64.wrap a = a % 18446744073709551616 := by simp [IntKind.wrap, IntKind.bits, IntKind.signed]
    omega
  have e : (IntKind.u64.wrap a).tmod m = (IntKind.u64.wrap a) % m := Int.tmod_eq_emod_of_nonneg h0
  have h1 := Int.emod_nonneg (IntKind.u64.wrap a) (show m ≠ 0 by omega)
  have h2 := Int.emod_lt_of_pos (IntKind.u64.wrap a) (show 0 < m by omega)
  rw [e, i64_id (n := IntKind.u64.wrap a % m) (by omega) (by omega), i64_id (by omega) (by omega)]
  omega

theorem pairAt_set {l : List Int} {j k : Nat} {p : Int × Int} (h : j * 2 + 1 < l.length) : pairAt (setP l j p) k = if j = k then p else pairAt l k := by
  unfold pairAt setP
  by_cases e : j = k
  · subst e
    rw [if_pos rfl]
    simp [List.getD_eq_getElem?_getD, List.getElem?_set, show j * 2 < l.length by omega, h]
  · rw [if_neg e]
    simp [List.getD_eq_getElem?_getD, List.getElem?_set, show j * 2 ≠ k * 2 by omega, show j * 2 + 1 ≠ k * 2 by omega, show j * 2 ≠ k * 2 + 1 by omega, show j * 2 + 1 ≠ k * 2 + 1 by omega, show ¬ j = k from e]

theorem sendP_pair {s lo hi : Int} {n : Nat} {l : List Int} {t i0 i1 : Int} {k : Nat} (hl : l.length = n * 2) (hk : k < n) :
    pairAt (sendP s lo hi n l t i0 i1).2.2 k = if (¬ (i0 > i1 ∨ t < 0 ∨ t ≥ (n : Int))) ∧ t = (k : Int) then jI (pairAt l k).1 (pairAt l k).2 i0 i1 else pairAt l k := by
  unfold sendP
  split
  · rename_i q; rw [if_neg (fun h => h.1 q)]
  · rename_i q
    dsimp only
    rw [pairAt_set (by omega)]
    by_cases e : t = (k : Int)
    · rw [if_pos (by omega), if_pos ⟨q, e⟩, show t.toNat = k by omega]
    · rw [if_neg (by omega), if_neg (fun h => e h.2)]

theorem noneL_pair {n k : Nat} (h : k < n) : pairAt (noneL n) k = (1, 0) := by
  induction n with
  | zero => omega
  | succ n ih =>
    rw [noneL_succ]
    have hl := noneL_len n
    by_cases e : k = n
    · subst e
      unfold pairAt
      rw [← hl]
      simp [List.getD_eq_getElem?_getD, List.getElem?_append_right]
    · rw [← ih (by omega)]
      unfold pairAt
      simp [List.getD_eq_getElem?_getD, List.getElem?_append_left, hl, show k * 2 < n * 2 by omega, show k * 2 + 1 < n * 2 by omega]

end Go.Proofs.Ytlfojobligplkaa.Fn
