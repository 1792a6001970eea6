import Derived.Test.YtgmciihlmgeecaaPuN2
import Derived.Test.YtgmciihlmgeecaaZBox
/- Zones that are boxes. Conditions: those that each lemma names. -/
namespace Go.Proofs.Ytgmciihlmgeecaa.Fn
open Go Go.RowKit Go.Proofs.Ytgmciihlmgeecaa.Mt Go.Proofs.Ytgmciihlmgeecaa.Zm
set_option linter.unusedVariables false
set_option linter.unusedSimpArgs false

section
variable {n : Nat} {U L : Nat → Int} {z : Zo}
theorem box_held (h : IsBox n U L z) {x lo hi : Int} (hx : 0 ≤ x ∧ x < n) (hl : lo ≤ hi) (h1 : -2147483648 ≤ lo) (h2 : hi ≤ 2147483647) : IsBox n (updF U (x + 1).toNat hi) (updF L (x + 1).toNat (-lo)) (heldZ (forgetZ z x) x lo hi) := by
  have R := held_rep (h.forget hx).rep (x := x) (lo := lo) (hi := hi) (i := (x + 1).toNat) (by omega) (by omega) (by omega) hl (by omega) (by omega) (by omega)
  have cl := h.gd.clo h.some
  refine R.box (fun i i1 i2 => ?_) fun m hm => ?_
  · unfold updF
    by_cases e : i = (x + 1).toNat
    · rw [if_pos e, if_pos e]; omega
    · rw [if_neg e, if_neg e]
      have u := h.up i1 i2
      have := cl.opp (i := i) (j := 0) i2 (by omega)
      omega
  · constructor
    · rintro ⟨⟨⟨hd, hr⟩, e1⟩, e2⟩
      refine ⟨hd, fun i i1 i2 => ?_⟩
      have r := hr i i1 i2
      unfold updF at r ⊢
      by_cases e : i = (x + 1).toNat
      · subst e; rw [if_pos rfl, if_pos rfl]; exact ⟨e1, e2⟩
      · rw [if_neg e, if_neg e] at r ⊢; exact r
    · rintro ⟨hd, hr⟩
      have r := hr (x + 1).toNat (by omega) (by omega)
      unfold updF at r
      rw [if_pos rfl, if_pos rfl] at r
      refine ⟨⟨⟨hd, fun i i1 i2 => ?_⟩, r.1⟩, r.2⟩
      have r' := hr i i1 i2
      unfold updF at r' ⊢
      by_cases e : i = (x + 1).toNat
      · subst e; rw [if_pos rfl, if_pos rfl]; omega
      · rw [if_neg e, if_neg e] at r' ⊢; exact r'
theorem box_itv (h : IsBox n U L z) {x : Int} (hx : 0 ≤ x ∧ x < n) : itvZ z x = (- L (x + 1).toNat, U (x + 1).toNat) := by
  have u := h.up (i := (x + 1).toNat) (by omega) (by omega)
  rw [(itv_in h.gd h.some hx).1, u.1, u.2]
end

end Go.Proofs.Ytgmciihlmgeecaa.Fn
