import Derived.Test.YtgmciihlmgeecaaZActs
/- What the laws of zones need, in plain mathematics. Conditions: those that each lemma names. -/
namespace Go.Proofs.Ytgmciihlmgeecaa.Zm
open Go Go.RowKit
set_option linter.unusedVariables false

section
variable {n : Nat} {z w : Zo} {P P' : Mx → Prop}

theorem Rep.within (h : Rep n P z) (h' : Rep n P' w) (hs : ∀ m, Clo n m → P m → P' m) : withinZ z w = true := by
  rw [within_iff h.1 h'.1]
  cases hb : z.2.1 with
  | true => exact .inl rfl
  | false =>
    have p : P (g z.2.2) := (h.2.2 hb _ (h.1.clo hb)).2 (Lem.refl _ _)
    have p' := hs _ (h.1.clo hb) p
    have nb := h'.not_none (h.1.clo hb) p'
    exact .inr ⟨rfl, nb, (h'.2.2 nb _ (h.1.clo hb)).1 p'⟩

theorem Rep.no (h : Rep n P z) (hs : ∀ m, Clo n m → P m → False) : z.2.1 = true := by
  cases hb : z.2.1 with
  | true => rfl
  | false => exact (hs _ (h.1.clo hb) ((h.2.2 hb _ (h.1.clo hb)).2 (Lem.refl _ _))).elim
end


section
variable {z : Zo}
end
end Go.Proofs.Ytgmciihlmgeecaa.Zm
