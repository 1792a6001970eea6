import Derived.Test.YtgmciihlmgeecaaZActs
/- What the laws of zones need, in plain mathematics. Conditions: those that each lemma names. -/
namespace Go.Proofs.Ytgmciihlmgeecaa.Zm
open Go Go.RowKit
set_option linter.unusedVariables false

section
variable {n : Nat} {z w : Zo} {P P' : Mx → Prop}

theorem Rep.within (h : Rep n P z) (h' : Rep n P' w) (hs : ∀ m, Clo n m → P m → P' m) : withinZ z w = true := by
  rw [within_iff h.1 h'.1]
  cases hb : z.2.1 with
  | true => exact .inl rfl
  | false =>
    have p : P (g z.2.2) := (h.2.2 hb _ (h.1.clo hb)).2 (Lem.refl _ _)
    have p' := hs _ (h.1.clo hb) p
    have nb := h'.not_none (h.1.clo hb) p'
    exact .inr ⟨rfl, nb, (h'.2.2 nb _ (h.1.clo hb)).1 p'⟩

def actP (x y b : Int) (m : Mx) : Prop :=
  IntKind.i64.wrap ((IntKind.u64.wrap x).tmod 4) ≠ IntKind.i64.wrap (IntKind.i64.wrap ((IntKind.u64.wrap y).tmod 5) - 1) →
    m (IntKind.i64.wrap ((IntKind.u64.wrap x).tmod 4) + 1).toNat (IntKind.i64.wrap (IntKind.i64.wrap ((IntKind.u64.wrap y).tmod 5) - 1) + 1).toNat ≤ max (actB b) (-1099511627776)
theorem boundA_rep (h : Rep 4 P z) (x y b : Int) : Rep 4 (fun m => P m ∧ actP x y b m) (boundA z x y b) := by
  have hx := mod_in (a := x) (m := 4) (by omega) (by omega)
  have hy := mod_in (a := y) (m := 5) (by omega) (by omega)
  have wy : IntKind.i64.wrap (IntKind.i64.wrap ((IntKind.u64.wrap y).tmod 5) - 1) = IntKind.i64.wrap ((IntKind.u64.wrap y).tmod 5) - 1 := IntWalk.i64_in _ ⟨by omega, by omega⟩
  unfold boundA
  split
  · rename_i e
    exact h.of fun m hm => ⟨fun hp => ⟨hp, fun ne => absurd e ne⟩, fun hp => hp.1⟩
  · rename_i e
    have r := bound_rep h (x := IntKind.i64.wrap ((IntKind.u64.wrap x).tmod 4)) (y := IntKind.i64.wrap (IntKind.i64.wrap ((IntKind.u64.wrap y).tmod 5) - 1)) (b := actB b) (by omega) (by omega)
    exact r.of fun m hm => ⟨fun hp => ⟨hp.1, fun _ => hp.2⟩, fun hp => ⟨hp.1, hp.2 e⟩⟩

/-- What a bound asks. -/
def bdP (i j : Nat) (b : Int) (m : Mx) : Prop := m i j ≤ b
theorem bound_repI (h : Rep n P z) {x y b : Int} {i j : Nat} (hx : x = (i : Int) - 1) (hy : y = (j : Int) - 1) (hi : i ≤ n) (hj : j ≤ n) (hb : -1099511627776 ≤ b) : Rep n (fun m => P m ∧ m i j ≤ b) (boundZ z x y b) := by
  have r := bound_rep h (x := x) (y := y) (b := b) (by omega) (by omega)
  rw [show (x + 1).toNat = i by omega, show (y + 1).toNat = j by omega, show max b (-1099511627776) = b by omega] at r
  exact r
theorem Rep.no (h : Rep n P z) (hs : ∀ m, Clo n m → P m → False) : z.2.1 = true := by
  cases hb : z.2.1 with
  | true => rfl
  | false => exact (hs _ (h.1.clo hb) ((h.2.2 hb _ (h.1.clo hb)).2 (Lem.refl _ _))).elim
theorem Rep.self (h : Rep n P z) (hb : z.2.1 = false) : P (g z.2.2) := (h.2.2 hb _ (h.1.clo hb)).2 (Lem.refl _ _)
end

end Go.Proofs.Ytgmciihlmgeecaa.Zm
