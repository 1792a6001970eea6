import Derived.Test.YtgmciihlmgeecaaPuEA
/- Rows of three numbers, and what EvalHas says of them, with no program in sight. Conditions: those that each lemma names. -/
namespace Go.Proofs.Ytgmciihlmgeecaa.Fn
open Go Go.RowKit Go.Proofs.Ytgmciihlmgeecaa.Mt Go.Proofs.Ytgmciihlmgeecaa.Zm
set_option linter.unusedVariables false
set_option linter.unusedSimpArgs false

theorem ofP_one {a : Int} (h : In a) : ofP a a = (a, a) := by
  unfold In at h
  unfold ofP normP
  rw [show max a (-2147483648) = a by omega, show min a 2147483647 = a by omega, if_neg (by omega)]
theorem row_step {z : Zo} {v : List Int} (h : Gd 3 z) (hl : v.length = 3) (hv : InV v) (hp : Pt 3 (vF v) z) {t : Nat} (ht : t < 3) {a : Int} (ha : In a) :
    Gd 3 (heldZ (forgetZ z t) t (ofP a a).1 (ofP a a).2) ∧ Pt 3 (vF (v.set t a)) (heldZ (forgetZ z t) t (ofP a a).1 (ofP a a).2) ∧ InV (v.set t a) := by
  rw [ofP_one ha]
  unfold In at ha
  have c := has_forget h hl hv hp (x := (t : Int)) (b := a) ⟨by omega, by omega⟩ ha
  rw [Int.toNat_natCast] at c
  have ex : vF (v.set t a) ((t : Int) + 1).toNat = a := by rw [vF_set (by omega), if_pos (by omega)]
  have d := has_held c.1 c.2.1 (x := (t : Int)) (lo := a) (hi := a) ⟨by omega, by omega⟩ (by rw [ex]; omega) (by rw [ex]; omega) (by omega) (by omega)
  exact ⟨d.1, d.2, c.2.2⟩
theorem row_has {a b c : Int} (ha : In a) (hb : In b) (hc : In c) : Gd 3 (rowZ [a, b, c] 3) ∧ Pt 3 (vF [a, b, c]) (rowZ [a, b, c] 3) := by
  have g0 : Gd 3 (zerosZ (3 : Nat)) := zeros_gd (by omega)
  have iv0 : InV [(0 : Int), 0, 0] := fun x hx => by simp at hx; omega
  have p0 : Pt 3 (vF [(0 : Int), 0, 0]) (zerosZ (3 : Nat)) := by
    refine ⟨rfl, fun i j hi hj => ?_⟩
    rw [zeros_g]
    have e : ∀ i, i ≤ 3 → vF [(0 : Int), 0, 0] i = 0 := fun i hi => by
      rcases (show i = 0 ∨ i = 1 ∨ i = 2 ∨ i = 3 by omega) with rfl | rfl | rfl | rfl <;> rfl
    show vF _ i - vF _ j ≤ 0
    rw [e i hi, e j hj]; omega
  have s1 := row_step g0 rfl iv0 p0 (t := 0) (by omega) ha
  have s2 := row_step s1.1 rfl s1.2.2 s1.2.1 (t := 1) (by omega) hb
  have s3 := row_step s2.1 rfl s2.2.2 s2.2.1 (t := 2) (by omega) hc
  exact ⟨s3.1, s3.2.1⟩
theorem two_has {a0 a1 a2 b0 b1 b2 : Int} (h0 : In a0) (h1 : In a1) (h2 : In a2) (k0 : In b0) (k1 : In b1) (k2 : In b2) :
    Gd 3 (twoZ [a0, a1, a2] [b0, b1, b2]) ∧ Pt 3 (vF [a0, a1, a2]) (twoZ [a0, a1, a2] [b0, b1, b2]) ∧ Pt 3 (vF [b0, b1, b2]) (twoZ [a0, a1, a2] [b0, b1, b2]) := by
  have ra := row_has h0 h1 h2
  have rb := row_has k0 k1 k2
  exact ⟨join_gd ra.1 rb.1, join_pt1 ra.1 rb.1 ra.2, join_pt2 ra.1 rb.1 rb.2⟩

theorem itvs_get {z : Zo} {t i : Nat} (h : i < t) : (itvsZ z t).getD (i * 2) 0 = (itvZ z i).1 ∧ (itvsZ z t).getD (i * 2 + 1) 0 = (itvZ z i).2 := by
  induction t with
  | zero => omega
  | succ t ih =>
    have hl : ∀ t, (itvsZ z t).length = t * 2 := fun t => by
      induction t with
      | zero => rfl
      | succ t ih => rw [itvsZ, List.length_append, ih]; simp; omega
    rw [itvsZ, List.getD_eq_getElem?_getD, List.getD_eq_getElem?_getD]
    by_cases e : i = t
    · subst e
      rw [List.getElem?_append_right (by rw [hl]; omega), List.getElem?_append_right (by rw [hl]; omega), hl, show i * 2 - i * 2 = 0 by omega, show i * 2 + 1 - i * 2 = 1 by omega]
      exact ⟨rfl, rfl⟩
    · rw [List.getElem?_append_left (by rw [hl]; omega), List.getElem?_append_left (by rw [hl]; omega), ← List.getD_eq_getElem?_getD, ← List.getD_eq_getElem?_getD]
      exact ih (by omega)
end Go.Proofs.Ytgmciihlmgeecaa.Fn
