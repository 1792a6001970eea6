import Derived.Test.YtgmciihlmgeecaaZActs
/- What the laws of zones need, in plain mathematics. Conditions: those that each lemma names. -/
namespace Go.Proofs.Ytgmciihlmgeecaa.Zm
open Go Go.RowKit
set_option linter.unusedVariables false

section
variable {n : Nat} {z w : Zo} {P P' : Mx → Prop}

theorem Rep.within (h : Rep n P z) (h' : Rep n P' w) (hs : ∀ m, Clo n m → P m → P' m) : withinZ z w = true := by
  rw [within_iff h.1 h'.1]
  cases hb : z.2.1 with
  | true => exact .inl rfl
  | false =>
    have p : P (g z.2.2) := (h.2.2 hb _ (h.1.clo hb)).2 (Lem.refl _ _)
    have p' := hs _ (h.1.clo hb) p
    have nb := h'.not_none (h.1.clo hb) p'
    exact .inr ⟨rfl, nb, (h'.2.2 nb _ (h.1.clo hb)).1 p'⟩

def actP (x y b : Int) (m : Mx) : Prop :=
  IntKind.i64.wrap ((IntKind.u64.wrap x).tmod 4) ≠ IntKind.i64.wrap (IntKind.i64.wrap ((IntKind.u64.wrap y).tmod 5) - 1) →
    m (IntKind.i64.wrap ((IntKind.u64.wrap x).tmod 4) + 1).toNat (IntKind.i64.wrap (IntKind.i64.wrap ((IntKind.u64.wrap y).tmod 5) - 1) + 1).toNat ≤ max (actB b) (-1099511627776)
theorem boundA_rep (h : Rep 4 P z) (x y b : Int) : Rep 4 (fun m => P m ∧ actP x y b m) (boundA z x y b) := by
  have hx := mod_in (a := x) (m := 4) (by omega) (by omega)
  have hy := mod_in (a := y) (m := 5) (by omega) (by omega)
  have wy : IntKind.i64.wrap (IntKind.i64.wrap ((IntKind.u64.wrap y).tmod 5) - 1) = IntKind.i64.wrap ((IntKind.u64.wrap y).tmod 5) - 1 := IntWalk.i64_in _ ⟨by omega, by omega⟩
  unfold boundA
  split
  · rename_i e
    exact h.of fun m hm => ⟨fun hp => ⟨hp, fun ne => absurd e ne⟩, fun hp => hp.1⟩
  · rename_i e
    have r := bound_rep h (x := IntKind.i64.wrap ((IntKind.u64.wrap x).tmod 4)) (y := IntKind.i64.wrap (IntKind.i64.wrap ((IntKind.u64.wrap y).tmod 5) - 1)) (b := actB b) (by omega) (by omega)
    exact r.of fun m hm => ⟨fun hp => ⟨hp.1, fun _ => hp.2⟩, fun hp => ⟨hp.1, hp.2 e⟩⟩

/-- What a bound asks. -/
def bdP (i j : Nat) (b : Int) (m : Mx) : Prop := m i j ≤ b
theorem bound_repI (h : Rep n P z) {x y b : Int} {i j : Nat} (hx : x = (i : Int) - 1) (hy : y = (j : Int) - 1) (hi : i ≤ n) (hj : j ≤ n) (hb : -1099511627776 ≤ b) : Rep n (fun m => P m ∧ m i j ≤ b) (boundZ z x y b) := by
  have r := bound_rep h (x := x) (y := y) (b := b) (by omega) (by omega)
  rw [show (x + 1).toNat = i by omega, show (y + 1).toNat = j by omega, show max b (-1099511627776) = b by omega] at r
  exact r
theorem Rep.no (h : Rep n P z) (hs : ∀ m, Clo n m → P m → False) : z.2.1 = true := by
  cases hb : z.2.1 with
  | true => rfl
  | false => exact (hs _ (h.1.clo hb) ((h.2.2 hb _ (h.1.clo hb)).2 (Lem.refl _ _))).elim
theorem Rep.self (h : Rep n P z) (hb : z.2.1 = false) : P (g z.2.2) := (h.2.2 hb _ (h.1.clo hb)).2 (Lem.refl _ _)
end


/-! ### Chains -/
section
variable {z : Zo}
/-- Moved by nought nothing changes. -/
theorem mov_zero {n : Nat} (h : Gd n z) {x : Int} (hx : 0 ≤ x ∧ x < n) : copyZ z x x 0 = z := by
  cases hb : z.2.1 with
  | true => exact copyZ_none hb
  | false =>
    refine (mov_rep h hb hx).uniq h.rep fun m hm => ?_
    have r2 : (x + 1).toNat ≤ n := by omega
    rw [clamp_id (by omega) (by omega)]
    generalize (x + 1).toNat = r at *
    constructor
    · rintro ⟨h1, h2, h3, h4⟩
      refine ⟨hb, fun i j hi hj => ?_⟩
      by_cases e1 : i = r
      · subst e1
        by_cases e2 : j = i
        · subst e2; rw [h.diag hb j hj]; exact h3
        · have := (h2 j hj e2).1; omega
      · by_cases e2 : j = r
        · subst e2; have := (h2 i hi e1).2; omega
        · exact h1 i j hi hj e1 e2
    · rintro ⟨_, hl⟩
      refine ⟨fun i j hi hj _ _ => hl i j hi hj, fun i hi e => ⟨by have := hl r i r2 hi; omega, by have := hl i r hi r2; omega⟩, by have := hl r r r2 r2; rw [h.diag hb r r2] at this; exact this, fun i h1 hi => ?_⟩
      have o := h.own hb i h1 hi
      have a := hl i 0 hi (by omega)
      have b := hl 0 i (by omega) hi
      omega

/-- Neighbours apart by so much. -/
def chP (d : Nat → Int) (t : Nat) (m : Mx) : Prop :=
  ((∀ i, i ≤ 6 → m i i ≤ 0) ∧ Own 6 m) ∧ ∀ j, j < t → m (j + 2) (j + 1) ≤ d j ∧ m (j + 1) (j + 2) ≤ - d j
/-- The numbers along the chain, from the first one on. -/
def along (v0 : Int) (d : Nat → Int) : Nat → Int
  | 0 => v0
  | t + 1 => along v0 d t + d t

theorem along_le (v0 : Int) {d : Nat → Int} (hd : ∀ j, -999 ≤ d j ∧ d j ≤ 999) (t : Nat) : v0 - 999 * t ≤ along v0 d t ∧ along v0 d t ≤ v0 + 999 * t := by
  induction t with
  | zero => simp [along]
  | succ t ih =>
    have := hd t
    rw [along]
    omega

theorem ch_step {d : Nat → Int} {t : Nat} (ht : t < 5) (hd : -999 ≤ d t ∧ d t ≤ 999) (h : Rep 6 (chP d t) z) : Rep 6 (chP d (t + 1)) (boundZ (boundZ z ((t : Int) + 1) t (d t)) t ((t : Int) + 1) (- d t)) := by
  have r1 := bound_repI h (x := (t : Int) + 1) (y := t) (b := d t) (i := t + 2) (j := t + 1) (by omega) (by omega) (by omega) (by omega) (by omega)
  have r2 := bound_repI r1 (x := (t : Int)) (y := (t : Int) + 1) (b := - d t) (i := t + 1) (j := t + 2) (by omega) (by omega) (by omega) (by omega) (by omega)
  refine r2.of fun m hm => ?_
  constructor
  · rintro ⟨⟨⟨h1, h2⟩, h3⟩, h4⟩
    refine ⟨h1, fun j hj => ?_⟩
    by_cases e : j = t
    · subst e; exact ⟨h3, h4⟩
    · exact h2 j (by omega)
  · rintro ⟨h1, h2⟩
    exact ⟨⟨⟨h1, fun j hj => h2 j (by omega)⟩, (h2 t (by omega)).1⟩, (h2 t (by omega)).2⟩

/-- Along a chain bounds add up. -/
theorem ch_up {d : Nat → Int} {m : Mx} (hm : Clo 6 m) (hp : chP d 5 m) (v0 : Int) (k : Nat) : ∀ j, j + k ≤ 5 → m (j + k + 1) (j + 1) ≤ along v0 d (j + k) - along v0 d j ∧ m (j + 1) (j + k + 1) ≤ along v0 d j - along v0 d (j + k) := by
  induction k with
  | zero =>
    intro j hj
    have := hp.1.1 (j + 1) (by omega)
    simp only [Nat.add_zero]
    omega
  | succ k ih =>
    intro j hj
    have a := ih j (by omega)
    have s := hp.2 (j + k) (by omega)
    have t1 := hm.2 (j + k + 2) (j + 1) (j + k + 1) (by omega) (by omega) (by omega)
    have t2 := hm.2 (j + 1) (j + k + 2) (j + k + 1) (by omega) (by omega) (by omega)
    rw [show j + (k + 1) + 1 = j + k + 2 by omega, show j + (k + 1) = j + k + 1 by omega, along]
    omega
theorem ch_le {d : Nat → Int} {m : Mx} (hm : Clo 6 m) (hp : chP d 5 m) (v0 : Int) {i j : Nat} (hi : i ≤ 5) (hj : j ≤ 5) : m (i + 1) (j + 1) ≤ along v0 d i - along v0 d j := by
  by_cases e : j ≤ i
  · have := (ch_up hm hp v0 (i - j) j (by omega)).1
    rw [show j + (i - j) = i by omega] at this
    exact this
  · have := (ch_up hm hp v0 (j - i) i (by omega)).2
    rw [show i + (j - i) = j by omega] at this
    exact this
theorem ch_eq {d : Nat → Int} {m : Mx} (hm : Clo 6 m) (hp : chP d 5 m) (v0 : Int) {i j : Nat} (hi : i ≤ 5) (hj : j ≤ 5) : m (i + 1) (j + 1) = along v0 d i - along v0 d j := by
  have a := ch_le hm hp v0 hi hj
  have b := ch_le hm hp v0 hj hi
  have c := hm.opp (i := i + 1) (j := j + 1) (by omega) (by omega)
  omega
/-- Numbers along the chain, that much beside the first one. -/
def chPt (v0 c : Int) (d : Nat → Int) : Nat → Int
  | 0 => 0
  | t + 1 => c + along v0 d t - v0
theorem chPt_in (v0 : Int) {c : Int} (hc : -1000 ≤ c ∧ c ≤ 1000) {d : Nat → Int} (hd : ∀ j, -999 ≤ d j ∧ d j ≤ 999) : InR 6 (chPt v0 c d) := by
  refine ⟨rfl, fun i h1 h6 => ?_⟩
  obtain ⟨t, rfl⟩ : ∃ t, i = t + 1 := ⟨i - 1, by omega⟩
  have := along_le v0 hd t
  show _ ≤ c + along v0 d t - v0 ∧ c + along v0 d t - v0 ≤ _
  omega
theorem chPt_P (v0 : Int) {c : Int} (hc : -1000 ≤ c ∧ c ≤ 1000) {d : Nat → Int} (hd : ∀ j, -999 ≤ d j ∧ d j ≤ 999) (t : Nat) : chP d t (ptM (chPt v0 c d)) := by
  refine ⟨⟨fun i _ => by unfold ptM; omega, ptM_own (chPt_in v0 hc hd)⟩, fun j _ => ?_⟩
  have e : along v0 d (j + 1) = along v0 d j + d j := rfl
  show (c + along v0 d (j + 1) - v0) - (c + along v0 d j - v0) ≤ d j ∧ (c + along v0 d j - v0) - (c + along v0 d (j + 1) - v0) ≤ - d j
  omega
end
end Go.Proofs.Ytgmciihlmgeecaa.Zm
