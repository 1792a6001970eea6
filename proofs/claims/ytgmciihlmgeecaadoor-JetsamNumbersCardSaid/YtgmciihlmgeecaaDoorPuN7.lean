import Derived.Test.YtgmciihlmgeecaaDoorPuN6
/- Zones of three variables, by their bounds. Plain laws. -/
namespace Go.Proofs.YtgmciihlmgeecaaDoor.Fn
open Go Go.RowKit Go.Proofs.YtgmciihlmgeecaaDoor.Mt Go.Proofs.YtgmciihlmgeecaaDoor.Zm
set_option linter.unusedVariables false
set_option linter.unusedSimpArgs false

section
variable {n : Nat} {z w : Zo} {P P' : Mx → Prop}
theorem bound_repI (h : Rep n P z) {x y b : Int} {i j : Nat} (hx : x = (i : Int) - 1) (hy : y = (j : Int) - 1) (hi : i ≤ n) (hj : j ≤ n) (hb : -1099511627776 ≤ b) : Rep n (fun m => P m ∧ m i j ≤ b) (boundZ z x y b) := by
  have r := bound_rep h (x := x) (y := y) (b := b) (by omega) (by omega)
  rw [show (x + 1).toNat = i by omega, show (y + 1).toNat = j by omega, show max b (-1099511627776) = b by omega] at r
  exact r
theorem wrap_neg {a : Int} (h : -9223372036854775807 ≤ a ∧ a ≤ 9223372036854775807) : wrap64 (-a) = -a := wrap_in (by omega) (by omega)
/-- A variable is one of an Itv. -/
theorem held_rep (h : Rep n P z) {x lo hi : Int} {i : Nat} (hx : x = (i : Int) - 1) (h1 : 1 ≤ i) (hi' : i ≤ n) (hl : lo ≤ hi) (h2 : -1099511627776 ≤ hi) (h3 : lo ≤ 1099511627776) (h4 : -1099511627776 ≤ lo) : Rep n (fun m => (P m ∧ m i 0 ≤ hi) ∧ m 0 i ≤ -lo) (heldZ z x lo hi) := by
  have hn := h.1.hn
  unfold heldZ
  rw [if_neg (by omega), if_neg (by omega), wrap_neg (by omega)]
  exact bound_repI (bound_repI h hx (j := 0) (by omega) hi' (by omega) h2) (i := 0) (by omega) hx (by omega) hi' (by omega)
theorem rep_within (h : Rep n P z) (h' : Rep n P' w) (hs : ∀ m, Clo n m → P m → P' m) : withinZ z w = true := by
  rw [Zm.within_iff h.1 h'.1]
  cases hb : z.2.1 with
  | true => exact .inl rfl
  | false =>
    have p : P (g z.2.2) := (h.2.2 hb _ (h.1.clo hb)).2 (Lem.refl _ _)
    have p' := hs _ (h.1.clo hb) p
    cases hw : w.2.1 with
    | true => exact absurd p' (h'.2.1 hw _ (h.1.clo hb))
    | false => exact .inr ⟨rfl, rfl, (h'.2.2 hw _ (h.1.clo hb)).1 p'⟩
end
/-- Four by four. -/
def mx4 (a01 a02 a03 a10 a12 a13 a20 a21 a23 a30 a31 a32 : Int) : Mx := fun i j => match i, j with
  | 0, 1 => a01
  | 0, 2 => a02
  | 0, 3 => a03
  | 1, 0 => a10
  | 1, 2 => a12
  | 1, 3 => a13
  | 2, 0 => a20
  | 2, 1 => a21
  | 2, 3 => a23
  | 3, 0 => a30
  | 3, 1 => a31
  | 3, 2 => a32
  | _, _ => 0
theorem le4 {i : Nat} (h : i ≤ 3) : i = 0 ∨ i = 1 ∨ i = 2 ∨ i = 3 := by omega
theorem mx4_clo {a01 a02 a03 a10 a12 a13 a20 a21 a23 a30 a31 a32 : Int} (h : 0 ≤ a01 + a10 ∧ 0 ≤ a02 + a20 ∧ 0 ≤ a03 + a30 ∧ 0 ≤ a12 + a21 ∧ 0 ≤ a13 + a31 ∧ 0 ≤ a23 + a32 ∧ a01 ≤ a02 + a21 ∧ a01 ≤ a03 + a31 ∧ a02 ≤ a01 + a12 ∧ a02 ≤ a03 + a32 ∧ a03 ≤ a01 + a13 ∧ a03 ≤ a02 + a23 ∧ a10 ≤ a12 + a20 ∧ a10 ≤ a13 + a30 ∧ a12 ≤ a10 + a02 ∧ a12 ≤ a13 + a32 ∧ a13 ≤ a10 + a03 ∧ a13 ≤ a12 + a23 ∧ a20 ≤ a21 + a10 ∧ a20 ≤ a23 + a30 ∧ a21 ≤ a20 + a01 ∧ a21 ≤ a23 + a31 ∧ a23 ≤ a20 + a03 ∧ a23 ≤ a21 + a13 ∧ a30 ≤ a31 + a10 ∧ a30 ≤ a32 + a20 ∧ a31 ≤ a30 + a01 ∧ a31 ≤ a32 + a21 ∧ a32 ≤ a30 + a02 ∧ a32 ≤ a31 + a12) : Clo 3 (mx4 a01 a02 a03 a10 a12 a13 a20 a21 a23 a30 a31 a32) := by
  refine ⟨fun i hi => ?_, fun i j k hi hj hk => ?_⟩
  · rcases le4 hi with rfl | rfl | rfl | rfl <;> simp only [mx4] <;> omega
  · rcases le4 hi with rfl | rfl | rfl | rfl <;> rcases le4 hj with rfl | rfl | rfl | rfl <;> rcases le4 hk with rfl | rfl | rfl | rfl <;> simp only [mx4] <;> omega
theorem own3 {m : Mx} : Own 3 m ↔ (m 1 0 ≤ 2147483647 ∧ m 0 1 ≤ 2147483648) ∧ (m 2 0 ≤ 2147483647 ∧ m 0 2 ≤ 2147483648) ∧ (m 3 0 ≤ 2147483647 ∧ m 0 3 ≤ 2147483648) := by
  constructor
  · intro h
    exact ⟨h 1 (by omega) (by omega), h 2 (by omega) (by omega), h 3 (by omega) (by omega)⟩
  · rintro ⟨a, b, c⟩ i h1 h2
    rcases (show i = 1 ∨ i = 2 ∨ i = 3 by omega) with rfl | rfl | rfl
    · exact a
    · exact b
    · exact c
/-- A copy, by its bounds. -/
theorem copy_eq {u : Zo} {c c' : Mx} (R : Gd 3 u) (nb : u.2.1 = false) (e : ∀ i j, i ≤ 3 → j ≤ 3 → g u.2.2 i j = c i j) {x y b : Int} (hx : 0 ≤ x ∧ x < 3) (hy : -1 ≤ y ∧ y < 3) (hxy : x ≠ y) (hb : -1099511627776 ≤ b ∧ b ≤ 1099511627776) (hc : Clo 3 c') (hs : ∀ m, Clo 3 m → (copP 3 c (x + 1).toNat (y + 1).toNat b m ↔ Lem 3 m c')) : Gd 3 (copyZ u x y b) ∧ (copyZ u x y b).2.1 = false ∧ ∀ i j, i ≤ 3 → j ≤ 3 → g (copyZ u x y b).2.2 i j = c' i j := by
  have r := copy_rep R nb (x := x) (y := y) (b := b) hx hy hxy
  rw [clamp_id hb.1 hb.2] at r
  refine ⟨r.1, r.eq hc fun m hm => Iff.trans ?_ (hs m hm)⟩
  unfold copP
  constructor
  · rintro ⟨h1, h2⟩
    exact ⟨fun i j hi hj ni nj => by rw [← e i j hi hj]; exact h1 i j hi hj ni nj, h2⟩
  · rintro ⟨h1, h2⟩
    exact ⟨fun i j hi hj ni nj => by rw [e i j hi hj]; exact h1 i j hi hj ni nj, h2⟩
/-- A variable held, by its bounds. -/
theorem held_eq {u : Zo} {c c' : Mx} (R : Gd 3 u) (nb : u.2.1 = false) (e : ∀ i j, i ≤ 3 → j ≤ 3 → g u.2.2 i j = c i j) {x lo hi : Int} {k : Nat} (hx : x = (k : Int) - 1) (h1 : 1 ≤ k) (h2 : k ≤ 3) (hl : lo ≤ hi) (h3 : -1099511627776 ≤ lo) (h4 : hi ≤ 1099511627776) (hc : Clo 3 c') (hs : ∀ m, Clo 3 m → (((Lem 3 m c ∧ m k 0 ≤ hi) ∧ m 0 k ≤ -lo) ↔ Lem 3 m c')) : Gd 3 (heldZ u x lo hi) ∧ (heldZ u x lo hi).2.1 = false ∧ ∀ i j, i ≤ 3 → j ≤ 3 → g (heldZ u x lo hi).2.2 i j = c' i j := by
  have r := held_rep R.rep (x := x) (lo := lo) (hi := hi) (i := k) hx h1 h2 hl (by omega) (by omega) h3
  refine ⟨r.1, r.eq hc fun m hm => Iff.trans ?_ (hs m hm)⟩
  have q : (u.2.1 = false ∧ Lem 3 m (g u.2.2)) ↔ Lem 3 m c := by
    constructor
    · rintro ⟨_, h⟩ i j hi hj; rw [← e i j hi hj]; exact h i j hi hj
    · intro h; exact ⟨nb, fun i j hi hj => by rw [e i j hi hj]; exact h i j hi hj⟩
  constructor
  · rintro ⟨⟨a, b⟩, d⟩; exact ⟨⟨q.1 a, b⟩, d⟩
  · rintro ⟨⟨a, b⟩, d⟩; exact ⟨⟨q.2 a, b⟩, d⟩
theorem top3_forget : forgetZ (topZ 3) 0 = topZ 3 := by kernel_rfl
def c1 (l h d e : Int) : Mx := mx4 (-l) (2147483648) (2147483648) (h) (h + 2147483648) (h + 2147483648) (2147483647) (2147483647 - l) (4294967295) (2147483647) (2147483647 - l) (4294967295)
theorem c1_clo {l h d e : Int} (hl : -100000 ≤ l ∧ l ≤ 100000) (hh : l ≤ h ∧ h ≤ l + 255) (hd : -32768 ≤ d ∧ d ≤ 32767) (he : -32768 ≤ e ∧ e ≤ 32767) : Clo 3 (c1 l h d e) := by
  unfold c1
  exact mx4_clo (by and_intros <;> omega)
def c2 (l h d e : Int) : Mx := mx4 (-l) (-(l + d)) (2147483648) (h) (-d) (h + 2147483648) (h + d) (d) (h + d + 2147483648) (2147483647) (2147483647 - l) (2147483647 - (l + d))
theorem c2_clo {l h d e : Int} (hl : -100000 ≤ l ∧ l ≤ 100000) (hh : l ≤ h ∧ h ≤ l + 255) (hd : -32768 ≤ d ∧ d ≤ 32767) (he : -32768 ≤ e ∧ e ≤ 32767) : Clo 3 (c2 l h d e) := by
  unfold c2
  exact mx4_clo (by and_intros <;> omega)
def c3 (l h d e : Int) : Mx := mx4 (-l) (-(l + d)) (-(l + d + e)) (h) (-d) (-(d + e)) (h + d) (d) (-e) (h + d + e) (d + e) (e)
theorem c3_clo {l h d e : Int} (hl : -100000 ≤ l ∧ l ≤ 100000) (hh : l ≤ h ∧ h ≤ l + 255) (hd : -32768 ≤ d ∧ d ≤ 32767) (he : -32768 ≤ e ∧ e ≤ 32767) : Clo 3 (c3 l h d e) := by
  unfold c3
  exact mx4_clo (by and_intros <;> omega)
def c4 (l h d e : Int) : Mx := mx4 (-h) (-(h + d)) (-(h + d + e)) (h) (-d) (-(d + e)) (h + d) (d) (-e) (h + d + e) (d + e) (e)
theorem c4_clo {l h d e : Int} (hl : -100000 ≤ l ∧ l ≤ 100000) (hh : l ≤ h ∧ h ≤ l + 255) (hd : -32768 ≤ d ∧ d ≤ 32767) (he : -32768 ≤ e ∧ e ≤ 32767) : Clo 3 (c4 l h d e) := by
  unfold c4
  exact mx4_clo (by and_intros <;> omega)
def c0 : Mx := mx4 (2147483648) (2147483648) (2147483648) (2147483647) (4294967295) (4294967295) (2147483647) (4294967295) (4294967295) (2147483647) (4294967295) (4294967295)
theorem top3_g : ∀ i j, i ≤ 3 → j ≤ 3 → g (topZ 3).2.2 i j = c0 i j := by
  intro i j hi hj
  rcases le4 hi with rfl | rfl | rfl | rfl <;> rcases le4 hj with rfl | rfl | rfl | rfl <;> kernel_rfl
theorem h01 {l h d e : Int} (hl : -100000 ≤ l ∧ l ≤ 100000) (hh : l ≤ h ∧ h ≤ l + 255) (hd : -32768 ≤ d ∧ d ≤ 32767) (he : -32768 ≤ e ∧ e ≤ 32767) (m : Mx) (hm : Clo 3 m) : ((Lem 3 m (c0) ∧ m 1 0 ≤ h) ∧ m 0 1 ≤ -(l)) ↔ Lem 3 m (c1 l h d e) := by
  have t120 := hm.2 1 2 0 (by omega) (by omega) (by omega)
  have t130 := hm.2 1 3 0 (by omega) (by omega) (by omega)
  have t210 := hm.2 2 1 0 (by omega) (by omega) (by omega)
  have t310 := hm.2 3 1 0 (by omega) (by omega) (by omega)
  constructor
  · rintro ⟨⟨q, q1⟩, q2⟩ i j hi hj
    have q00 := q 0 0 (by omega) (by omega)
    have q01 := q 0 1 (by omega) (by omega)
    have q02 := q 0 2 (by omega) (by omega)
    have q03 := q 0 3 (by omega) (by omega)
    have q10 := q 1 0 (by omega) (by omega)
    have q11 := q 1 1 (by omega) (by omega)
    have q12 := q 1 2 (by omega) (by omega)
    have q13 := q 1 3 (by omega) (by omega)
    have q20 := q 2 0 (by omega) (by omega)
    have q21 := q 2 1 (by omega) (by omega)
    have q22 := q 2 2 (by omega) (by omega)
    have q23 := q 2 3 (by omega) (by omega)
    have q30 := q 3 0 (by omega) (by omega)
    have q31 := q 3 1 (by omega) (by omega)
    have q32 := q 3 2 (by omega) (by omega)
    have q33 := q 3 3 (by omega) (by omega)
    simp only [c0, mx4] at q00 q01 q02 q03 q10 q11 q12 q13 q20 q21 q22 q23 q30 q31 q32 q33
    rcases le4 hi with rfl | rfl | rfl | rfl <;> rcases le4 hj with rfl | rfl | rfl | rfl <;> simp only [c1, mx4] <;> omega
  · intro q
    have q00 := q 0 0 (by omega) (by omega)
    have q01 := q 0 1 (by omega) (by omega)
    have q02 := q 0 2 (by omega) (by omega)
    have q03 := q 0 3 (by omega) (by omega)
    have q10 := q 1 0 (by omega) (by omega)
    have q11 := q 1 1 (by omega) (by omega)
    have q12 := q 1 2 (by omega) (by omega)
    have q13 := q 1 3 (by omega) (by omega)
    have q20 := q 2 0 (by omega) (by omega)
    have q21 := q 2 1 (by omega) (by omega)
    have q22 := q 2 2 (by omega) (by omega)
    have q23 := q 2 3 (by omega) (by omega)
    have q30 := q 3 0 (by omega) (by omega)
    have q31 := q 3 1 (by omega) (by omega)
    have q32 := q 3 2 (by omega) (by omega)
    have q33 := q 3 3 (by omega) (by omega)
    simp only [c1, mx4] at q00 q01 q02 q03 q10 q11 q12 q13 q20 q21 q22 q23 q30 q31 q32 q33
    refine ⟨⟨fun i j hi hj => ?_, by omega⟩, by omega⟩
    rcases le4 hi with rfl | rfl | rfl | rfl <;> rcases le4 hj with rfl | rfl | rfl | rfl <;> simp only [c0, mx4] <;> omega
theorem h34 {l h d e : Int} (hl : -100000 ≤ l ∧ l ≤ 100000) (hh : l ≤ h ∧ h ≤ l + 255) (hd : -32768 ≤ d ∧ d ≤ 32767) (he : -32768 ≤ e ∧ e ≤ 32767) (m : Mx) (hm : Clo 3 m) : ((Lem 3 m (c3 l h d e) ∧ m 3 0 ≤ h + d + e) ∧ m 0 3 ≤ -(h + d + e)) ↔ Lem 3 m (c4 l h d e) := by
  have t013 := hm.2 0 1 3 (by omega) (by omega) (by omega)
  have t023 := hm.2 0 2 3 (by omega) (by omega) (by omega)
  have t103 := hm.2 1 0 3 (by omega) (by omega) (by omega)
  have t203 := hm.2 2 0 3 (by omega) (by omega) (by omega)
  constructor
  · rintro ⟨⟨q, q1⟩, q2⟩ i j hi hj
    have q00 := q 0 0 (by omega) (by omega)
    have q01 := q 0 1 (by omega) (by omega)
    have q02 := q 0 2 (by omega) (by omega)
    have q03 := q 0 3 (by omega) (by omega)
    have q10 := q 1 0 (by omega) (by omega)
    have q11 := q 1 1 (by omega) (by omega)
    have q12 := q 1 2 (by omega) (by omega)
    have q13 := q 1 3 (by omega) (by omega)
    have q20 := q 2 0 (by omega) (by omega)
    have q21 := q 2 1 (by omega) (by omega)
    have q22 := q 2 2 (by omega) (by omega)
    have q23 := q 2 3 (by omega) (by omega)
    have q30 := q 3 0 (by omega) (by omega)
    have q31 := q 3 1 (by omega) (by omega)
    have q32 := q 3 2 (by omega) (by omega)
    have q33 := q 3 3 (by omega) (by omega)
    simp only [c3, mx4] at q00 q01 q02 q03 q10 q11 q12 q13 q20 q21 q22 q23 q30 q31 q32 q33
    rcases le4 hi with rfl | rfl | rfl | rfl <;> rcases le4 hj with rfl | rfl | rfl | rfl <;> simp only [c4, mx4] <;> omega
  · intro q
    have q00 := q 0 0 (by omega) (by omega)
    have q01 := q 0 1 (by omega) (by omega)
    have q02 := q 0 2 (by omega) (by omega)
    have q03 := q 0 3 (by omega) (by omega)
    have q10 := q 1 0 (by omega) (by omega)
    have q11 := q 1 1 (by omega) (by omega)
    have q12 := q 1 2 (by omega) (by omega)
    have q13 := q 1 3 (by omega) (by omega)
    have q20 := q 2 0 (by omega) (by omega)
    have q21 := q 2 1 (by omega) (by omega)
    have q22 := q 2 2 (by omega) (by omega)
    have q23 := q 2 3 (by omega) (by omega)
    have q30 := q 3 0 (by omega) (by omega)
    have q31 := q 3 1 (by omega) (by omega)
    have q32 := q 3 2 (by omega) (by omega)
    have q33 := q 3 3 (by omega) (by omega)
    simp only [c4, mx4] at q00 q01 q02 q03 q10 q11 q12 q13 q20 q21 q22 q23 q30 q31 q32 q33
    refine ⟨⟨fun i j hi hj => ?_, by omega⟩, by omega⟩
    rcases le4 hi with rfl | rfl | rfl | rfl <;> rcases le4 hj with rfl | rfl | rfl | rfl <;> simp only [c3, mx4] <;> omega
theorem p12 {l h d e : Int} (hl : -100000 ≤ l ∧ l ≤ 100000) (hh : l ≤ h ∧ h ≤ l + 255) (hd : -32768 ≤ d ∧ d ≤ 32767) (he : -32768 ≤ e ∧ e ≤ 32767) (m : Mx) (hm : Clo 3 m) : copP 3 (c1 l h d e) 2 1 d m ↔ Lem 3 m (c2 l h d e) := by
  have t201 := hm.2 2 0 1 (by omega) (by omega) (by omega)
  have t231 := hm.2 2 3 1 (by omega) (by omega) (by omega)
  have t021 := hm.2 0 2 1 (by omega) (by omega) (by omega)
  have t321 := hm.2 3 2 1 (by omega) (by omega) (by omega)
  unfold copP
  rw [own3]
  constructor
  · rintro ⟨q, p1, p2, p3⟩ i j hi hj
    have q00 := q 0 0 (by omega) (by omega) (by omega) (by omega)
    have q01 := q 0 1 (by omega) (by omega) (by omega) (by omega)
    have q03 := q 0 3 (by omega) (by omega) (by omega) (by omega)
    have q10 := q 1 0 (by omega) (by omega) (by omega) (by omega)
    have q11 := q 1 1 (by omega) (by omega) (by omega) (by omega)
    have q13 := q 1 3 (by omega) (by omega) (by omega) (by omega)
    have q30 := q 3 0 (by omega) (by omega) (by omega) (by omega)
    have q31 := q 3 1 (by omega) (by omega) (by omega) (by omega)
    have q33 := q 3 3 (by omega) (by omega) (by omega) (by omega)
    simp only [c1, mx4] at q00 q01 q03 q10 q11 q13 q30 q31 q33
    rcases le4 hi with rfl | rfl | rfl | rfl <;> rcases le4 hj with rfl | rfl | rfl | rfl <;> simp only [c2, mx4] <;> omega
  · intro q
    have q00 := q 0 0 (by omega) (by omega)
    have q01 := q 0 1 (by omega) (by omega)
    have q02 := q 0 2 (by omega) (by omega)
    have q03 := q 0 3 (by omega) (by omega)
    have q10 := q 1 0 (by omega) (by omega)
    have q11 := q 1 1 (by omega) (by omega)
    have q12 := q 1 2 (by omega) (by omega)
    have q13 := q 1 3 (by omega) (by omega)
    have q20 := q 2 0 (by omega) (by omega)
    have q21 := q 2 1 (by omega) (by omega)
    have q22 := q 2 2 (by omega) (by omega)
    have q23 := q 2 3 (by omega) (by omega)
    have q30 := q 3 0 (by omega) (by omega)
    have q31 := q 3 1 (by omega) (by omega)
    have q32 := q 3 2 (by omega) (by omega)
    have q33 := q 3 3 (by omega) (by omega)
    simp only [c2, mx4] at q00 q01 q02 q03 q10 q11 q12 q13 q20 q21 q22 q23 q30 q31 q32 q33
    refine ⟨fun i j hi hj ni nj => ?_, by omega, by omega, by omega⟩
    rcases le4 hi with rfl | rfl | rfl | rfl <;> rcases le4 hj with rfl | rfl | rfl | rfl <;> first | exact absurd rfl ni | exact absurd rfl nj | (simp only [c1, mx4]; omega)
theorem p23 {l h d e : Int} (hl : -100000 ≤ l ∧ l ≤ 100000) (hh : l ≤ h ∧ h ≤ l + 255) (hd : -32768 ≤ d ∧ d ≤ 32767) (he : -32768 ≤ e ∧ e ≤ 32767) (m : Mx) (hm : Clo 3 m) : copP 3 (c2 l h d e) 3 2 e m ↔ Lem 3 m (c3 l h d e) := by
  have t302 := hm.2 3 0 2 (by omega) (by omega) (by omega)
  have t312 := hm.2 3 1 2 (by omega) (by omega) (by omega)
  have t032 := hm.2 0 3 2 (by omega) (by omega) (by omega)
  have t132 := hm.2 1 3 2 (by omega) (by omega) (by omega)
  unfold copP
  rw [own3]
  constructor
  · rintro ⟨q, p1, p2, p3⟩ i j hi hj
    have q00 := q 0 0 (by omega) (by omega) (by omega) (by omega)
    have q01 := q 0 1 (by omega) (by omega) (by omega) (by omega)
    have q02 := q 0 2 (by omega) (by omega) (by omega) (by omega)
    have q10 := q 1 0 (by omega) (by omega) (by omega) (by omega)
    have q11 := q 1 1 (by omega) (by omega) (by omega) (by omega)
    have q12 := q 1 2 (by omega) (by omega) (by omega) (by omega)
    have q20 := q 2 0 (by omega) (by omega) (by omega) (by omega)
    have q21 := q 2 1 (by omega) (by omega) (by omega) (by omega)
    have q22 := q 2 2 (by omega) (by omega) (by omega) (by omega)
    simp only [c2, mx4] at q00 q01 q02 q10 q11 q12 q20 q21 q22
    rcases le4 hi with rfl | rfl | rfl | rfl <;> rcases le4 hj with rfl | rfl | rfl | rfl <;> simp only [c3, mx4] <;> omega
  · intro q
    have q00 := q 0 0 (by omega) (by omega)
    have q01 := q 0 1 (by omega) (by omega)
    have q02 := q 0 2 (by omega) (by omega)
    have q03 := q 0 3 (by omega) (by omega)
    have q10 := q 1 0 (by omega) (by omega)
    have q11 := q 1 1 (by omega) (by omega)
    have q12 := q 1 2 (by omega) (by omega)
    have q13 := q 1 3 (by omega) (by omega)
    have q20 := q 2 0 (by omega) (by omega)
    have q21 := q 2 1 (by omega) (by omega)
    have q22 := q 2 2 (by omega) (by omega)
    have q23 := q 2 3 (by omega) (by omega)
    have q30 := q 3 0 (by omega) (by omega)
    have q31 := q 3 1 (by omega) (by omega)
    have q32 := q 3 2 (by omega) (by omega)
    have q33 := q 3 3 (by omega) (by omega)
    simp only [c3, mx4] at q00 q01 q02 q03 q10 q11 q12 q13 q20 q21 q22 q23 q30 q31 q32 q33
    refine ⟨fun i j hi hj ni nj => ?_, by omega, by omega, by omega⟩
    rcases le4 hi with rfl | rfl | rfl | rfl <;> rcases le4 hj with rfl | rfl | rfl | rfl <;> first | exact absurd rfl ni | exact absurd rfl nj | (simp only [c2, mx4]; omega)
end Go.Proofs.YtgmciihlmgeecaaDoor.Fn
