import Derived.Test.YtgmciihlmgeecaaDoorPuN7
import Derived.Test.YtgmciihlmgeecaaDoorLex
import Derived.Test.YtgmciihlmgeecaaDoorWLJetsamNumbers
/- JetsamNumbers: the law's function tells true. Conditions: none beyond its arguments' types. -/
namespace Go.Proofs.YtgmciihlmgeecaaDoor.Fn
open Go Go.RowKit Go.Proofs.YtgmciihlmgeecaaDoor.Mt Go.Proofs.YtgmciihlmgeecaaDoor.Zm
set_option linter.unusedVariables false
set_option linter.unusedSimpArgs false

theorem ofP_in {a b : Int} (h1 : -2147483648 ≤ a) (h2 : a ≤ b) (h3 : b ≤ 2147483647) : ofP a b = (a, b) := by
  unfold ofP normP
  rw [if_neg (by omega), show max a (-2147483648) = a by omega, show min b 2147483647 = b by omega]
theorem i64_in' {a : Int} (h : -4398046511104 ≤ a ∧ a ≤ 4398046511104) : IntKind.i64.wrap a = a := i64_id (by omega) (by omega)
theorem capN3 {u : Zo} (h : Gd 3 u) : (capN u.1).toNat = 3 := by rw [h.hn]; rfl
theorem itvs3 {u : Zo} (h : Gd 3 u) (nb : u.2.1 = false) {c : Mx} (e : ∀ i j, i ≤ 3 → j ≤ 3 → g u.2.2 i j = c i j) : itvsZ u 3 = [-c 0 1, c 1 0, -c 0 2, c 2 0, -c 0 3, c 3 0] := by
  show ((([] ++ [(itvZ u 0).1, (itvZ u 0).2]) ++ [(itvZ u 1).1, (itvZ u 1).2]) ++ [(itvZ u 2).1, (itvZ u 2).2] : List Int) = _
  rw [(itv_in h nb (x := 0) (by omega)).1, (itv_in h nb (x := 1) (by omega)).1, (itv_in h nb (x := 2) (by omega)).1]
  rw [← e 0 1 (by omega) (by omega), ← e 0 2 (by omega) (by omega), ← e 0 3 (by omega) (by omega), ← e 1 0 (by omega) (by omega), ← e 2 0 (by omega) (by omega), ← e 3 0 (by omega) (by omega)]
  rfl
theorem right_num {n : Nat} {u : Zo} (h : Gd n u) : rightN u.2.1 (.sl (capN u.1).toNat (ic .i64 (itvsZ u (capN u.1).toNat))) u = true := by
  unfold rightN eqRow
  rw [right_gd h]
  simp
theorem has3 {u : Zo} (h : Gd 3 u) (nb : u.2.1 = false) {c : Mx} (e : ∀ i j, i ≤ 3 → j ≤ 3 → g u.2.2 i j = c i j) {l : List Int} : hasZ u 3 l = true ↔ ∀ i : Nat, i ≤ 3 → (-2147483648 ≤ atP l i ∧ atP l i ≤ 2147483647) ∧ ∀ j : Nat, j ≤ 3 → wrap64 (atP l i - atP l j) ≤ c i j := by
  obtain ⟨n, b, D⟩ := u
  have hn := h.hn
  dsimp only at hn nb e
  subst hn nb
  have q := has_iff (n := ((3 : Nat) : Int)) (D := D) (l := l) h.okN
  rw [show (((3 : Nat) : Int)).toNat = 3 from rfl] at q
  rw [q]
  constructor
  · intro w i hi
    obtain ⟨a, b⟩ := w i (by omega)
    exact ⟨a, fun j hj => by rw [← e i j hi hj]; exact b j (by omega)⟩
  · intro w i hi
    obtain ⟨a, b⟩ := w i (by omega)
    exact ⟨a, fun j hj => by rw [e i j (by omega) (by omega)]; exact b j (by omega)⟩

theorem jn_has {l h d e : Int} (hl : -100000 ≤ l ∧ l ≤ 100000) (hh : l ≤ h ∧ h ≤ l + 255) (hd : -32768 ≤ d ∧ d ≤ 32767) (he : -32768 ≤ e ∧ e ≤ 32767) {u : Zo} (G : Gd 3 u) (nb : u.2.1 = false) (q : ∀ i j, i ≤ 3 → j ≤ 3 → g u.2.2 i j = c3 l h d e i j) : hasZ u 3 [l, l + d, l + d + e] = true := by
  rw [has3 G nb q]
  have at1 : atP [l, l + d, l + d + e] 1 = l := rfl
  have at2 : atP [l, l + d, l + d + e] 2 = l + d := rfl
  have at3 : atP [l, l + d, l + d + e] 3 = l + d + e := rfl
  have at0 : atP [l, l + d, l + d + e] 0 = 0 := rfl
  intro i hi
  refine ⟨?_, fun j hj => ?_⟩
  · rcases le4 hi with rfl | rfl | rfl | rfl
    · show -2147483648 ≤ atP _ 0 ∧ atP _ 0 ≤ _; rw [at0]; omega
    · show -2147483648 ≤ atP _ 1 ∧ atP _ 1 ≤ _; rw [at1]; omega
    · show -2147483648 ≤ atP _ 2 ∧ atP _ 2 ≤ _; rw [at2]; omega
    · show -2147483648 ≤ atP _ 3 ∧ atP _ 3 ≤ _; rw [at3]; omega
  · rcases le4 hi with rfl | rfl | rfl | rfl <;> rcases le4 hj with rfl | rfl | rfl | rfl
    · show wrap64 (atP _ 0 - atP _ 0) ≤ _; rw [at0, Zm.wrap_small (by omega) (by omega)]; simp only [c3, mx4]; omega
    · show wrap64 (atP _ 0 - atP _ 1) ≤ _; rw [at0, at1, Zm.wrap_small (by omega) (by omega)]; simp only [c3, mx4]; omega
    · show wrap64 (atP _ 0 - atP _ 2) ≤ _; rw [at0, at2, Zm.wrap_small (by omega) (by omega)]; simp only [c3, mx4]; omega
    · show wrap64 (atP _ 0 - atP _ 3) ≤ _; rw [at0, at3, Zm.wrap_small (by omega) (by omega)]; simp only [c3, mx4]; omega
    · show wrap64 (atP _ 1 - atP _ 0) ≤ _; rw [at1, at0, Zm.wrap_small (by omega) (by omega)]; simp only [c3, mx4]; omega
    · show wrap64 (atP _ 1 - atP _ 1) ≤ _; rw [at1, Zm.wrap_small (by omega) (by omega)]; simp only [c3, mx4]; omega
    · show wrap64 (atP _ 1 - atP _ 2) ≤ _; rw [at1, at2, Zm.wrap_small (by omega) (by omega)]; simp only [c3, mx4]; omega
    · show wrap64 (atP _ 1 - atP _ 3) ≤ _; rw [at1, at3, Zm.wrap_small (by omega) (by omega)]; simp only [c3, mx4]; omega
    · show wrap64 (atP _ 2 - atP _ 0) ≤ _; rw [at2, at0, Zm.wrap_small (by omega) (by omega)]; simp only [c3, mx4]; omega
    · show wrap64 (atP _ 2 - atP _ 1) ≤ _; rw [at2, at1, Zm.wrap_small (by omega) (by omega)]; simp only [c3, mx4]; omega
    · show wrap64 (atP _ 2 - atP _ 2) ≤ _; rw [at2, Zm.wrap_small (by omega) (by omega)]; simp only [c3, mx4]; omega
    · show wrap64 (atP _ 2 - atP _ 3) ≤ _; rw [at2, at3, Zm.wrap_small (by omega) (by omega)]; simp only [c3, mx4]; omega
    · show wrap64 (atP _ 3 - atP _ 0) ≤ _; rw [at3, at0, Zm.wrap_small (by omega) (by omega)]; simp only [c3, mx4]; omega
    · show wrap64 (atP _ 3 - atP _ 1) ≤ _; rw [at3, at1, Zm.wrap_small (by omega) (by omega)]; simp only [c3, mx4]; omega
    · show wrap64 (atP _ 3 - atP _ 2) ≤ _; rw [at3, at2, Zm.wrap_small (by omega) (by omega)]; simp only [c3, mx4]; omega
    · show wrap64 (atP _ 3 - atP _ 3) ≤ _; rw [at3, Zm.wrap_small (by omega) (by omega)]; simp only [c3, mx4]; omega
theorem jn_hasNot {l h d e : Int} (he : -32768 ≤ e ∧ e ≤ 32767) {u : Zo} (G : Gd 3 u) (nb : u.2.1 = false) (q : ∀ i j, i ≤ 3 → j ≤ 3 → g u.2.2 i j = c3 l h d e i j) : hasZ u 3 [l, l + d, l + d + e + 1] = false := by
  cases w : hasZ u 3 [l, l + d, l + d + e + 1] with
  | false => rfl
  | true =>
    rw [has3 G nb q] at w
    have z := (w 3 (by omega)).2 2 (by omega)
    have z' : wrap64 (l + d + e + 1 - (l + d)) ≤ e := z
    rw [Zm.wrap_small (by omega) (by omega)] at z'
    omega

set_option maxHeartbeats 4000000 in
set_option maxRecDepth 100000 in
theorem f3_pure (a0 a1 a2 a3 : Int) (hs : 0 ≤ a1 ∧ a1 ≤ 255) (hd : -32768 ≤ a2 ∧ a2 ≤ 32767) (he : -32768 ≤ a3 ∧ a3 ≤ 32767) : f3_wp a0 a1 a2 a3 (fun r' => r' = boRet true) := by
  have hl1 := Int.tmod_lt_of_pos (IntKind.i64.wrap a0) (show (0 : Int) < 100000 by omega)
  have hl2 := Int.lt_tmod_of_pos (IntKind.i64.wrap a0) (show (0 : Int) < 100000 by omega)
  unfold f3_wp
  rw [i64_in' (a := a1) (by omega), i64_in' (a := a2) (by omega), i64_in' (a := a3) (by omega)]
  generalize (IntKind.i64.wrap a0).tmod 100000 = l at *
  have hl : -100000 ≤ l ∧ l ≤ 100000 := by omega
  clear hl1 hl2
  rw [i64_in' (a := l + a1) (by omega)]
  obtain ⟨h, hk⟩ : ∃ h, h = l + a1 := ⟨_, rfl⟩
  have hh : l ≤ h ∧ h ≤ l + 255 := by omega
  rw [← hk]
  clear hk
  generalize a2 = d at *
  generalize a3 = e at *
  rw [i64_in' (a := h + d) (by omega), i64_in' (a := h + d + e) (by omega), i64_in' (a := l + d) (by omega), i64_in' (a := l + d + e) (by omega), i64_in' (a := l + d + e + 1) (by omega)]
  rw [map_eqD (D := (topZ 3).2.2) (by kernel_rfl), ofP_in (a := l) (b := h) (by omega) (by omega) (by omega), ofP_in (a := h + d + e) (b := h + d + e) (by omega) (by omega) (by omega), ofP_in (a := l + d + e) (b := h + d + e) (by omega) (by omega) (by omega), ofP_in (a := h) (b := h) (by omega) (by omega) (by omega)]
  have G1 : Gd 3 (topZ 3) := (top_rep (n := 3) (by omega)).1
  have n1 : (topZ 3).2.1 = false := top_none (n := 3) (by omega)
  have e1 := top3_g
  have F1 := top3_forget
  refine letV_j fun u1 h1 => ?_
  rw [h1] at G1 n1 e1 F1 ⊢
  clear h1
  refine letV_j fun u2 _ => ?_
  refine letV_j fun u3 _ => ?_
  refine letV_j fun u4 _ => ?_
  refine letV_j fun u5 h5 => ?_
  obtain rfl : (l, h) = u5 := h5
  refine letV_j fun u6 h6 => ?_
  simp only [Prod.eta] at h6
  rw [F1] at h6
  obtain ⟨G6, n6, e6⟩ := held_eq G1 n1 e1 (x := 0) (lo := l) (hi := h) (k := 1) rfl (by omega) (by omega) (by omega) (by omega) (by omega) (c1_clo hl hh hd he) (h01 hl hh hd he)
  rw [h6] at G6 n6 e6
  clear h6 G1 n1 e1 F1
  have l6 : u6.2.2.length = 49 := G6.len
  have o6 := okSl_itvs (z := u6) (t := (capN u6.1).toNat)
  (repeat ((first | with_reducible apply ck_i | with_reducible apply And.intro); · (first | (simp only [ics]; done) | with_reducible rfl | ((try simp only [ics]); simp [ics, *]; done) | ((try simp only [ics]); simp [ics, *]; omega))))
  refine letV_j fun u10 h10 => ?_
  simp only [map_ic, Prod.eta] at h10
  obtain ⟨G10, n10, e10⟩ := copy_eq G6 n6 e6 (x := 1) (y := 0) (b := d) (by omega) (by omega) (by omega) (by omega) (c2_clo hl hh hd he) (p12 hl hh hd he)
  rw [h10] at G10 n10 e10
  clear h10
  have l10 : u10.2.2.length = 49 := G10.len
  have o10 := okSl_itvs (z := u10) (t := (capN u10.1).toNat)
  (repeat ((first | with_reducible apply ck_i | with_reducible apply And.intro); · (first | (simp only [ics]; done) | with_reducible rfl | ((try simp only [ics]); simp [ics, *]; done) | ((try simp only [ics]); simp [ics, *]; omega))))
  refine letV_j fun u14 h14 => ?_
  simp only [map_ic, Prod.eta] at h14
  obtain ⟨G14, n14, e14⟩ := copy_eq G10 n10 e10 (x := 2) (y := 1) (b := e) (by omega) (by omega) (by omega) (by omega) (c3_clo hl hh hd he) (p23 hl hh hd he)
  rw [h14] at G14 n14 e14
  clear h14
  have l14 : u14.2.2.length = 49 := G14.len
  have o14 := okSl_itvs (z := u14) (t := (capN u14.1).toNat)
  have r14 := right_num G14
  have s14 := itvs3 G14 n14 e14
  rw [show -c3 l h d e 0 1 = l from Int.neg_neg l, show -c3 l h d e 0 2 = l + d from Int.neg_neg (l + d), show -c3 l h d e 0 3 = l + d + e from Int.neg_neg (l + d + e), show c3 l h d e 1 0 = h from rfl, show c3 l h d e 2 0 = h + d from rfl, show c3 l h d e 3 0 = h + d + e from rfl] at s14
  have y14 := jn_has hl hh hd he G14 n14 e14
  have z14 := jn_hasNot he G14 n14 e14
  have c14 := capN3 G14
  (repeat ((first | with_reducible apply ck_i | with_reducible apply And.intro); · (first | (simp only [ics]; done) | with_reducible rfl | ((try simp only [ics]); simp [ics, *]; done) | ((try simp only [ics]); simp [ics, *]; omega))))
  refine letV_j fun u18 h18 => ?_
  obtain rfl : (h + d + e, h + d + e) = u18 := h18
  refine letV_j fun u19 h19 => ?_
  simp only [map_ic, Prod.eta] at h19
  obtain ⟨G19, n19, e19⟩ := held_eq G14 n14 e14 (x := 2) (lo := h + d + e) (hi := h + d + e) (k := 3) rfl (by omega) (by omega) (by omega) (by omega) (by omega) (c4_clo hl hh hd he) (h34 hl hh hd he)
  rw [h19] at G19 n19 e19
  clear h19
  have w19 : withinZ u19 u14 = true := by
    rw [Zm.within_iff G19 G14]
    refine .inr ⟨n19, n14, fun i j hi hj => ?_⟩
    rw [e19 i j hi hj, e14 i j hi hj]
    rcases le4 hi with rfl | rfl | rfl | rfl <;> rcases le4 hj with rfl | rfl | rfl | rfl <;> simp only [c3, c4, mx4] <;> omega
  have l19 : u19.2.2.length = 49 := G19.len
  have o19 := okSl_itvs (z := u19) (t := (capN u19.1).toNat)
  have r19 := right_num G19
  have s19 := itvs3 G19 n19 e19
  rw [show -c4 l h d e 0 1 = h from Int.neg_neg h, show -c4 l h d e 0 2 = h + d from Int.neg_neg (h + d), show -c4 l h d e 0 3 = h + d + e from Int.neg_neg (h + d + e), show c4 l h d e 1 0 = h from rfl, show c4 l h d e 2 0 = h + d from rfl, show c4 l h d e 3 0 = h + d + e from rfl] at s19
  have c19 := capN3 G19
  have i0 := (itv_in G14 n14 (x := 0) (by omega)).1
  have i1 := (itv_in G14 n14 (x := 1) (by omega)).1
  have i2 := (itv_in G14 n14 (x := 2) (by omega)).1
  replace i0 : itvZ u14 0 = (l, h) := by rw [i0]; show (- g u14.2.2 0 1, g u14.2.2 1 0) = _; rw [e14 0 1 (by omega) (by omega), e14 1 0 (by omega) (by omega)]; exact congrArg (·, h) (Int.neg_neg l)
  replace i1 : itvZ u14 1 = (l + d, h + d) := by rw [i1]; show (- g u14.2.2 0 2, g u14.2.2 2 0) = _; rw [e14 0 2 (by omega) (by omega), e14 2 0 (by omega) (by omega)]; exact congrArg (·, h + d) (Int.neg_neg (l + d))
  replace i2 : itvZ u14 2 = (l + d + e, h + d + e) := by rw [i2]; show (- g u14.2.2 0 3, g u14.2.2 3 0) = _; rw [e14 0 3 (by omega) (by omega), e14 3 0 (by omega) (by omega)]; exact congrArg (·, h + d + e) (Int.neg_neg (l + d + e))
  clear e14 e19 e10 e6 G6 G10 G14 G19
  rw [c14] at o14 r14
  rw [c19] at o19 r19
  rw [s14] at o14 r14
  rw [s19] at o19 r19
  rw [c14, c19, s14, s19]
  clear c14 c19 s14 s19
  (repeat ((first | with_reducible apply ck_i | with_reducible apply And.intro); · (first | (simp only [ics]; done) | with_reducible rfl | ((try simp only [ics]); simp [ics, *]; done) | ((try simp only [ics]); simp [ics, *]; omega))))
  refine And.intro (by rw [map_ic]; exact congrArg not r14) ?_
  (repeat ((first | with_reducible apply ck_i | with_reducible apply And.intro); · (first | (simp only [ics]; done) | with_reducible rfl | ((try simp only [ics]); simp [ics, *]; done) | ((try simp only [ics]); simp [ics, *]; omega))))
  refine And.intro (by rw [map_ic]; exact congrArg not r19) ?_
  (repeat ((first | with_reducible apply ck_i | with_reducible apply And.intro); · (first | (simp only [ics]; done) | with_reducible rfl | ((try simp only [ics]); simp [ics, *]; done) | ((try simp only [ics]); simp [ics, *]; omega))))
  refine LoopP.ind (I := fun z => 0 ≤ z ∧ z ≤ 3) (μ := fun z => (3 - z).toNat) ?_ ⟨by omega, by omega⟩
  intro y k hy hk
  dsimp only at hy ⊢
  rcases (show y = 0 ∨ y = 1 ∨ y = 2 ∨ y = 3 by omega) with rfl | rfl | rfl | rfl
  · rw [show decide ((0 : Int) < 3) = true from rfl, cond_true]
    (repeat ((first | with_reducible apply ck_i | with_reducible apply And.intro); · (first | (simp only [ics]; done) | with_reducible rfl | ((try simp only [ics]); simp [ics, *]; done) | ((try simp only [ics]); simp [ics, *]; omega))))
    refine letV_j fun u54 h54 => ?_
    simp only [take49 l14, map_ic, Prod.eta] at h54
    rw [i0] at h54
    obtain rfl : (l, h) = u54 := h54
    rw [take49 l14]
    (repeat ((first | with_reducible apply ck_i | with_reducible apply And.intro); · (first | (simp only [ics]; done) | with_reducible rfl | ((try simp only [ics]); simp [ics, *]; done) | ((try simp only [ics]); simp [ics, *]; omega))))
    try (refine And.intro (by simp [ic, intC]) ?_)
    (repeat ((first | with_reducible apply ck_i | with_reducible apply And.intro); · (first | (simp only [ics]; done) | with_reducible rfl | ((try simp only [ics]); simp [ics, *]; done) | ((try simp only [ics]); simp [ics, *]; omega))))
    rw [i64_id (n := 0 + 1) (by omega) (by omega)]
    exact hk (0 + 1) (show (0 : Int) ≤ 0 + 1 ∧ (0 + 1 : Int) ≤ 3 from ⟨by omega, by omega⟩) (show ((3 : Int) - (0 + 1)).toNat < ((3 : Int) - 0).toNat by omega)
  · rw [show decide ((1 : Int) < 3) = true from rfl, cond_true]
    (repeat ((first | with_reducible apply ck_i | with_reducible apply And.intro); · (first | (simp only [ics]; done) | with_reducible rfl | ((try simp only [ics]); simp [ics, *]; done) | ((try simp only [ics]); simp [ics, *]; omega))))
    refine letV_j fun u54 h54 => ?_
    simp only [take49 l14, map_ic, Prod.eta] at h54
    rw [i1] at h54
    obtain rfl : (l + d, h + d) = u54 := h54
    rw [take49 l14]
    (repeat ((first | with_reducible apply ck_i | with_reducible apply And.intro); · (first | (simp only [ics]; done) | with_reducible rfl | ((try simp only [ics]); simp [ics, *]; done) | ((try simp only [ics]); simp [ics, *]; omega))))
    try (refine And.intro (by simp [ic, intC]) ?_)
    (repeat ((first | with_reducible apply ck_i | with_reducible apply And.intro); · (first | (simp only [ics]; done) | with_reducible rfl | ((try simp only [ics]); simp [ics, *]; done) | ((try simp only [ics]); simp [ics, *]; omega))))
    rw [i64_id (n := 1 + 1) (by omega) (by omega)]
    exact hk (1 + 1) (show (0 : Int) ≤ 1 + 1 ∧ (1 + 1 : Int) ≤ 3 from ⟨by omega, by omega⟩) (show ((3 : Int) - (1 + 1)).toNat < ((3 : Int) - 1).toNat by omega)
  · rw [show decide ((2 : Int) < 3) = true from rfl, cond_true]
    (repeat ((first | with_reducible apply ck_i | with_reducible apply And.intro); · (first | (simp only [ics]; done) | with_reducible rfl | ((try simp only [ics]); simp [ics, *]; done) | ((try simp only [ics]); simp [ics, *]; omega))))
    refine letV_j fun u54 h54 => ?_
    simp only [take49 l14, map_ic, Prod.eta] at h54
    rw [i2] at h54
    obtain rfl : (l + d + e, h + d + e) = u54 := h54
    rw [take49 l14]
    (repeat ((first | with_reducible apply ck_i | with_reducible apply And.intro); · (first | (simp only [ics]; done) | with_reducible rfl | ((try simp only [ics]); simp [ics, *]; done) | ((try simp only [ics]); simp [ics, *]; omega))))
    try (refine And.intro (by simp [ic, intC]) ?_)
    (repeat ((first | with_reducible apply ck_i | with_reducible apply And.intro); · (first | (simp only [ics]; done) | with_reducible rfl | ((try simp only [ics]); simp [ics, *]; done) | ((try simp only [ics]); simp [ics, *]; omega))))
    rw [i64_id (n := 2 + 1) (by omega) (by omega)]
    exact hk (2 + 1) (show (0 : Int) ≤ 2 + 1 ∧ (2 + 1 : Int) ≤ 3 from ⟨by omega, by omega⟩) (show ((3 : Int) - (2 + 1)).toNat < ((3 : Int) - 2).toNat by omega)
  · rw [show decide ((3 : Int) < 3) = false from rfl, cond_false]
    (repeat ((first | with_reducible apply ck_i | with_reducible apply And.intro); · (first | (simp only [ics]; done) | with_reducible rfl | ((try simp only [ics]); simp [ics, *]; done) | ((try simp only [ics]); simp [ics, *]; omega))))
    refine letV_j fun u64 h64 => ?_
    obtain rfl : (l + d + e, h + d + e) = u64 := h64
    refine And.intro (by simp [ic, intC]) ?_
    (repeat ((first | with_reducible apply ck_i | with_reducible apply And.intro); · (first | (simp only [ics]; done) | with_reducible rfl | ((try simp only [ics]); simp [ics, *]; done) | ((try simp only [ics]); simp [ics, *]; omega))))
    refine letV_j fun u68 h68 => ?_
    obtain rfl : (h, h) = u68 := h68
    refine And.intro (by simp [ic, intC]) ?_
    (repeat ((first | with_reducible apply ck_i | with_reducible apply And.intro); · (first | (simp only [ics]; done) | with_reducible rfl | ((try simp only [ics]); simp [ics, *]; done) | ((try simp only [ics]); simp [ics, *]; omega))))
    rw [map_ic]
    have y14' : (!u14.2.1 && hasZ u14 3 [l, l + d, l + d + e]) = true := by rw [n14, y14]; rfl
    have z14' : (!u14.2.1 && hasZ u14 3 [l, l + d, l + d + e + 1]) = false := by rw [n14, z14]; rfl
    exact ⟨y14', congrArg (fun b => boRet (!b)) z14'⟩
theorem sum4d_ok : ∀ vs r, sum4d vs = some (true, r) → SoundAt Tryd.prog 4 vs r := sum41_ok
theorem sum5d_ok : ∀ vs r, sum5d vs = some (true, r) → SoundAt Tryd.prog 5 vs r := sum51_ok
theorem sum6d_ok : ∀ vs r, sum6d vs = some (true, r) → SoundAt Tryd.prog 6 vs r := sum53_ok
theorem sum7d_ok : ∀ vs r, sum7d vs = some (true, r) → SoundAt Tryd.prog 7 vs r := sum59_ok
theorem sum8d_ok : ∀ vs r, sum8d vs = some (true, r) → SoundAt Tryd.prog 8 vs r := sum52_ok
theorem sum9d_ok : ∀ vs r, sum9d vs = some (true, r) → SoundAt Tryd.prog 9 vs r := fun vs r h => by
  cases vs with
  | nil => cases h; exact at9_0
  | cons a t => cases h
theorem sum10d_ok : ∀ vs r, sum10d vs = some (true, r) → SoundAt Tryd.prog 10 vs r := sum45_ok
theorem sum11d_ok : ∀ vs r, sum11d vs = some (true, r) → SoundAt Tryd.prog 11 vs r := sum29_ok
theorem sum12d_ok : ∀ vs r, sum12d vs = some (true, r) → SoundAt Tryd.prog 12 vs r := sum30_ok
theorem sum13d_ok : ∀ vs r, sum13d vs = some (true, r) → SoundAt Tryd.prog 13 vs r := sum54_ok
theorem sum14d_ok : ∀ vs r, sum14d vs = some (true, r) → SoundAt Tryd.prog 14 vs r := sum60_ok
theorem cx3_ok : CtxOk Tryd.prog cx3.q.ctx := (ctx_cons (g := 5) (ctx_cons (g := 6) (ctx_cons (g := 4) (ctx_cons (g := 7) (ctx_cons (g := 8) (ctx_cons (g := 9) (ctx_cons (g := 10) (ctx_cons (g := 11) (ctx_cons (g := 12) (ctx_cons (g := 13) (ctx_cons (g := 14) ctx_nil (by kernel_rfl) sum14d_ok) (by kernel_rfl) sum13d_ok) (by kernel_rfl) sum12d_ok) (by kernel_rfl) sum11d_ok) (by kernel_rfl) sum10d_ok) (by kernel_rfl) sum9d_ok) (by kernel_rfl) sum8d_ok) (by kernel_rfl) sum7d_ok) (by kernel_rfl) sum4d_ok) (by kernel_rfl) sum6d_ok) (by kernel_rfl) sum5d_ok)
set_option maxRecDepth 100000 in
theorem f3_true (a0 a1 a2 a3 : Int) (_ : (Lit.int .i32 a0).wf = true) (h1 : (Lit.int .u8 a1).wf = true) (h2 : (Lit.int .i16 a2).wf = true) (h3 : (Lit.int .i16 a3).wf = true) : f3_wp a0 a1 a2 a3 (fun r' => r' = boRet true) := by
  simp [Lit.wf, IntKind.min, IntKind.max, IntKind.bits, IntKind.signed] at h1 h2 h3
  exact f3_pure a0 a1 a2 a3 (by omega) (by omega) (by omega)
end Go.Proofs.YtgmciihlmgeecaaDoor.Fn
