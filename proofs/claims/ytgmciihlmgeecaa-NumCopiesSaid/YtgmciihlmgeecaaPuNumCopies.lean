import Derived.Test.YtgmciihlmgeecaaPuN2
import Derived.Test.YtgmciihlmgeecaaWLNumCopies
/- NumCopies: the law's function tells true. Conditions: none beyond its arguments' types. -/
namespace Go.Proofs.Ytgmciihlmgeecaa.Fn
open Go Go.RowKit Go.Proofs.Ytgmciihlmgeecaa.Mt Go.Proofs.Ytgmciihlmgeecaa.Zm
set_option linter.unusedVariables false
set_option linter.unusedSimpArgs false

theorem ofP_in {a b : Int} (h1 : -2147483648 ≤ a) (h2 : a ≤ b) (h3 : b ≤ 2147483647) : ofP a b = (a, b) := by
  unfold ofP normP
  rw [if_neg (by omega), show max a (-2147483648) = a by omega, show min b 2147483647 = b by omega]
theorem i64_in' {a : Int} (h : -4398046511104 ≤ a ∧ a ≤ 4398046511104) : IntKind.i64.wrap a = a := i64_id (by omega) (by omega)
theorem capN2 {u : Zo} (h : Gd 2 u) : (capN u.1).toNat = 2 := by rw [h.hn]; rfl
theorem itvs2 {u : Zo} {a b c d : Int} (h0 : itvZ u 0 = (a, b)) (h1 : itvZ u 1 = (c, d)) : itvsZ u 2 = [a, b, c, d] := by
  show (([] ++ [(itvZ u 0).1, (itvZ u 0).2]) ++ [(itvZ u 1).1, (itvZ u 1).2] : List Int) = _
  rw [h0, h1]; rfl
/-- A zone of two variables, by its bounds. -/
theorem rep3 {P : Mx → Prop} {u : Zo} (h : Zm.Rep 2 P u) {a01 a02 a10 a12 a20 a21 : Int} (hc : 0 ≤ a01 + a10 ∧ 0 ≤ a02 + a20 ∧ 0 ≤ a12 + a21 ∧ a01 ≤ a02 + a21 ∧ a02 ≤ a01 + a12 ∧ a10 ≤ a12 + a20 ∧ a12 ≤ a10 + a02 ∧ a20 ≤ a21 + a10 ∧ a21 ≤ a20 + a01)
    (hs : ∀ m, Clo 2 m → (P m ↔ (∀ i, i ≤ 2 → m i i ≤ 0) ∧ m 0 1 ≤ a01 ∧ m 0 2 ≤ a02 ∧ m 1 0 ≤ a10 ∧ m 1 2 ≤ a12 ∧ m 2 0 ≤ a20 ∧ m 2 1 ≤ a21)) :
    itvZ u 0 = (-a01, a10) ∧ itvZ u 1 = (-a02, a20) := by
  obtain ⟨nb, he⟩ := h.eq (mx3_clo hc) fun m hm => by
    rw [hs m hm]
    constructor
    · rintro ⟨hd, hr⟩; exact (lem3 hd).2 hr
    · intro hl
      have hd : ∀ i, i ≤ 2 → m i i ≤ 0 := fun i hi => by have := hl i i hi hi; unfold mx3 at this; rw [if_pos rfl] at this; exact this
      exact ⟨hd, (lem3 hd).1 hl⟩
  constructor
  · rw [(itv_in h.1 nb (x := 0) (by omega)).1]
    show (- g u.2.2 0 1, g u.2.2 1 0) = _
    rw [he 0 1 (by omega) (by omega), he 1 0 (by omega) (by omega)]; rfl
  · rw [(itv_in h.1 nb (x := 1) (by omega)).1]
    show (- g u.2.2 0 2, g u.2.2 2 0) = _
    rw [he 0 2 (by omega) (by omega), he 2 0 (by omega) (by omega)]; rfl
theorem own2 {m : Mx} : Own 2 m ↔ m 1 0 ≤ 2147483647 ∧ m 0 1 ≤ 2147483648 ∧ m 2 0 ≤ 2147483647 ∧ m 0 2 ≤ 2147483648 := by
  constructor
  · intro h
    have h1 := h 1 (by omega) (by omega)
    have h2 := h 2 (by omega) (by omega)
    exact ⟨h1.1, h1.2, h2.1, h2.2⟩
  · rintro ⟨a, b, c, d⟩ i h1 h2
    rcases (show i = 1 ∨ i = 2 by omega) with rfl | rfl
    · exact ⟨a, b⟩
    · exact ⟨c, d⟩

theorem top2_g : g (topZ 2).2.2 0 1 = 2147483648 ∧ g (topZ 2).2.2 0 2 = 2147483648 ∧ g (topZ 2).2.2 1 0 = 2147483647 ∧ g (topZ 2).2.2 1 2 = 4294967295 ∧ g (topZ 2).2.2 2 0 = 2147483647 ∧ g (topZ 2).2.2 2 1 = 4294967295 ∧ g (topZ 2).2.2 0 0 = 0 ∧ g (topZ 2).2.2 1 1 = 0 ∧ g (topZ 2).2.2 2 2 = 0 ∧ (topZ 2).2.1 = false := ⟨by kernel_rfl, by kernel_rfl, by kernel_rfl, by kernel_rfl, by kernel_rfl, by kernel_rfl, by kernel_rfl, by kernel_rfl, by kernel_rfl, by kernel_rfl⟩
theorem all3 {Q : Nat → Nat → Prop} : (∀ i j, i ≤ 2 → j ≤ 2 → Q i j) ↔ (Q 0 0 ∧ Q 0 1 ∧ Q 0 2) ∧ (Q 1 0 ∧ Q 1 1 ∧ Q 1 2) ∧ (Q 2 0 ∧ Q 2 1 ∧ Q 2 2) := by
  constructor
  · intro h; exact ⟨⟨h 0 0 (by omega) (by omega), h 0 1 (by omega) (by omega), h 0 2 (by omega) (by omega)⟩, ⟨h 1 0 (by omega) (by omega), h 1 1 (by omega) (by omega), h 1 2 (by omega) (by omega)⟩, h 2 0 (by omega) (by omega), h 2 1 (by omega) (by omega), h 2 2 (by omega) (by omega)⟩
  · rintro ⟨⟨a, b, c⟩, ⟨d, e, f⟩, p, q, r⟩ i j hi hj
    rcases (show i = 0 ∨ i = 1 ∨ i = 2 by omega) with rfl | rfl | rfl <;> rcases (show j = 0 ∨ j = 1 ∨ j = 2 by omega) with rfl | rfl | rfl <;> assumption

set_option maxHeartbeats 2000000 in
set_option maxRecDepth 100000 in
theorem f16_pure (a0 a1 a2 : Int) (hs : 0 ≤ a2 ∧ a2 ≤ 255) : f16_wp a0 a1 a2 (fun r' => r' = boRet true) := by
  have hl1 := Int.tmod_lt_of_pos (IntKind.i64.wrap a1) (show (0 : Int) < 100000 by omega)
  have hl2 := Int.lt_tmod_of_pos (IntKind.i64.wrap a1) (show (0 : Int) < 100000 by omega)
  have hd1 := Int.tmod_lt_of_pos (IntKind.i64.wrap a0) (show (0 : Int) < 1000 by omega)
  have hd2 := Int.lt_tmod_of_pos (IntKind.i64.wrap a0) (show (0 : Int) < 1000 by omega)
  unfold f16_wp
  rw [i64_in' (a := a2) (by omega)]
  generalize (IntKind.i64.wrap a1).tmod 100000 = l at *
  generalize (IntKind.i64.wrap a0).tmod 1000 = d at *
  rw [i64_in' (a := l + a2) (by omega), i64_in' (a := l + a2 + d) (by omega), i64_in' (a := l + d) (by omega)]
  rw [map_eqD (D := (topZ 2).2.2) (by kernel_rfl), ofP_in (a := l) (b := l + a2) (by omega) (by omega) (by omega), ofP_in (a := l + d) (b := l + d) (by omega) (by omega) (by omega), ofP_in (a := l + d) (b := l + a2 + d) (by omega) (by omega) (by omega), ofP_in (a := l) (b := l) (by omega) (by omega) (by omega)]
  obtain ⟨t01, t02, t10, t12, t20, t21, t00, t11, t22, tn⟩ := top2_g
  refine letV_j fun u1 h1 => ?_
  rw [h1] at t01 t02 t10 t12 t20 t21 t00 t11 t22 tn ⊢
  have R1 := top_rep (n := 2) (by omega)
  rw [show topZ ((2 : Nat) : Int) = u1 from h1] at R1
  clear h1
  refine letV_j fun u2 _ => ?_
  refine letV_j fun u3 _ => ?_
  refine letV_j fun u4 h4 => ?_
  simp only [Prod.eta] at h4
  have R4 := copy_rep R1.1 tn (x := 0) (y := 1) (b := d) (by omega) (by omega) (by omega)
  rw [h4, clamp_id (by omega) (by omega)] at R4
  clear h4
  have R4 : Zm.Rep 2 (fun m => ((∀ i, i ≤ 2 → m i i ≤ 0) ∧ Own 2 m) ∧ (m 1 2 ≤ d ∧ m 2 1 ≤ -d)) u4 := R4.of fun m hm => by
    unfold copP
    show (∀ i j, i ≤ 2 → j ≤ 2 → i ≠ 1 → j ≠ 1 → m i j ≤ g u1.2.2 i j) ∧ (m 1 2 ≤ d ∧ m 2 1 ≤ -d) ∧ m 1 1 ≤ 0 ∧ Own 2 m ↔ _
    constructor
    · rintro ⟨h, e, d1, o⟩
      refine ⟨⟨fun i hi => ?_, o⟩, e⟩
      rcases (show i = 0 ∨ i = 1 ∨ i = 2 by omega) with rfl | rfl | rfl
      · have := h 0 0 (by omega) (by omega) (by omega) (by omega); omega
      · exact d1
      · have := h 2 2 (by omega) (by omega) (by omega) (by omega); omega
    · rintro ⟨⟨hd, o⟩, e⟩
      have d0 := hd 0 (by omega)
      have d2 := hd 2 (by omega)
      have o' := own2.1 o
      refine ⟨fun i j hi hj ni nj => ?_, e, hd 1 (by omega), o⟩
      rcases (show i = 0 ∨ i = 2 by omega) with rfl | rfl <;> rcases (show j = 0 ∨ j = 2 by omega) with rfl | rfl <;> omega
  have n4 : u4.2.1 = false := R4.not_none (m := mx3 (-d) 0 d d 0 (-d)) (mx3_clo (by omega)) ⟨⟨fun i hi => by unfold mx3; rw [if_pos rfl]; exact Int.le_refl _, own2.2 (by simp [mx3]; omega)⟩, by simp [mx3], by simp [mx3]⟩
  clear t01 t02 t10 t12 t20 t21 t00 t11 t22 tn R1
  have l4 : u4.2.2.length = 49 := R4.1.len
  have o4 := okSl_itvs (z := u4) (t := (capN u4.1).toNat)
  (repeat ((first | with_reducible apply ck_i | with_reducible apply And.intro); · (first | (simp only [ics]; done) | with_reducible rfl | ((try simp only [ics]); simp [ics, *]; done) | ((try simp only [ics]); simp [ics, *]; omega))))
  refine letV_j fun u8 h8 => ?_
  obtain rfl : (l, l + a2) = u8 := h8
  refine letV_j fun u9 h9 => ?_
  simp only [map_ic, Prod.eta] at h9
  have R9 := held_rep R4 (x := 1) (lo := l) (hi := l + a2) (i := 2) rfl (by omega) (by omega) (by omega) (by omega) (by omega) (by omega)
  rw [h9] at R9
  clear h9
  have l9 : u9.2.2.length = 49 := R9.1.len
  have o9 := okSl_itvs (z := u9) (t := 2)
  have c9 := capN2 R9.1
  have w9 := rep_within R9 R4 fun m _ h => h.1.1
  obtain ⟨i0, i1⟩ := rep3 R9 (a01 := -(l + d)) (a02 := -l) (a10 := l + a2 + d) (a12 := d) (a20 := l + a2) (a21 := -d) (by omega) fun m hm => by
    have t1 := hm.2 1 0 2 (by omega) (by omega) (by omega)
    have t2 := hm.2 0 1 2 (by omega) (by omega) (by omega)
    rw [own2]
    constructor
    · rintro ⟨⟨⟨⟨hd, o⟩, e1⟩, e2⟩, e3⟩
      exact ⟨hd, by omega, by omega, by omega, by omega, by omega, by omega⟩
    · rintro ⟨hd, e1, e2, e3, e4, e5, e6⟩
      exact ⟨⟨⟨⟨hd, by omega⟩, e4, e6⟩, e5⟩, e2⟩
  have s9 : itvsZ u9 2 = [l + d, l + a2 + d, l, l + a2] := by rw [itvs2 i0 i1, Int.neg_neg, Int.neg_neg]
  clear i0 i1
  (repeat ((first | with_reducible apply ck_i | with_reducible apply And.intro); · (first | (simp only [ics]; done) | with_reducible rfl | ((try simp only [ics]); simp [ics, *]; done) | ((try simp only [ics]); simp [ics, *]; omega))))
  refine letV_j fun u13 h13 => ?_
  obtain rfl : (l + d, l + d) = u13 := h13
  refine letV_j fun u14 h14 => ?_
  simp only [map_ic, Prod.eta] at h14
  have R14 := held_rep R9 (x := 0) (lo := l + d) (hi := l + d) (i := 1) rfl (by omega) (by omega) (by omega) (by omega) (by omega) (by omega)
  rw [h14] at R14
  clear h14
  have l14 : u14.2.2.length = 49 := R14.1.len
  have o14 := okSl_itvs (z := u14) (t := 2)
  have c14 := capN2 R14.1
  have w14 := rep_within R14 R9 fun m _ h => h.1.1
  obtain ⟨i0, i1⟩ := rep3 R14 (a01 := -(l + d)) (a02 := -l) (a10 := l + d) (a12 := d) (a20 := l) (a21 := -d) (by omega) fun m hm => by
    have t1 := hm.2 2 0 1 (by omega) (by omega) (by omega)
    rw [own2]
    constructor
    · rintro ⟨⟨⟨⟨⟨⟨hd, o⟩, e1⟩, e2⟩, e3⟩, e4⟩, e5⟩
      exact ⟨hd, by omega, by omega, by omega, by omega, by omega, by omega⟩
    · rintro ⟨hd, e1, e2, e3, e4, e5, e6⟩
      exact ⟨⟨⟨⟨⟨⟨hd, by omega⟩, e4, e6⟩, by omega⟩, e2⟩, e3⟩, e1⟩
  have s14 : itvsZ u14 2 = [l + d, l + d, l, l] := by rw [itvs2 i0 i1, Int.neg_neg, Int.neg_neg]
  clear i0 i1 R14 R9 R4
  rw [s9] at o9
  rw [s14] at o14
  rw [c9, c14, s9, s14]
  clear c9 c14 s9 s14
  (repeat ((first | with_reducible apply ck_i | with_reducible apply And.intro); · (first | (simp only [ics]; done) | with_reducible rfl | ((try simp only [ics]); simp [ics, *]; done) | ((try simp only [ics]); simp [ics, *]; omega))))
  refine letV_j fun u21 h21 => ?_
  obtain rfl : (l + d, l + a2 + d) = u21 := h21
  refine And.intro (by simp [ic, intC]) ?_
  (repeat ((first | with_reducible apply ck_i | with_reducible apply And.intro); · (first | (simp only [ics]; done) | with_reducible rfl | ((try simp only [ics]); simp [ics, *]; done) | ((try simp only [ics]); simp [ics, *]; omega))))
  refine letV_j fun u25 h25 => ?_
  obtain rfl : (l, l + a2) = u25 := h25
  refine And.intro (by simp [ic, intC]) ?_
  (repeat ((first | with_reducible apply ck_i | with_reducible apply And.intro); · (first | (simp only [ics]; done) | with_reducible rfl | ((try simp only [ics]); simp [ics, *]; done) | ((try simp only [ics]); simp [ics, *]; omega))))
  refine letV_j fun u30 h30 => ?_
  obtain rfl : (l, l) = u30 := h30
  refine And.intro (by simp [ic, intC]) ?_
  (repeat ((first | with_reducible apply ck_i | with_reducible apply And.intro); · (first | (simp only [ics]; done) | with_reducible rfl | ((try simp only [ics]); simp [ics, *]; done) | ((try simp only [ics]); simp [ics, *]; omega))))
  rw [map_ic, map_ic, w9]; rfl
theorem cx16_ok : CtxOk Try.prog cx16.q.ctx := (ctx_cons (g := 51) (ctx_cons (g := 59) (ctx_cons (g := 53) (ctx_cons (g := 52) (ctx_cons (g := 43) (ctx_cons (g := 30) (ctx_cons (g := 54) ctx_nil (by kernel_rfl) sum54_ok) (by kernel_rfl) sum30_ok) (by kernel_rfl) sum43_ok) (by kernel_rfl) sum52_ok) (by kernel_rfl) sum53_ok) (by kernel_rfl) sum59_ok) (by kernel_rfl) sum51_ok)
theorem f16_true (a0 a1 a2 : Int) (_ : (Lit.int .i32 a0).wf = true) (_ : (Lit.int .i32 a1).wf = true) (h : (Lit.int .u8 a2).wf = true) : f16_wp a0 a1 a2 (fun r' => r' = boRet true) :=
  f16_pure a0 a1 a2 (by simp [Lit.wf, IntKind.min, IntKind.max, IntKind.bits, IntKind.signed] at h; omega)

end Go.Proofs.Ytgmciihlmgeecaa.Fn
