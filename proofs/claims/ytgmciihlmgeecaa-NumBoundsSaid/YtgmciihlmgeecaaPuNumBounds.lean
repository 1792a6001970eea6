import Derived.Test.YtgmciihlmgeecaaPuN2
import Derived.Test.YtgmciihlmgeecaaWLNumBounds
/- NumBounds: the law's function tells true. Conditions: none beyond its arguments' types. -/
namespace Go.Proofs.Ytgmciihlmgeecaa.Fn
open Go Go.RowKit Go.Proofs.Ytgmciihlmgeecaa.Mt Go.Proofs.Ytgmciihlmgeecaa.Zm
set_option linter.unusedVariables false
set_option linter.unusedSimpArgs false

theorem ofP_in {a b : Int} (h1 : -2147483648 ≤ a) (h2 : a ≤ b) (h3 : b ≤ 2147483647) : ofP a b = (a, b) := by
  unfold ofP normP
  rw [if_neg (by omega), show max a (-2147483648) = a by omega, show min b 2147483647 = b by omega]
theorem i64_in' {a : Int} (h : -4398046511104 ≤ a ∧ a ≤ 4398046511104) : IntKind.i64.wrap a = a := i64_id (by omega) (by omega)
theorem capN2 {u : Zo} (h : Gd 2 u) : (capN u.1).toNat = 2 := by rw [h.hn]; rfl
theorem itvs2 {u : Zo} {a b c d : Int} (h0 : itvZ u 0 = (a, b)) (h1 : itvZ u 1 = (c, d)) : itvsZ u 2 = [a, b, c, d] := by
  show (([] ++ [(itvZ u 0).1, (itvZ u 0).2]) ++ [(itvZ u 1).1, (itvZ u 1).2] : List Int) = _
  rw [h0, h1]; rfl
/-- A zone of two variables, by its bounds. -/
theorem rep3 {P : Mx → Prop} {u : Zo} (h : Zm.Rep 2 P u) {a01 a02 a10 a12 a20 a21 : Int} (hc : 0 ≤ a01 + a10 ∧ 0 ≤ a02 + a20 ∧ 0 ≤ a12 + a21 ∧ a01 ≤ a02 + a21 ∧ a02 ≤ a01 + a12 ∧ a10 ≤ a12 + a20 ∧ a12 ≤ a10 + a02 ∧ a20 ≤ a21 + a10 ∧ a21 ≤ a20 + a01)
    (hs : ∀ m, Clo 2 m → (P m ↔ (∀ i, i ≤ 2 → m i i ≤ 0) ∧ m 0 1 ≤ a01 ∧ m 0 2 ≤ a02 ∧ m 1 0 ≤ a10 ∧ m 1 2 ≤ a12 ∧ m 2 0 ≤ a20 ∧ m 2 1 ≤ a21)) :
    itvZ u 0 = (-a01, a10) ∧ itvZ u 1 = (-a02, a20) := by
  obtain ⟨nb, he⟩ := h.eq (mx3_clo hc) fun m hm => by
    rw [hs m hm]
    constructor
    · rintro ⟨hd, hr⟩; exact (lem3 hd).2 hr
    · intro hl
      have hd : ∀ i, i ≤ 2 → m i i ≤ 0 := fun i hi => by have := hl i i hi hi; unfold mx3 at this; rw [if_pos rfl] at this; exact this
      exact ⟨hd, (lem3 hd).1 hl⟩
  constructor
  · rw [(itv_in h.1 nb (x := 0) (by omega)).1]
    show (- g u.2.2 0 1, g u.2.2 1 0) = _
    rw [he 0 1 (by omega) (by omega), he 1 0 (by omega) (by omega)]; rfl
  · rw [(itv_in h.1 nb (x := 1) (by omega)).1]
    show (- g u.2.2 0 2, g u.2.2 2 0) = _
    rw [he 0 2 (by omega) (by omega), he 2 0 (by omega) (by omega)]; rfl
theorem own2 {m : Mx} : Own 2 m ↔ m 1 0 ≤ 2147483647 ∧ m 0 1 ≤ 2147483648 ∧ m 2 0 ≤ 2147483647 ∧ m 0 2 ≤ 2147483648 := by
  constructor
  · intro h
    have h1 := h 1 (by omega) (by omega)
    have h2 := h 2 (by omega) (by omega)
    exact ⟨h1.1, h1.2, h2.1, h2.2⟩
  · rintro ⟨a, b, c, d⟩ i h1 h2
    rcases (show i = 1 ∨ i = 2 by omega) with rfl | rfl
    · exact ⟨a, b⟩
    · exact ⟨c, d⟩

set_option maxHeartbeats 2000000 in
set_option maxRecDepth 100000 in
theorem f10_pure (a0 a1 a2 : Int) (hs : 0 ≤ a1 ∧ a1 ≤ 255) : f10_wp a0 a1 a2 (fun r' => r' = boRet true) := by
  have hl1 := Int.tmod_lt_of_pos (IntKind.i64.wrap a0) (show (0 : Int) < 100000 by omega)
  have hl2 := Int.lt_tmod_of_pos (IntKind.i64.wrap a0) (show (0 : Int) < 100000 by omega)
  have hd1 := Int.tmod_lt_of_pos (IntKind.i64.wrap a2) (show (0 : Int) < 1000 by omega)
  have hd2 := Int.lt_tmod_of_pos (IntKind.i64.wrap a2) (show (0 : Int) < 1000 by omega)
  unfold f10_wp
  rw [i64_in' (a := a1) (by omega)]
  generalize (IntKind.i64.wrap a0).tmod 100000 = l at *
  generalize (IntKind.i64.wrap a2).tmod 1000 = d at *
  rw [i64_in' (a := l + a1) (by omega), i64_in' (a := l + a1 + d) (by omega), i64_in' (a := l - d) (by omega)]
  rw [map_eqD (D := (topZ 2).2.2) (by kernel_rfl), ofP_in (a := l) (b := l + a1) (by omega) (by omega) (by omega), ofP_in (a := -2147483648) (b := l + a1 + d) (by omega) (by omega) (by omega), ofP_in (a := l - d) (b := 2147483647) (by omega) (by omega) (by omega)]
  refine letV_j fun u1 h1 => ?_
  rw [h1]
  have R1 := top_rep (n := 2) (by omega)
  rw [show topZ ((2 : Nat) : Int) = u1 from h1] at R1
  clear h1
  refine letV_j fun u2 _ => ?_
  refine letV_j fun u3 _ => ?_
  refine letV_j fun u4 h4 => ?_
  simp only [Prod.eta] at h4
  have R4 := bound_repI R1 (x := 0) (y := 1) (b := d) (i := 1) (j := 2) rfl rfl (by omega) (by omega) (by omega)
  rw [h4] at R4
  clear h4
  have l4 : u4.2.2.length = 49 := R4.1.len
  have o4 := okSl_itvs (z := u4) (t := (capN u4.1).toNat)
  (repeat ((first | with_reducible apply ck_i | with_reducible apply And.intro); · (first | (simp only [ics]; done) | with_reducible rfl | ((try simp only [ics]); simp [ics, *]; done) | ((try simp only [ics]); simp [ics, *]; omega))))
  refine letV_j fun u8 h8 => ?_
  obtain rfl : (l, l + a1) = u8 := h8
  refine letV_j fun u9 h9 => ?_
  simp only [map_ic, Prod.eta] at h9
  have R9 := held_rep R4 (x := 1) (lo := l) (hi := l + a1) (i := 2) rfl (by omega) (by omega) (by omega) (by omega) (by omega) (by omega)
  rw [h9] at R9
  clear h9
  have l9 : u9.2.2.length = 49 := R9.1.len
  have o9 := okSl_itvs (z := u9) (t := 2)
  have c9 := capN2 R9.1
  have w9 := rep_within R9 R4 fun m _ h => h.1.1
  obtain ⟨i0, i1⟩ := rep3 R9 (a01 := 2147483648) (a02 := -l) (a10 := l + a1 + d) (a12 := d) (a20 := l + a1) (a21 := l + a1 + 2147483648) (by omega) fun m hm => by
    have t1 := hm.2 1 0 2 (by omega) (by omega) (by omega)
    have t2 := hm.2 2 1 0 (by omega) (by omega) (by omega)
    rw [own2]
    constructor
    · rintro ⟨⟨⟨⟨hd, o⟩, e1⟩, e2⟩, e3⟩
      exact ⟨hd, by omega, by omega, by omega, by omega, by omega, by omega⟩
    · rintro ⟨hd, e1, e2, e3, e4, e5, e6⟩
      exact ⟨⟨⟨⟨hd, by omega⟩, e4⟩, e5⟩, e2⟩
  have s9 : itvsZ u9 2 = [-2147483648, l + a1 + d, l, l + a1] := by rw [itvs2 i0 i1, Int.neg_neg]
  clear i0 i1
  (repeat ((first | with_reducible apply ck_i | with_reducible apply And.intro); · (first | (simp only [ics]; done) | with_reducible rfl | ((try simp only [ics]); simp [ics, *]; done) | ((try simp only [ics]); simp [ics, *]; omega))))
  refine letV_j fun u12 h12 => ?_
  obtain rfl : (l, l + a1) = u12 := h12
  refine letV_j fun u13 h13 => ?_
  simp only [map_ic, Prod.eta] at h13
  have R13 := held_rep R4 (x := 0) (lo := l) (hi := l + a1) (i := 1) rfl (by omega) (by omega) (by omega) (by omega) (by omega) (by omega)
  rw [h13] at R13
  clear h13
  have l13 : u13.2.2.length = 49 := R13.1.len
  have o13 := okSl_itvs (z := u13) (t := 2)
  have c13 := capN2 R13.1
  have w13 := rep_within R13 R4 fun m _ h => h.1.1
  obtain ⟨i0, i1⟩ := rep3 R13 (a01 := -l) (a02 := d - l) (a10 := l + a1) (a12 := d) (a20 := 2147483647) (a21 := 2147483647 - l) (by omega) fun m hm => by
    have t1 := hm.2 0 2 1 (by omega) (by omega) (by omega)
    have t2 := hm.2 2 1 0 (by omega) (by omega) (by omega)
    rw [own2]
    constructor
    · rintro ⟨⟨⟨⟨hd, o⟩, e1⟩, e2⟩, e3⟩
      exact ⟨hd, by omega, by omega, by omega, by omega, by omega, by omega⟩
    · rintro ⟨hd, e1, e2, e3, e4, e5, e6⟩
      exact ⟨⟨⟨⟨hd, by omega⟩, e4⟩, e3⟩, e1⟩
  have s13 : itvsZ u13 2 = [l, l + a1, l - d, 2147483647] := by rw [itvs2 i0 i1, Int.neg_neg, Int.neg_sub]
  clear i0 i1 R13 R9 R4 R1
  rw [s9] at o9
  rw [s13] at o13
  rw [c9, c13, s9, s13]
  clear c9 c13 s9 s13
  (repeat ((first | with_reducible apply ck_i | with_reducible apply And.intro); · (first | (simp only [ics]; done) | with_reducible rfl | ((try simp only [ics]); simp [ics, *]; done) | ((try simp only [ics]); simp [ics, *]; omega))))
  refine letV_j fun u20 h20 => ?_
  obtain rfl : (-2147483648, l + a1 + d) = u20 := h20
  refine And.intro (by simp [ic, intC]) ?_
  (repeat ((first | with_reducible apply ck_i | with_reducible apply And.intro); · (first | (simp only [ics]; done) | with_reducible rfl | ((try simp only [ics]); simp [ics, *]; done) | ((try simp only [ics]); simp [ics, *]; omega))))
  refine letV_j fun u24 h24 => ?_
  obtain rfl : (l - d, 2147483647) = u24 := h24
  refine And.intro (by simp [ic, intC]) ?_
  (repeat ((first | with_reducible apply ck_i | with_reducible apply And.intro); · (first | (simp only [ics]; done) | with_reducible rfl | ((try simp only [ics]); simp [ics, *]; done) | ((try simp only [ics]); simp [ics, *]; omega))))
  rw [map_ic, map_ic, w13]; rfl
theorem cx10_ok : CtxOk Try.prog cx10.q.ctx := (ctx_cons (g := 51) (ctx_cons (g := 50) (ctx_cons (g := 53) (ctx_cons (g := 52) (ctx_cons (g := 43) (ctx_cons (g := 54) ctx_nil (by kernel_rfl) sum54_ok) (by kernel_rfl) sum43_ok) (by kernel_rfl) sum52_ok) (by kernel_rfl) sum53_ok) (by kernel_rfl) sum50_ok) (by kernel_rfl) sum51_ok)
theorem f10_true (a0 a1 a2 : Int) (_ : (Lit.int .i32 a0).wf = true) (h : (Lit.int .u8 a1).wf = true) (_ : (Lit.int .i32 a2).wf = true) : f10_wp a0 a1 a2 (fun r' => r' = boRet true) :=
  f10_pure a0 a1 a2 (by simp [Lit.wf, IntKind.min, IntKind.max, IntKind.bits, IntKind.signed] at h; omega)

end Go.Proofs.Ytgmciihlmgeecaa.Fn
