import Derived.Test.YtgmciihlmgeecaaPuZB
import Derived.Test.YtgmciihlmgeecaaPuZD
import Derived.Test.YtgmciihlmgeecaaWLZoneJoins
/- ZoneJoins: the law's function tells true. Conditions: none beyond its arguments' types. -/
namespace Go.Proofs.Ytgmciihlmgeecaa.Fn
open Go Go.RowKit Go.Proofs.Ytgmciihlmgeecaa.Mt Go.Proofs.Ytgmciihlmgeecaa.Zm
set_option linter.unusedVariables false
set_option linter.unusedSimpArgs false

theorem okRowU_ic {s n : Nat} {l : List Int} (h : l.length = n * s) : okRowU s (.sl n (ic .i64 l)) = true := by
  simp only [okRowU, Bool.and_eq_true, beq_iff_eq, ic_len]
  exact ⟨ic_all fun _ => rfl, h⟩
theorem same_refl (z : Zo) : sameZ z z = true := by unfold sameZ; exact decide_eq_true rfl
theorem good_of {n : Nat} {z : Zo} (h : Gd n z) : goodZ z = true := good_iff.2 ⟨n, h⟩
theorem within_jw {n : Nat} {a b : Zo} (h : Gd n a) (h' : Gd n b) : withinZ (joinZ a b) (widenZ a b) = true := by
  have n6 := h.n6
  obtain ⟨w1, w2⟩ := within_widen h h'
  cases ha : a.2.1 with
  | true => rw [join_none1 h h' ha]; exact w1
  | false =>
    cases hb : b.2.1 with
    | true => rw [join_none2 hb]; exact w2
    | false =>
      have gw := widen_gd h h'
      rcases (Zm.within_iff h gw).1 w2 with e | ⟨_, nw, la⟩
      · rw [ha] at e; cases e
      · rcases (Zm.within_iff h' gw).1 w1 with e | ⟨_, _, lb⟩
        · rw [hb] at e; cases e
        · refine (Zm.within_iff (join_gd h h') gw).2 (.inr ⟨by rw [join_both h h' ha hb], nw, fun i j hi hj => ?_⟩)
          rw [join_g h h' ha hb (by omega) (by omega)]
          have := la i j hi hj
          have := lb i j hi hj
          omega
theorem unlike {n m : Nat} {a b : Zo} (h : Gd n a) (h' : Gd m b) (hne : n ≠ m) : alikeZ a b = false := by
  unfold alikeZ
  rw [h.hn, h'.hn, decide_eq_false (by omega)]; rfl
theorem un_join {n m : Nat} {a b : Zo} (h : Gd n a) (h' : Gd m b) (hne : n ≠ m) : joinZ a b = a := by
  unfold joinZ; rw [unlike h h' hne]; rfl
theorem un_widen {n m : Nat} {a b : Zo} (h : Gd n a) (h' : Gd m b) (hne : n ≠ m) : widenZ a b = a := by
  unfold widenZ; rw [unlike h h' hne]; rfl
theorem un_within {n m : Nat} {a b : Zo} (h : Gd n a) (h' : Gd m b) (hne : n ≠ m) : withinZ a b = false := by
  unfold withinZ; rw [unlike h h' hne]; rfl

set_option maxHeartbeats 2000000 in
theorem f13_pure (a0 : Int) (n : Nat) (l : List Int) (hl : l.length = n * 4) (n2 : Nat) (l2 : List Int) (hl2 : l2.length = n2 * 4) : f13_wp a0 n (ic .i64 l) n2 (ic .i64 l2) (fun r' => r' = boRet true) := by
  have hk7 := mod_in (a := a0) (m := 7) (by omega) (by omega)
  have ro := okRowU_ic hl
  have ro2 := okRowU_ic hl2
  unfold f13_wp
  generalize IntKind.i64.wrap ((IntKind.u64.wrap a0).tmod 7) = kk at *
  obtain ⟨K, rfl⟩ : ∃ K : Nat, kk = K := ⟨kk.toNat, by omega⟩
  have K6 : K ≤ 6 := by omega
  rw [wr1 (show -1000 ≤ (K : Int) by omega) (by omega)]
  refine letV_j fun u1 h1 => ?_
  have g1 : Gd K u1 := by rw [← h1]; exact (top_rep K6).1
  have l1 : u1.2.2.length = 49 := g1.len
  refine ck_i (by (first | (simp only [min_if, max_if, ics]; done) | with_reducible rfl | ((try simp only [min_if, max_if, ics]); simp [min_if, max_if, ics, *]; done) | ((try simp only [min_if, max_if, ics]); simp [min_if, max_if, ics, *]; omega))) ?_
  refine letV_j fun u3 h3 => ?_
  obtain rfl : u1 = u3 := by rw [← h1, ← h3, topR_eq K6]
  have s1 : sameZ (u1.1, u1.2.1, u1.2.2) (u1.1, u1.2.1, u1.2.2) = true := same_refl _
  have d1 : goodZ (u1.1, u1.2.1, u1.2.2) = true := good_of g1
  have t1 := h1
  have t3 := h3
  clear h3 h1
  refine ck_i (by (first | (simp only [min_if, max_if, ics]; done) | with_reducible rfl | ((try simp only [min_if, max_if, ics]); simp [min_if, max_if, ics, *]; done) | ((try simp only [min_if, max_if, ics]); simp [min_if, max_if, ics, *]; omega))) ?_
  refine letV_j fun u5 h5 => ?_
  simp only [map_ic, Prod.eta] at h5
  have g5 := apply_gd g1 (m := n) (l := l)
  rw [h5] at g5
  have l5 : u5.2.2.length = 49 := g5.len
  have k5 := okL49 l5
  have e5 := eqW49s l5
  have o5 : okN u5.1 = true := g5.okN
  clear h5
  have t1' := t1
  have t3' := t3
  clear t1 t3
  (repeat ((first | with_reducible apply ck_i | with_reducible apply And.intro); · (first | (simp only [min_if, max_if, ics]; done) | with_reducible rfl | ((try simp only [min_if, max_if, ics]); simp [min_if, max_if, ics, *]; done) | ((try simp only [min_if, max_if, ics]); simp [min_if, max_if, ics, *]; omega))))
  refine letV_j fun u8 h8 => ?_
  obtain rfl : u1 = u8 := by rw [← h8, t1']
  clear h8
  (repeat ((first | with_reducible apply ck_i | with_reducible apply And.intro); · (first | (simp only [min_if, max_if, ics]; done) | with_reducible rfl | ((try simp only [min_if, max_if, ics]); simp [min_if, max_if, ics, *]; done) | ((try simp only [min_if, max_if, ics]); simp [min_if, max_if, ics, *]; omega))))
  refine letV_j fun u10 h10 => ?_
  obtain rfl : u1 = u10 := by rw [← h10, t3']
  clear h10 t1' t3'
  (repeat ((first | with_reducible apply ck_i | with_reducible apply And.intro); · (first | (simp only [min_if, max_if, ics]; done) | with_reducible rfl | ((try simp only [min_if, max_if, ics]); simp [min_if, max_if, ics, *]; done) | ((try simp only [min_if, max_if, ics]); simp [min_if, max_if, ics, *]; omega))))
  refine letV_j fun u12 h12 => ?_
  simp only [map_ic, Prod.eta] at h12
  have g12 := apply_gd g1 (m := n2) (l := l2)
  rw [h12] at g12
  have l12 : u12.2.2.length = 49 := g12.len
  have o12 : okN u12.1 = true := g12.okN
  clear h12
  (repeat ((first | with_reducible apply ck_i | with_reducible apply And.intro); · (first | (simp only [min_if, max_if, ics]; done) | with_reducible rfl | ((try simp only [min_if, max_if, ics]); simp [min_if, max_if, ics, *]; done) | ((try simp only [min_if, max_if, ics]); simp [min_if, max_if, ics, *]; omega))))
  have w1 := within_join1 g5 g12
  have w2 := within_join2 g5 g12
  have w3 := within_jw g5 g12
  have gj := join_gd g5 g12
  have gw := widen_gd g5 g12
  have ej := joinR_eq g5 g12
  have ew := widenR_eq g5 g12
  have er := withinR_eq g5 g12
  refine letV_j fun u17 h17 => ?_
  simp only [map_ic, Prod.eta] at h17
  rw [h17] at w1 w2 w3 gj ej
  have l17 : u17.2.2.length = 49 := gj.len
  have k17 := okL49 l17
  have e17 := eqW49s l17
  have t17 := right_gd gj
  clear h17
  (repeat ((first | with_reducible apply ck_i | with_reducible apply And.intro); · (first | (simp only [min_if, max_if, ics]; done) | with_reducible rfl | ((try simp only [min_if, max_if, ics]); simp [min_if, max_if, ics, *]; done) | ((try simp only [min_if, max_if, ics]); simp [min_if, max_if, ics, *]; omega))))
  refine letV_j fun u19 h19 => ?_
  simp only [map_ic, Prod.eta] at h19
  rw [h19] at w3 gw ew
  have l19 : u19.2.2.length = 49 := gw.len
  have k19 := okL49 l19
  have e19 := eqW49s l19
  have t19 := right_gd gw
  clear h19
  (repeat ((first | with_reducible apply ck_i | with_reducible apply And.intro); · (first | (simp only [min_if, max_if, ics]; done) | with_reducible rfl | ((try simp only [min_if, max_if, ics]); simp [min_if, max_if, ics, *]; done) | ((try simp only [min_if, max_if, ics]); simp [min_if, max_if, ics, *]; omega))))
  have hm : ((K : Int) + 1).tmod 7 = ((if K = 6 then 0 else K + 1 : Nat) : Int) := by
    by_cases e : K = 6
    · subst e; rfl
    · rw [if_neg e, Int.tmod_eq_emod_of_nonneg (by omega)]; omega
  rw [hm]
  have M6 : (if K = 6 then 0 else K + 1) ≤ 6 := by split <;> omega
  have MK : K ≠ (if K = 6 then 0 else K + 1) := by split <;> omega
  generalize (if K = 6 then 0 else K + 1) = M at *
  clear hm
  refine letV_j fun u23 h23 => ?_
  have g23 : Gd M u23 := by rw [← h23]; exact (top_rep M6).1
  have l23 : u23.2.2.length = 49 := g23.len
  clear h23
  (repeat ((first | with_reducible apply ck_i | with_reducible apply And.intro); · (first | (simp only [min_if, max_if, ics]; done) | with_reducible rfl | ((try simp only [min_if, max_if, ics]); simp [min_if, max_if, ics, *]; done) | ((try simp only [min_if, max_if, ics]); simp [min_if, max_if, ics, *]; omega))))
  refine letV_j fun u28 h28 => ?_
  obtain rfl : u17 = u28 := by rw [← h28, map_ic, map_ic]; exact ej.symm
  clear h28 ej
  simp only [map_ic]
  (repeat ((first | with_reducible apply ck_i | with_reducible apply And.intro); · (first | (simp only [min_if, max_if, ics]; done) | with_reducible rfl | ((try simp only [min_if, max_if, ics]); simp [min_if, max_if, ics, *]; done) | ((try simp only [min_if, max_if, ics]); simp [min_if, max_if, ics, *]; omega))))
  refine letV_j fun u34 h34 => ?_
  obtain rfl : u19 = u34 := by rw [← h34]; (try simp only [map_ic]); exact ew.symm
  clear h34 ew
  (repeat ((first | with_reducible apply ck_i | with_reducible apply And.intro); · (first | (simp only [min_if, max_if, ics]; done) | with_reducible rfl | ((try simp only [min_if, max_if, ics]); simp [min_if, max_if, ics, *]; done) | ((try simp only [min_if, max_if, ics]); simp [min_if, max_if, ics, *]; omega))))
  refine letV_j fun u52 h52 => ?_
  obtain rfl : u5 = u52 := by rw [← h52]; (try simp only [map_ic]); exact (un_join g5 g23 MK).symm
  clear h52
  (repeat ((first | with_reducible apply ck_i | with_reducible apply And.intro); · (first | (simp only [min_if, max_if, ics]; done) | with_reducible rfl | ((try simp only [min_if, max_if, ics]); simp [min_if, max_if, ics, *]; done) | ((try simp only [min_if, max_if, ics]); simp [min_if, max_if, ics, *]; omega))))
  refine letV_j fun u56 h56 => ?_
  obtain rfl : u5 = u56 := by rw [← h56]; (try simp only [map_ic]); exact (un_widen g5 g23 MK).symm
  clear h56
  (repeat ((first | with_reducible apply ck_i | with_reducible apply And.intro); · (first | (simp only [min_if, max_if, ics]; done) | with_reducible rfl | ((try simp only [min_if, max_if, ics]); simp [min_if, max_if, ics, *]; done) | ((try simp only [min_if, max_if, ics]); simp [min_if, max_if, ics, *]; omega))))
  rw [un_within g5 g23 MK]; rfl
theorem cx13_ok : CtxOk Try.prog cx13.q.ctx := (ctx_cons (g := 25) (ctx_cons (g := 31) (ctx_cons (g := 35) (ctx_cons (g := 28) (ctx_cons (g := 61) (ctx_cons (g := 62) (ctx_cons (g := 34) (ctx_cons (g := 63) (ctx_cons (g := 64) (ctx_cons (g := 48) (ctx_cons (g := 47) (ctx_cons (g := 65) ctx_nil (by kernel_rfl) sum65_ok) (by kernel_rfl) sum47_ok) (by kernel_rfl) sum48_ok) (by kernel_rfl) sum64_ok) (by kernel_rfl) sum63_ok) (by kernel_rfl) sum34_ok) (by kernel_rfl) sum62_ok) (by kernel_rfl) sum61_ok) (by kernel_rfl) sum28_ok) (by kernel_rfl) sum35_ok) (by kernel_rfl) sum31_ok) (by kernel_rfl) sum25_ok)
theorem f13_true (a0 : Int) (n : Nat) (cs : List Cell) (n2 : Nat) (cs2 : List Cell) (_ : (Lit.int .i64 a0).wf = true) {D : Nat} (h : TyC Try.prog D 36 [.sl n cs]) {D2 : Nat} (h2 : TyC Try.prog D2 36 [.sl n2 cs2]) : f13_wp a0 n cs n2 cs2 (fun r' => r' = boRet true) := by
  obtain ⟨l, rfl, e, _⟩ := row_ints (k := .i64) (S := [3, 47, 48]) (s := 4) (by kernel_rfl) Try.underlying36 (by decide) (by kernel_rfl) (by decide) h
  obtain ⟨l2, rfl, e2, _⟩ := row_ints (k := .i64) (S := [3, 47, 48]) (s := 4) (by kernel_rfl) Try.underlying36 (by decide) (by kernel_rfl) (by decide) h2
  exact f13_pure a0 n l e n2 l2 e2

end Go.Proofs.Ytgmciihlmgeecaa.Fn
