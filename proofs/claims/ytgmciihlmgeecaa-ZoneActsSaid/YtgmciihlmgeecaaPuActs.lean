import Derived.Test.YtgmciihlmgeecaaPuZC
import Derived.Test.YtgmciihlmgeecaaWLZoneActs
import Derived.Test.YtgmciihlmgeecaaZLaws
/- ZoneActs: the law's function tells true. Conditions: none beyond its arguments' types. -/
namespace Go.Proofs.Ytgmciihlmgeecaa.Fn
open Go Go.RowKit Go.Proofs.Ytgmciihlmgeecaa.Mt Go.Proofs.Ytgmciihlmgeecaa.Zm
set_option linter.unusedVariables false
set_option linter.unusedSimpArgs false

theorem okRowU_ic {s n : Nat} {l : List Int} (h : l.length = n * s) : okRowU s (.sl n (ic .i64 l)) = true := by
  simp only [okRowU, Bool.and_eq_true, beq_iff_eq, ic_len]
  exact ⟨ic_all fun _ => rfl, h⟩
theorem same_refl (z : Zo) : sameZ z z = true := by unfold sameZ; exact decide_eq_true rfl
theorem good_of {n : Nat} {z : Zo} (h : Gd n z) : goodZ z = true := good_iff.2 ⟨n, h⟩

set_option maxHeartbeats 2000000 in
theorem f4_pure (a0 : Int) (zs : Bool) (n : Nat) (l : List Int) (hl : l.length = n * 4) : f4_wp a0 zs n (ic .i64 l) (fun r' => r' = boRet true) := by
  have hk7 := mod_in (a := a0) (m := 7) (by omega) (by omega)
  have ro := okRowU_ic hl
  unfold f4_wp
  generalize IntKind.i64.wrap ((IntKind.u64.wrap a0).tmod 7) = kk at *
  obtain ⟨K, rfl⟩ : ∃ K : Nat, kk = K := ⟨kk.toNat, by omega⟩
  have K6 : K ≤ 6 := by omega
  refine letV_j fun u1 h1 => ?_
  have g1 : Gd K u1 := by rw [← h1]; exact (top_rep K6).1
  have l1 : u1.2.2.length = 49 := g1.len
  refine ck_i (by (first | (simp only [min_if, max_if, ics]; done) | with_reducible rfl | ((try simp only [min_if, max_if, ics]); simp [min_if, max_if, ics, *]; done) | ((try simp only [min_if, max_if, ics]); simp [min_if, max_if, ics, *]; omega))) ?_
  refine letV_j fun u3 h3 => ?_
  obtain rfl : u1 = u3 := by rw [← h1, ← h3, topR_eq K6]
  have k1 := okL49 l1
  have e1 := eqW49s l1
  have s1 : sameZ (u1.1, u1.2.1, u1.2.2) (u1.1, u1.2.1, u1.2.2) = true := same_refl _
  have d1 : goodZ (u1.1, u1.2.1, u1.2.2) = true := good_of g1
  have z1 := h1
  clear h3 h1
  (repeat ((first | with_reducible apply ck_i | with_reducible apply And.intro); · (first | (simp only [min_if, max_if, ics]; done) | with_reducible rfl | ((try simp only [min_if, max_if, ics]); simp [min_if, max_if, ics, *]; done) | ((try simp only [min_if, max_if, ics]); simp [min_if, max_if, ics, *]; omega))))
  refine cond_i (fun qz => ?_) (fun qz => ?_)
  · refine letV_j fun u8 h8 => ?_
    have g8 : Gd K u8 := by rw [← h8]; exact zeros_gd K6
    have l8 : u8.2.2.length = 49 := g8.len
    have z8 : u8 = zerosR.go K u1 := by rw [← h8, ← zerosR_eq K6, ← z1]; show zerosR.go (K : Int).toNat (topR K) = _; rw [Int.toNat_natCast, topR_eq K6]
    have m8 : List.map intC (List.replicate 49 (Cell.v (Value.int .i64 0))) = u8.2.2 := by rw [← h8, rep_ic, map_ic]; rfl
    have m9 : List.replicate 49 (Cell.v (Value.int .i64 0)) = ic .i64 u8.2.2 := by rw [← h8, rep_ic]; rfl
    simp only [m8]
    simp only [m9]
    clear m8 m9
    (repeat ((first | with_reducible apply ck_i | with_reducible apply And.intro); · (first | (simp only [min_if, max_if, ics]; done) | with_reducible rfl | ((try simp only [min_if, max_if, ics]); simp [min_if, max_if, ics, *]; done) | ((try simp only [min_if, max_if, ics]); simp [min_if, max_if, ics, *]; omega))))
    refine LoopP.ind (I := fun z => 0 ≤ z.1 ∧ z.1 ≤ (K : Int) ∧ z.2 = ((zerosR.go z.1.toNat u1).1, (zerosR.go z.1.toNat u1).2.1, ic .i64 (zerosR.go z.1.toNat u1).2.2)) (μ := fun z => ((K : Int) - z.1).toNat) ?_ ⟨by dsimp only; omega, by dsimp only; omega, rfl⟩
    rintro ⟨x, wn, wb, cs⟩ k0 ⟨i1, i2, i3⟩ hk
    dsimp only at i1 i2 i3 ⊢
    simp only [Prod.mk.injEq] at i3
    obtain ⟨rfl, rfl, rfl⟩ := i3
    have gW : Gd K (zerosR.go x.toNat u1) := by rw [← z1]; exact (zerosR_go K6 x.toNat (by omega)).1
    refine cond_i (fun q1 => ?_) (fun q1 => ?_)
    · have q1 := of_decide_eq_true q1
      have hk' := hk (x + 1, (zerosR.go (x + 1).toNat u1).1, (zerosR.go (x + 1).toNat u1).2.1, ic .i64 (zerosR.go (x + 1).toNat u1).2.2) ⟨by dsimp only; omega, by dsimp only; omega, rfl⟩ (by dsimp only; omega)
      rw [show (x + 1).toNat = x.toNat + 1 by omega] at hk'
      unfold zerosR.go at hk'
      rw [show ((x.toNat : Nat) : Int) = x by omega] at hk'
      clear hk z8 s1 d1 e1 k1 z1
      have hx : in16 x = true := by unfold in16; simp; omega
      have hm : in16 (-1) = true := rfl
      generalize zerosR.go x.toNat u1 = W at *
      have lW : W.2.2.length = 49 := gW.len
      have oW : okN W.1 = true := gW.okN
      have gB : Gd K (boundR W x (-1) 0) := by rw [boundR_eq gW (by omega) (by omega) (by omega)]; exact bound_gd gW
      have gB2 : Gd K (boundR (boundR W x (-1) 0) (-1) x 0) := by rw [boundR_eq gB (by omega) (by omega) (by omega)]; exact bound_gd gB
      rw [wr1 (by omega) (by omega)]
      (repeat ((first | with_reducible apply ck_i | with_reducible apply And.intro); · (first | (simp only [min_if, max_if, ics]; done) | with_reducible rfl | ((try simp only [min_if, max_if, ics]); simp [min_if, max_if, ics, *]; done) | ((try simp only [min_if, max_if, ics]); simp [min_if, max_if, ics, *]; omega))))
      refine letV_j fun u26 h26 => ?_
      simp only [map_ic, Prod.eta] at h26
      rw [h26] at gB gB2 hk'
      have l26 : u26.2.2.length = 49 := gB.len
      have o26 : okN u26.1 = true := gB.okN
      clear h26
      (repeat ((first | with_reducible apply ck_i | with_reducible apply And.intro); · (first | (simp only [min_if, max_if, ics]; done) | with_reducible rfl | ((try simp only [min_if, max_if, ics]); simp [min_if, max_if, ics, *]; done) | ((try simp only [min_if, max_if, ics]); simp [min_if, max_if, ics, *]; omega))))
      refine letV_j fun u28 h28 => ?_
      simp only [map_ic, Prod.eta] at h28
      rw [h28] at gB2 hk'
      have l28 : u28.2.2.length = 49 := gB2.len
      clear h28
      (repeat ((first | with_reducible apply ck_i | with_reducible apply And.intro); · (first | (simp only [min_if, max_if, ics]; done) | with_reducible rfl | ((try simp only [min_if, max_if, ics]); simp [min_if, max_if, ics, *]; done) | ((try simp only [min_if, max_if, ics]); simp [min_if, max_if, ics, *]; omega))))
      exact hk'
    · have q1 := of_decide_eq_false q1
      rw [show x.toNat = K by omega, ← z8]
      clear hk z8 s1 d1 e1 k1 z1 gW g1
      have g1 := g8
      have k8 := okL49 l8
      have e8 := eqW49s l8
      have s8 : sameZ (u8.1, u8.2.1, u8.2.2) (u8.1, u8.2.1, u8.2.2) = true := same_refl _
      have d8 : goodZ (u8.1, u8.2.1, u8.2.2) = true := good_of g8
      simp only [map_ic]
      (repeat ((first | with_reducible apply ck_i | with_reducible apply And.intro); · (first | (simp only [min_if, max_if, ics]; done) | with_reducible rfl | ((try simp only [min_if, max_if, ics]); simp [min_if, max_if, ics, *]; done) | ((try simp only [min_if, max_if, ics]); simp [min_if, max_if, ics, *]; omega))))
      refine letV_j fun u35 hu35 => ?_
      simp only [map_ic, Prod.eta] at hu35
      have gU := apply_gd g1 (m := n) (l := l)
      rw [hu35] at gU
      have lU : u35.2.2.length = 49 := gU.len
      clear hu35
      (repeat ((first | with_reducible apply ck_i | with_reducible apply And.intro); · (first | (simp only [min_if, max_if, ics]; done) | with_reducible rfl | ((try simp only [min_if, max_if, ics]); simp [min_if, max_if, ics, *]; done) | ((try simp only [min_if, max_if, ics]); simp [min_if, max_if, ics, *]; omega))))
      refine LoopP.ind (I := fun z => 0 ≤ z ∧ z ≤ (K : Int)) (μ := fun z => ((K : Int) - z).toNat) ?_ ⟨by omega, by omega⟩
      rintro x k1 ⟨x1, x2⟩ hk1
      refine cond_i (fun q => ?_) (fun q => ?_)
      · have q : x < K := of_decide_eq_true q
        have hk' := hk1 (x + 1) ⟨by omega, by omega⟩ (by omega)
        rw [wr1 (by omega) (by omega)]
        clear hk1
        (repeat ((first | with_reducible apply ck_i | with_reducible apply And.intro); · (first | (simp only [min_if, max_if, ics]; done) | with_reducible rfl | ((try simp only [min_if, max_if, ics]); simp [min_if, max_if, ics, *]; done) | ((try simp only [min_if, max_if, ics]); simp [min_if, max_if, ics, *]; omega))))
        refine letV_j fun v hv => ?_
        (try rw [map_ic] at hv)
        refine ck_i (by (first | (simp only [min_if, max_if, ics]; done) | with_reducible rfl | ((try simp only [min_if, max_if, ics]); simp [min_if, max_if, ics, *]; done) | ((try simp only [min_if, max_if, ics]); simp [min_if, max_if, ics, *]; omega))) ?_
        refine cond_i (fun nb => ?_) (fun nb => ?_)
        · have e : itvZ u35 x = (1, 0) := itv_none nb
          obtain rfl : v = (1, 0) := by rw [← hv]; exact e
          clear hv e
          simp only [nb, Bool.not_true, cond_false]
          (repeat ((first | with_reducible apply ck_i | with_reducible apply And.intro); · (first | (simp only [min_if, max_if, ics]; done) | with_reducible rfl | ((try simp only [min_if, max_if, ics]); simp [min_if, max_if, ics, *]; done) | ((try simp only [min_if, max_if, ics]); simp [min_if, max_if, ics, *]; omega))))
          exact hk'
        · obtain ⟨e, r1, r2, r3⟩ := itv_in gU nb (x := x) (by omega)
          obtain rfl : v = (- g u35.2.2 0 (x + 1).toNat, g u35.2.2 (x + 1).toNat 0) := by rw [← hv]; exact e
          clear hv e
          simp only [nb, Bool.not_false, cond_true]
          simp only [min_if, max_if, ics]
          rw [IntWalk.i64_in (0 - g u35.2.2 0 (x + 1).toNat) ⟨by omega, by omega⟩, Int.zero_sub]
          (repeat ((first | with_reducible apply ck_i | with_reducible apply And.intro); · (first | (simp only [min_if, max_if, ics]; done) | with_reducible rfl | ((try simp only [min_if, max_if, ics]); simp [min_if, max_if, ics, *]; done) | ((try simp only [min_if, max_if, ics]); simp [min_if, max_if, ics, *]; omega))))
          exact hk'
      · have q : ¬ x < K := of_decide_eq_false q
        clear hk1
        (repeat ((first | with_reducible apply ck_i | with_reducible apply And.intro); · (first | (simp only [min_if, max_if, ics]; done) | with_reducible rfl | ((try simp only [min_if, max_if, ics]); simp [min_if, max_if, ics, *]; done) | ((try simp only [min_if, max_if, ics]); simp [min_if, max_if, ics, *]; omega))))
        refine letV_j fun v hv => ?_
        obtain rfl : v = (1, 0) := by rw [← hv]; (try rw [map_ic]); exact itv_out gU (by omega)
        clear hv
        (repeat ((first | with_reducible apply ck_i | with_reducible apply And.intro); · (first | (simp only [min_if, max_if, ics]; done) | with_reducible rfl | ((try simp only [min_if, max_if, ics]); simp [min_if, max_if, ics, *]; done) | ((try simp only [min_if, max_if, ics]); simp [min_if, max_if, ics, *]; omega))))
        refine letV_j fun v hv => ?_
        obtain rfl : v = (1, 0) := by rw [← hv]; (try rw [map_ic]); exact itv_out gU (by omega)
        rfl
  · have z1 := 0
    (repeat ((first | with_reducible apply ck_i | with_reducible apply And.intro); · (first | (simp only [min_if, max_if, ics]; done) | with_reducible rfl | ((try simp only [min_if, max_if, ics]); simp [min_if, max_if, ics, *]; done) | ((try simp only [min_if, max_if, ics]); simp [min_if, max_if, ics, *]; omega))))
    refine letV_j fun u101 hu101 => ?_
    simp only [map_ic, Prod.eta] at hu101
    have gU := apply_gd g1 (m := n) (l := l)
    rw [hu101] at gU
    have lU : u101.2.2.length = 49 := gU.len
    clear hu101
    (repeat ((first | with_reducible apply ck_i | with_reducible apply And.intro); · (first | (simp only [min_if, max_if, ics]; done) | with_reducible rfl | ((try simp only [min_if, max_if, ics]); simp [min_if, max_if, ics, *]; done) | ((try simp only [min_if, max_if, ics]); simp [min_if, max_if, ics, *]; omega))))
    refine LoopP.ind (I := fun z => 0 ≤ z ∧ z ≤ (K : Int)) (μ := fun z => ((K : Int) - z).toNat) ?_ ⟨by omega, by omega⟩
    rintro x k1 ⟨x1, x2⟩ hk1
    refine cond_i (fun q => ?_) (fun q => ?_)
    · have q : x < K := of_decide_eq_true q
      have hk' := hk1 (x + 1) ⟨by omega, by omega⟩ (by omega)
      rw [wr1 (by omega) (by omega)]
      clear hk1
      (repeat ((first | with_reducible apply ck_i | with_reducible apply And.intro); · (first | (simp only [min_if, max_if, ics]; done) | with_reducible rfl | ((try simp only [min_if, max_if, ics]); simp [min_if, max_if, ics, *]; done) | ((try simp only [min_if, max_if, ics]); simp [min_if, max_if, ics, *]; omega))))
      refine letV_j fun v hv => ?_
      (try rw [map_ic] at hv)
      refine ck_i (by (first | (simp only [min_if, max_if, ics]; done) | with_reducible rfl | ((try simp only [min_if, max_if, ics]); simp [min_if, max_if, ics, *]; done) | ((try simp only [min_if, max_if, ics]); simp [min_if, max_if, ics, *]; omega))) ?_
      refine cond_i (fun nb => ?_) (fun nb => ?_)
      · have e : itvZ u101 x = (1, 0) := itv_none nb
        obtain rfl : v = (1, 0) := by rw [← hv]; exact e
        clear hv e
        simp only [nb, Bool.not_true, cond_false]
        (repeat ((first | with_reducible apply ck_i | with_reducible apply And.intro); · (first | (simp only [min_if, max_if, ics]; done) | with_reducible rfl | ((try simp only [min_if, max_if, ics]); simp [min_if, max_if, ics, *]; done) | ((try simp only [min_if, max_if, ics]); simp [min_if, max_if, ics, *]; omega))))
        exact hk'
      · obtain ⟨e, r1, r2, r3⟩ := itv_in gU nb (x := x) (by omega)
        obtain rfl : v = (- g u101.2.2 0 (x + 1).toNat, g u101.2.2 (x + 1).toNat 0) := by rw [← hv]; exact e
        clear hv e
        simp only [nb, Bool.not_false, cond_true]
        simp only [min_if, max_if, ics]
        rw [IntWalk.i64_in (0 - g u101.2.2 0 (x + 1).toNat) ⟨by omega, by omega⟩, Int.zero_sub]
        (repeat ((first | with_reducible apply ck_i | with_reducible apply And.intro); · (first | (simp only [min_if, max_if, ics]; done) | with_reducible rfl | ((try simp only [min_if, max_if, ics]); simp [min_if, max_if, ics, *]; done) | ((try simp only [min_if, max_if, ics]); simp [min_if, max_if, ics, *]; omega))))
        exact hk'
    · have q : ¬ x < K := of_decide_eq_false q
      clear hk1
      (repeat ((first | with_reducible apply ck_i | with_reducible apply And.intro); · (first | (simp only [min_if, max_if, ics]; done) | with_reducible rfl | ((try simp only [min_if, max_if, ics]); simp [min_if, max_if, ics, *]; done) | ((try simp only [min_if, max_if, ics]); simp [min_if, max_if, ics, *]; omega))))
      refine letV_j fun v hv => ?_
      obtain rfl : v = (1, 0) := by rw [← hv]; (try rw [map_ic]); exact itv_out gU (by omega)
      clear hv
      (repeat ((first | with_reducible apply ck_i | with_reducible apply And.intro); · (first | (simp only [min_if, max_if, ics]; done) | with_reducible rfl | ((try simp only [min_if, max_if, ics]); simp [min_if, max_if, ics, *]; done) | ((try simp only [min_if, max_if, ics]); simp [min_if, max_if, ics, *]; omega))))
      refine letV_j fun v hv => ?_
      obtain rfl : v = (1, 0) := by rw [← hv]; (try rw [map_ic]); exact itv_out gU (by omega)
      rfl
theorem cx4_ok : CtxOk Try.prog cx4.q.ctx := (ctx_cons (g := 25) (ctx_cons (g := 31) (ctx_cons (g := 32) (ctx_cons (g := 33) (ctx_cons (g := 28) (ctx_cons (g := 34) (ctx_cons (g := 35) (ctx_cons (g := 29) (ctx_cons (g := 36) ctx_nil (by kernel_rfl) sum36_ok) (by kernel_rfl) sum29_ok) (by kernel_rfl) sum35_ok) (by kernel_rfl) sum34_ok) (by kernel_rfl) sum28_ok) (by kernel_rfl) sum33_ok) (by kernel_rfl) sum32_ok) (by kernel_rfl) sum31_ok) (by kernel_rfl) sum25_ok)
theorem f4_true (a0 : Int) (a1 : Bool) (n : Nat) (cs : List Cell) (_ : (Lit.int .i64 a0).wf = true) {D : Nat} (h : TyC Try.prog D 36 [.sl n cs]) : f4_wp a0 a1 n cs (fun r' => r' = boRet true) := by
  obtain ⟨l, rfl, e, _⟩ := row_ints (k := .i64) (S := [3, 47, 48]) (s := 4) (by kernel_rfl) Try.underlying36 (by decide) (by kernel_rfl) (by decide) h
  exact f4_pure a0 a1 n l e

end Go.Proofs.Ytgmciihlmgeecaa.Fn
