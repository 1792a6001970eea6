import Derived.Test.YtgmciihlmgeecaaPuN5
import Derived.Test.YtgmciihlmgeecaaWLNumActs
/- NumActs: the law's function tells true. Conditions: none beyond its arguments' types. -/
namespace Go.Proofs.Ytgmciihlmgeecaa.Fn
open Go Go.RowKit Go.Proofs.Ytgmciihlmgeecaa.Mt Go.Proofs.Ytgmciihlmgeecaa.Zm
set_option linter.unusedVariables false
set_option linter.unusedSimpArgs false

theorem okRowU_ic {s n : Nat} {l : List Int} (h : l.length = n * s) : okRowU s (.sl n (ic .i64 l)) = true := by
  simp only [okRowU, Bool.and_eq_true, beq_iff_eq, ic_len]
  exact ⟨ic_all fun _ => rfl, h⟩
theorem same_refl (z : Zo) : sameZ z z = true := by unfold sameZ; exact decide_eq_true rfl
theorem good_of {n : Nat} {z : Zo} (h : Gd n z) : goodZ z = true := good_iff.2 ⟨n, h⟩
theorem numOk_self {n : Nat} {u : Zo} (h : Gd n u) : numOk u.2.1 (.sl (capN u.1).toNat (ic .i64 (itvsZ u (capN u.1).toNat))) u = true := by simp [numOk, eqRow]
theorem applyN_gd {n : Nat} {z : Zo} (h : Gd n z) {m : Nat} {l : List Int} : Gd n (applyN z m l) := by
  unfold applyN
  split
  · exact h
  · exact rowsN_gd h l _

set_option maxHeartbeats 2000000 in
theorem f11_pure (a0 : Int) (zs : Bool) (n : Nat) (l : List Int) (hl : l.length = n * 6) : f11_wp a0 zs n (ic .i64 l) (fun r' => r' = boRet true) := by
  have hk7 := mod_in (a := a0) (m := 7) (by omega) (by omega)
  have ro := okRowU_ic hl
  unfold f11_wp
  generalize IntKind.i64.wrap ((IntKind.u64.wrap a0).tmod 7) = kk at *
  obtain ⟨K, rfl⟩ : ∃ K : Nat, kk = K := ⟨kk.toNat, by omega⟩
  have K6 : K ≤ 6 := by omega
  have zl : List.map intC (List.replicate 49 (Cell.v (Value.int .i64 0))) = zeroL := by rw [rep_ic, map_ic]
  refine letV_j fun u1 h1 => ?_
  have g1 : Gd K u1 := by rw [← h1]; exact (top_rep K6).1
  have l1 : u1.2.2.length = 49 := g1.len
  refine ck_i (by (first | (simp only [ics]; done) | with_reducible rfl | ((try simp only [ics]); simp [ics, *]; done) | ((try simp only [ics]); simp [ics, *]; omega))) ?_
  refine letV_j fun u3 h3 => ?_
  obtain rfl : u1 = u3 := by rw [← h1, ← h3, topR_eq K6]
  have k1 := okL49 l1
  have e1 := eqW49s l1
  have s1 : sameZ u1 u1 = true := same_refl _
  have d1 : goodZ u1 = true := good_of g1
  have o1 := okSl_itvs (z := u1) (t := (capN u1.1).toNat)
  have n1 := numOk_self g1
  have z1 := h1
  have gN := noneZ_gd K6
  clear h3 h1
  (repeat ((first | with_reducible apply ck_i | with_reducible apply And.intro); · (first | (simp only [ics]; done) | with_reducible rfl | ((try simp only [ics]); simp [ics, *]; done) | ((try simp only [ics]); simp [ics, *]; omega))))
  refine cond_i (fun qz => ?_) (fun qz => ?_)
  · refine letV_j fun u8 h8 => ?_
    have g8 : Gd K u8 := by rw [← h8]; exact zeros_gd K6
    have l8 : u8.2.2.length = 49 := g8.len
    have z8 : u8 = zeroGo K u1 := by
      have e := zeroN_eq K6
      unfold zeroN at e
      rw [topR_eq K6, Int.toNat_natCast] at e
      rw [← h8, ← z1, e]
    have m8 : zeroL = u8.2.2 := by rw [← h8]; rfl
    (repeat ((first | with_reducible apply ck_i | with_reducible apply And.intro); · (first | (simp only [ics]; done) | with_reducible rfl | ((try simp only [ics]); simp [ics, *]; done) | ((try simp only [ics]); simp [ics, *]; omega))))
    refine LoopP.ind (I := fun z => 0 ≤ z.1 ∧ z.1 ≤ (K : Int) ∧ z.2 = ((zeroGo z.1.toNat u1).1, (zeroGo z.1.toNat u1).2.1, ic .i64 (zeroGo z.1.toNat u1).2.2)) (μ := fun z => ((K : Int) - z.1).toNat) ?_ ⟨by dsimp only; omega, by dsimp only; omega, rfl⟩
    rintro ⟨x, wn, wb, cs⟩ k0 ⟨i1, i2, i3⟩ hk
    dsimp only at i1 i2 i3 ⊢
    simp only [Prod.mk.injEq] at i3
    obtain ⟨rfl, rfl, rfl⟩ := i3
    have lW := zeroGo_len (t := x.toNat) l1
    have fW : (zeroGo x.toNat u1).1 = K := by rw [zeroGo_fst]; exact g1.hn
    refine cond_i (fun q1 => ?_) (fun q1 => ?_)
    · have q1 := of_decide_eq_true q1
      have hk' := hk (x + 1, (zeroGo (x + 1).toNat u1).1, (zeroGo (x + 1).toNat u1).2.1, ic .i64 (zeroGo (x + 1).toNat u1).2.2) ⟨by dsimp only; omega, by dsimp only; omega, rfl⟩ (by dsimp only; omega)
      rw [show (x + 1).toNat = x.toNat + 1 by omega] at hk'
      unfold zeroGo at hk'
      rw [show ((x.toNat : Nat) : Int) = x by omega] at hk'
      clear hk z8 s1 d1 e1 k1 z1 o1 n1 zl m8
      have hx : in16 x = true := by unfold in16; simp; omega
      generalize zeroGo x.toNat u1 = W at *
      have oW : okN W.1 = true := by rw [fW]; unfold okN; simp; omega
      clear fW g1
      (repeat ((first | with_reducible apply ck_i | with_reducible apply And.intro); · (first | (simp only [ics]; done) | with_reducible rfl | ((try simp only [ics]); simp [ics, *]; done) | ((try simp only [ics]); simp [ics, *]; omega))))
      refine letV_j fun u hu => ?_
      simp only [map_ic, Prod.eta] at hu
      rw [hu] at hk'
      have lu : u.2.2.length = 49 := by rw [← hu]; exact meetR_len lW
      clear hu
      rw [wr1 (by omega) (by omega)]
      (repeat ((first | with_reducible apply ck_i | with_reducible apply And.intro); · (first | (simp only [ics]; done) | with_reducible rfl | ((try simp only [ics]); simp [ics, *]; done) | ((try simp only [ics]); simp [ics, *]; omega))))
      exact hk'
    · have q1 := of_decide_eq_false q1
      have cx : x.toNat = K := by omega
      rw [cx, ← z8]
      clear hk s1 d1 e1 k1 z1 o1 n1 z8 lW fW cx q1
      have s8 : sameZ u8 u8 = true := same_refl _
      have s8' : sameZ (u8.1, u8.2.1, zeroL) u8 = true := by rw [m8]; exact same_refl _
      have d8 : goodZ u8 = true := good_of g8
      have o8 := okSl_itvs (z := u8) (t := (capN u8.1).toNat)
      have n8 := numOk_self g8
      have gA := applyN_gd g8 (m := n) (l := l)
      clear g1 l1 h8 m8
      simp only [zl, map_ic, Prod.eta]
      (repeat ((first | with_reducible apply ck_i | with_reducible apply And.intro); · (first | (simp only [ics]; done) | with_reducible rfl | ((try simp only [ics]); simp [ics, *]; done) | ((try simp only [ics]); simp [ics, *]; omega))))
      refine letV_j fun u28 h28 => ?_
      have s28 : sameZ (u28.1, u28.2.1, zeroL) ((K : Int), true, zeroL) = true := by rw [← h28]; unfold noneZ; rw [capN_id K6]; exact same_refl _
      have d28 : goodZ ((K : Int), true, zeroL) = true := by
        have := good_of gN
        unfold noneZ at this
        rw [capN_id K6] at this
        exact this
      have o28 := okSl_itvs (z := u28) (t := (capN u28.1).toNat)
      have n28 : numOk u28.2.1 (.sl (capN u28.1).toNat (ic .i64 (itvsZ u28 (capN u28.1).toNat))) ((K : Int), true, zeroL) = true := by
        have := numOk_self gN
        rw [h28] at this
        rw [show ((K : Int), true, zeroL) = u28 by rw [← h28]; unfold noneZ; rw [capN_id K6]]
        exact this
      clear h28
      (repeat ((first | with_reducible apply ck_i | with_reducible apply And.intro); · (first | (simp only [ics]; done) | with_reducible rfl | ((try simp only [ics]); simp [ics, *]; done) | ((try simp only [ics]); simp [ics, *]; omega))))
      refine letV_j fun u30 h30 => ?_
      rw [h30] at gA
      have l30 : u30.2.2.length = 49 := gA.len
      clear h30 gA gN
      (repeat ((first | with_reducible apply ck_i | with_reducible apply And.intro); · (first | (simp only [ics]; done) | with_reducible rfl | ((try simp only [ics]); simp [ics, *]; done) | ((try simp only [ics]); simp [ics, *]; omega))))
      rfl
  · (repeat ((first | with_reducible apply ck_i | with_reducible apply And.intro); · (first | (simp only [ics]; done) | with_reducible rfl | ((try simp only [ics]); simp [ics, *]; done) | ((try simp only [ics]); simp [ics, *]; omega))))
    have gA := applyN_gd g1 (m := n) (l := l)
    simp only [zl, map_ic, Prod.eta]
    clear z1
    (repeat ((first | with_reducible apply ck_i | with_reducible apply And.intro); · (first | (simp only [ics]; done) | with_reducible rfl | ((try simp only [ics]); simp [ics, *]; done) | ((try simp only [ics]); simp [ics, *]; omega))))
    refine letV_j fun u28 h28 => ?_
    have s28 : sameZ (u28.1, u28.2.1, zeroL) ((K : Int), true, zeroL) = true := by rw [← h28]; unfold noneZ; rw [capN_id K6]; exact same_refl _
    have d28 : goodZ ((K : Int), true, zeroL) = true := by
      have := good_of gN
      unfold noneZ at this
      rw [capN_id K6] at this
      exact this
    have o28 := okSl_itvs (z := u28) (t := (capN u28.1).toNat)
    have n28 : numOk u28.2.1 (.sl (capN u28.1).toNat (ic .i64 (itvsZ u28 (capN u28.1).toNat))) ((K : Int), true, zeroL) = true := by
      have := numOk_self gN
      rw [h28] at this
      rw [show ((K : Int), true, zeroL) = u28 by rw [← h28]; unfold noneZ; rw [capN_id K6]]
      exact this
    clear h28
    (repeat ((first | with_reducible apply ck_i | with_reducible apply And.intro); · (first | (simp only [ics]; done) | with_reducible rfl | ((try simp only [ics]); simp [ics, *]; done) | ((try simp only [ics]); simp [ics, *]; omega))))
    refine letV_j fun u30 h30 => ?_
    rw [h30] at gA
    have l30 : u30.2.2.length = 49 := gA.len
    clear h30 gA gN
    (repeat ((first | with_reducible apply ck_i | with_reducible apply And.intro); · (first | (simp only [ics]; done) | with_reducible rfl | ((try simp only [ics]); simp [ics, *]; done) | ((try simp only [ics]); simp [ics, *]; omega))))
    rfl
theorem cx11_ok : CtxOk Try.prog cx11.q.ctx := (ctx_cons (g := 51) (ctx_cons (g := 31) (ctx_cons (g := 42) (ctx_cons (g := 55) (ctx_cons (g := 43) (ctx_cons (g := 56) (ctx_cons (g := 57) (ctx_cons (g := 58) ctx_nil (by kernel_rfl) sum58_ok) (by kernel_rfl) sum57_ok) (by kernel_rfl) sum56_ok) (by kernel_rfl) sum43_ok) (by kernel_rfl) sum55_ok) (by kernel_rfl) sum42_ok) (by kernel_rfl) sum31_ok) (by kernel_rfl) sum51_ok)
theorem f11_true (a0 : Int) (a1 : Bool) (n : Nat) (cs : List Cell) (_ : (Lit.int .i64 a0).wf = true) {D : Nat} (h : TyC Try.prog D 72 [.sl n cs]) : f11_wp a0 a1 n cs (fun r' => r' = boRet true) := by
  obtain ⟨l, rfl, e, _⟩ := row_ints (k := .i64) (S := [3, 53, 79, 80]) (s := 6) (by kernel_rfl) Try.underlying72 (by decide) (by kernel_rfl) (by decide) h
  exact f11_pure a0 a1 n l e

end Go.Proofs.Ytgmciihlmgeecaa.Fn
