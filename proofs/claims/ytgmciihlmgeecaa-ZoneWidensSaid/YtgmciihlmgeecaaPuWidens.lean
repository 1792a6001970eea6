import Derived.Test.YtgmciihlmgeecaaPuZB
import Derived.Test.YtgmciihlmgeecaaPuZC
import Derived.Test.YtgmciihlmgeecaaZWid
import Derived.Test.YtgmciihlmgeecaaWLZoneWidens
/- ZoneWidens: the law's function tells true. Conditions: none beyond its arguments' types. -/
namespace Go.Proofs.Ytgmciihlmgeecaa.Fn
open Go Go.RowKit Go.Proofs.Ytgmciihlmgeecaa.Mt Go.Proofs.Ytgmciihlmgeecaa.Zm
set_option linter.unusedVariables false
set_option linter.unusedSimpArgs false

theorem okRowU_ic {s n : Nat} {l : List Int} (h : l.length = n * s) : okRowU s (.sl n (ic .i64 l)) = true := by
  simp only [okRowU, Bool.and_eq_true, beq_iff_eq, ic_len]
  exact ⟨ic_all fun _ => rfl, h⟩
theorem same_refl (z : Zo) : sameZ z z = true := by unfold sameZ; exact decide_eq_true rfl
theorem good_of {n : Nat} {z : Zo} (h : Gd n z) : goodZ z = true := good_iff.2 ⟨n, h⟩
theorem within_trans {n : Nat} {a b c : Zo} (h : Gd n a) (h' : Gd n b) (h'' : Gd n c) (w1 : withinZ a b = true) (w2 : withinZ b c = true) : withinZ a c = true := by
  rcases (Zm.within_iff h h').1 w1 with e | ⟨e1, e2, l1⟩
  · exact (Zm.within_iff h h'').2 (.inl e)
  · rcases (Zm.within_iff h' h'').1 w2 with e | ⟨_, e3, l2⟩
    · rw [e2] at e; cases e
    · exact (Zm.within_iff h h'').2 (.inr ⟨e1, e3, fun i j hi hj => Int.le_trans (l1 i j hi hj) (l2 i j hi hj)⟩)

set_option maxHeartbeats 2000000 in
set_option maxRecDepth 100000 in
theorem f14_pure (a0 : Int) (n : Nat) (cs : List Cell) (hl : cs.length = n) (hc : ∀ i, i < n → ∃ m l, cs.getD i .dead = .sl m (ic .i64 l) ∧ l.length = m * 4) : f14_wp a0 n cs (fun r' => r' = boRet true) := by
  have hk7 := mod_in (a := a0) (m := 7) (by omega) (by omega)
  unfold f14_wp
  generalize IntKind.i64.wrap ((IntKind.u64.wrap a0).tmod 7) = kk at *
  obtain ⟨K, rfl⟩ : ∃ K : Nat, kk = K := ⟨kk.toNat, by omega⟩
  have K6 : K ≤ 6 := by omega
  rw [show List.map intC (List.replicate 49 (Cell.v (Value.int IntKind.i64 0))) = zeroL by kernel_rfl, show List.replicate 49 (Cell.v (Value.int IntKind.i64 0)) = ic .i64 zeroL by kernel_rfl]
  refine letV_j fun u1 h1 => ?_
  have e1 : zeroL = u1.2.2 := by rw [← h1]; rfl
  have g1 : Gd K u1 := by rw [← h1]; exact zeros_gd K6
  have s1 : sameZ (u1.1, u1.2.1, u1.2.2) (u1.1, u1.2.1, u1.2.2) = true := same_refl _
  have d1 : goodZ (u1.1, u1.2.1, u1.2.2) = true := good_of g1
  have o1 : okN (K : Int) = true := by have := g1.okN; rwa [g1.hn] at this
  have r1 : zerosR (K : Int) = u1 := by rw [zerosR_eq K6, h1]
  have l1 : u1.2.2.length = 49 := g1.len
  rw [e1]
  refine letV_j fun u2 h2 => ?_
  simp only [Prod.eta] at h2
  have g2 : Gd K u2 := by rw [← h2]; exact bound_gd g1
  have l2 : u2.2.2.length = 49 := g2.len
  clear h2
  (repeat ((first | with_reducible apply ck_i | with_reducible apply And.intro); · (first | (simp only [min_if, max_if, ics]; done) | with_reducible rfl | ((try simp only [min_if, max_if, ics]); simp [min_if, max_if, ics, *]; done) | ((try simp only [min_if, max_if, ics]); simp [min_if, max_if, ics, *]; omega))))
  refine cond_i (fun q => ?_) (fun q => ?_)
  · have q' : K = 0 := by simpa using q
    refine letV_j fun u6 h6 => ?_
    have g6 : Gd K u6 := by rw [← h6, q']; exact (top_rep (n := 0) (by omega)).1
    have e6 : u1.2.2 = u6.2.2 := by rw [← e1, ← h6]; kernel_rfl
    clear q q'
    (repeat ((first | with_reducible apply ck_i | with_reducible apply And.intro); · (first | (simp only [min_if, max_if, ics]; done) | with_reducible rfl | ((try simp only [min_if, max_if, ics]); simp [min_if, max_if, ics, *]; done) | ((try simp only [min_if, max_if, ics]); simp [min_if, max_if, ics, *]; omega))))
    refine LoopP.ind (I := fun s => 0 ≤ s.1 ∧ 0 ≤ s.2.1 ∧ s.2.1 ≤ 40 ∧ ∃ w : Zo, s.2.2 = (w.1, w.2.1, ic .i64 w.2.2) ∧ Gd K w ∧ s.1 + ((pot K w : Nat) : Int) ≤ 14) (μ := fun s => (40 - s.2.1).toNat) ?_ ⟨by dsimp only; omega, by dsimp only; omega, by dsimp only; omega, u6, by rw [e6], g6, by have := pot_le K K6 u6; dsimp only; omega⟩
    clear e6 h6
    rintro ⟨c, i, n0, b0, c0⟩ k0 ⟨p0, p1, p2, w, ew, gw, pw⟩ hk
    simp only [Prod.mk.injEq] at ew
    obtain ⟨rfl, rfl, rfl⟩ := ew
    dsimp only at p0 p1 p2 pw ⊢
    have lw : w.2.2.length = 49 := gw.len
    have kw := okL49 lw
    have c14 : c ≤ 14 := by omega
    have fin : decide (c ≤ 14) = true := decide_eq_true c14
    refine cond_i (fun q1 => ?_) (fun q1 => ?_)
    · have q1 : i < n := of_decide_eq_true q1
      refine cond_i (fun q2 => ?_) (fun q2 => ?_)
      · have q2 : i < 40 := of_decide_eq_true q2
        obtain ⟨m, l, ec, hm⟩ := hc i.toNat (by omega)
        have ro := okRowU_ic hm
        refine letV_j fun u58 h58 => ?_
        obtain rfl : u1 = u58 := by rw [← h58, h1]
        clear h58
        refine letV_j fun u59 h59 => ?_
        obtain rfl : u1 = u59 := by rw [← h59, r1]
        clear h59
        rw [Nat.mul_one, ec]
        refine ck_i (by (first | (simp only [min_if, max_if, ics]; done) | with_reducible rfl | ((try simp only [min_if, max_if, ics]); simp [min_if, max_if, ics, *]; done) | ((try simp only [min_if, max_if, ics]); simp [min_if, max_if, ics, *]; omega))) ?_
        refine ck_i (by simp [hl]; omega) ?_
        refine ck_i (by simp [hl]; omega) ?_
        refine letV_j fun u63 h63 => ?_
        have h63 : applyZ (u1.1, u1.2.1, u1.2.2) m (List.map intC (ic .i64 l)) = u63 := h63
        simp only [map_ic, Prod.eta] at h63
        have g63 := apply_gd g1 (m := m) (l := l)
        rw [h63] at g63
        have l63 : u63.2.2.length = 49 := g63.len
        clear h63
        (repeat ((first | with_reducible apply ck_i | with_reducible apply And.intro); · (first | (simp only [min_if, max_if, ics]; done) | with_reducible rfl | ((try simp only [min_if, max_if, ics]); simp [min_if, max_if, ics, *]; done) | ((try simp only [min_if, max_if, ics]); simp [min_if, max_if, ics, *]; omega))))
        refine letV_j fun u68 h68 => ?_
        simp only [map_ic, Prod.eta] at h68
        have g68 := join_gd gw g63
        have w68 := within_join2 gw g63
        rw [h68] at g68 w68
        have l68 : u68.2.2.length = 49 := g68.len
        clear h68
        (repeat ((first | with_reducible apply ck_i | with_reducible apply And.intro); · (first | (simp only [min_if, max_if, ics]; done) | with_reducible rfl | ((try simp only [min_if, max_if, ics]); simp [min_if, max_if, ics, *]; done) | ((try simp only [min_if, max_if, ics]); simp [min_if, max_if, ics, *]; omega))))
        refine letV_j fun u70 h70 => ?_
        simp only [map_ic, Prod.eta] at h70
        have g70 := widen_gd gw g68
        obtain ⟨v1, v2⟩ := within_widen gw g68
        have ps := pot_step gw g68
        rw [h70] at g70 v1 v2 ps
        have l70 : u70.2.2.length = 49 := g70.len
        have k70 := okL49 l70
        have w70 := within_trans g63 g68 g70 w68 v1
        have w1 : IntKind.i64.wrap (c + 1) = c + 1 := wr1 (by omega) (by omega)
        have w2 : IntKind.i64.wrap (i + 1) = i + 1 := wr1 (by omega) (by omega)
        clear h70 v1 w68
        (repeat ((first | with_reducible apply ck_i | with_reducible apply And.intro); · (first | (simp only [min_if, max_if, ics]; done) | with_reducible rfl | ((try simp only [min_if, max_if, ics]); simp [min_if, max_if, ics, *]; done) | ((try simp only [min_if, max_if, ics]); simp [min_if, max_if, ics, *]; omega))))
        rw [eqW49 l70 lw]
        refine cond_i (fun q3 => ?_) (fun q3 => ?_)
        · have ne : u70 ≠ w := fun e => by rw [e] at q3; simp at q3
          have ps := ps ne
          have hk' := hk (c + 1, i + 1, u70.1, u70.2.1, ic .i64 u70.2.2) ⟨by dsimp only; omega, by dsimp only; omega, by dsimp only; omega, u70, rfl, g70, by dsimp only; omega⟩ (by dsimp only; omega)
          clear hk
          rw [w1, w2]
          (repeat ((first | with_reducible apply ck_i | with_reducible apply And.intro); · (first | (simp only [min_if, max_if, ics]; done) | with_reducible rfl | ((try simp only [min_if, max_if, ics]); simp [min_if, max_if, ics, *]; done) | ((try simp only [min_if, max_if, ics]); simp [min_if, max_if, ics, *]; omega))))
          exact hk'
        · have eq : u70 = w := by
            simp only [Bool.not_eq_false', Bool.and_eq_true, beq_iff_eq, decide_eq_true_eq] at q3
            exact Prod.ext q3.1 (Prod.ext q3.2.1 q3.2.2)
          subst eq
          have hk' := hk (c, i + 1, u70.1, u70.2.1, ic .i64 u70.2.2) ⟨by dsimp only; omega, by dsimp only; omega, by dsimp only; omega, u70, rfl, g70, by dsimp only; omega⟩ (by dsimp only; omega)
          clear hk
          rw [w2]
          (repeat ((first | with_reducible apply ck_i | with_reducible apply And.intro); · (first | (simp only [min_if, max_if, ics]; done) | with_reducible rfl | ((try simp only [min_if, max_if, ics]); simp [min_if, max_if, ics, *]; done) | ((try simp only [min_if, max_if, ics]); simp [min_if, max_if, ics, *]; omega))))
          exact hk'
      · rw [fin]; rfl
    · rw [fin]; rfl
  · clear q
    (repeat ((first | with_reducible apply ck_i | with_reducible apply And.intro); · (first | (simp only [min_if, max_if, ics]; done) | with_reducible rfl | ((try simp only [min_if, max_if, ics]); simp [min_if, max_if, ics, *]; done) | ((try simp only [min_if, max_if, ics]); simp [min_if, max_if, ics, *]; omega))))
    refine LoopP.ind (I := fun s => 0 ≤ s.1 ∧ 0 ≤ s.2.1 ∧ s.2.1 ≤ 40 ∧ ∃ w : Zo, s.2.2 = (w.1, w.2.1, ic .i64 w.2.2) ∧ Gd K w ∧ s.1 + ((pot K w : Nat) : Int) ≤ 14) (μ := fun s => (40 - s.2.1).toNat) ?_ ⟨by dsimp only; omega, by dsimp only; omega, by dsimp only; omega, u2, rfl, g2, by have := pot_le K K6 u2; dsimp only; omega⟩
    rintro ⟨c, i, n0, b0, c0⟩ k0 ⟨p0, p1, p2, w, ew, gw, pw⟩ hk
    simp only [Prod.mk.injEq] at ew
    obtain ⟨rfl, rfl, rfl⟩ := ew
    dsimp only at p0 p1 p2 pw ⊢
    have lw : w.2.2.length = 49 := gw.len
    have kw := okL49 lw
    have c14 : c ≤ 14 := by omega
    have fin : decide (c ≤ 14) = true := decide_eq_true c14
    refine cond_i (fun q1 => ?_) (fun q1 => ?_)
    · have q1 : i < n := of_decide_eq_true q1
      refine cond_i (fun q2 => ?_) (fun q2 => ?_)
      · have q2 : i < 40 := of_decide_eq_true q2
        obtain ⟨m, l, ec, hm⟩ := hc i.toNat (by omega)
        have ro := okRowU_ic hm
        refine letV_j fun u58 h58 => ?_
        obtain rfl : u1 = u58 := by rw [← h58, h1]
        clear h58
        refine letV_j fun u59 h59 => ?_
        obtain rfl : u1 = u59 := by rw [← h59, r1]
        clear h59
        rw [Nat.mul_one, ec]
        refine ck_i (by (first | (simp only [min_if, max_if, ics]; done) | with_reducible rfl | ((try simp only [min_if, max_if, ics]); simp [min_if, max_if, ics, *]; done) | ((try simp only [min_if, max_if, ics]); simp [min_if, max_if, ics, *]; omega))) ?_
        refine ck_i (by simp [hl]; omega) ?_
        refine ck_i (by simp [hl]; omega) ?_
        refine letV_j fun u63 h63 => ?_
        have h63 : applyZ (u1.1, u1.2.1, u1.2.2) m (List.map intC (ic .i64 l)) = u63 := h63
        simp only [map_ic, Prod.eta] at h63
        have g63 := apply_gd g1 (m := m) (l := l)
        rw [h63] at g63
        have l63 : u63.2.2.length = 49 := g63.len
        clear h63
        (repeat ((first | with_reducible apply ck_i | with_reducible apply And.intro); · (first | (simp only [min_if, max_if, ics]; done) | with_reducible rfl | ((try simp only [min_if, max_if, ics]); simp [min_if, max_if, ics, *]; done) | ((try simp only [min_if, max_if, ics]); simp [min_if, max_if, ics, *]; omega))))
        refine letV_j fun u68 h68 => ?_
        simp only [map_ic, Prod.eta] at h68
        have g68 := join_gd gw g63
        have w68 := within_join2 gw g63
        rw [h68] at g68 w68
        have l68 : u68.2.2.length = 49 := g68.len
        clear h68
        (repeat ((first | with_reducible apply ck_i | with_reducible apply And.intro); · (first | (simp only [min_if, max_if, ics]; done) | with_reducible rfl | ((try simp only [min_if, max_if, ics]); simp [min_if, max_if, ics, *]; done) | ((try simp only [min_if, max_if, ics]); simp [min_if, max_if, ics, *]; omega))))
        refine letV_j fun u70 h70 => ?_
        simp only [map_ic, Prod.eta] at h70
        have g70 := widen_gd gw g68
        obtain ⟨v1, v2⟩ := within_widen gw g68
        have ps := pot_step gw g68
        rw [h70] at g70 v1 v2 ps
        have l70 : u70.2.2.length = 49 := g70.len
        have k70 := okL49 l70
        have w70 := within_trans g63 g68 g70 w68 v1
        have w1 : IntKind.i64.wrap (c + 1) = c + 1 := wr1 (by omega) (by omega)
        have w2 : IntKind.i64.wrap (i + 1) = i + 1 := wr1 (by omega) (by omega)
        clear h70 v1 w68
        (repeat ((first | with_reducible apply ck_i | with_reducible apply And.intro); · (first | (simp only [min_if, max_if, ics]; done) | with_reducible rfl | ((try simp only [min_if, max_if, ics]); simp [min_if, max_if, ics, *]; done) | ((try simp only [min_if, max_if, ics]); simp [min_if, max_if, ics, *]; omega))))
        rw [eqW49 l70 lw]
        refine cond_i (fun q3 => ?_) (fun q3 => ?_)
        · have ne : u70 ≠ w := fun e => by rw [e] at q3; simp at q3
          have ps := ps ne
          have hk' := hk (c + 1, i + 1, u70.1, u70.2.1, ic .i64 u70.2.2) ⟨by dsimp only; omega, by dsimp only; omega, by dsimp only; omega, u70, rfl, g70, by dsimp only; omega⟩ (by dsimp only; omega)
          clear hk
          rw [w1, w2]
          (repeat ((first | with_reducible apply ck_i | with_reducible apply And.intro); · (first | (simp only [min_if, max_if, ics]; done) | with_reducible rfl | ((try simp only [min_if, max_if, ics]); simp [min_if, max_if, ics, *]; done) | ((try simp only [min_if, max_if, ics]); simp [min_if, max_if, ics, *]; omega))))
          exact hk'
        · have eq : u70 = w := by
            simp only [Bool.not_eq_false', Bool.and_eq_true, beq_iff_eq, decide_eq_true_eq] at q3
            exact Prod.ext q3.1 (Prod.ext q3.2.1 q3.2.2)
          subst eq
          have hk' := hk (c, i + 1, u70.1, u70.2.1, ic .i64 u70.2.2) ⟨by dsimp only; omega, by dsimp only; omega, by dsimp only; omega, u70, rfl, g70, by dsimp only; omega⟩ (by dsimp only; omega)
          clear hk
          rw [w2]
          (repeat ((first | with_reducible apply ck_i | with_reducible apply And.intro); · (first | (simp only [min_if, max_if, ics]; done) | with_reducible rfl | ((try simp only [min_if, max_if, ics]); simp [min_if, max_if, ics, *]; done) | ((try simp only [min_if, max_if, ics]); simp [min_if, max_if, ics, *]; omega))))
          exact hk'
      · rw [fin]; rfl
    · rw [fin]; rfl
theorem cx14_ok : CtxOk Try.prog cx14.q.ctx := (ctx_cons (g := 32) (ctx_cons (g := 26) (ctx_cons (g := 25) (ctx_cons (g := 66) (ctx_cons (g := 35) (ctx_cons (g := 61) (ctx_cons (g := 62) (ctx_cons (g := 47) (ctx_cons (g := 28) ctx_nil (by kernel_rfl) sum28_ok) (by kernel_rfl) sum47_ok) (by kernel_rfl) sum62_ok) (by kernel_rfl) sum61_ok) (by kernel_rfl) sum35_ok) (by kernel_rfl) sum66_ok) (by kernel_rfl) sum25_ok) (by kernel_rfl) sum26_ok) (by kernel_rfl) sum32_ok)
theorem row_rows {P : Program} {t e e2 : TypeId} (hu : P.underlying t = some (.slice e)) (hu2 : P.underlying e = some (.slice e2)) (hs : P.cellsOf e = 1) {k : IntKind} {S : List TypeId} (hS : intsT P k S = true) (he : e2 ∈ S) {s : Nat} (hs2 : P.cellsOf e2 = s) (hs0 : 0 < s) {D n : Nat} {cs : List Cell} (h : TyC P D t [.sl n cs]) :
    cs.length = n ∧ ∀ i, i < n → ∃ m l, cs.getD i .dead = .sl m (ic k l) ∧ l.length = m * s := by
  cases D with
  | zero => exact h.elim
  | succ D =>
    unfold TyC at h
    rw [hu] at h
    obtain ⟨n', es, h1, h2, h3, h4⟩ := h
    simp only [List.cons.injEq, Cell.sl.injEq, and_true] at h1
    obtain ⟨rfl, rfl⟩ := h1
    rw [hs] at h2 h4
    refine ⟨by omega, fun i hi => ?_⟩
    have h5 := h4 i hi
    cases D with
    | zero => exact h5.elim
    | succ D =>
      have h6 := h5
      unfold TyC at h6
      rw [hu2] at h6
      obtain ⟨m, es, e1, _⟩ := h6
      rw [e1] at h5
      obtain ⟨l, rfl, hl, _⟩ := row_ints hS hu2 he hs2 hs0 h5
      refine ⟨m, l, ?_, hl⟩
      have hg : ((cs.drop (i * 1)).take 1)[0]? = some (.sl m (ic k l)) := by rw [e1]; rfl
      rw [List.getElem?_take, if_pos (by omega), List.getElem?_drop] at hg
      rw [List.getD_eq_getElem?_getD, show i = i * 1 + 0 by omega, hg]; rfl
set_option maxRecDepth 100000 in
theorem f14_true (a0 : Int) (n : Nat) (cs : List Cell) (_ : (Lit.int .i64 a0).wf = true) {D : Nat} (h : TyC Try.prog D 87 [.sl n cs]) : f14_wp a0 n cs (fun r' => r' = boRet true) := by
  obtain ⟨hl, hc⟩ := row_rows (k := .i64) (S := [3, 47, 48]) (s := 4) Try.underlying87 Try.underlying36 (by kernel_rfl) (by kernel_rfl) (by decide) (by kernel_rfl) (by decide) h
  exact f14_pure a0 n cs hl hc

end Go.Proofs.Ytgmciihlmgeecaa.Fn
