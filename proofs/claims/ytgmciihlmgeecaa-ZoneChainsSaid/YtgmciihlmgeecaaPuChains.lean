import Derived.Test.YtgmciihlmgeecaaPuZA
import Derived.Test.YtgmciihlmgeecaaWLZoneChains
import Derived.Test.YtgmciihlmgeecaaZLaws
/- ZoneChains: the law's function tells true. Conditions: none beyond its arguments' types. -/
namespace Go.Proofs.Ytgmciihlmgeecaa.Fn
open Go Go.RowKit Go.Proofs.Ytgmciihlmgeecaa.Mt Go.Proofs.Ytgmciihlmgeecaa.Zm
set_option linter.unusedVariables false
set_option linter.unusedSimpArgs false

theorem wf32 {x : Int} (h : (Lit.int .i32 x).wf = true) : -2147483648 ≤ x ∧ x ≤ 2147483647 := by
  simp [Lit.wf, IntKind.min, IntKind.max, IntKind.bits, IntKind.signed] at h; omega
theorem int_get32 {l : List Int} {j : Nat} : intC ((ic .i32 l).getD j .dead) = l.getD j 0 := by
  by_cases h : j < l.length
  · rw [ic_get h]; rfl
  · rw [List.getD_eq_getElem?_getD, List.getD_eq_getElem?_getD, List.getElem?_eq_none (by rw [ic_len]; omega), List.getElem?_eq_none (by omega)]; rfl
theorem okK_ic32 {l : List Int} {j : Nat} : okK (some .i32) ((ic .i32 l).getD j .dead) = decide (j < l.length) := by
  by_cases h : j < l.length
  · rw [ic_get h, decide_eq_true h]; rfl
  · rw [List.getD_eq_getElem?_getD, List.getElem?_eq_none (by rw [ic_len]; omega), decide_eq_false h]; rfl

def dOf (n : Nat) (l : List Int) (j : Nat) : Int := if j < n then (IntKind.i64.wrap (l.getD j 0)).tmod 1000 else 0
theorem dOf_in (n : Nat) (l : List Int) (j : Nat) : -999 ≤ dOf n l j ∧ dOf n l j ≤ 999 := by
  unfold dOf
  split
  · have h1 := Int.tmod_lt_of_pos (IntKind.i64.wrap (l.getD j 0)) (show (0 : Int) < 1000 by omega)
    have h2 := Int.lt_tmod_of_pos (IntKind.i64.wrap (l.getD j 0)) (show (0 : Int) < 1000 by omega)
    omega
  · omega
def vL (v0 : Int) (d : Nat → Int) (t : Nat) : List Int := (List.range (t + 1)).map (along v0 d)
theorem vL_len (v0 : Int) (d : Nat → Int) (t : Nat) : (vL v0 d t).length = t + 1 := by simp [vL]
theorem vL_get (v0 : Int) (d : Nat → Int) {t j : Nat} (h : j ≤ t) : (vL v0 d t).getD j 0 = along v0 d j := by
  unfold vL
  rw [List.getD_eq_getElem?_getD, List.getElem?_map, List.getElem?_range (by omega)]; rfl
theorem vL_succ (v0 : Int) (d : Nat → Int) (t : Nat) : vL v0 d (t + 1) = vL v0 d t ++ [along v0 d t + d t] := by
  unfold vL
  rw [List.range_succ, List.map_append]; rfl

def chI (v0 : Int) (d : Nat → Int) : (Unit) ⊕ (Int × Int × Bool × (List Cell) × Nat × (List Cell)) → Prop
  | .inl _ => True
  | .inr (i, zn, zb, cs, m, vs) => 1 ≤ i ∧ i ≤ 5 ∧ (∃ z : Zo, zn = z.1 ∧ zb = z.2.1 ∧ cs = ic .i64 z.2.2 ∧ Rep 6 (chP d i.toNat) z) ∧ m = i.toNat + 1 ∧ vs = ic .i64 (vL v0 d i.toNat)
def chM : (Unit) ⊕ (Int × Int × Bool × (List Cell) × Nat × (List Cell)) → Nat
  | .inl _ => 6
  | .inr (i, _) => (5 - i).toNat

set_option maxHeartbeats 2000000 in
theorem f3_pure (n : Nat) (l : List Int) (hl : l.length = n * 1) (v0 : Int) (hv : -2147483648 ≤ v0 ∧ v0 ≤ 2147483647) : f3_wp n (ic .i32 l) v0 (fun r' => r' = boRet true) := by
  rw [Nat.mul_one] at hl
  have hd := dOf_in n l
  unfold f3_wp
  (try delta X3_2)
  (try delta X3_1)
  (try delta X3_0)
  rw [i64_id (n := v0) (by omega) (by omega)]
  refine letV_j fun u1 h1 => ?_
  have m1 : ∀ {x : Cell} {l : List Cell}, List.map intC (x :: l) = (topZ 6).2.2 → List.map intC (x :: l) = u1.2.2 := fun h => by rw [h, h1]
  rw [m1 (by kernel_rfl)]
  have r1 : Rep 6 (chP (dOf n l) 0) u1 := by
    rw [← h1]
    exact (top_rep (n := 6) (by omega)).of fun m hm => ⟨fun h => ⟨h, fun j hj => absurd hj (by omega)⟩, fun h => h.1⟩
  clear m1 h1
  simp only [map_ic, Prod.eta, int_get32, okK_ic32, ic_len]
  refine LoopP.ind (I := chI v0 (dOf n l)) (μ := chM) ?_ trivial
  rintro (⟨⟩ | ⟨i, zn, zb, cs, m, vs⟩) k0 hI hk
  · dsimp only [sumE_l]
    have fin : ∀ (c : Int) (u70 u72 : Zo), c = dOf n l 0 → boundZ u1 1 0 c = u70 → boundZ u70 0 1 (-c) = u72 → Rep 6 (chP (dOf n l) 1) u72 ∧ Gd 6 u70 ∧ k0 (Sum.inr (1, u72.1, u72.2.1, ic .i64 u72.2.2, 2, [Cell.v (Value.int .i64 v0), Cell.v (Value.int .i64 (v0 + c))])) := by
      intro c u70 u72 hc h70 h72
      have r := ch_step (t := 0) (by omega) (hd 0) r1
      rw [← hc] at r
      have r : Rep 6 (chP (dOf n l) 1) (boundZ (boundZ u1 1 0 c) 0 1 (-c)) := r
      have g70 : Gd 6 u70 := by rw [← h70]; exact bound_gd r1.1
      rw [h70, h72] at r
      refine ⟨r, g70, hk _ ⟨by omega, by omega, ⟨u72, rfl, rfl, rfl, r⟩, rfl, ?_⟩ (by show (5 - 1 : Int).toNat < 6; omega)⟩
      show _ = ic .i64 (vL v0 (dOf n l) 1)
      rw [show vL v0 (dOf n l) 1 = [v0, v0 + dOf n l 0] from rfl, hc]; rfl
    clear hk
    refine cond_i (fun q => ?_) (fun q => ?_)
    · have q : (0 : Int) < n := of_decide_eq_true q
      have e0 : dOf n l 0 = (IntKind.i64.wrap (l.getD 0 0)).tmod 1000 := by unfold dOf; rw [if_pos (by omega)]
      have h0 := hd 0
      rw [← e0, IntWalk.i64_in (0 - dOf n l 0) ⟨by omega, by omega⟩, IntWalk.i64_in (v0 + dOf n l 0) ⟨by omega, by omega⟩, show 0 - dOf n l 0 = - dOf n l 0 by omega]
      (repeat ((first | with_reducible apply ck_i | with_reducible apply And.intro); · (first | (simp only [min_if, max_if, ics]; done) | with_reducible rfl | ((try simp only [min_if, max_if, ics]); simp [min_if, max_if, ics, *]; done) | ((try simp only [min_if, max_if, ics]); simp [min_if, max_if, ics, *]; omega))))
      refine letV_j fun u70 h70 => ?_
      have f := fun u72 => fin (dOf n l 0) u70 u72 rfl h70
      clear fin
      refine ck_i (by simp only [min_if, max_if, ics]; rfl) ?_
      refine letV_j fun u72 h72 => ?_
      obtain ⟨r72, g70, f⟩ := f u72 h72
      have l70 := g70.len
      have l72 := r72.1.len
      clear h70 h72
      (repeat ((first | with_reducible apply ck_i | with_reducible apply And.intro); · (first | (simp only [min_if, max_if, ics]; done) | with_reducible rfl | ((try simp only [min_if, max_if, ics]); simp [min_if, max_if, ics, *]; done) | ((try simp only [min_if, max_if, ics]); simp [min_if, max_if, ics, *]; omega))))
      exact f
    · have q : ¬ (0 : Int) < n := of_decide_eq_false q
      have e0 : dOf n l 0 = 0 := by unfold dOf; rw [if_neg (by omega)]
      rw [IntWalk.i64_in (v0 + 0) ⟨by omega, by omega⟩]
      refine letV_j fun u70 h70 => ?_
      have f := fun u72 => fin 0 u70 u72 e0.symm h70
      clear fin
      refine ck_i (by simp only [min_if, max_if, ics]; rfl) ?_
      refine letV_j fun u72 h72 => ?_
      obtain ⟨r72, g70, f⟩ := f u72 (by rw [← h72]; rfl)
      have l70 := g70.len
      have l72 := r72.1.len
      clear h70 h72
      (repeat ((first | with_reducible apply ck_i | with_reducible apply And.intro); · (first | (simp only [min_if, max_if, ics]; done) | with_reducible rfl | ((try simp only [min_if, max_if, ics]); simp [min_if, max_if, ics, *]; done) | ((try simp only [min_if, max_if, ics]); simp [min_if, max_if, ics, *]; omega))))
      exact f
  · dsimp only [sumE_r]
    obtain ⟨i1, i2, ⟨z, rfl, rfl, rfl, rz⟩, rfl, rfl⟩ := hI
    have lz := rz.1.len
    have wi : IntKind.i64.wrap (i + 1) = i + 1 := wr1 (by omega) (by omega)
    have ti : ((i.toNat : Nat) : Int) = i := by omega
    have lv := vL_len v0 (dOf n l) i.toNat
    simp only [map_ic, Prod.eta, wi]
    refine cond_i (fun q => ?_) (fun q => ?_)
    · have q : i < 5 := of_decide_eq_true q
      have gv := vL_get v0 (dOf n l) (Nat.le_refl i.toNat)
      have av := along_le v0 hd i.toNat
      have hi := hd i.toNat
      have fin : ∀ (c : Int) (u70 u72 : Zo), c = dOf n l i.toNat → boundZ z (i + 1) i c = u70 → boundZ u70 i (i + 1) (-c) = u72 → Rep 6 (chP (dOf n l) (i.toNat + 1)) u72 ∧ Gd 6 u70 ∧ k0 (Sum.inr (i + 1, u72.1, u72.2.1, ic .i64 u72.2.2, i.toNat + 1 + 1, ic .i64 (vL v0 (dOf n l) i.toNat) ++ [Cell.v (Value.int .i64 (along v0 (dOf n l) i.toNat + c))])) := by
        intro c u70 u72 hc h70 h72
        have r := ch_step (by omega) hi rz
        rw [← hc, ti] at r
        have g70 : Gd 6 u70 := by rw [← h70]; exact bound_gd rz.1
        rw [h70, h72] at r
        refine ⟨r, g70, hk _ ⟨by omega, by omega, ⟨u72, rfl, rfl, rfl, by rw [show (i + 1).toNat = i.toNat + 1 by omega]; exact r⟩, by rw [show (i + 1).toNat = i.toNat + 1 by omega], ?_⟩ (by show (5 - (i + 1) : Int).toNat < (5 - i).toNat; omega)⟩
        rw [show (i + 1).toNat = i.toNat + 1 by omega, vL_succ, ← ic_append, hc]; rfl
      clear hk
      refine cond_i (fun q2 => ?_) (fun q2 => ?_)
      · have q2 : i < n := of_decide_eq_true q2
        rw [Nat.mul_one]
        have e0 : dOf n l i.toNat = (IntKind.i64.wrap (l.getD i.toNat 0)).tmod 1000 := by unfold dOf; rw [if_pos (by omega)]
        have ev : intC ((ic .i64 (vL v0 (dOf n l) i.toNat)).getD i.toNat .dead) = along v0 (dOf n l) i.toNat := by rw [int_get, gv]
        rw [← e0, IntWalk.i64_in (0 - dOf n l i.toNat) ⟨by omega, by omega⟩, show 0 - dOf n l i.toNat = - dOf n l i.toNat by omega, ev, IntWalk.i64_in (along v0 (dOf n l) i.toNat + dOf n l i.toNat) ⟨by omega, by omega⟩]
        (repeat ((first | with_reducible apply ck_i | with_reducible apply And.intro); · (first | (simp only [min_if, max_if, ics]; done) | with_reducible rfl | ((try simp only [min_if, max_if, ics]); simp [min_if, max_if, ics, *]; done) | ((try simp only [min_if, max_if, ics]); simp [min_if, max_if, ics, *]; omega))))
        refine letV_j fun u70 h70 => ?_
        have f := fun u72 => fin (dOf n l i.toNat) u70 u72 rfl h70
        clear fin
        (repeat ((first | with_reducible apply ck_i | with_reducible apply And.intro); · (first | (simp only [min_if, max_if, ics]; done) | with_reducible rfl | ((try simp only [min_if, max_if, ics]); simp [min_if, max_if, ics, *]; done) | ((try simp only [min_if, max_if, ics]); simp [min_if, max_if, ics, *]; omega))))
        refine letV_j fun u72 h72 => ?_
        obtain ⟨r72, g70, f⟩ := f u72 h72
        have l70 := g70.len
        have l72 := r72.1.len
        clear h70 h72
        (repeat ((first | with_reducible apply ck_i | with_reducible apply And.intro); · (first | (simp only [min_if, max_if, ics]; done) | with_reducible rfl | ((try simp only [min_if, max_if, ics]); simp [min_if, max_if, ics, *]; done) | ((try simp only [min_if, max_if, ics]); simp [min_if, max_if, ics, *]; omega))))
        exact f
      · have q2 : ¬ i < n := of_decide_eq_false q2
        rw [Nat.mul_one]
        have e0 : dOf n l i.toNat = 0 := by unfold dOf; rw [if_neg (by omega)]
        have ev : intC ((ic .i64 (vL v0 (dOf n l) i.toNat)).getD i.toNat .dead) = along v0 (dOf n l) i.toNat := by rw [int_get, gv]
        rw [ev, IntWalk.i64_in (along v0 (dOf n l) i.toNat + 0) ⟨by omega, by omega⟩]
        (repeat ((first | with_reducible apply ck_i | with_reducible apply And.intro); · (first | (simp only [min_if, max_if, ics]; done) | with_reducible rfl | ((try simp only [min_if, max_if, ics]); simp [min_if, max_if, ics, *]; done) | ((try simp only [min_if, max_if, ics]); simp [min_if, max_if, ics, *]; omega))))
        refine letV_j fun u70 h70 => ?_
        have f := fun u72 => fin 0 u70 u72 e0.symm h70
        clear fin
        (repeat ((first | with_reducible apply ck_i | with_reducible apply And.intro); · (first | (simp only [min_if, max_if, ics]; done) | with_reducible rfl | ((try simp only [min_if, max_if, ics]); simp [min_if, max_if, ics, *]; done) | ((try simp only [min_if, max_if, ics]); simp [min_if, max_if, ics, *]; omega))))
        refine letV_j fun u72 h72 => ?_
        obtain ⟨r72, g70, f⟩ := f u72 (by rw [← h72]; rfl)
        have l70 := g70.len
        have l72 := r72.1.len
        clear h70 h72
        (repeat ((first | with_reducible apply ck_i | with_reducible apply And.intro); · (first | (simp only [min_if, max_if, ics]; done) | with_reducible rfl | ((try simp only [min_if, max_if, ics]); simp [min_if, max_if, ics, *]; done) | ((try simp only [min_if, max_if, ics]); simp [min_if, max_if, ics, *]; omega))))
        exact f
    · have q : ¬ i < 5 := of_decide_eq_false q
      obtain rfl : i = 5 := by omega
      clear hk
      have rz : Rep 6 (chP (dOf n l) 5) z := rz
      have nz : z.2.1 = false := rz.not_none (ptM_clo 6 _) (chPt_P v0 (c := 0) (by omega) hd 5)
      have cz := rz.1.clo nz
      have pz := rz.self nz
      have lv5 : (vL v0 (dOf n l) 5).length = 6 := vL_len v0 _ 5
      have av : ∀ t : Nat, t ≤ 5 → v0 - 5000 ≤ along v0 (dOf n l) t ∧ along v0 (dOf n l) t ≤ v0 + 5000 := fun t ht => by
        have := along_le v0 hd t; omega
      have gv : ∀ t : Int, 0 ≤ t → t < 6 → intC ((ic .i64 (vL v0 (dOf n l) (5 : Int).toNat)).getD (t.toNat * 1) .dead) = along v0 (dOf n l) t.toNat := fun t h0 h6 => by
        rw [int_get, Nat.mul_one]; exact vL_get v0 _ (by show t.toNat ≤ 5; omega)
      (repeat ((first | with_reducible apply ck_i | with_reducible apply And.intro); · (first | (simp only [min_if, max_if, ics]; done) | with_reducible rfl | ((try simp only [min_if, max_if, ics]); simp [min_if, max_if, ics, *]; done) | ((try simp only [min_if, max_if, ics]); simp [min_if, max_if, ics, *]; omega))))
      refine letV_j fun u107 h107 => ?_
      obtain rfl : z = u107 := by rw [← h107]; exact (mov_zero rz.1 (by omega)).symm
      clear h107
      (repeat ((first | with_reducible apply ck_i | with_reducible apply And.intro); · (first | (simp only [min_if, max_if, ics]; done) | with_reducible rfl | ((try simp only [min_if, max_if, ics]); simp [min_if, max_if, ics, *]; done) | ((try simp only [min_if, max_if, ics]); simp [min_if, max_if, ics, *]; omega))))
      refine LoopP.ind (I := fun z => 0 ≤ z ∧ z ≤ 6) (μ := fun z => (6 - z).toNat) ?_ ⟨by omega, by omega⟩
      rintro a k1 ⟨a1, a2⟩ hk1
      refine cond_i (fun q1 => ?_) (fun q1 => ?_)
      · have q1 : a < 6 := of_decide_eq_true q1
        (repeat ((first | with_reducible apply ck_i | with_reducible apply And.intro); · (first | (simp only [min_if, max_if, ics]; done) | with_reducible rfl | ((try simp only [min_if, max_if, ics]); simp [min_if, max_if, ics, *]; done) | ((try simp only [min_if, max_if, ics]); simp [min_if, max_if, ics, *]; omega))))
        refine LoopP.ind (I := fun z => 0 ≤ z ∧ z ≤ 6) (μ := fun z => (6 - z).toNat) ?_ ⟨by omega, by omega⟩
        rintro b k4 ⟨b1, b2⟩ hk4
        refine cond_i (fun q4 => ?_) (fun q4 => ?_)
        · have q4 : b < 6 := of_decide_eq_true q4
          have e1 := ch_eq cz pz v0 (i := a.toNat) (j := b.toNat) (by omega) (by omega)
          rw [wr1 (by omega) (by omega), wr1 (by omega) (by omega), gv a (by omega) (by omega), gv b (by omega) (by omega)]
          have w := av a.toNat (by omega)
          have w2 := av b.toNat (by omega)
          rw [IntWalk.i64_in (along v0 (dOf n l) a.toNat - along v0 (dOf n l) b.toNat) ⟨by omega, by omega⟩, ← e1, show a.toNat + 1 = (a + 1).toNat by omega, show b.toNat + 1 = (b + 1).toNat by omega]
          have hk' := hk4 (b + 1) ⟨by omega, by omega⟩ (by omega)
          clear hk1 hk4 e1 w w2 av gv pz
          simp only [min_if, max_if, ics]
          (repeat ((first | with_reducible apply ck_i | with_reducible apply And.intro); · (first | (simp only [min_if, max_if, ics]; done) | with_reducible rfl | ((try simp only [min_if, max_if, ics]); simp [min_if, max_if, ics, *]; done) | ((try simp only [min_if, max_if, ics]); simp [min_if, max_if, ics, *]; omega))))
          exact hk'
        · have q4 : ¬ b < 6 := of_decide_eq_false q4
          rw [wr1 (by omega) (by omega)]
          have hk' := hk1 (a + 1) ⟨by omega, by omega⟩ (by omega)
          clear hk1 hk4 av gv pz
          (repeat ((first | with_reducible apply ck_i | with_reducible apply And.intro); · (first | (simp only [min_if, max_if, ics]; done) | with_reducible rfl | ((try simp only [min_if, max_if, ics]); simp [min_if, max_if, ics, *]; done) | ((try simp only [min_if, max_if, ics]); simp [min_if, max_if, ics, *]; omega))))
          exact hk'
      · clear hk1 q1
        have g1 := bound_repI rz (x := 0) (y := -1) (b := 5) (i := 1) (j := 0) (by omega) (by omega) (by omega) (by omega) (by omega)
        (repeat ((first | with_reducible apply ck_i | with_reducible apply And.intro); · (first | (simp only [min_if, max_if, ics]; done) | with_reducible rfl | ((try simp only [min_if, max_if, ics]); simp [min_if, max_if, ics, *]; done) | ((try simp only [min_if, max_if, ics]); simp [min_if, max_if, ics, *]; omega))))
        refine letV_j fun u191 h191 => ?_
        rw [h191] at g1
        have l191 := g1.1.len
        (repeat ((first | with_reducible apply ck_i | with_reducible apply And.intro); · (first | (simp only [min_if, max_if, ics]; done) | with_reducible rfl | ((try simp only [min_if, max_if, ics]); simp [min_if, max_if, ics, *]; done) | ((try simp only [min_if, max_if, ics]); simp [min_if, max_if, ics, *]; omega))))
        refine letV_j fun u193 h193 => ?_
        have g2 := bound_repI g1 (x := -1) (y := 0) (b := -5) (i := 0) (j := 1) (by omega) (by omega) (by omega) (by omega) (by omega)
        rw [h193] at g2
        have l193 := g2.1.len
        have n2 : u193.2.1 = false := by
          have p := chPt_P v0 (c := 5) (by omega) hd 5
          refine g2.not_none (ptM_clo 6 _) ⟨⟨p, ?_⟩, ?_⟩
          · show (5 + along v0 (dOf n l) 0 - v0) - 0 ≤ 5
            rw [along]; omega
          · show 0 - (5 + along v0 (dOf n l) 0 - v0) ≤ -5
            rw [along]; omega
        have c2 := g2.1.clo n2
        obtain ⟨⟨p2, p3⟩, p4⟩ := g2.self n2
        clear h191 h193
        (repeat ((first | with_reducible apply ck_i | with_reducible apply And.intro); · (first | (simp only [min_if, max_if, ics]; done) | with_reducible rfl | ((try simp only [min_if, max_if, ics]); simp [min_if, max_if, ics, *]; done) | ((try simp only [min_if, max_if, ics]); simp [min_if, max_if, ics, *]; omega))))
        refine LoopP.ind (I := fun z => 0 ≤ z ∧ z ≤ 6) (μ := fun z => (6 - z).toNat) ?_ ⟨by omega, by omega⟩
        rintro b k4 ⟨b1, b2⟩ hk4
        refine cond_i (fun q4 => ?_) (fun q4 => ?_)
        · have q4 : b < 6 := of_decide_eq_true q4
          have w := av b.toNat (by omega)
          have hk' := hk4 (b + 1) ⟨by omega, by omega⟩ (by omega)
          have up := ch_le c2 p2 v0 (i := b.toNat) (j := 0) (by omega) (by omega)
          have lo := ch_le c2 p2 v0 (i := 0) (j := b.toNat) (by omega) (by omega)
          have t1 := c2.2 (b.toNat + 1) 0 1 (by omega) (by omega) (by omega)
          have t2 := c2.2 0 (b.toNat + 1) 1 (by omega) (by omega) (by omega)
          have op := c2.opp (i := b.toNat + 1) (j := 0) (by omega) (by omega)
          have a0 : along v0 (dOf n l) 0 = v0 := rfl
          simp only [Nat.zero_add] at up lo
          have d1 : g u193.2.2 (b.toNat + 1) 0 = 5 + along v0 (dOf n l) b.toNat - v0 := by omega
          have d2 : g u193.2.2 0 (b.toNat + 1) = -(5 + along v0 (dOf n l) b.toNat - v0) := by omega
          have ei : itvZ u193 b = ofP (5 + along v0 (dOf n l) b.toNat - v0) (5 + along v0 (dOf n l) b.toNat - v0) := by
            unfold itvZ
            rw [if_pos ((var_ok g2.1 n2).2 (by omega)), show (b + 1).toNat = b.toNat + 1 by omega, d1, d2, wrap_small (by omega) (by omega), Int.neg_neg]
          have gz : intC ((ic .i64 (vL v0 (dOf n l) (5 : Int).toNat)).getD 0 .dead) = v0 := by
            rw [int_get, vL_get v0 _ (by show 0 ≤ 5; omega)]; rfl
          rw [gv b (by omega) (by omega), gz, IntWalk.i64_in (5 + along v0 (dOf n l) b.toNat) ⟨by omega, by omega⟩, IntWalk.i64_in (5 + along v0 (dOf n l) b.toNat - v0) ⟨by omega, by omega⟩, wr1 (by omega) (by omega)]
          clear hk4 up lo t1 t2 op d1 d2 av gv pz p2
          (repeat ((first | with_reducible apply ck_i | with_reducible apply And.intro); · (first | (simp only [min_if, max_if, ics]; done) | with_reducible rfl | ((try simp only [min_if, max_if, ics]); simp [min_if, max_if, ics, *]; done) | ((try simp only [min_if, max_if, ics]); simp [min_if, max_if, ics, *]; omega))))
          refine letV_j fun u215 h215 => ?_
          (repeat ((first | with_reducible apply ck_i | with_reducible apply And.intro); · (first | (simp only [min_if, max_if, ics]; done) | with_reducible rfl | ((try simp only [min_if, max_if, ics]); simp [min_if, max_if, ics, *]; done) | ((try simp only [min_if, max_if, ics]); simp [min_if, max_if, ics, *]; omega))))
          refine letV_j fun u221 h221 => ?_
          obtain rfl : u215 = u221 := by rw [← h215, ← h221]; exact ei
          clear h215 h221 ei
          (repeat ((first | with_reducible apply ck_i | with_reducible apply And.intro); · (first | (simp only [min_if, max_if, ics]; done) | with_reducible rfl | ((try simp only [min_if, max_if, ics]); simp [min_if, max_if, ics, *]; done) | ((try simp only [min_if, max_if, ics]); simp [min_if, max_if, ics, *]; omega))))
          exact hk'
        · clear hk4
          (repeat ((first | with_reducible apply ck_i | with_reducible apply And.intro); · (first | (simp only [min_if, max_if, ics]; done) | with_reducible rfl | ((try simp only [min_if, max_if, ics]); simp [min_if, max_if, ics, *]; done) | ((try simp only [min_if, max_if, ics]); simp [min_if, max_if, ics, *]; omega))))
          rfl
theorem cx3_ok : CtxOk Try.prog cx3.q.ctx := (ctx_cons (g := 25) (ctx_cons (g := 26) (ctx_cons (g := 27) (ctx_cons (g := 28) (ctx_cons (g := 29) (ctx_cons (g := 30) ctx_nil (by kernel_rfl) sum30_ok) (by kernel_rfl) sum29_ok) (by kernel_rfl) sum28_ok) (by kernel_rfl) sum27_ok) (by kernel_rfl) sum26_ok) (by kernel_rfl) sum25_ok)
theorem f3_true (n : Nat) (cs : List Cell) (a1 : Int) {D : Nat} (h : TyC Try.prog D 22 [.sl n cs]) (h1 : (Lit.int .i32 a1).wf = true) : f3_wp n cs a1 (fun r' => r' = boRet true) := by
  obtain ⟨l, rfl, e, _⟩ := row_ints (k := .i32) (S := [21]) (s := 1) (by kernel_rfl) Try.underlying22 (by decide) (by kernel_rfl) (by decide) h
  exact f3_pure n l e a1 (wf32 h1)

end Go.Proofs.Ytgmciihlmgeecaa.Fn
