import Derived.Test.YtgmciihlmgeecaaPuN2
import Derived.Test.YtgmciihlmgeecaaWLNumHas
import Derived.Test.YtgmciihlmgeecaaZLaws
/- NumHas: the law's function tells true. Conditions: none beyond its arguments' types. -/
namespace Go.Proofs.Ytgmciihlmgeecaa.Fn
open Go Go.RowKit Go.Proofs.Ytgmciihlmgeecaa.Mt Go.Proofs.Ytgmciihlmgeecaa.Zm
set_option linter.unusedVariables false
set_option linter.unusedSimpArgs false

theorem wf32 {x : Int} (h : (Lit.int .i32 x).wf = true) : -2147483648 ≤ x ∧ x ≤ 2147483647 := by
  simp [Lit.wf, IntKind.min, IntKind.max, IntKind.bits, IntKind.signed] at h; omega
theorem int_get32 {l : List Int} {j : Nat} : intC ((ic .i32 l).getD j .dead) = l.getD j 0 := by
  by_cases h : j < l.length
  · rw [ic_get h]; rfl
  · rw [List.getD_eq_getElem?_getD, List.getD_eq_getElem?_getD, List.getElem?_eq_none (by rw [ic_len]; omega), List.getElem?_eq_none (by omega)]; rfl
theorem okK_ic32 {l : List Int} {j : Nat} : okK (some .i32) ((ic .i32 l).getD j .dead) = decide (j < l.length) := by
  by_cases h : j < l.length
  · rw [ic_get h, decide_eq_true h]; rfl
  · rw [List.getD_eq_getElem?_getD, List.getElem?_eq_none (by rw [ic_len]; omega), decide_eq_false h]; rfl

/-- Numbers in a row, nought ahead of them. -/
def vF (v : List Int) (i : Nat) : Int := atP v i
def InV (v : List Int) : Prop := ∀ x ∈ v, -2147483648 ≤ x ∧ x ≤ 2147483647
theorem vF_succ (v : List Int) (i : Nat) : vF v (i + 1) = v.getD i 0 := by
  unfold vF atP
  rw [if_neg (by omega), show ((i + 1 : Nat) : Int) - 1 = i by omega, Int.toNat_natCast]
theorem inV_get {v : List Int} (h : InV v) (j : Nat) : -2147483648 ≤ v.getD j 0 ∧ v.getD j 0 ≤ 2147483647 := by
  by_cases e : j < v.length
  · rw [List.getD_eq_getElem?_getD, List.getElem?_eq_getElem e]
    exact h _ (List.getElem_mem e)
  · rw [List.getD_eq_getElem?_getD, List.getElem?_eq_none (by omega)]; simp
theorem inV_in {v : List Int} (h : InV v) (n : Nat) : InR n (vF v) := by
  refine ⟨rfl, fun i h1 _ => ?_⟩
  obtain ⟨t, rfl⟩ : ∃ t, i = t + 1 := ⟨i - 1, by omega⟩
  rw [vF_succ]; exact inV_get h t
theorem inV_set {v : List Int} (h : InV v) {j : Nat} {x : Int} (hx : -2147483648 ≤ x ∧ x ≤ 2147483647) : InV (v.set j x) := fun y hy => by
  rcases List.mem_or_eq_of_mem_set hy with h' | rfl
  · exact h y h'
  · exact hx
theorem vF_set {v : List Int} {j : Nat} (hj : j < v.length) {x : Int} (i : Nat) : vF (v.set j x) i = if i = j + 1 then x else vF v i := by
  cases i with
  | zero => rw [if_neg (by omega)]; rfl
  | succ t =>
    rw [vF_succ, vF_succ, List.getD_eq_getElem?_getD, List.getElem?_set, List.getD_eq_getElem?_getD]
    by_cases e : j = t
    · subst e; rw [if_pos rfl, if_pos rfl, if_pos hj]; rfl
    · rw [if_neg e, if_neg (by omega)]
theorem has_true {n : Nat} {z : Zo} {v : List Int} (h : Gd n z) (hv : InV v) (hp : Pt n (vF v) z) : hasZ z n v = true := by
  have t := h.trip hp.1
  rw [t]
  have e := has_iff (n := (n : Int)) (D := z.2.2) (l := v) (by rw [← h.hn]; exact h.okN)
  rw [Int.toNat_natCast] at e
  have at' : ∀ i : Nat, -2147483648 ≤ vF v i ∧ vF v i ≤ 2147483647 := fun i => by
    cases i with
    | zero => show -2147483648 ≤ (0 : Int) ∧ (0 : Int) ≤ 2147483647; omega
    | succ t => rw [vF_succ]; exact inV_get hv t
  refine e.2 fun i hi => ⟨at' i, fun j hj => ?_⟩
  have a := at' i
  have b := at' j
  have c := hp.2 i j (by omega) (by omega)
  show wrap64 (vF v i - vF v j) ≤ _
  rw [wrap_in (by omega) (by omega)]
  exact c
theorem has_count {n : Nat} {z : Zo} {v : List Int} (h : Gd n z) {m : Nat} (hm : m ≠ n) : hasZ z m v = false := by
  unfold hasZ
  rw [h.hn, decide_eq_false (by omega)]; simp

/-- A number that is had, after each call. -/
theorem has_bound {n : Nat} {z : Zo} {v : List Int} (h : Gd n z) (hp : Pt n (vF v) z) {x y c : Int} (hx : -1 ≤ x ∧ x < n) (hy : -1 ≤ y ∧ y < n) (hc : vF v (x + 1).toNat - vF v (y + 1).toNat ≤ c) (h0 : -1099511627776 ≤ c) : Gd n (boundZ z x y c) ∧ Pt n (vF v) (boundZ z x y c) :=
  ⟨bound_gd h, (bound_pt h hx hy).2 ⟨hp, by omega⟩⟩
theorem has_forget {n : Nat} {z : Zo} {v : List Int} (h : Gd n z) (hl : v.length = n) (hv : InV v) (hp : Pt n (vF v) z) {x b : Int} (hx : 0 ≤ x ∧ x < n) (hb : -2147483648 ≤ b ∧ b ≤ 2147483647) : Gd n (forgetZ z x) ∧ Pt n (vF (v.set x.toNat b)) (forgetZ z x) ∧ InV (v.set x.toNat b) := by
  have iv := inV_set (j := x.toNat) hv hb
  refine ⟨forget_gd h, forget_pt h hx hp (inV_in iv n) fun i hi e => ?_, iv⟩
  rw [vF_set (by omega), if_neg (by omega)]
theorem has_copy {n : Nat} {z : Zo} {v : List Int} (h : Gd n z) (hl : v.length = n) (hv : InV v) (hp : Pt n (vF v) z) {x y b c : Int} (hx : 0 ≤ x ∧ x < n) (hy : -1 ≤ y ∧ y < n) (hb : -1099511627776 ≤ b ∧ b ≤ 1099511627776) (hc : c = vF v (y + 1).toNat + b) (hr : -2147483648 ≤ c ∧ c ≤ 2147483647) : Gd n (copyZ z x y b) ∧ Pt n (vF (v.set x.toNat c)) (copyZ z x y b) ∧ InV (v.set x.toNat c) := by
  have iv := inV_set (j := x.toNat) hv hr
  refine ⟨copy_gd h, copy_pt h hx hy hb hp (inV_in iv n) (fun i hi e => ?_) ?_, iv⟩
  · rw [vF_set (by omega), if_neg (by omega)]
  · rw [vF_set (by omega), if_pos (by omega)]; exact hc
theorem ro_ok {K : Nat} {v : List Int} (h : v.length = K) : okRowU 1 (Cell.sl K (ic .i64 v)) = true := by
  simp [okRowU, int_ic, ic_len, h]

/-- By how much: below a thousand. -/
def bO (a : Int) : Int := (IntKind.i64.wrap (IntKind.i32.wrap a)).tmod 1000
theorem bO_f {a : Int} : (IntKind.i64.wrap (IntKind.i32.wrap a)).tmod 1000 = bO a := by rw [bO]
theorem actW_g {a : Int} : IntKind.i64.wrap ((IntKind.u64.wrap a).tmod 5) = actW a := by rw [actW]
theorem bO_in (a : Int) : -999 ≤ bO a ∧ bO a ≤ 999 := by
  unfold bO
  have h1 := Int.tmod_lt_of_pos (IntKind.i64.wrap (IntKind.i32.wrap a)) (show (0 : Int) < 1000 by omega)
  have h2 := Int.lt_tmod_of_pos (IntKind.i64.wrap (IntKind.i32.wrap a)) (show (0 : Int) < 1000 by omega)
  omega
theorem has_held {n : Nat} {z : Zo} {v : List Int} (h : Gd n z) (hp : Pt n (vF v) z) {x lo hi : Int} (hx : 0 ≤ x ∧ x < n) (h1 : lo ≤ vF v (x + 1).toNat) (h2 : vF v (x + 1).toNat ≤ hi) (h3 : -4294967296 ≤ lo) (h4 : hi ≤ 4294967296) : Gd n (heldZ z x lo hi) ∧ Pt n (vF v) (heldZ z x lo hi) := by
  have hn := h.hn
  unfold heldZ
  rw [if_neg (by omega), if_neg (by omega), wrap_neg (by omega)]
  have v0 : vF v ((-1 : Int) + 1).toNat = 0 := rfl
  have a := has_bound h hp (x := x) (y := -1) (c := hi) (by omega) (by omega) (by rw [v0]; omega) (by omega)
  exact has_bound a.1 a.2 (x := -1) (y := x) (c := -lo) (by omega) (by omega) (by rw [v0]; omega) (by omega)
theorem bI_range (a : Int) : -2147483648 ≤ bI a ∧ bI a ≤ 2147483647 := by
  unfold bI
  have h := actB_in a
  unfold actB at h
  omega
theorem norm_rng {a b : Int} (ha : -2147483648 ≤ a ∧ a ≤ 2147483647) (hb : -2147483648 ≤ b ∧ b ≤ 2147483647) : -2147483648 ≤ (normP a b).1 ∧ (normP a b).1 ≤ 2147483647 ∧ -2147483648 ≤ (normP a b).2 ∧ (normP a b).2 ≤ 2147483647 := by
  unfold normP
  split <;> dsimp only <;> omega
theorem ofP_in {a b : Int} (h : a ≤ b) (h1 : -2147483648 ≤ a) (h2 : b ≤ 2147483647) : ofP a b = (a, b) := by
  unfold ofP normP
  rw [show max a (-2147483648) = a by omega, show min b 2147483647 = b by omega, if_neg (by omega)]

theorem wr1m {a : Int} (h0 : 0 ≤ a) (h1 : a ≤ 5) : IntKind.i64.wrap (a - 1) = a - 1 := IntWalk.i64_in _ ⟨by omega, by omega⟩

set_option maxHeartbeats 8000000 in
set_option maxRecDepth 100000 in
theorem f12_pure (v0 v1 v2 v3 : Int) (hv : InV [v0, v1, v2, v3]) (m : Nat) (l : List Int) (hl : l.length = m * 6) : f12_wp v0 v1 v2 v3 m (ic .i64 l) (fun r' => r' = boRet true) := by
  unfold f12_wp
  (try delta X12_16)
  (try delta X12_15)
  (try delta X12_6)
  (try delta X12_14)
  (try delta X12_13)
  (try delta X12_12)
  (try delta X12_11)
  (try delta X12_10)
  (try delta X12_9)
  (try delta X12_8)
  (try delta X12_7)
  (try delta X12_5)
  (try delta X12_4)
  (try delta X12_3)
  (try delta X12_2)
  (try delta X12_1)
  (try delta X12_0)
  simp only [Nat.mul_one, Nat.zero_add, int_get, okK_ic, ic_len, actW_g, bO_f]
  refine letV_j fun u1 h1 => ?_
  have g1 : Gd 4 u1 := by rw [← h1]; exact (top_rep (by omega)).1
  have l1 : u1.2.2.length = 49 := g1.len
  have p1 : ∀ v : List Int, InV v → Pt 4 (vF v) u1 := fun v hv => by rw [← h1]; exact top_pt (by omega) (inV_in hv 4)
  have c1 : (capN u1.1).toNat = 4 := by rw [g1.hn]; rfl
  clear h1
  refine ck_i (by simp [ic_len, l1]) ?_
  refine And.intro (by simp [plain_ic]) ?_
  refine LoopP.ind (I := fun s => ∃ (W : Zo) (v : List Int), Gd 4 W ∧ v.length = 4 ∧ InV v ∧ Pt 4 (vF v) W ∧ 0 ≤ s.1 ∧ s.1 ≤ ((m : Nat) : Int) ∧ s.1 ≤ 16 ∧ s.2 = (W.2.1, (capN W.1).toNat, ic .i64 (itvsZ W (capN W.1).toNat), W.1, W.2.1, ic .i64 W.2.2, ic .i64 v)) (μ := fun s => (16 - s.1).toNat) ?_ ⟨u1, [v0, v1, v2, v3], g1, rfl, hv, p1 _ hv, by dsimp only; omega, by dsimp only; omega, by dsimp only; omega, by
    have r0 := inV_get hv 0
    have r1 := inV_get hv 1
    have r2 := inV_get hv 2
    have r3 := inV_get hv 3
    have r0 : -2147483648 ≤ v0 ∧ v0 ≤ 2147483647 := r0
    have r1 : -2147483648 ≤ v1 ∧ v1 ≤ 2147483647 := r1
    have r2 : -2147483648 ≤ v2 ∧ v2 ≤ 2147483647 := r2
    have r3 : -2147483648 ≤ v3 ∧ v3 ≤ 2147483647 := r3
    dsimp only
    rw [c1, i64_id (n := v0) (by omega) (by omega), i64_id (n := v1) (by omega) (by omega), i64_id (n := v2) (by omega) (by omega), i64_id (n := v3) (by omega) (by omega)]
    rfl⟩
  rintro ⟨i, c, rn, rc, Nn, b, D, vs⟩ k0 ⟨W, v, gW, lv, iv, pW, i1, i2, i3, i4⟩ hk
  dsimp only at i1 i2 i3 i4 ⊢
  simp only [Prod.mk.injEq] at i4
  obtain ⟨rfl, rfl, rfl, rfl, rfl, rfl, rfl⟩ := i4
  clear p1 g1 l1 c1 hv
  have lW := gW.len
  have oW := okSl_itvs (z := W) (t := (capN W.1).toNat)
  have hW := has_true gW iv pW
  have hW3 : hasZ W 3 (v.take 3) = false := has_count gW (by omega)
  have nW : W.2.1 = false := pW.1
  have ro4 : okRowU 1 (Cell.sl 4 (ic .i64 v)) = true := ro_ok lv
  have ro3 : okRowU 1 (Cell.sl 3 (ic .i64 (v.take 3))) = true := ro_ok (by rw [List.length_take]; omega)
  have tk3 : List.take 3 (ic .i64 v) = ic .i64 (v.take 3) := by simp [ic, List.map_take]
  simp only [tk3]
  refine cond_i (fun q1 => ?_) (fun q1 => ?_)
  · have q1 : i < m := of_decide_eq_true q1
    refine cond_i (fun q2 => ?_) (fun q2 => ?_)
    · have q2 : i < 16 := of_decide_eq_true q2
      have fin : ∀ (z' : Zo) (v' : List Int), Gd 4 z' → v'.length = 4 → InV v' → Pt 4 (vF v') z' → z'.2.2.length = 49 ∧ okRowU 1 (Cell.sl 4 (ic .i64 v')) = true ∧ hasZ (z'.1, z'.2.1, z'.2.2) 4 v' = true ∧ z'.2.1 = false ∧ k0 (i + 1, z'.2.1, (capN z'.1).toNat, ic .i64 (itvsZ z' (capN z'.1).toNat), z'.1, z'.2.1, ic .i64 z'.2.2, ic .i64 v') ∧ okSl 2 (Cell.sl (capN z'.1).toNat (ic .i64 (itvsZ z' (capN z'.1).toNat))) = true := fun z' v' g l' iv' p =>
        ⟨g.len, ro_ok l', has_true g iv' p, p.1, hk _ ⟨z', v', g, l', iv', p, by dsimp only; omega, by dsimp only; omega, by dsimp only; omega, rfl⟩ (by dsimp only; omega), okSl_itvs⟩
      have al : ∀ j, j < 6 → i.toNat * 6 + j < l.length := fun j hj => by rw [hl]; omega
      have wi := wr1 (show -1000 ≤ i by omega) (show i ≤ 1000 by omega)
      refine ck_i (by simp [hl]; omega) (ck_i (by simp [hl]; omega) ?_)
      clear al
      generalize l.getD (i.toNat * 6) 0 = ak
      generalize l.getD (i.toNat * 6 + 1) 0 = ax
      generalize l.getD (i.toNat * 6 + 2) 0 = ay
      generalize l.getD (i.toNat * 6 + 3) 0 = ab
      generalize l.getD (i.toNat * 6 + 4) 0 = alo
      generalize l.getD (i.toNat * 6 + 5) 0 = ahi
      have rX := mod_in (a := ax) (m := 4) (by omega) (by omega)
      have rY := actW_in ay
      have rB := bO_in ab
      have rK := actW_in ak
      rw [wi]
      clear wi
      generalize IntKind.i64.wrap ((IntKind.u64.wrap ax).tmod 4) = X at rX ⊢
      generalize actW ay = Y0 at rY ⊢
      simp only [wr1m (show 0 ≤ Y0 by omega) (show Y0 ≤ 5 by omega)]
      obtain ⟨Y, rfl⟩ : ∃ Y, Y0 = Y + 1 := ⟨Y0 - 1, by omega⟩
      simp only [show Y + 1 - 1 = Y by omega]
      generalize bO ab = B at rB ⊢
      have rp := norm_rng (bI_range alo) (bI_range ahi)
      refine letV_j fun p hp => ?_
      rw [hp] at rp
      clear hp hk
      have gX := inV_get iv X.toNat
      have fX : vF v (X + 1).toNat = v.getD X.toNat 0 := by rw [show (X + 1).toNat = X.toNat + 1 by omega, vF_succ]
      have s0 := fin W v gW lv iv pW
      refine cond_i (fun qY => ?_) (fun qY => ?_)
      · have qY : Y ≥ 0 := of_decide_eq_true qY
        have gY := inV_get iv Y.toNat
        have fY : vF v (Y + 1).toNat = v.getD Y.toNat 0 := by rw [show (Y + 1).toNat = Y.toNat + 1 by omega, vF_succ]
        refine ck_i (by simp; omega) (ck_i (by simp only [okK_ic, ic_len, lv]; simp; omega) ?_)
        try simp only [int_get]
        generalize v.getD Y.toNat 0 = at' at *
        refine cond_i (fun c0 => ?_) (fun c0 => ?_)
        · have c0 : actW ak = 0 := by simpa using c0
          refine cond_i (fun d => ?_) (fun d => ?_)
          · have d : p.1 ≤ p.2 := of_decide_eq_true d
            refine ck_i (by simp [ic_len, lW]) ?_
            refine letV_j fun q hq => ?_
            obtain rfl : q = (p.1, p.2) := by rw [← hq, ofP_in d (by omega) (by omega)]
            clear hq
            refine letV_j fun u hu => ?_
            simp only [map_ic, Prod.eta] at hu
            have ff := has_forget gW lv iv pW (x := X) (b := p.1) (by omega) ⟨by omega, by omega⟩
            have lv' : (v.set X.toNat p.1).length = 4 := by rw [List.length_set]; exact lv
            have ex : vF (v.set X.toNat p.1) (X + 1).toNat = p.1 := by rw [vF_set (by omega), if_pos (by omega)]
            have bb := has_held ff.1 ff.2.1 (x := X) (lo := p.1) (hi := p.2) (by omega) (by rw [ex]; omega) (by rw [ex]; exact d) (by omega) (by omega)
            rw [hu] at bb
            have fq := fin u (v.set X.toNat p.1) bb.1 lv' ff.2.2 bb.2
            clear ff ex
            clear hu bb fX fY
            clear fin s0
            obtain ⟨f1, f2, f3, f4, f5, f6⟩ := fq
            simp only [ics] at *
            (repeat ((first | with_reducible apply ck_i | with_reducible apply And.intro); · (first | with_reducible rfl | ((try simp only [ics]) <;> simp [ics, *] <;> omega))))
            exact f5
          · skip
            obtain ⟨f1, f2, f3, f4, f5, f6⟩ := s0
            clear fin
            simp only [map_ic, Prod.eta] at *
            (repeat ((first | with_reducible apply ck_i | with_reducible apply And.intro); · (first | with_reducible rfl | ((try simp only [ics]) <;> simp [ics, *] <;> omega))))
            exact f5
        · have c0 : ¬ actW ak = 0 := by simpa using c0
          refine cond_i (fun c1 => ?_) (fun c1 => ?_)
          · skip
            refine ck_i (by simp [ic_len, lW]) ?_
            refine ck_i (by simp; omega) ?_
            refine ck_i (by simp only [okK_ic, ic_len, lv]; simp; omega) ?_
            try simp only [int_get]
            refine letV_j fun q hq => ?_
            have gX := gX
            generalize v.getD X.toNat 0 = vx at *
            obtain rfl : q = (if p.1 < vx then p.1 else vx, if p.2 > vx then p.2 else vx) := by
              rw [← hq, ofP_in (by split <;> split <;> omega) (by split <;> omega) (by split <;> omega)]
            clear hq
            refine letV_j fun u hu => ?_
            simp only [map_ic, Prod.eta] at hu
            have bb := has_held gW pW (x := X) (lo := if p.1 < vx then p.1 else vx) (hi := if p.2 > vx then p.2 else vx) (by omega) (by rw [fX]; split <;> omega) (by rw [fX]; split <;> omega) (by split <;> omega) (by split <;> omega)
            rw [hu] at bb
            have fq := fin u v bb.1 lv iv bb.2

            clear hu bb fX fY
            clear fin s0
            obtain ⟨f1, f2, f3, f4, f5, f6⟩ := fq
            simp only [ics] at *
            (repeat ((first | with_reducible apply ck_i | with_reducible apply And.intro); · (first | with_reducible rfl | ((try simp only [ics]) <;> simp [ics, *] <;> omega))))
            exact f5
          · have c1 : ¬ actW ak = 1 := by simpa using c1
            refine cond_i (fun c2 => ?_) (fun c2 => ?_)
            · skip
              refine ck_i (by simp [ic_len, lW]) ?_
              refine ck_i (by simp; omega) ?_
              refine ck_i (by simp only [okK_ic, ic_len, lv]; simp; omega) ?_
              try simp only [int_get]
              refine letV_j fun q hq => ?_
              have gX := gX
              generalize v.getD X.toNat 0 = vx at *
              obtain rfl : q = (if p.1 < vx then p.1 else vx, if p.2 > vx then p.2 else vx) := by
                rw [← hq, ofP_in (by split <;> split <;> omega) (by split <;> omega) (by split <;> omega)]
              clear hq
              refine letV_j fun u hu => ?_
              simp only [map_ic, Prod.eta] at hu
              have bb := has_held gW pW (x := X) (lo := if p.1 < vx then p.1 else vx) (hi := if p.2 > vx then p.2 else vx) (by omega) (by rw [fX]; split <;> omega) (by rw [fX]; split <;> omega) (by split <;> omega) (by split <;> omega)
              rw [hu] at bb
              have fq := fin u v bb.1 lv iv bb.2

              clear hu bb fX fY
              clear fin s0
              obtain ⟨f1, f2, f3, f4, f5, f6⟩ := fq
              simp only [ics] at *
              (repeat ((first | with_reducible apply ck_i | with_reducible apply And.intro); · (first | with_reducible rfl | ((try simp only [ics]) <;> simp [ics, *] <;> omega))))
              exact f5
            · have c2 : ¬ actW ak = 2 := by simpa using c2
              refine cond_i (fun c3 => ?_) (fun c3 => ?_)
              · skip
                rw [IntWalk.i64_in (at' + B) ⟨by omega, by omega⟩]
                refine cond_i (fun d => ?_) (fun d => ?_)
                · have d := of_decide_eq_true d
                  refine cond_i (fun d2 => ?_) (fun d2 => ?_)
                  · have d2 := of_decide_eq_true d2
                    refine ck_i (by simp [ic_len, lW]) ?_
                    refine letV_j fun u hu => ?_
                    simp only [map_ic, Prod.eta] at hu
                    have bb := has_copy gW lv iv pW (x := X) (y := Y) (b := B) (c := at' + B) (by omega) (by omega) ⟨by omega, by omega⟩ (by rw [fY]; try omega) ⟨by omega, by omega⟩
                    rw [hu] at bb
                    have lv' : (v.set X.toNat (at' + B)).length = 4 := by rw [List.length_set]; exact lv
                    have fq := fin u (v.set X.toNat (at' + B)) bb.1 lv' bb.2.2 bb.2.1
                    clear hu bb fX fY
                    clear fin s0
                    obtain ⟨f1, f2, f3, f4, f5, f6⟩ := fq
                    simp only [ics] at *
                    (repeat ((first | with_reducible apply ck_i | with_reducible apply And.intro); · (first | with_reducible rfl | ((try simp only [ics]) <;> simp [ics, *] <;> omega))))
                    exact f5
                  · skip
                    obtain ⟨f1, f2, f3, f4, f5, f6⟩ := s0
                    clear fin
                    simp only [map_ic, Prod.eta] at *
                    (repeat ((first | with_reducible apply ck_i | with_reducible apply And.intro); · (first | with_reducible rfl | ((try simp only [ics]) <;> simp [ics, *] <;> omega))))
                    exact f5
                · skip
                  obtain ⟨f1, f2, f3, f4, f5, f6⟩ := s0
                  clear fin
                  simp only [map_ic, Prod.eta] at *
                  (repeat ((first | with_reducible apply ck_i | with_reducible apply And.intro); · (first | with_reducible rfl | ((try simp only [ics]) <;> simp [ics, *] <;> omega))))
                  exact f5
              · have c3 : ¬ actW ak = 3 := by simpa using c3
                refine cond_i (fun c4 => ?_) (fun c4 => ?_)
                · skip
                  refine cond_i (fun d => ?_) (fun d => ?_)
                  · have d : ¬ X = Y := by simpa using d
                    refine ck_i (by simp [ic_len, lW]) ?_
                    refine ck_i (by simp; omega) ?_
                    refine ck_i (by simp only [okK_ic, ic_len, lv]; simp; omega) ?_
                    try simp only [int_get]
                    have gX := gX
                    generalize v.getD X.toNat 0 = vx at *
                    rw [IntWalk.i64_in (vx - at') ⟨by omega, by omega⟩, IntWalk.i64_in (vx - at' + if 0 > B then 0 else B) ⟨by split <;> omega, by split <;> omega⟩]
                    refine letV_j fun u hu => ?_
                    simp only [map_ic, Prod.eta] at hu
                    have bb := has_bound gW pW (x := X) (y := Y) (c := vx - at' + if 0 > B then 0 else B) (by omega) (by omega) (by rw [fX, fY]; split <;> omega) (by split <;> omega)
                    rw [hu] at bb
                    have fq := fin u v bb.1 lv iv bb.2
                    clear hu bb fX fY
                    clear fin s0
                    obtain ⟨f1, f2, f3, f4, f5, f6⟩ := fq
                    simp only [ics] at *
                    (repeat ((first | with_reducible apply ck_i | with_reducible apply And.intro); · (first | with_reducible rfl | ((try simp only [ics]) <;> simp [ics, *] <;> omega))))
                    exact f5
                  · skip
                    obtain ⟨f1, f2, f3, f4, f5, f6⟩ := s0
                    clear fin
                    simp only [map_ic, Prod.eta] at *
                    (repeat ((first | with_reducible apply ck_i | with_reducible apply And.intro); · (first | with_reducible rfl | ((try simp only [ics]) <;> simp [ics, *] <;> omega))))
                    exact f5
                · have c4 : ¬ actW ak = 4 := by simpa using c4
                  exact absurd rK (by omega)
      · have qY : ¬ Y ≥ 0 := of_decide_eq_false qY
        obtain rfl : Y = -1 := by omega
        have fY : vF v ((-1 : Int) + 1).toNat = 0 := rfl
        refine cond_i (fun c0 => ?_) (fun c0 => ?_)
        · have c0 : actW ak = 0 := by simpa using c0
          refine cond_i (fun d => ?_) (fun d => ?_)
          · have d : p.1 ≤ p.2 := of_decide_eq_true d
            refine ck_i (by simp [ic_len, lW]) ?_
            refine letV_j fun q hq => ?_
            obtain rfl : q = (p.1, p.2) := by rw [← hq, ofP_in d (by omega) (by omega)]
            clear hq
            refine letV_j fun u hu => ?_
            simp only [map_ic, Prod.eta] at hu
            have ff := has_forget gW lv iv pW (x := X) (b := p.1) (by omega) ⟨by omega, by omega⟩
            have lv' : (v.set X.toNat p.1).length = 4 := by rw [List.length_set]; exact lv
            have ex : vF (v.set X.toNat p.1) (X + 1).toNat = p.1 := by rw [vF_set (by omega), if_pos (by omega)]
            have bb := has_held ff.1 ff.2.1 (x := X) (lo := p.1) (hi := p.2) (by omega) (by rw [ex]; omega) (by rw [ex]; exact d) (by omega) (by omega)
            rw [hu] at bb
            have fq := fin u (v.set X.toNat p.1) bb.1 lv' ff.2.2 bb.2
            clear ff ex
            clear hu bb fX fY
            clear fin s0
            obtain ⟨f1, f2, f3, f4, f5, f6⟩ := fq
            simp only [ics] at *
            (repeat ((first | with_reducible apply ck_i | with_reducible apply And.intro); · (first | with_reducible rfl | ((try simp only [ics]) <;> simp [ics, *] <;> omega))))
            exact f5
          · skip
            obtain ⟨f1, f2, f3, f4, f5, f6⟩ := s0
            clear fin
            simp only [map_ic, Prod.eta] at *
            (repeat ((first | with_reducible apply ck_i | with_reducible apply And.intro); · (first | with_reducible rfl | ((try simp only [ics]) <;> simp [ics, *] <;> omega))))
            exact f5
        · have c0 : ¬ actW ak = 0 := by simpa using c0
          refine cond_i (fun c1 => ?_) (fun c1 => ?_)
          · skip
            refine ck_i (by simp [ic_len, lW]) ?_
            refine ck_i (by simp; omega) ?_
            refine ck_i (by simp only [okK_ic, ic_len, lv]; simp; omega) ?_
            try simp only [int_get]
            refine letV_j fun q hq => ?_
            have gX := gX
            generalize v.getD X.toNat 0 = vx at *
            obtain rfl : q = (if p.1 < vx then p.1 else vx, if p.2 > vx then p.2 else vx) := by
              rw [← hq, ofP_in (by split <;> split <;> omega) (by split <;> omega) (by split <;> omega)]
            clear hq
            refine letV_j fun u hu => ?_
            simp only [map_ic, Prod.eta] at hu
            have bb := has_held gW pW (x := X) (lo := if p.1 < vx then p.1 else vx) (hi := if p.2 > vx then p.2 else vx) (by omega) (by rw [fX]; split <;> omega) (by rw [fX]; split <;> omega) (by split <;> omega) (by split <;> omega)
            rw [hu] at bb
            have fq := fin u v bb.1 lv iv bb.2

            clear hu bb fX fY
            clear fin s0
            obtain ⟨f1, f2, f3, f4, f5, f6⟩ := fq
            simp only [ics] at *
            (repeat ((first | with_reducible apply ck_i | with_reducible apply And.intro); · (first | with_reducible rfl | ((try simp only [ics]) <;> simp [ics, *] <;> omega))))
            exact f5
          · have c1 : ¬ actW ak = 1 := by simpa using c1
            refine cond_i (fun c2 => ?_) (fun c2 => ?_)
            · skip
              refine ck_i (by simp [ic_len, lW]) ?_
              refine ck_i (by simp; omega) ?_
              refine ck_i (by simp only [okK_ic, ic_len, lv]; simp; omega) ?_
              try simp only [int_get]
              refine letV_j fun q hq => ?_
              have gX := gX
              generalize v.getD X.toNat 0 = vx at *
              obtain rfl : q = (if p.1 < vx then p.1 else vx, if p.2 > vx then p.2 else vx) := by
                rw [← hq, ofP_in (by split <;> split <;> omega) (by split <;> omega) (by split <;> omega)]
              clear hq
              refine letV_j fun u hu => ?_
              simp only [map_ic, Prod.eta] at hu
              have bb := has_held gW pW (x := X) (lo := if p.1 < vx then p.1 else vx) (hi := if p.2 > vx then p.2 else vx) (by omega) (by rw [fX]; split <;> omega) (by rw [fX]; split <;> omega) (by split <;> omega) (by split <;> omega)
              rw [hu] at bb
              have fq := fin u v bb.1 lv iv bb.2

              clear hu bb fX fY
              clear fin s0
              obtain ⟨f1, f2, f3, f4, f5, f6⟩ := fq
              simp only [ics] at *
              (repeat ((first | with_reducible apply ck_i | with_reducible apply And.intro); · (first | with_reducible rfl | ((try simp only [ics]) <;> simp [ics, *] <;> omega))))
              exact f5
            · have c2 : ¬ actW ak = 2 := by simpa using c2
              refine cond_i (fun c3 => ?_) (fun c3 => ?_)
              · skip
                simp only [Int.zero_add]
                rw [IntWalk.i64_in B ⟨by omega, by omega⟩]
                refine cond_i (fun d => ?_) (fun d => ?_)
                · have d := of_decide_eq_true d
                  refine cond_i (fun d2 => ?_) (fun d2 => ?_)
                  · have d2 := of_decide_eq_true d2
                    refine ck_i (by simp [ic_len, lW]) ?_
                    refine letV_j fun u hu => ?_
                    simp only [map_ic, Prod.eta] at hu
                    have bb := has_copy gW lv iv pW (x := X) (y := -1) (b := B) (c := B) (by omega) (by omega) ⟨by omega, by omega⟩ (by rw [fY]; try omega) ⟨by omega, by omega⟩
                    rw [hu] at bb
                    have lv' : (v.set X.toNat (B)).length = 4 := by rw [List.length_set]; exact lv
                    have fq := fin u (v.set X.toNat (B)) bb.1 lv' bb.2.2 bb.2.1
                    clear hu bb fX fY
                    clear fin s0
                    obtain ⟨f1, f2, f3, f4, f5, f6⟩ := fq
                    simp only [ics] at *
                    (repeat ((first | with_reducible apply ck_i | with_reducible apply And.intro); · (first | with_reducible rfl | ((try simp only [ics]) <;> simp [ics, *] <;> omega))))
                    exact f5
                  · skip
                    obtain ⟨f1, f2, f3, f4, f5, f6⟩ := s0
                    clear fin
                    simp only [map_ic, Prod.eta] at *
                    (repeat ((first | with_reducible apply ck_i | with_reducible apply And.intro); · (first | with_reducible rfl | ((try simp only [ics]) <;> simp [ics, *] <;> omega))))
                    exact f5
                · skip
                  obtain ⟨f1, f2, f3, f4, f5, f6⟩ := s0
                  clear fin
                  simp only [map_ic, Prod.eta] at *
                  (repeat ((first | with_reducible apply ck_i | with_reducible apply And.intro); · (first | with_reducible rfl | ((try simp only [ics]) <;> simp [ics, *] <;> omega))))
                  exact f5
              · have c3 : ¬ actW ak = 3 := by simpa using c3
                refine cond_i (fun c4 => ?_) (fun c4 => ?_)
                · skip
                  refine cond_i (fun d => ?_) (fun d => ?_)
                  · have d : ¬ X = -1 := by simpa using d
                    refine ck_i (by simp [ic_len, lW]) ?_
                    refine ck_i (by simp; omega) ?_
                    refine ck_i (by simp only [okK_ic, ic_len, lv]; simp; omega) ?_
                    try simp only [int_get]
                    have gX := gX
                    generalize v.getD X.toNat 0 = vx at *
                    rw [IntWalk.i64_in (vx - 0) ⟨by omega, by omega⟩, IntWalk.i64_in (vx - 0 + if 0 > B then 0 else B) ⟨by split <;> omega, by split <;> omega⟩]
                    refine letV_j fun u hu => ?_
                    simp only [map_ic, Prod.eta] at hu
                    have bb := has_bound gW pW (x := X) (y := -1) (c := vx - 0 + if 0 > B then 0 else B) (by omega) (by omega) (by rw [fX, fY]; split <;> omega) (by split <;> omega)
                    rw [hu] at bb
                    have fq := fin u v bb.1 lv iv bb.2
                    clear hu bb fX fY
                    clear fin s0
                    obtain ⟨f1, f2, f3, f4, f5, f6⟩ := fq
                    simp only [ics] at *
                    (repeat ((first | with_reducible apply ck_i | with_reducible apply And.intro); · (first | with_reducible rfl | ((try simp only [ics]) <;> simp [ics, *] <;> omega))))
                    exact f5
                  · skip
                    obtain ⟨f1, f2, f3, f4, f5, f6⟩ := s0
                    clear fin
                    simp only [map_ic, Prod.eta] at *
                    (repeat ((first | with_reducible apply ck_i | with_reducible apply And.intro); · (first | with_reducible rfl | ((try simp only [ics]) <;> simp [ics, *] <;> omega))))
                    exact f5
                · have c4 : ¬ actW ak = 4 := by simpa using c4
                  exact absurd rK (by omega)
    · have q2 : ¬ i < 16 := of_decide_eq_false q2
      clear hk
      simp only [map_ic, Prod.eta]
      (repeat ((first | with_reducible apply ck_i | with_reducible apply And.intro); · (first | with_reducible rfl | ((try simp only [ics]) <;> simp [ics, *] <;> omega))))
      rw [hW3]; simp; rfl
  · have q1 : ¬ i < m := of_decide_eq_false q1
    clear hk
    simp only [map_ic, Prod.eta]
    (repeat ((first | with_reducible apply ck_i | with_reducible apply And.intro); · (first | with_reducible rfl | ((try simp only [ics]) <;> simp [ics, *] <;> omega))))
    rw [hW3]; simp; rfl
theorem cx12_ok : CtxOk Try.prog cx12.q.ctx := (ctx_cons (g := 51) (ctx_cons (g := 40) (ctx_cons (g := 39) (ctx_cons (g := 53) (ctx_cons (g := 41) (ctx_cons (g := 52) (ctx_cons (g := 59) (ctx_cons (g := 50) (ctx_cons (g := 60) (ctx_cons (g := 43) ctx_nil (by kernel_rfl) sum43_ok) (by kernel_rfl) sum60_ok) (by kernel_rfl) sum50_ok) (by kernel_rfl) sum59_ok) (by kernel_rfl) sum52_ok) (by kernel_rfl) sum41_ok) (by kernel_rfl) sum53_ok) (by kernel_rfl) sum39_ok) (by kernel_rfl) sum40_ok) (by kernel_rfl) sum51_ok)

set_option maxRecDepth 100000 in
theorem f12_true (a0 a1 a2 a3 : Int) (n : Nat) (cs : List Cell) (h0 : (Lit.int .i32 a0).wf = true) (h1 : (Lit.int .i32 a1).wf = true) (h2 : (Lit.int .i32 a2).wf = true) (h3 : (Lit.int .i32 a3).wf = true) {D : Nat} (h : TyC Try.prog D 72 [.sl n cs]) : f12_wp a0 a1 a2 a3 n cs (fun r' => r' = boRet true) := by
  obtain ⟨l, rfl, e, _⟩ := row_ints (k := .i64) (S := [3, 53, 79, 80]) (s := 6) (by kernel_rfl) Try.underlying72 (by decide) (by kernel_rfl) (by decide) h
  refine f12_pure a0 a1 a2 a3 (fun x hx => ?_) n l e
  simp only [List.mem_cons, List.not_mem_nil, or_false] at hx
  rcases hx with rfl | rfl | rfl | rfl
  · exact wf32 h0
  · exact wf32 h1
  · exact wf32 h2
  · exact wf32 h3

end Go.Proofs.Ytgmciihlmgeecaa.Fn
