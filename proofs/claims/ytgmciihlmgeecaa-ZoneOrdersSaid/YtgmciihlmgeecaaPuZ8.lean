import Derived.Test.YtgmciihlmgeecaaPuZ7
import Derived.Test.YtgmciihlmgeecaaWZ4
/- The laws' helpers for zones: what is told of each is so. Conditions: those that each lemma names. -/
namespace Go.Proofs.Ytgmciihlmgeecaa.Fn
open Go Go.RowKit Go.Proofs.Ytgmciihlmgeecaa.Mt Go.Proofs.Ytgmciihlmgeecaa.Zm
set_option linter.unusedVariables false
set_option linter.unusedSimpArgs false

theorem cx28_ok : CtxOk Try.prog cx28.q.ctx := (ctx_cons (g := 32) (ctx_cons (g := 27) (ctx_cons (g := 29) (ctx_cons (g := 30) (ctx_cons (g := 38) (ctx_cons (g := 48) (ctx_cons (g := 25) ctx_nil (by kernel_rfl) sum25_ok) (by kernel_rfl) sum48_ok) (by kernel_rfl) sum38_ok) (by kernel_rfl) sum30_ok) (by kernel_rfl) sum29_ok) (by kernel_rfl) sum27_ok) (by kernel_rfl) sum32_ok)
theorem sum28_ok : ∀ vs r, sum28 vs = some (true, r) → SoundAt Try.prog 28 vs r := by
  intro vs r h
  unfold sum28 at h
  split at h
  · simp only [Option.some.injEq, Prod.mk.injEq, true_and] at h
    subst h
    exact f28_sound cx28_ok rfl
  · cases h

theorem f34_spec (n : Int) (b : Bool) (D : List Int) (hl : D.length = 49) : f34_wp n b (ic .i64 D) (fun r' => r' = zRe (n, b, D)) := by
  unfold f34_wp
  have e : List.take 49 (ic .i64 D) = ic .i64 D := List.take_of_length_le (by rw [ic_len]; omega)
  rw [e]
  (repeat ((first | with_reducible apply ck_i | with_reducible apply And.intro); · (first | (simp only [min_if, max_if, ics]; done) | with_reducible rfl | ((try simp only [min_if, max_if, ics]); simp [min_if, max_if, ics, *]; done) | ((try simp only [min_if, max_if, ics]); simp [min_if, max_if, ics, *]; omega)))); rfl
theorem cx34_ok : CtxOk Try.prog cx34.q.ctx := ctx_nil
theorem sum34_ok : ∀ vs r, sum34 vs = some (true, r) → SoundAt Try.prog 34 vs r := by
  intro vs r h
  unfold sum34 at h
  split at h
  · simp only [Option.some.injEq, Prod.mk.injEq, Bool.and_eq_true] at h
    obtain ⟨h0, rfl⟩ := h
    obtain ⟨n, b, D, hl, hc, rfl⟩ := zone_elim h0
    show SoundAt Try.prog 34 _ (zRet n b ((ic .i64 D).map intC))
    rw [map_ic]
    exact f34_sound _ _ _ cx34_ok (f34_spec n b D hl)
  · cases h

theorem boundZ_len {z : Zo} {x y c : Int} (h : z.2.2.length = 49) : (boundZ z x y c).2.2.length = 49 := by
  unfold boundZ
  split
  · exact closeZ_len (by rw [st_length]; exact h)
  · exact h
theorem f46_spec (n : Int) (b : Bool) (D : List Int) (hl : D.length = 49) (k x y c : Int) : f46_wp n b (ic .i64 D) k x y c (fun r' => r' = zRe (boundA (n, b, D) x y c)) := by
  unfold f46_wp boundA
  (try delta X46_0)
  refine cond_i (fun q => ?_) (fun q => ?_)
  · rw [if_pos (by simpa using q)]
    (repeat ((first | with_reducible apply ck_i | with_reducible apply And.intro); · (first | (simp only [min_if, max_if, ics]; done) | with_reducible rfl | ((try simp only [min_if, max_if, ics]); simp [min_if, max_if, ics, *]; done) | ((try simp only [min_if, max_if, ics]); simp [min_if, max_if, ics, *]; omega)))); rfl
  · rw [if_neg (by simpa using q)]
    have lB := fun x y c => boundZ_len (z := (n, b, D)) (x := x) (y := y) (c := c) hl
    simp only [min_if, max_if, ics]
    (repeat ((first | with_reducible apply ck_i | with_reducible apply And.intro); · (first | (simp only [min_if, max_if, ics]; done) | with_reducible rfl | ((try simp only [min_if, max_if, ics]); simp [min_if, max_if, ics, *]; done) | ((try simp only [min_if, max_if, ics]); simp [min_if, max_if, ics, *]; omega)))); rfl
theorem cx46_ok : CtxOk Try.prog cx46.q.ctx := (ctx_cons (g := 26) ctx_nil (by kernel_rfl) sum26_ok)
theorem sum46_ok : ∀ vs r, sum46 vs = some (true, r) → SoundAt Try.prog 46 vs r := by
  intro vs r h
  unfold sum46 at h
  split at h
  · simp only [Option.some.injEq, Prod.mk.injEq, Bool.and_eq_true] at h
    obtain ⟨⟨h0, h1⟩, rfl⟩ := h
    obtain ⟨n0, b0, D0, hl0, hc0, rfl⟩ := zone_elim h0
    obtain ⟨x1, y1, z1, w1, rfl⟩ := act_elim h1
    (try simp only [zO_ic])
    exact f46_sound _ _ _ _ _ _ _ cx46_ok (f46_spec n0 b0 D0 hl0 x1 y1 z1 w1)
  · cases h

theorem zerosR_fst {t : Nat} {z : Zo} : (zerosR.go t z).1 = z.1 := by
  induction t with
  | zero => rfl
  | succ t ih => unfold zerosR.go; rw [boundR_fst, boundR_fst, ih]
theorem zerosR_len {t : Nat} {z : Zo} (h : z.2.2.length = 49) : (zerosR.go t z).2.2.length = 49 := by
  induction t with
  | zero => exact h
  | succ t ih => unfold zerosR.go; exact boundR_len (boundR_len ih)
theorem f66_spec (n : Int) (hn : okN n = true) : f66_wp n (fun r' => r' = zRe (zerosR n)) := by
  have rn := okN_rng hn
  unfold f66_wp
  (try delta X66_0)
  (try delta X66_1)
  have lT := topR_len (n := n)
  have fT : (topR n).1 = n := by
    unfold topR
    rw [closeR_fst]
    unfold capN
    show min (max n 0) 6 = n
    omega
  have e : zRe (zerosR n) = zRe (zerosR.go n.toNat (topR n)) := rfl
  rw [e]
  clear e
  generalize topR n = T at *
  (repeat ((first | with_reducible apply ck_i | with_reducible apply And.intro); · (first | (simp only [min_if, max_if, ics]; done) | with_reducible rfl | ((try simp only [min_if, max_if, ics]); simp [min_if, max_if, ics, *]; done) | ((try simp only [min_if, max_if, ics]); simp [min_if, max_if, ics, *]; omega))))
  refine LoopP.ind (I := fun z => 0 ≤ z.1 ∧ z.1 ≤ n ∧ z.2 = ((zerosR.go z.1.toNat T).1, (zerosR.go z.1.toNat T).2.1, ic .i64 (zerosR.go z.1.toNat T).2.2)) (μ := fun z => (n - z.1).toNat) ?_ ⟨by dsimp only; omega, by dsimp only; omega, rfl⟩
  rintro ⟨x, wn, wb, cs⟩ k0 ⟨i1, i2, i3⟩ hk
  dsimp only at i1 i2 i3 ⊢
  simp only [Prod.mk.injEq] at i3
  obtain ⟨rfl, rfl, rfl⟩ := i3
  have lW := zerosR_len (t := x.toNat) lT
  have fW : (zerosR.go x.toNat T).1 = n := by rw [zerosR_fst]; exact fT
  refine cond_i (fun q1 => ?_) (fun q1 => ?_)
  · have q1 := of_decide_eq_true q1
    have hk' := hk (x + 1, (zerosR.go (x + 1).toNat T).1, (zerosR.go (x + 1).toNat T).2.1, ic .i64 (zerosR.go (x + 1).toNat T).2.2) ⟨by dsimp only; omega, by dsimp only; omega, rfl⟩ (by dsimp only; omega)
    rw [show (x + 1).toNat = x.toNat + 1 by omega] at hk'
    unfold zerosR.go at hk'
    rw [show ((x.toNat : Nat) : Int) = x by omega] at hk'
    clear hk lT fT
    have hx : in16 x = true := by unfold in16; simp; omega
    have hm : in16 (-1) = true := rfl
    generalize zerosR.go x.toNat T = W at *
    obtain ⟨wn, wb, WD⟩ := W
    dsimp only at lW fW hk' ⊢
    subst fW
    have lB := boundR_len (z := (wn, wb, WD)) (x := x) (y := -1) (c := 0) lW
    have fB := boundR_fst (z := (wn, wb, WD)) (x := x) (y := -1) (c := 0)
    have lB2 := boundR_len (z := boundR (wn, wb, WD) x (-1) 0) (x := -1) (y := x) (c := 0) lB
    have oB : okN (boundR (wn, wb, WD) x (-1) 0).1 = true := by rw [fB]; exact hn
    rw [wr1 (by omega) (by omega)]
    simp only [min_if, max_if, ics]
    (repeat ((first | with_reducible apply ck_i | with_reducible apply And.intro); · (first | (simp only [min_if, max_if, ics]; done) | with_reducible rfl | ((try simp only [min_if, max_if, ics]); simp [min_if, max_if, ics, *]; done) | ((try simp only [min_if, max_if, ics]); simp [min_if, max_if, ics, *]; omega))))
    exact hk'
  · have q1 := of_decide_eq_false q1
    rw [show x.toNat = n.toNat by omega] at lW ⊢
    (repeat ((first | with_reducible apply ck_i | with_reducible apply And.intro); · (first | (simp only [min_if, max_if, ics]; done) | with_reducible rfl | ((try simp only [min_if, max_if, ics]); simp [min_if, max_if, ics, *]; done) | ((try simp only [min_if, max_if, ics]); simp [min_if, max_if, ics, *]; omega)))); rfl
theorem cx66_ok : CtxOk Try.prog cx66.q.ctx := (ctx_cons (g := 31) (ctx_cons (g := 33) ctx_nil (by kernel_rfl) sum33_ok) (by kernel_rfl) sum31_ok)
theorem sum66_ok : ∀ vs r, sum66 vs = some (true, r) → SoundAt Try.prog 66 vs r := by
  intro vs r h
  unfold sum66 at h
  split at h
  · simp only [Option.some.injEq, Prod.mk.injEq, Bool.and_eq_true] at h
    obtain ⟨⟨h0, h1⟩, rfl⟩ := h
    obtain ⟨x0, rfl⟩ := int_elim h0
    (try simp only [zO_ic] at h1)
    (try simp only [zO_ic])
    exact f66_sound _ cx66_ok (f66_spec x0 h1)
  · cases h

/-! ### Rows of calls -/
theorem actW_f {a : Int} : IntKind.i64.wrap ((IntKind.u64.wrap a).tmod 5) = actW a := rfl
theorem actX_f {n a : Int} : IntKind.i64.wrap ((IntKind.u64.wrap a).tmod (IntKind.u64.wrap n)) = actX n a := rfl
theorem actY_f {n a : Int} : IntKind.i64.wrap (actX (IntKind.i64.wrap (n + 1)) a - 1) = actY n a := rfl
theorem actB_f {a : Int} : IntKind.i64.wrap (IntKind.i32.wrap a) = actB a := rfl
theorem okL49 {l : List Int} (h : l.length = 49) : okL K49 (ic .i64 l) = true := okL_ic h
theorem eqW49 {l m : List Int} (h : l.length = 49) (h' : m.length = 49) : eqW K49 (ic .i64 l) (ic .i64 m) = decide (l = m) := eqW_ic h h'
theorem eqW49s {l : List Int} (h : l.length = 49) : eqW K49 (ic .i64 l) (ic .i64 l) = true := by rw [eqW49 h h]; simp
theorem rw_get {l : List Int} {j : Nat} (h : j < l.length) : okK (some .i64) ((ic .i64 l).getD j .dead) = true := okK_get h

set_option maxHeartbeats 2000000 in
theorem f35_spec (n : Int) (b : Bool) (D : List Int) (hl : D.length = 49) (n2 : Int) (b2 : Bool) (D2 : List Int) (hl2 : D2.length = 49) (m : Nat) (l : List Int) (hr : l.length = m * 4) (hs : sameZ (n, b, D) (n2, b2, D2) = true) (hg : goodZ (n, b, D) = true) :
    f35_wp n b (ic .i64 D) n2 b2 (ic .i64 D2) m (ic .i64 l) (fun r' => r' = appRet (applyZ (n, b, D) m l)) := by
  have hs := of_decide_eq_true hs
  simp only [Prod.mk.injEq] at hs
  obtain ⟨rfl, rfl, rfl⟩ := hs
  obtain ⟨N, hG⟩ := good_iff.1 hg
  have n6 := hG.n6
  have hN : (N : Int) = n := hG.hn.symm
  unfold f35_wp
  (try delta X35_5)
  (try delta X35_4)
  (try delta X35_3)
  (try delta X35_2)
  (try delta X35_1)
  (try delta X35_0)
  simp only [int_get, actW_f, actX_f, actY_f, actB_f, okK_ic]
  (repeat ((first | with_reducible apply ck_i | with_reducible apply And.intro); · (first | (simp only [min_if, max_if, ics]; done) | with_reducible rfl | ((try simp only [min_if, max_if, ics]); simp [min_if, max_if, ics, *]; done) | ((try simp only [min_if, max_if, ics]); simp [min_if, max_if, ics, *]; omega))))
  by_cases h0 : n = 0
  · have e : applyZ (n, b, D) m l = (n, b, D) := by unfold applyZ; rw [if_pos h0]
    rw [e]
    refine LoopP.ind (I := fun z => z = (0, n, b, ic .i64 D, n, b, ic .i64 D)) (μ := fun z => 0) ?_ rfl
    rintro _ k0 rfl hk
    clear hk
    dsimp only
    refine cond_i (fun q => ?_) (fun q => ?_)
    · have q := of_decide_eq_true q
      refine cond_i (fun _ => ?_) (fun q => absurd q (by simp))
      refine ck_i (by simp [ic_len, hr]; omega) (ck_i (by simp [ic_len, hr]; omega) ?_)
      refine cond_i (fun q => ?_) (fun q => absurd h0 (by simpa using q))
      (repeat ((first | with_reducible apply ck_i | with_reducible apply And.intro); · (first | (simp only [min_if, max_if, ics]; done) | with_reducible rfl | ((try simp only [min_if, max_if, ics]); simp [min_if, max_if, ics, *]; done) | ((try simp only [min_if, max_if, ics]); simp [min_if, max_if, ics, *]; omega)))); rfl
    · (repeat ((first | with_reducible apply ck_i | with_reducible apply And.intro); · (first | (simp only [min_if, max_if, ics]; done) | with_reducible rfl | ((try simp only [min_if, max_if, ics]); simp [min_if, max_if, ics, *]; done) | ((try simp only [min_if, max_if, ics]); simp [min_if, max_if, ics, *]; omega)))); rfl
  · have e : applyZ (n, b, D) m l = rowsZ (n, b, D) l (min m 20) := by unfold applyZ; rw [if_neg h0]
    rw [e]
    clear e
    refine LoopP.ind (I := fun z => 0 ≤ z.1 ∧ z.1 ≤ ((min m 20 : Nat) : Int) ∧ z.2 = ((rowsZ (n, b, D) l z.1.toNat).1, (rowsZ (n, b, D) l z.1.toNat).2.1, ic .i64 (rowsZ (n, b, D) l z.1.toNat).2.2, (rowsZ (n, b, D) l z.1.toNat).1, (rowsZ (n, b, D) l z.1.toNat).2.1, ic .i64 (rowsZ (n, b, D) l z.1.toNat).2.2)) (μ := fun z => (((min m 20 : Nat) : Int) - z.1).toNat) ?_ ⟨by dsimp only; omega, by dsimp only; omega, rfl⟩
    rintro ⟨i, wn, wb, cs, wn2, wb2, cs2⟩ k0 ⟨i1, i2, i3⟩ hk
    dsimp only at i1 i2 i3 ⊢
    simp only [Prod.mk.injEq] at i3
    obtain ⟨rfl, rfl, rfl, rfl, rfl, rfl⟩ := i3
    have gW := rows_gd hG l i.toNat
    have dn : (rowsZ (n, b, D) l i.toNat).1 = n := by rw [gW.hn]; exact hN
    refine cond_i (fun q => ?_) (fun q => ?_)
    · have q := of_decide_eq_true q
      refine cond_i (fun q2 => ?_) (fun q2 => ?_)
      · have q2 := of_decide_eq_true q2
        have hk' := hk (i + 1, (rowsZ (n, b, D) l (i + 1).toNat).1, (rowsZ (n, b, D) l (i + 1).toNat).2.1, ic .i64 (rowsZ (n, b, D) l (i + 1).toNat).2.2, (rowsZ (n, b, D) l (i + 1).toNat).1, (rowsZ (n, b, D) l (i + 1).toNat).2.1, ic .i64 (rowsZ (n, b, D) l (i + 1).toNat).2.2) ⟨by dsimp only; omega, by dsimp only; omega, rfl⟩ (by dsimp only; omega)
        rw [show (i + 1).toNat = i.toNat + 1 by omega] at hk'
        unfold rowsZ at hk'
        have wi := wr1 (show -1000 ≤ i by omega) (show i ≤ 1000 by omega)
        refine ck_i (by simp [ic_len, hr]; omega) (ck_i (by simp [ic_len, hr]; omega) ?_)
        clear hk
        generalize rowsZ (n, b, D) l i.toNat = W at *
        generalize l.getD (i.toNat * 4) 0 = ak at *
        generalize l.getD (i.toNat * 4 + 1) 0 = ax at *
        generalize l.getD (i.toNat * 4 + 2) 0 = ay at *
        generalize l.getD (i.toNat * 4 + 3) 0 = ab at *
        obtain ⟨wn, wb, WD⟩ := W
        dsimp only at dn hk' ⊢
        subst dn
        have lW : WD.length = 49 := gW.len
        have rX := actX_in (n := wn) (a := ax) (by omega) (by omega)
        have rY := actY_in (n := wn) (a := ay) (by omega) (by omega)
        have rB := actB_in ab
        have rW := actW_in ak
        have oW : okN wn = true := gW.okN
        have xX : in16 (actX wn ax) = true := by unfold in16; simp; omega
        have xY : in16 (actY wn ay) = true := by unfold in16; simp; omega
        have skip : stepZ (wn, wb, WD) ak ax ay ab = (wn, wb, WD) → ∀ (r : Bool), r = rightZ (wn, wb, WD) → r = true := fun _ r hr => by rw [hr]; exact right_gd gW
        have rt : rightZ (wn, wb, WD) = true := right_gd gW
        have k1 := okL49 lW
        have k2 := eqW49s lW
        clear skip hg
        refine cond_i (fun q3 => ?_) (fun q3 => ?_)
        · exact absurd (by simpa using q3) h0
        refine ck_i (by rw [IntWalk.u64_in wn ⟨by omega, by omega⟩]; simpa using h0) (ck_i (by rw [wr1 (by omega) (by omega), IntWalk.u64_in (wn + 1) ⟨by omega, by omega⟩]; simp; omega) ?_)
        rw [wi]
        dsimp only [stepZ] at hk'
        refine cond_i (fun c0 => ?_) (fun c0 => ?_)
        · have c0 : actW ak = 0 := by simpa using c0
          rw [if_pos c0] at hk'
          refine cond_i (fun d => ?_) (fun d => ?_)
          · have d : ¬ actX wn ax = actY wn ay := by simpa using d
            rw [if_neg d] at hk'
            have gu : Gd N (boundZ (wn, wb, WD) (actX wn ax) (actY wn ay) (actB ab)) := bound_gd gW
            (repeat ((first | with_reducible apply ck_i | with_reducible apply And.intro); · (first | (simp only [min_if, max_if, ics]; done) | with_reducible rfl | ((try simp only [min_if, max_if, ics]); simp [min_if, max_if, ics, *]; done) | ((try simp only [min_if, max_if, ics]); simp [min_if, max_if, ics, *]; omega))))
            refine letV_i fun u hu => ?_
            rw [map_ic] at hu
            rw [← hu] at gu hk'
            have lu : u.2.2.length = 49 := gu.len
            have ru : rightZ (u.1, u.2.1, u.2.2) = true := right_gd gu
            have ku := okL49 lu
            have ku2 := eqW49s lu
            (repeat ((first | with_reducible apply ck_i | with_reducible apply And.intro); · (first | (simp only [min_if, max_if, ics]; done) | with_reducible rfl | ((try simp only [min_if, max_if, ics]); simp [min_if, max_if, ics, *]; done) | ((try simp only [min_if, max_if, ics]); simp [min_if, max_if, ics, *]; omega))))
            refine letV_i fun v hv => ?_
            obtain rfl : v = u := by rw [hv, hu, map_ic]; exact boundR_eq gW (by omega) (by omega) (by omega)
            clear hu hv
            simp only [map_ic]
            (repeat ((first | with_reducible apply ck_i | with_reducible apply And.intro); · (first | (simp only [min_if, max_if, ics]; done) | with_reducible rfl | ((try simp only [min_if, max_if, ics]); simp [min_if, max_if, ics, *]; done) | ((try simp only [min_if, max_if, ics]); simp [min_if, max_if, ics, *]; omega))))
            exact hk'
          · have d : actX wn ax = actY wn ay := by simpa using d
            rw [if_pos d] at hk'
            simp only [map_ic]
            (repeat ((first | with_reducible apply ck_i | with_reducible apply And.intro); · (first | (simp only [min_if, max_if, ics]; done) | with_reducible rfl | ((try simp only [min_if, max_if, ics]); simp [min_if, max_if, ics, *]; done) | ((try simp only [min_if, max_if, ics]); simp [min_if, max_if, ics, *]; omega))))
            exact hk'
        · have c0 : ¬ actW ak = 0 := by simpa using c0
          rw [if_neg c0] at hk'
          refine cond_i (fun c1 => ?_) (fun c1 => ?_)
          · have c1 : actW ak = 1 := by simpa using c1
            rw [if_pos c1] at hk'
            refine cond_i (fun d => ?_) (fun d => ?_)
            · have d : ¬ actX wn ax = actY wn ay := by simpa using d
              rw [if_neg d] at hk'
              have gu : Gd N (boundZ (wn, wb, WD) (actY wn ay) (actX wn ax) (actB ab)) := bound_gd gW
              (repeat ((first | with_reducible apply ck_i | with_reducible apply And.intro); · (first | (simp only [min_if, max_if, ics]; done) | with_reducible rfl | ((try simp only [min_if, max_if, ics]); simp [min_if, max_if, ics, *]; done) | ((try simp only [min_if, max_if, ics]); simp [min_if, max_if, ics, *]; omega))))
              refine letV_i fun u hu => ?_
              rw [map_ic] at hu
              rw [← hu] at gu hk'
              have lu : u.2.2.length = 49 := gu.len
              have ru : rightZ (u.1, u.2.1, u.2.2) = true := right_gd gu
              have ku := okL49 lu
              have ku2 := eqW49s lu
              (repeat ((first | with_reducible apply ck_i | with_reducible apply And.intro); · (first | (simp only [min_if, max_if, ics]; done) | with_reducible rfl | ((try simp only [min_if, max_if, ics]); simp [min_if, max_if, ics, *]; done) | ((try simp only [min_if, max_if, ics]); simp [min_if, max_if, ics, *]; omega))))
              refine letV_i fun v hv => ?_
              obtain rfl : v = u := by rw [hv, hu, map_ic]; exact boundR_eq gW (by omega) (by omega) (by omega)
              clear hu hv
              simp only [map_ic]
              (repeat ((first | with_reducible apply ck_i | with_reducible apply And.intro); · (first | (simp only [min_if, max_if, ics]; done) | with_reducible rfl | ((try simp only [min_if, max_if, ics]); simp [min_if, max_if, ics, *]; done) | ((try simp only [min_if, max_if, ics]); simp [min_if, max_if, ics, *]; omega))))
              exact hk'
            · have d : actX wn ax = actY wn ay := by simpa using d
              rw [if_pos d] at hk'
              simp only [map_ic]
              (repeat ((first | with_reducible apply ck_i | with_reducible apply And.intro); · (first | (simp only [min_if, max_if, ics]; done) | with_reducible rfl | ((try simp only [min_if, max_if, ics]); simp [min_if, max_if, ics, *]; done) | ((try simp only [min_if, max_if, ics]); simp [min_if, max_if, ics, *]; omega))))
              exact hk'
          · have c1 : ¬ actW ak = 1 := by simpa using c1
            rw [if_neg c1] at hk'
            refine cond_i (fun c2 => ?_) (fun c2 => ?_)
            · have c2 : actW ak = 2 := by simpa using c2
              rw [if_pos c2] at hk'
              have gu : Gd N (forgetZ (wn, wb, WD) (actX wn ax)) := forget_gd gW
              (repeat ((first | with_reducible apply ck_i | with_reducible apply And.intro); · (first | (simp only [min_if, max_if, ics]; done) | with_reducible rfl | ((try simp only [min_if, max_if, ics]); simp [min_if, max_if, ics, *]; done) | ((try simp only [min_if, max_if, ics]); simp [min_if, max_if, ics, *]; omega))))
              refine letV_i fun u hu => ?_
              rw [map_ic] at hu
              rw [← hu] at gu hk'
              have lu : u.2.2.length = 49 := gu.len
              have ru : rightZ (u.1, u.2.1, u.2.2) = true := right_gd gu
              have ku := okL49 lu
              have ku2 := eqW49s lu
              (repeat ((first | with_reducible apply ck_i | with_reducible apply And.intro); · (first | (simp only [min_if, max_if, ics]; done) | with_reducible rfl | ((try simp only [min_if, max_if, ics]); simp [min_if, max_if, ics, *]; done) | ((try simp only [min_if, max_if, ics]); simp [min_if, max_if, ics, *]; omega))))
              refine letV_i fun v hv => ?_
              obtain rfl : v = u := by rw [hv, hu, map_ic]; exact forgetR_eq gW (by omega)
              clear hu hv
              simp only [map_ic]
              (repeat ((first | with_reducible apply ck_i | with_reducible apply And.intro); · (first | (simp only [min_if, max_if, ics]; done) | with_reducible rfl | ((try simp only [min_if, max_if, ics]); simp [min_if, max_if, ics, *]; done) | ((try simp only [min_if, max_if, ics]); simp [min_if, max_if, ics, *]; omega))))
              exact hk'
            · have c2 : ¬ actW ak = 2 := by simpa using c2
              rw [if_neg c2] at hk'
              have c5 : actW ak = 3 ∨ actW ak = 4 := by omega
              rw [if_pos c5] at hk'
              refine cond_i (fun c3 => ?_) (fun c3 => ?_)
              · skip
                have gu : Gd N (copyZ (wn, wb, WD) (actX wn ax) (actY wn ay) (actB ab)) := copy_gd gW
                (repeat ((first | with_reducible apply ck_i | with_reducible apply And.intro); · (first | (simp only [min_if, max_if, ics]; done) | with_reducible rfl | ((try simp only [min_if, max_if, ics]); simp [min_if, max_if, ics, *]; done) | ((try simp only [min_if, max_if, ics]); simp [min_if, max_if, ics, *]; omega))))
                refine letV_i fun u hu => ?_
                rw [map_ic] at hu
                rw [← hu] at gu hk'
                have lu : u.2.2.length = 49 := gu.len
                have ru : rightZ (u.1, u.2.1, u.2.2) = true := right_gd gu
                have ku := okL49 lu
                have ku2 := eqW49s lu
                (repeat ((first | with_reducible apply ck_i | with_reducible apply And.intro); · (first | (simp only [min_if, max_if, ics]; done) | with_reducible rfl | ((try simp only [min_if, max_if, ics]); simp [min_if, max_if, ics, *]; done) | ((try simp only [min_if, max_if, ics]); simp [min_if, max_if, ics, *]; omega))))
                refine letV_i fun v hv => ?_
                obtain rfl : v = u := by rw [hv, hu, map_ic]; exact copyR_eq gW (by omega) (by omega) (by omega)
                clear hu hv
                simp only [map_ic]
                (repeat ((first | with_reducible apply ck_i | with_reducible apply And.intro); · (first | (simp only [min_if, max_if, ics]; done) | with_reducible rfl | ((try simp only [min_if, max_if, ics]); simp [min_if, max_if, ics, *]; done) | ((try simp only [min_if, max_if, ics]); simp [min_if, max_if, ics, *]; omega))))
                exact hk'
              · have c3 : ¬ actW ak = 3 := by simpa using c3
                refine cond_i (fun c4 => ?_) (fun c4 => ?_)
                · skip
                  have gu : Gd N (copyZ (wn, wb, WD) (actX wn ax) (actY wn ay) (actB ab)) := copy_gd gW
                  (repeat ((first | with_reducible apply ck_i | with_reducible apply And.intro); · (first | (simp only [min_if, max_if, ics]; done) | with_reducible rfl | ((try simp only [min_if, max_if, ics]); simp [min_if, max_if, ics, *]; done) | ((try simp only [min_if, max_if, ics]); simp [min_if, max_if, ics, *]; omega))))
                  refine letV_i fun u hu => ?_
                  rw [map_ic] at hu
                  rw [← hu] at gu hk'
                  have lu : u.2.2.length = 49 := gu.len
                  have ru : rightZ (u.1, u.2.1, u.2.2) = true := right_gd gu
                  have ku := okL49 lu
                  have ku2 := eqW49s lu
                  (repeat ((first | with_reducible apply ck_i | with_reducible apply And.intro); · (first | (simp only [min_if, max_if, ics]; done) | with_reducible rfl | ((try simp only [min_if, max_if, ics]); simp [min_if, max_if, ics, *]; done) | ((try simp only [min_if, max_if, ics]); simp [min_if, max_if, ics, *]; omega))))
                  refine letV_i fun v hv => ?_
                  obtain rfl : v = u := by rw [hv, hu, map_ic]; exact copyR_eq gW (by omega) (by omega) (by omega)
                  clear hu hv
                  simp only [map_ic]
                  (repeat ((first | with_reducible apply ck_i | with_reducible apply And.intro); · (first | (simp only [min_if, max_if, ics]; done) | with_reducible rfl | ((try simp only [min_if, max_if, ics]); simp [min_if, max_if, ics, *]; done) | ((try simp only [min_if, max_if, ics]); simp [min_if, max_if, ics, *]; omega))))
                  exact hk'
                · have c4 : ¬ actW ak = 4 := by simpa using c4
                  omega
      · have q2 := of_decide_eq_false q2
        rw [show i.toNat = min m 20 by omega] at gW ⊢
        have lW : (rowsZ (n, b, D) l (min m 20)).2.2.length = 49 := gW.len
        clear hk
        (repeat ((first | with_reducible apply ck_i | with_reducible apply And.intro); · (first | (simp only [min_if, max_if, ics]; done) | with_reducible rfl | ((try simp only [min_if, max_if, ics]); simp [min_if, max_if, ics, *]; done) | ((try simp only [min_if, max_if, ics]); simp [min_if, max_if, ics, *]; omega)))); rfl
    · have q := of_decide_eq_false q
      rw [show i.toNat = min m 20 by omega] at gW ⊢
      have lW : (rowsZ (n, b, D) l (min m 20)).2.2.length = 49 := gW.len
      clear hk
      (repeat ((first | with_reducible apply ck_i | with_reducible apply And.intro); · (first | (simp only [min_if, max_if, ics]; done) | with_reducible rfl | ((try simp only [min_if, max_if, ics]); simp [min_if, max_if, ics, *]; done) | ((try simp only [min_if, max_if, ics]); simp [min_if, max_if, ics, *]; omega)))); rfl
theorem cx35_ok : CtxOk Try.prog cx35.q.ctx := (ctx_cons (g := 26) (ctx_cons (g := 33) (ctx_cons (g := 37) (ctx_cons (g := 89) (ctx_cons (g := 27) (ctx_cons (g := 90) (ctx_cons (g := 34) (ctx_cons (g := 48) ctx_nil (by kernel_rfl) sum48_ok) (by kernel_rfl) sum34_ok) (by kernel_rfl) sum90_ok) (by kernel_rfl) sum27_ok) (by kernel_rfl) sum89_ok) (by kernel_rfl) sum37_ok) (by kernel_rfl) sum33_ok) (by kernel_rfl) sum26_ok)
theorem sum35_ok : ∀ vs r, sum35 vs = some (true, r) → SoundAt Try.prog 35 vs r := by
  intro vs r h
  unfold sum35 at h
  split at h
  · simp only [Option.some.injEq, Prod.mk.injEq, Bool.and_eq_true] at h
    obtain ⟨⟨⟨⟨⟨h0, h1⟩, h2⟩, h3⟩, h4⟩, rfl⟩ := h
    obtain ⟨n0, b0, D0, hl0, hc0, rfl⟩ := zone_elim h0
    obtain ⟨n1, b1, D1, hl1, hc1, rfl⟩ := zone_elim h1
    obtain ⟨n4, l4, hl4, en4, el4, tr4⟩ := row_elimG (g := 35) h4
    (try simp only [en4, el4] at h2)
    (try simp only [en4, el4] at h3)
    (try simp only [en4, el4])
    (try simp only [zO_ic] at h2)
    (try simp only [zO_ic] at h3)
    (try simp only [zO_ic])
    refine tr4 [_, _] [] _ ?_
    exact f35_sound _ _ _ _ _ _ _ _ cx35_ok (f35_spec n0 b0 D0 hl0 n1 b1 D1 hl1 n4 l4 hl4 h2 h3)
  · cases h

theorem letV_j {α : Type} {x : α} {F : α → Prop} (h : ∀ c, x = c → F c) : letV x F := h x rfl
theorem map_eqD {x : Cell} {l : List Cell} {D : List Int} (h : List.map intC (x :: l) = D) : List.map intC (x :: l) = D := h


end Go.Proofs.Ytgmciihlmgeecaa.Fn
