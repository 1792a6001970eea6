import Derived.Test.YtgmciihlmgeecaaDoorWZA
import Derived.IntWalk
/- Functions of zones: what is told of each is so. Conditions: those that each lemma names. -/
namespace Go.Proofs.YtgmciihlmgeecaaDoor.Fn
open Go Go.RowKit Go.Proofs.YtgmciihlmgeecaaDoor.Mt Go.Proofs.YtgmciihlmgeecaaDoor.Zm
set_option linter.unusedVariables false
set_option linter.unusedSimpArgs false

theorem i64_id {n : Int} (h : -9223372036854775808 ≤ n) (h' : n ≤ 9223372036854775807) : IntKind.i64.wrap n = n := IntWalk.i64_in n ⟨h, h'⟩
theorem ic_set {k : IntKind} {l : List Int} {j : Nat} {x : Int} : (ic k l).set j (.v (.int k x)) = ic k (l.set j x) := by
  simp [ic]
theorem plain_ic {l : List Int} : (ic .i64 l).all plainC = true := ic_all fun _ => rfl
theorem flat_ic {l : List Int} : (ic .i64 l).all flatC = true := ic_all fun _ => rfl
theorem int_ic {l : List Int} : (ic .i64 l).all (isInt .i64) = true := ic_all fun _ => rfl

/-! ### Short forms of what is asked of cells -/
theorem map_ic {l : List Int} : (ic .i64 l).map intC = l := ic_map
theorem okC_ic {l : List Int} {n : Nat} : (ic .i64 l).all (okC n) = true := ic_all fun _ => rfl
theorem int_get {l : List Int} {j : Nat} : intC ((ic .i64 l).getD j .dead) = l.getD j 0 := by
  by_cases h : j < l.length
  · rw [ic_get h]; rfl
  · rw [List.getD_eq_getElem?_getD, List.getD_eq_getElem?_getD, List.getElem?_eq_none (by rw [ic_len]; omega), List.getElem?_eq_none (by omega)]; rfl
theorem okK_get {l : List Int} {j : Nat} (h : j < l.length) : okK (some .i64) ((ic .i64 l).getD j .dead) = true := by rw [ic_get h]; rfl
theorem okK_ic {l : List Int} {j : Nat} : okK (some .i64) ((ic .i64 l).getD j .dead) = decide (j < l.length) := by
  by_cases h : j < l.length
  · rw [okK_get h, decide_eq_true h]
  · rw [List.getD_eq_getElem?_getD, List.getElem?_eq_none (by rw [ic_len]; omega), decide_eq_false h]; rfl
theorem rep_ic : List.replicate 49 (Cell.v (Value.int .i64 0)) = ic .i64 zeroL := rfl
theorem gd_ji {l : List Int} {i j : Nat} : l.getD (j * 1 + i * 7) 0 = g l i j := by unfold g; rw [show j * 1 + i * 7 = 7 * i + j by omega]
theorem st_ji {l : List Int} {i j : Nat} {v : Int} : l.set (j * 1 + i * 7) v = st l i j v := by unfold st; rw [show j * 1 + i * 7 = 7 * i + j by omega]
theorem gd_j1 {l : List Int} {j : Nat} : l.getD (j * 1) 0 = g l 0 j := by unfold g; rw [show j * 1 = 7 * 0 + j by omega]
theorem st_j1 {l : List Int} {j : Nat} {v : Int} : l.set (j * 1) v = st l 0 j v := by unfold st; rw [show j * 1 = 7 * 0 + j by omega]
theorem gd_i0 {l : List Int} {i : Nat} : l.getD (0 + i * 7) 0 = g l i 0 := by unfold g; rw [show 0 + i * 7 = 7 * i + 0 by omega]
theorem st_i0 {l : List Int} {i : Nat} {v : Int} : l.set (0 + i * 7) v = st l i 0 v := by unfold st; rw [show 0 + i * 7 = 7 * i + 0 by omega]

/-- All of these at once. -/
theorem ics : ((∀ p : Int × Bool × List Int, (p.1, p.2) = p) ∧ (∀ p : Bool × List Int, (p.1, p.2) = p)) ∧ (∀ l, List.map intC (ic .i64 l) = l) ∧ (∀ l j, okK (some .i64) ((ic .i64 l).getD j .dead) = decide (j < l.length)) ∧ (∀ l, (ic .i64 l).all plainC = true) ∧
    (∀ l, (ic .i64 l).all (isInt .i64) = true) ∧ (∀ l, (ic .i64 l).all flatC = true) ∧ (∀ l n, (ic .i64 l).all (okC n) = true) ∧ (∀ l j, intC ((ic .i64 l).getD j .dead) = l.getD j 0) ∧ (∀ l j x, (ic .i64 l).set j (.v (.int .i64 x)) = ic .i64 (l.set j x)) ∧
    (∀ l, (ic .i64 l).length = l.length) ∧ List.replicate 49 (Cell.v (Value.int .i64 0)) = ic .i64 zeroL ∧ (∀ (l : List Int) i j, l.getD (j * 1 + i * 7) 0 = g l i j) ∧ (∀ (l : List Int) i j v, l.set (j * 1 + i * 7) v = st l i j v) ∧ (∀ (l : List Int) j, l.getD (j * 1) 0 = g l 0 j) ∧
    (∀ (l : List Int) j v, l.set (j * 1) v = st l 0 j v) ∧ (∀ (l : List Int) i, l.getD (0 + i * 7) 0 = g l i 0) ∧ (∀ (l : List Int) i v, l.set (0 + i * 7) v = st l i 0 v) ∧ (∀ D i j v, (st D i j v).length = D.length) ∧ (∀ (l : List Int) j v, (l.set j v).length = l.length) ∧ (∀ f, (mkD f).length = 49) ∧ zeroL.length = 49 :=
  ⟨⟨fun _ => rfl, fun _ => rfl⟩, fun _ => map_ic, fun _ _ => okK_ic, fun _ => plain_ic, fun _ => int_ic, fun _ => flat_ic, fun _ _ => okC_ic, fun _ _ => int_get, fun _ _ _ => ic_set, fun l => ic_len _ l, rep_ic, fun _ _ _ => gd_ji, fun _ _ _ _ => st_ji, fun _ _ => gd_j1, fun _ _ _ => st_j1, fun _ _ => gd_i0, fun _ _ _ => st_i0, st_length, fun _ _ _ => List.length_set, mkD_len, zeroL_len⟩
theorem drops {α : Type} : (∀ (a : α) l, List.drop 0 (a :: l) = a :: l) ∧ (∀ (a : α) l n, List.drop (n + 1) (a :: l) = List.drop n l) := ⟨fun _ _ => rfl, fun _ _ _ => rfl⟩

/-- A zone's cells. -/
theorem zone_elim {v : CV} (h : okZ v = true) : ∃ (n : Int) (b : Bool) (D : List Int), D.length = 49 ∧ cellsA v = .v (.int .i64 n) :: .v (.bool b) :: ic .i64 D ∧ v = .agg (.v (.int .i64 n) :: .v (.bool b) :: ic .i64 D) := by
  unfold okZ at h
  split at h
  · rename_i a b ds
    simp only [Bool.and_eq_true, beq_iff_eq] at h
    obtain ⟨⟨ha, hb⟩, hd, hl⟩ := h
    have hi : ∀ c, isInt .i64 c = true → ∃ x, c = .v (.int .i64 x) := fun c hc => by
      unfold isInt at hc
      split at hc
      · simp at hc; subst hc; exact ⟨_, rfl⟩
      · cases hc
    obtain ⟨x, rfl⟩ := hi a ha
    have hbb : ∃ y, b = .v (.bool y) := by
      have hb : isBool b = true := hb
      unfold isBool at hb
      split at hb
      · exact ⟨_, rfl⟩
      · cases hb
    obtain ⟨y, rfl⟩ := hbb
    have hD : ds = ic .i64 (ds.map intC) := by
      have : ∀ l : List Cell, l.all (isInt .i64) = true → l = ic .i64 (l.map intC) := fun l => by
        induction l with
        | nil => exact fun _ => rfl
        | cons c r ih =>
          intro hc
          simp only [List.all_cons, Bool.and_eq_true] at hc
          obtain ⟨x, rfl⟩ := hi c hc.1
          have := ih hc.2
          simp only [ic, List.map_cons, intC] at this ⊢
          rw [← this]
      exact this ds hd
    exact ⟨x, y, ds.map intC, by rw [List.length_map, hl], by rw [← hD]; rfl, by rw [← hD]⟩
  · cases h

theorem cx91_ok : CtxOk Tryd.prog cx91.q.ctx := ctx_nil
theorem sum91_ok : ∀ vs r, sum91 vs = some (true, r) → SoundAt Tryd.prog 36 vs r := by
  intro vs r h
  unfold sum91 at h
  split at h
  · rename_i v
    simp only [Option.some.injEq, Prod.mk.injEq] at h
    obtain ⟨h0, rfl⟩ := h
    refine okO_elim h0 (motive := fun x => SoundAt Tryd.prog 36 [x] (boRet (okN (intC (cellA v 0))))) ?_
    refine f91_sound _ cx91_ok ?_
    unfold f91_wp okN
    refine cond_i (fun q => ?_) (fun q => ?_)
    · have q : 0 ≤ intC (cellA v 0) := of_decide_eq_true q
      rw [decide_eq_true q]; rfl
    · have q : ¬ 0 ≤ intC (cellA v 0) := of_decide_eq_false q
      rw [decide_eq_false q]; rfl
  · cases h

theorem cx112_ok : CtxOk Tryd.prog cx112.q.ctx := ctx_nil
theorem cx85_ok : CtxOk Tryd.prog cx85.q.ctx := ctx_cons (g := 36) ctx_nil (by kernel_rfl) sum91_ok
theorem sum85_ok : ∀ vs r, sum85 vs = some (true, r) → SoundAt Tryd.prog 24 vs r := by
  intro vs r h
  unfold sum85 at h
  split at h
  · rename_i z x
    simp only [Option.some.injEq, Prod.mk.injEq, Bool.and_eq_true] at h
    obtain ⟨⟨h0, h1⟩, rfl⟩ := h
    refine okO_elim h1 (motive := fun y => SoundAt Tryd.prog 24 [z, y] _) ?_
    obtain ⟨n, b, D, hl, hc, rfl⟩ := zone_elim h0
    refine f85_sound _ _ _ _ cx85_ok ?_
    show f85_wp n b (ic .i64 D) (intC (cellA x 0)) (fun r' => r' = boRet (varP n b (intC (cellA x 0))))
    unfold f85_wp varP
    cases okN n
    · rfl
    · cases b
      · cases h : decide (intC (cellA x 0) ≥ 0) <;> rfl
      · rfl
  · cases h

theorem len51 {D : List Int} (hl : D.length = 49) : ((ic .i64 D).length + 2 == 51) = true := by rw [ic_len, hl]; rfl

theorem cx84_ok : CtxOk Tryd.prog cx84.q.ctx := ctx_cons (g := 36) (ctx_cons (g := 24) ctx_nil (by kernel_rfl) sum85_ok) (by kernel_rfl) sum91_ok
theorem f84_spec (n : Int) (b : Bool) (D : List Int) (hl : D.length = 49) (x : Int) : f84_wp n b (ic .i64 D) x (fun r' => r' = boRet (norP n b x)) := by
  unfold f84_wp norP
  have k2 : ((ic IntKind.i64 D).all plainC && true && ((ic IntKind.i64 D).all (isInt IntKind.i64) && (ic IntKind.i64 D).length == 49 && true) && true && true && true && true && true) = true := by
    rw [plain_ic, int_ic, ic_len, hl]; rfl
  refine cond_i (fun q => cond_i (fun q1 => cond_i (fun q2 => ?_) (fun q2 => ck_i (len51 hl) (ck_i k2 ?_))) (fun q1 => ck_i (len51 hl) (ck_i k2 ?_))) (fun q => ck_i (len51 hl) (ck_i k2 ?_))
  · have q : x = -1 := by simpa using q
    rw [decide_eq_true q, q1, q2]; rfl
  · rw [q2, Bool.and_false]; rfl
  · rw [q1, Bool.and_false]; rfl
  · have q : ¬ x = -1 := by simpa using q
    rw [decide_eq_false q]; rfl
theorem sum84_ok : ∀ vs r, sum84 vs = some (true, r) → SoundAt Tryd.prog 33 vs r := by
  intro vs r h
  unfold sum84 at h
  split at h
  · rename_i z x
    simp only [Option.some.injEq, Prod.mk.injEq, Bool.and_eq_true] at h
    obtain ⟨⟨h0, h1⟩, rfl⟩ := h
    refine okO_elim h1 (motive := fun y => SoundAt Tryd.prog 33 [z, y] _) ?_
    obtain ⟨n, b, D, hl, hc, rfl⟩ := zone_elim h0
    exact f84_sound _ _ _ _ cx84_ok (f84_spec n b D hl (intC (cellA x 0)))
  · cases h

theorem min_if (a k : Int) : (if k < a then k else a) = min a k := by split <;> omega

theorem f111_spec (n : Int) (b : Bool) (D : List Int) (hl : D.length = 49) (h0 : 0 ≤ n) (h6 : n ≤ 6) : f111_wp n b (ic .i64 D) (fun r' => r' = .v (.int .i64 n) :: .v (.bool b) :: ic .i64 (ownT n.toNat D)) := by
  unfold f111_wp
  refine ⟨by rw [plain_ic]; rfl, ?_⟩
  refine LoopP.ind (I := fun z => 1 ≤ z.1 ∧ z.1 ≤ n + 1 ∧ z.2 = ic .i64 (ownT (z.1 - 1).toNat D)) (μ := fun z => (n + 1 - z.1).toNat) ?_ ⟨by dsimp only; omega, by dsimp only; omega, rfl⟩
  rintro ⟨i, cs⟩ k0 ⟨i1, i2, i3⟩ hk
  dsimp only at i1 i2 i3 ⊢
  subst i3
  have lE := ownT_len (i - 1).toNat D
  have w : IntKind.i64.wrap (i + 1) = i + 1 := i64_id (by omega) (by omega)
  refine cond_i (fun q => ?_) (fun q => ?_)
  · have q := of_decide_eq_true q
    have en : ownT i.toNat D = st (st (ownT (i - 1).toNat D) i.toNat 0 (min (g (ownT (i - 1).toNat D) i.toNat 0) 2147483647)) 0 i.toNat (min (g (ownT (i - 1).toNat D) 0 i.toNat) 2147483648) := by
      rw [show i.toNat = (i - 1).toNat + 1 by omega]; rfl
    generalize ownT (i - 1).toNat D = E at *
    have g0 := ic_get (k := .i64) (l := E) (j := 0 + i.toNat * 7) (by omega)
    rw [g0]
    simp only [min_if]
    simp only [intC, ic_set]
    have e0 : E.getD (0 + i.toNat * 7) 0 = g E i.toNat 0 := by unfold g; congr 1; omega
    have e1 : E.set (0 + i.toNat * 7) (min (g E i.toNat 0) 2147483647) = st E i.toNat 0 (min (g E i.toNat 0) 2147483647) := by unfold st; congr 1; omega
    rw [e0, e1]
    have lF : (st E i.toNat 0 (min (g E i.toNat 0) 2147483647)).length = 49 := by rw [st_length]; omega
    have gF : g (st E i.toNat 0 (min (g E i.toNat 0) 2147483647)) 0 i.toNat = g E 0 i.toNat := by
      rw [g_st (by omega) (by omega) (by omega) (by omega) (by omega), if_neg (by omega)]
    generalize st E i.toNat 0 (min (g E i.toNat 0) 2147483647) = F at *
    have g1 := ic_get (k := .i64) (l := F) (j := i.toNat * 1) (by omega)
    rw [g1]
    simp only [intC, ic_set]
    have e2 : F.getD (i.toNat * 1) 0 = g E 0 i.toNat := by rw [← gF]; unfold g; rw [show i.toNat * 1 = 7 * 0 + i.toNat by omega]
    have e3 : F.set (i.toNat * 1) (min (g E 0 i.toNat) 2147483648) = ownT i.toNat D := by rw [en]; unfold st; rw [show i.toNat * 1 = 7 * 0 + i.toNat by omega]
    rw [e2, e3, w]
    simp only [ic_len, okK, isInt, lE, lF, hl]
    refine ck_i (by simp; omega) (ck_i (by simp; omega) (ck_i (by simp; omega) (ck_i (by simp; omega) (ck_i (by simp; omega) ⟨?_, hk _ ⟨by dsimp only; omega, by dsimp only; omega, ?_⟩ (by dsimp only; omega)⟩))))
    · rw [plain_ic]; rfl
    · dsimp only; rw [show i + 1 - 1 = i by omega]
  · have q := of_decide_eq_false q
    rw [show (i - 1).toNat = n.toNat by omega]

theorem cx111_ok : CtxOk Tryd.prog cx111.q.ctx := ctx_nil
theorem flat_zone {n : Int} {b : Bool} {D : List Int} : (Cell.v (Value.int .i64 n) :: Cell.v (Value.bool b) :: ic .i64 D).all flatC = true := by
  rw [List.all_cons, List.all_cons, flat_ic]; rfl
theorem psum111_ok : ∀ cs vs r, psum111 cs vs = some (true, r) → cs.all flatC = true → PSoundAt Tryd.prog 39 cs vs r := by
  intro cs vs r h hf
  unfold psum111 at h
  split at h
  · simp only [Option.some.injEq, Prod.mk.injEq, Bool.and_eq_true] at h
    obtain ⟨⟨h0, h1⟩, rfl⟩ := h
    obtain ⟨n, b, D, hl, hc, he⟩ := zone_elim h0
    simp only [CV.agg.injEq] at he
    subst he
    have eD : zD (.agg (.v (.int .i64 n) :: .v (.bool b) :: ic .i64 D)) = D := by
      show (ic .i64 D).map intC = D
      exact ic_map
    have eN : zN (.agg (.v (.int .i64 n) :: .v (.bool b) :: ic .i64 D)) = n := rfl
    have eB : zB (.agg (.v (.int .i64 n) :: .v (.bool b) :: ic .i64 D)) = b := rfl
    rw [eD, eN, eB]
    rw [eN] at h1
    unfold okN at h1
    simp only [Bool.and_eq_true, decide_eq_true_eq] at h1
    exact f111_sound n b (ic .i64 D) cx111_ok hf flat_zone (f111_spec n b D hl h1.1 h1.2)
  · cases h

theorem f87_spec (n : Int) (b : Bool) (D : List Int) (hl : D.length = 49) (h0 : 0 ≤ n) (h6 : n ≤ 6) (c : Int) (c0 : 0 ≤ c) (c6 : c ≤ 6) : f87_wp n b (ic .i64 D) c (fun r' => r' = .v (.int .i64 n) :: .v (.bool b) :: ic .i64 (forT c.toNat (n.toNat + 1) D)) := by
  unfold f87_wp
  refine ⟨by rw [plain_ic]; rfl, ?_⟩
  refine LoopP.ind (I := fun z => 0 ≤ z.1 ∧ z.1 ≤ n + 1 ∧ z.2 = ic .i64 (forT c.toNat z.1.toNat D)) (μ := fun z => (n + 1 - z.1).toNat) ?_ ⟨by dsimp only; omega, by dsimp only; omega, rfl⟩
  rintro ⟨i, cs⟩ k0 ⟨i1, i2, i3⟩ hk
  dsimp only at i1 i2 i3 ⊢
  subst i3
  have lE := forT_len c.toNat i.toNat D
  have w : IntKind.i64.wrap (i + 1) = i + 1 := i64_id (by omega) (by omega)
  have wn : (i + 1).toNat = i.toNat + 1 := by omega
  refine cond_i (fun q => ?_) (fun q => ?_)
  · have q := of_decide_eq_true q
    rw [w]
    refine cond_i (fun q2 => ?_) (fun q2 => ?_)
    · have q2 : ¬ i = c := by simpa using q2
      have en : forT c.toNat (i.toNat + 1) D = st (st (forT c.toNat i.toNat D) i.toNat c.toNat 1099511627776) c.toNat i.toNat 1099511627776 := by
        rw [forT, if_neg (by omega)]
      rw [ic_set, ic_set]
      have e1 : (forT c.toNat i.toNat D).set (c.toNat * 1 + i.toNat * 7) 1099511627776 = st (forT c.toNat i.toNat D) i.toNat c.toNat 1099511627776 := by
        unfold st; rw [show c.toNat * 1 + i.toNat * 7 = 7 * i.toNat + c.toNat by omega]
      have e2 : (st (forT c.toNat i.toNat D) i.toNat c.toNat 1099511627776).set (i.toNat * 1 + c.toNat * 7) 1099511627776 = forT c.toNat (i.toNat + 1) D := by
        rw [en]; unfold st; rw [show i.toNat * 1 + c.toNat * 7 = 7 * c.toNat + i.toNat by omega]
      rw [e1, e2]
      simp only [ic_len, st_length, lE, hl]
      refine ck_i (by simp; omega) (ck_i (by simp; omega) (ck_i (by simp; omega) (ck_i (by simp; omega) ⟨?_, hk _ ⟨by dsimp only; omega, by dsimp only; omega, by dsimp only; rw [wn]⟩ (by dsimp only; omega)⟩)))
      rw [plain_ic]; rfl
    · have q2 : i = c := by simpa using q2
      refine ⟨by rw [plain_ic]; rfl, hk _ ⟨by dsimp only; omega, by dsimp only; omega, ?_⟩ (by dsimp only; omega)⟩
      dsimp only
      rw [wn, forT, if_pos (by omega)]
  · have q := of_decide_eq_false q
    rw [show i.toNat = n.toNat + 1 by omega]
theorem cx87_ok : CtxOk Tryd.prog cx87.q.ctx := ctx_nil
theorem psum87_ok : ∀ cs vs r, psum87 cs vs = some (true, r) → cs.all flatC = true → PSoundAt Tryd.prog 31 cs vs r := by
  intro cs vs r h hf
  unfold psum87 at h
  split at h
  · rename_i c
    simp only [Option.some.injEq, Prod.mk.injEq, Bool.and_eq_true, decide_eq_true_eq] at h
    obtain ⟨⟨⟨⟨⟨h0, h1⟩, h2⟩, h3⟩, h4⟩, rfl⟩ := h
    obtain ⟨n, b, D, hl, hc, he⟩ := zone_elim h0
    simp only [CV.agg.injEq] at he
    subst he
    have eD : zD (.agg (.v (.int .i64 n) :: .v (.bool b) :: ic .i64 D)) = D := by
      show (ic .i64 D).map intC = D
      exact ic_map
    have eN : zN (.agg (.v (.int .i64 n) :: .v (.bool b) :: ic .i64 D)) = n := rfl
    have eB : zB (.agg (.v (.int .i64 n) :: .v (.bool b) :: ic .i64 D)) = b := rfl
    rw [eD, eN, eB]
    rw [eN] at h1
    unfold okN at h1
    simp only [Bool.and_eq_true, decide_eq_true_eq] at h1
    refine okO_elim h2 (motive := fun y => PSoundAt Tryd.prog 31 _ [y] _) ?_
    exact f87_sound n b (ic .i64 D) (intC (cellA c 0)) cx87_ok hf flat_zone (f87_spec n b D hl h1.1 h1.2 (intC (cellA c 0)) h3 h4)
  · cases h

theorem zO_ic {n : Int} {b : Bool} {D : List Int} : zO (.agg (.v (.int .i64 n) :: .v (.bool b) :: ic .i64 D)) = (n, b, D) := by
  show (n, b, (ic .i64 D).map intC) = _
  rw [map_ic]
theorem cell_int {k : IntKind} {c : Cell} (h : okK (some k) c = true) : ∃ n, c = .v (.int k n) := ⟨intC c, (okK_asK h).symm⟩
theorem int_elim {v : CV} (h : okO (some .i64) v = true) : ∃ n, v = .one (.v (.int .i64 n)) := by
  cases v <;> first | (cases h; done) | skip
  rename_i c
  obtain ⟨n, rfl⟩ := cell_int (k := .i64) h
  exact ⟨n, rfl⟩
theorem pair_elim {v : CV} (h : okA [some .i64, some .i64] v = true) : ∃ a b, v = .agg [.v (.int .i64 a), .v (.int .i64 b)] :=
  okA_elim h (motive := fun v => ∃ a b, v = .agg [.v (.int .i64 a), .v (.int .i64 b)]) ⟨_, _, rfl⟩
theorem act_elim {v : CV} (h : okA [some .i64, some .i64, some .i64, some .i64] v = true) : ∃ a b c d, v = .agg [.v (.int .i64 a), .v (.int .i64 b), .v (.int .i64 c), .v (.int .i64 d)] :=
  okA_elim h (motive := fun v => ∃ a b c d, v = .agg [.v (.int .i64 a), .v (.int .i64 b), .v (.int .i64 c), .v (.int .i64 d)]) ⟨_, _, _, _, rfl⟩
theorem cells_ic {cs : List Cell} (h : cs.all (isInt .i64) = true) : cs = ic .i64 (cs.map intC) := by
  induction cs with
  | nil => rfl
  | cons c cs ih =>
    simp only [List.all_cons, Bool.and_eq_true] at h
    rw [List.map_cons]
    show _ = Cell.v _ :: ic .i64 (cs.map intC)
    rw [← ih h.2, show Cell.v (.int .i64 (intC c)) = c from okK_asK (k := some .i64) h.1]

/-! ### Rows that are nil -/
theorem sound_weaken {P : Program} {g : Nat} {vs vs' : List CV} {r : Ret} (h : SoundAt P g vs' r) (hw : ∀ (w : World) (S : Nat → Prop) (us : List Value), ArgsRel w S vs us → ArgsRel w S vs' us) : SoundAt P g vs r :=
  fun w S us hA => h w S us (hw w S us hA)
theorem args_swap {pre post : List CV} {v v' : CV} {w : World} {S : Nat → Prop} {us : List Value} (hv : ∀ u, RelV1 w (argEnv w S) v u → RelV1 w (argEnv w S) v' u) (h : ArgsRel w S (pre ++ v :: post) us) : ArgsRel w S (pre ++ v' :: post) us := by
  refine ⟨by simpa using h.1, fun j c u hc hu => ?_⟩
  by_cases hj : j = pre.length
  · subst hj
    simp at hc
    subst hc
    exact hv u (h.2 _ v u (by simp) hu)
  · refine h.2 j c u ?_ hu
    by_cases hl : j < pre.length
    · rw [List.getElem?_append_left hl] at hc ⊢; exact hc
    · rw [List.getElem?_append_right (by omega)] at hc ⊢
      rw [show j - pre.length = (j - pre.length - 1) + 1 by omega, List.getElem?_cons_succ] at hc ⊢
      exact hc
theorem relC_nil {w : World} {F : Nat → Prop} {u : Value} (h : RelC w F (.v (.slice none 0 0)) u) : RelC w F (.sl 0 []) u := by
  cases h
  exact RelC.sl [] (Nat.le_refl _) rfl (fun h => absurd rfl h) (fun j c x h => by simp at h)
theorem row_elimG {P : Program} {g : Nat} {s : Nat} {v : CV} (h : okRU s v = true) : ∃ (n : Nat) (l : List Int), l.length = n * s ∧ rN (cellA v 0) = n ∧ rL (cellA v 0) = l ∧
    ∀ (pre post : List CV) (r : Ret), SoundAt P g (pre ++ .one (.sl n (ic .i64 l)) :: post) r → SoundAt P g (pre ++ v :: post) r := by
  unfold okRU at h
  split at h
  · rename_i c
    unfold okRowU at h
    split at h
    · rename_i n cs
      simp only [Bool.and_eq_true, beq_iff_eq] at h
      have ec := cells_ic h.1
      refine ⟨n, cs.map intC, by rw [List.length_map, h.2], rfl, rfl, fun pre post r hr => ?_⟩
      rw [← ec] at hr
      exact hr
    · refine ⟨0, [], by simp, rfl, rfl, fun pre post r hr => ?_⟩
      refine sound_weaken hr fun w S us hA => args_swap (fun u hu => ?_) hA
      exact RelC.to1 (E := argEnv w S) (relC_nil hu)
    · cases h
  · cases h

end Go.Proofs.YtgmciihlmgeecaaDoor.Fn
