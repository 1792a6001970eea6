import Derived.Test.YtlfojobligplkaaWLQueueTwo
import Derived.Test.YtlfojobligplkaaMtRow3
import Derived.Test.YtlfojobligplkaaPuPair
/- The statement QueueTwo, in numbers. Conditions: those that each lemma names. -/
namespace Go.Proofs.Ytlfojobligplkaa.Fn
open Go Go.RowKit Go.Proofs.Ytlfojobligplkaa.Mt
set_option linter.unusedVariables false
set_option linter.unusedSimpArgs false

def InP (p : Int × Int) : Prop := In p.1 ∧ In p.2
theorem nI_inP {a b : Int} (h : In a) (h' : In b) : InP (nI a b) := by
  unfold nI; split
  · exact ⟨by unfold In; omega, by unfold In; omega⟩
  · exact ⟨h, h'⟩
theorem jI_inP {p q : Int × Int} (h : InP p) (h' : InP q) : InP (jI p.1 p.2 q.1 q.2) := by
  unfold jI; split
  · exact nI_inP h'.1 h'.2
  · split
    · exact h
    · obtain ⟨⟨_, _⟩, _, _⟩ := h; obtain ⟨⟨_, _⟩, _, _⟩ := h'
      exact ⟨⟨by dsimp only; omega, by dsimp only; omega⟩, ⟨by dsimp only; omega, by dsimp only; omega⟩⟩

/-- What sends make. -/
theorem buildP_inv (s : Int) (hs : 0 ≤ s) (hs' : s ≤ 1000) (n : Nat) (row : List Int) (k : Nat) : (buildP s n row k).1 = 0 ∧ 0 ≤ (buildP s n row k).2.1 ∧ (buildP s n row k).2.1 ≤ s ∧ ∀ j, j < n → InP (pairAt (buildP s n row k).2.2 j) := by
  induction k with
  | zero => exact ⟨rfl, Int.le_refl _, hs, fun j hj => by rw [show (buildP s n row 0).2.2 = noneL n from rfl, noneL_pair hj]; exact ⟨by unfold In; omega, by unfold In; omega⟩⟩
  | succ k ih =>
    obtain ⟨h1, h2, h3, h4⟩ := ih
    have hl := buildP_len s n row k
    have hi := nI_inP (bend0 (row.getD (k * 3 + 1) 0) (row.getD (k * 3 + 2) 0)) (show In (f31_1 (row.getD (k * 3 + 1) 0) (row.getD (k * 3 + 2) 0)) from i32_range _)
    rw [buildP]
    generalize nI (f31_0 (row.getD (k * 3 + 1) 0) (row.getD (k * 3 + 2) 0)) (f31_1 (row.getD (k * 3 + 1) 0) (row.getD (k * 3 + 2) 0)) = v at *
    generalize row.getD (k * 3) 0 = t at *
    generalize buildP s n row k = B at *
    refine ⟨?_, ?_, ?_, fun j hj => ?_⟩
    · unfold sendP; split
      · exact h1
      · rfl
    · unfold sendP; split
      · exact h2
      · dsimp only; rw [i64_id (by omega) (by omega)]; omega
    · unfold sendP; split
      · exact h3
      · dsimp only; omega
    · rw [sendP_pair hl hj]
      split
      · exact jI_inP (h4 j hj) hi
      · exact h4 j hj

theorem withB_join (a b : Int × Int) : withB a (opI false a b) = true := by
  unfold withB opI jI
  simp only [Bool.or_eq_true, Bool.and_eq_true, decide_eq_true_eq, Bool.false_eq_true, if_false]
  by_cases h : a.1 > a.2
  · exact Or.inl h
  · rw [if_neg h]
    right
    split <;> dsimp only <;> omega
theorem withB_jw {a b : Int × Int} (ha : InP a) (hb : InP b) : withB (opI false a b) (opI true a b) = true := by
  obtain ⟨⟨_, _⟩, _, _⟩ := ha; obtain ⟨⟨_, _⟩, _, _⟩ := hb
  unfold withB opI jI wI
  simp only [Bool.or_eq_true, Bool.and_eq_true, decide_eq_true_eq, Bool.false_eq_true, if_false, if_true]
  by_cases h : a.1 > a.2
  · rw [if_pos h, if_pos h]; right; omega
  · rw [if_neg h, if_neg h]
    by_cases h2 : b.1 > b.2
    · rw [if_pos h2, if_pos h2]; right; omega
    · rw [if_neg h2, if_neg h2]
      right
      dsimp only
      constructor
      · split <;> omega
      · split <;> omega

theorem within3 {lo hi lo' hi' : Int} {l l' : List Int} (h : withB (lo, hi) (lo', hi') = true) (h0 : withB (pairAt l 0) (pairAt l' 0) = true) (h1 : withB (pairAt l 1) (pairAt l' 1) = true) (h2 : withB (pairAt l 2) (pairAt l' 2) = true) :
    withinP lo hi 3 l lo' hi' 3 l' = true := by
  unfold withinP
  rw [h, show List.range 3 = [0, 1, 2] from rfl]
  simp [h0, h1, h2]

theorem twoP_same (w : Bool) (lo hi : Int) (n : Nat) (l : List Int) (lo' hi' : Int) (l' : List Int) : twoP w lo hi n l lo' hi' n l' = ((opI w (lo, hi) (lo', hi')).1, (opI w (lo, hi) (lo', hi')).2, twoL w n l l') := if_pos rfl
theorem twoP_other (w : Bool) (lo hi : Int) (l : List Int) (lo' hi' : Int) (l' : List Int) : twoP w lo hi 3 l lo' hi' 2 l' = (lo, hi, l) := if_neg (by decide)

/-- One step of the law's own test. -/
theorem within_step (P : Nat → Bool) (a : Bool) (i : Nat) : (a && (List.range (i + 1)).all P) = ((a && (List.range i).all P) && P i) := by
  rw [List.range_succ, List.all_append]; simp [Bool.and_assoc]

theorem f12_pure (m : Nat) (row : List Int) (m2 : Nat) (row2 : List Int) (m3 : Nat) (q : List Int) (hr : row.length = m * 3) (hr2 : row2.length = m2 * 3) (hq : q.length = m3 * 2) :
    f12_wp m (ic .i64 row) m2 (ic .i64 row2) m3 (ic .i64 q) (fun r' => r' = boRet true) := by
  unfold f12_wp
  (try delta X12_19); (try delta X12_18); (try delta X12_13); (try delta X12_17); (try delta X12_12); (try delta X12_16); (try delta X12_15); (try delta X12_7); (try delta X12_4); (try delta X12_14); (try delta X12_11); (try delta X12_10); (try delta X12_6); (try delta X12_5); (try delta X12_1); (try delta X12_9); (try delta X12_3); (try delta X12_2); (try delta X12_0); (try delta X12_8)
  have lX := buildP_len 4 3 (List.map intC (ic .i64 row)) (min m 20)
  have lY := buildP_len 4 3 (List.map intC (ic .i64 row2)) (min m2 20)
  have iX := buildP_inv 4 (by decide) (by decide) 3 (List.map intC (ic .i64 row)) (min m 20)
  have iY := buildP_inv 4 (by decide) (by decide) 3 (List.map intC (ic .i64 row2)) (min m2 20)
  generalize buildP 4 3 (List.map intC (ic .i64 row)) (min m 20) = X at *
  generalize buildP 4 3 (List.map intC (ic .i64 row2)) (min m2 20) = Y at *
  obtain ⟨xa, xb, xl⟩ := X
  obtain ⟨ya, yb, yl⟩ := Y
  obtain ⟨x1, x2, x3, x4⟩ := iX
  obtain ⟨y1, y2, y3, y4⟩ := iY
  dsimp only at lX lY x1 x2 x3 x4 y1 y2 y3 y4 ⊢
  subst x1; subst y1
  have hX := okRow_ic (s := 2) (n := 3) lX (by omega)
  have hY := okRow_ic (s := 2) (n := 3) lY (by omega)
  have inX : InP (0, xb) := ⟨by unfold In; omega, by unfold In; dsimp only; omega⟩
  have inY : InP (0, yb) := ⟨by unfold In; omega, by unfold In; dsimp only; omega⟩
  simp only [ic_map, ic_len, twoP_same, twoP_other]
  refine ck_i (by simp only [okRowU_ic hr, flat_ic, plain_ic]; rfl) (ck_i (by simp only [okRowU_ic hr2, flat_ic, plain_ic]; rfl) ?_)
  have sameR : ∀ (a b : Int) (l : List Int), (!sameP a b 3 l a b 3 l) = false := fun a b l => by rw [sameP_refl]; rfl
  refine LoopP.ind (I := sumE (fun _ => True) (fun z => 1 ≤ z.1 ∧ z.1 ≤ (m3 : Int) ∧ z.1 ≤ 20 ∧ z.2.1 = z.1.toNat ∧ z.2.2 = ic .i64 (q.take (z.1.toNat * 2)))) (μ := sumE (fun _ => m3 + 1) (fun z => ((m3 : Int) - z.1).toNat)) ?_ trivial
  rintro (_ | ⟨i, k, cs⟩) k0 hI hk
  · dsimp only [sumE_l, sumE_r]
    refine cond_i (fun h => ?_) (fun h => ?_)
    · have h := of_decide_eq_true h
      have g0 := ic_get (k := .i64) (l := q) (j := 0) (by omega)
      have g1 := ic_get (k := .i64) (l := q) (j := 1) (by omega)
      rw [g0, g1]
      refine ck_i (by simp; omega) (ck_i (by simp [okK, isInt]; omega) (ck_i (by simp [okK, isInt]; omega) ?_))
      refine hk (Sum.inr _) ⟨by dsimp only; omega, by dsimp only; omega, by dsimp only; omega, rfl, ?_⟩ (by show _ < m3 + 1; dsimp only [sumE_r]; omega)
      have t := take2 (l := q) (j := 0) (by omega)
      simp only [Nat.zero_mul, List.take_zero, List.nil_append] at t
      show _ = ic .i64 (q.take ((0 + 1) * 2))
      rw [← t]
      rfl
    · have h := of_decide_eq_false h
      refine ck_i (by simp only [hX, hY, flat_ic, plain_ic]; rfl) (ck_i (by simp only [hX, hY, flat_ic, plain_ic]; rfl) ⟨by rw [sameR], by rw [sameR], ck_i (by simp only [hX, hY, flat_ic, plain_ic]; rfl) (ck_i (by simpa using hq) ⟨by simp, ?_⟩)⟩)
      refine cond_i (fun _ => ?_) (fun h => absurd (of_decide_eq_false h) (by omega))
      refine LoopP.ind (I := fun z => 0 ≤ z.2 ∧ z.2 ≤ 3 ∧ z.1 = (decide (xb ≤ yb) && (List.range z.2.toNat).all fun i => withB (pairAt xl i) (pairAt yl i))) (μ := fun z => (3 - z.2).toNat) ?_ ⟨by dsimp only; omega, by dsimp only; omega, by simp⟩
      rintro ⟨ok, j⟩ k1 ⟨j1, j2, j3⟩ hk1
      dsimp only at j1 j2 j3 ⊢
      have wj : IntKind.i64.wrap (j + 1) = j + 1 := i64_id (by omega) (by omega)
      have nj : (j + 1).toNat = j.toNat + 1 := by omega
      refine cond_i (fun h => ?_) (fun h => ?_)
      · have h := of_decide_eq_true h
        have g0 := ic_get (k := .i64) (l := xl) (j := j.toNat * 2) (by omega)
        have g1 := ic_get (k := .i64) (l := xl) (j := j.toNat * 2 + 1) (by omega)
        have g2 := ic_get (k := .i64) (l := yl) (j := j.toNat * 2) (by omega)
        have g3 := ic_get (k := .i64) (l := yl) (j := j.toNat * 2 + 1) (by omega)
        rw [g0, g1, g2, g3, wj]
        have go : ∀ b : Bool, b = (ok && withB (pairAt xl j.toNat) (pairAt yl j.toNat)) → k1 (b, j + 1) := fun b hb => hk1 _ ⟨by dsimp only; omega, by dsimp only; omega, by dsimp only; rw [nj, within_step, ← j3, hb]⟩ (by dsimp only; omega)
        have pw : withB (pairAt xl j.toNat) (pairAt yl j.toNat) = (decide (xl.getD (j.toNat * 2) 0 > xl.getD (j.toNat * 2 + 1) 0) || (decide (yl.getD (j.toNat * 2) 0 ≤ xl.getD (j.toNat * 2) 0) && decide (xl.getD (j.toNat * 2 + 1) 0 ≤ yl.getD (j.toNat * 2 + 1) 0))) := rfl
        rw [pw] at go
        refine cond_i (fun ho => ?_) (fun ho => go _ (by rw [ho]; rfl))
        have r0 : (decide (j.toNat * 2 + 1 ≤ xl.length) && okK (some .i64) (.v (.int .i64 (xl.getD (j.toNat * 2) 0)))) = true := by simp [okK, isInt]; omega
        refine ck_i (by simp; omega) (ck_i (by simp [okK, isInt]; omega) (ck_i (by simp [okK, isInt]; omega) (cond_i (fun h2 => ?_) (fun h2 => ?_))))
        · have h2 : decide (xl.getD (j.toNat * 2) 0 > xl.getD (j.toNat * 2 + 1) 0) = true := h2
          exact go _ (by rw [ho, h2]; rfl)
        · have h2 : decide (xl.getD (j.toNat * 2) 0 > xl.getD (j.toNat * 2 + 1) 0) = false := h2
          refine ck_i (by simp [okK, isInt]; omega) (cond_i (fun h3 => ?_) (fun h3 => ?_))
          · have h3 : decide (yl.getD (j.toNat * 2) 0 ≤ xl.getD (j.toNat * 2) 0) = true := h3
            refine ck_i (by simp [okK, isInt]; omega) (go _ (by rw [ho, h2, h3]; rfl))
          · have h3 : decide (yl.getD (j.toNat * 2) 0 ≤ xl.getD (j.toNat * 2) 0) = false := h3
            exact go _ (by rw [ho, h2, h3]; rfl)
      · have h := of_decide_eq_false h
        subst j3
        refine ⟨?_, within3 (withB_join (0, xb) (0, yb)) (withB_join _ _) (withB_join _ _) (withB_join _ _), within3 (withB_jw inX inY) (withB_jw (x4 0 (by omega)) (y4 0 (by omega))) (withB_jw (x4 1 (by omega)) (y4 1 (by omega))) (withB_jw (x4 2 (by omega)) (y4 2 (by omega))), ck_i (by simp only [hX, hY, flat_ic, plain_ic]; rfl) (ck_i (by simp only [hX, hY, flat_ic, plain_ic]; rfl) (ck_i (by simp only [hX, hY, flat_ic, plain_ic]; rfl) ⟨sameP_refl _ _ _ _, ck_i (by simp only [hX, hY, flat_ic, plain_ic]; rfl) (ck_i (by simp only [hX, hY, flat_ic, plain_ic]; rfl) (ck_i (by simp only [hX, hY, flat_ic, plain_ic]; rfl) ⟨sameP_refl _ _ _ _, rfl⟩))⟩))⟩
        rw [show j = 3 by omega]
        unfold withinP
        have e : withB (0, xb) (0, yb) = decide (xb ≤ yb) := by
          unfold withB
          rw [show decide (((0 : Int), xb).1 > ((0 : Int), xb).2) = false from decide_eq_false (by dsimp only; omega)]
          simp
        rw [e]
        simp
  · obtain ⟨i1, i2, i3, i4, i5⟩ := hI
    dsimp only at i1 i2 i3 i4 i5
    dsimp only [sumE_l, sumE_r]
    subst i4; subst i5
    have tl : (q.take (i.toNat * 2)).length = i.toNat * 2 := by rw [List.length_take]; omega
    have hQ := okRow_ic (s := 2) tl (by omega)
    have te : List.drop 0 (List.take (i.toNat * 2) (ic .i64 q)) = ic .i64 (q.take (i.toNat * 2)) := by simp [ic]
    have w : IntKind.i64.wrap (i + 1) = i + 1 := i64_id (by omega) (by omega)
    simp only [Int.toNat_natCast, te, ic_map, Nat.sub_zero]
    refine cond_i (fun h => cond_i (fun h2 => ?_) (fun h2 => ?_)) (fun h => ?_)
    · have h := of_decide_eq_true h
      have h2 := of_decide_eq_true h2
      have g0 := ic_get (k := .i64) (l := q) (j := i.toNat * 2) (by omega)
      have g1 := ic_get (k := .i64) (l := q) (j := i.toNat * 2 + 1) (by omega)
      rw [g0, g1, w]
      refine ck_i (by simp; omega) (ck_i (by simp [okK, isInt]; omega) (ck_i (by simp [okK, isInt]; omega) (ck_i (by simp; omega) ?_)))
      refine hk (Sum.inr _) ⟨by dsimp only; omega, by dsimp only; omega, by dsimp only; omega, by dsimp only; omega, ?_⟩ (by dsimp only [sumE_r]; omega)
      have t := take2 (l := q) (j := i.toNat) (by omega)
      dsimp only
      rw [show (i + 1).toNat = i.toNat + 1 by omega, ← t, ← ic_append]
      rfl
    · refine ck_i (by simp only [hX, hY, flat_ic, plain_ic]; rfl) (ck_i (by simp only [hX, hY, flat_ic, plain_ic]; rfl) ⟨by rw [sameR], by rw [sameR], ck_i (by simp only [hX, hQ, flat_ic, plain_ic]; rfl) (ck_i (by simp [hq]; omega) (ck_i (by simp only [hX, hQ, flat_ic, plain_ic]; rfl) ⟨by simp, ?_⟩))⟩)
      refine cond_i (fun _ => ?_) (fun h => absurd (of_decide_eq_false h) (by omega))
      refine LoopP.ind (I := fun z => 0 ≤ z.2 ∧ z.2 ≤ 3 ∧ z.1 = (decide (xb ≤ yb) && (List.range z.2.toNat).all fun i => withB (pairAt xl i) (pairAt yl i))) (μ := fun z => (3 - z.2).toNat) ?_ ⟨by dsimp only; omega, by dsimp only; omega, by simp⟩
      rintro ⟨ok, j⟩ k1 ⟨j1, j2, j3⟩ hk1
      dsimp only at j1 j2 j3 ⊢
      have wj : IntKind.i64.wrap (j + 1) = j + 1 := i64_id (by omega) (by omega)
      have nj : (j + 1).toNat = j.toNat + 1 := by omega
      refine cond_i (fun h => ?_) (fun h => ?_)
      · have h := of_decide_eq_true h
        have g0 := ic_get (k := .i64) (l := xl) (j := j.toNat * 2) (by omega)
        have g1 := ic_get (k := .i64) (l := xl) (j := j.toNat * 2 + 1) (by omega)
        have g2 := ic_get (k := .i64) (l := yl) (j := j.toNat * 2) (by omega)
        have g3 := ic_get (k := .i64) (l := yl) (j := j.toNat * 2 + 1) (by omega)
        rw [g0, g1, g2, g3, wj]
        have go : ∀ b : Bool, b = (ok && withB (pairAt xl j.toNat) (pairAt yl j.toNat)) → k1 (b, j + 1) := fun b hb => hk1 _ ⟨by dsimp only; omega, by dsimp only; omega, by dsimp only; rw [nj, within_step, ← j3, hb]⟩ (by dsimp only; omega)
        have pw : withB (pairAt xl j.toNat) (pairAt yl j.toNat) = (decide (xl.getD (j.toNat * 2) 0 > xl.getD (j.toNat * 2 + 1) 0) || (decide (yl.getD (j.toNat * 2) 0 ≤ xl.getD (j.toNat * 2) 0) && decide (xl.getD (j.toNat * 2 + 1) 0 ≤ yl.getD (j.toNat * 2 + 1) 0))) := rfl
        rw [pw] at go
        refine cond_i (fun ho => ?_) (fun ho => go _ (by rw [ho]; rfl))
        have r0 : (decide (j.toNat * 2 + 1 ≤ xl.length) && okK (some .i64) (.v (.int .i64 (xl.getD (j.toNat * 2) 0)))) = true := by simp [okK, isInt]; omega
        refine ck_i (by simp; omega) (ck_i (by simp [okK, isInt]; omega) (ck_i (by simp [okK, isInt]; omega) (cond_i (fun h2 => ?_) (fun h2 => ?_))))
        · have h2 : decide (xl.getD (j.toNat * 2) 0 > xl.getD (j.toNat * 2 + 1) 0) = true := h2
          exact go _ (by rw [ho, h2]; rfl)
        · have h2 : decide (xl.getD (j.toNat * 2) 0 > xl.getD (j.toNat * 2 + 1) 0) = false := h2
          refine ck_i (by simp [okK, isInt]; omega) (cond_i (fun h3 => ?_) (fun h3 => ?_))
          · have h3 : decide (yl.getD (j.toNat * 2) 0 ≤ xl.getD (j.toNat * 2) 0) = true := h3
            refine ck_i (by simp [okK, isInt]; omega) (go _ (by rw [ho, h2, h3]; rfl))
          · have h3 : decide (yl.getD (j.toNat * 2) 0 ≤ xl.getD (j.toNat * 2) 0) = false := h3
            exact go _ (by rw [ho, h2, h3]; rfl)
      · have h := of_decide_eq_false h
        subst j3
        refine ⟨?_, ck_i (by simp only [hX, hY, flat_ic, plain_ic]; rfl) ⟨within3 (withB_join (0, xb) (0, yb)) (withB_join _ _) (withB_join _ _) (withB_join _ _), within3 (withB_jw inX inY) (withB_jw (x4 0 (by omega)) (y4 0 (by omega))) (withB_jw (x4 1 (by omega)) (y4 1 (by omega))) (withB_jw (x4 2 (by omega)) (y4 2 (by omega))), ck_i (by simp only [hX, hY, flat_ic, plain_ic]; rfl) (ck_i (by simp only [hX, hY, flat_ic, plain_ic]; rfl) (ck_i (by simp only [hX, hY, flat_ic, plain_ic]; rfl) ⟨sameP_refl _ _ _ _, ck_i (by simp only [hX, hY, flat_ic, plain_ic]; rfl) (ck_i (by simp only [hX, hY, flat_ic, plain_ic]; rfl) (ck_i (by simp only [hX, hY, flat_ic, plain_ic]; rfl) ⟨sameP_refl _ _ _ _, rfl⟩))⟩))⟩⟩
        rw [show j = 3 by omega]
        unfold withinP
        have e : withB (0, xb) (0, yb) = decide (xb ≤ yb) := by
          unfold withB
          rw [show decide (((0 : Int), xb).1 > ((0 : Int), xb).2) = false from decide_eq_false (by dsimp only; omega)]
          simp
        rw [e]
        simp
    · refine ck_i (by simp only [hX, hY, flat_ic, plain_ic]; rfl) (ck_i (by simp only [hX, hY, flat_ic, plain_ic]; rfl) ⟨by rw [sameR], by rw [sameR], ck_i (by simp only [hX, hQ, flat_ic, plain_ic]; rfl) (ck_i (by simp [hq]; omega) (ck_i (by simp only [hX, hQ, flat_ic, plain_ic]; rfl) ⟨by simp, ?_⟩))⟩)
      refine cond_i (fun _ => ?_) (fun h => absurd (of_decide_eq_false h) (by omega))
      refine LoopP.ind (I := fun z => 0 ≤ z.2 ∧ z.2 ≤ 3 ∧ z.1 = (decide (xb ≤ yb) && (List.range z.2.toNat).all fun i => withB (pairAt xl i) (pairAt yl i))) (μ := fun z => (3 - z.2).toNat) ?_ ⟨by dsimp only; omega, by dsimp only; omega, by simp⟩
      rintro ⟨ok, j⟩ k1 ⟨j1, j2, j3⟩ hk1
      dsimp only at j1 j2 j3 ⊢
      have wj : IntKind.i64.wrap (j + 1) = j + 1 := i64_id (by omega) (by omega)
      have nj : (j + 1).toNat = j.toNat + 1 := by omega
      refine cond_i (fun h => ?_) (fun h => ?_)
      · have h := of_decide_eq_true h
        have g0 := ic_get (k := .i64) (l := xl) (j := j.toNat * 2) (by omega)
        have g1 := ic_get (k := .i64) (l := xl) (j := j.toNat * 2 + 1) (by omega)
        have g2 := ic_get (k := .i64) (l := yl) (j := j.toNat * 2) (by omega)
        have g3 := ic_get (k := .i64) (l := yl) (j := j.toNat * 2 + 1) (by omega)
        rw [g0, g1, g2, g3, wj]
        have go : ∀ b : Bool, b = (ok && withB (pairAt xl j.toNat) (pairAt yl j.toNat)) → k1 (b, j + 1) := fun b hb => hk1 _ ⟨by dsimp only; omega, by dsimp only; omega, by dsimp only; rw [nj, within_step, ← j3, hb]⟩ (by dsimp only; omega)
        have pw : withB (pairAt xl j.toNat) (pairAt yl j.toNat) = (decide (xl.getD (j.toNat * 2) 0 > xl.getD (j.toNat * 2 + 1) 0) || (decide (yl.getD (j.toNat * 2) 0 ≤ xl.getD (j.toNat * 2) 0) && decide (xl.getD (j.toNat * 2 + 1) 0 ≤ yl.getD (j.toNat * 2 + 1) 0))) := rfl
        rw [pw] at go
        refine cond_i (fun ho => ?_) (fun ho => go _ (by rw [ho]; rfl))
        have r0 : (decide (j.toNat * 2 + 1 ≤ xl.length) && okK (some .i64) (.v (.int .i64 (xl.getD (j.toNat * 2) 0)))) = true := by simp [okK, isInt]; omega
        refine ck_i (by simp; omega) (ck_i (by simp [okK, isInt]; omega) (ck_i (by simp [okK, isInt]; omega) (cond_i (fun h2 => ?_) (fun h2 => ?_))))
        · have h2 : decide (xl.getD (j.toNat * 2) 0 > xl.getD (j.toNat * 2 + 1) 0) = true := h2
          exact go _ (by rw [ho, h2]; rfl)
        · have h2 : decide (xl.getD (j.toNat * 2) 0 > xl.getD (j.toNat * 2 + 1) 0) = false := h2
          refine ck_i (by simp [okK, isInt]; omega) (cond_i (fun h3 => ?_) (fun h3 => ?_))
          · have h3 : decide (yl.getD (j.toNat * 2) 0 ≤ xl.getD (j.toNat * 2) 0) = true := h3
            refine ck_i (by simp [okK, isInt]; omega) (go _ (by rw [ho, h2, h3]; rfl))
          · have h3 : decide (yl.getD (j.toNat * 2) 0 ≤ xl.getD (j.toNat * 2) 0) = false := h3
            exact go _ (by rw [ho, h2, h3]; rfl)
      · have h := of_decide_eq_false h
        subst j3
        refine ⟨?_, ck_i (by simp only [hX, hY, flat_ic, plain_ic]; rfl) ⟨within3 (withB_join (0, xb) (0, yb)) (withB_join _ _) (withB_join _ _) (withB_join _ _), within3 (withB_jw inX inY) (withB_jw (x4 0 (by omega)) (y4 0 (by omega))) (withB_jw (x4 1 (by omega)) (y4 1 (by omega))) (withB_jw (x4 2 (by omega)) (y4 2 (by omega))), ck_i (by simp only [hX, hY, flat_ic, plain_ic]; rfl) (ck_i (by simp only [hX, hY, flat_ic, plain_ic]; rfl) (ck_i (by simp only [hX, hY, flat_ic, plain_ic]; rfl) ⟨sameP_refl _ _ _ _, ck_i (by simp only [hX, hY, flat_ic, plain_ic]; rfl) (ck_i (by simp only [hX, hY, flat_ic, plain_ic]; rfl) (ck_i (by simp only [hX, hY, flat_ic, plain_ic]; rfl) ⟨sameP_refl _ _ _ _, rfl⟩))⟩))⟩⟩
        rw [show j = 3 by omega]
        unfold withinP
        have e : withB (0, xb) (0, yb) = decide (xb ≤ yb) := by
          unfold withB
          rw [show decide (((0 : Int), xb).1 > ((0 : Int), xb).2) = false from decide_eq_false (by dsimp only; omega)]
          simp
        rw [e]
        simp

theorem f12_true (n0 : Nat) (c0 : List Cell) (n1 : Nat) (c1 : List Cell) (n2 : Nat) (c2 : List Cell) {D D' D'' : Nat} (h0 : TyC Try.prog D 22 [.sl n0 c0]) (h1 : TyC Try.prog D' 22 [.sl n1 c1]) (h2 : TyC Try.prog D'' 39 [.sl n2 c2]) : f12_wp n0 c0 n1 c1 n2 c2 (fun r' => r' = boRet true) := by
  obtain ⟨l0, rfl, e0, _⟩ := row_ints (k := .i64) (S := [3, 24, 29, 53, 54]) (s := 3) (by kernel_rfl) Try.underlying22 (by decide) (by kernel_rfl) (by decide) h0
  obtain ⟨l1, rfl, e1, _⟩ := row_ints (k := .i64) (S := [3, 24, 29, 53, 54]) (s := 3) (by kernel_rfl) Try.underlying22 (by decide) (by kernel_rfl) (by decide) h1
  obtain ⟨l2, rfl, e2, _⟩ := row_ints (k := .i64) (S := [3, 45, 46]) (s := 2) (by kernel_rfl) Try.underlying39 (by decide) (by kernel_rfl) (by decide) h2
  exact f12_pure n0 l0 n1 l1 n2 l2 e0 e1 e2

theorem cx12_ok : CtxOk Try.prog cx12.q.ctx := (ctx_cons (g := 16) (ctx_cons (g := 17) (ctx_cons (g := 36) (ctx_cons (g := 37) (ctx_cons (g := 47) (ctx_cons (g := 48) (ctx_cons (g := 46) (ctx_cons (g := 22) (ctx_cons (g := 38) (ctx_cons (g := 19) (ctx_cons (g := 23) ctx_nil (by kernel_rfl) sum23_ok) (by kernel_rfl) sum19_ok) (by kernel_rfl) sum38_ok) (by kernel_rfl) sum22_ok) (by kernel_rfl) sum46_ok) (by kernel_rfl) sum48_ok) (by kernel_rfl) sum47_ok) (by kernel_rfl) sum37_ok) (by kernel_rfl) sum36_ok) (by kernel_rfl) sum17_ok) (by kernel_rfl) sum16_ok)

end Go.Proofs.Ytlfojobligplkaa.Fn
