import Derived.Test.YtgmciihlmgeecaaZOps3
/- Calls on zones in plain mathematics, on: all numbers, what either has, widening, which zones are right. Conditions: those that each lemma names. -/
namespace Go.Proofs.Ytgmciihlmgeecaa.Zm
open Go.RowKit
set_option linter.unusedVariables false

/-- A row of 49 by what stands at each place. -/
def mkD (f : Nat → Nat → Int) : List Int := (List.range 49).map fun p => f (p / 7) (p % 7)
theorem mkD_len (f : Nat → Nat → Int) : (mkD f).length = 49 := by unfold mkD; rw [List.length_map, List.length_range]
theorem g_mk (f : Nat → Nat → Int) {i j : Nat} (hi : i < 7) (hj : j < 7) : g (mkD f) i j = f i j := by
  unfold g mkD
  have h1 : (7 * i + j) / 7 = i := by omega
  have h2 : (7 * i + j) % 7 = j := by omega
  rw [List.getD_eq_getElem?_getD, List.getElem?_map, List.getElem?_range (by omega), Option.map_some, Option.getD_some, h1, h2]
theorem mk_ext {f h : Nat → Nat → Int} (e : ∀ i j, i < 7 → j < 7 → f i j = h i j) : mkD f = mkD h :=
  g_ext (mkD_len f) (mkD_len h) fun a b ha hb => by rw [g_mk f ha hb, g_mk h ha hb, e a b ha hb]
theorem mk_eq {D : List Int} (hl : D.length = 49) {f : Nat → Nat → Int} (e : ∀ i j, i < 7 → j < 7 → g D i j = f i j) : D = mkD f :=
  g_ext hl (mkD_len f) fun a b ha hb => by rw [g_mk f ha hb, e a b ha hb]
theorem st_mk (f : Nat → Nat → Int) {i j : Nat} (hi : i < 7) (hj : j < 7) (v : Int) : st (mkD f) i j v = mkD fun a b => if a = i ∧ b = j then v else f a b := by
  refine g_ext (by rw [st_length, mkD_len]) (mkD_len _) fun a b ha hb => ?_
  rw [g_st (mkD_len f) hi hj ha hb, g_mk _ ha hb, g_mk _ ha hb]
theorem zero_mk : zeroL = mkD fun _ _ => 0 := mk_eq zeroL_len fun i j _ _ => g_zero i j

/-! ### All numbers; nought alone -/
def capN (n : Int) : Int := min (max n 0) 6
def topD (k : Nat) : List Int := mkD fun i j => if i ≤ k ∧ j ≤ k ∧ i ≠ j then 1099511627776 else 0
def topZ (n : Int) : Zo := closeZ (capN n, false, topD (capN n).toNat)
def topR (n : Int) : Zo := closeR (capN n, false, topD (capN n).toNat)
def zerosZ (n : Int) : Zo := (capN n, false, zeroL)

theorem capN_id {n : Nat} (h : n ≤ 6) : capN (n : Int) = n := by unfold capN; omega

theorem top_raw {n : Nat} (h : n ≤ 6) : Raw n (topD n) := by
  unfold topD
  refine ⟨h, mkD_len _, fun a b ha hb => ?_, fun a ha => ?_, fun a b ha hb e => ?_⟩
  · rw [g_mk _ (by omega) (by omega)]; split <;> omega
  · rw [g_mk _ (by omega) (by omega), if_neg (by omega)]; omega
  · rw [g_mk _ ha hb, if_neg (by omega)]
theorem topM {n : Nat} (h : n ≤ 6) {m : Mx} (hm : Clo n m) : (Lem n m (g (topD n)) ∧ Own n m) ↔ ((∀ i, i ≤ n → m i i ≤ 0) ∧ Own n m) := by
  unfold topD
  constructor
  · rintro ⟨hl, ho⟩
    refine ⟨fun i hi => ?_, ho⟩
    have := hl i i hi hi
    rw [g_mk _ (by omega) (by omega), if_neg (by omega)] at this
    exact this
  · rintro ⟨hd, ho⟩
    refine ⟨fun i j hi hj => ?_, ho⟩
    rw [g_mk _ (by omega) (by omega)]
    by_cases e : i ≤ n ∧ j ≤ n ∧ i ≠ j
    · rw [if_pos e]
      have t := hm.2 i j 0 hi hj (by omega)
      have a : m i 0 ≤ 2147483648 := by
        by_cases e : i = 0
        · subst e; have := hd 0 (by omega); omega
        · have := (ho i (by omega) hi).1; omega
      have b : m 0 j ≤ 2147483648 := by
        by_cases e : j = 0
        · subst e; have := hd 0 (by omega); omega
        · exact (ho j (by omega) hj).2
      omega
    · rw [if_neg e]
      obtain rfl : i = j := by omega
      exact hd i hi
theorem top_rep {n : Nat} (h : n ≤ 6) : Rep n (fun m => (∀ i, i ≤ n → m i i ≤ 0) ∧ Own n m) (topZ n) := by
  unfold topZ
  rw [capN_id h, Int.toNat_natCast]
  exact (close_rep (top_raw h).w).of fun m hm => topM h hm
theorem topR_eq {n : Nat} (h : n ≤ 6) : topR n = topZ n := by
  unfold topZ topR
  rw [capN_id h, Int.toNat_natCast]
  exact closeR_eq (top_raw h)
theorem top_none {n : Nat} (h : n ≤ 6) : (topZ n).2.1 = false :=
  (top_rep h).not_none (m := fun _ _ => 0) ⟨fun _ _ => (by (try dsimp only); omega), fun _ _ _ _ _ _ => (by (try dsimp only); omega)⟩ ⟨fun _ _ => (by (try dsimp only); omega), fun _ _ _ => (by (try dsimp only); omega)⟩
theorem top_pt {n : Nat} (h : n ≤ 6) {v : Nat → Int} (hv : InR n v) : Pt n v (topZ n) :=
  (top_rep h).pt.1 ⟨fun i _ => by unfold ptM; omega, ptM_own hv⟩
/-- its bounds -/
theorem top_g {n : Nat} (h : n ≤ 6) {i j : Nat} (hi : i ≤ n) (hj : j ≤ n) : g (topZ n).2.2 i j = if i = j then 0 else (if i = 0 then 0 else 2147483647) + (if j = 0 then 0 else 2147483648) := by
  refine ((top_rep h).eq (c := fun i j => if i = j then 0 else (if i = 0 then 0 else 2147483647) + (if j = 0 then 0 else 2147483648)) ⟨fun i hi => by simp, fun i j k hi hj hk => ?_⟩ fun m hm => ?_).2 i j hi hj
  · by_cases e1 : i = j <;> by_cases e2 : i = k <;> by_cases e3 : k = j <;> by_cases e4 : i = 0 <;> by_cases e5 : j = 0 <;> by_cases e6 : k = 0 <;> simp [*] <;> (try omega) <;> (split <;> split <;> omega)
  · constructor
    · rintro ⟨hd, ho⟩ i j hi hj
      have t := hm.2 i j 0 hi hj (by omega)
      by_cases e : i = j
      · subst e; have := hd i hi; simpa using this
      · have a : m i 0 ≤ if i = 0 then 0 else 2147483647 := by
          by_cases e : i = 0
          · subst e; have := hd 0 (by omega); simpa using this
          · rw [if_neg e]; exact (ho i (by omega) hi).1
        have b : m 0 j ≤ if j = 0 then 0 else 2147483648 := by
          by_cases e : j = 0
          · subst e; have := hd 0 (by omega); simpa using this
          · rw [if_neg e]; exact (ho j (by omega) hj).2
        show m i j ≤ if i = j then 0 else _
        rw [if_neg e]; omega
    · intro hl
      refine ⟨fun i hi => by have := hl i i hi hi; simpa using this, fun i h1 hi => ⟨?_, ?_⟩⟩
      · have := hl i 0 hi (by omega)
        simp only [show ¬ i = 0 by omega, if_false, if_true] at this
        omega
      · have := hl 0 i (by omega) hi
        simp only [show ¬ 0 = i by omega, show ¬ i = 0 by omega, if_false, if_true] at this
        omega

theorem zeros_gd {n : Nat} (h : n ≤ 6) : Gd n (zerosZ n) := by
  unfold zerosZ
  rw [capN_id h]
  refine ⟨rfl, h, zeroL_len, fun _ => rfl, fun _ => ⟨fun i _ => ?_, fun i j k _ _ _ => ?_⟩, fun _ i _ _ => ?_, fun _ i _ => g_zero i i, fun _ a b _ _ _ => g_zero a b⟩
  · show 0 ≤ g zeroL i i
    rw [g_zero]; omega
  · show g zeroL i j ≤ g zeroL i k + g zeroL k j
    rw [g_zero, g_zero, g_zero]; omega
  · show g zeroL i 0 ≤ _ ∧ g zeroL 0 i ≤ _
    rw [g_zero, g_zero]; omega
theorem zeros_none (n : Int) : (zerosZ n).2.1 = false := rfl
theorem zeros_g (n : Int) (i j : Nat) : g (zerosZ n).2.2 i j = 0 := g_zero i j

/-! ### Two zones -/
def alikeZ (a b : Zo) : Bool := decide (a.1 = b.1) && okN a.1
def withinZ (a b : Zo) : Bool :=
  if !alikeZ a b then false else if a.2.1 then true else if b.2.1 then false else (List.range 7).all fun i => (List.range 7).all fun j => decide (g a.2.2 i j ≤ g b.2.2 i j)
def withinR (a b : Zo) : Bool :=
  if !decide (a.1 = b.1) then false else if a.2.1 then true else if b.2.1 then false else (List.range (a.1.toNat + 1)).all fun i => (List.range (a.1.toNat + 1)).all fun j => decide (g a.2.2 i j ≤ g b.2.2 i j)
def joinZ (a b : Zo) : Zo :=
  if !alikeZ a b || b.2.1 then a else if a.2.1 then b else (a.1, a.2.1, mkD fun i j => max (g a.2.2 i j) (g b.2.2 i j))
def joinR (a b : Zo) : Zo :=
  if a.2.1 then b else if b.2.1 then a else (a.1, a.2.1, mkD fun i j => if i ≤ a.1.toNat ∧ j ≤ a.1.toNat then max (g a.2.2 i j) (g b.2.2 i j) else g a.2.2 i j)
def keptP (a b : Int) : Int := if b > a then 1099511627776 else a
def widD (a b : List Int) (n : Nat) (T : List Int) : List Int := mkD fun i j =>
  if 1 ≤ i ∧ i ≤ n ∧ j = 0 then keptP (g a i 0) (g b i 0) else if i = 0 ∧ 1 ≤ j ∧ j ≤ n then keptP (g a 0 j) (g b 0 j) else if 1 ≤ i ∧ i ≤ n ∧ 1 ≤ j ∧ j ≤ n ∧ i ≠ j then 1099511627776 else g T i j
def widenZ (a b : Zo) : Zo :=
  if !alikeZ a b || withinZ b a then a else if a.2.1 then b else closeZ ((topZ a.1).1, (topZ a.1).2.1, widD a.2.2 b.2.2 a.1.toNat (topZ a.1).2.2)
def widR (a b : List Int) : Nat → Zo → Zo
  | 0, z => z
  | t + 1, z =>
    let z := widR a b t z
    let z := if g b (t + 1) 0 ≤ g a (t + 1) 0 then boundR z t (-1) (g a (t + 1) 0) else z
    if g b 0 (t + 1) ≤ g a 0 (t + 1) then boundR z (-1) t (g a 0 (t + 1)) else z
def widenR (a b : Zo) : Zo := if a.2.1 then b else if withinR b a then a else widR a.2.2 b.2.2 a.1.toNat (topR a.1)
def rightZ (z : Zo) : Bool :=
  okN z.1 && ((List.range 7).all fun i => (List.range 7).all fun j => !(((z.2.1 || decide (z.1 < (i : Int)) || decide (z.1 < (j : Int))) && !decide (g z.2.2 i j = 0)) || decide (g z.2.2 i j > 1099511627776) || decide (g z.2.2 i j < -1099511627776))) && decide (closeZ z = z)

section
variable {n : Nat} {a b z : Zo}

theorem Gd.okN (h : Gd n a) : okN a.1 = true := by
  have := h.n6
  unfold Zm.okN
  rw [h.hn]; simp; omega
theorem Gd.alike (h : Gd n a) (h' : Gd n b) : alikeZ a b = true := by
  unfold alikeZ
  rw [h.okN, h.hn, h'.hn]; simp
theorem Gd.nat (h : Gd n a) : a.1.toNat = n := by rw [h.hn]; simp

theorem all7 {p : Nat → Nat → Bool} {m : Nat} : ((List.range m).all fun i => (List.range m).all fun j => p i j) = true ↔ ∀ i j, i < m → j < m → p i j = true := by
  rw [List.all_eq_true]
  constructor
  · intro h i j hi hj
    exact List.all_eq_true.1 (h i (List.mem_range.2 hi)) j (List.mem_range.2 hj)
  · intro h i hi
    exact List.all_eq_true.2 fun j hj => h i j (List.mem_range.1 hi) (List.mem_range.1 hj)

theorem within_iff (h : Gd n a) (h' : Gd n b) : withinZ a b = true ↔ a.2.1 = true ∨ (a.2.1 = false ∧ b.2.1 = false ∧ Lem n (g a.2.2) (g b.2.2)) := by
  have n6 := h.n6
  unfold withinZ
  rw [h.alike h']
  cases ha : a.2.1 with
  | true => simp
  | false =>
    cases hb : b.2.1 with
    | true => simp
    | false =>
      simp only [Bool.not_true, Bool.false_eq_true, if_false, all7, decide_eq_true_eq, false_or, true_and]
      constructor
      · intro hl i j hi hj
        exact hl i j (by omega) (by omega)
      · intro hl i j hi hj
        by_cases e : i ≤ n ∧ j ≤ n
        · exact hl i j e.1 e.2
        · rw [h.out ha i j hi hj e, h'.out hb i j hi hj e]; omega
theorem withinR_eq (h : Gd n a) (h' : Gd n b) : withinR a b = withinZ a b := by
  rw [Bool.eq_iff_iff, within_iff h h']
  unfold withinR
  rw [h.hn, h'.hn]
  cases ha : a.2.1 with
  | true => simp
  | false =>
    cases hb : b.2.1 with
    | true => simp
    | false =>
      simp only [decide_true, Bool.not_true, Bool.false_eq_true, if_false, all7, decide_eq_true_eq, false_or, true_and, Int.toNat_natCast]
      exact ⟨fun hl i j hi hj => hl i j (by omega) (by omega), fun hl i j hi hj => hl i j (by omega) (by omega)⟩

theorem join_none1 (h : Gd n a) (h' : Gd n b) (ha : a.2.1 = true) : joinZ a b = b := by
  unfold joinZ
  rw [h.alike h', ha]
  cases hb : b.2.1 with
  | false => rfl
  | true =>
    refine h.ext h' (by rw [ha, hb]) fun e => ?_
    rw [ha] at e; cases e
theorem join_none2 (hb : b.2.1 = true) : joinZ a b = a := by
  unfold joinZ
  rw [hb]; simp
theorem join_both (h : Gd n a) (h' : Gd n b) (ha : a.2.1 = false) (hb : b.2.1 = false) : joinZ a b = (a.1, false, mkD fun i j => max (g a.2.2 i j) (g b.2.2 i j)) := by
  unfold joinZ
  rw [h.alike h', ha, hb]; rfl
theorem join_g (h : Gd n a) (h' : Gd n b) (ha : a.2.1 = false) (hb : b.2.1 = false) {i j : Nat} (hi : i < 7) (hj : j < 7) : g (joinZ a b).2.2 i j = max (g a.2.2 i j) (g b.2.2 i j) := by
  rw [join_both h h' ha hb]
  show g (mkD fun i j => max (g a.2.2 i j) (g b.2.2 i j)) i j = _
  rw [g_mk _ hi hj]
theorem join_gd (h : Gd n a) (h' : Gd n b) : Gd n (joinZ a b) := by
  have n6 := h.n6
  cases ha : a.2.1 with
  | true => rw [join_none1 h h' ha]; exact h'
  | false =>
    cases hb : b.2.1 with
    | true => rw [join_none2 hb]; exact h
    | false =>
      have e := fun i j (hi : i < 7) (hj : j < 7) => join_g h h' ha hb hi hj
      have e0 := join_both h h' ha hb
      refine ⟨by rw [e0]; exact h.hn, n6, by rw [e0]; exact mkD_len (fun i j => max (g a.2.2 i j) (g b.2.2 i j)), fun x => by (rw [e0] at x; cases x), fun _ => ⟨fun i hi => ?_, fun i j k hi hj hk => ?_⟩, fun _ i h1 hi => ?_, fun _ i hi => ?_, fun _ i j hi hj hx => ?_⟩
      · rw [e i i (by omega) (by omega), h.diag ha i hi, h'.diag hb i hi]; omega
      · rw [e i j (by omega) (by omega), e i k (by omega) (by omega), e k j (by omega) (by omega)]
        have := (h.clo ha).2 i j k hi hj hk
        have := (h'.clo hb).2 i j k hi hj hk
        omega
      · rw [e i 0 (by omega) (by omega), e 0 i (by omega) (by omega)]
        have := h.own ha i h1 hi
        have := h'.own hb i h1 hi
        omega
      · rw [e i i (by omega) (by omega), h.diag ha i hi, h'.diag hb i hi]; rfl
      · rw [e i j hi hj, h.out ha i j hi hj hx, h'.out hb i j hi hj hx]; rfl
theorem joinR_eq (h : Gd n a) (h' : Gd n b) : joinR a b = joinZ a b := by
  cases ha : a.2.1 with
  | true => rw [join_none1 h h' ha]; unfold joinR; rw [ha]; rfl
  | false =>
    cases hb : b.2.1 with
    | true => rw [join_none2 hb]; unfold joinR; rw [ha, hb]; rfl
    | false =>
      rw [join_both h h' ha hb]
      unfold joinR
      rw [ha, hb, h.nat]
      have : (mkD fun i j => if i ≤ n ∧ j ≤ n then max (g a.2.2 i j) (g b.2.2 i j) else g a.2.2 i j) = mkD fun i j => max (g a.2.2 i j) (g b.2.2 i j) := mk_ext fun i j hi hj => by
        by_cases e : i ≤ n ∧ j ≤ n
        · rw [if_pos e]
        · rw [if_neg e, h.out ha i j hi hj e, h'.out hb i j hi hj e]; rfl
      rw [this]; rfl
theorem join_pt1 (h : Gd n a) (h' : Gd n b) {v : Nat → Int} (hv : Pt n v a) : Pt n v (joinZ a b) := by
  have n6 := h.n6
  cases hb : b.2.1 with
  | true => rw [join_none2 hb]; exact hv
  | false =>
    refine ⟨by rw [join_both h h' hv.1 hb], fun i j hi hj => ?_⟩
    rw [join_g h h' hv.1 hb (by omega) (by omega)]
    have := hv.2 i j hi hj
    omega
theorem join_pt2 (h : Gd n a) (h' : Gd n b) {v : Nat → Int} (hv : Pt n v b) : Pt n v (joinZ a b) := by
  have n6 := h.n6
  cases ha : a.2.1 with
  | true => rw [join_none1 h h' ha]; exact hv
  | false =>
    refine ⟨by rw [join_both h h' ha hv.1], fun i j hi hj => ?_⟩
    rw [join_g h h' ha hv.1 (by omega) (by omega)]
    have := hv.2 i j hi hj
    omega
theorem within_refl (h : Gd n a) : withinZ a a = true := by
  rw [within_iff h h]
  cases ha : a.2.1 with
  | true => exact .inl rfl
  | false => exact .inr ⟨rfl, rfl, Lem.refl _ _⟩
theorem within_join1 (h : Gd n a) (h' : Gd n b) : withinZ a (joinZ a b) = true := by
  have n6 := h.n6
  rw [within_iff h (join_gd h h')]
  cases ha : a.2.1 with
  | true => exact .inl rfl
  | false =>
    cases hb : b.2.1 with
    | true => rw [join_none2 hb]; exact .inr ⟨rfl, ha, Lem.refl _ _⟩
    | false =>
      refine .inr ⟨rfl, by rw [join_both h h' ha hb], fun i j hi hj => ?_⟩
      rw [join_g h h' ha hb (by omega) (by omega)]; omega
theorem within_join2 (h : Gd n a) (h' : Gd n b) : withinZ b (joinZ a b) = true := by
  have n6 := h.n6
  rw [within_iff h' (join_gd h h')]
  cases hb : b.2.1 with
  | true => exact .inl rfl
  | false =>
    cases ha : a.2.1 with
    | true => rw [join_none1 h h' ha]; exact .inr ⟨rfl, hb, Lem.refl _ _⟩
    | false =>
      refine .inr ⟨rfl, by rw [join_both h h' ha hb], fun i j hi hj => ?_⟩
      rw [join_g h h' ha hb (by omega) (by omega)]; omega

/-! ### Widening -/
/-- The bounds that stay. -/
def widP (n t : Nat) (a b : Mx) (m : Mx) : Prop :=
  ((∀ i, i ≤ n → m i i ≤ 0) ∧ Own n m) ∧ ∀ i, 1 ≤ i → i ≤ t → (b i 0 ≤ a i 0 → m i 0 ≤ a i 0) ∧ (b 0 i ≤ a 0 i → m 0 i ≤ a 0 i)

theorem wid_raw (h : Gd n a) (h' : Gd n b) (ha : a.2.1 = false) (hb : b.2.1 = false) : RawW n (widD a.2.2 b.2.2 n (topZ n).2.2) := by
  have n6 := h.n6
  have tg := (top_rep n6).1
  have tb := top_none n6
  unfold widD keptP
  refine ⟨n6, mkD_len _, fun i j hi hj => ?_, fun i hi => ?_, fun i j hi hj e => ?_⟩
  · rw [g_mk _ (by omega) (by omega)]
    have r1 := h.range ha (i := i) (j := 0) hi (by omega)
    have r2 := h.range ha (i := 0) (j := j) (by omega) hj
    have r3 := tg.range tb hi hj
    split
    · split <;> omega
    · split
      · split <;> omega
      · split <;> omega
  · rw [g_mk _ (by omega) (by omega), if_neg (by omega), if_neg (by omega), if_neg (by omega), tg.diag tb i hi]; omega
  · rw [g_mk _ hi hj, if_neg (by omega), if_neg (by omega), if_neg (by omega), tg.out tb i j hi hj e]

theorem widen_rep (h : Gd n a) (h' : Gd n b) (ha : a.2.1 = false) (hb : b.2.1 = false) : Rep n (widP n n (g a.2.2) (g b.2.2)) (closeZ ((topZ a.1).1, (topZ a.1).2.1, widD a.2.2 b.2.2 a.1.toNat (topZ a.1).2.2)) := by
  have n6 := h.n6
  have tg := (top_rep n6).1
  have tb := top_none n6
  rw [h.hn, tg.hn, tb, Int.toNat_natCast]
  refine (close_rep (wid_raw h h' ha hb)).of fun m hm => ?_
  have gw : ∀ i j, i ≤ n → j ≤ n → g (widD a.2.2 b.2.2 n (topZ n).2.2) i j = if 1 ≤ i ∧ i ≤ n ∧ j = 0 then keptP (g a.2.2 i 0) (g b.2.2 i 0) else if i = 0 ∧ 1 ≤ j ∧ j ≤ n then keptP (g a.2.2 0 j) (g b.2.2 0 j) else if 1 ≤ i ∧ i ≤ n ∧ 1 ≤ j ∧ j ≤ n ∧ i ≠ j then 1099511627776 else g (topZ n).2.2 i j := fun i j hi hj => by
    unfold widD
    rw [g_mk _ (by omega) (by omega)]
  constructor
  · rintro ⟨hl, ho⟩
    refine ⟨⟨fun i hi => ?_, ho⟩, fun i h1 hi => ⟨fun hk => ?_, fun hk => ?_⟩⟩
    · have := hl i i hi hi
      rw [gw i i hi hi, if_neg (by omega), if_neg (by omega), if_neg (by omega), tg.diag tb i hi] at this
      exact this
    · have := hl i 0 hi (by omega)
      rw [gw i 0 hi (by omega), if_pos ⟨h1, hi, rfl⟩] at this
      unfold keptP at this
      rw [if_neg (by omega)] at this
      exact this
    · have := hl 0 i (by omega) hi
      rw [gw 0 i (by omega) hi, if_neg (by omega), if_pos ⟨rfl, h1, hi⟩] at this
      unfold keptP at this
      rw [if_neg (by omega)] at this
      exact this
  · rintro ⟨⟨hd, ho⟩, hk⟩
    refine ⟨fun i j hi hj => ?_, ho⟩
    rw [gw i j hi hj]
    by_cases c1 : 1 ≤ i ∧ i ≤ n ∧ j = 0
    · rw [if_pos c1]
      obtain ⟨c1, c2, rfl⟩ := c1
      have := (hk i c1 c2).1
      have := (ho i c1 c2).1
      unfold keptP
      split <;> omega
    · rw [if_neg c1]
      by_cases c2 : i = 0 ∧ 1 ≤ j ∧ j ≤ n
      · rw [if_pos c2]
        obtain ⟨rfl, c2, c3⟩ := c2
        have := (hk j c2 c3).2
        have := (ho j c2 c3).2
        unfold keptP
        split <;> omega
      · rw [if_neg c2]
        by_cases c3 : 1 ≤ i ∧ i ≤ n ∧ 1 ≤ j ∧ j ≤ n ∧ i ≠ j
        · rw [if_pos c3]
          have t := hm.2 i j 0 hi hj (by omega)
          have := (ho i c3.1 hi).1
          have := (ho j (by omega) hj).2
          omega
        · rw [if_neg c3]
          obtain rfl : i = j := by omega
          rw [tg.diag tb i hi]; exact hd i hi

theorem widR_rep (h : Gd n a) (h' : Gd n b) (ha : a.2.1 = false) (hb : b.2.1 = false) (t : Nat) (ht : t ≤ n) : Rep n (widP n t (g a.2.2) (g b.2.2)) (widR a.2.2 b.2.2 t (topZ n)) := by
  have n6 := h.n6
  induction t with
  | zero => exact (top_rep n6).of fun m hm => ⟨fun hp => ⟨hp, fun i h1 hi => by omega⟩, fun hp => hp.1⟩
  | succ t ih =>
    have ih := ih (by omega)
    have r1 := h.range ha (i := t + 1) (j := 0) ht (by omega)
    have r2 := h.range ha (i := 0) (j := t + 1) (by omega) ht
    have e1 : ((t : Int) + 1).toNat = t + 1 := by omega
    have e2 : ((-1 : Int) + 1).toNat = 0 := rfl
    -- the first one
    have s1 : Rep n (fun m => widP n t (g a.2.2) (g b.2.2) m ∧ (g b.2.2 (t + 1) 0 ≤ g a.2.2 (t + 1) 0 → m (t + 1) 0 ≤ g a.2.2 (t + 1) 0)) (if g b.2.2 (t + 1) 0 ≤ g a.2.2 (t + 1) 0 then boundR (widR a.2.2 b.2.2 t (topZ n)) t (-1) (g a.2.2 (t + 1) 0) else widR a.2.2 b.2.2 t (topZ n)) := by
      by_cases c : g b.2.2 (t + 1) 0 ≤ g a.2.2 (t + 1) 0
      · rw [if_pos c, boundR_eq ih.1 (by omega) (by omega) (by omega)]
        refine (bound_rep ih (by omega) (by omega)).of fun m hm => ?_
        rw [e1, e2, show max (g a.2.2 (t + 1) 0) (-1099511627776) = g a.2.2 (t + 1) 0 by omega]
        exact ⟨fun hp => ⟨hp.1, fun _ => hp.2⟩, fun hp => ⟨hp.1, hp.2 c⟩⟩
      · rw [if_neg c]
        exact ih.of fun m hm => ⟨fun hp => ⟨hp, fun c' => absurd c' c⟩, fun hp => hp.1⟩
    have s2 : Rep n (fun m => (widP n t (g a.2.2) (g b.2.2) m ∧ (g b.2.2 (t + 1) 0 ≤ g a.2.2 (t + 1) 0 → m (t + 1) 0 ≤ g a.2.2 (t + 1) 0)) ∧ (g b.2.2 0 (t + 1) ≤ g a.2.2 0 (t + 1) → m 0 (t + 1) ≤ g a.2.2 0 (t + 1))) (widR a.2.2 b.2.2 (t + 1) (topZ n)) := by
      show Rep n _ (if g b.2.2 0 (t + 1) ≤ g a.2.2 0 (t + 1) then boundR (if g b.2.2 (t + 1) 0 ≤ g a.2.2 (t + 1) 0 then boundR (widR a.2.2 b.2.2 t (topZ n)) t (-1) (g a.2.2 (t + 1) 0) else widR a.2.2 b.2.2 t (topZ n)) (-1) t (g a.2.2 0 (t + 1)) else (if g b.2.2 (t + 1) 0 ≤ g a.2.2 (t + 1) 0 then boundR (widR a.2.2 b.2.2 t (topZ n)) t (-1) (g a.2.2 (t + 1) 0) else widR a.2.2 b.2.2 t (topZ n)))
      generalize (if g b.2.2 (t + 1) 0 ≤ g a.2.2 (t + 1) 0 then boundR (widR a.2.2 b.2.2 t (topZ n)) t (-1) (g a.2.2 (t + 1) 0) else widR a.2.2 b.2.2 t (topZ n)) = y at s1 ⊢
      by_cases c : g b.2.2 0 (t + 1) ≤ g a.2.2 0 (t + 1)
      · rw [if_pos c, boundR_eq s1.1 (by omega) (by omega) (by omega)]
        refine (bound_rep s1 (by omega) (by omega)).of fun m hm => ?_
        rw [e1, e2, show max (g a.2.2 0 (t + 1)) (-1099511627776) = g a.2.2 0 (t + 1) by omega]
        exact ⟨fun hp => ⟨hp.1, fun _ => hp.2⟩, fun hp => ⟨hp.1, hp.2 c⟩⟩
      · rw [if_neg c]
        exact s1.of fun m hm => ⟨fun hp => ⟨hp, fun c' => absurd c' c⟩, fun hp => hp.1⟩
    refine s2.of fun m hm => ?_
    constructor
    · rintro ⟨⟨⟨h1, h2⟩, h3⟩, h4⟩
      refine ⟨h1, fun i i1 i2 => ?_⟩
      by_cases e : i = t + 1
      · subst e; exact ⟨h3, h4⟩
      · exact h2 i i1 (by omega)
    · rintro ⟨h1, h2⟩
      exact ⟨⟨⟨h1, fun i i1 i2 => h2 i i1 (by omega)⟩, (h2 (t + 1) (by omega) (by omega)).1⟩, (h2 (t + 1) (by omega) (by omega)).2⟩

theorem widen_in (h : Gd n a) (h' : Gd n b) (hw : withinZ b a = true) : widenZ a b = a := by
  unfold widenZ
  rw [hw]; simp
theorem widen_none (h : Gd n a) (h' : Gd n b) (ha : a.2.1 = true) : widenZ a b = b := by
  cases hw : withinZ b a with
  | true =>
    rw [widen_in h h' hw]
    rcases (within_iff h' h).1 hw with e | ⟨_, e, _⟩
    · exact h.ext h' (by rw [ha, e]) fun x => by (rw [ha] at x; cases x)
    · rw [ha] at e; cases e
  | false =>
    unfold widenZ
    rw [h.alike h', hw, ha]; rfl
theorem widen_out (h : Gd n a) (h' : Gd n b) (ha : a.2.1 = false) (hw : withinZ b a = false) : widenZ a b = closeZ ((topZ a.1).1, (topZ a.1).2.1, widD a.2.2 b.2.2 a.1.toNat (topZ a.1).2.2) := by
  unfold widenZ
  rw [h.alike h', hw, ha]; rfl
theorem not_within_none (h : Gd n a) (h' : Gd n b) (hw : withinZ b a = false) : b.2.1 = false := by
  cases hb : b.2.1 with
  | false => rfl
  | true => rw [(within_iff h' h).2 (.inl hb)] at hw; cases hw
theorem widen_gd (h : Gd n a) (h' : Gd n b) : Gd n (widenZ a b) := by
  cases ha : a.2.1 with
  | true => rw [widen_none h h' ha]; exact h'
  | false =>
    cases hw : withinZ b a with
    | true => rw [widen_in h h' hw]; exact h
    | false => rw [widen_out h h' ha hw]; exact (widen_rep h h' ha (not_within_none h h' hw)).1
theorem widenR_eq (h : Gd n a) (h' : Gd n b) : widenR a b = widenZ a b := by
  have n6 := h.n6
  unfold widenR
  cases ha : a.2.1 with
  | true => rw [widen_none h h' ha]; rfl
  | false =>
    rw [withinR_eq h' h]
    cases hw : withinZ b a with
    | true => rw [widen_in h h' hw]; rfl
    | false =>
      have hb := not_within_none h h' hw
      rw [widen_out h h' ha hw]
      have r1 := widR_rep h h' ha hb n (Nat.le_refl n)
      have r2 := widen_rep h h' ha hb
      rw [← topR_eq n6] at r1
      have e : widR a.2.2 b.2.2 a.1.toNat (topR a.1) = widR a.2.2 b.2.2 n (topR n) := by rw [h.hn, Int.toNat_natCast]
      rw [if_neg (by decide), if_neg (by decide), e]
      exact r1.uniq r2 fun m hm => Iff.rfl
theorem within_widen (h : Gd n a) (h' : Gd n b) : withinZ b (widenZ a b) = true ∧ withinZ a (widenZ a b) = true := by
  have n6 := h.n6
  cases ha : a.2.1 with
  | true => rw [widen_none h h' ha]; exact ⟨within_refl h', (within_iff h h').2 (.inl ha)⟩
  | false =>
    cases hw : withinZ b a with
    | true => rw [widen_in h h' hw]; exact ⟨hw, within_refl h⟩
    | false =>
      have hb := not_within_none h h' hw
      rw [widen_out h h' ha hw]
      have r := widen_rep h h' ha hb
      have pb : widP n n (g a.2.2) (g b.2.2) (g b.2.2) := ⟨⟨fun i hi => by rw [h'.diag hb i hi]; omega, h'.own hb⟩, fun i _ _ => ⟨fun x => x, fun x => x⟩⟩
      have pa : widP n n (g a.2.2) (g b.2.2) (g a.2.2) := ⟨⟨fun i hi => by rw [h.diag ha i hi]; omega, h.own ha⟩, fun i _ _ => ⟨fun _ => by omega, fun _ => by omega⟩⟩
      have nn := r.not_none (h.clo ha) pa
      exact ⟨(within_iff h' r.1).2 (.inr ⟨hb, nn, (r.2.2 nn _ (h'.clo hb)).1 pb⟩), (within_iff h r.1).2 (.inr ⟨ha, nn, (r.2.2 nn _ (h.clo ha)).1 pa⟩)⟩

/-! ### Right ones -/
theorem right_gd (h : Gd n z) : rightZ z = true := by
  have n6 := h.n6
  unfold rightZ
  rw [h.okN, h.close]
  simp only [Bool.true_and, decide_true, Bool.and_true, all7]
  intro i j hi hj
  cases hb : z.2.1 with
  | true =>
    rw [h.none hb, g_zero]; rfl
  | false =>
    rw [h.hn]
    by_cases e : i ≤ n ∧ j ≤ n
    · have r := h.range hb e.1 e.2
      simp; omega
    · rw [h.out hb i j hi hj e]; simp

end
end Go.Proofs.Ytgmciihlmgeecaa.Zm
