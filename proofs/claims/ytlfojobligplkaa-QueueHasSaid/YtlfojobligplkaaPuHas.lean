import Derived.Test.YtlfojobligplkaaWLQueueHas
import Derived.Test.YtlfojobligplkaaPuPair
/- The statement QueueHas, in numbers. Conditions: those that each lemma names. -/
namespace Go.Proofs.Ytlfojobligplkaa.Fn
open Go Go.RowKit Go.Proofs.Ytlfojobligplkaa.Mt
set_option linter.unusedVariables false
set_option linter.unusedSimpArgs false

theorem const_id {x : Int} (h : In x) : f21_0 x = x ∧ f21_1 x = x := by
  unfold In at h
  unfold f21_0 f21_1
  rw [(of_eq _ _).1, (of_eq _ _).2]
  unfold nI
  rw [if_neg (by omega)]
  exact ⟨by simp only; omega, by simp only; omega⟩

theorem rem_in (a m : Int) (h : 1 ≤ m) (h' : m ≤ 1000) : 0 ≤ IntKind.i64.wrap ((IntKind.u64.wrap a).tmod m) ∧ IntKind.i64.wrap ((IntKind.u64.wrap a).tmod m) < m := by
  have h0 : 0 ≤ IntKind.u64.wrap a := by
    have e : IntKind.u64.wrap a = a % 18446744073709551616 := by simp [IntKind.wrap, IntKind.bits, IntKind.signed]
    omega
  have e : (IntKind.u64.wrap a).tmod m = (IntKind.u64.wrap a) % m := Int.tmod_eq_emod_of_nonneg h0
  have h1 := Int.emod_nonneg (IntKind.u64.wrap a) (show m ≠ 0 by omega)
  have h2 := Int.emod_lt_of_pos (IntKind.u64.wrap a) (show 0 < m by omega)
  rw [e, i64_id (n := IntKind.u64.wrap a % m) (by omega) (by omega)]
  omega

theorem jI_has {a b v x : Int} (h : a ≤ v) (h' : v ≤ b) : (jI a b x x).1 ≤ v ∧ v ≤ (jI a b x x).2 := by
  unfold jI
  rw [if_neg (by omega), if_neg (by omega)]
  constructor <;> dsimp only <;> omega
theorem jI_new (a b x : Int) : (jI a b x x).1 ≤ x ∧ x ≤ (jI a b x x).2 := by
  unfold jI nI
  by_cases h : a > b
  · rw [if_pos h, if_neg (by omega)]; constructor <;> dsimp only <;> omega
  · rw [if_neg h, if_neg (by omega)]; constructor <;> dsimp only <;> omega
theorem jI_withB (p : Int × Int) (x : Int) : withB p (jI p.1 p.2 x x) = true := by
  unfold withB jI
  simp only [Bool.or_eq_true, Bool.and_eq_true, decide_eq_true_eq]
  by_cases h : p.1 > p.2
  · exact Or.inl h
  · right
    rw [if_neg h, if_neg (by omega)]
    constructor <;> dsimp only <;> omega

theorem msgOk_iff {vals : List Int} {t v : Int} : msgOk 4 vals t v = true ↔ (0 ≤ t ∧ t < 4) ∧ (pairAt vals t.toNat).1 ≤ v ∧ v ≤ (pairAt vals t.toNat).2 := by
  simp [msgOk]

/-- One message is sent. -/
theorem has_step {N : Int} (hN : 1 ≤ N) (hN' : N ≤ 16) {n : Nat} {hi : Int} (hh : hi = n) {vals : List Int} (hv : vals.length = 8) (hn : (n : Int) ≤ N) {t v : Int} (ht : 0 ≤ t) (ht' : t < 4) :
    ∃ V, sendP N 0 hi 4 vals t v v = (0, min (hi + 1) N, V) ∧ V.length = 8 ∧ (∀ t' v', msgOk 4 vals t' v' = true → msgOk 4 V t' v' = true) ∧ msgOk 4 V t v = true ∧ withinP 0 hi 4 vals 0 (min (hi + 1) N) 4 V = true := by
  subst hh
  have hp : ∀ k, k < 4 → pairAt (setP vals t.toNat (jI (pairAt vals t.toNat).1 (pairAt vals t.toNat).2 v v)) k = if t.toNat = k then jI (pairAt vals t.toNat).1 (pairAt vals t.toNat).2 v v else pairAt vals k := fun k _ => pairAt_set (by omega)
  refine ⟨setP vals t.toNat (jI (pairAt vals t.toNat).1 (pairAt vals t.toNat).2 v v), ?_, by rw [setP_len, hv], fun t' v' h => ?_, ?_, ?_⟩
  · unfold sendP
    rw [if_neg (by omega), i64_id (by omega) (by omega)]
  · rw [msgOk_iff] at h ⊢
    obtain ⟨h1, h2, h3⟩ := h
    refine ⟨h1, ?_⟩
    rw [hp t'.toNat (by omega)]
    split
    · rename_i e
      rw [e]; exact jI_has h2 h3
    · exact ⟨h2, h3⟩
  · rw [msgOk_iff]
    refine ⟨⟨ht, ht'⟩, ?_⟩
    rw [hp t.toNat (by omega), if_pos rfl]
    exact jI_new _ _ _
  · unfold withinP
    simp only [Bool.and_eq_true, List.all_eq_true, List.mem_range, decide_eq_true_eq]
    refine ⟨⟨trivial, ?_⟩, fun k hk => ?_⟩
    · simp [withB]; omega
    · rw [hp k hk]
      split
      · rename_i e; rw [e]; exact jI_withB _ _
      · simp [withB]

theorem hasP_i {hi : Int} {vals q : List Int} {m : Nat} (h : (m : Int) ≤ hi) (hok : ∀ j, j < m → msgOk 4 vals (pairAt q j).1 (pairAt q j).2 = true) : hasP 0 hi 4 vals m q = true := by
  unfold hasP
  simp only [Bool.and_eq_true, List.all_eq_true, List.mem_range, decide_eq_true_eq]
  exact ⟨⟨by omega, h⟩, hok⟩

theorem pairAt_app {l : List Int} {n j : Nat} {t v : Int} (hl : l.length = n * 2) (hj : j < n + 1) : pairAt (l ++ [t, v]) j = if j = n then (t, v) else pairAt l j := by
  unfold pairAt
  by_cases e : j = n
  · subst e
    rw [if_pos rfl, ← hl]
    simp [List.getD_eq_getElem?_getD, List.getElem?_append_right]
  · rw [if_neg e]
    simp [List.getD_eq_getElem?_getD, List.getElem?_append_left, hl, show j * 2 < n * 2 by omega, show j * 2 + 1 < n * 2 by omega]
theorem pairAt_drop {l : List Int} {j : Nat} : pairAt (l.drop 2) j = pairAt l (j + 1) := by
  unfold pairAt
  rw [show (j + 1) * 2 + 1 = 2 + (j * 2 + 1) by omega, show (j + 1) * 2 = 2 + j * 2 by omega]
  simp [List.getD_eq_getElem?_getD, List.getElem?_drop]
theorem ok_app {vals V l : List Int} {n : Nat} {t v : Int} (hl : l.length = n * 2) (hok : ∀ j, j < n → msgOk 4 vals (pairAt l j).1 (pairAt l j).2 = true) (h : ∀ t' v', msgOk 4 vals t' v' = true → msgOk 4 V t' v' = true) (hnew : msgOk 4 V t v = true) :
    ∀ j, j < n + 1 → msgOk 4 V (pairAt (l ++ [t, v]) j).1 (pairAt (l ++ [t, v]) j).2 = true := fun j hj => by
  rw [pairAt_app hl hj]
  split
  · exact hnew
  · exact h _ _ (hok j (by omega))

/-- What is known of a round's state: the messages kept, their number, the Elem. -/
def HasI (N : Int) (m : Nat) (n : Nat) (cs : List Cell) (i lo hi : Int) (vs : List Cell) : Prop :=
  ∃ l vals : List Int, cs = ic .i64 l ∧ vs = ic .i64 vals ∧ l.length = n * 2 ∧ vals.length = 8 ∧ 1 ≤ i ∧ i ≤ (m : Int) ∧ i ≤ 20 ∧ 1 ≤ n ∧ (n : Int) ≤ N ∧ lo = 0 ∧ hi = n ∧ ∀ j, j < n → msgOk 4 vals (pairAt l j).1 (pairAt l j).2 = true

theorem f4_pure (a0 : Int) (m : Nat) (q : List Int) (hq : q.length = m * 2) : f4_wp a0 m (ic .i64 q) (fun r' => r' = boRet true) := by
  unfold f4_wp
  (try delta X4_12); (try delta X4_11); (try delta X4_10); (try delta X4_9); (try delta X4_8); (try delta X4_7); (try delta X4_6); (try delta X4_5); (try delta X4_4); (try delta X4_3); (try delta X4_2); (try delta X4_1); (try delta X4_0)
  obtain ⟨hN, hN'⟩ := oneRem a0 16 (by decide) (by decide)
  generalize IntKind.i64.wrap (1 + IntKind.i64.wrap ((IntKind.u64.wrap a0).tmod 16)) = N at *
  refine LoopP.ind (I := sumE (fun _ => True) (sumE (fun z => HasI N m z.1 z.2.1 z.2.2.1 z.2.2.2.1 z.2.2.2.2.1 z.2.2.2.2.2.2.2) (fun z => HasI N m z.2.2.2.1 z.2.2.2.2.1 z.1 z.2.1 z.2.2.1 z.2.2.2.2.2)))
    (μ := sumE (fun _ => m + 1) (sumE (fun z => ((m : Int) - z.2.2.1).toNat) (fun z => ((m : Int) - z.1).toNat))) ?_ trivial
  rintro (_ | ⟨n, cs, i, lo, hi, bn, bc, vs⟩ | ⟨i, lo, hi, n, cs, vs⟩) k0 hI hk
  · dsimp only [sumE_l, sumE_r]
    refine cond_i (fun h => ?_) (fun h => rfl)
    have h := of_decide_eq_true h
    have g0 := ic_get (k := .i64) (l := q) (j := 0) (by omega)
    have g1 := ic_get (k := .i64) (l := q) (j := 1) (by omega)
    rw [g0, g1]
    simp only [intC, ic_len]
    obtain ⟨t1, t2⟩ := rem_in (q.getD 0 0) 4 (by decide) (by decide)
    have vin : In (IntKind.i64.wrap (IntKind.i32.wrap (q.getD 1 0))) := i32_range _
    rw [(const_id vin).1, (const_id vin).2]
    generalize IntKind.i64.wrap ((IntKind.u64.wrap (q.getD 0 0)).tmod 4) = t at *
    generalize IntKind.i64.wrap (IntKind.i32.wrap (q.getD 1 0)) = v at *
    have e0 : List.map intC [Cell.v (Value.int .i64 1), Cell.v (Value.int .i64 0), Cell.v (Value.int .i64 1), Cell.v (Value.int .i64 0), Cell.v (Value.int .i64 1), Cell.v (Value.int .i64 0), Cell.v (Value.int .i64 1), Cell.v (Value.int .i64 0)] = noneL 4 := rfl
    have e1 : List.map intC [Cell.v (Value.int .i64 t), Cell.v (Value.int .i64 v)] = [t, v] := rfl
    rw [e0, e1]
    obtain ⟨V, hf, lV, mono, new, wi⟩ := has_step hN hN' (n := 0) (hi := 0) rfl (noneL_len 4) (by omega) (v := v) t1 t2
    have oka := ok_app (l := []) (n := 0) rfl (fun j hj => absurd hj (by omega)) mono new
    have hV := okRow_ic (s := 2) (n := 4) lV (by omega)
    rw [hf]
    dsimp only
    simp only [ic_map]
    have go : k0 (Sum.inr (Sum.inr (1, 0, min (0 + 1) N, 1, [Cell.v (Value.int .i64 t), Cell.v (Value.int .i64 v)], ic .i64 V))) :=
      hk _ ⟨[t, v], V, rfl, rfl, rfl, lV, by dsimp only; omega, by dsimp only; omega, by dsimp only; omega, by dsimp only; omega, by dsimp only; omega, rfl, by dsimp only; omega, oka⟩ (by dsimp only [sumE_l, sumE_r]; omega)
    refine ck_i (by simp; omega) (ck_i (by simp [okK, isInt]; omega) (ck_i (by simp [okK, isInt]; omega) (cond_i (fun h3 => absurd (of_decide_eq_true h3) (by omega)) (fun _ => ?_))))
    refine ck_i (by simp only [flat_ic, plain_ic]; rfl) (ck_i (by simp only [hV]; rfl) ⟨by rw [hasP_i (by omega) (fun j hj => absurd hj (by omega))]; rfl, by rw [hasP_i (m := 1) (q := [t, v]) (by omega) oka]; rfl, ck_i (by simp only [hV]; rfl) (cond_i (fun _ => go) (fun _ => go))⟩)
  · obtain ⟨l, vals, i1, i2, ll, lv, i3, i4, i5, i7, i6, i8, i9, iok⟩ := hI
    dsimp only at i1 i2 ll i3 i4 i5 i6 i7 i8 i9 iok
    dsimp only [sumE_l, sumE_r]
    subst i1; subst i2; subst i8; subst i9
    have w : IntKind.i64.wrap (i + 1) = i + 1 := i64_id (by omega) (by omega)
    refine cond_i (fun h => cond_i (fun h2 => ?_) (fun h2 => rfl)) (fun h => rfl)
    have h := of_decide_eq_true h
    have h2 := of_decide_eq_true h2
    have g0 := ic_get (k := .i64) (l := q) (j := i.toNat * 2) (by omega)
    have g1 := ic_get (k := .i64) (l := q) (j := i.toNat * 2 + 1) (by omega)
    rw [g0, g1, w]
    simp only [intC, ic_map, ic_len, Nat.zero_add]
    obtain ⟨t1, t2⟩ := rem_in (q.getD (i.toNat * 2) 0) 4 (by decide) (by decide)
    have vin : In (IntKind.i64.wrap (IntKind.i32.wrap (q.getD (i.toNat * 2 + 1) 0))) := i32_range _
    rw [(const_id vin).1, (const_id vin).2]
    generalize IntKind.i64.wrap ((IntKind.u64.wrap (q.getD (i.toNat * 2) 0)).tmod 4) = t at *
    generalize IntKind.i64.wrap (IntKind.i32.wrap (q.getD (i.toNat * 2 + 1) 0)) = v at *
    obtain ⟨V, hf, lV, mono, new, wi⟩ := has_step hN hN' (hi := (n : Int)) rfl lv i6 (v := v) t1 t2
    have oka := ok_app ll iok mono new
    have okb : ∀ j, j < n → msgOk 4 V (pairAt l j).1 (pairAt l j).2 = true := fun j hj => mono _ _ (iok j hj)
    have hvals := okRow_ic (s := 2) (n := 4) lv (by omega)
    have hV := okRow_ic (s := 2) (n := 4) lV (by omega)
    have hR := okRow_ic (s := 2) ll (by omega)
    have la : (l ++ [t, v]).length = (n + 1) * 2 := by simp [ll]; omega
    have ea : ic .i64 l ++ [Cell.v (Value.int .i64 t), Cell.v (Value.int .i64 v)] = ic .i64 (l ++ [t, v]) := by rw [← ic_append]; rfl
    rw [hf, ea]
    dsimp only
    refine ck_i (by simp; omega) (ck_i (by simp [okK, isInt]; omega) (ck_i (by simp [okK, isInt]; omega) (ck_i (by simp [ll]; omega) (ck_i (by simp; omega) (cond_i (fun h3 => ?_) (fun h3 => ?_))))))
    · have h3 := of_decide_eq_true h3
      have et : List.drop 2 (List.take ((n + 1) * 2) (ic .i64 (l ++ [t, v]))) = ic .i64 ((l ++ [t, v]).drop 2) := by
        rw [List.take_of_length_le (by rw [ic_len, la]; exact Nat.le_refl _)]
        simp [ic]
      have ld : ((l ++ [t, v]).drop 2).length = (n + 1 - 1) * 2 := by rw [List.length_drop, la]; omega
      have hR2 := okRow_ic (s := 2) ld (by omega)
      have okd : ∀ j, j < n + 1 - 1 → msgOk 4 V (pairAt ((l ++ [t, v]).drop 2) j).1 (pairAt ((l ++ [t, v]).drop 2) j).2 = true := fun j hj => by
        rw [pairAt_drop]; exact oka (j + 1) (by omega)
      rw [et]
      simp only [ic_map]
      have go : k0 (Sum.inr (Sum.inl (n + 1 - 1, ic .i64 ((l ++ [t, v]).drop 2), i + 1, 0, min ((n : Int) + 1) N, n + 1, ic .i64 (l ++ [t, v]), ic .i64 V))) :=
        hk _ ⟨(l ++ [t, v]).drop 2, V, rfl, rfl, ld, lV, by dsimp only; omega, by dsimp only; omega, by dsimp only; omega, by dsimp only; omega, by dsimp only; omega, rfl, by dsimp only; omega, okd⟩ (by dsimp only [sumE_l, sumE_r]; omega)
      refine ck_i (by simp) (ck_i (by simp only [hV, hvals, hR, hR2, flat_ic, plain_ic]; rfl) (ck_i (by simp only [hV, hvals, hR, hR2, flat_ic, plain_ic]; rfl) ⟨by rw [hasP_i (by omega) okb]; rfl, ck_i (by simp only [hV, hvals, hR, hR2, flat_ic, plain_ic]; rfl) ⟨by rw [hasP_i (by omega) okd]; rfl, ck_i (by simp only [hV, hvals, hR, hR2, flat_ic, plain_ic]; rfl) ⟨by rw [hasP_i (by omega) (fun j hj => absurd hj (by omega))]; rfl, ck_i (by simp only [hV, hvals, hR, hR2, flat_ic, plain_ic]; rfl) ?_⟩⟩⟩))
      rw [wi]
      exact go
    · have h3 := of_decide_eq_false h3
      have hR2 := okRow_ic (s := 2) la (by omega)
      have go : k0 (Sum.inr (Sum.inr (i + 1, 0, min ((n : Int) + 1) N, n + 1, ic .i64 (l ++ [t, v]), ic .i64 V))) :=
        hk _ ⟨l ++ [t, v], V, rfl, rfl, la, lV, by dsimp only; omega, by dsimp only; omega, by dsimp only; omega, by dsimp only; omega, by dsimp only; omega, rfl, by dsimp only; omega, oka⟩ (by dsimp only [sumE_l, sumE_r]; omega)
      simp only [ic_map]
      refine (ck_i (by simp only [hV, hvals, hR, hR2, flat_ic, plain_ic]; rfl) (ck_i (by simp only [hV, hvals, hR, hR2, flat_ic, plain_ic]; rfl) ⟨by rw [hasP_i (by omega) okb]; rfl, ck_i (by simp only [hV, hvals, hR, hR2, flat_ic, plain_ic]; rfl) ⟨by rw [hasP_i (by omega) oka]; rfl, ck_i (by simp only [hV, hvals, hR, hR2, flat_ic, plain_ic]; rfl) ⟨by rw [hasP_i (by omega) (fun j hj => absurd hj (by omega))]; rfl, ck_i (by simp only [hV, hvals, hR, hR2, flat_ic, plain_ic]; rfl) ?_⟩⟩⟩))
      rw [wi]
      exact go
  · obtain ⟨l, vals, i1, i2, ll, lv, i3, i4, i5, i7, i6, i8, i9, iok⟩ := hI
    dsimp only at i1 i2 ll i3 i4 i5 i6 i7 i8 i9 iok
    dsimp only [sumE_l, sumE_r]
    subst i1; subst i2; subst i8; subst i9
    have w : IntKind.i64.wrap (i + 1) = i + 1 := i64_id (by omega) (by omega)
    refine cond_i (fun h => cond_i (fun h2 => ?_) (fun h2 => rfl)) (fun h => rfl)
    have h := of_decide_eq_true h
    have h2 := of_decide_eq_true h2
    have g0 := ic_get (k := .i64) (l := q) (j := i.toNat * 2) (by omega)
    have g1 := ic_get (k := .i64) (l := q) (j := i.toNat * 2 + 1) (by omega)
    rw [g0, g1, w]
    simp only [intC, ic_map, ic_len, Nat.zero_add]
    obtain ⟨t1, t2⟩ := rem_in (q.getD (i.toNat * 2) 0) 4 (by decide) (by decide)
    have vin : In (IntKind.i64.wrap (IntKind.i32.wrap (q.getD (i.toNat * 2 + 1) 0))) := i32_range _
    rw [(const_id vin).1, (const_id vin).2]
    generalize IntKind.i64.wrap ((IntKind.u64.wrap (q.getD (i.toNat * 2) 0)).tmod 4) = t at *
    generalize IntKind.i64.wrap (IntKind.i32.wrap (q.getD (i.toNat * 2 + 1) 0)) = v at *
    obtain ⟨V, hf, lV, mono, new, wi⟩ := has_step hN hN' (hi := (n : Int)) rfl lv i6 (v := v) t1 t2
    have oka := ok_app ll iok mono new
    have okb : ∀ j, j < n → msgOk 4 V (pairAt l j).1 (pairAt l j).2 = true := fun j hj => mono _ _ (iok j hj)
    have hvals := okRow_ic (s := 2) (n := 4) lv (by omega)
    have hV := okRow_ic (s := 2) (n := 4) lV (by omega)
    have hR := okRow_ic (s := 2) ll (by omega)
    have la : (l ++ [t, v]).length = (n + 1) * 2 := by simp [ll]; omega
    have ea : ic .i64 l ++ [Cell.v (Value.int .i64 t), Cell.v (Value.int .i64 v)] = ic .i64 (l ++ [t, v]) := by rw [← ic_append]; rfl
    rw [hf, ea]
    dsimp only
    refine ck_i (by simp; omega) (ck_i (by simp [okK, isInt]; omega) (ck_i (by simp [okK, isInt]; omega) (ck_i (by simp [ll]; omega) (ck_i (by simp; omega) (cond_i (fun h3 => ?_) (fun h3 => ?_))))))
    · have h3 := of_decide_eq_true h3
      have et : List.drop 2 (List.take ((n + 1) * 2) (ic .i64 (l ++ [t, v]))) = ic .i64 ((l ++ [t, v]).drop 2) := by
        rw [List.take_of_length_le (by rw [ic_len, la]; exact Nat.le_refl _)]
        simp [ic]
      have ld : ((l ++ [t, v]).drop 2).length = (n + 1 - 1) * 2 := by rw [List.length_drop, la]; omega
      have hR2 := okRow_ic (s := 2) ld (by omega)
      have okd : ∀ j, j < n + 1 - 1 → msgOk 4 V (pairAt ((l ++ [t, v]).drop 2) j).1 (pairAt ((l ++ [t, v]).drop 2) j).2 = true := fun j hj => by
        rw [pairAt_drop]; exact oka (j + 1) (by omega)
      rw [et]
      simp only [ic_map]
      have go : k0 (Sum.inr (Sum.inl (n + 1 - 1, ic .i64 ((l ++ [t, v]).drop 2), i + 1, 0, min ((n : Int) + 1) N, n + 1, ic .i64 (l ++ [t, v]), ic .i64 V))) :=
        hk _ ⟨(l ++ [t, v]).drop 2, V, rfl, rfl, ld, lV, by dsimp only; omega, by dsimp only; omega, by dsimp only; omega, by dsimp only; omega, by dsimp only; omega, rfl, by dsimp only; omega, okd⟩ (by dsimp only [sumE_l, sumE_r]; omega)
      refine ck_i (by simp) (ck_i (by simp only [hV, hvals, hR, hR2, flat_ic, plain_ic]; rfl) (ck_i (by simp only [hV, hvals, hR, hR2, flat_ic, plain_ic]; rfl) ⟨by rw [hasP_i (by omega) okb]; rfl, ck_i (by simp only [hV, hvals, hR, hR2, flat_ic, plain_ic]; rfl) ⟨by rw [hasP_i (by omega) okd]; rfl, ck_i (by simp only [hV, hvals, hR, hR2, flat_ic, plain_ic]; rfl) ⟨by rw [hasP_i (by omega) (fun j hj => absurd hj (by omega))]; rfl, ck_i (by simp only [hV, hvals, hR, hR2, flat_ic, plain_ic]; rfl) ?_⟩⟩⟩))
      rw [wi]
      exact go
    · have h3 := of_decide_eq_false h3
      have hR2 := okRow_ic (s := 2) la (by omega)
      have go : k0 (Sum.inr (Sum.inr (i + 1, 0, min ((n : Int) + 1) N, n + 1, ic .i64 (l ++ [t, v]), ic .i64 V))) :=
        hk _ ⟨l ++ [t, v], V, rfl, rfl, la, lV, by dsimp only; omega, by dsimp only; omega, by dsimp only; omega, by dsimp only; omega, by dsimp only; omega, rfl, by dsimp only; omega, oka⟩ (by dsimp only [sumE_l, sumE_r]; omega)
      simp only [ic_map]
      refine (ck_i (by simp only [hV, hvals, hR, hR2, flat_ic, plain_ic]; rfl) (ck_i (by simp only [hV, hvals, hR, hR2, flat_ic, plain_ic]; rfl) ⟨by rw [hasP_i (by omega) okb]; rfl, ck_i (by simp only [hV, hvals, hR, hR2, flat_ic, plain_ic]; rfl) ⟨by rw [hasP_i (by omega) oka]; rfl, ck_i (by simp only [hV, hvals, hR, hR2, flat_ic, plain_ic]; rfl) ⟨by rw [hasP_i (by omega) (fun j hj => absurd hj (by omega))]; rfl, ck_i (by simp only [hV, hvals, hR, hR2, flat_ic, plain_ic]; rfl) ?_⟩⟩⟩))
      rw [wi]
      exact go

theorem f4_true (a0 : Int) (n : Nat) (cs : List Cell) {p : Prop} (w : p) {D : Nat} (h : TyC Try.prog D 39 [.sl n cs]) : f4_wp a0 n cs (fun r' => r' = boRet true) := by
  obtain ⟨l, rfl, e, _⟩ := row_ints (k := .i64) (S := [3, 45, 46]) (s := 2) (by kernel_rfl) Try.underlying39 (by decide) (by kernel_rfl) (by decide) h
  exact f4_pure a0 n l e

theorem cx4_ok : CtxOk Try.prog cx4.q.ctx := (ctx_cons (g := 19) (ctx_cons (g := 21) (ctx_cons (g := 20) (ctx_cons (g := 22) (ctx_cons (g := 23) (ctx_cons (g := 17) ctx_nil (by kernel_rfl) sum17_ok) (by kernel_rfl) sum23_ok) (by kernel_rfl) sum22_ok) (by kernel_rfl) sum20_ok) (by kernel_rfl) sum21_ok) (by kernel_rfl) sum19_ok)

end Go.Proofs.Ytlfojobligplkaa.Fn
