import Derived.Test.YtlfojobligplkaaDoorPuC5
/- Messages that go by turns: the state of a round. Plain laws. -/
namespace Go.Proofs.YtlfojobligplkaaDoor.Fn
open Go Go.RowKit Go.Proofs Go.Proofs.YtlfojobligplkaaDoor.Mt
set_option linter.unusedVariables false
set_option linter.unusedSimpArgs false

/-- One and a rest. -/
theorem oneRem (a : Int) (m : Int) (h : 1 ≤ m) (h' : m ≤ 1000) : 1 ≤ IntKind.i64.wrap (1 + IntKind.i64.wrap ((IntKind.u64.wrap a).tmod m)) ∧ IntKind.i64.wrap (1 + IntKind.i64.wrap ((IntKind.u64.wrap a).tmod m)) ≤ m := by
  have h0 : 0 ≤ IntKind.u64.wrap a := by
    have e : IntKind.u64.wrap a = a % 18446744073709551616 := by simp [IntKind.wrap, IntKind.bits, IntKind.signed]
    omega
  have e : (IntKind.u64.wrap a).tmod m = (IntKind.u64.wrap a) % m := Int.tmod_eq_emod_of_nonneg h0
  have h1 := Int.emod_nonneg (IntKind.u64.wrap a) (show m ≠ 0 by omega)
  have h2 := Int.emod_lt_of_pos (IntKind.u64.wrap a) (show 0 < m by omega)
  rw [e, i64_id (n := IntKind.u64.wrap a % m) (by omega) (by omega), i64_id (by omega) (by omega)]
  omega

theorem pairAt_set {l : List Int} {j k : Nat} {p : Int × Int} (h : j * 2 + 1 < l.length) : pairAt (setP l j p) k = if j = k then p else pairAt l k := by
  unfold pairAt setP
  by_cases e : j = k
  · subst e
    rw [if_pos rfl]
    simp [List.getD_eq_getElem?_getD, List.getElem?_set, show j * 2 < l.length by omega, h]
  · rw [if_neg e]
    simp [List.getD_eq_getElem?_getD, List.getElem?_set, show j * 2 ≠ k * 2 by omega, show j * 2 + 1 ≠ k * 2 by omega, show j * 2 ≠ k * 2 + 1 by omega, show j * 2 + 1 ≠ k * 2 + 1 by omega, show ¬ j = k from e]

theorem sendP_pair {s lo hi : Int} {n : Nat} {l : List Int} {t i0 i1 : Int} {k : Nat} (hl : l.length = n * 2) (hk : k < n) :
    pairAt (sendP s lo hi n l t i0 i1).2.2 k = if (¬ (i0 > i1 ∨ t < 0 ∨ t ≥ (n : Int))) ∧ t = (k : Int) then jI (pairAt l k).1 (pairAt l k).2 i0 i1 else pairAt l k := by
  unfold sendP
  split
  · rename_i q; rw [if_neg (fun h => h.1 q)]
  · rename_i q
    dsimp only
    rw [pairAt_set (by omega)]
    by_cases e : t = (k : Int)
    · rw [if_pos (by omega), if_pos ⟨q, e⟩, show t.toNat = k by omega]
    · rw [if_neg (by omega), if_neg (fun h => e h.2)]

theorem noneL_pair {n k : Nat} (h : k < n) : pairAt (noneL n) k = (1, 0) := by
  induction n with
  | zero => omega
  | succ n ih =>
    rw [noneL_succ]
    have hl := noneL_len n
    by_cases e : k = n
    · subst e
      unfold pairAt
      rw [← hl]
      simp [List.getD_eq_getElem?_getD, List.getElem?_append_right]
    · rw [← ih (by omega)]
      unfold pairAt
      simp [List.getD_eq_getElem?_getD, List.getElem?_append_left, hl, show k * 2 < n * 2 by omega, show k * 2 + 1 < n * 2 by omega]

theorem jI_has {a b v x : Int} (h : a ≤ v) (h' : v ≤ b) : (jI a b x x).1 ≤ v ∧ v ≤ (jI a b x x).2 := by
  unfold jI
  rw [if_neg (by omega), if_neg (by omega)]
  constructor <;> dsimp only <;> omega
theorem jI_new (a b x : Int) : (jI a b x x).1 ≤ x ∧ x ≤ (jI a b x x).2 := by
  unfold jI nI
  by_cases h : a > b
  · rw [if_pos h, if_neg (by omega)]; constructor <;> dsimp only <;> omega
  · rw [if_neg h, if_neg (by omega)]; constructor <;> dsimp only <;> omega
theorem hasP_i {hi : Int} {vals q : List Int} {m : Nat} (h : (m : Int) ≤ hi) (hok : ∀ j, j < m → msgOk 2 vals (pairAt q j).1 (pairAt q j).2 = true) : hasP 0 hi 2 vals m q = true := by
  unfold hasP
  simp only [Bool.and_eq_true, List.all_eq_true, List.mem_range, decide_eq_true_eq]
  exact ⟨⟨by omega, h⟩, hok⟩
theorem pairAt_app {l : List Int} {n j : Nat} {t v : Int} (hl : l.length = n * 2) (hj : j < n + 1) : pairAt (l ++ [t, v]) j = if j = n then (t, v) else pairAt l j := by
  unfold pairAt
  by_cases e : j = n
  · subst e
    rw [if_pos rfl, ← hl]
    simp [List.getD_eq_getElem?_getD, List.getElem?_append_right]
  · rw [if_neg e]
    simp [List.getD_eq_getElem?_getD, List.getElem?_append_left, hl, show j * 2 < n * 2 by omega, show j * 2 + 1 < n * 2 by omega]
theorem pairAt_drop {l : List Int} {j : Nat} : pairAt (l.drop 2) j = pairAt l (j + 1) := by
  unfold pairAt
  rw [show (j + 1) * 2 + 1 = 2 + (j * 2 + 1) by omega, show (j + 1) * 2 = 2 + j * 2 by omega]
  simp [List.getD_eq_getElem?_getD, List.getElem?_drop]
theorem ok_app {vals V l : List Int} {n : Nat} {t v : Int} (hl : l.length = n * 2) (hok : ∀ j, j < n → msgOk 2 vals (pairAt l j).1 (pairAt l j).2 = true) (h : ∀ t' v', msgOk 2 vals t' v' = true → msgOk 2 V t' v' = true) (hnew : msgOk 2 V t v = true) :
    ∀ j, j < n + 1 → msgOk 2 V (pairAt (l ++ [t, v]) j).1 (pairAt (l ++ [t, v]) j).2 = true := fun j hj => by
  rw [pairAt_app hl hj]
  split
  · exact hnew
  · exact h _ _ (hok j (by omega))
def In (a : Int) : Prop := -2147483648 ≤ a ∧ a ≤ 2147483647
theorem ofI_id {x : Int} (h : In x) : ofI x x = (x, x) := by
  unfold In at h
  unfold ofI nI
  rw [if_neg (by omega), show max x (-2147483648) = x by omega, show min x 2147483647 = x by omega]
theorem msgOk2 {vals : List Int} {t v : Int} : msgOk 2 vals t v = true ↔ (0 ≤ t ∧ t < 2) ∧ (pairAt vals t.toNat).1 ≤ v ∧ v ≤ (pairAt vals t.toNat).2 := by
  simp [msgOk]
/-- One message is sent. -/
theorem ch_step {M : Int} (hN : 1 ≤ M) (hN' : M ≤ 16) {n : Nat} {vals : List Int} (hv : vals.length = 4) (hn : (n : Int) ≤ M) {t v : Int} (ht : 0 ≤ t) (ht' : t < 2) :
    ∃ V, sendP M 0 n 2 vals t v v = (0, min ((n : Int) + 1) M, V) ∧ V.length = 4 ∧ (∀ t' v', msgOk 2 vals t' v' = true → msgOk 2 V t' v' = true) ∧ msgOk 2 V t v = true ∧ ∀ k : Nat, k < 2 → (k : Int) ≠ t → pairAt V k = pairAt vals k := by
  have hp : ∀ k, k < 2 → pairAt (setP vals t.toNat (jI (pairAt vals t.toNat).1 (pairAt vals t.toNat).2 v v)) k = if t.toNat = k then jI (pairAt vals t.toNat).1 (pairAt vals t.toNat).2 v v else pairAt vals k := fun k hk => pairAt_set (by omega)
  refine ⟨setP vals t.toNat (jI (pairAt vals t.toNat).1 (pairAt vals t.toNat).2 v v), ?_, by rw [setP_len, hv], fun t' v' h => ?_, ?_, fun k hk hne => ?_⟩
  · unfold sendP
    rw [if_neg (by omega), i64_id (by omega) (by omega)]
  · rw [msgOk2] at h ⊢
    obtain ⟨h1, h2, h3⟩ := h
    refine ⟨h1, ?_⟩
    rw [hp t'.toNat (by omega)]
    split
    · rename_i e
      rw [e]; exact jI_has h2 h3
    · exact ⟨h2, h3⟩
  · rw [msgOk2]
    refine ⟨⟨ht, ht'⟩, ?_⟩
    rw [hp t.toNat (by omega), if_pos rfl]
    exact jI_new _ _ _
  · rw [hp k hk, if_neg (by omega)]
/-- Which tags may be there. -/
theorem tags1 {vals : List Int} (h0 : (pairAt vals 0).1 ≤ (pairAt vals 0).2) (h1 : pairAt vals 1 = (1, 0)) : tagsL 2 vals = [0] := by
  unfold tagsL
  have e0 : decide ((pairAt vals 0).1 > (pairAt vals 0).2) = false := decide_eq_false (by omega)
  have e1 : decide ((pairAt vals 1).1 > (pairAt vals 1).2) = true := by rw [h1]; rfl
  simp [List.range_succ, e0, e1, h0, h1]
theorem tags2 {vals : List Int} (h0 : (pairAt vals 0).1 ≤ (pairAt vals 0).2) (h1 : (pairAt vals 1).1 ≤ (pairAt vals 1).2) : tagsL 2 vals = [0, 1] := by
  unfold tagsL
  have e0 : decide ((pairAt vals 0).1 > (pairAt vals 0).2) = false := decide_eq_false (by omega)
  have e1 : decide ((pairAt vals 1).1 > (pairAt vals 1).2) = false := decide_eq_false (by omega)
  simp [List.range_succ, e0, e1, h0, h1]

/-- What is known of a round's state. -/
structure ChI (M : Int) (m : Nat) (s st i : Int) (n : Nat) (l vals : List Int) : Prop where
  ll : l.length = n * 2
  lv : vals.length = 4
  i1 : 1 ≤ i
  im : i ≤ (m : Int)
  i40 : i ≤ 40
  n1 : 1 ≤ n
  nM : (n : Int) ≤ M
  ok : ∀ j, j < n → msgOk 2 vals (pairAt l j).1 (pairAt l j).2 = true
  par : (i % 2 = 0 ∧ st = 0 ∧ s = 1) ∨ (i % 2 = 1 ∧ st = 1 ∧ s = 2)
  v0 : (pairAt vals 0).1 ≤ (pairAt vals 0).2
  v1 : (i = 1 ∧ pairAt vals 1 = (1, 0)) ∨ (2 ≤ i ∧ (pairAt vals 1).1 ≤ (pairAt vals 1).2)
/-- A round. -/
theorem ch_next {M : Int} {m : Nat} {s st i : Int} {n : Nat} {l vals : List Int} (hN : 1 ≤ M) (hN' : M ≤ 16) (I : ChI M m s st i n l vals) (hi : i < (m : Int)) (h40 : i < 40) (v : Int) {t : Int} (ht : i % 2 = t) :
    ∃ V, sendP M 0 n 2 vals t v v = (0, min ((n : Int) + 1) M, V) ∧ V.length = 4 ∧ (∀ j, j < n + 1 → msgOk 2 V (pairAt (l ++ [t, v]) j).1 (pairAt (l ++ [t, v]) j).2 = true) ∧
      ((n : Int) + 1 ≤ M → ChI M m (if t = 0 then 2 else 1) (1 - t) (i + 1) (n + 1) (l ++ [t, v]) V) ∧
      (¬ (n : Int) + 1 ≤ M → ChI M m (if t = 0 then 2 else 1) (1 - t) (i + 1) n ((l ++ [t, v]).drop 2) V) := by
  have t0 : 0 ≤ t ∧ t < 2 := by omega
  obtain ⟨V, hf, lV, mono, new, oth⟩ := ch_step hN hN' I.lv I.nM (v := v) t0.1 t0.2
  have oka := ok_app I.ll I.ok mono new
  have la : (l ++ [t, v]).length = (n + 1) * 2 := by simp [I.ll]; omega
  have new' := (msgOk2.1 new).2
  have v0 : (pairAt V 0).1 ≤ (pairAt V 0).2 := by
    rcases (show t = 0 ∨ t = 1 by omega) with rfl | rfl
    · exact Int.le_trans new'.1 new'.2
    · rw [oth 0 (by omega) (by omega)]; exact I.v0
  have v1 : (pairAt V 1).1 ≤ (pairAt V 1).2 := by
    rcases (show t = 0 ∨ t = 1 by omega) with rfl | rfl
    · rw [oth 1 (by omega) (by omega)]
      rcases I.v1 with ⟨e, _⟩ | ⟨_, e⟩
      · omega
      · exact e
    · exact Int.le_trans new'.1 new'.2
  have par : ((i + 1) % 2 = 0 ∧ 1 - t = 0 ∧ (if t = 0 then (2 : Int) else 1) = 1) ∨ ((i + 1) % 2 = 1 ∧ 1 - t = 1 ∧ (if t = 0 then (2 : Int) else 1) = 2) := by
    rcases (show t = 0 ∨ t = 1 by omega) with rfl | rfl
    · exact .inr ⟨by omega, rfl, rfl⟩
    · exact .inl ⟨by omega, rfl, rfl⟩
  have i1 := I.i1
  refine ⟨V, hf, lV, oka, fun h => ⟨la, lV, by omega, by omega, by omega, by omega, by omega, oka, par, v0, .inr ⟨by omega, v1⟩⟩, fun h => ⟨by rw [List.length_drop, la]; omega, lV, by omega, by omega, by omega, I.n1, I.nM, fun j hj => ?_, par, v0, .inr ⟨by omega, v1⟩⟩⟩
  rw [pairAt_drop]; exact oka (j + 1) (by omega)
end Go.Proofs.YtlfojobligplkaaDoor.Fn
