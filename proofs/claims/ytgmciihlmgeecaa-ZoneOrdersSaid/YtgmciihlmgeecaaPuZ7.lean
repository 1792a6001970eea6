import Derived.Test.YtgmciihlmgeecaaPuZ6
/- Functions of zones, on: which are right, widening. Conditions: those that each lemma names. -/
namespace Go.Proofs.Ytgmciihlmgeecaa.Fn
open Go Go.RowKit Go.Proofs.Ytgmciihlmgeecaa.Mt Go.Proofs.Ytgmciihlmgeecaa.Zm
set_option linter.unusedVariables false
set_option linter.unusedSimpArgs false

theorem okL_ic {n : Nat} {l : List Int} (h : l.length = n) : okL (List.replicate n (some .i64)) (ic .i64 l) = true := by
  induction n generalizing l with
  | zero => cases l with
    | nil => rfl
    | cons a l => simp at h
  | succ n ih => cases l with
    | nil => simp at h
    | cons a l =>
      rw [List.replicate_succ]
      show (okK (some .i64) (.v (.int .i64 a)) && okL _ (ic .i64 l)) = true
      rw [ih (by simpa using h)]; rfl
theorem eqW_ic {n : Nat} {l m : List Int} (h : l.length = n) (h' : m.length = n) : eqW (List.replicate n (some .i64)) (ic .i64 l) (ic .i64 m) = decide (l = m) := by
  induction n generalizing l m with
  | zero =>
    obtain rfl := List.eq_nil_of_length_eq_zero h
    obtain rfl := List.eq_nil_of_length_eq_zero h'
    rfl
  | succ n ih => cases l with
    | nil => simp at h
    | cons a l => cases m with
      | nil => simp at h'
      | cons b m =>
        rw [List.replicate_succ]
        show ((a == b) && eqW _ (ic .i64 l) (ic .i64 m)) = _
        rw [ih (by simpa using h) (by simpa using h')]
        by_cases e : a = b <;> by_cases e2 : l = m <;> simp [e, e2]

/-- What is wrong at a place. -/
def cellBad (b : Bool) (n i j c : Int) : Bool := ((b || decide (n < i) || decide (n < j)) && !decide (c = 0)) || decide (c > 1099511627776) || decide (c < -1099511627776)
theorem tree48 {b : Bool} {n i j c : Int} {F N : Prop} (hF : cellBad b n i j c = true → F) (hN : cellBad b n i j c = false → N) :
    (bif b then (bif c != 0 then F else (bif decide (c > 1099511627776) then F else (bif decide (c < -1099511627776) then F else N)))
      else (bif decide (i > n) then (bif c != 0 then F else (bif decide (c > 1099511627776) then F else (bif decide (c < -1099511627776) then F else N)))
      else (bif decide (j > n) then (bif c != 0 then F else (bif decide (c > 1099511627776) then F else (bif decide (c < -1099511627776) then F else N)))
      else (bif decide (c > 1099511627776) then F else (bif decide (c < -1099511627776) then F else N))))) := by
  unfold cellBad at hF hN
  by_cases h1 : c = 0 <;> by_cases h2 : c > 1099511627776 <;> by_cases h3 : c < -1099511627776 <;> by_cases h4 : n < i <;> by_cases h5 : n < j <;> cases b <;> simp_all

theorem right_iff {n : Int} {b : Bool} {D : List Int} (hn : okN n = true) : rightZ (n, b, D) = true ↔ (∀ i j : Nat, i < 7 → j < 7 → cellBad b n i j (g D i j) = false) ∧ closeZ (n, b, D) = (n, b, D) := by
  unfold rightZ
  simp only [hn, Bool.true_and, Bool.and_eq_true, all7, decide_eq_true_eq]
  constructor
  · rintro ⟨h1, h2⟩
    refine ⟨fun i j hi hj => ?_, h2⟩
    have : (!cellBad b n i j (g D i j)) = true := h1 i j hi hj
    simpa using this
  · rintro ⟨h1, h2⟩
    refine ⟨fun i j hi hj => ?_, h2⟩
    have := h1 i j hi hj
    unfold cellBad at this
    rw [this]; rfl

theorem f48_spec (n : Int) (b : Bool) (D : List Int) (hl : D.length = 49) : f48_wp n b (ic .i64 D) (fun r' => r' = boRet (rightZ (n, b, D))) := by
  unfold f48_wp
  (try delta X48_1)
  (try delta X48_0)
  simp only [take_ic hl, map_ic, row7]
  refine cond_i (fun q => ?_) (fun q => ?_)
  · have q : okN n = false := by simpa using q
    unfold rightZ; rw [q]; rfl
  · have hn : okN n = true := by simpa using q
    have hf := right_iff (b := b) (D := D) hn
    have no : ∀ {i j : Nat}, i < 7 → j < 7 → cellBad b n i j (g D i j) = true → boRet false = boRet (rightZ (n, b, D)) := fun hi hj h => by
      cases e : rightZ (n, b, D) with
      | false => rfl
      | true => rw [(hf.1 e).1 _ _ hi hj] at h; cases h
    (repeat ((first | with_reducible apply ck_i | with_reducible apply And.intro); · (first | (simp only [closeZ_len, closeR_len, min_if, max_if, mkD_len, topZ_len, topR_len, boundR_len, ics]; done) | with_reducible rfl | ((try simp only [closeZ_len, closeR_len, min_if, max_if, mkD_len, topZ_len, topR_len, boundR_len, ics]); simp [closeZ_len, closeR_len, min_if, max_if, mkD_len, topZ_len, topR_len, boundR_len, ics, *]; done) | ((try simp only [closeZ_len, closeR_len, min_if, max_if, mkD_len, topZ_len, topR_len, boundR_len, ics]); simp [closeZ_len, closeR_len, min_if, max_if, mkD_len, topZ_len, topR_len, boundR_len, ics, *]; omega))))
    refine LoopP.ind (I := fun z => 0 ≤ z ∧ z ≤ 7 ∧ ∀ i j : Nat, (i : Int) < z → j < 7 → cellBad b n i j (g D i j) = false) (μ := fun z => (7 - z).toNat) ?_ ⟨by omega, by omega, fun i j hi _ => absurd hi (by omega)⟩
    rintro i k0 ⟨i1, i2, i3⟩ hk
    have ei : ((i.toNat : Nat) : Int) = i := by omega
    refine cond_i (fun q1 => ?_) (fun q1 => ?_)
    · have q1 := of_decide_eq_true q1
      (repeat ((first | with_reducible apply ck_i | with_reducible apply And.intro); · (first | (simp only [closeZ_len, closeR_len, min_if, max_if, mkD_len, topZ_len, topR_len, boundR_len, ics]; done) | with_reducible rfl | ((try simp only [closeZ_len, closeR_len, min_if, max_if, mkD_len, topZ_len, topR_len, boundR_len, ics]); simp [closeZ_len, closeR_len, min_if, max_if, mkD_len, topZ_len, topR_len, boundR_len, ics, *]; done) | ((try simp only [closeZ_len, closeR_len, min_if, max_if, mkD_len, topZ_len, topR_len, boundR_len, ics]); simp [closeZ_len, closeR_len, min_if, max_if, mkD_len, topZ_len, topR_len, boundR_len, ics, *]; omega))))
      refine LoopP.ind (I := fun z => 0 ≤ z ∧ z ≤ 7 ∧ ∀ j : Nat, (j : Int) < z → cellBad b n i j (g D i.toNat j) = false) (μ := fun z => (7 - z).toNat) ?_ ⟨by omega, by omega, fun i hi => absurd hi (by omega)⟩
      rintro j k1 ⟨j1, j2, j3⟩ hk1
      have ej : ((j.toNat : Nat) : Int) = j := by omega
      refine cond_i (fun q4 => ?_) (fun q4 => ?_)
      · have q4 := of_decide_eq_true q4
        simp only [closeZ_len, closeR_len, min_if, max_if, mkD_len, topZ_len, topR_len, boundR_len, ics, g_row (D := D) (i := i.toNat) (j := j.toNat) (by omega), wr1 (show -1000 ≤ j by omega) (show j ≤ 1000 by omega)]
        have lr := rowOf_len (D := D) (i := i.toNat)
        (repeat ((first | with_reducible apply ck_i | with_reducible apply And.intro); · (first | (simp only [closeZ_len, closeR_len, min_if, max_if, mkD_len, topZ_len, topR_len, boundR_len, ics]; done) | with_reducible rfl | ((try simp only [closeZ_len, closeR_len, min_if, max_if, mkD_len, topZ_len, topR_len, boundR_len, ics]); simp [closeZ_len, closeR_len, min_if, max_if, mkD_len, topZ_len, topR_len, boundR_len, ics, *]; done) | ((try simp only [closeZ_len, closeR_len, min_if, max_if, mkD_len, topZ_len, topR_len, boundR_len, ics]); simp [closeZ_len, closeR_len, min_if, max_if, mkD_len, topZ_len, topR_len, boundR_len, ics, *]; omega))))
        refine tree48 (fun h => ?_) (fun h => ?_)
        · exact no (i := i.toNat) (j := j.toNat) (by omega) (by omega) (by rw [ei, ej]; exact h)
        · refine And.intro (by (first | (simp only [closeZ_len, closeR_len, min_if, max_if, mkD_len, topZ_len, topR_len, boundR_len, ics]; done) | with_reducible rfl | ((try simp only [closeZ_len, closeR_len, min_if, max_if, mkD_len, topZ_len, topR_len, boundR_len, ics]); simp [closeZ_len, closeR_len, min_if, max_if, mkD_len, topZ_len, topR_len, boundR_len, ics, *]; done) | ((try simp only [closeZ_len, closeR_len, min_if, max_if, mkD_len, topZ_len, topR_len, boundR_len, ics]); simp [closeZ_len, closeR_len, min_if, max_if, mkD_len, topZ_len, topR_len, boundR_len, ics, *]; omega))) (hk1 _ ⟨by omega, by omega, fun t ht => ?_⟩ (by omega))
          by_cases e : (t : Int) < j
          · exact j3 t e
          · obtain rfl : t = j.toNat := by omega
            rw [ej]; exact h
      · have q4 := of_decide_eq_false q4
        rw [wr1 (by omega) (by omega)]
        refine And.intro (by (first | (simp only [closeZ_len, closeR_len, min_if, max_if, mkD_len, topZ_len, topR_len, boundR_len, ics]; done) | with_reducible rfl | ((try simp only [closeZ_len, closeR_len, min_if, max_if, mkD_len, topZ_len, topR_len, boundR_len, ics]); simp [closeZ_len, closeR_len, min_if, max_if, mkD_len, topZ_len, topR_len, boundR_len, ics, *]; done) | ((try simp only [closeZ_len, closeR_len, min_if, max_if, mkD_len, topZ_len, topR_len, boundR_len, ics]); simp [closeZ_len, closeR_len, min_if, max_if, mkD_len, topZ_len, topR_len, boundR_len, ics, *]; omega))) (hk _ ⟨by omega, by omega, fun t s ht hs => ?_⟩ (by omega))
        by_cases e : (t : Int) < i
        · exact i3 t s e hs
        · obtain rfl : t = i.toNat := by omega
          rw [ei]
          exact j3 s (by omega)
    · have q1 := of_decide_eq_false q1
      have lC := closeZ_len (n := n) (b := b) hl
      have k1 := okL_ic lC
      have k2 := okL_ic hl
      have k3 := eqW_ic lC hl
      (repeat ((first | with_reducible apply ck_i | with_reducible apply And.intro); · (first | (simp only [closeZ_len, closeR_len, min_if, max_if, mkD_len, topZ_len, topR_len, boundR_len, ics]; done) | with_reducible rfl | ((try simp only [closeZ_len, closeR_len, min_if, max_if, mkD_len, topZ_len, topR_len, boundR_len, ics]); simp [closeZ_len, closeR_len, min_if, max_if, mkD_len, topZ_len, topR_len, boundR_len, ics, *]; done) | ((try simp only [closeZ_len, closeR_len, min_if, max_if, mkD_len, topZ_len, topR_len, boundR_len, ics]); simp [closeZ_len, closeR_len, min_if, max_if, mkD_len, topZ_len, topR_len, boundR_len, ics, *]; omega))))
      have e : ((closeZ (n, b, D)).1 == n && ((closeZ (n, b, D)).2.1 == b && eqW (List.replicate 49 (some .i64)) (ic .i64 (closeZ (n, b, D)).2.2) (ic .i64 D))) = rightZ (n, b, D) := by
        rw [k3, Bool.eq_iff_iff, hf]
        simp only [Bool.and_eq_true, beq_iff_eq, decide_eq_true_eq]
        constructor
        · rintro ⟨h1, h2, h3⟩
          refine ⟨fun t s ht hs => i3 t s (by omega) hs, ?_⟩
          exact Prod.ext h1 (Prod.ext h2 h3)
        · rintro ⟨_, h⟩
          exact ⟨congrArg Prod.fst h, congrArg (fun z : Zo => z.2.1) h, congrArg (fun z : Zo => z.2.2) h⟩
      exact congrArg boRet e
theorem cx48_ok : CtxOk Try.prog cx48.q.ctx := (ctx_cons (g := 91) (ctx_cons (g := 83) ctx_nil (by kernel_rfl) sum83_ok) (by kernel_rfl) sum91_ok)
theorem sum48_ok : ∀ vs r, sum48 vs = some (true, r) → SoundAt Try.prog 48 vs r := by
  intro vs r h
  unfold sum48 at h
  split at h
  · simp only [Option.some.injEq, Prod.mk.injEq, Bool.and_eq_true] at h
    obtain ⟨h0, rfl⟩ := h
    obtain ⟨n0, b0, D0, hl0, hc0, rfl⟩ := zone_elim h0
    (try simp only [zO_ic])
    exact f48_sound _ _ _ cx48_ok (f48_spec n0 b0 D0 hl0)
  · cases h

/-! ### Widening -/
def widF (a b : List Int) (n : Nat) (T : List Int) (i j : Nat) : Int :=
  if 1 ≤ i ∧ i ≤ n ∧ j = 0 then keptP (g a i 0) (g b i 0) else if i = 0 ∧ 1 ≤ j ∧ j ≤ n then keptP (g a 0 j) (g b 0 j) else if 1 ≤ i ∧ i ≤ n ∧ 1 ≤ j ∧ j ≤ n ∧ i ≠ j then 1099511627776 else g T i j
def widG (n i j a b : Nat) : Bool := decide ((1 ≤ a ∧ a < i ∧ b ≤ n) ∨ (a = 0 ∧ 1 ≤ b ∧ b < i) ∨ (a = i ∧ 1 ≤ j ∧ b < j) ∨ (a = 0 ∧ b = i ∧ 1 ≤ j))
def widS (A B : List Int) (n : Nat) (T : List Int) (i j : Nat) : List Int := mkD fun a b => if widG n i j a b then widF A B n T a b else g T a b
theorem widS_len {A B T : List Int} {n i j : Nat} : (widS A B n T i j).length = 49 := mkD_len _
theorem widS_0 {A B T : List Int} {n : Nat} (hl : T.length = 49) : T = widS A B n T 1 0 := mk_eq hl fun a b _ _ => by
  rw [if_neg]
  unfold widG; simp; omega
theorem widS_two {A B T : List Int} {n i : Nat} (h1 : 1 ≤ i) (hi : i ≤ n) (hn : n ≤ 6) : st (st (widS A B n T i 0) i 0 (keptP (g A i 0) (g B i 0))) 0 i (keptP (g A 0 i) (g B 0 i)) = widS A B n T i 1 := by
  unfold widS
  rw [st_mk _ (by omega) (by omega), st_mk _ (by omega) (by omega)]
  refine mk_ext fun a b ha hb => ?_
  unfold widG
  by_cases e1 : a = 0 ∧ b = i
  · obtain ⟨rfl, rfl⟩ := e1
    rw [if_pos ⟨rfl, rfl⟩, if_pos (by simp <;> omega)]
    unfold widF
    rw [if_neg (by omega), if_pos (by omega)]
  · rw [if_neg e1]
    by_cases e2 : a = i ∧ b = 0
    · obtain ⟨rfl, rfl⟩ := e2
      rw [if_pos ⟨rfl, rfl⟩, if_pos (by simp <;> omega)]
      unfold widF
      rw [if_pos (by omega)]
    · rw [if_neg e2]
      have : (decide ((1 ≤ a ∧ a < i ∧ b ≤ n) ∨ (a = 0 ∧ 1 ≤ b ∧ b < i) ∨ (a = i ∧ 1 ≤ 0 ∧ b < 0) ∨ (a = 0 ∧ b = i ∧ 1 ≤ 0))) = decide ((1 ≤ a ∧ a < i ∧ b ≤ n) ∨ (a = 0 ∧ 1 ≤ b ∧ b < i) ∨ (a = i ∧ 1 ≤ 1 ∧ b < 1) ∨ (a = 0 ∧ b = i ∧ 1 ≤ 1)) := by
        rw [decide_eq_decide]; omega
      rw [this]
theorem widS_far {A B T : List Int} {n i j : Nat} (h1 : 1 ≤ i) (hi : i ≤ n) (hn : n ≤ 6) (j1 : 1 ≤ j) (hj : j ≤ n) (hij : i ≠ j) : st (widS A B n T i j) i j 1099511627776 = widS A B n T i (j + 1) := by
  unfold widS
  rw [st_mk _ (by omega) (by omega)]
  refine mk_ext fun a b ha hb => ?_
  unfold widG
  by_cases e1 : a = i ∧ b = j
  · obtain ⟨rfl, rfl⟩ := e1
    rw [if_pos ⟨rfl, rfl⟩, if_pos (by simp <;> omega)]
    unfold widF
    rw [if_neg (by omega), if_neg (by omega), if_pos (by omega)]
  · rw [if_neg e1]
    have : (decide ((1 ≤ a ∧ a < i ∧ b ≤ n) ∨ (a = 0 ∧ 1 ≤ b ∧ b < i) ∨ (a = i ∧ 1 ≤ j ∧ b < j) ∨ (a = 0 ∧ b = i ∧ 1 ≤ j))) = decide ((1 ≤ a ∧ a < i ∧ b ≤ n) ∨ (a = 0 ∧ 1 ≤ b ∧ b < i) ∨ (a = i ∧ 1 ≤ j + 1 ∧ b < j + 1) ∨ (a = 0 ∧ b = i ∧ 1 ≤ j + 1)) := by
      rw [decide_eq_decide]; omega
    rw [this]
theorem widS_same {A B T : List Int} {n i : Nat} (h1 : 1 ≤ i) (hi : i ≤ n) : widS A B n T i i = widS A B n T i (i + 1) := mk_ext fun a b ha hb => by
  unfold widG
  by_cases e1 : a = i ∧ b = i
  · obtain ⟨rfl, rfl⟩ := e1
    rw [if_neg (by simp <;> omega), if_pos (by simp <;> omega)]
    unfold widF
    rw [if_neg (by omega), if_neg (by omega), if_neg (by omega)]
  · have : (decide ((1 ≤ a ∧ a < i ∧ b ≤ n) ∨ (a = 0 ∧ 1 ≤ b ∧ b < i) ∨ (a = i ∧ 1 ≤ i ∧ b < i) ∨ (a = 0 ∧ b = i ∧ 1 ≤ i))) = decide ((1 ≤ a ∧ a < i ∧ b ≤ n) ∨ (a = 0 ∧ 1 ≤ b ∧ b < i) ∨ (a = i ∧ 1 ≤ i + 1 ∧ b < i + 1) ∨ (a = 0 ∧ b = i ∧ 1 ≤ i + 1)) := by
      rw [decide_eq_decide]; omega
    rw [this]
theorem widS_row {A B T : List Int} {n i : Nat} (h1 : 1 ≤ i) (hi : i ≤ n) : widS A B n T i (n + 1) = widS A B n T (i + 1) 0 := mk_ext fun a b ha hb => by
  unfold widG
  have : (decide ((1 ≤ a ∧ a < i ∧ b ≤ n) ∨ (a = 0 ∧ 1 ≤ b ∧ b < i) ∨ (a = i ∧ 1 ≤ n + 1 ∧ b < n + 1) ∨ (a = 0 ∧ b = i ∧ 1 ≤ n + 1))) = decide ((1 ≤ a ∧ a < i + 1 ∧ b ≤ n) ∨ (a = 0 ∧ 1 ≤ b ∧ b < i + 1) ∨ (a = i + 1 ∧ 1 ≤ 0 ∧ b < 0) ∨ (a = 0 ∧ b = i + 1 ∧ 1 ≤ 0)) := by
    rw [decide_eq_decide]; omega
  rw [this]
theorem widS_end {A B T : List Int} {n : Nat} : widS A B n T (n + 1) 0 = widD A B n T := mk_ext fun a b ha hb => by
  show (if widG n (n + 1) 0 a b then widF A B n T a b else g T a b) = widF A B n T a b
  by_cases e : widG n (n + 1) 0 a b = true
  · rw [if_pos e]
  · rw [if_neg e]
    unfold widG at e
    simp at e
    unfold widF
    rw [if_neg (by omega), if_neg (by omega), if_neg (by omega)]

theorem f62_spec (n : Int) (b : Bool) (D : List Int) (hl : D.length = 49) (n2 : Int) (b2 : Bool) (D2 : List Int) (hl2 : D2.length = 49) : f62_wp n b (ic .i64 D) n2 b2 (ic .i64 D2) (fun r' => r' = zRe (widenZ (n, b, D) (n2, b2, D2))) := by
  unfold f62_wp
  (try delta X62_1)
  (try delta X62_0)
  simp only [map_ic]
  (repeat ((first | with_reducible apply ck_i | with_reducible apply And.intro); · (first | (simp only [closeZ_len, closeR_len, min_if, max_if, mkD_len, topZ_len, topR_len, boundR_len, ics]; done) | with_reducible rfl | ((try simp only [closeZ_len, closeR_len, min_if, max_if, mkD_len, topZ_len, topR_len, boundR_len, ics]); simp [closeZ_len, closeR_len, min_if, max_if, mkD_len, topZ_len, topR_len, boundR_len, ics, *]; done) | ((try simp only [closeZ_len, closeR_len, min_if, max_if, mkD_len, topZ_len, topR_len, boundR_len, ics]); simp [closeZ_len, closeR_len, min_if, max_if, mkD_len, topZ_len, topR_len, boundR_len, ics, *]; omega))))
  refine cond_i (fun q => ?_) (fun q => ?_)
  · have q : alikeZ (n, b, D) (n2, b2, D2) = false := by simpa using q
    have e : widenZ (n, b, D) (n2, b2, D2) = (n, b, D) := by unfold widenZ; rw [q]; rfl
    rw [e]
    (repeat ((first | with_reducible apply ck_i | with_reducible apply And.intro); · (first | (simp only [closeZ_len, closeR_len, min_if, max_if, mkD_len, topZ_len, topR_len, boundR_len, ics]; done) | with_reducible rfl | ((try simp only [closeZ_len, closeR_len, min_if, max_if, mkD_len, topZ_len, topR_len, boundR_len, ics]); simp [closeZ_len, closeR_len, min_if, max_if, mkD_len, topZ_len, topR_len, boundR_len, ics, *]; done) | ((try simp only [closeZ_len, closeR_len, min_if, max_if, mkD_len, topZ_len, topR_len, boundR_len, ics]); simp [closeZ_len, closeR_len, min_if, max_if, mkD_len, topZ_len, topR_len, boundR_len, ics, *]; omega)))); rfl
  · have q : alikeZ (n, b, D) (n2, b2, D2) = true := by simpa using q
    have rn : 0 ≤ n ∧ n ≤ 6 := by
      unfold alikeZ at q
      rw [Bool.and_eq_true] at q
      exact okN_rng q.2
    (repeat ((first | with_reducible apply ck_i | with_reducible apply And.intro); · (first | (simp only [closeZ_len, closeR_len, min_if, max_if, mkD_len, topZ_len, topR_len, boundR_len, ics]; done) | with_reducible rfl | ((try simp only [closeZ_len, closeR_len, min_if, max_if, mkD_len, topZ_len, topR_len, boundR_len, ics]); simp [closeZ_len, closeR_len, min_if, max_if, mkD_len, topZ_len, topR_len, boundR_len, ics, *]; done) | ((try simp only [closeZ_len, closeR_len, min_if, max_if, mkD_len, topZ_len, topR_len, boundR_len, ics]); simp [closeZ_len, closeR_len, min_if, max_if, mkD_len, topZ_len, topR_len, boundR_len, ics, *]; omega))))
    refine cond_i (fun q1 => ?_) (fun q1 => ?_)
    · have e : widenZ (n, b, D) (n2, b2, D2) = (n, b, D) := by unfold widenZ; rw [q, q1]; rfl
      rw [e]
      (repeat ((first | with_reducible apply ck_i | with_reducible apply And.intro); · (first | (simp only [closeZ_len, closeR_len, min_if, max_if, mkD_len, topZ_len, topR_len, boundR_len, ics]; done) | with_reducible rfl | ((try simp only [closeZ_len, closeR_len, min_if, max_if, mkD_len, topZ_len, topR_len, boundR_len, ics]); simp [closeZ_len, closeR_len, min_if, max_if, mkD_len, topZ_len, topR_len, boundR_len, ics, *]; done) | ((try simp only [closeZ_len, closeR_len, min_if, max_if, mkD_len, topZ_len, topR_len, boundR_len, ics]); simp [closeZ_len, closeR_len, min_if, max_if, mkD_len, topZ_len, topR_len, boundR_len, ics, *]; omega)))); rfl
    · refine cond_i (fun q2 => ?_) (fun q2 => ?_)
      · have e : widenZ (n, b, D) (n2, b2, D2) = (n2, b2, D2) := by unfold widenZ; rw [q, q1, q2]; rfl
        rw [e]
        (repeat ((first | with_reducible apply ck_i | with_reducible apply And.intro); · (first | (simp only [closeZ_len, closeR_len, min_if, max_if, mkD_len, topZ_len, topR_len, boundR_len, ics]; done) | with_reducible rfl | ((try simp only [closeZ_len, closeR_len, min_if, max_if, mkD_len, topZ_len, topR_len, boundR_len, ics]); simp [closeZ_len, closeR_len, min_if, max_if, mkD_len, topZ_len, topR_len, boundR_len, ics, *]; done) | ((try simp only [closeZ_len, closeR_len, min_if, max_if, mkD_len, topZ_len, topR_len, boundR_len, ics]); simp [closeZ_len, closeR_len, min_if, max_if, mkD_len, topZ_len, topR_len, boundR_len, ics, *]; omega)))); rfl
      · have e : widenZ (n, b, D) (n2, b2, D2) = closeZ ((topZ n).1, (topZ n).2.1, widD D D2 n.toNat (topZ n).2.2) := by unfold widenZ; rw [q, q1, q2]; rfl
        rw [e]
        have lT := topZ_len (n := n)
        generalize topZ n = T0 at *
        obtain ⟨tn, tb, T⟩ := T0
        dsimp only at lT ⊢
        (repeat ((first | with_reducible apply ck_i | with_reducible apply And.intro); · (first | (simp only [closeZ_len, closeR_len, min_if, max_if, mkD_len, topZ_len, topR_len, boundR_len, ics]; done) | with_reducible rfl | ((try simp only [closeZ_len, closeR_len, min_if, max_if, mkD_len, topZ_len, topR_len, boundR_len, ics]); simp [closeZ_len, closeR_len, min_if, max_if, mkD_len, topZ_len, topR_len, boundR_len, ics, *]; done) | ((try simp only [closeZ_len, closeR_len, min_if, max_if, mkD_len, topZ_len, topR_len, boundR_len, ics]); simp [closeZ_len, closeR_len, min_if, max_if, mkD_len, topZ_len, topR_len, boundR_len, ics, *]; omega))))
        have e0 := widS_0 (A := D) (B := D2) (n := n.toNat) lT
        refine LoopP.ind (I := fun z => 1 ≤ z.1 ∧ z.1 ≤ n + 1 ∧ z.2 = ic .i64 (widS D D2 n.toNat T z.1.toNat 0)) (μ := fun z => (n + 1 - z.1).toNat) ?_ ⟨by dsimp only; omega, by dsimp only; omega, congrArg _ e0⟩
        clear e0
        rintro ⟨i, cs⟩ k0 ⟨i1, i2, i3⟩ hk
        dsimp only at i1 i2 i3 ⊢
        subst i3
        refine cond_i (fun q1 => ?_) (fun q1 => ?_)
        · have q1 := of_decide_eq_true q1
          have lS := widS_len (A := D) (B := D2) (T := T) (n := n.toNat) (i := i.toNat) (j := 0)
          simp only [closeZ_len, closeR_len, min_if, max_if, mkD_len, topZ_len, topR_len, boundR_len, ics, widS_two (A := D) (B := D2) (T := T) (n := n.toNat) (i := i.toNat) (by omega) (by omega) (by omega)]
          have lS1 := widS_len (A := D) (B := D2) (T := T) (n := n.toNat) (i := i.toNat) (j := 1)
          (repeat ((first | with_reducible apply ck_i | with_reducible apply And.intro); · (first | (simp only [closeZ_len, closeR_len, min_if, max_if, mkD_len, topZ_len, topR_len, boundR_len, ics]; done) | with_reducible rfl | ((try simp only [closeZ_len, closeR_len, min_if, max_if, mkD_len, topZ_len, topR_len, boundR_len, ics]); simp [closeZ_len, closeR_len, min_if, max_if, mkD_len, topZ_len, topR_len, boundR_len, ics, *]; done) | ((try simp only [closeZ_len, closeR_len, min_if, max_if, mkD_len, topZ_len, topR_len, boundR_len, ics]); simp [closeZ_len, closeR_len, min_if, max_if, mkD_len, topZ_len, topR_len, boundR_len, ics, *]; omega))))
          refine LoopP.ind (I := fun z => 1 ≤ z.1 ∧ z.1 ≤ n + 1 ∧ z.2 = ic .i64 (widS D D2 n.toNat T i.toNat z.1.toNat)) (μ := fun z => (n + 1 - z.1).toNat) ?_ ⟨by dsimp only; omega, by dsimp only; omega, rfl⟩
          rintro ⟨j, cs⟩ k1 ⟨j1, j2, j3⟩ hk1
          dsimp only at j1 j2 j3 ⊢
          subst j3
          clear lS lS1
          have lE := widS_len (A := D) (B := D2) (T := T) (n := n.toNat) (i := i.toNat) (j := j.toNat)
          refine cond_i (fun q4 => ?_) (fun q4 => ?_)
          · have q4 := of_decide_eq_true q4
            have hk' := hk1 (j + 1, ic .i64 (widS D D2 n.toNat T i.toNat (j + 1).toNat)) ⟨by dsimp only; omega, by dsimp only; omega, rfl⟩ (by dsimp only; omega)
            rw [show (j + 1).toNat = j.toNat + 1 by omega] at hk'
            rw [wr1 (by omega) (by omega)]
            clear hk hk1
            refine cond_i (fun q5 => ?_) (fun q5 => ?_)
            · have q5 : ¬ i = j := by simpa using q5
              rw [← widS_far (by omega) (by omega) (by omega) (by omega) (by omega) (by omega)] at hk'
              simp only [closeZ_len, closeR_len, min_if, max_if, mkD_len, topZ_len, topR_len, boundR_len, ics]
              (repeat ((first | with_reducible apply ck_i | with_reducible apply And.intro); · (first | (simp only [closeZ_len, closeR_len, min_if, max_if, mkD_len, topZ_len, topR_len, boundR_len, ics]; done) | with_reducible rfl | ((try simp only [closeZ_len, closeR_len, min_if, max_if, mkD_len, topZ_len, topR_len, boundR_len, ics]); simp [closeZ_len, closeR_len, min_if, max_if, mkD_len, topZ_len, topR_len, boundR_len, ics, *]; done) | ((try simp only [closeZ_len, closeR_len, min_if, max_if, mkD_len, topZ_len, topR_len, boundR_len, ics]); simp [closeZ_len, closeR_len, min_if, max_if, mkD_len, topZ_len, topR_len, boundR_len, ics, *]; omega))))
              exact hk'
            · have q5 : i = j := by simpa using q5
              subst q5
              rw [← widS_same (by omega) (by omega)] at hk'
              (repeat ((first | with_reducible apply ck_i | with_reducible apply And.intro); · (first | (simp only [closeZ_len, closeR_len, min_if, max_if, mkD_len, topZ_len, topR_len, boundR_len, ics]; done) | with_reducible rfl | ((try simp only [closeZ_len, closeR_len, min_if, max_if, mkD_len, topZ_len, topR_len, boundR_len, ics]); simp [closeZ_len, closeR_len, min_if, max_if, mkD_len, topZ_len, topR_len, boundR_len, ics, *]; done) | ((try simp only [closeZ_len, closeR_len, min_if, max_if, mkD_len, topZ_len, topR_len, boundR_len, ics]); simp [closeZ_len, closeR_len, min_if, max_if, mkD_len, topZ_len, topR_len, boundR_len, ics, *]; omega))))
              exact hk'
          · have q4 := of_decide_eq_false q4
            rw [wr1 (by omega) (by omega)]
            refine And.intro (by (first | (simp only [closeZ_len, closeR_len, min_if, max_if, mkD_len, topZ_len, topR_len, boundR_len, ics]; done) | with_reducible rfl | ((try simp only [closeZ_len, closeR_len, min_if, max_if, mkD_len, topZ_len, topR_len, boundR_len, ics]); simp [closeZ_len, closeR_len, min_if, max_if, mkD_len, topZ_len, topR_len, boundR_len, ics, *]; done) | ((try simp only [closeZ_len, closeR_len, min_if, max_if, mkD_len, topZ_len, topR_len, boundR_len, ics]); simp [closeZ_len, closeR_len, min_if, max_if, mkD_len, topZ_len, topR_len, boundR_len, ics, *]; omega))) (hk _ ⟨by dsimp only; omega, by dsimp only; omega, ?_⟩ (by dsimp only; omega))
            dsimp only
            rw [show j.toNat = n.toNat + 1 by omega, widS_row (by omega) (by omega), show (i + 1).toNat = i.toNat + 1 by omega]
        · have q1 := of_decide_eq_false q1
          rw [show i.toNat = n.toNat + 1 by omega, widS_end]
          have lD : (widD D D2 n.toNat T).length = 49 := mkD_len _
          clear hk
          generalize widD D D2 n.toNat T = E at *
          simp only [closeZ_len, closeR_len, min_if, max_if, mkD_len, topZ_len, topR_len, boundR_len, ics]
          (repeat ((first | with_reducible apply ck_i | with_reducible apply And.intro); · (first | (simp only [closeZ_len, closeR_len, min_if, max_if, mkD_len, topZ_len, topR_len, boundR_len, ics]; done) | with_reducible rfl | ((try simp only [closeZ_len, closeR_len, min_if, max_if, mkD_len, topZ_len, topR_len, boundR_len, ics]); simp [closeZ_len, closeR_len, min_if, max_if, mkD_len, topZ_len, topR_len, boundR_len, ics, *]; done) | ((try simp only [closeZ_len, closeR_len, min_if, max_if, mkD_len, topZ_len, topR_len, boundR_len, ics]); simp [closeZ_len, closeR_len, min_if, max_if, mkD_len, topZ_len, topR_len, boundR_len, ics, *]; omega)))); rfl
theorem cx62_ok : CtxOk Try.prog cx62.q.ctx := (ctx_cons (g := 96) (ctx_cons (g := 47) (ctx_cons (g := 25) (ctx_cons (g := 102) (ctx_cons (g := 83) ctx_nil (by kernel_rfl) sum83_ok) (by kernel_rfl) sum102_ok) (by kernel_rfl) sum25_ok) (by kernel_rfl) sum47_ok) (by kernel_rfl) sum96_ok)
theorem sum62_ok : ∀ vs r, sum62 vs = some (true, r) → SoundAt Try.prog 62 vs r := by
  intro vs r h
  unfold sum62 at h
  split at h
  · simp only [Option.some.injEq, Prod.mk.injEq, Bool.and_eq_true] at h
    obtain ⟨⟨h0, h1⟩, rfl⟩ := h
    obtain ⟨n0, b0, D0, hl0, hc0, rfl⟩ := zone_elim h0
    obtain ⟨n1, b1, D1, hl1, hc1, rfl⟩ := zone_elim h1
    (try simp only [zO_ic])
    exact f62_sound _ _ _ _ _ _ cx62_ok (f62_spec n0 b0 D0 hl0 n1 b1 D1 hl1)
  · cases h

theorem widR_fst {a b : List Int} {t : Nat} {z : Zo} : (widR a b t z).1 = z.1 := by
  induction t with
  | zero => rfl
  | succ t ih =>
    rw [widR]
    split <;> split <;> simp [boundR_fst, ih]
theorem widR_len {a b : List Int} {t : Nat} {z : Zo} (h : z.2.2.length = 49) : (widR a b t z).2.2.length = 49 := by
  induction t with
  | zero => exact h
  | succ t ih =>
    rw [widR]
    split
    · split
      · exact boundR_len (boundR_len ih)
      · exact boundR_len ih
    · split
      · exact boundR_len ih
      · exact ih

theorem f64_spec (n : Int) (b : Bool) (D : List Int) (hl : D.length = 49) (n2 : Int) (b2 : Bool) (D2 : List Int) (hl2 : D2.length = 49) (hn : okN n = true) (hn2 : okN n2 = true) : f64_wp n b (ic .i64 D) n2 b2 (ic .i64 D2) (fun r' => r' = zRe (widenR (n, b, D) (n2, b2, D2))) := by
  have rn := okN_rng hn
  unfold f64_wp
  (try delta X64_4)
  (try delta X64_2)
  (try delta X64_0)
  (try delta X64_3)
  (try delta X64_1)
  simp only [map_ic]
  refine cond_i (fun q => ?_) (fun q => ?_)
  · have e : widenR (n, b, D) (n2, b2, D2) = (n2, b2, D2) := by unfold widenR; rw [q]; rfl
    rw [e]
    (repeat ((first | with_reducible apply ck_i | with_reducible apply And.intro); · (first | (simp only [closeZ_len, closeR_len, min_if, max_if, mkD_len, topZ_len, topR_len, boundR_len, ics]; done) | with_reducible rfl | ((try simp only [closeZ_len, closeR_len, min_if, max_if, mkD_len, topZ_len, topR_len, boundR_len, ics]); simp [closeZ_len, closeR_len, min_if, max_if, mkD_len, topZ_len, topR_len, boundR_len, ics, *]; done) | ((try simp only [closeZ_len, closeR_len, min_if, max_if, mkD_len, topZ_len, topR_len, boundR_len, ics]); simp [closeZ_len, closeR_len, min_if, max_if, mkD_len, topZ_len, topR_len, boundR_len, ics, *]; omega)))); rfl
  · subst q
    (repeat ((first | with_reducible apply ck_i | with_reducible apply And.intro); · (first | (simp only [closeZ_len, closeR_len, min_if, max_if, mkD_len, topZ_len, topR_len, boundR_len, ics]; done) | with_reducible rfl | ((try simp only [closeZ_len, closeR_len, min_if, max_if, mkD_len, topZ_len, topR_len, boundR_len, ics]); simp [closeZ_len, closeR_len, min_if, max_if, mkD_len, topZ_len, topR_len, boundR_len, ics, *]; done) | ((try simp only [closeZ_len, closeR_len, min_if, max_if, mkD_len, topZ_len, topR_len, boundR_len, ics]); simp [closeZ_len, closeR_len, min_if, max_if, mkD_len, topZ_len, topR_len, boundR_len, ics, *]; omega))))
    refine cond_i (fun q1 => ?_) (fun q1 => ?_)
    · have e : widenR (n, false, D) (n2, b2, D2) = (n, false, D) := by unfold widenR; rw [q1]; rfl
      rw [e]
      (repeat ((first | with_reducible apply ck_i | with_reducible apply And.intro); · (first | (simp only [closeZ_len, closeR_len, min_if, max_if, mkD_len, topZ_len, topR_len, boundR_len, ics]; done) | with_reducible rfl | ((try simp only [closeZ_len, closeR_len, min_if, max_if, mkD_len, topZ_len, topR_len, boundR_len, ics]); simp [closeZ_len, closeR_len, min_if, max_if, mkD_len, topZ_len, topR_len, boundR_len, ics, *]; done) | ((try simp only [closeZ_len, closeR_len, min_if, max_if, mkD_len, topZ_len, topR_len, boundR_len, ics]); simp [closeZ_len, closeR_len, min_if, max_if, mkD_len, topZ_len, topR_len, boundR_len, ics, *]; omega)))); rfl
    · have e : widenR (n, false, D) (n2, b2, D2) = widR D D2 n.toNat (topR n) := by unfold widenR; rw [q1]; rfl
      rw [e]
      have lT := topR_len (n := n)
      have fT : (topR n).1 = n := by
        unfold topR
        rw [closeR_fst]
        unfold capN
        show min (max n 0) 6 = n
        omega
      generalize topR n = T at *
      (repeat ((first | with_reducible apply ck_i | with_reducible apply And.intro); · (first | (simp only [closeZ_len, closeR_len, min_if, max_if, mkD_len, topZ_len, topR_len, boundR_len, ics]; done) | with_reducible rfl | ((try simp only [closeZ_len, closeR_len, min_if, max_if, mkD_len, topZ_len, topR_len, boundR_len, ics]); simp [closeZ_len, closeR_len, min_if, max_if, mkD_len, topZ_len, topR_len, boundR_len, ics, *]; done) | ((try simp only [closeZ_len, closeR_len, min_if, max_if, mkD_len, topZ_len, topR_len, boundR_len, ics]); simp [closeZ_len, closeR_len, min_if, max_if, mkD_len, topZ_len, topR_len, boundR_len, ics, *]; omega))))
      refine LoopP.ind (I := fun z => 0 ≤ z.1 ∧ z.1 ≤ n ∧ z.2 = ((widR D D2 z.1.toNat T).1, (widR D D2 z.1.toNat T).2.1, ic .i64 (widR D D2 z.1.toNat T).2.2)) (μ := fun z => (n - z.1).toNat) ?_ ⟨by dsimp only; omega, by dsimp only; omega, rfl⟩
      rintro ⟨x, wn, wb, cs⟩ k0 ⟨i1, i2, i3⟩ hk
      dsimp only at i1 i2 i3 ⊢
      simp only [Prod.mk.injEq] at i3
      obtain ⟨rfl, rfl, rfl⟩ := i3
      have lW := widR_len (a := D) (b := D2) (t := x.toNat) lT
      have fW : (widR D D2 x.toNat T).1 = n := by rw [widR_fst]; exact fT
      refine cond_i (fun q1 => ?_) (fun q1 => ?_)
      · have q1 := of_decide_eq_true q1
        have hk' := hk (x + 1, (widR D D2 (x + 1).toNat T).1, (widR D D2 (x + 1).toNat T).2.1, ic .i64 (widR D D2 (x + 1).toNat T).2.2) ⟨by dsimp only; omega, by dsimp only; omega, rfl⟩ (by dsimp only; omega)
        rw [show (x + 1).toNat = x.toNat + 1 by omega, widR] at hk'
        rw [show ((x.toNat : Nat) : Int) = x by omega] at hk'
        clear hk e lT fT
        have wx := wr1 (show -1000 ≤ x by omega) (show x ≤ 1000 by omega)
        have tx : (x + 1).toNat = x.toNat + 1 := by omega
        have hx : in16 x = true := by unfold in16; simp; omega
        generalize widR D D2 x.toNat T = W at *
        obtain ⟨wn, wb, WD⟩ := W
        dsimp only at lW fW hk' ⊢
        subst fW
        simp only [wx, tx, closeZ_len, closeR_len, min_if, max_if, mkD_len, topZ_len, topR_len, boundR_len, ics]
        (repeat ((first | with_reducible apply ck_i | with_reducible apply And.intro); · (first | (simp only [closeZ_len, closeR_len, min_if, max_if, mkD_len, topZ_len, topR_len, boundR_len, ics]; done) | with_reducible rfl | ((try simp only [closeZ_len, closeR_len, min_if, max_if, mkD_len, topZ_len, topR_len, boundR_len, ics]); simp [closeZ_len, closeR_len, min_if, max_if, mkD_len, topZ_len, topR_len, boundR_len, ics, *]; done) | ((try simp only [closeZ_len, closeR_len, min_if, max_if, mkD_len, topZ_len, topR_len, boundR_len, ics]); simp [closeZ_len, closeR_len, min_if, max_if, mkD_len, topZ_len, topR_len, boundR_len, ics, *]; omega))))
        refine cond_i (fun q2 => ?_) (fun q2 => ?_)
        · have q2 := of_decide_eq_true q2
          rw [if_pos q2] at hk'
          have lB := boundR_len (z := (wn, wb, WD)) (x := x) (y := -1) (c := g D (x.toNat + 1) 0) lW
          have fB := boundR_fst (z := (wn, wb, WD)) (x := x) (y := -1) (c := g D (x.toNat + 1) 0)
          have lB2 := boundR_len (z := boundR (wn, wb, WD) x (-1) (g D (x.toNat + 1) 0)) (x := -1) (y := x) (c := g D 0 (x.toNat + 1)) lB
          have oB : okN (boundR (wn, wb, WD) x (-1) (g D (x.toNat + 1) 0)).1 = true := by rw [fB]; exact hn
          (repeat ((first | with_reducible apply ck_i | with_reducible apply And.intro); · (first | (simp only [closeZ_len, closeR_len, min_if, max_if, mkD_len, topZ_len, topR_len, boundR_len, ics]; done) | with_reducible rfl | ((try simp only [closeZ_len, closeR_len, min_if, max_if, mkD_len, topZ_len, topR_len, boundR_len, ics]); simp [closeZ_len, closeR_len, min_if, max_if, mkD_len, topZ_len, topR_len, boundR_len, ics, *]; done) | ((try simp only [closeZ_len, closeR_len, min_if, max_if, mkD_len, topZ_len, topR_len, boundR_len, ics]); simp [closeZ_len, closeR_len, min_if, max_if, mkD_len, topZ_len, topR_len, boundR_len, ics, *]; omega))))
          refine cond_i (fun q3 => ?_) (fun q3 => ?_)
          · have q3 := of_decide_eq_true q3
            rw [if_pos q3] at hk'
            (repeat ((first | with_reducible apply ck_i | with_reducible apply And.intro); · (first | (simp only [closeZ_len, closeR_len, min_if, max_if, mkD_len, topZ_len, topR_len, boundR_len, ics]; done) | with_reducible rfl | ((try simp only [closeZ_len, closeR_len, min_if, max_if, mkD_len, topZ_len, topR_len, boundR_len, ics]); simp [closeZ_len, closeR_len, min_if, max_if, mkD_len, topZ_len, topR_len, boundR_len, ics, *]; done) | ((try simp only [closeZ_len, closeR_len, min_if, max_if, mkD_len, topZ_len, topR_len, boundR_len, ics]); simp [closeZ_len, closeR_len, min_if, max_if, mkD_len, topZ_len, topR_len, boundR_len, ics, *]; omega))))
            exact hk'
          · have q3 := of_decide_eq_false q3
            rw [if_neg q3] at hk'
            (repeat ((first | with_reducible apply ck_i | with_reducible apply And.intro); · (first | (simp only [closeZ_len, closeR_len, min_if, max_if, mkD_len, topZ_len, topR_len, boundR_len, ics]; done) | with_reducible rfl | ((try simp only [closeZ_len, closeR_len, min_if, max_if, mkD_len, topZ_len, topR_len, boundR_len, ics]); simp [closeZ_len, closeR_len, min_if, max_if, mkD_len, topZ_len, topR_len, boundR_len, ics, *]; done) | ((try simp only [closeZ_len, closeR_len, min_if, max_if, mkD_len, topZ_len, topR_len, boundR_len, ics]); simp [closeZ_len, closeR_len, min_if, max_if, mkD_len, topZ_len, topR_len, boundR_len, ics, *]; omega))))
            exact hk'
        · have q2 := of_decide_eq_false q2
          rw [if_neg q2] at hk'
          have lB2 := boundR_len (z := (wn, wb, WD)) (x := -1) (y := x) (c := g D 0 (x.toNat + 1)) lW
          (repeat ((first | with_reducible apply ck_i | with_reducible apply And.intro); · (first | (simp only [closeZ_len, closeR_len, min_if, max_if, mkD_len, topZ_len, topR_len, boundR_len, ics]; done) | with_reducible rfl | ((try simp only [closeZ_len, closeR_len, min_if, max_if, mkD_len, topZ_len, topR_len, boundR_len, ics]); simp [closeZ_len, closeR_len, min_if, max_if, mkD_len, topZ_len, topR_len, boundR_len, ics, *]; done) | ((try simp only [closeZ_len, closeR_len, min_if, max_if, mkD_len, topZ_len, topR_len, boundR_len, ics]); simp [closeZ_len, closeR_len, min_if, max_if, mkD_len, topZ_len, topR_len, boundR_len, ics, *]; omega))))
          refine cond_i (fun q3 => ?_) (fun q3 => ?_)
          · have q3 := of_decide_eq_true q3
            rw [if_pos q3] at hk'
            (repeat ((first | with_reducible apply ck_i | with_reducible apply And.intro); · (first | (simp only [closeZ_len, closeR_len, min_if, max_if, mkD_len, topZ_len, topR_len, boundR_len, ics]; done) | with_reducible rfl | ((try simp only [closeZ_len, closeR_len, min_if, max_if, mkD_len, topZ_len, topR_len, boundR_len, ics]); simp [closeZ_len, closeR_len, min_if, max_if, mkD_len, topZ_len, topR_len, boundR_len, ics, *]; done) | ((try simp only [closeZ_len, closeR_len, min_if, max_if, mkD_len, topZ_len, topR_len, boundR_len, ics]); simp [closeZ_len, closeR_len, min_if, max_if, mkD_len, topZ_len, topR_len, boundR_len, ics, *]; omega))))
            exact hk'
          · have q3 := of_decide_eq_false q3
            rw [if_neg q3] at hk'
            (repeat ((first | with_reducible apply ck_i | with_reducible apply And.intro); · (first | (simp only [closeZ_len, closeR_len, min_if, max_if, mkD_len, topZ_len, topR_len, boundR_len, ics]; done) | with_reducible rfl | ((try simp only [closeZ_len, closeR_len, min_if, max_if, mkD_len, topZ_len, topR_len, boundR_len, ics]); simp [closeZ_len, closeR_len, min_if, max_if, mkD_len, topZ_len, topR_len, boundR_len, ics, *]; done) | ((try simp only [closeZ_len, closeR_len, min_if, max_if, mkD_len, topZ_len, topR_len, boundR_len, ics]); simp [closeZ_len, closeR_len, min_if, max_if, mkD_len, topZ_len, topR_len, boundR_len, ics, *]; omega))))
            exact hk'
      · have q1 := of_decide_eq_false q1
        rw [show x.toNat = n.toNat by omega] at lW ⊢
        (repeat ((first | with_reducible apply ck_i | with_reducible apply And.intro); · (first | (simp only [closeZ_len, closeR_len, min_if, max_if, mkD_len, topZ_len, topR_len, boundR_len, ics]; done) | with_reducible rfl | ((try simp only [closeZ_len, closeR_len, min_if, max_if, mkD_len, topZ_len, topR_len, boundR_len, ics]); simp [closeZ_len, closeR_len, min_if, max_if, mkD_len, topZ_len, topR_len, boundR_len, ics, *]; done) | ((try simp only [closeZ_len, closeR_len, min_if, max_if, mkD_len, topZ_len, topR_len, boundR_len, ics]); simp [closeZ_len, closeR_len, min_if, max_if, mkD_len, topZ_len, topR_len, boundR_len, ics, *]; omega)))); rfl
theorem cx64_ok : CtxOk Try.prog cx64.q.ctx := (ctx_cons (g := 65) (ctx_cons (g := 31) (ctx_cons (g := 33) ctx_nil (by kernel_rfl) sum33_ok) (by kernel_rfl) sum31_ok) (by kernel_rfl) sum65_ok)
theorem sum64_ok : ∀ vs r, sum64 vs = some (true, r) → SoundAt Try.prog 64 vs r := by
  intro vs r h
  unfold sum64 at h
  split at h
  · simp only [Option.some.injEq, Prod.mk.injEq, Bool.and_eq_true] at h
    obtain ⟨⟨⟨⟨h0, h1⟩, h2⟩, h3⟩, rfl⟩ := h
    obtain ⟨n0, b0, D0, hl0, hc0, rfl⟩ := zone_elim h0
    obtain ⟨n1, b1, D1, hl1, hc1, rfl⟩ := zone_elim h1
    (try simp only [zO_ic] at h2)
    (try simp only [zO_ic] at h3)
    (try simp only [zO_ic])
    exact f64_sound _ _ _ _ _ _ cx64_ok (f64_spec n0 b0 D0 hl0 n1 b1 D1 hl1 h2 h3)
  · cases h

end Go.Proofs.Ytgmciihlmgeecaa.Fn
