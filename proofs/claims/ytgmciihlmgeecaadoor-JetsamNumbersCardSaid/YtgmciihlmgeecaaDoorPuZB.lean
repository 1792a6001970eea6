import Derived.Test.YtgmciihlmgeecaaDoorPuZA
import Derived.Test.YtgmciihlmgeecaaDoorWZB
/- Functions of two zones: what is told of each is so. Conditions: those that each lemma names. -/
namespace Go.Proofs.YtgmciihlmgeecaaDoor.Fn
open Go Go.RowKit Go.Proofs.YtgmciihlmgeecaaDoor.Mt Go.Proofs.YtgmciihlmgeecaaDoor.Zm
set_option linter.unusedVariables false
set_option linter.unusedSimpArgs false
theorem f96_spec (n : Int) (b : Bool) (D : List Int) (hl : D.length = 49) (n2 : Int) (b2 : Bool) (D2 : List Int) (hl2 : D2.length = 49) : f96_wp n b (ic .i64 D) n2 b2 (ic .i64 D2) (fun r' => r' = boRet (alikeZ (n, b, D) (n2, b2, D2))) := by
  unfold f96_wp alikeZ
  refine cond_i (fun q => ?_) (fun q => ?_)
  · have q : n = n2 := by simpa using q
    simp [q, boRet]
  · have q : ¬ n = n2 := by simpa using q
    simp [q, boRet]
theorem cx96_ok : CtxOk Tryd.prog cx96.q.ctx := (ctx_cons (g := 36) ctx_nil (by kernel_rfl) sum91_ok)
theorem sum96_ok : ∀ vs r, sum96 vs = some (true, r) → SoundAt Tryd.prog 37 vs r := by
  intro vs r h
  unfold sum96 at h
  split at h
  · simp only [Option.some.injEq, Prod.mk.injEq, Bool.and_eq_true] at h
    obtain ⟨⟨h0, h1⟩, rfl⟩ := h
    obtain ⟨n0, b0, D0, hl0, hc0, rfl⟩ := zone_elim h0
    obtain ⟨n1, b1, D1, hl1, hc1, rfl⟩ := zone_elim h1
    (try simp only [zO_ic])
    exact f96_sound _ _ _ _ _ _ cx96_ok (f96_spec n0 b0 D0 hl0 n1 b1 D1 hl1)
  · cases h
theorem f47_spec (n : Int) (b : Bool) (D : List Int) (hl : D.length = 49) (n2 : Int) (b2 : Bool) (D2 : List Int) (hl2 : D2.length = 49) : f47_wp n b (ic .i64 D) n2 b2 (ic .i64 D2) (fun r' => r' = boRet (withinZ (n, b, D) (n2, b2, D2))) := by
  unfold f47_wp
  (try delta X47_0)
  simp only [take_ic hl, map_ic, row7]
  (repeat ((first | with_reducible apply ck_i | with_reducible apply And.intro); · (first | with_reducible rfl | ((try simp only [closeZ_len, closeR_len, forT_len, movT_len, ownT_len, min_if, max_if, mkD_len, movZ_len, forgetR_len, closeZ_fst, closeR_fst, forgetR_fst, ics]) <;> simp [closeZ_len, closeR_len, forT_len, movT_len, ownT_len, min_if, max_if, mkD_len, movZ_len, forgetR_len, closeZ_fst, closeR_fst, forgetR_fst, ics, *] <;> omega))))
  refine cond_i (fun q => ?_) (fun q => ?_)
  · have q : alikeZ (n, b, D) (n2, b2, D2) = false := by simpa using q
    unfold withinZ; rw [q]; rfl
  · have q : alikeZ (n, b, D) (n2, b2, D2) = true := by simpa using q
    refine cond_i (fun q1 => ?_) (fun q1 => ?_)
    · unfold withinZ; rw [q, q1]; rfl
    · refine cond_i (fun q2 => ?_) (fun q2 => ?_)
      · unfold withinZ; rw [q, q1, q2]; rfl
      · subst q1 q2
        have hf : withinZ (n, false, D) (n2, false, D2) = true ↔ ∀ i j : Nat, i < 7 → j < 7 → g D i j ≤ g D2 i j := by
          unfold withinZ; rw [q]
          simp only [Bool.not_true, Bool.false_eq_true, if_false, all7, decide_eq_true_eq]
        (repeat ((first | with_reducible apply ck_i | with_reducible apply And.intro); · (first | with_reducible rfl | ((try simp only [closeZ_len, closeR_len, forT_len, movT_len, ownT_len, min_if, max_if, mkD_len, movZ_len, forgetR_len, closeZ_fst, closeR_fst, forgetR_fst, ics]) <;> simp [closeZ_len, closeR_len, forT_len, movT_len, ownT_len, min_if, max_if, mkD_len, movZ_len, forgetR_len, closeZ_fst, closeR_fst, forgetR_fst, ics, *] <;> omega))))
        refine LoopP.ind (I := fun z => 0 ≤ z ∧ z ≤ 7 ∧ ∀ i j : Nat, (i : Int) < z → j < 7 → g D i j ≤ g D2 i j) (μ := fun z => (7 - z).toNat) ?_ ⟨by omega, by omega, fun i j hi _ => absurd hi (by omega)⟩
        rintro i k0 ⟨i1, i2, i3⟩ hk
        refine cond_i (fun q1 => ?_) (fun q1 => ?_)
        · have q1 := of_decide_eq_true q1
          (repeat ((first | with_reducible apply ck_i | with_reducible apply And.intro); · (first | with_reducible rfl | ((try simp only [closeZ_len, closeR_len, forT_len, movT_len, ownT_len, min_if, max_if, mkD_len, movZ_len, forgetR_len, closeZ_fst, closeR_fst, forgetR_fst, ics]) <;> simp [closeZ_len, closeR_len, forT_len, movT_len, ownT_len, min_if, max_if, mkD_len, movZ_len, forgetR_len, closeZ_fst, closeR_fst, forgetR_fst, ics, *] <;> omega))))
          refine LoopP.ind (I := fun z => 0 ≤ z ∧ z ≤ 7 ∧ ∀ j : Nat, (j : Int) < z → g D i.toNat j ≤ g D2 i.toNat j) (μ := fun z => (7 - z).toNat) ?_ ⟨by omega, by omega, fun i hi => absurd hi (by omega)⟩
          rintro j k1 ⟨j1, j2, j3⟩ hk1
          refine cond_i (fun q4 => ?_) (fun q4 => ?_)
          · have q4 := of_decide_eq_true q4
            simp only [closeZ_len, closeR_len, forT_len, movT_len, ownT_len, min_if, max_if, mkD_len, movZ_len, forgetR_len, closeZ_fst, closeR_fst, forgetR_fst, ics, g_row (D := D) (i := i.toNat) (j := j.toNat) (by omega)]
            have lr := rowOf_len (D := D) (i := i.toNat)
            (repeat ((first | with_reducible apply ck_i | with_reducible apply And.intro); · (first | with_reducible rfl | ((try simp only [closeZ_len, closeR_len, forT_len, movT_len, ownT_len, min_if, max_if, mkD_len, movZ_len, forgetR_len, closeZ_fst, closeR_fst, forgetR_fst, ics]) <;> simp [closeZ_len, closeR_len, forT_len, movT_len, ownT_len, min_if, max_if, mkD_len, movZ_len, forgetR_len, closeZ_fst, closeR_fst, forgetR_fst, ics, *] <;> omega))))
            refine cond_i (fun q7 => ?_) (fun q7 => ?_)
            · have q7 := of_decide_eq_true q7
              cases e : withinZ (n, false, D) (n2, false, D2) with
              | false => rfl
              | true =>
                have := hf.1 e i.toNat j.toNat (by omega) (by omega)
                omega
            · have q7 := of_decide_eq_false q7
              rw [wr1 (by omega) (by omega)]
              refine And.intro (by (first | with_reducible rfl | ((try simp only [closeZ_len, closeR_len, forT_len, movT_len, ownT_len, min_if, max_if, mkD_len, movZ_len, forgetR_len, closeZ_fst, closeR_fst, forgetR_fst, ics]) <;> simp [closeZ_len, closeR_len, forT_len, movT_len, ownT_len, min_if, max_if, mkD_len, movZ_len, forgetR_len, closeZ_fst, closeR_fst, forgetR_fst, ics, *] <;> omega))) (hk1 _ ⟨by omega, by omega, fun t ht => ?_⟩ (by omega))
              by_cases e : (t : Int) < j
              · exact j3 t e
              · obtain rfl : t = j.toNat := by omega
                omega
          · have q4 := of_decide_eq_false q4
            rw [wr1 (by omega) (by omega)]
            refine And.intro (by (first | with_reducible rfl | ((try simp only [closeZ_len, closeR_len, forT_len, movT_len, ownT_len, min_if, max_if, mkD_len, movZ_len, forgetR_len, closeZ_fst, closeR_fst, forgetR_fst, ics]) <;> simp [closeZ_len, closeR_len, forT_len, movT_len, ownT_len, min_if, max_if, mkD_len, movZ_len, forgetR_len, closeZ_fst, closeR_fst, forgetR_fst, ics, *] <;> omega))) (hk _ ⟨by omega, by omega, fun t s ht hs => ?_⟩ (by omega))
            by_cases e : (t : Int) < i
            · exact i3 t s e hs
            · obtain rfl : t = i.toNat := by omega
              exact j3 s (by omega)
        · have q1 := of_decide_eq_false q1
          rw [hf.2 fun t s ht hs => i3 t s (by omega) hs]; rfl
theorem cx47_ok : CtxOk Tryd.prog cx47.q.ctx := (ctx_cons (g := 37) ctx_nil (by kernel_rfl) sum96_ok)
theorem sum47_ok : ∀ vs r, sum47 vs = some (true, r) → SoundAt Tryd.prog 26 vs r := by
  intro vs r h
  unfold sum47 at h
  split at h
  · simp only [Option.some.injEq, Prod.mk.injEq, Bool.and_eq_true] at h
    obtain ⟨⟨h0, h1⟩, rfl⟩ := h
    obtain ⟨n0, b0, D0, hl0, hc0, rfl⟩ := zone_elim h0
    obtain ⟨n1, b1, D1, hl1, hc1, rfl⟩ := zone_elim h1
    (try simp only [zO_ic])
    exact f47_sound _ _ _ _ _ _ cx47_ok (f47_spec n0 b0 D0 hl0 n1 b1 D1 hl1)
  · cases h
theorem joinZ_len {a b : Zo} (h : a.2.2.length = 49) (h' : b.2.2.length = 49) : (joinZ a b).2.2.length = 49 := by
  unfold joinZ
  split
  · exact h
  · split
    · exact h'
    · exact mkD_len (fun i j => max (g a.2.2 i j) (g b.2.2 i j))
def widF (a b : List Int) (n : Nat) (T : List Int) (i j : Nat) : Int :=
  if 1 ≤ i ∧ i ≤ n ∧ j = 0 then keptP (g a i 0) (g b i 0) else if i = 0 ∧ 1 ≤ j ∧ j ≤ n then keptP (g a 0 j) (g b 0 j) else if 1 ≤ i ∧ i ≤ n ∧ 1 ≤ j ∧ j ≤ n ∧ i ≠ j then 1099511627776 else g T i j
def widG (n i j a b : Nat) : Bool := decide ((1 ≤ a ∧ a < i ∧ b ≤ n) ∨ (a = 0 ∧ 1 ≤ b ∧ b < i) ∨ (a = i ∧ 1 ≤ j ∧ b < j) ∨ (a = 0 ∧ b = i ∧ 1 ≤ j))
def widS (A B : List Int) (n : Nat) (T : List Int) (i j : Nat) : List Int := mkD fun a b => if widG n i j a b then widF A B n T a b else g T a b
theorem widS_len {A B T : List Int} {n i j : Nat} : (widS A B n T i j).length = 49 := mkD_len _
theorem widS_0 {A B T : List Int} {n : Nat} (hl : T.length = 49) : T = widS A B n T 1 0 := mk_eq hl fun a b _ _ => by
  rw [if_neg]
  unfold widG; simp; omega
theorem widS_two {A B T : List Int} {n i : Nat} (h1 : 1 ≤ i) (hi : i ≤ n) (hn : n ≤ 6) : st (st (widS A B n T i 0) i 0 (keptP (g A i 0) (g B i 0))) 0 i (keptP (g A 0 i) (g B 0 i)) = widS A B n T i 1 := by
  unfold widS
  rw [st_mk _ (by omega) (by omega), st_mk _ (by omega) (by omega)]
  refine mk_ext fun a b ha hb => ?_
  unfold widG
  by_cases e1 : a = 0 ∧ b = i
  · obtain ⟨rfl, rfl⟩ := e1
    rw [if_pos ⟨rfl, rfl⟩, if_pos (by simp <;> omega)]
    unfold widF
    rw [if_neg (by omega), if_pos (by omega)]
  · rw [if_neg e1]
    by_cases e2 : a = i ∧ b = 0
    · obtain ⟨rfl, rfl⟩ := e2
      rw [if_pos ⟨rfl, rfl⟩, if_pos (by simp <;> omega)]
      unfold widF
      rw [if_pos (by omega)]
    · rw [if_neg e2]
      have : (decide ((1 ≤ a ∧ a < i ∧ b ≤ n) ∨ (a = 0 ∧ 1 ≤ b ∧ b < i) ∨ (a = i ∧ 1 ≤ 0 ∧ b < 0) ∨ (a = 0 ∧ b = i ∧ 1 ≤ 0))) = decide ((1 ≤ a ∧ a < i ∧ b ≤ n) ∨ (a = 0 ∧ 1 ≤ b ∧ b < i) ∨ (a = i ∧ 1 ≤ 1 ∧ b < 1) ∨ (a = 0 ∧ b = i ∧ 1 ≤ 1)) := by
        rw [decide_eq_decide]; omega
      rw [this]
theorem widS_far {A B T : List Int} {n i j : Nat} (h1 : 1 ≤ i) (hi : i ≤ n) (hn : n ≤ 6) (j1 : 1 ≤ j) (hj : j ≤ n) (hij : i ≠ j) : st (widS A B n T i j) i j 1099511627776 = widS A B n T i (j + 1) := by
  unfold widS
  rw [st_mk _ (by omega) (by omega)]
  refine mk_ext fun a b ha hb => ?_
  unfold widG
  by_cases e1 : a = i ∧ b = j
  · obtain ⟨rfl, rfl⟩ := e1
    rw [if_pos ⟨rfl, rfl⟩, if_pos (by simp <;> omega)]
    unfold widF
    rw [if_neg (by omega), if_neg (by omega), if_pos (by omega)]
  · rw [if_neg e1]
    have : (decide ((1 ≤ a ∧ a < i ∧ b ≤ n) ∨ (a = 0 ∧ 1 ≤ b ∧ b < i) ∨ (a = i ∧ 1 ≤ j ∧ b < j) ∨ (a = 0 ∧ b = i ∧ 1 ≤ j))) = decide ((1 ≤ a ∧ a < i ∧ b ≤ n) ∨ (a = 0 ∧ 1 ≤ b ∧ b < i) ∨ (a = i ∧ 1 ≤ j + 1 ∧ b < j + 1) ∨ (a = 0 ∧ b = i ∧ 1 ≤ j + 1)) := by
      rw [decide_eq_decide]; omega
    rw [this]
theorem widS_same {A B T : List Int} {n i : Nat} (h1 : 1 ≤ i) (hi : i ≤ n) : widS A B n T i i = widS A B n T i (i + 1) := mk_ext fun a b ha hb => by
  unfold widG
  by_cases e1 : a = i ∧ b = i
  · obtain ⟨rfl, rfl⟩ := e1
    rw [if_neg (by simp <;> omega), if_pos (by simp <;> omega)]
    unfold widF
    rw [if_neg (by omega), if_neg (by omega), if_neg (by omega)]
  · have : (decide ((1 ≤ a ∧ a < i ∧ b ≤ n) ∨ (a = 0 ∧ 1 ≤ b ∧ b < i) ∨ (a = i ∧ 1 ≤ i ∧ b < i) ∨ (a = 0 ∧ b = i ∧ 1 ≤ i))) = decide ((1 ≤ a ∧ a < i ∧ b ≤ n) ∨ (a = 0 ∧ 1 ≤ b ∧ b < i) ∨ (a = i ∧ 1 ≤ i + 1 ∧ b < i + 1) ∨ (a = 0 ∧ b = i ∧ 1 ≤ i + 1)) := by
      rw [decide_eq_decide]; omega
    rw [this]
theorem widS_row {A B T : List Int} {n i : Nat} (h1 : 1 ≤ i) (hi : i ≤ n) : widS A B n T i (n + 1) = widS A B n T (i + 1) 0 := mk_ext fun a b ha hb => by
  unfold widG
  have : (decide ((1 ≤ a ∧ a < i ∧ b ≤ n) ∨ (a = 0 ∧ 1 ≤ b ∧ b < i) ∨ (a = i ∧ 1 ≤ n + 1 ∧ b < n + 1) ∨ (a = 0 ∧ b = i ∧ 1 ≤ n + 1))) = decide ((1 ≤ a ∧ a < i + 1 ∧ b ≤ n) ∨ (a = 0 ∧ 1 ≤ b ∧ b < i + 1) ∨ (a = i + 1 ∧ 1 ≤ 0 ∧ b < 0) ∨ (a = 0 ∧ b = i + 1 ∧ 1 ≤ 0)) := by
    rw [decide_eq_decide]; omega
  rw [this]
theorem widS_end {A B T : List Int} {n : Nat} : widS A B n T (n + 1) 0 = widD A B n T := mk_ext fun a b ha hb => by
  show (if widG n (n + 1) 0 a b then widF A B n T a b else g T a b) = widF A B n T a b
  by_cases e : widG n (n + 1) 0 a b = true
  · rw [if_pos e]
  · rw [if_neg e]
    unfold widG at e
    simp at e
    unfold widF
    rw [if_neg (by omega), if_neg (by omega), if_neg (by omega)]
end Go.Proofs.YtgmciihlmgeecaaDoor.Fn
