import Derived.RowKit
/- Plain mathematics of difference bounds: the greatest closed matrix below a given one; Floyd and Warshall's steps give it, or show that there is none; so do rounds over all three. Conditions: none but those that each lemma names. -/
namespace Go.Proofs.YtgmciihlmgeecaaDoor.Zm

abbrev Mx := Nat → Nat → Int

/-- Closed: nothing below nought on the diagonal; each bound holds what two others say. -/
def Clo (n : Nat) (m : Mx) : Prop := (∀ i, i ≤ n → 0 ≤ m i i) ∧ ∀ i j k, i ≤ n → j ≤ n → k ≤ n → m i j ≤ m i k + m k j
def Lem (n : Nat) (a b : Mx) : Prop := ∀ i j, i ≤ n → j ≤ n → a i j ≤ b i j
/-- c is the greatest closed one below d. -/
def Cl (n : Nat) (d c : Mx) : Prop := Lem n c d ∧ Clo n c ∧ ∀ m, Clo n m → Lem n m d → Lem n m c
def NoCl (n : Nat) (d : Mx) : Prop := ∀ m, Clo n m → Lem n m d → False

theorem Lem.refl (n : Nat) (a : Mx) : Lem n a a := fun _ _ _ _ => Int.le_refl _
theorem Lem.trans {n : Nat} {a b c : Mx} (h : Lem n a b) (h' : Lem n b c) : Lem n a c := fun i j hi hj => Int.le_trans (h i j hi hj) (h' i j hi hj)

theorem Cl.uniq {n : Nat} {d c c' : Mx} (h : Cl n d c) (h' : Cl n d c') {i j : Nat} (hi : i ≤ n) (hj : j ≤ n) : c i j = c' i j :=
  Int.le_antisymm (h'.2.2 _ h.2.1 h.1 i j hi hj) (h.2.2 _ h'.2.1 h'.1 i j hi hj)

theorem Cl.no {n : Nat} {d c : Mx} (h : Cl n d c) (h' : NoCl n d) : False := h' c h.2.1 h.1

/-- The opposite bound holds a closed one from below. -/
theorem Clo.opp {n : Nat} {m : Mx} (h : Clo n m) {i j : Nat} (hi : i ≤ n) (hj : j ≤ n) : 0 ≤ m i j + m j i := by
  have a := h.1 i hi
  have b := h.2 i i j hi hi hj
  omega

theorem Clo.self {n : Nat} {m : Mx} (h : Clo n m) : Cl n m m := ⟨Lem.refl _ _, h, fun _ _ hl => hl⟩

/-- Of two with the same closed ones below them the closures are the same. -/
theorem Cl.of_same {n : Nat} {d d' c : Mx} (h : Cl n d c) (hs : ∀ m, Clo n m → (Lem n m d ↔ Lem n m d')) : Cl n d' c :=
  ⟨(hs c h.2.1).1 h.1, h.2.1, fun m hm hl => h.2.2 m hm ((hs m hm).2 hl)⟩
theorem NoCl.of_same {n : Nat} {d d' : Mx} (h : NoCl n d) (hs : ∀ m, Clo n m → (Lem n m d ↔ Lem n m d')) : NoCl n d' :=
  fun m hm hl => h m hm ((hs m hm).2 hl)

/-! ### Floyd and Warshall -/

def fw (k : Nat) (d : Mx) : Mx := fun i j => min (d i j) (d i k + d k j)
def Up (n t : Nat) (d : Mx) : Prop := ∀ i j l, i ≤ n → j ≤ n → l < t → d i j ≤ d i l + d l j

theorem fw_up {n k : Nat} {d : Mx} (hk : k ≤ n) (h0 : 0 ≤ d k k) (h : Up n k d) : Up n (k + 1) (fw k d) := by
  intro i j l hi hj hl
  unfold fw
  by_cases e : l = k
  · subst e; omega
  · have hl' : l < k := by omega
    have a1 := h i j l hi hj hl'
    have a2 := h k j l hk hj hl'
    have a3 := h i k l hi hk hl'
    have a4 := h k k l hk hk hl'
    omega

def fws : Nat → Mx → Mx
  | 0, d => d
  | k + 1, d => fw k (fws k d)

theorem fws_step (k : Nat) (d : Mx) (i j : Nat) : fws (k + 1) d i j ≤ fws k d i j := by
  show min _ _ ≤ _
  omega

theorem fws_mono (d : Mx) (i j : Nat) (k l : Nat) (h : k ≤ l) : fws l d i j ≤ fws k d i j := by
  induction l with
  | zero => obtain rfl : k = 0 := by omega
            exact Int.le_refl _
  | succ l ih =>
    by_cases e : k = l + 1
    · subst e; exact Int.le_refl _
    · exact Int.le_trans (fws_step l d i j) (ih (by omega))

theorem fws_above {n : Nat} {m d : Mx} (hm : Clo n m) (h : Lem n m d) (k : Nat) (hk : k ≤ n + 1) : Lem n m (fws k d) := by
  induction k with
  | zero => exact h
  | succ k ih =>
    intro i j hi hj
    have a := ih (by omega) i j hi hj
    have b := ih (by omega) i k hi (by omega)
    have c := ih (by omega) k j (by omega) hj
    have e := hm.2 i j k hi hj (by omega)
    show _ ≤ min _ _
    omega

theorem fws_up {n : Nat} {d : Mx} (k : Nat) (hk : k ≤ n + 1) (h : ∀ t, t < k → 0 ≤ fws t d t t) : Up n k (fws k d) := by
  induction k with
  | zero => intro i j l _ _ hl; omega
  | succ k ih => exact fw_up (by omega) (h k (by omega)) (ih (by omega) fun t ht => h t (by omega))

theorem fws_cl {n : Nat} {d : Mx} (h : ∀ i, i ≤ n → 0 ≤ fws (n + 1) d i i) : Cl n d (fws (n + 1) d) := by
  refine ⟨fun i j _ _ => fws_mono d i j 0 (n + 1) (by omega), ⟨h, ?_⟩, fun m hm hl => fws_above hm hl _ (Nat.le_refl _)⟩
  have u := fws_up (n := n) (d := d) (n + 1) (Nat.le_refl _) (fun t ht => Int.le_trans (h t (by omega)) (fws_mono d t t t (n + 1) (by omega)))
  intro i j k hi hj hk
  exact u i j k hi hj (by omega)

theorem fws_no {n : Nat} {d : Mx} {i : Nat} (hi : i ≤ n) (h : fws (n + 1) d i i < 0) : NoCl n d := by
  intro m hm hl
  have a := fws_above hm hl (n + 1) (Nat.le_refl _) i i hi hi
  have b := hm.1 i hi
  omega

/-- How great the bounds may grow, step by step. -/
theorem fws_bound {n : Nat} {d : Mx} {B : Int} (h : ∀ i j, i ≤ n → j ≤ n → -B ≤ d i j ∧ d i j ≤ B) (k : Nat) (hk : k ≤ n + 1) :
    ∀ i j, i ≤ n → j ≤ n → -(B * 2 ^ k) ≤ fws k d i j ∧ fws k d i j ≤ B := by
  induction k with
  | zero => intro i j hi hj; have := h i j hi hj; simp only [fws, Int.pow_zero, Int.mul_one]; exact this
  | succ k ih =>
    intro i j hi hj
    have a := ih (by omega) i j hi hj
    have b := ih (by omega) i k hi (by omega)
    have c := ih (by omega) k j (by omega) hj
    have e : B * 2 ^ (k + 1) = 2 * (B * 2 ^ k) := by rw [Int.pow_succ]; rw [← Int.mul_assoc, Int.mul_comm]
    have b0 := h 0 0 (by omega) (by omega)
    have o : (0 : Int) ≤ B * 2 ^ k := Int.mul_nonneg (by omega) (Int.pow_nonneg (by decide))
    rw [e]
    show -_ ≤ min _ _ ∧ min _ _ ≤ _
    omega

end Go.Proofs.YtgmciihlmgeecaaDoor.Zm

/-! Difference bounds in a row of 49 numbers: the program's three loops (Floyd and Warshall in place) and the reference's rounds tell the same closure, or both that there is none. Conditions: none but those that each lemma names (bounds that no sum leaves the numbers of 64 bits). -/
namespace Go.Proofs.YtgmciihlmgeecaaDoor.Zm
open Go.RowKit

def g (D : List Int) (i j : Nat) : Int := D.getD (7 * i + j) 0
def st (D : List Int) (i j : Nat) (v : Int) : List Int := D.set (7 * i + j) v

theorem st_length (D : List Int) (i j : Nat) (v : Int) : (st D i j v).length = D.length := by simp [st]

theorem g_st {D : List Int} (hl : D.length = 49) {i j a b : Nat} (hi : i < 7) (hj : j < 7) (_ha : a < 7) (hb : b < 7) (v : Int) :
    g (st D i j v) a b = if a = i ∧ b = j then v else g D a b := by
  unfold g st
  simp only [List.getD_eq_getElem?_getD, List.getElem?_set]
  by_cases e : a = i ∧ b = j
  · obtain ⟨rfl, rfl⟩ := e
    rw [if_pos rfl, if_pos (by omega), if_pos ⟨rfl, rfl⟩]; rfl
  · rw [if_neg e, if_neg (by omega)]

theorem g_ext {D E : List Int} (hD : D.length = 49) (hE : E.length = 49) (h : ∀ a b, a < 7 → b < 7 → g D a b = g E a b) : D = E := by
  apply List.ext_getElem (by omega)
  intro i h1 h2
  have := h (i / 7) (i % 7) (by omega) (by omega)
  have e : 7 * (i / 7) + i % 7 = i := by omega
  simpa [g, e, List.getD_eq_getElem?_getD, h1, h2] using this

theorem wrap_in {x : Int} (h : -9223372036854775808 ≤ x) (h' : x ≤ 9223372036854775807) : wrap64 x = x := by unfold wrap64; omega

/-! ### The program's loops -/

def relax (k i j : Nat) (D : List Int) : List Int := st D i j (min (g D i j) (wrap64 (g D i k + g D k j)))
def rowL (k i : Nat) : Nat → List Int → List Int
  | 0, D => D
  | t + 1, D => relax k i t (rowL k i t D)
def midL (k n : Nat) : Nat → List Int → List Int
  | 0, D => D
  | t + 1, D => rowL k t (n + 1) (midL k n t D)
def allL (n : Nat) : Nat → List Int → List Int
  | 0, D => D
  | t + 1, D => midL t n (n + 1) (allL n t D)

theorem relax_length (k i j : Nat) (D : List Int) : (relax k i j D).length = D.length := st_length ..
theorem rowL_length (k i t : Nat) (D : List Int) : (rowL k i t D).length = D.length := by
  induction t with
  | zero => rfl
  | succ t ih => rw [rowL, relax_length, ih]
theorem midL_length (k n t : Nat) (D : List Int) : (midL k n t D).length = D.length := by
  induction t with
  | zero => rfl
  | succ t ih => rw [midL, rowL_length, ih]
theorem allL_length (n t : Nat) (D : List Int) : (allL n t D).length = D.length := by
  induction t with
  | zero => rfl
  | succ t ih => rw [allL, midL_length, ih]

theorem relax_le {D : List Int} (hl : D.length = 49) {k i j a b : Nat} (hi : i < 7) (hj : j < 7) (ha : a < 7) (hb : b < 7) : g (relax k i j D) a b ≤ g D a b := by
  unfold relax
  rw [g_st hl hi hj ha hb]
  split
  · rename_i e; obtain ⟨rfl, rfl⟩ := e; omega
  · omega
theorem rowL_le {D : List Int} (hl : D.length = 49) {k i t a b : Nat} (hi : i < 7) (ht : t ≤ 7) (ha : a < 7) (hb : b < 7) : g (rowL k i t D) a b ≤ g D a b := by
  induction t with
  | zero => exact Int.le_refl _
  | succ t ih => exact Int.le_trans (relax_le (by rw [rowL_length]; exact hl) hi (by omega) ha hb) (ih (by omega))
theorem midL_le {D : List Int} (hl : D.length = 49) {k n t a b : Nat} (hn : n ≤ 6) (ht : t ≤ 7) (ha : a < 7) (hb : b < 7) : g (midL k n t D) a b ≤ g D a b := by
  induction t with
  | zero => exact Int.le_refl _
  | succ t ih => exact Int.le_trans (rowL_le (by rw [midL_length]; exact hl) (by omega) (by omega) ha hb) (ih (by omega))
theorem allL_le {D : List Int} (hl : D.length = 49) {n s t a b : Nat} (hn : n ≤ 6) (hs : s ≤ t) (ha : a < 7) (hb : b < 7) : g (allL n t D) a b ≤ g (allL n s D) a b := by
  induction t with
  | zero => obtain rfl : s = 0 := by omega
            exact Int.le_refl _
  | succ t ih =>
    by_cases e : s = t + 1
    · subst e; exact Int.le_refl _
    · exact Int.le_trans (midL_le (by rw [allL_length]; exact hl) hn (by omega) ha hb) (ih (by omega))

theorem rowL_fw {D E : List Int} (hE : E.length = 49) {n k i : Nat} (hn : n ≤ 6) (hk : k ≤ n) (hi : i ≤ n) (h0 : 0 ≤ g D k k)
    (hB : ∀ a b, a ≤ n → b ≤ n → -2305843009213693952 ≤ g D a b ∧ g D a b ≤ 2305843009213693952)
    (h : ∀ a b, a < 7 → b < 7 → g E a b = if a < i ∧ b ≤ n then fw k (g D) a b else g D a b) (t : Nat) (ht : t ≤ n + 1) :
    ∀ a b, a < 7 → b < 7 → g (rowL k i t E) a b = if (a < i ∧ b ≤ n) ∨ (a = i ∧ b < t) then fw k (g D) a b else g D a b := by
  induction t with
  | zero => intro a b ha hb; rw [rowL, h a b ha hb]; simp
  | succ t ih =>
    intro a b ha hb
    have ih := ih (by omega)
    have x1 := ih i t (by omega) (by omega)
    have x2 := ih i k (by omega) (by omega)
    have x3 := ih k t (by omega) (by omega)
    rw [if_neg (by omega)] at x1
    have y2 : g (rowL k i t E) i k = g D i k := by
      rw [x2]; split
      · unfold fw; omega
      · rfl
    have y3 : g (rowL k i t E) k t = g D k t := by
      rw [x3]; split
      · unfold fw; omega
      · rfl
    have b2 := hB i k hi hk
    have b3 := hB k t hk (by omega)
    rw [rowL, relax, g_st (by rw [rowL_length]; exact hE) (by omega) (by omega) ha hb, x1, y2, y3, wrap_in (by omega) (by omega)]
    by_cases e : a = i ∧ b = t
    · obtain ⟨rfl, rfl⟩ := e
      rw [if_pos ⟨rfl, rfl⟩, if_pos (.inr ⟨rfl, by omega⟩)]; rfl
    · rw [if_neg e, ih a b ha hb]
      by_cases e2 : (a < i ∧ b ≤ n) ∨ (a = i ∧ b < t)
      · rw [if_pos e2, if_pos (by omega)]
      · rw [if_neg e2, if_neg (by omega)]

theorem midL_fw {D : List Int} (hD : D.length = 49) {n k : Nat} (hn : n ≤ 6) (hk : k ≤ n) (h0 : 0 ≤ g D k k)
    (hB : ∀ a b, a ≤ n → b ≤ n → -2305843009213693952 ≤ g D a b ∧ g D a b ≤ 2305843009213693952) (t : Nat) (ht : t ≤ n + 1) :
    ∀ a b, a < 7 → b < 7 → g (midL k n t D) a b = if a < t ∧ b ≤ n then fw k (g D) a b else g D a b := by
  induction t with
  | zero => intro a b ha hb; simp [midL]
  | succ t ih =>
    intro a b ha hb
    rw [midL, rowL_fw (by rw [midL_length]; exact hD) hn hk (by omega) h0 hB (ih (by omega)) (n + 1) (Nat.le_refl _) a b ha hb]
    by_cases e : a < t + 1 ∧ b ≤ n
    · rw [if_pos e, if_pos (by omega)]
    · rw [if_neg e, if_neg (by omega)]

/-- While no diagonal bound is below nought the loops in place do what the steps say. -/
theorem allL_fws {D : List Int} (hD : D.length = 49) {n : Nat} (hn : n ≤ 6) (hB : ∀ a b, a ≤ n → b ≤ n → -4398046511104 ≤ g D a b ∧ g D a b ≤ 4398046511104) (t : Nat) (ht : t ≤ n + 1)
    (h0 : ∀ s, s < t → 0 ≤ fws s (g D) s s) : ∀ a b, a < 7 → b < 7 → g (allL n t D) a b = if a ≤ n ∧ b ≤ n then fws t (g D) a b else g D a b := by
  induction t with
  | zero => intro a b ha hb; simp [allL, fws]
  | succ t ih =>
    have ih := ih (by omega) fun s hs => h0 s (by omega)
    intro a b ha hb
    have hbd := fws_bound hB t (by omega)
    have p : (2 : Int) ^ t ≤ 2 ^ 7 := by
      have : t = 0 ∨ t = 1 ∨ t = 2 ∨ t = 3 ∨ t = 4 ∨ t = 5 ∨ t = 6 := by omega
      rcases this with rfl | rfl | rfl | rfl | rfl | rfl | rfl <;> decide
    have p' : (2 : Int) ^ 7 = 128 := by decide
    rw [allL, midL_fw (by rw [allL_length]; exact hD) hn (by omega)
      (by rw [ih t t (by omega) (by omega), if_pos (by omega)]; exact h0 t (by omega))
      (fun a b ha hb => by
        rw [ih a b (by omega) (by omega), if_pos ⟨ha, hb⟩]
        have := hbd a b ha hb
        omega) (n + 1) (Nat.le_refl _) a b ha hb]
    by_cases e : a < n + 1 ∧ b ≤ n
    · rw [if_pos e, if_pos (by omega)]
      show fw t _ a b = fw t _ a b
      unfold fw
      rw [ih a b ha hb, ih a t ha (by omega), ih t b (by omega) hb, if_pos (by omega), if_pos (by omega), if_pos (by omega)]
    · rw [if_neg e, if_neg (by omega), ih a b ha hb, if_neg (by omega)]

def diagOk (n : Nat) (D : List Int) : Prop := ∀ i, i ≤ n → 0 ≤ g D i i

theorem allL_stage {D : List Int} (hD : D.length = 49) {n : Nat} (hn : n ≤ 6) (hB : ∀ a b, a ≤ n → b ≤ n → -4398046511104 ≤ g D a b ∧ g D a b ≤ 4398046511104)
    (h : diagOk n (allL n (n + 1) D)) (t : Nat) (ht : t ≤ n + 1) : ∀ s, s < t → 0 ≤ fws s (g D) s s := by
  induction t with
  | zero => intro s hs; omega
  | succ t ih =>
    have ih := ih (by omega)
    intro s hs
    by_cases e : s < t
    · exact ih s e
    · obtain rfl : s = t := by omega
      have x := allL_fws hD hn hB s (by omega) ih s s (by omega) (by omega)
      rw [if_pos (by omega)] at x
      rw [← x]
      exact Int.le_trans (h s (by omega)) (allL_le hD hn (by omega) (by omega) (by omega))

theorem allL_ok {D : List Int} (hD : D.length = 49) {n : Nat} (hn : n ≤ 6) (hB : ∀ a b, a ≤ n → b ≤ n → -4398046511104 ≤ g D a b ∧ g D a b ≤ 4398046511104)
    (h : diagOk n (allL n (n + 1) D)) : Cl n (g D) (g (allL n (n + 1) D)) ∧ ∀ a b, a < 7 → b < 7 → ¬ (a ≤ n ∧ b ≤ n) → g (allL n (n + 1) D) a b = g D a b := by
  have hs := allL_stage hD hn hB h (n + 1) (Nat.le_refl _)
  have hf := allL_fws hD hn hB (n + 1) (Nat.le_refl _) hs
  have hc : Cl n (g D) (fws (n + 1) (g D)) := fws_cl fun i hi => by
    have := h i hi
    rwa [hf i i (by omega) (by omega), if_pos ⟨hi, hi⟩] at this
  have he : ∀ i j, i ≤ n → j ≤ n → g (allL n (n + 1) D) i j = fws (n + 1) (g D) i j := fun i j hi hj => by rw [hf i j (by omega) (by omega), if_pos ⟨hi, hj⟩]
  refine ⟨⟨fun i j hi hj => by rw [he i j hi hj]; exact hc.1 i j hi hj, ⟨h, fun i j k hi hj hk => by rw [he i j hi hj, he i k hi hk, he k j hk hj]; exact hc.2.1.2 i j k hi hj hk⟩, fun m hm hl i j hi hj => by rw [he i j hi hj]; exact hc.2.2 m hm hl i j hi hj⟩, fun a b ha hb e => by rw [hf a b ha hb, if_neg e]⟩

theorem allL_bad {D : List Int} (hD : D.length = 49) {n : Nat} (hn : n ≤ 6) (hB : ∀ a b, a ≤ n → b ≤ n → -4398046511104 ≤ g D a b ∧ g D a b ≤ 4398046511104)
    (h : ¬ diagOk n (allL n (n + 1) D)) : ∃ i, i ≤ n ∧ fws (n + 1) (g D) i i < 0 := by
  apply Classical.byContradiction
  intro hc
  apply h
  have h0 : ∀ i, i ≤ n → 0 ≤ fws (n + 1) (g D) i i := fun i hi => by
    apply Classical.byContradiction
    intro hx
    exact hc ⟨i, hi, by omega⟩
  have hs : ∀ s, s < n + 1 → 0 ≤ fws s (g D) s s := fun s hs => Int.le_trans (h0 s (by omega)) (fws_mono _ s s s (n + 1) (by omega))
  intro i hi
  rw [allL_fws hD hn hB (n + 1) (Nat.le_refl _) hs i i (by omega) (by omega), if_pos ⟨hi, hi⟩]
  exact h0 i hi

theorem allL_none {D : List Int} (hD : D.length = 49) {n : Nat} (hn : n ≤ 6) (hB : ∀ a b, a ≤ n → b ≤ n → -4398046511104 ≤ g D a b ∧ g D a b ≤ 4398046511104)
    (h : ¬ diagOk n (allL n (n + 1) D)) : NoCl n (g D) := by
  obtain ⟨i, hi, h0⟩ := allL_bad hD hn hB h
  exact fws_no hi h0

/-! ### The reference's rounds -/

def relaxR (k i j : Nat) (D : List Int) : List Int := st D i j (max (min (g D i j) (wrap64 (g D i k + g D k j))) (-35184372088832))
def kR (i j : Nat) : Nat → List Int → List Int
  | 0, D => D
  | t + 1, D => relaxR t i j (kR i j t D)
def jR (i n : Nat) : Nat → List Int → List Int
  | 0, D => D
  | t + 1, D => kR i t (n + 1) (jR i n t D)
def iR (n : Nat) : Nat → List Int → List Int
  | 0, D => D
  | t + 1, D => jR t n (n + 1) (iR n t D)
def rR (n : Nat) : Nat → List Int → List Int
  | 0, D => D
  | t + 1, D => iR n (n + 1) (rR n t D)

/-- What holds of a row, and of what each single step makes of it, holds behind all of them. -/
theorem kR_inv {n : Nat} {P : List Int → Prop} (hs : ∀ k i j D, k ≤ n → i ≤ n → j ≤ n → P D → P (relaxR k i j D)) {i j : Nat} (hi : i ≤ n) (hj : j ≤ n) {D : List Int} (h : P D) (t : Nat) (ht : t ≤ n + 1) : P (kR i j t D) := by
  induction t with
  | zero => exact h
  | succ t ih => exact hs _ _ _ _ (by omega) hi hj (ih (by omega))
theorem jR_inv {n : Nat} {P : List Int → Prop} (hs : ∀ k i j D, k ≤ n → i ≤ n → j ≤ n → P D → P (relaxR k i j D)) {i : Nat} (hi : i ≤ n) {D : List Int} (h : P D) (t : Nat) (ht : t ≤ n + 1) : P (jR i n t D) := by
  induction t with
  | zero => exact h
  | succ t ih => exact kR_inv hs hi (by omega) (ih (by omega)) _ (Nat.le_refl _)
theorem iR_inv {n : Nat} {P : List Int → Prop} (hs : ∀ k i j D, k ≤ n → i ≤ n → j ≤ n → P D → P (relaxR k i j D)) {D : List Int} (h : P D) (t : Nat) (ht : t ≤ n + 1) : P (iR n t D) := by
  induction t with
  | zero => exact h
  | succ t ih => exact jR_inv hs (by omega) (ih (by omega)) _ (Nat.le_refl _)
theorem rR_inv {n : Nat} {P : List Int → Prop} (hs : ∀ k i j D, k ≤ n → i ≤ n → j ≤ n → P D → P (relaxR k i j D)) {D : List Int} (h : P D) (t : Nat) : P (rR n t D) := by
  induction t with
  | zero => exact h
  | succ t ih => exact iR_inv hs ih _ (Nat.le_refl _)

/-- The reference's bounds: 49 of them, none too great or too small; unturned beyond the variables. -/
def Bk (n : Nat) (D0 D : List Int) : Prop :=
  D.length = 49 ∧ (∀ a b, a ≤ n → b ≤ n → -35184372088832 ≤ g D a b ∧ g D a b ≤ 4398046511104) ∧ ∀ a b, a < 7 → b < 7 → ¬ (a ≤ n ∧ b ≤ n) → g D a b = g D0 a b

theorem Bk_step {n : Nat} (hn : n ≤ 6) {D0 : List Int} (k i j : Nat) (D : List Int) (hk : k ≤ n) (hi : i ≤ n) (hj : j ≤ n) (h : Bk n D0 D) : Bk n D0 (relaxR k i j D) := by
  obtain ⟨h1, h2, h3⟩ := h
  have b1 := h2 i j hi hj
  have b2 := h2 i k hi hk
  have b3 := h2 k j hk hj
  refine ⟨by rw [relaxR, st_length]; exact h1, fun a b ha hb => ?_, fun a b ha hb e => ?_⟩
  · rw [relaxR, g_st h1 (by omega) (by omega) (by omega) (by omega)]
    split
    · omega
    · exact h2 a b ha hb
  · rw [relaxR, g_st h1 (by omega) (by omega) ha hb, if_neg (by omega)]
    exact h3 a b ha hb e

theorem relaxR_val {n : Nat} (hn : n ≤ 6) {D0 D : List Int} {k i j : Nat} (hk : k ≤ n) (hi : i ≤ n) (hj : j ≤ n) (h : Bk n D0 D) {a b : Nat} (ha : a ≤ n) (hb : b ≤ n) :
    g (relaxR k i j D) a b = if a = i ∧ b = j then max (min (g D i j) (g D i k + g D k j)) (-35184372088832) else g D a b := by
  obtain ⟨h1, h2, h3⟩ := h
  have b2 := h2 i k hi hk
  have b3 := h2 k j hk hj
  rw [relaxR, g_st h1 (by omega) (by omega) (by omega) (by omega), wrap_in (by omega) (by omega)]

/-- A closed one below the bounds stays below. -/
theorem rR_above {n : Nat} (hn : n ≤ 6) {D : List Int} (hB : Bk n D D) {m : Mx} (hm : Clo n m) (hl : Lem n m (g D)) (t : Nat) : Lem n m (g (rR n t D)) ∧ Bk n D (rR n t D) := by
  refine rR_inv (P := fun E => Lem n m (g E) ∧ Bk n D E) (fun k i j E hk hi hj h => ⟨fun a b ha hb => ?_, Bk_step hn k i j E hk hi hj h.2⟩) ⟨hl, hB⟩ t
  have x1 := h.1 i j hi hj
  have x2 := h.1 i k hi hk
  have x3 := h.1 k j hk hj
  have y := hm.2 i j k hi hj hk
  rw [relaxR_val hn hk hi hj h.2 ha hb]
  split
  · rename_i e; obtain ⟨rfl, rfl⟩ := e; omega
  · exact h.1 a b ha hb

/-- One round does at least what one of Floyd's and Warshall's steps does. -/
theorem iR_fw {n : Nat} (hn : n ≤ 6) {D0 E : List Int} (hB : Bk n D0 E) {r : Nat} (hr : r ≤ n) {F : Mx} (hF : Lem n (g E) F) (hlow : ∀ a b, a ≤ n → b ≤ n → -35184372088832 ≤ fw r F a b) :
    Lem n (g (iR n (n + 1) E)) (fw r F) := by
  have hs : ∀ k i j D, k ≤ n → i ≤ n → j ≤ n → (Bk n D0 D ∧ Lem n (g D) F) → Bk n D0 (relaxR k i j D) ∧ Lem n (g (relaxR k i j D)) F := fun k i j D hk hi hj h => by
    refine ⟨Bk_step hn k i j D hk hi hj h.1, fun a b ha hb => ?_⟩
    rw [relaxR_val hn hk hi hj h.1 ha hb]
    have z := h.2 a b ha hb
    have y := h.1.2.1 a b ha hb
    split
    · rename_i e; obtain ⟨rfl, rfl⟩ := e; omega
    · exact z
  have keep : ∀ a b, a ≤ n → b ≤ n → ∀ k i j D, k ≤ n → i ≤ n → j ≤ n → ((Bk n D0 D ∧ Lem n (g D) F) ∧ g D a b ≤ fw r F a b) → (Bk n D0 (relaxR k i j D) ∧ Lem n (g (relaxR k i j D)) F) ∧ g (relaxR k i j D) a b ≤ fw r F a b :=
    fun a b ha hb k i j D hk hi hj h => by
      refine ⟨hs k i j D hk hi hj h.1, ?_⟩
      rw [relaxR_val hn hk hi hj h.1.1 ha hb]
      have z := h.2
      have y := h.1.1.2.1 a b ha hb
      split
      · rename_i e; obtain ⟨rfl, rfl⟩ := e; omega
      · exact z
  have hk0 : ∀ i j D, i ≤ n → j ≤ n → (Bk n D0 D ∧ Lem n (g D) F) → ∀ t, t ≤ n + 1 → (Bk n D0 (kR i j t D) ∧ Lem n (g (kR i j t D)) F) := fun i j D hi hj h t ht => kR_inv hs hi hj h t ht
  have hk1 : ∀ i j D, i ≤ n → j ≤ n → (Bk n D0 D ∧ Lem n (g D) F) → ∀ t, t ≤ n + 1 → r < t → g (kR i j t D) i j ≤ fw r F i j := by
    intro i j D hi hj h t ht hrt
    induction t with
    | zero => omega
    | succ t ih =>
      have hb := hk0 i j D hi hj h t (by omega)
      by_cases e : r = t
      · subst e
        rw [kR, relaxR_val hn hr hi hj hb.1 hi hj, if_pos ⟨rfl, rfl⟩]
        have x1 := hb.2 i j hi hj
        have x2 := hb.2 i r hi hr
        have x3 := hb.2 r j hr hj
        have x4 := hlow i j hi hj
        unfold fw at x4 ⊢
        omega
      · exact (keep i j hi hj _ _ _ _ (by omega) hi hj ⟨hb, ih (by omega) (by omega)⟩).2
  have hj1 : ∀ i D, i ≤ n → (Bk n D0 D ∧ Lem n (g D) F) → ∀ t, t ≤ n + 1 → ∀ j, j < t → g (jR i n t D) i j ≤ fw r F i j := by
    intro i D hi h t
    induction t with
    | zero => intro _ j hj; omega
    | succ t ih =>
      intro ht j hj
      have hb : Bk n D0 (jR i n t D) ∧ Lem n (g (jR i n t D)) F := jR_inv hs hi h t (by omega)
      by_cases e : j = t
      · subst e; exact hk1 i j _ hi (by omega) hb _ (Nat.le_refl _) (by omega)
      · exact (kR_inv (keep i j hi (by omega)) hi (by omega) ⟨hb, ih (by omega) j (by omega)⟩ (n + 1) (Nat.le_refl _)).2
  have hi1 : ∀ t, t ≤ n + 1 → ∀ i j, i < t → j ≤ n → g (iR n t E) i j ≤ fw r F i j := by
    intro t
    induction t with
    | zero => intro _ i j hi; omega
    | succ t ih =>
      intro ht i j hi hj
      have hb : Bk n D0 (iR n t E) ∧ Lem n (g (iR n t E)) F := iR_inv hs ⟨hB, hF⟩ t (by omega)
      by_cases e : i = t
      · subst e; exact hj1 i _ (by omega) hb _ (Nat.le_refl _) j (by omega)
      · exact (jR_inv (keep i j (by omega) hj) (by omega) ⟨hb, ih (by omega) i j (by omega) hj⟩ (n + 1) (Nat.le_refl _)).2
  exact fun i j hi hj => hi1 (n + 1) (Nat.le_refl _) i j (by omega) hj

theorem rR_fws {n : Nat} (hn : n ≤ 6) {D : List Int} (hB : Bk n D D) (hL : ∀ a b, a ≤ n → b ≤ n → -274877906944 ≤ g D a b) (t : Nat) (ht : t ≤ n + 1) : Lem n (g (rR n t D)) (fws t (g D)) := by
  have hs : ∀ t, Bk n D (rR n t D) := fun t => rR_inv (P := Bk n D) (fun k i j E hk hi hj h => Bk_step hn k i j E hk hi hj h) hB t
  have hlow : ∀ t, t ≤ n + 1 → ∀ a b, a ≤ n → b ≤ n → -(274877906944 * 2 ^ t) ≤ fws t (g D) a b := by
    intro t
    induction t with
    | zero => intro _ a b ha hb; have := hL a b ha hb; simp only [fws, Int.pow_zero]; omega
    | succ t ih =>
      intro ht a b ha hb
      have x1 := ih (by omega) a b ha hb
      have x2 := ih (by omega) a t ha (by omega)
      have x3 := ih (by omega) t b (by omega) hb
      have e : (274877906944 : Int) * 2 ^ (t + 1) = 2 * (274877906944 * 2 ^ t) := by rw [Int.pow_succ]; rw [← Int.mul_assoc, Int.mul_comm]
      have p : (0 : Int) ≤ 274877906944 * 2 ^ t := Int.mul_nonneg (by decide) (Int.pow_nonneg (by decide))
      rw [e]
      show _ ≤ min _ _
      omega
  induction t with
  | zero => exact Lem.refl _ _
  | succ t ih =>
    refine iR_fw hn (hs t) (by omega) (ih (by omega)) fun a b ha hb => ?_
    have x := hlow (t + 1) ht a b ha hb
    have p : (2 : Int) ^ (t + 1) ≤ 2 ^ 7 := by
      have : t = 0 ∨ t = 1 ∨ t = 2 ∨ t = 3 ∨ t = 4 ∨ t = 5 ∨ t = 6 := by omega
      rcases this with rfl | rfl | rfl | rfl | rfl | rfl | rfl <;> decide
    have p' : (2 : Int) ^ 7 = 128 := by decide
    have : fws (t + 1) (g D) a b = fw t (fws t (g D)) a b := rfl
    omega

theorem rR_mono {n : Nat} (hn : n ≤ 6) {D : List Int} (hB : Bk n D D) {s t : Nat} (hst : s ≤ t) : Lem n (g (rR n t D)) (g (rR n s D)) := by
  have hs : ∀ t, Bk n D (rR n t D) := fun t => rR_inv (P := Bk n D) (fun k i j E hk hi hj h => Bk_step hn k i j E hk hi hj h) hB t
  induction t with
  | zero => obtain rfl : s = 0 := by omega
            exact Lem.refl _ _
  | succ t ih =>
    by_cases e : s = t + 1
    · subst e; exact Lem.refl _ _
    · refine Lem.trans ?_ (ih (by omega))
      refine (iR_inv (n := n) (P := fun E => Bk n D E ∧ Lem n (g E) (g (rR n t D))) (fun k i j E hk hi hj h => ⟨Bk_step hn k i j E hk hi hj h.1, fun a b ha hb => ?_⟩) ⟨hs t, Lem.refl _ _⟩ (n + 1) (Nat.le_refl _)).2
      rw [relaxR_val hn hk hi hj h.1 ha hb]
      have z := h.2 a b ha hb
      have y := h.1.2.1 a b ha hb
      split
      · rename_i e; obtain ⟨rfl, rfl⟩ := e; omega
      · exact z

/-- THE TWO CLOSURES ARE THE SAME. -/
theorem close_same {D : List Int} (hD : D.length = 49) {n : Nat} (hn : n ≤ 6) (hB : ∀ a b, a ≤ n → b ≤ n → -274877906944 ≤ g D a b ∧ g D a b ≤ 4398046511104) :
    (diagOk n (allL n (n + 1) D) ↔ diagOk n (rR n (n + 2) D)) ∧ (diagOk n (allL n (n + 1) D) → allL n (n + 1) D = rR n (n + 2) D) := by
  have hBk : Bk n D D := ⟨hD, fun a b ha hb => by have := hB a b ha hb; omega, fun _ _ _ _ _ => rfl⟩
  have hB' : ∀ a b, a ≤ n → b ≤ n → -4398046511104 ≤ g D a b ∧ g D a b ≤ 4398046511104 := fun a b ha hb => by have := hB a b ha hb; omega
  have hf := rR_fws hn hBk (fun a b ha hb => (hB a b ha hb).1) (n + 1) (Nat.le_refl _)
  have hmono := rR_mono hn hBk (s := n + 1) (t := n + 2) (by omega)
  have hlen : Bk n D (rR n (n + 2) D) := rR_inv (P := Bk n D) (fun k i j E hk hi hj h => Bk_step hn k i j E hk hi hj h) hBk _
  have heq : diagOk n (allL n (n + 1) D) → ∀ i j, i ≤ n → j ≤ n → g (allL n (n + 1) D) i j = g (rR n (n + 2) D) i j := by
    intro h i j hi hj
    obtain ⟨hc, ho⟩ := allL_ok hD hn hB' h
    have hu := (rR_above hn hBk hc.2.1 hc.1 (n + 2)).1 i j hi hj
    have hs := allL_stage hD hn hB' h (n + 1) (Nat.le_refl _)
    have hx := allL_fws hD hn hB' (n + 1) (Nat.le_refl _) hs i j (by omega) (by omega)
    rw [if_pos ⟨hi, hj⟩] at hx
    have h1 := hf i j hi hj
    have h2 := hmono i j hi hj
    omega
  refine ⟨⟨fun h i hi => ?_, fun h => ?_⟩, fun h => ?_⟩
  · rw [← heq h i i hi hi]; exact h i hi
  · apply Classical.byContradiction
    intro hno
    obtain ⟨i, hi, h0⟩ := allL_bad hD hn hB' hno
    have h1 := hf i i hi hi
    have h2 := hmono i i hi hi
    have h3 := h i hi
    omega
  · refine g_ext (by rw [allL_length]; exact hD) hlen.1 fun a b ha hb => ?_
    by_cases e : a ≤ n ∧ b ≤ n
    · exact heq h a b e.1 e.2
    · rw [(allL_ok hD hn hB' h).2 a b ha hb e, hlen.2.2 a b ha hb e]

end Go.Proofs.YtgmciihlmgeecaaDoor.Zm
