/- Plain mathematics of difference bounds: the greatest closed matrix below a given one; Floyd and Warshall's steps give it, or show that there is none; so do rounds over all three. Conditions: none but those that each lemma names. -/
namespace Go.Proofs.Ytgmciihlmgeecaa.Zm

abbrev Mx := Nat → Nat → Int

/-- Closed: nothing below nought on the diagonal; each bound holds what two others say. -/
def Clo (n : Nat) (m : Mx) : Prop := (∀ i, i ≤ n → 0 ≤ m i i) ∧ ∀ i j k, i ≤ n → j ≤ n → k ≤ n → m i j ≤ m i k + m k j
def Lem (n : Nat) (a b : Mx) : Prop := ∀ i j, i ≤ n → j ≤ n → a i j ≤ b i j
/-- c is the greatest closed one below d. -/
def Cl (n : Nat) (d c : Mx) : Prop := Lem n c d ∧ Clo n c ∧ ∀ m, Clo n m → Lem n m d → Lem n m c
def NoCl (n : Nat) (d : Mx) : Prop := ∀ m, Clo n m → Lem n m d → False

theorem Lem.refl (n : Nat) (a : Mx) : Lem n a a := fun _ _ _ _ => Int.le_refl _
theorem Lem.trans {n : Nat} {a b c : Mx} (h : Lem n a b) (h' : Lem n b c) : Lem n a c := fun i j hi hj => Int.le_trans (h i j hi hj) (h' i j hi hj)

theorem Cl.uniq {n : Nat} {d c c' : Mx} (h : Cl n d c) (h' : Cl n d c') {i j : Nat} (hi : i ≤ n) (hj : j ≤ n) : c i j = c' i j :=
  Int.le_antisymm (h'.2.2 _ h.2.1 h.1 i j hi hj) (h.2.2 _ h'.2.1 h'.1 i j hi hj)

theorem Cl.no {n : Nat} {d c : Mx} (h : Cl n d c) (h' : NoCl n d) : False := h' c h.2.1 h.1

/-- The opposite bound holds a closed one from below. -/
theorem Clo.opp {n : Nat} {m : Mx} (h : Clo n m) {i j : Nat} (hi : i ≤ n) (hj : j ≤ n) : 0 ≤ m i j + m j i := by
  have a := h.1 i hi
  have b := h.2 i i j hi hi hj
  omega

theorem Clo.self {n : Nat} {m : Mx} (h : Clo n m) : Cl n m m := ⟨Lem.refl _ _, h, fun _ _ hl => hl⟩

/-- Of two with the same closed ones below them the closures are the same. -/
theorem Cl.of_same {n : Nat} {d d' c : Mx} (h : Cl n d c) (hs : ∀ m, Clo n m → (Lem n m d ↔ Lem n m d')) : Cl n d' c :=
  ⟨(hs c h.2.1).1 h.1, h.2.1, fun m hm hl => h.2.2 m hm ((hs m hm).2 hl)⟩
theorem NoCl.of_same {n : Nat} {d d' : Mx} (h : NoCl n d) (hs : ∀ m, Clo n m → (Lem n m d ↔ Lem n m d')) : NoCl n d' :=
  fun m hm hl => h m hm ((hs m hm).2 hl)

/-! ### Floyd and Warshall -/

def fw (k : Nat) (d : Mx) : Mx := fun i j => min (d i j) (d i k + d k j)
def Up (n t : Nat) (d : Mx) : Prop := ∀ i j l, i ≤ n → j ≤ n → l < t → d i j ≤ d i l + d l j

theorem fw_up {n k : Nat} {d : Mx} (hk : k ≤ n) (h0 : 0 ≤ d k k) (h : Up n k d) : Up n (k + 1) (fw k d) := by
  intro i j l hi hj hl
  unfold fw
  by_cases e : l = k
  · subst e; omega
  · have hl' : l < k := by omega
    have a1 := h i j l hi hj hl'
    have a2 := h k j l hk hj hl'
    have a3 := h i k l hi hk hl'
    have a4 := h k k l hk hk hl'
    omega

def fws : Nat → Mx → Mx
  | 0, d => d
  | k + 1, d => fw k (fws k d)

theorem fws_step (k : Nat) (d : Mx) (i j : Nat) : fws (k + 1) d i j ≤ fws k d i j := by
  show min _ _ ≤ _
  omega

theorem fws_mono (d : Mx) (i j : Nat) (k l : Nat) (h : k ≤ l) : fws l d i j ≤ fws k d i j := by
  induction l with
  | zero => obtain rfl : k = 0 := by omega
            exact Int.le_refl _
  | succ l ih =>
    by_cases e : k = l + 1
    · subst e; exact Int.le_refl _
    · exact Int.le_trans (fws_step l d i j) (ih (by omega))

theorem fws_above {n : Nat} {m d : Mx} (hm : Clo n m) (h : Lem n m d) (k : Nat) (hk : k ≤ n + 1) : Lem n m (fws k d) := by
  induction k with
  | zero => exact h
  | succ k ih =>
    intro i j hi hj
    have a := ih (by omega) i j hi hj
    have b := ih (by omega) i k hi (by omega)
    have c := ih (by omega) k j (by omega) hj
    have e := hm.2 i j k hi hj (by omega)
    show _ ≤ min _ _
    omega

theorem fws_up {n : Nat} {d : Mx} (k : Nat) (hk : k ≤ n + 1) (h : ∀ t, t < k → 0 ≤ fws t d t t) : Up n k (fws k d) := by
  induction k with
  | zero => intro i j l _ _ hl; omega
  | succ k ih => exact fw_up (by omega) (h k (by omega)) (ih (by omega) fun t ht => h t (by omega))

theorem fws_cl {n : Nat} {d : Mx} (h : ∀ i, i ≤ n → 0 ≤ fws (n + 1) d i i) : Cl n d (fws (n + 1) d) := by
  refine ⟨fun i j _ _ => fws_mono d i j 0 (n + 1) (by omega), ⟨h, ?_⟩, fun m hm hl => fws_above hm hl _ (Nat.le_refl _)⟩
  have u := fws_up (n := n) (d := d) (n + 1) (Nat.le_refl _) (fun t ht => Int.le_trans (h t (by omega)) (fws_mono d t t t (n + 1) (by omega)))
  intro i j k hi hj hk
  exact u i j k hi hj (by omega)

theorem fws_no {n : Nat} {d : Mx} {i : Nat} (hi : i ≤ n) (h : fws (n + 1) d i i < 0) : NoCl n d := by
  intro m hm hl
  have a := fws_above hm hl (n + 1) (Nat.le_refl _) i i hi hi
  have b := hm.1 i hi
  omega

/-- How great the bounds may grow, step by step. -/
theorem fws_bound {n : Nat} {d : Mx} {B : Int} (h : ∀ i j, i ≤ n → j ≤ n → -B ≤ d i j ∧ d i j ≤ B) (k : Nat) (hk : k ≤ n + 1) :
    ∀ i j, i ≤ n → j ≤ n → -(B * 2 ^ k) ≤ fws k d i j ∧ fws k d i j ≤ B := by
  induction k with
  | zero => intro i j hi hj; have := h i j hi hj; simp only [fws, Int.pow_zero, Int.mul_one]; exact this
  | succ k ih =>
    intro i j hi hj
    have a := ih (by omega) i j hi hj
    have b := ih (by omega) i k hi (by omega)
    have c := ih (by omega) k j (by omega) hj
    have e : B * 2 ^ (k + 1) = 2 * (B * 2 ^ k) := by rw [Int.pow_succ]; rw [← Int.mul_assoc, Int.mul_comm]
    have b0 := h 0 0 (by omega) (by omega)
    have o : (0 : Int) ≤ B * 2 ^ k := Int.mul_nonneg (by omega) (Int.pow_nonneg (by decide))
    rw [e]
    show -_ ≤ min _ _ ∧ min _ _ ≤ _
    omega

end Go.Proofs.Ytgmciihlmgeecaa.Zm
