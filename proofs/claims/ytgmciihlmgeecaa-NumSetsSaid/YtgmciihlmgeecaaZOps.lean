import Derived.Test.YtgmciihlmgeecaaZList
/- Zones in plain mathematics: what the program's and the reference's calls make of bounds, and what sets of closed bounds they tell. Conditions: those that each lemma names. -/
namespace Go.Proofs.Ytgmciihlmgeecaa.Zm
open Go.RowKit

/-- How many variables, none, bounds. -/
abbrev Zo := Int × Bool × List Int
def okN (n : Int) : Bool := decide (0 ≤ n) && decide (n ≤ 6)
def zeroL : List Int := List.replicate 49 0

/-- The numbers' own bounds. -/
def ownT : Nat → List Int → List Int
  | 0, D => D
  | t + 1, D => st (st (ownT t D) (t + 1) 0 (min (g (ownT t D) (t + 1) 0) 2147483647)) 0 (t + 1) (min (g (ownT t D) 0 (t + 1)) 2147483648)
/-- Bounds of a row and a column left out. -/
def forT (r : Nat) : Nat → List Int → List Int
  | 0, D => D
  | t + 1, D => if t = r then forT r t D else st (st (forT r t D) t r 1099511627776) r t 1099511627776
/-- A row that is so much greater. -/
def movT (r : Nat) (by' : Int) : Nat → List Int → List Int
  | 0, D => D
  | t + 1, D => if t = r then movT r by' t D else
      let E := movT r by' t D
      let F := st E r t (wrap64 (g E r t + by'))
      st F t r (wrap64 (g F t r - by'))
def diagB (n : Nat) (D : List Int) : Bool := (List.range (n + 1)).all fun i => decide (0 ≤ g D i i)
def closeZ (z : Zo) : Zo :=
  if z.2.1 || !okN z.1 then z else
    if diagB z.1.toNat (allL z.1.toNat (z.1.toNat + 1) (ownT z.1.toNat z.2.2)) then (z.1, false, allL z.1.toNat (z.1.toNat + 1) (ownT z.1.toNat z.2.2)) else (z.1, true, zeroL)
def closeR (z : Zo) : Zo :=
  if z.2.1 then (z.1, true, zeroL) else
    if diagB z.1.toNat (rR z.1.toNat (z.1.toNat + 2) (ownT z.1.toNat z.2.2)) then (z.1, false, rR z.1.toNat (z.1.toNat + 2) (ownT z.1.toNat z.2.2)) else (z.1, true, zeroL)

theorem diagB_ok {n : Nat} {D : List Int} : diagB n D = true ↔ diagOk n D := by
  unfold diagB diagOk
  rw [List.all_eq_true]
  constructor
  · intro h i hi
    simpa using h i (List.mem_range.2 (by omega))
  · intro h i hi
    simpa using h i (by have := List.mem_range.1 hi; omega)

theorem g_zero (i j : Nat) : g zeroL i j = 0 := by
  unfold g zeroL
  rw [List.getD_eq_getElem?_getD, List.getElem?_replicate]
  split <;> rfl
theorem zeroL_len : zeroL.length = 49 := by unfold zeroL; rw [List.length_replicate]

theorem ownT_len (t : Nat) (D : List Int) : (ownT t D).length = D.length := by
  induction t with
  | zero => rfl
  | succ t ih => rw [ownT, st_length, st_length, ih]
theorem forT_len (r t : Nat) (D : List Int) : (forT r t D).length = D.length := by
  induction t with
  | zero => rfl
  | succ t ih => unfold forT; split <;> simp [st_length, ih]
theorem movT_len (r t : Nat) (b : Int) (D : List Int) : (movT r b t D).length = D.length := by
  induction t with
  | zero => rfl
  | succ t ih => unfold movT; split <;> simp [st_length, ih]

theorem g_own {D : List Int} (hl : D.length = 49) (t : Nat) (ht : t ≤ 6) (a b : Nat) (ha : a < 7) (hb : b < 7) :
    g (ownT t D) a b = if b = 0 ∧ 1 ≤ a ∧ a ≤ t then min (g D a 0) 2147483647 else if a = 0 ∧ 1 ≤ b ∧ b ≤ t then min (g D 0 b) 2147483648 else g D a b := by
  induction t generalizing a b with
  | zero => rw [ownT, if_neg (by omega), if_neg (by omega)]
  | succ t ih =>
    have l1 : (ownT t D).length = 49 := by rw [ownT_len]; exact hl
    have e1 := ih (by omega) (t + 1) 0 (by omega) (by omega)
    have e2 := ih (by omega) 0 (t + 1) (by omega) (by omega)
    rw [if_neg (by omega), if_neg (by omega)] at e1 e2
    rw [ownT, g_st (by rw [st_length]; exact l1) (by omega) (by omega) ha hb, g_st l1 (by omega) (by omega) ha hb, ih (by omega) a b ha hb, e1, e2]
    by_cases c1 : a = 0 ∧ b = t + 1
    · obtain ⟨rfl, rfl⟩ := c1
      rw [if_pos ⟨rfl, rfl⟩, if_neg (by omega), if_pos (by omega)]
    · rw [if_neg c1]
      by_cases c2 : a = t + 1 ∧ b = 0
      · obtain ⟨rfl, rfl⟩ := c2
        rw [if_pos ⟨rfl, rfl⟩, if_pos (by omega)]
      · rw [if_neg c2]
        by_cases c3 : b = 0 ∧ 1 ≤ a ∧ a ≤ t
        · rw [if_pos c3, if_pos (show b = 0 ∧ 1 ≤ a ∧ a ≤ t + 1 by omega)]
        · have n3 : ¬ (b = 0 ∧ 1 ≤ a ∧ a ≤ t + 1) := by omega
          rw [if_neg c3, if_neg n3]
          by_cases c4 : a = 0 ∧ 1 ≤ b ∧ b ≤ t
          · rw [if_pos c4, if_pos (show a = 0 ∧ 1 ≤ b ∧ b ≤ t + 1 by omega)]
          · have n4 : ¬ (a = 0 ∧ 1 ≤ b ∧ b ≤ t + 1) := by omega
            rw [if_neg c4, if_neg n4]

theorem g_for {D : List Int} (hl : D.length = 49) {r : Nat} (hr : r < 7) (t : Nat) (ht : t ≤ 7) (a b : Nat) (ha : a < 7) (hb : b < 7) :
    g (forT r t D) a b = if (b = r ∧ a ≠ r ∧ a < t) ∨ (a = r ∧ b ≠ r ∧ b < t) then 1099511627776 else g D a b := by
  induction t generalizing a b with
  | zero => rw [forT, if_neg (by omega)]
  | succ t ih =>
    have l1 : (forT r t D).length = 49 := by rw [forT_len]; exact hl
    rw [forT]
    by_cases e : t = r
    · subst e
      rw [if_pos rfl, ih (by omega) a b ha hb]
      by_cases c : (b = t ∧ a ≠ t ∧ a < t) ∨ (a = t ∧ b ≠ t ∧ b < t)
      · rw [if_pos c, if_pos (by omega)]
      · rw [if_neg c, if_neg (by omega)]
    · rw [if_neg e, g_st (by rw [st_length]; exact l1) (by omega) (by omega) ha hb, g_st l1 (by omega) (by omega) ha hb, ih (by omega) a b ha hb]
      by_cases c1 : a = r ∧ b = t
      · rw [if_pos c1, if_pos (by omega)]
      · rw [if_neg c1]
        by_cases c2 : a = t ∧ b = r
        · rw [if_pos c2, if_pos (by omega)]
        · rw [if_neg c2]
          by_cases c : (b = r ∧ a ≠ r ∧ a < t) ∨ (a = r ∧ b ≠ r ∧ b < t)
          · rw [if_pos c, if_pos (by omega)]
          · rw [if_neg c, if_neg (by omega)]

/-- none of the bounds that are moved leaves the numbers of 64 bits -/
theorem g_mov {D : List Int} (hl : D.length = 49) {r : Nat} (hr : r < 7) {c : Int} (hc : -1099511627776 ≤ c ∧ c ≤ 1099511627776)
    (t : Nat) (ht : t ≤ 7) (hB : ∀ a b, a < t → b < t → -4398046511104 ≤ g D a b ∧ g D a b ≤ 4398046511104) (hrt : ∀ a, a < t → (-4398046511104 ≤ g D a r ∧ g D a r ≤ 4398046511104) ∧ -4398046511104 ≤ g D r a ∧ g D r a ≤ 4398046511104) (a b : Nat) (ha : a < 7) (hb : b < 7) :
    g (movT r c t D) a b = if b = r ∧ a ≠ r ∧ a < t then g D a b - c else if a = r ∧ b ≠ r ∧ b < t then g D a b + c else g D a b := by
  induction t generalizing a b with
  | zero => rw [movT, if_neg (by omega), if_neg (by omega)]
  | succ t ih =>
    have l1 : (movT r c t D).length = 49 := by rw [movT_len]; exact hl
    have ih := fun a b ha hb => ih (by omega) (fun a b ha hb => hB a b (by omega) (by omega)) (fun a ha => hrt a (by omega)) a b ha hb
    rw [movT]
    by_cases e : t = r
    · subst e
      rw [if_pos rfl, ih a b ha hb]
      by_cases c1 : b = t ∧ a ≠ t ∧ a < t
      · rw [if_pos c1, if_pos (show b = t ∧ a ≠ t ∧ a < t + 1 by omega)]
      · have n1 : ¬ (b = t ∧ a ≠ t ∧ a < t + 1) := by omega
        rw [if_neg c1, if_neg n1]
        by_cases c2 : a = t ∧ b ≠ t ∧ b < t
        · rw [if_pos c2, if_pos (show a = t ∧ b ≠ t ∧ b < t + 1 by omega)]
        · have n2 : ¬ (a = t ∧ b ≠ t ∧ b < t + 1) := by omega
          rw [if_neg c2, if_neg n2]
    · rw [if_neg e]
      have x1 := ih r t hr (by omega)
      have x2 := ih t r (by omega) hr
      rw [if_neg (by omega), if_neg (by omega)] at x1 x2
      have h0 := hrt t (by omega)
      show g (st (st (movT r c t D) r t (wrap64 (g (movT r c t D) r t + c))) t r (wrap64 (g (st (movT r c t D) r t (wrap64 (g (movT r c t D) r t + c))) t r - c))) a b = _
      have y2 : g (st (movT r c t D) r t (wrap64 (g (movT r c t D) r t + c))) t r = g D t r := by
        rw [g_st l1 hr (by omega) (by omega) hr, if_neg (by omega), x2]
      rw [y2, g_st (by rw [st_length]; exact l1) (by omega) hr ha hb, g_st l1 hr (by omega) ha hb, x1, ih a b ha hb, wrap_in (by omega) (by omega), wrap_in (by omega) (by omega)]
      by_cases c1 : a = t ∧ b = r
      · obtain ⟨rfl, rfl⟩ := c1
        rw [if_pos ⟨rfl, rfl⟩, if_pos (by omega)]
      · rw [if_neg c1]
        by_cases c2 : a = r ∧ b = t
        · obtain ⟨rfl, rfl⟩ := c2
          rw [if_pos ⟨rfl, rfl⟩, if_neg (show ¬ (b = a ∧ a ≠ a ∧ a < b + 1) by omega), if_pos (show a = a ∧ b ≠ a ∧ b < b + 1 by omega)]
        · rw [if_neg c2]
          by_cases c3 : b = r ∧ a ≠ r ∧ a < t
          · rw [if_pos c3, if_pos (show b = r ∧ a ≠ r ∧ a < t + 1 by omega)]
          · have n3 : ¬ (b = r ∧ a ≠ r ∧ a < t + 1) := by omega
            rw [if_neg c3, if_neg n3]
            by_cases c4 : a = r ∧ b ≠ r ∧ b < t
            · rw [if_pos c4, if_pos (show a = r ∧ b ≠ r ∧ b < t + 1 by omega)]
            · have n4 : ¬ (a = r ∧ b ≠ r ∧ b < t + 1) := by omega
              rw [if_neg c4, if_neg n4]

/-! ### Sets of closed bounds -/

def Own (n : Nat) (m : Mx) : Prop := ∀ i, 1 ≤ i → i ≤ n → m i 0 ≤ 2147483647 ∧ m 0 i ≤ 2147483648

theorem own_lem {D : List Int} (hl : D.length = 49) {n : Nat} (hn : n ≤ 6) (m : Mx) : Lem n m (g (ownT n D)) ↔ Lem n m (g D) ∧ Own n m := by
  constructor
  · intro h
    refine ⟨fun i j hi hj => ?_, fun i h1 hi => ⟨?_, ?_⟩⟩
    · have := h i j hi hj
      rw [g_own hl n hn i j (by omega) (by omega)] at this
      split at this
      · rename_i e; obtain ⟨rfl, _⟩ := e; omega
      · split at this
        · rename_i e; obtain ⟨rfl, _⟩ := e; omega
        · exact this
    · have := h i 0 hi (by omega)
      rw [g_own hl n hn i 0 (by omega) (by omega), if_pos (by omega)] at this
      omega
    · have := h 0 i (by omega) hi
      rw [g_own hl n hn 0 i (by omega) (by omega), if_neg (by omega), if_pos (by omega)] at this
      omega
  · rintro ⟨h, ho⟩ i j hi hj
    have := h i j hi hj
    rw [g_own hl n hn i j (by omega) (by omega)]
    split
    · rename_i e; obtain ⟨rfl, e⟩ := e
      have := ho i (by omega) hi
      omega
    · split
      · rename_i e; obtain ⟨rfl, e⟩ := e
        have := ho j (by omega) hj
        omega
      · exact this

/-- A zone that the calls tell. -/
structure Gd (n : Nat) (z : Zo) : Prop where
  hn : z.1 = n
  n6 : n ≤ 6
  len : z.2.2.length = 49
  none : z.2.1 = true → z.2.2 = zeroL
  clo : z.2.1 = false → Clo n (g z.2.2)
  own : z.2.1 = false → Own n (g z.2.2)
  diag : z.2.1 = false → ∀ i, i ≤ n → g z.2.2 i i = 0
  out : z.2.1 = false → ∀ a b, a < 7 → b < 7 → ¬ (a ≤ n ∧ b ≤ n) → g z.2.2 a b = 0

theorem Clo.range {n : Nat} {m : Mx} (h : Clo n m) (ho : Own n m) (hd : ∀ i, i ≤ n → m i i = 0) {i j : Nat} (hi : i ≤ n) (hj : j ≤ n) : -4294967295 ≤ m i j ∧ m i j ≤ 4294967295 := by
  have up : ∀ i j, i ≤ n → j ≤ n → m i j ≤ 4294967295 := by
    intro i j hi hj
    have t := h.2 i j 0 hi hj (by omega)
    have a : m i 0 ≤ 2147483647 := by
      by_cases e : i = 0
      · subst e; rw [hd 0 (by omega)]; omega
      · exact (ho i (by omega) hi).1
    have b : m 0 j ≤ 2147483648 := by
      by_cases e : j = 0
      · subst e; rw [hd 0 (by omega)]; omega
      · exact (ho j (by omega) hj).2
    omega
  have a := up i j hi hj
  have b := up j i hj hi
  have c := h.opp hi hj
  omega

theorem Gd.range {n : Nat} {z : Zo} (h : Gd n z) (hb : z.2.1 = false) {i j : Nat} (hi : i ≤ n) (hj : j ≤ n) : -4294967295 ≤ g z.2.2 i j ∧ g z.2.2 i j ≤ 4294967295 :=
  (h.clo hb).range (h.own hb) (h.diag hb) hi hj

/-- A zone tells a set of closed bounds. -/
def Rep (n : Nat) (P : Mx → Prop) (z : Zo) : Prop :=
  Gd n z ∧ (z.2.1 = true → ∀ m, Clo n m → ¬ P m) ∧ (z.2.1 = false → ∀ m, Clo n m → (P m ↔ Lem n m (g z.2.2)))

theorem Gd.ext {n : Nat} {z z' : Zo} (h : Gd n z) (h' : Gd n z') (hb : z.2.1 = z'.2.1) (hd : z.2.1 = false → ∀ i j, i ≤ n → j ≤ n → g z.2.2 i j = g z'.2.2 i j) : z = z' := by
  obtain ⟨a, b, D⟩ := z
  obtain ⟨a', b', D'⟩ := z'
  have e1 := h.hn
  have e2 := h'.hn
  simp only at hb e1 e2
  subst hb e1
  obtain rfl : a' = n := e2
  cases b with
  | true =>
    have := h.none rfl
    have := h'.none rfl
    simp_all
  | false =>
    have : D = D' := g_ext h.len h'.len fun a b ha hb => by
      by_cases e : a ≤ n ∧ b ≤ n
      · exact hd rfl a b e.1 e.2
      · rw [h.out rfl a b ha hb e, h'.out rfl a b ha hb e]
    rw [this]

theorem Rep.uniq {n : Nat} {P P' : Mx → Prop} {z z' : Zo} (h : Rep n P z) (h' : Rep n P' z') (hs : ∀ m, Clo n m → (P m ↔ P' m)) : z = z' := by
  obtain ⟨gd, h1, h2⟩ := h
  obtain ⟨gd', h1', h2'⟩ := h'
  have hb : z.2.1 = z'.2.1 := by
    cases e : z.2.1 <;> cases e' : z'.2.1 <;> try rfl
    · exact absurd ((hs _ (gd.clo e)).1 ((h2 e _ (gd.clo e)).2 (Lem.refl _ _))) (h1' e' _ (gd.clo e))
    · exact absurd ((hs _ (gd'.clo e')).2 ((h2' e' _ (gd'.clo e')).2 (Lem.refl _ _))) (h1 e _ (gd'.clo e'))
  refine gd.ext gd' hb fun e i j hi hj => ?_
  have e' : z'.2.1 = false := by rw [← hb]; exact e
  have a := (h2' e' _ (gd.clo e)).1 ((hs _ (gd.clo e)).1 ((h2 e _ (gd.clo e)).2 (Lem.refl _ _))) i j hi hj
  have b := (h2 e _ (gd'.clo e')).1 ((hs _ (gd'.clo e')).2 ((h2' e' _ (gd'.clo e')).2 (Lem.refl _ _))) i j hi hj
  omega

theorem Rep.of {n : Nat} {P P' : Mx → Prop} {z : Zo} (h : Rep n P z) (hs : ∀ m, Clo n m → (P m ↔ P' m)) : Rep n P' z :=
  ⟨h.1, fun e m hm hp => h.2.1 e m hm ((hs m hm).2 hp), fun e m hm => (hs m hm).symm.trans (h.2.2 e m hm)⟩

/-- Each good zone tells the closed bounds below it. -/
theorem Gd.rep {n : Nat} {z : Zo} (h : Gd n z) : Rep n (fun m => z.2.1 = false ∧ Lem n m (g z.2.2)) z :=
  ⟨h, fun e m _ hp => (by rw [e] at hp; cases hp.1), fun e m _ => ⟨fun hp => hp.2, fun hp => ⟨e, hp⟩⟩⟩

/-- What can be closed. -/
structure Raw (n : Nat) (D : List Int) : Prop where
  n6 : n ≤ 6
  len : D.length = 49
  rng : ∀ a b, a ≤ n → b ≤ n → -274877906944 ≤ g D a b ∧ g D a b ≤ 4398046511104
  diag : ∀ a, a ≤ n → g D a a ≤ 0
  out : ∀ a b, a < 7 → b < 7 → ¬ (a ≤ n ∧ b ≤ n) → g D a b = 0
/-- Also where a bound is far below. -/
structure RawW (n : Nat) (D : List Int) : Prop where
  n6 : n ≤ 6
  len : D.length = 49
  rng : ∀ a b, a ≤ n → b ≤ n → -4398046511104 ≤ g D a b ∧ g D a b ≤ 4398046511104
  diag : ∀ a, a ≤ n → g D a a ≤ 0
  out : ∀ a b, a < 7 → b < 7 → ¬ (a ≤ n ∧ b ≤ n) → g D a b = 0
theorem Raw.w {n : Nat} {D : List Int} (h : Raw n D) : RawW n D := ⟨h.n6, h.len, fun a b ha hb => by have := h.rng a b ha hb; omega, h.diag, h.out⟩

theorem own_rngW {n : Nat} {D : List Int} (h : RawW n D) (a b : Nat) (ha : a ≤ n) (hb : b ≤ n) : -4398046511104 ≤ g (ownT n D) a b ∧ g (ownT n D) a b ≤ 4398046511104 := by
  have n6 := h.n6
  rw [g_own h.len n h.n6 a b (by omega) (by omega)]
  have x := h.rng a b ha hb
  split
  · rename_i e; obtain ⟨rfl, _⟩ := e; omega
  · split
    · rename_i e; obtain ⟨rfl, _⟩ := e; omega
    · exact x
theorem own_rng {n : Nat} {D : List Int} (h : Raw n D) (a b : Nat) (ha : a ≤ n) (hb : b ≤ n) : -274877906944 ≤ g (ownT n D) a b ∧ g (ownT n D) a b ≤ 4398046511104 := by
  have n6 := h.n6
  rw [g_own h.len n h.n6 a b (by omega) (by omega)]
  have x := h.rng a b ha hb
  split
  · rename_i e; obtain ⟨rfl, _⟩ := e; omega
  · split
    · rename_i e; obtain ⟨rfl, _⟩ := e; omega
    · exact x

theorem close_rep {n : Nat} {D : List Int} (h : RawW n D) : Rep n (fun m => Lem n m (g D) ∧ Own n m) (closeZ ((n : Int), false, D)) := by
  have n6 := h.n6
  have lo : (ownT n D).length = 49 := by rw [ownT_len]; exact h.len
  have hok : okN (n : Int) = true := by unfold okN; simp; omega
  have hB := own_rngW h
  unfold closeZ
  rw [if_neg (by simp only [hok]; decide)]
  simp only [Int.toNat_natCast]
  by_cases hd : diagB n (allL n (n + 1) (ownT n D)) = true
  · rw [if_pos hd]
    have hd := diagB_ok.1 hd
    obtain ⟨hc, ho⟩ := allL_ok lo n6 hB hd
    have hle := (own_lem h.len n6 (g (allL n (n + 1) (ownT n D)))).1 hc.1
    refine ⟨⟨rfl, n6, by rw [allL_length]; exact lo, fun e => (by cases e), fun _ => hc.2.1, fun _ => hle.2, fun _ i hi => ?_, fun _ a b ha hb e => ?_⟩, fun e => (by cases e), fun _ m hm => ?_⟩
    · have a := hle.1 i i hi hi
      have b := h.diag i hi
      have c := hd i hi
      show g (allL n (n + 1) (ownT n D)) i i = 0
      omega
    · show g (allL n (n + 1) (ownT n D)) a b = 0
      rw [ho a b ha hb e, g_own h.len n n6 a b ha hb, if_neg (by omega), if_neg (by omega)]
      exact h.out a b ha hb e
    · show (Lem n m (g D) ∧ Own n m) ↔ _
      rw [← own_lem h.len n6]
      exact ⟨fun hl => hc.2.2 m hm hl, fun hl => Lem.trans hl hc.1⟩
  · rw [if_neg hd]
    have hno := allL_none lo n6 hB (fun h => hd (diagB_ok.2 h))
    refine ⟨⟨rfl, n6, zeroL_len, fun _ => rfl, fun e => (by cases e), fun e => (by cases e), fun e => (by cases e), fun e => (by cases e)⟩, fun _ m hm hp => ?_, fun e => (by cases e)⟩
    exact hno m hm ((own_lem h.len n6 m).2 hp)

theorem closeR_eq {n : Nat} {D : List Int} (h : Raw n D) : closeR ((n : Int), false, D) = closeZ ((n : Int), false, D) := by
  have n6 := h.n6
  have lo : (ownT n D).length = 49 := by rw [ownT_len]; exact h.len
  have hok : okN (n : Int) = true := by unfold okN; simp; omega
  obtain ⟨h1, h2⟩ := close_same lo n6 (own_rng h)
  have hz : closeZ ((n : Int), false, D) = if diagB n (allL n (n + 1) (ownT n D)) then ((n : Int), false, allL n (n + 1) (ownT n D)) else ((n : Int), true, zeroL) := by
    unfold closeZ
    rw [if_neg (by simp only [hok]; decide)]
    simp only [Int.toNat_natCast]
  have hr : closeR ((n : Int), false, D) = if diagB n (rR n (n + 2) (ownT n D)) then ((n : Int), false, rR n (n + 2) (ownT n D)) else ((n : Int), true, zeroL) := rfl
  rw [hz, hr]
  by_cases hd : diagB n (allL n (n + 1) (ownT n D)) = true
  · rw [if_pos hd, if_pos (diagB_ok.2 (h1.1 (diagB_ok.1 hd))), h2 (diagB_ok.1 hd)]
  · rw [if_neg hd, if_neg (fun e => hd (diagB_ok.2 (h1.2 (diagB_ok.1 e))))]

theorem Gd.raw {n : Nat} {z : Zo} (h : Gd n z) (hb : z.2.1 = false) : Raw n z.2.2 :=
  ⟨h.n6, h.len, fun a b ha hb' => by have := h.range hb ha hb'; omega, fun a ha => by rw [h.diag hb a ha]; omega, h.out hb⟩

/-- A closed one stays. -/
theorem Gd.close {n : Nat} {z : Zo} (h : Gd n z) : closeZ z = z := by
  cases hb : z.2.1 with
  | true => unfold closeZ; rw [hb]; rfl
  | false =>
    have e : z = ((n : Int), false, z.2.2) := by
      obtain ⟨a, b, D⟩ := z
      have := h.hn
      simp only at hb this
      rw [hb, this]
    have r := close_rep (h.raw hb).w
    rw [← e] at r
    refine r.uniq h.rep fun m hm => ⟨fun hp => ⟨hb, hp.1⟩, fun hp => ⟨hp.2, fun i h1 hi => ?_⟩⟩
    have o := h.own hb i h1 hi
    have a := hp.2 i 0 hi (by omega)
    have b := hp.2 0 i (by omega) hi
    omega
theorem Gd.closeR {n : Nat} {z : Zo} (h : Gd n z) : closeR z = z := by
  cases hb : z.2.1 with
  | true =>
    have e := h.none hb
    obtain ⟨a, b, D⟩ := z
    simp only at hb e
    subst hb e
    rfl
  | false =>
    have e : z = ((n : Int), false, z.2.2) := by
      obtain ⟨a, b, D⟩ := z
      have := h.hn
      simp only at hb this
      rw [hb, this]
    have := closeR_eq (h.raw hb)
    rw [← e] at this
    rw [this, h.close]

/-! ### Points -/

/-- The differences of numbers: nought first. -/
def ptM (v : Nat → Int) : Mx := fun i j => v i - v j
theorem ptM_clo (n : Nat) (v : Nat → Int) : Clo n (ptM v) := ⟨fun i _ => by unfold ptM; omega, fun i j k _ _ _ => by unfold ptM; omega⟩
def InR (n : Nat) (v : Nat → Int) : Prop := v 0 = 0 ∧ ∀ i, 1 ≤ i → i ≤ n → -2147483648 ≤ v i ∧ v i ≤ 2147483647
theorem ptM_own {n : Nat} {v : Nat → Int} (h : InR n v) : Own n (ptM v) := fun i h1 hi => by
  have := h.2 i h1 hi
  have := h.1
  unfold ptM
  omega
/-- Numbers that are had. -/
def Pt (n : Nat) (v : Nat → Int) (z : Zo) : Prop := z.2.1 = false ∧ Lem n (ptM v) (g z.2.2)

theorem Rep.pt {n : Nat} {P : Mx → Prop} {z : Zo} (h : Rep n P z) {v : Nat → Int} : P (ptM v) ↔ Pt n v z := by
  cases hb : z.2.1 with
  | true => exact ⟨fun hp => absurd hp (h.2.1 hb _ (ptM_clo n v)), fun hp => by have := hp.1; rw [hb] at this; cases this⟩
  | false => exact ⟨fun hp => ⟨hb, (h.2.2 hb _ (ptM_clo n v)).1 hp⟩, fun hp => (h.2.2 hb _ (ptM_clo n v)).2 hp.2⟩

end Go.Proofs.Ytgmciihlmgeecaa.Zm
