import Derived.Test.YtgmciihlmgeecaaDoorZList
/- Zones in plain mathematics: what the program's and the reference's calls make of bounds, and what sets of closed bounds they tell. Conditions: those that each lemma names. -/
namespace Go.Proofs.YtgmciihlmgeecaaDoor.Zm
open Go.RowKit

/-- How many variables, none, bounds. -/
abbrev Zo := Int × Bool × List Int
def okN (n : Int) : Bool := decide (0 ≤ n) && decide (n ≤ 6)
def zeroL : List Int := List.replicate 49 0

/-- The numbers' own bounds. -/
def ownT : Nat → List Int → List Int
  | 0, D => D
  | t + 1, D => st (st (ownT t D) (t + 1) 0 (min (g (ownT t D) (t + 1) 0) 2147483647)) 0 (t + 1) (min (g (ownT t D) 0 (t + 1)) 2147483648)
/-- Bounds of a row and a column left out. -/
def forT (r : Nat) : Nat → List Int → List Int
  | 0, D => D
  | t + 1, D => if t = r then forT r t D else st (st (forT r t D) t r 1099511627776) r t 1099511627776
/-- A row that is so much greater. -/
def movT (r : Nat) (by' : Int) : Nat → List Int → List Int
  | 0, D => D
  | t + 1, D => if t = r then movT r by' t D else
      let E := movT r by' t D
      let F := st E r t (wrap64 (g E r t + by'))
      st F t r (wrap64 (g F t r - by'))
def diagB (n : Nat) (D : List Int) : Bool := (List.range (n + 1)).all fun i => decide (0 ≤ g D i i)
def closeZ (z : Zo) : Zo :=
  if z.2.1 || !okN z.1 then z else
    if diagB z.1.toNat (allL z.1.toNat (z.1.toNat + 1) (ownT z.1.toNat z.2.2)) then (z.1, false, allL z.1.toNat (z.1.toNat + 1) (ownT z.1.toNat z.2.2)) else (z.1, true, zeroL)
def closeR (z : Zo) : Zo :=
  if z.2.1 then (z.1, true, zeroL) else
    if diagB z.1.toNat (rR z.1.toNat (z.1.toNat + 2) (ownT z.1.toNat z.2.2)) then (z.1, false, rR z.1.toNat (z.1.toNat + 2) (ownT z.1.toNat z.2.2)) else (z.1, true, zeroL)

theorem diagB_ok {n : Nat} {D : List Int} : diagB n D = true ↔ diagOk n D := by
  unfold diagB diagOk
  rw [List.all_eq_true]
  constructor
  · intro h i hi
    simpa using h i (List.mem_range.2 (by omega))
  · intro h i hi
    simpa using h i (by have := List.mem_range.1 hi; omega)

theorem g_zero (i j : Nat) : g zeroL i j = 0 := by
  unfold g zeroL
  rw [List.getD_eq_getElem?_getD, List.getElem?_replicate]
  split <;> rfl
theorem zeroL_len : zeroL.length = 49 := by unfold zeroL; rw [List.length_replicate]

theorem ownT_len (t : Nat) (D : List Int) : (ownT t D).length = D.length := by
  induction t with
  | zero => rfl
  | succ t ih => rw [ownT, st_length, st_length, ih]
theorem forT_len (r t : Nat) (D : List Int) : (forT r t D).length = D.length := by
  induction t with
  | zero => rfl
  | succ t ih => unfold forT; split <;> simp [st_length, ih]
theorem movT_len (r t : Nat) (b : Int) (D : List Int) : (movT r b t D).length = D.length := by
  induction t with
  | zero => rfl
  | succ t ih => unfold movT; split <;> simp [st_length, ih]

theorem g_own {D : List Int} (hl : D.length = 49) (t : Nat) (ht : t ≤ 6) (a b : Nat) (ha : a < 7) (hb : b < 7) :
    g (ownT t D) a b = if b = 0 ∧ 1 ≤ a ∧ a ≤ t then min (g D a 0) 2147483647 else if a = 0 ∧ 1 ≤ b ∧ b ≤ t then min (g D 0 b) 2147483648 else g D a b := by
  induction t generalizing a b with
  | zero => rw [ownT, if_neg (by omega), if_neg (by omega)]
  | succ t ih =>
    have l1 : (ownT t D).length = 49 := by rw [ownT_len]; exact hl
    have e1 := ih (by omega) (t + 1) 0 (by omega) (by omega)
    have e2 := ih (by omega) 0 (t + 1) (by omega) (by omega)
    rw [if_neg (by omega), if_neg (by omega)] at e1 e2
    rw [ownT, g_st (by rw [st_length]; exact l1) (by omega) (by omega) ha hb, g_st l1 (by omega) (by omega) ha hb, ih (by omega) a b ha hb, e1, e2]
    by_cases c1 : a = 0 ∧ b = t + 1
    · obtain ⟨rfl, rfl⟩ := c1
      rw [if_pos ⟨rfl, rfl⟩, if_neg (by omega), if_pos (by omega)]
    · rw [if_neg c1]
      by_cases c2 : a = t + 1 ∧ b = 0
      · obtain ⟨rfl, rfl⟩ := c2
        rw [if_pos ⟨rfl, rfl⟩, if_pos (by omega)]
      · rw [if_neg c2]
        by_cases c3 : b = 0 ∧ 1 ≤ a ∧ a ≤ t
        · rw [if_pos c3, if_pos (show b = 0 ∧ 1 ≤ a ∧ a ≤ t + 1 by omega)]
        · have n3 : ¬ (b = 0 ∧ 1 ≤ a ∧ a ≤ t + 1) := by omega
          rw [if_neg c3, if_neg n3]
          by_cases c4 : a = 0 ∧ 1 ≤ b ∧ b ≤ t
          · rw [if_pos c4, if_pos (show a = 0 ∧ 1 ≤ b ∧ b ≤ t + 1 by omega)]
          · have n4 : ¬ (a = 0 ∧ 1 ≤ b ∧ b ≤ t + 1) := by omega
            rw [if_neg c4, if_neg n4]

theorem g_for {D : List Int} (hl : D.length = 49) {r : Nat} (hr : r < 7) (t : Nat) (ht : t ≤ 7) (a b : Nat) (ha : a < 7) (hb : b < 7) :
    g (forT r t D) a b = if (b = r ∧ a ≠ r ∧ a < t) ∨ (a = r ∧ b ≠ r ∧ b < t) then 1099511627776 else g D a b := by
  induction t generalizing a b with
  | zero => rw [forT, if_neg (by omega)]
  | succ t ih =>
    have l1 : (forT r t D).length = 49 := by rw [forT_len]; exact hl
    rw [forT]
    by_cases e : t = r
    · subst e
      rw [if_pos rfl, ih (by omega) a b ha hb]
      by_cases c : (b = t ∧ a ≠ t ∧ a < t) ∨ (a = t ∧ b ≠ t ∧ b < t)
      · rw [if_pos c, if_pos (by omega)]
      · rw [if_neg c, if_neg (by omega)]
    · rw [if_neg e, g_st (by rw [st_length]; exact l1) (by omega) (by omega) ha hb, g_st l1 (by omega) (by omega) ha hb, ih (by omega) a b ha hb]
      by_cases c1 : a = r ∧ b = t
      · rw [if_pos c1, if_pos (by omega)]
      · rw [if_neg c1]
        by_cases c2 : a = t ∧ b = r
        · rw [if_pos c2, if_pos (by omega)]
        · rw [if_neg c2]
          by_cases c : (b = r ∧ a ≠ r ∧ a < t) ∨ (a = r ∧ b ≠ r ∧ b < t)
          · rw [if_pos c, if_pos (by omega)]
          · rw [if_neg c, if_neg (by omega)]

/-- none of the bounds that are moved leaves the numbers of 64 bits -/
theorem g_mov {D : List Int} (hl : D.length = 49) {r : Nat} (hr : r < 7) {c : Int} (hc : -1099511627776 ≤ c ∧ c ≤ 1099511627776)
    (t : Nat) (ht : t ≤ 7) (hB : ∀ a b, a < t → b < t → -4398046511104 ≤ g D a b ∧ g D a b ≤ 4398046511104) (hrt : ∀ a, a < t → (-4398046511104 ≤ g D a r ∧ g D a r ≤ 4398046511104) ∧ -4398046511104 ≤ g D r a ∧ g D r a ≤ 4398046511104) (a b : Nat) (ha : a < 7) (hb : b < 7) :
    g (movT r c t D) a b = if b = r ∧ a ≠ r ∧ a < t then g D a b - c else if a = r ∧ b ≠ r ∧ b < t then g D a b + c else g D a b := by
  induction t generalizing a b with
  | zero => rw [movT, if_neg (by omega), if_neg (by omega)]
  | succ t ih =>
    have l1 : (movT r c t D).length = 49 := by rw [movT_len]; exact hl
    have ih := fun a b ha hb => ih (by omega) (fun a b ha hb => hB a b (by omega) (by omega)) (fun a ha => hrt a (by omega)) a b ha hb
    rw [movT]
    by_cases e : t = r
    · subst e
      rw [if_pos rfl, ih a b ha hb]
      by_cases c1 : b = t ∧ a ≠ t ∧ a < t
      · rw [if_pos c1, if_pos (show b = t ∧ a ≠ t ∧ a < t + 1 by omega)]
      · have n1 : ¬ (b = t ∧ a ≠ t ∧ a < t + 1) := by omega
        rw [if_neg c1, if_neg n1]
        by_cases c2 : a = t ∧ b ≠ t ∧ b < t
        · rw [if_pos c2, if_pos (show a = t ∧ b ≠ t ∧ b < t + 1 by omega)]
        · have n2 : ¬ (a = t ∧ b ≠ t ∧ b < t + 1) := by omega
          rw [if_neg c2, if_neg n2]
    · rw [if_neg e]
      have x1 := ih r t hr (by omega)
      have x2 := ih t r (by omega) hr
      rw [if_neg (by omega), if_neg (by omega)] at x1 x2
      have h0 := hrt t (by omega)
      show g (st (st (movT r c t D) r t (wrap64 (g (movT r c t D) r t + c))) t r (wrap64 (g (st (movT r c t D) r t (wrap64 (g (movT r c t D) r t + c))) t r - c))) a b = _
      have y2 : g (st (movT r c t D) r t (wrap64 (g (movT r c t D) r t + c))) t r = g D t r := by
        rw [g_st l1 hr (by omega) (by omega) hr, if_neg (by omega), x2]
      rw [y2, g_st (by rw [st_length]; exact l1) (by omega) hr ha hb, g_st l1 hr (by omega) ha hb, x1, ih a b ha hb, wrap_in (by omega) (by omega), wrap_in (by omega) (by omega)]
      by_cases c1 : a = t ∧ b = r
      · obtain ⟨rfl, rfl⟩ := c1
        rw [if_pos ⟨rfl, rfl⟩, if_pos (by omega)]
      · rw [if_neg c1]
        by_cases c2 : a = r ∧ b = t
        · obtain ⟨rfl, rfl⟩ := c2
          rw [if_pos ⟨rfl, rfl⟩, if_neg (show ¬ (b = a ∧ a ≠ a ∧ a < b + 1) by omega), if_pos (show a = a ∧ b ≠ a ∧ b < b + 1 by omega)]
        · rw [if_neg c2]
          by_cases c3 : b = r ∧ a ≠ r ∧ a < t
          · rw [if_pos c3, if_pos (show b = r ∧ a ≠ r ∧ a < t + 1 by omega)]
          · have n3 : ¬ (b = r ∧ a ≠ r ∧ a < t + 1) := by omega
            rw [if_neg c3, if_neg n3]
            by_cases c4 : a = r ∧ b ≠ r ∧ b < t
            · rw [if_pos c4, if_pos (show a = r ∧ b ≠ r ∧ b < t + 1 by omega)]
            · have n4 : ¬ (a = r ∧ b ≠ r ∧ b < t + 1) := by omega
              rw [if_neg c4, if_neg n4]

/-! ### Sets of closed bounds -/

def Own (n : Nat) (m : Mx) : Prop := ∀ i, 1 ≤ i → i ≤ n → m i 0 ≤ 2147483647 ∧ m 0 i ≤ 2147483648

theorem own_lem {D : List Int} (hl : D.length = 49) {n : Nat} (hn : n ≤ 6) (m : Mx) : Lem n m (g (ownT n D)) ↔ Lem n m (g D) ∧ Own n m := by
  constructor
  · intro h
    refine ⟨fun i j hi hj => ?_, fun i h1 hi => ⟨?_, ?_⟩⟩
    · have := h i j hi hj
      rw [g_own hl n hn i j (by omega) (by omega)] at this
      split at this
      · rename_i e; obtain ⟨rfl, _⟩ := e; omega
      · split at this
        · rename_i e; obtain ⟨rfl, _⟩ := e; omega
        · exact this
    · have := h i 0 hi (by omega)
      rw [g_own hl n hn i 0 (by omega) (by omega), if_pos (by omega)] at this
      omega
    · have := h 0 i (by omega) hi
      rw [g_own hl n hn 0 i (by omega) (by omega), if_neg (by omega), if_pos (by omega)] at this
      omega
  · rintro ⟨h, ho⟩ i j hi hj
    have := h i j hi hj
    rw [g_own hl n hn i j (by omega) (by omega)]
    split
    · rename_i e; obtain ⟨rfl, e⟩ := e
      have := ho i (by omega) hi
      omega
    · split
      · rename_i e; obtain ⟨rfl, e⟩ := e
        have := ho j (by omega) hj
        omega
      · exact this

/-- A zone that the calls tell. -/
structure Gd (n : Nat) (z : Zo) : Prop where
  hn : z.1 = n
  n6 : n ≤ 6
  len : z.2.2.length = 49
  none : z.2.1 = true → z.2.2 = zeroL
  clo : z.2.1 = false → Clo n (g z.2.2)
  own : z.2.1 = false → Own n (g z.2.2)
  diag : z.2.1 = false → ∀ i, i ≤ n → g z.2.2 i i = 0
  out : z.2.1 = false → ∀ a b, a < 7 → b < 7 → ¬ (a ≤ n ∧ b ≤ n) → g z.2.2 a b = 0

theorem Clo.range {n : Nat} {m : Mx} (h : Clo n m) (ho : Own n m) (hd : ∀ i, i ≤ n → m i i = 0) {i j : Nat} (hi : i ≤ n) (hj : j ≤ n) : -4294967295 ≤ m i j ∧ m i j ≤ 4294967295 := by
  have up : ∀ i j, i ≤ n → j ≤ n → m i j ≤ 4294967295 := by
    intro i j hi hj
    have t := h.2 i j 0 hi hj (by omega)
    have a : m i 0 ≤ 2147483647 := by
      by_cases e : i = 0
      · subst e; rw [hd 0 (by omega)]; omega
      · exact (ho i (by omega) hi).1
    have b : m 0 j ≤ 2147483648 := by
      by_cases e : j = 0
      · subst e; rw [hd 0 (by omega)]; omega
      · exact (ho j (by omega) hj).2
    omega
  have a := up i j hi hj
  have b := up j i hj hi
  have c := h.opp hi hj
  omega

theorem Gd.range {n : Nat} {z : Zo} (h : Gd n z) (hb : z.2.1 = false) {i j : Nat} (hi : i ≤ n) (hj : j ≤ n) : -4294967295 ≤ g z.2.2 i j ∧ g z.2.2 i j ≤ 4294967295 :=
  (h.clo hb).range (h.own hb) (h.diag hb) hi hj

/-- A zone tells a set of closed bounds. -/
def Rep (n : Nat) (P : Mx → Prop) (z : Zo) : Prop :=
  Gd n z ∧ (z.2.1 = true → ∀ m, Clo n m → ¬ P m) ∧ (z.2.1 = false → ∀ m, Clo n m → (P m ↔ Lem n m (g z.2.2)))

theorem Gd.ext {n : Nat} {z z' : Zo} (h : Gd n z) (h' : Gd n z') (hb : z.2.1 = z'.2.1) (hd : z.2.1 = false → ∀ i j, i ≤ n → j ≤ n → g z.2.2 i j = g z'.2.2 i j) : z = z' := by
  obtain ⟨a, b, D⟩ := z
  obtain ⟨a', b', D'⟩ := z'
  have e1 := h.hn
  have e2 := h'.hn
  simp only at hb e1 e2
  subst hb e1
  obtain rfl : a' = n := e2
  cases b with
  | true =>
    have := h.none rfl
    have := h'.none rfl
    simp_all
  | false =>
    have : D = D' := g_ext h.len h'.len fun a b ha hb => by
      by_cases e : a ≤ n ∧ b ≤ n
      · exact hd rfl a b e.1 e.2
      · rw [h.out rfl a b ha hb e, h'.out rfl a b ha hb e]
    rw [this]

theorem Rep.uniq {n : Nat} {P P' : Mx → Prop} {z z' : Zo} (h : Rep n P z) (h' : Rep n P' z') (hs : ∀ m, Clo n m → (P m ↔ P' m)) : z = z' := by
  obtain ⟨gd, h1, h2⟩ := h
  obtain ⟨gd', h1', h2'⟩ := h'
  have hb : z.2.1 = z'.2.1 := by
    cases e : z.2.1 <;> cases e' : z'.2.1 <;> try rfl
    · exact absurd ((hs _ (gd.clo e)).1 ((h2 e _ (gd.clo e)).2 (Lem.refl _ _))) (h1' e' _ (gd.clo e))
    · exact absurd ((hs _ (gd'.clo e')).2 ((h2' e' _ (gd'.clo e')).2 (Lem.refl _ _))) (h1 e _ (gd'.clo e'))
  refine gd.ext gd' hb fun e i j hi hj => ?_
  have e' : z'.2.1 = false := by rw [← hb]; exact e
  have a := (h2' e' _ (gd.clo e)).1 ((hs _ (gd.clo e)).1 ((h2 e _ (gd.clo e)).2 (Lem.refl _ _))) i j hi hj
  have b := (h2 e _ (gd'.clo e')).1 ((hs _ (gd'.clo e')).2 ((h2' e' _ (gd'.clo e')).2 (Lem.refl _ _))) i j hi hj
  omega

theorem Rep.of {n : Nat} {P P' : Mx → Prop} {z : Zo} (h : Rep n P z) (hs : ∀ m, Clo n m → (P m ↔ P' m)) : Rep n P' z :=
  ⟨h.1, fun e m hm hp => h.2.1 e m hm ((hs m hm).2 hp), fun e m hm => (hs m hm).symm.trans (h.2.2 e m hm)⟩

/-- Each good zone tells the closed bounds below it. -/
theorem Gd.rep {n : Nat} {z : Zo} (h : Gd n z) : Rep n (fun m => z.2.1 = false ∧ Lem n m (g z.2.2)) z :=
  ⟨h, fun e m _ hp => (by rw [e] at hp; cases hp.1), fun e m _ => ⟨fun hp => hp.2, fun hp => ⟨e, hp⟩⟩⟩

/-- What can be closed. -/
structure Raw (n : Nat) (D : List Int) : Prop where
  n6 : n ≤ 6
  len : D.length = 49
  rng : ∀ a b, a ≤ n → b ≤ n → -274877906944 ≤ g D a b ∧ g D a b ≤ 4398046511104
  diag : ∀ a, a ≤ n → g D a a ≤ 0
  out : ∀ a b, a < 7 → b < 7 → ¬ (a ≤ n ∧ b ≤ n) → g D a b = 0
/-- Also where a bound is far below. -/
structure RawW (n : Nat) (D : List Int) : Prop where
  n6 : n ≤ 6
  len : D.length = 49
  rng : ∀ a b, a ≤ n → b ≤ n → -4398046511104 ≤ g D a b ∧ g D a b ≤ 4398046511104
  diag : ∀ a, a ≤ n → g D a a ≤ 0
  out : ∀ a b, a < 7 → b < 7 → ¬ (a ≤ n ∧ b ≤ n) → g D a b = 0
theorem Raw.w {n : Nat} {D : List Int} (h : Raw n D) : RawW n D := ⟨h.n6, h.len, fun a b ha hb => by have := h.rng a b ha hb; omega, h.diag, h.out⟩

theorem own_rngW {n : Nat} {D : List Int} (h : RawW n D) (a b : Nat) (ha : a ≤ n) (hb : b ≤ n) : -4398046511104 ≤ g (ownT n D) a b ∧ g (ownT n D) a b ≤ 4398046511104 := by
  have n6 := h.n6
  rw [g_own h.len n h.n6 a b (by omega) (by omega)]
  have x := h.rng a b ha hb
  split
  · rename_i e; obtain ⟨rfl, _⟩ := e; omega
  · split
    · rename_i e; obtain ⟨rfl, _⟩ := e; omega
    · exact x
theorem own_rng {n : Nat} {D : List Int} (h : Raw n D) (a b : Nat) (ha : a ≤ n) (hb : b ≤ n) : -274877906944 ≤ g (ownT n D) a b ∧ g (ownT n D) a b ≤ 4398046511104 := by
  have n6 := h.n6
  rw [g_own h.len n h.n6 a b (by omega) (by omega)]
  have x := h.rng a b ha hb
  split
  · rename_i e; obtain ⟨rfl, _⟩ := e; omega
  · split
    · rename_i e; obtain ⟨rfl, _⟩ := e; omega
    · exact x

theorem close_rep {n : Nat} {D : List Int} (h : RawW n D) : Rep n (fun m => Lem n m (g D) ∧ Own n m) (closeZ ((n : Int), false, D)) := by
  have n6 := h.n6
  have lo : (ownT n D).length = 49 := by rw [ownT_len]; exact h.len
  have hok : okN (n : Int) = true := by unfold okN; simp; omega
  have hB := own_rngW h
  unfold closeZ
  rw [if_neg (by simp only [hok]; decide)]
  simp only [Int.toNat_natCast]
  by_cases hd : diagB n (allL n (n + 1) (ownT n D)) = true
  · rw [if_pos hd]
    have hd := diagB_ok.1 hd
    obtain ⟨hc, ho⟩ := allL_ok lo n6 hB hd
    have hle := (own_lem h.len n6 (g (allL n (n + 1) (ownT n D)))).1 hc.1
    refine ⟨⟨rfl, n6, by rw [allL_length]; exact lo, fun e => (by cases e), fun _ => hc.2.1, fun _ => hle.2, fun _ i hi => ?_, fun _ a b ha hb e => ?_⟩, fun e => (by cases e), fun _ m hm => ?_⟩
    · have a := hle.1 i i hi hi
      have b := h.diag i hi
      have c := hd i hi
      show g (allL n (n + 1) (ownT n D)) i i = 0
      omega
    · show g (allL n (n + 1) (ownT n D)) a b = 0
      rw [ho a b ha hb e, g_own h.len n n6 a b ha hb, if_neg (by omega), if_neg (by omega)]
      exact h.out a b ha hb e
    · show (Lem n m (g D) ∧ Own n m) ↔ _
      rw [← own_lem h.len n6]
      exact ⟨fun hl => hc.2.2 m hm hl, fun hl => Lem.trans hl hc.1⟩
  · rw [if_neg hd]
    have hno := allL_none lo n6 hB (fun h => hd (diagB_ok.2 h))
    refine ⟨⟨rfl, n6, zeroL_len, fun _ => rfl, fun e => (by cases e), fun e => (by cases e), fun e => (by cases e), fun e => (by cases e)⟩, fun _ m hm hp => ?_, fun e => (by cases e)⟩
    exact hno m hm ((own_lem h.len n6 m).2 hp)

theorem closeR_eq {n : Nat} {D : List Int} (h : Raw n D) : closeR ((n : Int), false, D) = closeZ ((n : Int), false, D) := by
  have n6 := h.n6
  have lo : (ownT n D).length = 49 := by rw [ownT_len]; exact h.len
  have hok : okN (n : Int) = true := by unfold okN; simp; omega
  obtain ⟨h1, h2⟩ := close_same lo n6 (own_rng h)
  have hz : closeZ ((n : Int), false, D) = if diagB n (allL n (n + 1) (ownT n D)) then ((n : Int), false, allL n (n + 1) (ownT n D)) else ((n : Int), true, zeroL) := by
    unfold closeZ
    rw [if_neg (by simp only [hok]; decide)]
    simp only [Int.toNat_natCast]
  have hr : closeR ((n : Int), false, D) = if diagB n (rR n (n + 2) (ownT n D)) then ((n : Int), false, rR n (n + 2) (ownT n D)) else ((n : Int), true, zeroL) := rfl
  rw [hz, hr]
  by_cases hd : diagB n (allL n (n + 1) (ownT n D)) = true
  · rw [if_pos hd, if_pos (diagB_ok.2 (h1.1 (diagB_ok.1 hd))), h2 (diagB_ok.1 hd)]
  · rw [if_neg hd, if_neg (fun e => hd (diagB_ok.2 (h1.2 (diagB_ok.1 e))))]

theorem Gd.raw {n : Nat} {z : Zo} (h : Gd n z) (hb : z.2.1 = false) : Raw n z.2.2 :=
  ⟨h.n6, h.len, fun a b ha hb' => by have := h.range hb ha hb'; omega, fun a ha => by rw [h.diag hb a ha]; omega, h.out hb⟩

/-- A closed one stays. -/
theorem Gd.close {n : Nat} {z : Zo} (h : Gd n z) : closeZ z = z := by
  cases hb : z.2.1 with
  | true => unfold closeZ; rw [hb]; rfl
  | false =>
    have e : z = ((n : Int), false, z.2.2) := by
      obtain ⟨a, b, D⟩ := z
      have := h.hn
      simp only at hb this
      rw [hb, this]
    have r := close_rep (h.raw hb).w
    rw [← e] at r
    refine r.uniq h.rep fun m hm => ⟨fun hp => ⟨hb, hp.1⟩, fun hp => ⟨hp.2, fun i h1 hi => ?_⟩⟩
    have o := h.own hb i h1 hi
    have a := hp.2 i 0 hi (by omega)
    have b := hp.2 0 i (by omega) hi
    omega
theorem Gd.closeR {n : Nat} {z : Zo} (h : Gd n z) : closeR z = z := by
  cases hb : z.2.1 with
  | true =>
    have e := h.none hb
    obtain ⟨a, b, D⟩ := z
    simp only at hb e
    subst hb e
    rfl
  | false =>
    have e : z = ((n : Int), false, z.2.2) := by
      obtain ⟨a, b, D⟩ := z
      have := h.hn
      simp only at hb this
      rw [hb, this]
    have := closeR_eq (h.raw hb)
    rw [← e] at this
    rw [this, h.close]

/-! ### Points -/

/-- The differences of numbers: nought first. -/
def ptM (v : Nat → Int) : Mx := fun i j => v i - v j
theorem ptM_clo (n : Nat) (v : Nat → Int) : Clo n (ptM v) := ⟨fun i _ => by unfold ptM; omega, fun i j k _ _ _ => by unfold ptM; omega⟩
def InR (n : Nat) (v : Nat → Int) : Prop := v 0 = 0 ∧ ∀ i, 1 ≤ i → i ≤ n → -2147483648 ≤ v i ∧ v i ≤ 2147483647
theorem ptM_own {n : Nat} {v : Nat → Int} (h : InR n v) : Own n (ptM v) := fun i h1 hi => by
  have := h.2 i h1 hi
  have := h.1
  unfold ptM
  omega
/-- Numbers that are had. -/
def Pt (n : Nat) (v : Nat → Int) (z : Zo) : Prop := z.2.1 = false ∧ Lem n (ptM v) (g z.2.2)

theorem Rep.pt {n : Nat} {P : Mx → Prop} {z : Zo} (h : Rep n P z) {v : Nat → Int} : P (ptM v) ↔ Pt n v z := by
  cases hb : z.2.1 with
  | true => exact ⟨fun hp => absurd hp (h.2.1 hb _ (ptM_clo n v)), fun hp => by have := hp.1; rw [hb] at this; cases this⟩
  | false => exact ⟨fun hp => ⟨hb, (h.2.2 hb _ (ptM_clo n v)).1 hp⟩, fun hp => (h.2.2 hb _ (ptM_clo n v)).2 hp.2⟩

end Go.Proofs.YtgmciihlmgeecaaDoor.Zm

/-! Calls on zones in plain mathematics: which closed bounds each tells; the reference's are the same. Conditions: those that each lemma names. -/
namespace Go.Proofs.YtgmciihlmgeecaaDoor.Zm
open Go.RowKit

def varP (n : Int) (b : Bool) (x : Int) : Bool := okN n && !b && (decide (x ≥ 0) && decide (x < n))
def norP (n : Int) (b : Bool) (x : Int) : Bool := (decide (x = -1) && okN n && !b) || varP n b x

theorem Rep.eq {n : Nat} {P : Mx → Prop} {z : Zo} (h : Rep n P z) {c : Mx} (hc : Clo n c) (hs : ∀ m, Clo n m → (P m ↔ Lem n m c)) : z.2.1 = false ∧ ∀ i j, i ≤ n → j ≤ n → g z.2.2 i j = c i j := by
  have p : P c := (hs c hc).2 (Lem.refl _ _)
  cases hb : z.2.1 with
  | true => exact absurd p (h.2.1 hb c hc)
  | false =>
    refine ⟨rfl, fun i j hi hj => ?_⟩
    have a := (h.2.2 hb c hc).1 p i j hi hj
    have b := (hs _ (h.1.clo hb)).1 ((h.2.2 hb _ (h.1.clo hb)).2 (Lem.refl _ _)) i j hi hj
    omega

/-! ### A bound more -/
def boundZ (z : Zo) (x y b : Int) : Zo :=
  if norP z.1 z.2.1 x && norP z.1 z.2.1 y then closeZ (z.1, z.2.1, st z.2.2 (x + 1).toNat (y + 1).toNat (min (g z.2.2 (x + 1).toNat (y + 1).toNat) (max b (-1099511627776)))) else z
def boundR (z : Zo) (x y b : Int) : Zo :=
  if z.2.1 then z else closeR (z.1, z.2.1, st z.2.2 (x + 1).toNat (y + 1).toNat (min (g z.2.2 (x + 1).toNat (y + 1).toNat) b))

theorem st_rawW {n : Nat} {D : List Int} (h : RawW n D) {i j : Nat} (hi : i ≤ n) (hj : j ≤ n) {v : Int} (hv : -4398046511104 ≤ v ∧ v ≤ 4398046511104) (hd : i = j → v ≤ 0) : RawW n (st D i j v) := by
  have n6 := h.n6
  refine ⟨h.n6, by rw [st_length]; exact h.len, fun a b ha hb => ?_, fun a ha => ?_, fun a b ha hb e => ?_⟩
  · rw [g_st h.len (by omega) (by omega) (by omega) (by omega)]
    split
    · exact hv
    · exact h.rng a b ha hb
  · rw [g_st h.len (by omega) (by omega) (by omega) (by omega)]
    split
    · rename_i e; exact hd (by omega)
    · exact h.diag a ha
  · rw [g_st h.len (by omega) (by omega) ha hb, if_neg (by omega)]
    exact h.out a b ha hb e
theorem st_raw {n : Nat} {D : List Int} (h : Raw n D) {i j : Nat} (hi : i ≤ n) (hj : j ≤ n) {v : Int} (hv : -274877906944 ≤ v ∧ v ≤ 4398046511104) (hd : i = j → v ≤ 0) : Raw n (st D i j v) := by
  have n6 := h.n6
  have w := st_rawW h.w hi hj (v := v) (by omega) hd
  refine ⟨h.n6, w.len, fun a b ha hb => ?_, w.diag, w.out⟩
  rw [g_st h.len (by omega) (by omega) (by omega) (by omega)]
  split
  · exact hv
  · exact h.rng a b ha hb

theorem nor_ok {n : Nat} {z : Zo} (h : Gd n z) (hb : z.2.1 = false) {x : Int} : norP z.1 z.2.1 x = true ↔ -1 ≤ x ∧ x < n := by
  have n6 := h.n6
  unfold norP varP okN
  rw [h.hn, hb]
  simp
  omega
theorem var_ok {n : Nat} {z : Zo} (h : Gd n z) (hb : z.2.1 = false) {x : Int} : varP z.1 z.2.1 x = true ↔ 0 ≤ x ∧ x < n := by
  have n6 := h.n6
  unfold varP okN
  rw [h.hn, hb]
  simp
  omega
theorem nor_none {z : Zo} (hb : z.2.1 = true) {x : Int} : norP z.1 z.2.1 x = false := by
  unfold norP varP; rw [hb]; simp
theorem var_none {z : Zo} (hb : z.2.1 = true) {x : Int} : varP z.1 z.2.1 x = false := by
  unfold varP; rw [hb]; simp
theorem Gd.trip {n : Nat} {z : Zo} (h : Gd n z) (hb : z.2.1 = false) : z = ((n : Int), false, z.2.2) := by
  obtain ⟨a, b, D⟩ := z
  have := h.hn
  simp only at hb this
  rw [hb, this]

/-- Of variables that there aren't. -/
theorem boundZ_un {n : Nat} {z : Zo} (h : Gd n z) {x y b : Int} (hx : ¬ (-1 ≤ x ∧ x < n) ∨ ¬ (-1 ≤ y ∧ y < n)) : boundZ z x y b = z := by
  cases hb : z.2.1 with
  | true => unfold boundZ; rw [nor_none hb]; rfl
  | false =>
    unfold boundZ
    rw [if_neg]
    intro e
    rw [Bool.and_eq_true, nor_ok h hb, nor_ok h hb] at e
    omega
theorem boundZ_none {z : Zo} (hb : z.2.1 = true) {x y b : Int} : boundZ z x y b = z := by
  unfold boundZ
  rw [nor_none hb]; rfl

theorem bound_rep {n : Nat} {P : Mx → Prop} {z : Zo} (h : Rep n P z) {x y b : Int} (hx : -1 ≤ x ∧ x < n) (hy : -1 ≤ y ∧ y < n) :
    Rep n (fun m => P m ∧ m (x + 1).toNat (y + 1).toNat ≤ max b (-1099511627776)) (boundZ z x y b) := by
  have gd := h.1
  have n6 := gd.n6
  cases hb : z.2.1 with
  | true =>
    rw [boundZ_none hb]
    exact ⟨gd, fun e m hm hp => h.2.1 e m hm hp.1, fun e => (by rw [hb] at e; cases e)⟩
  | false =>
    unfold boundZ
    rw [(nor_ok gd hb).2 hx, (nor_ok gd hb).2 hy, gd.hn, hb]
    have hi : (x + 1).toNat ≤ n := by omega
    have hj : (y + 1).toNat ≤ n := by omega
    generalize (x + 1).toNat = i at *
    generalize (y + 1).toNat = j at *
    have rg := gd.range hb hi hj
    have hr := gd.raw hb
    have r := close_rep (st_rawW hr.w hi hj (v := min (g z.2.2 i j) (max b (-1099511627776))) (by omega) (fun e => (by subst e; have := gd.diag hb i hi; omega)))
    show Rep n _ (closeZ ((n : Int), false, _))
    refine r.of fun m hm => ?_
    have hP := h.2.2 hb m hm
    have hl : Lem n m (g (st z.2.2 i j (min (g z.2.2 i j) (max b (-1099511627776))))) ↔ Lem n m (g z.2.2) ∧ m i j ≤ max b (-1099511627776) := by
      constructor
      · intro hp
        refine ⟨fun a c ha hc => ?_, ?_⟩
        · have := hp a c ha hc
          rw [g_st hr.len (by omega) (by omega) (by omega) (by omega)] at this
          split at this
          · rename_i e; obtain ⟨rfl, rfl⟩ := e; omega
          · exact this
        · have := hp i j hi hj
          rw [g_st hr.len (by omega) (by omega) (by omega) (by omega), if_pos ⟨rfl, rfl⟩] at this
          omega
      · rintro ⟨hp, hv⟩ a c ha hc
        rw [g_st hr.len (by omega) (by omega) (by omega) (by omega)]
        have := hp a c ha hc
        split
        · rename_i e; obtain ⟨rfl, rfl⟩ := e; omega
        · exact this
    rw [hl]
    constructor
    · rintro ⟨⟨h1, h2⟩, h3⟩
      exact ⟨hP.2 h1, h2⟩
    · rintro ⟨h1, h2⟩
      refine ⟨⟨hP.1 h1, h2⟩, fun k k1 k2 => ?_⟩
      have o := gd.own hb k k1 k2
      have a := hP.1 h1 k 0 k2 (by omega)
      have c := hP.1 h1 0 k (by omega) k2
      omega
theorem bound_gd {n : Nat} {z : Zo} (h : Gd n z) {x y b : Int} : Gd n (boundZ z x y b) := by
  by_cases hx : -1 ≤ x ∧ x < n
  · by_cases hy : -1 ≤ y ∧ y < n
    · exact (bound_rep h.rep hx hy).1
    · rw [boundZ_un h (.inr hy)]; exact h
  · rw [boundZ_un h (.inl hx)]; exact h
theorem boundR_eq {n : Nat} {z : Zo} (h : Gd n z) {x y b : Int} (hx : -1 ≤ x ∧ x < n) (hy : -1 ≤ y ∧ y < n) (hbb : -274877906944 ≤ b) : boundR z x y b = boundZ z x y b := by
  have n6 := h.n6
  cases hb : z.2.1 with
  | true => rw [boundZ_none hb]; unfold boundR; rw [hb]; rfl
  | false =>
    unfold boundZ boundR
    rw [(nor_ok h hb).2 hx, (nor_ok h hb).2 hy, h.hn, hb]
    have hi : (x + 1).toNat ≤ n := by omega
    have hj : (y + 1).toNat ≤ n := by omega
    generalize (x + 1).toNat = i at *
    generalize (y + 1).toNat = j at *
    have rg := h.range hb hi hj
    rw [show max b (-1099511627776) = b by omega]
    exact closeR_eq (st_raw (h.raw hb) hi hj (v := min (g z.2.2 i j) b) (by omega) (fun e => by subst e; have := h.diag hb i hi; omega))
theorem bound_pt {n : Nat} {z : Zo} (h : Gd n z) {v : Nat → Int} {x y b : Int} (hx : -1 ≤ x ∧ x < n) (hy : -1 ≤ y ∧ y < n) : Pt n v (boundZ z x y b) ↔ Pt n v z ∧ v (x + 1).toNat - v (y + 1).toNat ≤ max b (-1099511627776) := by
  rw [← (bound_rep h.rep hx hy).pt, ← h.rep.pt]
  exact Iff.rfl

/-! ### A variable left out -/
def forgetZ (z : Zo) (x : Int) : Zo := if varP z.1 z.2.1 x then closeZ (z.1, z.2.1, forT (x + 1).toNat (z.1.toNat + 1) z.2.2) else z
def forgetR (z : Zo) (x : Int) : Zo := if z.2.1 then z else closeR (z.1, z.2.1, forT (x + 1).toNat (z.1.toNat + 1) z.2.2)

theorem for_raw {n : Nat} {D : List Int} (h : Raw n D) {r : Nat} (hr : r ≤ n) : Raw n (forT r (n + 1) D) := by
  have n6 := h.n6
  refine ⟨h.n6, by rw [forT_len]; exact h.len, fun a b ha hb => ?_, fun a ha => ?_, fun a b ha hb e => ?_⟩
  · rw [g_for h.len (by omega) _ (by omega) _ _ (by omega) (by omega)]
    split
    · omega
    · exact h.rng a b ha hb
  · rw [g_for h.len (by omega) _ (by omega) _ _ (by omega) (by omega), if_neg (by omega)]
    exact h.diag a ha
  · rw [g_for h.len (by omega) _ (by omega) _ _ ha hb, if_neg (by omega)]
    exact h.out a b ha hb e

def forM (r : Nat) (d : Mx) : Mx := fun i j => if i = r then (if j = r then 0 else 2147483647 + d 0 j) else if j = r then d i 0 + 2147483648 else d i j
theorem forM_clo {n r : Nat} {d : Mx} (h : Clo n d) (hd : ∀ i, i ≤ n → d i i = 0) : Clo n (forM r d) := by
  refine ⟨fun i hi => ?_, fun i j k hi hj hk => ?_⟩
  · unfold forM
    have := h.1 i hi
    split <;> omega
  · have t0 := h.2 i j k hi hj hk
    have t1 := h.2 0 j k (by omega) hj hk
    have t2 := h.2 i 0 k hi (by omega) hk
    have t3 := h.2 i j 0 hi hj (by omega)
    have t4 := h.2 0 0 k (by omega) (by omega) hk
    have t5 := h.2 0 0 j (by omega) (by omega) hj
    have z0 := hd 0 (by omega)
    unfold forM
    by_cases e1 : i = r <;> by_cases e2 : j = r <;> by_cases e3 : k = r <;> simp only [e1, e2, e3, if_true, if_false] <;> (try subst e1) <;> (try subst e2) <;> (try subst e3) <;> first | omega | (simp_all; omega)

theorem forget_rep {n : Nat} {z : Zo} (h : Gd n z) (hb : z.2.1 = false) {x : Int} (hx : 0 ≤ x ∧ x < n) :
    Gd n (forgetZ z x) ∧ (forgetZ z x).2.1 = false ∧ ∀ i j, i ≤ n → j ≤ n → g (forgetZ z x).2.2 i j = forM (x + 1).toNat (g z.2.2) i j := by
  have n6 := h.n6
  unfold forgetZ
  rw [(var_ok h hb).2 hx, h.hn, hb]
  have hrn : (x + 1).toNat ≤ n := by omega
  have h1 : 1 ≤ (x + 1).toNat := by omega
  generalize (x + 1).toNat = r at *
  have hr := for_raw (h.raw hb) hrn
  have rep := close_rep hr.w
  have clo := h.clo hb
  have own := h.own hb
  have dg := h.diag hb
  have hs : ∀ m, Clo n m → ((Lem n m (g (forT r (n + 1) z.2.2)) ∧ Own n m) ↔ Lem n m (forM r (g z.2.2))) := by
    intro m hm
    have ge : ∀ i j, i ≤ n → j ≤ n → g (forT r (n + 1) z.2.2) i j = if (j = r ∧ i ≠ r ∧ i < n + 1) ∨ (i = r ∧ j ≠ r ∧ j < n + 1) then 1099511627776 else g z.2.2 i j := fun i j hi hj => g_for h.len (by omega) _ (by omega) _ _ (by omega) (by omega)
    constructor
    · rintro ⟨hl, ho⟩ i j hi hj
      have a := hl i j hi hj
      rw [ge i j hi hj] at a
      have o := ho r h1 (by omega)
      unfold forM
      by_cases e1 : i = r
      · subst e1
        rw [if_pos rfl]
        by_cases e2 : j = i
        · subst e2
          rw [if_pos rfl]
          rw [if_neg (by omega), dg j hj] at a
          exact a
        · rw [if_neg e2]
          have t := hm.2 i j 0 hi hj (by omega)
          have c := hl 0 j (by omega) hj
          rw [ge 0 j (by omega) hj, if_neg (by omega)] at c
          omega
      · rw [if_neg e1]
        by_cases e2 : j = r
        · subst e2
          rw [if_pos rfl]
          have t := hm.2 i j 0 hi hj (by omega)
          have c := hl i 0 hi (by omega)
          rw [ge i 0 hi (by omega), if_neg (by omega)] at c
          omega
        · rw [if_neg e2]
          rw [if_neg (by omega)] at a
          exact a
    · intro hl
      refine ⟨fun i j hi hj => ?_, fun k k1 k2 => ?_⟩
      · have a := hl i j hi hj
        rw [ge i j hi hj]
        unfold forM at a
        have b1 := h.range hb (i := i) (j := 0) hi (by omega)
        have b2 := h.range hb (i := 0) (j := j) (by omega) hj
        by_cases e1 : i = r
        · subst e1
          rw [if_pos rfl] at a
          by_cases e2 : j = i
          · subst e2
            rw [if_pos rfl] at a
            rw [if_neg (by omega), dg j hj]; exact a
          · rw [if_neg e2] at a
            rw [if_pos (by omega)]; omega
        · rw [if_neg e1] at a
          by_cases e2 : j = r
          · subst e2
            rw [if_pos rfl] at a
            rw [if_pos (by omega)]; omega
          · rw [if_neg e2] at a
            rw [if_neg (by omega)]; exact a
      · have a := hl k 0 k2 (by omega)
        have b := hl 0 k (by omega) k2
        have o := own k k1 k2
        have z0 := dg 0 (by omega)
        unfold forM at a b
        by_cases e : k = r
        · subst e
          rw [if_pos rfl, if_neg (by omega)] at a
          rw [if_neg (by omega), if_pos rfl] at b
          omega
        · rw [if_neg e, if_neg (by omega)] at a
          rw [if_neg (by omega), if_neg e] at b
          omega
  exact ⟨rep.1, rep.eq (forM_clo clo dg) hs⟩

theorem forgetZ_un {n : Nat} {z : Zo} (h : Gd n z) {x : Int} (hx : ¬ (0 ≤ x ∧ x < n)) : forgetZ z x = z := by
  cases hb : z.2.1 with
  | true => unfold forgetZ; rw [var_none hb]; rfl
  | false =>
    unfold forgetZ
    rw [if_neg]
    intro e
    rw [var_ok h hb] at e
    exact hx e
theorem forgetZ_none {z : Zo} (hb : z.2.1 = true) {x : Int} : forgetZ z x = z := by
  unfold forgetZ
  rw [var_none hb]; rfl
theorem forget_gd {n : Nat} {z : Zo} (h : Gd n z) {x : Int} : Gd n (forgetZ z x) := by
  by_cases hx : 0 ≤ x ∧ x < n
  · cases hb : z.2.1 with
    | true => rw [forgetZ_none hb]; exact h
    | false => exact (forget_rep h hb hx).1
  · rw [forgetZ_un h hx]; exact h
theorem forgetR_eq {n : Nat} {z : Zo} (h : Gd n z) {x : Int} (hx : 0 ≤ x ∧ x < n) : forgetR z x = forgetZ z x := by
  cases hb : z.2.1 with
  | true => rw [forgetZ_none hb]; unfold forgetR; rw [hb]; rfl
  | false =>
    unfold forgetZ forgetR
    rw [(var_ok h hb).2 hx, h.hn, hb]
    exact closeR_eq (for_raw (h.raw hb) (r := (x + 1).toNat) (by omega))
theorem forget_pt {n : Nat} {z : Zo} (h : Gd n z) {x : Int} (hx : 0 ≤ x ∧ x < n) {v w : Nat → Int} (hv : Pt n v z) (hw : InR n w) (he : ∀ i, i ≤ n → i ≠ (x + 1).toNat → w i = v i) : Pt n w (forgetZ z x) := by
  have hb := hv.1
  obtain ⟨_, h2, h3⟩ := forget_rep h hb hx
  refine ⟨h2, fun i j hi hj => ?_⟩
  rw [h3 i j hi hj]
  have r1 : 1 ≤ (x + 1).toNat := by omega
  have r2 : (x + 1).toNat ≤ n := by omega
  generalize (x + 1).toNat = r at *
  have a := hv.2 i j hi hj
  have b := hv.2 0 j (by omega) hj
  have c := hv.2 i 0 hi (by omega)
  have w0 := hw.1
  have wr := hw.2 r r1 r2
  have v0 := he 0 (by omega) (by omega)
  unfold ptM at *
  unfold forM
  by_cases e1 : i = r
  · subst e1
    rw [if_pos rfl]
    by_cases e2 : j = i
    · subst e2; rw [if_pos rfl]; omega
    · rw [if_neg e2, he j hj e2]; omega
  · rw [if_neg e1]
    by_cases e2 : j = r
    · subst e2; rw [if_pos rfl, he i hi e1]; omega
    · rw [if_neg e2, he i hi e1, he j hj e2]; exact a

end Go.Proofs.YtgmciihlmgeecaaDoor.Zm

/-! Calls on zones in plain mathematics, on: copies, what either has, widening, which zones are right. Conditions: those that each lemma names. -/
namespace Go.Proofs.YtgmciihlmgeecaaDoor.Zm
open Go.RowKit

/-! ### A variable moved, or copied -/
def movZ (z : Zo) (r : Int) (c : Int) : Zo := closeZ (z.1, z.2.1, movT r.toNat c (z.1.toNat + 1) z.2.2)
def setZ (w : Zo) (r s : Nat) (c d : Int) : Zo := (w.1, w.2.1, st (st w.2.2 r s c) s r d)
def clampB (b : Int) : Int := min (max b (-1099511627776)) 1099511627776
def copyZ (z : Zo) (x y b : Int) : Zo :=
  if varP z.1 z.2.1 x && norP z.1 z.2.1 y then
    if x = y then movZ z (x + 1) (clampB b)
    else closeZ (setZ (forgetZ z x) (x + 1).toNat (y + 1).toNat (clampB b) (wrap64 (- clampB b)))
  else z
def copyR (z : Zo) (x y b : Int) : Zo :=
  if z.2.1 then z else
    if x = y then closeR (z.1, z.2.1, movT (x + 1).toNat b (z.1.toNat + 1) z.2.2)
    else closeR (setZ (forgetR z x) (x + 1).toNat (y + 1).toNat b (wrap64 (0 - b)))

theorem mov_g {n : Nat} {z : Zo} (h : Gd n z) (hb : z.2.1 = false) {r : Nat} (hr : r ≤ n) {c : Int} (hc : -1099511627776 ≤ c ∧ c ≤ 1099511627776) (a b : Nat) (ha : a < 7) (hb' : b < 7) :
    g (movT r c (n + 1) z.2.2) a b = if b = r ∧ a ≠ r ∧ a < n + 1 then g z.2.2 a b - c else if a = r ∧ b ≠ r ∧ b < n + 1 then g z.2.2 a b + c else g z.2.2 a b := by
  have n6 := h.n6
  refine g_mov h.len (by omega) hc (n + 1) (by omega) (fun a b ha hb' => ?_) (fun a ha => ?_) a b ha hb'
  · have := h.range hb (i := a) (j := b) (by omega) (by omega); omega
  · have := h.range hb (i := a) (j := r) (by omega) (by omega)
    have := h.range hb (i := r) (j := a) (by omega) (by omega)
    omega
theorem mov_rawW {n : Nat} {z : Zo} (h : Gd n z) (hb : z.2.1 = false) {r : Nat} (hr : r ≤ n) {c : Int} (hc : -1099511627776 ≤ c ∧ c ≤ 1099511627776) : RawW n (movT r c (n + 1) z.2.2) := by
  have n6 := h.n6
  refine ⟨h.n6, by rw [movT_len]; exact h.len, fun a b ha hb' => ?_, fun a ha => ?_, fun a b ha hb' e => ?_⟩
  · rw [mov_g h hb hr hc a b (by omega) (by omega)]
    have := h.range hb ha hb'
    split
    · omega
    · split <;> omega
  · rw [mov_g h hb hr hc a a (by omega) (by omega), if_neg (by omega), if_neg (by omega)]
    have := h.diag hb a ha; omega
  · rw [mov_g h hb hr hc a b ha hb', if_neg (by omega), if_neg (by omega)]
    exact h.out hb a b ha hb' e
theorem mov_raw {n : Nat} {z : Zo} (h : Gd n z) (hb : z.2.1 = false) {r : Nat} (hr : r ≤ n) {c : Int} (hc : -68719476736 ≤ c ∧ c ≤ 68719476736) : Raw n (movT r c (n + 1) z.2.2) := by
  have n6 := h.n6
  have w := mov_rawW h hb hr (c := c) (by omega)
  refine ⟨h.n6, w.len, fun a b ha hb' => ?_, w.diag, w.out⟩
  rw [mov_g h hb hr (by omega) a b (by omega) (by omega)]
  have := h.range hb ha hb'
  split
  · omega
  · split <;> omega

theorem forget_none {n : Nat} {z : Zo} (h : Gd n z) (hb : z.2.1 = false) {x : Int} : (forgetZ z x).2.1 = false := by
  by_cases hx : 0 ≤ x ∧ x < n
  · exact (forget_rep h hb hx).2.1
  · rw [forgetZ_un h hx]; exact hb

theorem wrap_small {x : Int} (h : -4398046511104 ≤ x) (h' : x ≤ 4398046511104) : wrap64 x = x := wrap_in (by omega) (by omega)

theorem set_rawW {n : Nat} {w : Zo} (h : Gd n w) (hb : w.2.1 = false) {r s : Nat} (hr : r ≤ n) (hs : s ≤ n) (hrs : r ≠ s) {c d : Int} (hc : -1099511627776 ≤ c ∧ c ≤ 1099511627776) (hd : -1099511627776 ≤ d ∧ d ≤ 1099511627776) :
    RawW n (st (st w.2.2 r s c) s r d) := st_rawW (st_rawW (h.raw hb).w hr hs (by omega) (by omega)) hs hr (by omega) (by omega)
theorem set_raw {n : Nat} {w : Zo} (h : Gd n w) (hb : w.2.1 = false) {r s : Nat} (hr : r ≤ n) (hs : s ≤ n) (hrs : r ≠ s) {c d : Int} (hc : -68719476736 ≤ c ∧ c ≤ 68719476736) (hd : -68719476736 ≤ d ∧ d ≤ 68719476736) :
    Raw n (st (st w.2.2 r s c) s r d) := st_raw (st_raw (h.raw hb) hr hs (by omega) (by omega)) hs hr (by omega) (by omega)

theorem clamp_in (b : Int) : -1099511627776 ≤ clampB b ∧ clampB b ≤ 1099511627776 := by unfold clampB; omega
theorem clamp_id {b : Int} (h : -1099511627776 ≤ b) (h' : b ≤ 1099511627776) : clampB b = b := by unfold clampB; omega

theorem copyZ_un {n : Nat} {z : Zo} (h : Gd n z) {x y b : Int} (hx : ¬ (0 ≤ x ∧ x < n) ∨ ¬ (-1 ≤ y ∧ y < n)) : copyZ z x y b = z := by
  cases hb : z.2.1 with
  | true => unfold copyZ; rw [var_none hb]; rfl
  | false =>
    unfold copyZ
    rw [if_neg]
    intro e
    rw [Bool.and_eq_true, nor_ok h hb, var_ok h hb] at e
    omega
theorem copyZ_none {z : Zo} (hb : z.2.1 = true) {x y b : Int} : copyZ z x y b = z := by
  unfold copyZ
  rw [var_none hb]; rfl

/-- What a copy tells: of closed bounds. -/
def copP (n : Nat) (d : Mx) (r s : Nat) (c : Int) (m : Mx) : Prop :=
  (∀ i j, i ≤ n → j ≤ n → i ≠ r → j ≠ r → m i j ≤ d i j) ∧ (m r s ≤ c ∧ m s r ≤ -c) ∧ m r r ≤ 0 ∧ Own n m
def movP (n : Nat) (d : Mx) (r : Nat) (c : Int) (m : Mx) : Prop :=
  (∀ i j, i ≤ n → j ≤ n → i ≠ r → j ≠ r → m i j ≤ d i j) ∧ (∀ i, i ≤ n → i ≠ r → m r i ≤ d r i + c ∧ m i r ≤ d i r - c) ∧ m r r ≤ 0 ∧ Own n m

theorem copy_rep {n : Nat} {z : Zo} (h : Gd n z) (hb : z.2.1 = false) {x y b : Int} (hx : 0 ≤ x ∧ x < n) (hy : -1 ≤ y ∧ y < n) (hxy : x ≠ y) :
    Rep n (copP n (g z.2.2) (x + 1).toNat (y + 1).toNat (clampB b)) (copyZ z x y b) := by
  have n6 := h.n6
  obtain ⟨f1, f2, f3⟩ := forget_rep h hb hx
  have cb := clamp_in b
  unfold copyZ
  rw [(var_ok h hb).2 hx, (nor_ok h hb).2 hy, if_pos (by rfl), if_neg hxy]
  have hr : (x + 1).toNat ≤ n := by omega
  have hs : (y + 1).toNat ≤ n := by omega
  have h1 : 1 ≤ (x + 1).toNat := by omega
  have hrs : (x + 1).toNat ≠ (y + 1).toNat := by omega
  generalize (x + 1).toNat = r at *
  generalize (y + 1).toNat = s at *
  rw [wrap_small (by omega) (by omega)]
  generalize clampB b = c at *
  have hw := set_rawW f1 f2 hr hs hrs (c := c) (d := -c) cb (by omega)
  unfold setZ
  rw [f1.hn, f2]
  refine (close_rep hw).of fun m hm => ?_
  have gs : ∀ i j, i ≤ n → j ≤ n → g (st (st (forgetZ z x).2.2 r s c) s r (-c)) i j = if i = s ∧ j = r then -c else if i = r ∧ j = s then c else forM r (g z.2.2) i j := fun i j hi hj => by
    rw [g_st (by rw [st_length]; exact f1.len) (by omega) (by omega) (by omega) (by omega), g_st f1.len (by omega) (by omega) (by omega) (by omega), f3 i j hi hj]
  constructor
  · rintro ⟨hl, ho⟩
    refine ⟨fun i j hi hj e1 e2 => ?_, ⟨?_, ?_⟩, ?_, ho⟩
    · have a := hl i j hi hj
      rw [gs i j hi hj, if_neg (by omega), if_neg (by omega)] at a
      unfold forM at a
      rw [if_neg e1, if_neg e2] at a
      exact a
    · have a := hl r s hr hs
      rw [gs r s hr hs, if_neg (by omega), if_pos ⟨rfl, rfl⟩] at a
      exact a
    · have a := hl s r hs hr
      rw [gs s r hs hr, if_pos ⟨rfl, rfl⟩] at a
      exact a
    · have a := hl r r hr hr
      rw [gs r r hr hr, if_neg (by omega), if_neg (by omega)] at a
      unfold forM at a
      rw [if_pos rfl, if_pos rfl] at a
      exact a
  · rintro ⟨hl, ⟨h2, h3⟩, h4, ho⟩
    refine ⟨fun i j hi hj => ?_, ho⟩
    rw [gs i j hi hj]
    have o := ho r h1 hr
    by_cases e1 : i = s ∧ j = r
    · obtain ⟨rfl, rfl⟩ := e1; rw [if_pos ⟨rfl, rfl⟩]; exact h3
    · rw [if_neg e1]
      by_cases e2 : i = r ∧ j = s
      · obtain ⟨rfl, rfl⟩ := e2; rw [if_pos ⟨rfl, rfl⟩]; exact h2
      · rw [if_neg e2]
        unfold forM
        by_cases e3 : i = r
        · subst e3
          rw [if_pos rfl]
          by_cases e4 : j = i
          · subst e4; rw [if_pos rfl]; exact h4
          · rw [if_neg e4]
            have t := hm.2 i j 0 hi hj (by omega)
            have a := hl 0 j (by omega) hj (by omega) e4
            omega
        · rw [if_neg e3]
          by_cases e4 : j = r
          · subst e4; rw [if_pos rfl]
            have t := hm.2 i j 0 hi hj (by omega)
            have a := hl i 0 hi (by omega) e3 (by omega)
            omega
          · rw [if_neg e4]
            exact hl i j hi hj e3 e4

theorem mov_rep {n : Nat} {z : Zo} (h : Gd n z) (hb : z.2.1 = false) {x b : Int} (hx : 0 ≤ x ∧ x < n) :
    Rep n (movP n (g z.2.2) (x + 1).toNat (clampB b)) (copyZ z x x b) := by
  have n6 := h.n6
  have cb := clamp_in b
  unfold copyZ movZ
  rw [(var_ok h hb).2 hx, (nor_ok h hb).2 (by omega), if_pos (by rfl), if_pos rfl, h.hn, hb]
  have hr : (x + 1).toNat ≤ n := by omega
  generalize (x + 1).toNat = r at *
  generalize clampB b = c at *
  refine (close_rep (mov_rawW h hb hr cb)).of fun m hm => ?_
  have gs := fun i j (hi : i ≤ n) (hj : j ≤ n) => mov_g h hb hr cb i j (by omega) (by omega)
  constructor
  · rintro ⟨hl, ho⟩
    refine ⟨fun i j hi hj e1 e2 => ?_, fun i hi e => ⟨?_, ?_⟩, ?_, ho⟩
    · have a := hl i j hi hj
      rw [gs i j hi hj, if_neg (by omega), if_neg (by omega)] at a
      exact a
    · have a := hl r i hr hi
      rw [gs r i hr hi, if_neg (by omega), if_pos (by omega)] at a
      exact a
    · have a := hl i r hi hr
      rw [gs i r hi hr, if_pos (by omega)] at a
      exact a
    · have a := hl r r hr hr
      rw [gs r r hr hr, if_neg (by omega), if_neg (by omega), h.diag hb r hr] at a
      exact a
  · rintro ⟨hl, h2, h4, ho⟩
    refine ⟨fun i j hi hj => ?_, ho⟩
    rw [gs i j hi hj]
    by_cases e1 : j = r ∧ i ≠ r ∧ i < n + 1
    · rw [if_pos e1]; obtain ⟨rfl, e1, _⟩ := e1; exact (h2 i hi e1).2
    · rw [if_neg e1]
      by_cases e2 : i = r ∧ j ≠ r ∧ j < n + 1
      · rw [if_pos e2]; obtain ⟨rfl, e2, _⟩ := e2; exact (h2 j hj e2).1
      · rw [if_neg e2]
        by_cases e3 : i = r
        · subst e3
          obtain rfl : j = i := by
            apply Classical.byContradiction
            intro e; exact e2 ⟨rfl, e, by omega⟩
          rw [h.diag hb j hj]; exact h4
        · exact hl i j hi hj e3 (fun e => e1 ⟨e, e3, by omega⟩)

theorem copy_gd {n : Nat} {z : Zo} (h : Gd n z) {x y b : Int} : Gd n (copyZ z x y b) := by
  cases hb : z.2.1 with
  | true => rw [copyZ_none hb]; exact h
  | false =>
    by_cases hx : 0 ≤ x ∧ x < n
    · by_cases hy : -1 ≤ y ∧ y < n
      · by_cases e : x = y
        · subst e; exact (mov_rep h hb hx).1
        · exact (copy_rep h hb hx hy e).1
      · rw [copyZ_un h (.inr hy)]; exact h
    · rw [copyZ_un h (.inl hx)]; exact h

theorem copyR_eq {n : Nat} {z : Zo} (h : Gd n z) {x y b : Int} (hx : 0 ≤ x ∧ x < n) (hy : -1 ≤ y ∧ y < n) (hbb : -68719476736 ≤ b ∧ b ≤ 68719476736) : copyR z x y b = copyZ z x y b := by
  have n6 := h.n6
  cases hb : z.2.1 with
  | true => rw [copyZ_none hb]; unfold copyR; rw [hb]; rfl
  | false =>
    obtain ⟨f1, f2, f3⟩ := forget_rep h hb hx
    have e1 : copyZ z x y b = if x = y then movZ z (x + 1) b else closeZ (setZ (forgetZ z x) (x + 1).toNat (y + 1).toNat b (-b)) := by
      unfold copyZ
      rw [(var_ok h hb).2 hx, (nor_ok h hb).2 hy, clamp_id (by omega) (by omega), wrap_small (by omega) (by omega)]; rfl
    have e2 : copyR z x y b = if x = y then closeR (z.1, z.2.1, movT (x + 1).toNat b (z.1.toNat + 1) z.2.2) else closeR (setZ (forgetZ z x) (x + 1).toNat (y + 1).toNat b (-b)) := by
      unfold copyR
      rw [forgetR_eq h hx, show (0 : Int) - b = -b by omega, wrap_small (by omega) (by omega), if_neg (by rw [hb]; decide)]
    rw [e1, e2]
    by_cases e : x = y
    · rw [if_pos e, if_pos e]
      unfold movZ
      rw [h.hn, hb]
      exact closeR_eq (mov_raw h hb (r := (x + 1).toNat) (by omega) hbb)
    · rw [if_neg e, if_neg e]
      unfold setZ
      rw [f1.hn, f2]
      exact closeR_eq (set_raw f1 f2 (r := (x + 1).toNat) (s := (y + 1).toNat) (by omega) (by omega) (by omega) hbb (by omega))

theorem copy_pt {n : Nat} {z : Zo} (h : Gd n z) {x y b : Int} (hx : 0 ≤ x ∧ x < n) (hy : -1 ≤ y ∧ y < n) (hbb : -1099511627776 ≤ b ∧ b ≤ 1099511627776) {v w : Nat → Int} (hv : Pt n v z) (hw : InR n w)
    (he : ∀ i, i ≤ n → i ≠ (x + 1).toNat → w i = v i) (hr : w (x + 1).toNat = v (y + 1).toNat + b) : Pt n w (copyZ z x y b) := by
  have hb := hv.1
  have o := ptM_own hw
  have cb := clamp_id hbb.1 hbb.2
  have r2 : (x + 1).toNat ≤ n := by omega
  have s2 : (y + 1).toNat ≤ n := by omega
  by_cases e : x = y
  · subst e
    refine (mov_rep h hb hx).pt.1 ?_
    rw [cb]
    generalize (x + 1).toNat = r at *
    refine ⟨fun i j hi hj e1 e2 => ?_, fun i hi e => ⟨?_, ?_⟩, ?_, o⟩
    · have := hv.2 i j hi hj
      unfold ptM at *
      rw [he i hi e1, he j hj e2]; exact this
    · have := hv.2 r i r2 hi
      unfold ptM at *
      rw [hr, he i hi e]; omega
    · have := hv.2 i r hi r2
      unfold ptM at *
      rw [hr, he i hi e]; omega
    · unfold ptM; omega
  · refine (copy_rep h hb hx hy e).pt.1 ?_
    rw [cb]
    have hrs : (x + 1).toNat ≠ (y + 1).toNat := by omega
    have e2 := he (y + 1).toNat s2 (by omega)
    generalize (x + 1).toNat = r at *
    generalize (y + 1).toNat = s at *
    refine ⟨fun i j hi hj e1 e2 => ?_, ⟨?_, ?_⟩, ?_, o⟩
    · have := hv.2 i j hi hj
      unfold ptM at *
      rw [he i hi e1, he j hj e2]; exact this
    · unfold ptM; omega
    · unfold ptM; omega
    · unfold ptM; omega

/-! ### All numbers; nought alone -/
theorem Rep.not_none {n : Nat} {P : Mx → Prop} {z : Zo} (h : Rep n P z) {m : Mx} (hm : Clo n m) (hp : P m) : z.2.1 = false := by
  cases hb : z.2.1 with
  | false => rfl
  | true => exact absurd hp (h.2.1 hb m hm)

end Go.Proofs.YtgmciihlmgeecaaDoor.Zm

/-! Calls on zones in plain mathematics, on: all numbers, what either has, widening, which zones are right. Conditions: those that each lemma names. -/
namespace Go.Proofs.YtgmciihlmgeecaaDoor.Zm
open Go.RowKit
set_option linter.unusedVariables false

/-- A row of 49 by what stands at each place. -/
def mkD (f : Nat → Nat → Int) : List Int := (List.range 49).map fun p => f (p / 7) (p % 7)
theorem mkD_len (f : Nat → Nat → Int) : (mkD f).length = 49 := by unfold mkD; rw [List.length_map, List.length_range]
theorem g_mk (f : Nat → Nat → Int) {i j : Nat} (hi : i < 7) (hj : j < 7) : g (mkD f) i j = f i j := by
  unfold g mkD
  have h1 : (7 * i + j) / 7 = i := by omega
  have h2 : (7 * i + j) % 7 = j := by omega
  rw [List.getD_eq_getElem?_getD, List.getElem?_map, List.getElem?_range (by omega), Option.map_some, Option.getD_some, h1, h2]
theorem mk_ext {f h : Nat → Nat → Int} (e : ∀ i j, i < 7 → j < 7 → f i j = h i j) : mkD f = mkD h :=
  g_ext (mkD_len f) (mkD_len h) fun a b ha hb => by rw [g_mk f ha hb, g_mk h ha hb, e a b ha hb]
theorem mk_eq {D : List Int} (hl : D.length = 49) {f : Nat → Nat → Int} (e : ∀ i j, i < 7 → j < 7 → g D i j = f i j) : D = mkD f :=
  g_ext hl (mkD_len f) fun a b ha hb => by rw [g_mk f ha hb, e a b ha hb]
theorem st_mk (f : Nat → Nat → Int) {i j : Nat} (hi : i < 7) (hj : j < 7) (v : Int) : st (mkD f) i j v = mkD fun a b => if a = i ∧ b = j then v else f a b := by
  refine g_ext (by rw [st_length, mkD_len]) (mkD_len _) fun a b ha hb => ?_
  rw [g_st (mkD_len f) hi hj ha hb, g_mk _ ha hb, g_mk _ ha hb]
theorem zero_mk : zeroL = mkD fun _ _ => 0 := mk_eq zeroL_len fun i j _ _ => g_zero i j

/-! ### All numbers; nought alone -/
def capN (n : Int) : Int := min (max n 0) 6
def topD (k : Nat) : List Int := mkD fun i j => if i ≤ k ∧ j ≤ k ∧ i ≠ j then 1099511627776 else 0
def topZ (n : Int) : Zo := closeZ (capN n, false, topD (capN n).toNat)
def topR (n : Int) : Zo := closeR (capN n, false, topD (capN n).toNat)
def zerosZ (n : Int) : Zo := (capN n, false, zeroL)

theorem capN_id {n : Nat} (h : n ≤ 6) : capN (n : Int) = n := by unfold capN; omega

theorem top_raw {n : Nat} (h : n ≤ 6) : Raw n (topD n) := by
  unfold topD
  refine ⟨h, mkD_len _, fun a b ha hb => ?_, fun a ha => ?_, fun a b ha hb e => ?_⟩
  · rw [g_mk _ (by omega) (by omega)]; split <;> omega
  · rw [g_mk _ (by omega) (by omega), if_neg (by omega)]; omega
  · rw [g_mk _ ha hb, if_neg (by omega)]
theorem topM {n : Nat} (h : n ≤ 6) {m : Mx} (hm : Clo n m) : (Lem n m (g (topD n)) ∧ Own n m) ↔ ((∀ i, i ≤ n → m i i ≤ 0) ∧ Own n m) := by
  unfold topD
  constructor
  · rintro ⟨hl, ho⟩
    refine ⟨fun i hi => ?_, ho⟩
    have := hl i i hi hi
    rw [g_mk _ (by omega) (by omega), if_neg (by omega)] at this
    exact this
  · rintro ⟨hd, ho⟩
    refine ⟨fun i j hi hj => ?_, ho⟩
    rw [g_mk _ (by omega) (by omega)]
    by_cases e : i ≤ n ∧ j ≤ n ∧ i ≠ j
    · rw [if_pos e]
      have t := hm.2 i j 0 hi hj (by omega)
      have a : m i 0 ≤ 2147483648 := by
        by_cases e : i = 0
        · subst e; have := hd 0 (by omega); omega
        · have := (ho i (by omega) hi).1; omega
      have b : m 0 j ≤ 2147483648 := by
        by_cases e : j = 0
        · subst e; have := hd 0 (by omega); omega
        · exact (ho j (by omega) hj).2
      omega
    · rw [if_neg e]
      obtain rfl : i = j := by omega
      exact hd i hi
theorem top_rep {n : Nat} (h : n ≤ 6) : Rep n (fun m => (∀ i, i ≤ n → m i i ≤ 0) ∧ Own n m) (topZ n) := by
  unfold topZ
  rw [capN_id h, Int.toNat_natCast]
  exact (close_rep (top_raw h).w).of fun m hm => topM h hm
theorem topR_eq {n : Nat} (h : n ≤ 6) : topR n = topZ n := by
  unfold topZ topR
  rw [capN_id h, Int.toNat_natCast]
  exact closeR_eq (top_raw h)
theorem top_none {n : Nat} (h : n ≤ 6) : (topZ n).2.1 = false :=
  (top_rep h).not_none (m := fun _ _ => 0) ⟨fun _ _ => (by (try dsimp only); omega), fun _ _ _ _ _ _ => (by (try dsimp only); omega)⟩ ⟨fun _ _ => (by (try dsimp only); omega), fun _ _ _ => (by (try dsimp only); omega)⟩
theorem top_pt {n : Nat} (h : n ≤ 6) {v : Nat → Int} (hv : InR n v) : Pt n v (topZ n) :=
  (top_rep h).pt.1 ⟨fun i _ => by unfold ptM; omega, ptM_own hv⟩
/-- its bounds -/
theorem top_g {n : Nat} (h : n ≤ 6) {i j : Nat} (hi : i ≤ n) (hj : j ≤ n) : g (topZ n).2.2 i j = if i = j then 0 else (if i = 0 then 0 else 2147483647) + (if j = 0 then 0 else 2147483648) := by
  refine ((top_rep h).eq (c := fun i j => if i = j then 0 else (if i = 0 then 0 else 2147483647) + (if j = 0 then 0 else 2147483648)) ⟨fun i hi => by simp, fun i j k hi hj hk => ?_⟩ fun m hm => ?_).2 i j hi hj
  · by_cases e1 : i = j <;> by_cases e2 : i = k <;> by_cases e3 : k = j <;> by_cases e4 : i = 0 <;> by_cases e5 : j = 0 <;> by_cases e6 : k = 0 <;> simp [*] <;> (try omega) <;> (split <;> split <;> omega)
  · constructor
    · rintro ⟨hd, ho⟩ i j hi hj
      have t := hm.2 i j 0 hi hj (by omega)
      by_cases e : i = j
      · subst e; have := hd i hi; simpa using this
      · have a : m i 0 ≤ if i = 0 then 0 else 2147483647 := by
          by_cases e : i = 0
          · subst e; have := hd 0 (by omega); simpa using this
          · rw [if_neg e]; exact (ho i (by omega) hi).1
        have b : m 0 j ≤ if j = 0 then 0 else 2147483648 := by
          by_cases e : j = 0
          · subst e; have := hd 0 (by omega); simpa using this
          · rw [if_neg e]; exact (ho j (by omega) hj).2
        show m i j ≤ if i = j then 0 else _
        rw [if_neg e]; omega
    · intro hl
      refine ⟨fun i hi => by have := hl i i hi hi; simpa using this, fun i h1 hi => ⟨?_, ?_⟩⟩
      · have := hl i 0 hi (by omega)
        simp only [show ¬ i = 0 by omega, if_false, if_true] at this
        omega
      · have := hl 0 i (by omega) hi
        simp only [show ¬ 0 = i by omega, show ¬ i = 0 by omega, if_false, if_true] at this
        omega

theorem zeros_gd {n : Nat} (h : n ≤ 6) : Gd n (zerosZ n) := by
  unfold zerosZ
  rw [capN_id h]
  refine ⟨rfl, h, zeroL_len, fun _ => rfl, fun _ => ⟨fun i _ => ?_, fun i j k _ _ _ => ?_⟩, fun _ i _ _ => ?_, fun _ i _ => g_zero i i, fun _ a b _ _ _ => g_zero a b⟩
  · show 0 ≤ g zeroL i i
    rw [g_zero]; omega
  · show g zeroL i j ≤ g zeroL i k + g zeroL k j
    rw [g_zero, g_zero, g_zero]; omega
  · show g zeroL i 0 ≤ _ ∧ g zeroL 0 i ≤ _
    rw [g_zero, g_zero]; omega
theorem zeros_none (n : Int) : (zerosZ n).2.1 = false := rfl
theorem zeros_g (n : Int) (i j : Nat) : g (zerosZ n).2.2 i j = 0 := g_zero i j

/-! ### Two zones -/
def alikeZ (a b : Zo) : Bool := decide (a.1 = b.1) && okN a.1
def withinZ (a b : Zo) : Bool :=
  if !alikeZ a b then false else if a.2.1 then true else if b.2.1 then false else (List.range 7).all fun i => (List.range 7).all fun j => decide (g a.2.2 i j ≤ g b.2.2 i j)
def withinR (a b : Zo) : Bool :=
  if !decide (a.1 = b.1) then false else if a.2.1 then true else if b.2.1 then false else (List.range (a.1.toNat + 1)).all fun i => (List.range (a.1.toNat + 1)).all fun j => decide (g a.2.2 i j ≤ g b.2.2 i j)
def joinZ (a b : Zo) : Zo :=
  if !alikeZ a b || b.2.1 then a else if a.2.1 then b else (a.1, a.2.1, mkD fun i j => max (g a.2.2 i j) (g b.2.2 i j))
def joinR (a b : Zo) : Zo :=
  if a.2.1 then b else if b.2.1 then a else (a.1, a.2.1, mkD fun i j => if i ≤ a.1.toNat ∧ j ≤ a.1.toNat then max (g a.2.2 i j) (g b.2.2 i j) else g a.2.2 i j)
def keptP (a b : Int) : Int := if b > a then 1099511627776 else a
def widD (a b : List Int) (n : Nat) (T : List Int) : List Int := mkD fun i j =>
  if 1 ≤ i ∧ i ≤ n ∧ j = 0 then keptP (g a i 0) (g b i 0) else if i = 0 ∧ 1 ≤ j ∧ j ≤ n then keptP (g a 0 j) (g b 0 j) else if 1 ≤ i ∧ i ≤ n ∧ 1 ≤ j ∧ j ≤ n ∧ i ≠ j then 1099511627776 else g T i j
def widenZ (a b : Zo) : Zo :=
  if !alikeZ a b || withinZ b a then a else if a.2.1 then b else closeZ ((topZ a.1).1, (topZ a.1).2.1, widD a.2.2 b.2.2 a.1.toNat (topZ a.1).2.2)
def widR (a b : List Int) : Nat → Zo → Zo
  | 0, z => z
  | t + 1, z =>
    let z := widR a b t z
    let z := if g b (t + 1) 0 ≤ g a (t + 1) 0 then boundR z t (-1) (g a (t + 1) 0) else z
    if g b 0 (t + 1) ≤ g a 0 (t + 1) then boundR z (-1) t (g a 0 (t + 1)) else z
def widenR (a b : Zo) : Zo := if a.2.1 then b else if withinR b a then a else widR a.2.2 b.2.2 a.1.toNat (topR a.1)
def rightZ (z : Zo) : Bool :=
  okN z.1 && ((List.range 7).all fun i => (List.range 7).all fun j => !(((z.2.1 || decide (z.1 < (i : Int)) || decide (z.1 < (j : Int))) && !decide (g z.2.2 i j = 0)) || decide (g z.2.2 i j > 1099511627776) || decide (g z.2.2 i j < -1099511627776))) && decide (closeZ z = z)

section
variable {n : Nat} {a b z : Zo}

theorem Gd.okN (h : Gd n a) : okN a.1 = true := by
  have := h.n6
  unfold Zm.okN
  rw [h.hn]; simp; omega
theorem Gd.alike (h : Gd n a) (h' : Gd n b) : alikeZ a b = true := by
  unfold alikeZ
  rw [h.okN, h.hn, h'.hn]; simp
theorem Gd.nat (h : Gd n a) : a.1.toNat = n := by rw [h.hn]; simp

theorem all7 {p : Nat → Nat → Bool} {m : Nat} : ((List.range m).all fun i => (List.range m).all fun j => p i j) = true ↔ ∀ i j, i < m → j < m → p i j = true := by
  rw [List.all_eq_true]
  constructor
  · intro h i j hi hj
    exact List.all_eq_true.1 (h i (List.mem_range.2 hi)) j (List.mem_range.2 hj)
  · intro h i hi
    exact List.all_eq_true.2 fun j hj => h i j (List.mem_range.1 hi) (List.mem_range.1 hj)

theorem within_iff (h : Gd n a) (h' : Gd n b) : withinZ a b = true ↔ a.2.1 = true ∨ (a.2.1 = false ∧ b.2.1 = false ∧ Lem n (g a.2.2) (g b.2.2)) := by
  have n6 := h.n6
  unfold withinZ
  rw [h.alike h']
  cases ha : a.2.1 with
  | true => simp
  | false =>
    cases hb : b.2.1 with
    | true => simp
    | false =>
      simp only [Bool.not_true, Bool.false_eq_true, if_false, all7, decide_eq_true_eq, false_or, true_and]
      constructor
      · intro hl i j hi hj
        exact hl i j (by omega) (by omega)
      · intro hl i j hi hj
        by_cases e : i ≤ n ∧ j ≤ n
        · exact hl i j e.1 e.2
        · rw [h.out ha i j hi hj e, h'.out hb i j hi hj e]; omega
theorem withinR_eq (h : Gd n a) (h' : Gd n b) : withinR a b = withinZ a b := by
  rw [Bool.eq_iff_iff, within_iff h h']
  unfold withinR
  rw [h.hn, h'.hn]
  cases ha : a.2.1 with
  | true => simp
  | false =>
    cases hb : b.2.1 with
    | true => simp
    | false =>
      simp only [decide_true, Bool.not_true, Bool.false_eq_true, if_false, all7, decide_eq_true_eq, false_or, true_and, Int.toNat_natCast]
      exact ⟨fun hl i j hi hj => hl i j (by omega) (by omega), fun hl i j hi hj => hl i j (by omega) (by omega)⟩

theorem join_none1 (h : Gd n a) (h' : Gd n b) (ha : a.2.1 = true) : joinZ a b = b := by
  unfold joinZ
  rw [h.alike h', ha]
  cases hb : b.2.1 with
  | false => rfl
  | true =>
    refine h.ext h' (by rw [ha, hb]) fun e => ?_
    rw [ha] at e; cases e
theorem join_none2 (hb : b.2.1 = true) : joinZ a b = a := by
  unfold joinZ
  rw [hb]; simp
theorem join_both (h : Gd n a) (h' : Gd n b) (ha : a.2.1 = false) (hb : b.2.1 = false) : joinZ a b = (a.1, false, mkD fun i j => max (g a.2.2 i j) (g b.2.2 i j)) := by
  unfold joinZ
  rw [h.alike h', ha, hb]; rfl
theorem join_g (h : Gd n a) (h' : Gd n b) (ha : a.2.1 = false) (hb : b.2.1 = false) {i j : Nat} (hi : i < 7) (hj : j < 7) : g (joinZ a b).2.2 i j = max (g a.2.2 i j) (g b.2.2 i j) := by
  rw [join_both h h' ha hb]
  show g (mkD fun i j => max (g a.2.2 i j) (g b.2.2 i j)) i j = _
  rw [g_mk _ hi hj]
theorem join_gd (h : Gd n a) (h' : Gd n b) : Gd n (joinZ a b) := by
  have n6 := h.n6
  cases ha : a.2.1 with
  | true => rw [join_none1 h h' ha]; exact h'
  | false =>
    cases hb : b.2.1 with
    | true => rw [join_none2 hb]; exact h
    | false =>
      have e := fun i j (hi : i < 7) (hj : j < 7) => join_g h h' ha hb hi hj
      have e0 := join_both h h' ha hb
      refine ⟨by rw [e0]; exact h.hn, n6, by rw [e0]; exact mkD_len (fun i j => max (g a.2.2 i j) (g b.2.2 i j)), fun x => by (rw [e0] at x; cases x), fun _ => ⟨fun i hi => ?_, fun i j k hi hj hk => ?_⟩, fun _ i h1 hi => ?_, fun _ i hi => ?_, fun _ i j hi hj hx => ?_⟩
      · rw [e i i (by omega) (by omega), h.diag ha i hi, h'.diag hb i hi]; omega
      · rw [e i j (by omega) (by omega), e i k (by omega) (by omega), e k j (by omega) (by omega)]
        have := (h.clo ha).2 i j k hi hj hk
        have := (h'.clo hb).2 i j k hi hj hk
        omega
      · rw [e i 0 (by omega) (by omega), e 0 i (by omega) (by omega)]
        have := h.own ha i h1 hi
        have := h'.own hb i h1 hi
        omega
      · rw [e i i (by omega) (by omega), h.diag ha i hi, h'.diag hb i hi]; rfl
      · rw [e i j hi hj, h.out ha i j hi hj hx, h'.out hb i j hi hj hx]; rfl
theorem joinR_eq (h : Gd n a) (h' : Gd n b) : joinR a b = joinZ a b := by
  cases ha : a.2.1 with
  | true => rw [join_none1 h h' ha]; unfold joinR; rw [ha]; rfl
  | false =>
    cases hb : b.2.1 with
    | true => rw [join_none2 hb]; unfold joinR; rw [ha, hb]; rfl
    | false =>
      rw [join_both h h' ha hb]
      unfold joinR
      rw [ha, hb, h.nat]
      have : (mkD fun i j => if i ≤ n ∧ j ≤ n then max (g a.2.2 i j) (g b.2.2 i j) else g a.2.2 i j) = mkD fun i j => max (g a.2.2 i j) (g b.2.2 i j) := mk_ext fun i j hi hj => by
        by_cases e : i ≤ n ∧ j ≤ n
        · rw [if_pos e]
        · rw [if_neg e, h.out ha i j hi hj e, h'.out hb i j hi hj e]; rfl
      rw [this]; rfl
theorem join_pt1 (h : Gd n a) (h' : Gd n b) {v : Nat → Int} (hv : Pt n v a) : Pt n v (joinZ a b) := by
  have n6 := h.n6
  cases hb : b.2.1 with
  | true => rw [join_none2 hb]; exact hv
  | false =>
    refine ⟨by rw [join_both h h' hv.1 hb], fun i j hi hj => ?_⟩
    rw [join_g h h' hv.1 hb (by omega) (by omega)]
    have := hv.2 i j hi hj
    omega
theorem join_pt2 (h : Gd n a) (h' : Gd n b) {v : Nat → Int} (hv : Pt n v b) : Pt n v (joinZ a b) := by
  have n6 := h.n6
  cases ha : a.2.1 with
  | true => rw [join_none1 h h' ha]; exact hv
  | false =>
    refine ⟨by rw [join_both h h' ha hv.1], fun i j hi hj => ?_⟩
    rw [join_g h h' ha hv.1 (by omega) (by omega)]
    have := hv.2 i j hi hj
    omega
theorem within_refl (h : Gd n a) : withinZ a a = true := by
  rw [within_iff h h]
  cases ha : a.2.1 with
  | true => exact .inl rfl
  | false => exact .inr ⟨rfl, rfl, Lem.refl _ _⟩
theorem within_join1 (h : Gd n a) (h' : Gd n b) : withinZ a (joinZ a b) = true := by
  have n6 := h.n6
  rw [within_iff h (join_gd h h')]
  cases ha : a.2.1 with
  | true => exact .inl rfl
  | false =>
    cases hb : b.2.1 with
    | true => rw [join_none2 hb]; exact .inr ⟨rfl, ha, Lem.refl _ _⟩
    | false =>
      refine .inr ⟨rfl, by rw [join_both h h' ha hb], fun i j hi hj => ?_⟩
      rw [join_g h h' ha hb (by omega) (by omega)]; omega
theorem within_join2 (h : Gd n a) (h' : Gd n b) : withinZ b (joinZ a b) = true := by
  have n6 := h.n6
  rw [within_iff h' (join_gd h h')]
  cases hb : b.2.1 with
  | true => exact .inl rfl
  | false =>
    cases ha : a.2.1 with
    | true => rw [join_none1 h h' ha]; exact .inr ⟨rfl, hb, Lem.refl _ _⟩
    | false =>
      refine .inr ⟨rfl, by rw [join_both h h' ha hb], fun i j hi hj => ?_⟩
      rw [join_g h h' ha hb (by omega) (by omega)]; omega

/-! ### Widening -/
/-- The bounds that stay. -/
def widP (n t : Nat) (a b : Mx) (m : Mx) : Prop :=
  ((∀ i, i ≤ n → m i i ≤ 0) ∧ Own n m) ∧ ∀ i, 1 ≤ i → i ≤ t → (b i 0 ≤ a i 0 → m i 0 ≤ a i 0) ∧ (b 0 i ≤ a 0 i → m 0 i ≤ a 0 i)

theorem wid_raw (h : Gd n a) (h' : Gd n b) (ha : a.2.1 = false) (hb : b.2.1 = false) : RawW n (widD a.2.2 b.2.2 n (topZ n).2.2) := by
  have n6 := h.n6
  have tg := (top_rep n6).1
  have tb := top_none n6
  unfold widD keptP
  refine ⟨n6, mkD_len _, fun i j hi hj => ?_, fun i hi => ?_, fun i j hi hj e => ?_⟩
  · rw [g_mk _ (by omega) (by omega)]
    have r1 := h.range ha (i := i) (j := 0) hi (by omega)
    have r2 := h.range ha (i := 0) (j := j) (by omega) hj
    have r3 := tg.range tb hi hj
    split
    · split <;> omega
    · split
      · split <;> omega
      · split <;> omega
  · rw [g_mk _ (by omega) (by omega), if_neg (by omega), if_neg (by omega), if_neg (by omega), tg.diag tb i hi]; omega
  · rw [g_mk _ hi hj, if_neg (by omega), if_neg (by omega), if_neg (by omega), tg.out tb i j hi hj e]

theorem widen_rep (h : Gd n a) (h' : Gd n b) (ha : a.2.1 = false) (hb : b.2.1 = false) : Rep n (widP n n (g a.2.2) (g b.2.2)) (closeZ ((topZ a.1).1, (topZ a.1).2.1, widD a.2.2 b.2.2 a.1.toNat (topZ a.1).2.2)) := by
  have n6 := h.n6
  have tg := (top_rep n6).1
  have tb := top_none n6
  rw [h.hn, tg.hn, tb, Int.toNat_natCast]
  refine (close_rep (wid_raw h h' ha hb)).of fun m hm => ?_
  have gw : ∀ i j, i ≤ n → j ≤ n → g (widD a.2.2 b.2.2 n (topZ n).2.2) i j = if 1 ≤ i ∧ i ≤ n ∧ j = 0 then keptP (g a.2.2 i 0) (g b.2.2 i 0) else if i = 0 ∧ 1 ≤ j ∧ j ≤ n then keptP (g a.2.2 0 j) (g b.2.2 0 j) else if 1 ≤ i ∧ i ≤ n ∧ 1 ≤ j ∧ j ≤ n ∧ i ≠ j then 1099511627776 else g (topZ n).2.2 i j := fun i j hi hj => by
    unfold widD
    rw [g_mk _ (by omega) (by omega)]
  constructor
  · rintro ⟨hl, ho⟩
    refine ⟨⟨fun i hi => ?_, ho⟩, fun i h1 hi => ⟨fun hk => ?_, fun hk => ?_⟩⟩
    · have := hl i i hi hi
      rw [gw i i hi hi, if_neg (by omega), if_neg (by omega), if_neg (by omega), tg.diag tb i hi] at this
      exact this
    · have := hl i 0 hi (by omega)
      rw [gw i 0 hi (by omega), if_pos ⟨h1, hi, rfl⟩] at this
      unfold keptP at this
      rw [if_neg (by omega)] at this
      exact this
    · have := hl 0 i (by omega) hi
      rw [gw 0 i (by omega) hi, if_neg (by omega), if_pos ⟨rfl, h1, hi⟩] at this
      unfold keptP at this
      rw [if_neg (by omega)] at this
      exact this
  · rintro ⟨⟨hd, ho⟩, hk⟩
    refine ⟨fun i j hi hj => ?_, ho⟩
    rw [gw i j hi hj]
    by_cases c1 : 1 ≤ i ∧ i ≤ n ∧ j = 0
    · rw [if_pos c1]
      obtain ⟨c1, c2, rfl⟩ := c1
      have := (hk i c1 c2).1
      have := (ho i c1 c2).1
      unfold keptP
      split <;> omega
    · rw [if_neg c1]
      by_cases c2 : i = 0 ∧ 1 ≤ j ∧ j ≤ n
      · rw [if_pos c2]
        obtain ⟨rfl, c2, c3⟩ := c2
        have := (hk j c2 c3).2
        have := (ho j c2 c3).2
        unfold keptP
        split <;> omega
      · rw [if_neg c2]
        by_cases c3 : 1 ≤ i ∧ i ≤ n ∧ 1 ≤ j ∧ j ≤ n ∧ i ≠ j
        · rw [if_pos c3]
          have t := hm.2 i j 0 hi hj (by omega)
          have := (ho i c3.1 hi).1
          have := (ho j (by omega) hj).2
          omega
        · rw [if_neg c3]
          obtain rfl : i = j := by omega
          rw [tg.diag tb i hi]; exact hd i hi

theorem widR_rep (h : Gd n a) (h' : Gd n b) (ha : a.2.1 = false) (hb : b.2.1 = false) (t : Nat) (ht : t ≤ n) : Rep n (widP n t (g a.2.2) (g b.2.2)) (widR a.2.2 b.2.2 t (topZ n)) := by
  have n6 := h.n6
  induction t with
  | zero => exact (top_rep n6).of fun m hm => ⟨fun hp => ⟨hp, fun i h1 hi => by omega⟩, fun hp => hp.1⟩
  | succ t ih =>
    have ih := ih (by omega)
    have r1 := h.range ha (i := t + 1) (j := 0) ht (by omega)
    have r2 := h.range ha (i := 0) (j := t + 1) (by omega) ht
    have e1 : ((t : Int) + 1).toNat = t + 1 := by omega
    have e2 : ((-1 : Int) + 1).toNat = 0 := rfl
    -- the first one
    have s1 : Rep n (fun m => widP n t (g a.2.2) (g b.2.2) m ∧ (g b.2.2 (t + 1) 0 ≤ g a.2.2 (t + 1) 0 → m (t + 1) 0 ≤ g a.2.2 (t + 1) 0)) (if g b.2.2 (t + 1) 0 ≤ g a.2.2 (t + 1) 0 then boundR (widR a.2.2 b.2.2 t (topZ n)) t (-1) (g a.2.2 (t + 1) 0) else widR a.2.2 b.2.2 t (topZ n)) := by
      by_cases c : g b.2.2 (t + 1) 0 ≤ g a.2.2 (t + 1) 0
      · rw [if_pos c, boundR_eq ih.1 (by omega) (by omega) (by omega)]
        refine (bound_rep ih (by omega) (by omega)).of fun m hm => ?_
        rw [e1, e2, show max (g a.2.2 (t + 1) 0) (-1099511627776) = g a.2.2 (t + 1) 0 by omega]
        exact ⟨fun hp => ⟨hp.1, fun _ => hp.2⟩, fun hp => ⟨hp.1, hp.2 c⟩⟩
      · rw [if_neg c]
        exact ih.of fun m hm => ⟨fun hp => ⟨hp, fun c' => absurd c' c⟩, fun hp => hp.1⟩
    have s2 : Rep n (fun m => (widP n t (g a.2.2) (g b.2.2) m ∧ (g b.2.2 (t + 1) 0 ≤ g a.2.2 (t + 1) 0 → m (t + 1) 0 ≤ g a.2.2 (t + 1) 0)) ∧ (g b.2.2 0 (t + 1) ≤ g a.2.2 0 (t + 1) → m 0 (t + 1) ≤ g a.2.2 0 (t + 1))) (widR a.2.2 b.2.2 (t + 1) (topZ n)) := by
      show Rep n _ (if g b.2.2 0 (t + 1) ≤ g a.2.2 0 (t + 1) then boundR (if g b.2.2 (t + 1) 0 ≤ g a.2.2 (t + 1) 0 then boundR (widR a.2.2 b.2.2 t (topZ n)) t (-1) (g a.2.2 (t + 1) 0) else widR a.2.2 b.2.2 t (topZ n)) (-1) t (g a.2.2 0 (t + 1)) else (if g b.2.2 (t + 1) 0 ≤ g a.2.2 (t + 1) 0 then boundR (widR a.2.2 b.2.2 t (topZ n)) t (-1) (g a.2.2 (t + 1) 0) else widR a.2.2 b.2.2 t (topZ n)))
      generalize (if g b.2.2 (t + 1) 0 ≤ g a.2.2 (t + 1) 0 then boundR (widR a.2.2 b.2.2 t (topZ n)) t (-1) (g a.2.2 (t + 1) 0) else widR a.2.2 b.2.2 t (topZ n)) = y at s1 ⊢
      by_cases c : g b.2.2 0 (t + 1) ≤ g a.2.2 0 (t + 1)
      · rw [if_pos c, boundR_eq s1.1 (by omega) (by omega) (by omega)]
        refine (bound_rep s1 (by omega) (by omega)).of fun m hm => ?_
        rw [e1, e2, show max (g a.2.2 0 (t + 1)) (-1099511627776) = g a.2.2 0 (t + 1) by omega]
        exact ⟨fun hp => ⟨hp.1, fun _ => hp.2⟩, fun hp => ⟨hp.1, hp.2 c⟩⟩
      · rw [if_neg c]
        exact s1.of fun m hm => ⟨fun hp => ⟨hp, fun c' => absurd c' c⟩, fun hp => hp.1⟩
    refine s2.of fun m hm => ?_
    constructor
    · rintro ⟨⟨⟨h1, h2⟩, h3⟩, h4⟩
      refine ⟨h1, fun i i1 i2 => ?_⟩
      by_cases e : i = t + 1
      · subst e; exact ⟨h3, h4⟩
      · exact h2 i i1 (by omega)
    · rintro ⟨h1, h2⟩
      exact ⟨⟨⟨h1, fun i i1 i2 => h2 i i1 (by omega)⟩, (h2 (t + 1) (by omega) (by omega)).1⟩, (h2 (t + 1) (by omega) (by omega)).2⟩

theorem widen_in (h : Gd n a) (h' : Gd n b) (hw : withinZ b a = true) : widenZ a b = a := by
  unfold widenZ
  rw [hw]; simp
theorem widen_none (h : Gd n a) (h' : Gd n b) (ha : a.2.1 = true) : widenZ a b = b := by
  cases hw : withinZ b a with
  | true =>
    rw [widen_in h h' hw]
    rcases (within_iff h' h).1 hw with e | ⟨_, e, _⟩
    · exact h.ext h' (by rw [ha, e]) fun x => by (rw [ha] at x; cases x)
    · rw [ha] at e; cases e
  | false =>
    unfold widenZ
    rw [h.alike h', hw, ha]; rfl
theorem widen_out (h : Gd n a) (h' : Gd n b) (ha : a.2.1 = false) (hw : withinZ b a = false) : widenZ a b = closeZ ((topZ a.1).1, (topZ a.1).2.1, widD a.2.2 b.2.2 a.1.toNat (topZ a.1).2.2) := by
  unfold widenZ
  rw [h.alike h', hw, ha]; rfl
theorem not_within_none (h : Gd n a) (h' : Gd n b) (hw : withinZ b a = false) : b.2.1 = false := by
  cases hb : b.2.1 with
  | false => rfl
  | true => rw [(within_iff h' h).2 (.inl hb)] at hw; cases hw
theorem widen_gd (h : Gd n a) (h' : Gd n b) : Gd n (widenZ a b) := by
  cases ha : a.2.1 with
  | true => rw [widen_none h h' ha]; exact h'
  | false =>
    cases hw : withinZ b a with
    | true => rw [widen_in h h' hw]; exact h
    | false => rw [widen_out h h' ha hw]; exact (widen_rep h h' ha (not_within_none h h' hw)).1
theorem widenR_eq (h : Gd n a) (h' : Gd n b) : widenR a b = widenZ a b := by
  have n6 := h.n6
  unfold widenR
  cases ha : a.2.1 with
  | true => rw [widen_none h h' ha]; rfl
  | false =>
    rw [withinR_eq h' h]
    cases hw : withinZ b a with
    | true => rw [widen_in h h' hw]; rfl
    | false =>
      have hb := not_within_none h h' hw
      rw [widen_out h h' ha hw]
      have r1 := widR_rep h h' ha hb n (Nat.le_refl n)
      have r2 := widen_rep h h' ha hb
      rw [← topR_eq n6] at r1
      have e : widR a.2.2 b.2.2 a.1.toNat (topR a.1) = widR a.2.2 b.2.2 n (topR n) := by rw [h.hn, Int.toNat_natCast]
      rw [if_neg (by decide), if_neg (by decide), e]
      exact r1.uniq r2 fun m hm => Iff.rfl
theorem within_widen (h : Gd n a) (h' : Gd n b) : withinZ b (widenZ a b) = true ∧ withinZ a (widenZ a b) = true := by
  have n6 := h.n6
  cases ha : a.2.1 with
  | true => rw [widen_none h h' ha]; exact ⟨within_refl h', (within_iff h h').2 (.inl ha)⟩
  | false =>
    cases hw : withinZ b a with
    | true => rw [widen_in h h' hw]; exact ⟨hw, within_refl h⟩
    | false =>
      have hb := not_within_none h h' hw
      rw [widen_out h h' ha hw]
      have r := widen_rep h h' ha hb
      have pb : widP n n (g a.2.2) (g b.2.2) (g b.2.2) := ⟨⟨fun i hi => by rw [h'.diag hb i hi]; omega, h'.own hb⟩, fun i _ _ => ⟨fun x => x, fun x => x⟩⟩
      have pa : widP n n (g a.2.2) (g b.2.2) (g a.2.2) := ⟨⟨fun i hi => by rw [h.diag ha i hi]; omega, h.own ha⟩, fun i _ _ => ⟨fun _ => by omega, fun _ => by omega⟩⟩
      have nn := r.not_none (h.clo ha) pa
      exact ⟨(within_iff h' r.1).2 (.inr ⟨hb, nn, (r.2.2 nn _ (h'.clo hb)).1 pb⟩), (within_iff h r.1).2 (.inr ⟨ha, nn, (r.2.2 nn _ (h.clo ha)).1 pa⟩)⟩

/-! ### Right ones -/
theorem right_gd (h : Gd n z) : rightZ z = true := by
  have n6 := h.n6
  unfold rightZ
  rw [h.okN, h.close]
  simp only [Bool.true_and, decide_true, Bool.and_true, all7]
  intro i j hi hj
  cases hb : z.2.1 with
  | true =>
    rw [h.none hb, g_zero]; rfl
  | false =>
    rw [h.hn]
    by_cases e : i ≤ n ∧ j ≤ n
    · have r := h.range hb e.1 e.2
      simp; omega
    · rw [h.out hb i j hi hj e]; simp

end
end Go.Proofs.YtgmciihlmgeecaaDoor.Zm
