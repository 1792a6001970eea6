import Derived.Test.YtgmciihlmgeecaaZOps
/- Calls on zones in plain mathematics: which closed bounds each tells; the reference's are the same. Conditions: those that each lemma names. -/
namespace Go.Proofs.Ytgmciihlmgeecaa.Zm
open Go.RowKit

def varP (n : Int) (b : Bool) (x : Int) : Bool := okN n && !b && (decide (x ≥ 0) && decide (x < n))
def norP (n : Int) (b : Bool) (x : Int) : Bool := (decide (x = -1) && okN n && !b) || varP n b x

theorem Rep.eq {n : Nat} {P : Mx → Prop} {z : Zo} (h : Rep n P z) {c : Mx} (hc : Clo n c) (hs : ∀ m, Clo n m → (P m ↔ Lem n m c)) : z.2.1 = false ∧ ∀ i j, i ≤ n → j ≤ n → g z.2.2 i j = c i j := by
  have p : P c := (hs c hc).2 (Lem.refl _ _)
  cases hb : z.2.1 with
  | true => exact absurd p (h.2.1 hb c hc)
  | false =>
    refine ⟨rfl, fun i j hi hj => ?_⟩
    have a := (h.2.2 hb c hc).1 p i j hi hj
    have b := (hs _ (h.1.clo hb)).1 ((h.2.2 hb _ (h.1.clo hb)).2 (Lem.refl _ _)) i j hi hj
    omega

/-! ### A bound more -/
def boundZ (z : Zo) (x y b : Int) : Zo :=
  if norP z.1 z.2.1 x && norP z.1 z.2.1 y then closeZ (z.1, z.2.1, st z.2.2 (x + 1).toNat (y + 1).toNat (min (g z.2.2 (x + 1).toNat (y + 1).toNat) (max b (-1099511627776)))) else z
def boundR (z : Zo) (x y b : Int) : Zo :=
  if z.2.1 then z else closeR (z.1, z.2.1, st z.2.2 (x + 1).toNat (y + 1).toNat (min (g z.2.2 (x + 1).toNat (y + 1).toNat) b))

theorem st_rawW {n : Nat} {D : List Int} (h : RawW n D) {i j : Nat} (hi : i ≤ n) (hj : j ≤ n) {v : Int} (hv : -4398046511104 ≤ v ∧ v ≤ 4398046511104) (hd : i = j → v ≤ 0) : RawW n (st D i j v) := by
  have n6 := h.n6
  refine ⟨h.n6, by rw [st_length]; exact h.len, fun a b ha hb => ?_, fun a ha => ?_, fun a b ha hb e => ?_⟩
  · rw [g_st h.len (by omega) (by omega) (by omega) (by omega)]
    split
    · exact hv
    · exact h.rng a b ha hb
  · rw [g_st h.len (by omega) (by omega) (by omega) (by omega)]
    split
    · rename_i e; exact hd (by omega)
    · exact h.diag a ha
  · rw [g_st h.len (by omega) (by omega) ha hb, if_neg (by omega)]
    exact h.out a b ha hb e
theorem st_raw {n : Nat} {D : List Int} (h : Raw n D) {i j : Nat} (hi : i ≤ n) (hj : j ≤ n) {v : Int} (hv : -274877906944 ≤ v ∧ v ≤ 4398046511104) (hd : i = j → v ≤ 0) : Raw n (st D i j v) := by
  have n6 := h.n6
  have w := st_rawW h.w hi hj (v := v) (by omega) hd
  refine ⟨h.n6, w.len, fun a b ha hb => ?_, w.diag, w.out⟩
  rw [g_st h.len (by omega) (by omega) (by omega) (by omega)]
  split
  · exact hv
  · exact h.rng a b ha hb

theorem nor_ok {n : Nat} {z : Zo} (h : Gd n z) (hb : z.2.1 = false) {x : Int} : norP z.1 z.2.1 x = true ↔ -1 ≤ x ∧ x < n := by
  have n6 := h.n6
  unfold norP varP okN
  rw [h.hn, hb]
  simp
  omega
theorem var_ok {n : Nat} {z : Zo} (h : Gd n z) (hb : z.2.1 = false) {x : Int} : varP z.1 z.2.1 x = true ↔ 0 ≤ x ∧ x < n := by
  have n6 := h.n6
  unfold varP okN
  rw [h.hn, hb]
  simp
  omega
theorem nor_none {z : Zo} (hb : z.2.1 = true) {x : Int} : norP z.1 z.2.1 x = false := by
  unfold norP varP; rw [hb]; simp
theorem var_none {z : Zo} (hb : z.2.1 = true) {x : Int} : varP z.1 z.2.1 x = false := by
  unfold varP; rw [hb]; simp
theorem Gd.trip {n : Nat} {z : Zo} (h : Gd n z) (hb : z.2.1 = false) : z = ((n : Int), false, z.2.2) := by
  obtain ⟨a, b, D⟩ := z
  have := h.hn
  simp only at hb this
  rw [hb, this]

/-- Of variables that there aren't. -/
theorem boundZ_un {n : Nat} {z : Zo} (h : Gd n z) {x y b : Int} (hx : ¬ (-1 ≤ x ∧ x < n) ∨ ¬ (-1 ≤ y ∧ y < n)) : boundZ z x y b = z := by
  cases hb : z.2.1 with
  | true => unfold boundZ; rw [nor_none hb]; rfl
  | false =>
    unfold boundZ
    rw [if_neg]
    intro e
    rw [Bool.and_eq_true, nor_ok h hb, nor_ok h hb] at e
    omega
theorem boundZ_none {z : Zo} (hb : z.2.1 = true) {x y b : Int} : boundZ z x y b = z := by
  unfold boundZ
  rw [nor_none hb]; rfl

theorem bound_rep {n : Nat} {P : Mx → Prop} {z : Zo} (h : Rep n P z) {x y b : Int} (hx : -1 ≤ x ∧ x < n) (hy : -1 ≤ y ∧ y < n) :
    Rep n (fun m => P m ∧ m (x + 1).toNat (y + 1).toNat ≤ max b (-1099511627776)) (boundZ z x y b) := by
  have gd := h.1
  have n6 := gd.n6
  cases hb : z.2.1 with
  | true =>
    rw [boundZ_none hb]
    exact ⟨gd, fun e m hm hp => h.2.1 e m hm hp.1, fun e => (by rw [hb] at e; cases e)⟩
  | false =>
    unfold boundZ
    rw [(nor_ok gd hb).2 hx, (nor_ok gd hb).2 hy, gd.hn, hb]
    have hi : (x + 1).toNat ≤ n := by omega
    have hj : (y + 1).toNat ≤ n := by omega
    generalize (x + 1).toNat = i at *
    generalize (y + 1).toNat = j at *
    have rg := gd.range hb hi hj
    have hr := gd.raw hb
    have r := close_rep (st_rawW hr.w hi hj (v := min (g z.2.2 i j) (max b (-1099511627776))) (by omega) (fun e => (by subst e; have := gd.diag hb i hi; omega)))
    show Rep n _ (closeZ ((n : Int), false, _))
    refine r.of fun m hm => ?_
    have hP := h.2.2 hb m hm
    have hl : Lem n m (g (st z.2.2 i j (min (g z.2.2 i j) (max b (-1099511627776))))) ↔ Lem n m (g z.2.2) ∧ m i j ≤ max b (-1099511627776) := by
      constructor
      · intro hp
        refine ⟨fun a c ha hc => ?_, ?_⟩
        · have := hp a c ha hc
          rw [g_st hr.len (by omega) (by omega) (by omega) (by omega)] at this
          split at this
          · rename_i e; obtain ⟨rfl, rfl⟩ := e; omega
          · exact this
        · have := hp i j hi hj
          rw [g_st hr.len (by omega) (by omega) (by omega) (by omega), if_pos ⟨rfl, rfl⟩] at this
          omega
      · rintro ⟨hp, hv⟩ a c ha hc
        rw [g_st hr.len (by omega) (by omega) (by omega) (by omega)]
        have := hp a c ha hc
        split
        · rename_i e; obtain ⟨rfl, rfl⟩ := e; omega
        · exact this
    rw [hl]
    constructor
    · rintro ⟨⟨h1, h2⟩, h3⟩
      exact ⟨hP.2 h1, h2⟩
    · rintro ⟨h1, h2⟩
      refine ⟨⟨hP.1 h1, h2⟩, fun k k1 k2 => ?_⟩
      have o := gd.own hb k k1 k2
      have a := hP.1 h1 k 0 k2 (by omega)
      have c := hP.1 h1 0 k (by omega) k2
      omega
theorem bound_gd {n : Nat} {z : Zo} (h : Gd n z) {x y b : Int} : Gd n (boundZ z x y b) := by
  by_cases hx : -1 ≤ x ∧ x < n
  · by_cases hy : -1 ≤ y ∧ y < n
    · exact (bound_rep h.rep hx hy).1
    · rw [boundZ_un h (.inr hy)]; exact h
  · rw [boundZ_un h (.inl hx)]; exact h
theorem boundR_eq {n : Nat} {z : Zo} (h : Gd n z) {x y b : Int} (hx : -1 ≤ x ∧ x < n) (hy : -1 ≤ y ∧ y < n) (hbb : -274877906944 ≤ b) : boundR z x y b = boundZ z x y b := by
  have n6 := h.n6
  cases hb : z.2.1 with
  | true => rw [boundZ_none hb]; unfold boundR; rw [hb]; rfl
  | false =>
    unfold boundZ boundR
    rw [(nor_ok h hb).2 hx, (nor_ok h hb).2 hy, h.hn, hb]
    have hi : (x + 1).toNat ≤ n := by omega
    have hj : (y + 1).toNat ≤ n := by omega
    generalize (x + 1).toNat = i at *
    generalize (y + 1).toNat = j at *
    have rg := h.range hb hi hj
    rw [show max b (-1099511627776) = b by omega]
    exact closeR_eq (st_raw (h.raw hb) hi hj (v := min (g z.2.2 i j) b) (by omega) (fun e => by subst e; have := h.diag hb i hi; omega))
theorem bound_pt {n : Nat} {z : Zo} (h : Gd n z) {v : Nat → Int} {x y b : Int} (hx : -1 ≤ x ∧ x < n) (hy : -1 ≤ y ∧ y < n) : Pt n v (boundZ z x y b) ↔ Pt n v z ∧ v (x + 1).toNat - v (y + 1).toNat ≤ max b (-1099511627776) := by
  rw [← (bound_rep h.rep hx hy).pt, ← h.rep.pt]
  exact Iff.rfl

/-! ### A variable left out -/
def forgetZ (z : Zo) (x : Int) : Zo := if varP z.1 z.2.1 x then closeZ (z.1, z.2.1, forT (x + 1).toNat (z.1.toNat + 1) z.2.2) else z
def forgetR (z : Zo) (x : Int) : Zo := if z.2.1 then z else closeR (z.1, z.2.1, forT (x + 1).toNat (z.1.toNat + 1) z.2.2)

theorem for_raw {n : Nat} {D : List Int} (h : Raw n D) {r : Nat} (hr : r ≤ n) : Raw n (forT r (n + 1) D) := by
  have n6 := h.n6
  refine ⟨h.n6, by rw [forT_len]; exact h.len, fun a b ha hb => ?_, fun a ha => ?_, fun a b ha hb e => ?_⟩
  · rw [g_for h.len (by omega) _ (by omega) _ _ (by omega) (by omega)]
    split
    · omega
    · exact h.rng a b ha hb
  · rw [g_for h.len (by omega) _ (by omega) _ _ (by omega) (by omega), if_neg (by omega)]
    exact h.diag a ha
  · rw [g_for h.len (by omega) _ (by omega) _ _ ha hb, if_neg (by omega)]
    exact h.out a b ha hb e

def forM (r : Nat) (d : Mx) : Mx := fun i j => if i = r then (if j = r then 0 else 2147483647 + d 0 j) else if j = r then d i 0 + 2147483648 else d i j
theorem forM_clo {n r : Nat} {d : Mx} (h : Clo n d) (hd : ∀ i, i ≤ n → d i i = 0) : Clo n (forM r d) := by
  refine ⟨fun i hi => ?_, fun i j k hi hj hk => ?_⟩
  · unfold forM
    have := h.1 i hi
    split <;> omega
  · have t0 := h.2 i j k hi hj hk
    have t1 := h.2 0 j k (by omega) hj hk
    have t2 := h.2 i 0 k hi (by omega) hk
    have t3 := h.2 i j 0 hi hj (by omega)
    have t4 := h.2 0 0 k (by omega) (by omega) hk
    have t5 := h.2 0 0 j (by omega) (by omega) hj
    have z0 := hd 0 (by omega)
    unfold forM
    by_cases e1 : i = r <;> by_cases e2 : j = r <;> by_cases e3 : k = r <;> simp only [e1, e2, e3, if_true, if_false] <;> (try subst e1) <;> (try subst e2) <;> (try subst e3) <;> first | omega | (simp_all; omega)

theorem forget_rep {n : Nat} {z : Zo} (h : Gd n z) (hb : z.2.1 = false) {x : Int} (hx : 0 ≤ x ∧ x < n) :
    Gd n (forgetZ z x) ∧ (forgetZ z x).2.1 = false ∧ ∀ i j, i ≤ n → j ≤ n → g (forgetZ z x).2.2 i j = forM (x + 1).toNat (g z.2.2) i j := by
  have n6 := h.n6
  unfold forgetZ
  rw [(var_ok h hb).2 hx, h.hn, hb]
  have hrn : (x + 1).toNat ≤ n := by omega
  have h1 : 1 ≤ (x + 1).toNat := by omega
  generalize (x + 1).toNat = r at *
  have hr := for_raw (h.raw hb) hrn
  have rep := close_rep hr.w
  have clo := h.clo hb
  have own := h.own hb
  have dg := h.diag hb
  have hs : ∀ m, Clo n m → ((Lem n m (g (forT r (n + 1) z.2.2)) ∧ Own n m) ↔ Lem n m (forM r (g z.2.2))) := by
    intro m hm
    have ge : ∀ i j, i ≤ n → j ≤ n → g (forT r (n + 1) z.2.2) i j = if (j = r ∧ i ≠ r ∧ i < n + 1) ∨ (i = r ∧ j ≠ r ∧ j < n + 1) then 1099511627776 else g z.2.2 i j := fun i j hi hj => g_for h.len (by omega) _ (by omega) _ _ (by omega) (by omega)
    constructor
    · rintro ⟨hl, ho⟩ i j hi hj
      have a := hl i j hi hj
      rw [ge i j hi hj] at a
      have o := ho r h1 (by omega)
      unfold forM
      by_cases e1 : i = r
      · subst e1
        rw [if_pos rfl]
        by_cases e2 : j = i
        · subst e2
          rw [if_pos rfl]
          rw [if_neg (by omega), dg j hj] at a
          exact a
        · rw [if_neg e2]
          have t := hm.2 i j 0 hi hj (by omega)
          have c := hl 0 j (by omega) hj
          rw [ge 0 j (by omega) hj, if_neg (by omega)] at c
          omega
      · rw [if_neg e1]
        by_cases e2 : j = r
        · subst e2
          rw [if_pos rfl]
          have t := hm.2 i j 0 hi hj (by omega)
          have c := hl i 0 hi (by omega)
          rw [ge i 0 hi (by omega), if_neg (by omega)] at c
          omega
        · rw [if_neg e2]
          rw [if_neg (by omega)] at a
          exact a
    · intro hl
      refine ⟨fun i j hi hj => ?_, fun k k1 k2 => ?_⟩
      · have a := hl i j hi hj
        rw [ge i j hi hj]
        unfold forM at a
        have b1 := h.range hb (i := i) (j := 0) hi (by omega)
        have b2 := h.range hb (i := 0) (j := j) (by omega) hj
        by_cases e1 : i = r
        · subst e1
          rw [if_pos rfl] at a
          by_cases e2 : j = i
          · subst e2
            rw [if_pos rfl] at a
            rw [if_neg (by omega), dg j hj]; exact a
          · rw [if_neg e2] at a
            rw [if_pos (by omega)]; omega
        · rw [if_neg e1] at a
          by_cases e2 : j = r
          · subst e2
            rw [if_pos rfl] at a
            rw [if_pos (by omega)]; omega
          · rw [if_neg e2] at a
            rw [if_neg (by omega)]; exact a
      · have a := hl k 0 k2 (by omega)
        have b := hl 0 k (by omega) k2
        have o := own k k1 k2
        have z0 := dg 0 (by omega)
        unfold forM at a b
        by_cases e : k = r
        · subst e
          rw [if_pos rfl, if_neg (by omega)] at a
          rw [if_neg (by omega), if_pos rfl] at b
          omega
        · rw [if_neg e, if_neg (by omega)] at a
          rw [if_neg (by omega), if_neg e] at b
          omega
  exact ⟨rep.1, rep.eq (forM_clo clo dg) hs⟩

theorem forgetZ_un {n : Nat} {z : Zo} (h : Gd n z) {x : Int} (hx : ¬ (0 ≤ x ∧ x < n)) : forgetZ z x = z := by
  cases hb : z.2.1 with
  | true => unfold forgetZ; rw [var_none hb]; rfl
  | false =>
    unfold forgetZ
    rw [if_neg]
    intro e
    rw [var_ok h hb] at e
    exact hx e
theorem forgetZ_none {z : Zo} (hb : z.2.1 = true) {x : Int} : forgetZ z x = z := by
  unfold forgetZ
  rw [var_none hb]; rfl
theorem forget_gd {n : Nat} {z : Zo} (h : Gd n z) {x : Int} : Gd n (forgetZ z x) := by
  by_cases hx : 0 ≤ x ∧ x < n
  · cases hb : z.2.1 with
    | true => rw [forgetZ_none hb]; exact h
    | false => exact (forget_rep h hb hx).1
  · rw [forgetZ_un h hx]; exact h
theorem forgetR_eq {n : Nat} {z : Zo} (h : Gd n z) {x : Int} (hx : 0 ≤ x ∧ x < n) : forgetR z x = forgetZ z x := by
  cases hb : z.2.1 with
  | true => rw [forgetZ_none hb]; unfold forgetR; rw [hb]; rfl
  | false =>
    unfold forgetZ forgetR
    rw [(var_ok h hb).2 hx, h.hn, hb]
    exact closeR_eq (for_raw (h.raw hb) (r := (x + 1).toNat) (by omega))
theorem forget_pt {n : Nat} {z : Zo} (h : Gd n z) {x : Int} (hx : 0 ≤ x ∧ x < n) {v w : Nat → Int} (hv : Pt n v z) (hw : InR n w) (he : ∀ i, i ≤ n → i ≠ (x + 1).toNat → w i = v i) : Pt n w (forgetZ z x) := by
  have hb := hv.1
  obtain ⟨_, h2, h3⟩ := forget_rep h hb hx
  refine ⟨h2, fun i j hi hj => ?_⟩
  rw [h3 i j hi hj]
  have r1 : 1 ≤ (x + 1).toNat := by omega
  have r2 : (x + 1).toNat ≤ n := by omega
  generalize (x + 1).toNat = r at *
  have a := hv.2 i j hi hj
  have b := hv.2 0 j (by omega) hj
  have c := hv.2 i 0 hi (by omega)
  have w0 := hw.1
  have wr := hw.2 r r1 r2
  have v0 := he 0 (by omega) (by omega)
  unfold ptM at *
  unfold forM
  by_cases e1 : i = r
  · subst e1
    rw [if_pos rfl]
    by_cases e2 : j = i
    · subst e2; rw [if_pos rfl]; omega
    · rw [if_neg e2, he j hj e2]; omega
  · rw [if_neg e1]
    by_cases e2 : j = r
    · subst e2; rw [if_pos rfl, he i hi e1]; omega
    · rw [if_neg e2, he i hi e1, he j hj e2]; exact a

end Go.Proofs.Ytgmciihlmgeecaa.Zm
