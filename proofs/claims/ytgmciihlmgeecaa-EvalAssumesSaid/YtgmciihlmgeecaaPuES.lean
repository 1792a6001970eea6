import Derived.Test.YtgmciihlmgeecaaPuEX
/- Behind a comparison a row of which it holds is had, nothing else comes in; of one row alone it is that, or none. Conditions: those that each lemma names. -/
namespace Go.Proofs.Ytgmciihlmgeecaa.Fn
open Go Go.RowKit Go.Proofs.Ytgmciihlmgeecaa.Mt Go.Proofs.Ytgmciihlmgeecaa.Zm
set_option linter.unusedVariables false
set_option linter.unusedSimpArgs false

theorem cmp_iff {k x y : Int} (hk : 1 ≤ k ∧ k ≤ 6) : cmpP k x y = true ↔ (k = 1 ∧ x = y) ∨ (k = 2 ∧ x ≠ y) ∨ (k = 3 ∧ x < y) ∨ (k = 4 ∧ x ≤ y) ∨ (k = 5 ∧ x > y) ∨ (k = 6 ∧ x ≥ y) := by
  have hk' : k = 1 ∨ k = 2 ∨ k = 3 ∨ k = 4 ∨ k = 5 ∨ k = 6 := by omega
  rcases hk' with rfl | rfl | rfl | rfl | rfl | rfl <;> simp [cmpP]
theorem unequal_has {p q : Int × Int} {x y : Int} (h1 : Hs p x) (h2 : Hs q y) (h : x ≠ y) : Hs (unequalP p q) x := by
  unfold Hs unequalP normP at *
  (repeat' split) <;> (try dsimp only) <;> omega
theorem below_has {p q : Int × Int} {x y s : Int} (hx : In x) (h1 : Hs p x) (h2 : Hs q y) (h : x + s ≤ y) : Hs (belowP p q s) x :=
  mI_has h1 (of_has (by unfold In at hx; omega) (by unfold Hs at h2; omega) hx)
theorem above_has {p q : Int × Int} {x y s : Int} (hx : In x) (h1 : Hs p x) (h2 : Hs q y) (h : y + s ≤ x) : Hs (aboveP p q s) x :=
  mI_has h1 (of_has (by unfold Hs at h2; omega) (by unfold In at hx; omega) hx)
theorem test_has {k x y : Int} {p q : Int × Int} (hk : 1 ≤ k ∧ k ≤ 6) (hx : In x) (hy : In y) (h1 : Hs p x) (h2 : Hs q y) (hc : cmpP k x y = true) : Hs (testP k p q).1 x ∧ Hs (testP k p q).2 y := by
  have m1 : Hs (mI p allI) x := mI_has h1 hx
  have m2 : Hs (mI q allI) y := mI_has h2 hy
  have e : testP k p q = testQ k (mI p allI) (mI q allI) := if_neg (by unfold Hs at *; omega)
  rw [e]
  rcases (cmp_iff hk).1 hc with ⟨rfl, h⟩ | ⟨rfl, h⟩ | ⟨rfl, h⟩ | ⟨rfl, h⟩ | ⟨rfl, h⟩ | ⟨rfl, h⟩
  · subst h; exact ⟨mI_has m1 m2, mI_has m1 m2⟩
  · exact ⟨unequal_has m1 m2 h, unequal_has m2 m1 (fun e => h e.symm)⟩
  · exact ⟨below_has (s := 1) hx m1 m2 (by omega), above_has (s := 1) hy m2 m1 (by omega)⟩
  · exact ⟨below_has (s := 0) hx m1 m2 (by omega), above_has (s := 0) hy m2 m1 (by omega)⟩
  · exact ⟨above_has (s := 1) hx m1 m2 (by omega), below_has (s := 1) hy m2 m1 (by omega)⟩
  · exact ⟨above_has (s := 0) hx m1 m2 (by omega), below_has (s := 0) hy m2 m1 (by omega)⟩
theorem mI_ev {p q : Int × Int} (h : EvIn p) : EvIn (mI p q) := by
  unfold EvIn mI normP In at *
  (repeat' split) <;> (try dsimp only) <;> omega
theorem all_in (p : Int × Int) : EvIn (mI p allI) := by
  unfold EvIn mI normP allI In
  (repeat' split) <;> (try dsimp only) <;> omega
theorem unequal_in {p q : Int × Int} (h : EvIn p) : EvIn (unequalP p q) := by
  unfold EvIn unequalP normP In at *
  (repeat' split) <;> (try dsimp only) <;> omega
theorem test_ev (k : Int) (p q : Int × Int) : EvIn (testP k p q).1 ∧ EvIn (testP k p q).2 := by
  have a := all_in p
  have b := all_in q
  unfold testP
  split
  · exact ⟨none_in, none_in⟩
  · generalize mI p allI = p at *
    generalize mI q allI = q at *
    unfold testQ
    repeat' split
    · exact ⟨mI_ev a, mI_ev a⟩
    · exact ⟨unequal_in a, unequal_in b⟩
    · exact ⟨mI_ev a, mI_ev b⟩
    · exact ⟨mI_ev a, mI_ev b⟩
    · exact ⟨mI_ev a, mI_ev b⟩
    · exact ⟨mI_ev a, mI_ev b⟩
    · exact ⟨none_in, none_in⟩
def Non (t : (Int × Int) × Int × Int) : Prop := t.1.1 > t.1.2 ∨ t.2.1 > t.2.2
theorem mI_non {x lo hi : Int} (h : x < lo ∨ hi < x) : (mI (x, x) (lo, hi)).1 > (mI (x, x) (lo, hi)).2 := by
  unfold mI normP
  (repeat' split) <;> (try dsimp only at *) <;> omega
theorem mI_ofP {x lo hi : Int} (h : x < lo ∨ hi < x) (hx : In x) : (mI (x, x) (ofP lo hi)).1 > (mI (x, x) (ofP lo hi)).2 := by
  unfold In at hx
  unfold ofP normP
  split
  · unfold mI normP
    (repeat' split) <;> (try dsimp only at *) <;> omega
  · exact mI_non (by omega)
theorem test_ex {k x y : Int} (hk : 1 ≤ k ∧ k ≤ 6) (hx : In x) (hy : In y) (hc : cmpP k x y = false) : Non (testP k (x, x) (y, y)) := by
  have hc' : ¬ cmpP k x y = true := by rw [hc]; decide
  rw [cmp_iff hk] at hc'
  have hk' : k = 1 ∨ k = 2 ∨ k = 3 ∨ k = 4 ∨ k = 5 ∨ k = 6 := by omega
  unfold testP
  rw [mI_one hx, mI_one hy, if_neg (by dsimp only; omega)]
  rcases hk' with rfl | rfl | rfl | rfl | rfl | rfl
  · exact .inl (mI_non (by omega))
  · refine .inl ?_
    show (unequalP (x, x) (y, y)).1 > (unequalP (x, x) (y, y)).2
    unfold unequalP normP
    (repeat' split) <;> (try dsimp only at *) <;> omega
  · exact .inl (mI_ofP (x := x) (hi := y - 1) (by omega) hx)
  · exact .inl (mI_ofP (x := x) (hi := y - 0) (by omega) hx)
  · exact .inl (mI_ofP (x := x) (lo := y + 1) (by omega) hx)
  · exact .inl (mI_ofP (x := x) (lo := y + 0) (by omega) hx)
theorem test_none {k : Int} {p : Int × Int} : Non (testP k (1, 0) p) ∧ Non (testP k p (1, 0)) := by
  have e : (mI (1, 0) allI).1 > (mI (1, 0) allI).2 := by decide
  unfold testP
  rw [if_pos (.inl e), if_pos (.inr e)]
  exact ⟨.inl (by decide), .inl (by decide)⟩

section
variable {n : Nat} {v : List Int} {z z' w : Zo}
theorem within_tr (h : Gd n z) (h' : Gd n z') (hw : Gd n w) (a : withinZ w z' = true) (b : withinZ z' z = true) : withinZ w z = true := by
  rw [Zm.within_iff hw h'] at a
  rw [Zm.within_iff h' h] at b
  rw [Zm.within_iff hw h]
  rcases a with a | ⟨a1, a2, a3⟩
  · exact .inl a
  · rcases b with b | ⟨b1, b2, b3⟩
    · rw [b] at a2; cases a2
    · exact .inr ⟨a1, b2, a3.trans b3⟩
theorem none_within (h : Gd n z) : withinZ (noneZ (n : Int)) z = true := (Zm.within_iff (noneZ_gd h.n6) h).2 (.inl rfl)
theorem bound_within (h : Gd n z) {x y b : Int} : withinZ (boundZ z x y b) z = true := by
  by_cases hx : -1 ≤ x ∧ x < n
  · by_cases hy : -1 ≤ y ∧ y < n
    · have R := bound_rep h.rep hx hy (b := b)
      rw [Zm.within_iff R.1 h]
      cases hb : (boundZ z x y b).2.1 with
      | true => exact .inl rfl
      | false =>
        obtain ⟨⟨q1, q2⟩, _⟩ := (R.2.2 hb _ (R.1.clo hb)).2 (Lem.refl _ _)
        exact .inr ⟨rfl, q1, q2⟩
    · rw [boundZ_un h (.inr hy)]; exact within_refl h
  · rw [boundZ_un h (.inl hx)]; exact within_refl h
theorem held_within (h : Gd n z) {x lo hi : Int} : withinZ (heldZ z x lo hi) z = true := by
  unfold heldZ
  split
  · exact within_refl h
  · split
    · rw [h.hn]; exact none_within h
    · exact within_tr h (bound_gd h) (bound_gd (bound_gd h)) (bound_within (bound_gd h)) (bound_within h)
theorem heldF_sub (h : Gd n z) (f i : Int × Int) : Gd n (heldF z f i) ∧ withinZ (heldF z f i) z = true := by
  unfold heldF
  split
  · exact ⟨h, within_refl h⟩
  · exact ⟨held_gd h, held_within h⟩
theorem belowF_sub (h : Gd n z) (f g : Int × Int) (s : Int) : Gd n (belowF z f g s) ∧ withinZ (belowF z f g s) z = true := by
  unfold belowF
  split
  · exact ⟨h, within_refl h⟩
  · exact ⟨bound_gd h, bound_within h⟩
theorem compF_sub (h : Gd n z) (k : Int) (f g : Int × Int) : Gd n (compF z k f g) ∧ withinZ (compF z k f g) z = true := by
  unfold compF
  repeat' split
  · obtain ⟨a, b⟩ := belowF_sub h f g 0
    obtain ⟨c, d⟩ := belowF_sub a g f 0
    exact ⟨c, within_tr h a c d b⟩
  · exact belowF_sub h _ _ _
  · exact belowF_sub h _ _ _
  · exact belowF_sub h _ _ _
  · exact belowF_sub h _ _ _
  · exact ⟨h, within_refl h⟩
theorem assZ_sub (h : Gd n z) (k : Int) (t : (Int × Int) × Int × Int) (f g : (Int × Int) × Bool) : Gd n (assZ z n k t f g) ∧ withinZ (assZ z n k t f g) z = true := by
  unfold assZ
  split
  · exact ⟨noneZ_gd h.n6, none_within h⟩
  · have a1 : Gd n (if f.2 = true then heldF z f.1 t.1 else z) ∧ withinZ (if f.2 = true then heldF z f.1 t.1 else z) z = true := by
      split
      · exact heldF_sub h _ _
      · exact ⟨h, within_refl h⟩
    dsimp only
    generalize (if f.2 = true then heldF z f.1 t.1 else z) = z1 at *
    have a2 : Gd n (if g.2 = true then heldF z1 g.1 t.2 else z1) ∧ withinZ (if g.2 = true then heldF z1 g.1 t.2 else z1) z = true := by
      split
      · obtain ⟨b1, b2⟩ := heldF_sub a1.1 g.1 t.2
        exact ⟨b1, within_tr h a1.1 b1 b2 a1.2⟩
      · exact a1
    generalize (if g.2 = true then heldF z1 g.1 t.2 else z1) = z2 at *
    split
    · obtain ⟨b1, b2⟩ := compF_sub a2.1 k f.1 g.1
      exact ⟨b1, within_tr h a2.1 b1 b2 a2.2⟩
    · exact a2

theorem vF_in (hv : InV v) (i : Nat) : -2147483648 ≤ vF v i ∧ vF v i ≤ 2147483647 := by
  cases i with
  | zero => show -2147483648 ≤ (0 : Int) ∧ (0 : Int) ≤ 2147483647; omega
  | succ t => rw [vF_succ]; exact inV_get hv t
theorem heldF_pt (h : Gd n z) (hv : InV v) (hp : Pt n (vF v) z) {f i : Int × Int} {x : Int} (hf : -1 ≤ f.1 ∧ f.1 < n) (hb : -1099511627776 ≤ f.2 ∧ f.2 ≤ 1099511627776) (hx : x = atV v f.1 + f.2) (hs : Hs i x) (hi : EvIn i) : Pt n (vF v) (heldF z f i) := by
  unfold heldF
  split
  · exact hp
  · rename_i q
    have hn := h.hn
    have r := vF_in hv (f.1 + 1).toNat
    rw [atV_vF hf.1] at hx
    obtain ⟨i1, i2⟩ := hi (by unfold Hs at hs; omega)
    unfold Hs at hs
    unfold In at i1 i2
    unfold heldZ
    rw [if_neg (by omega), if_neg (by omega), show wrap64 (-(i.1 - f.2)) = -(i.1 - f.2) from wrap_in (by omega) (by omega)]
    have v0 : vF v ((-1 : Int) + 1).toNat = 0 := rfl
    have a := has_bound h hp (x := f.1) (y := -1) (c := i.2 - f.2) (by omega) (by omega) (by rw [v0]; omega) (by omega)
    exact (has_bound a.1 a.2 (x := -1) (y := f.1) (c := -(i.1 - f.2)) (by omega) (by omega) (by rw [v0]; omega) (by omega)).2
theorem belowF_pt (h : Gd n z) (hv : InV v) (hp : Pt n (vF v) z) {f g : Int × Int} {x y s : Int} (hf : -1 ≤ f.1 ∧ f.1 < n) (hg : -1 ≤ g.1 ∧ g.1 < n) (hx : x = atV v f.1 + f.2) (hy : y = atV v g.1 + g.2) (hs : x + s ≤ y) : Pt n (vF v) (belowF z f g s) := by
  unfold belowF
  split
  · exact hp
  · rw [atV_vF hf.1] at hx
    rw [atV_vF hg.1] at hy
    have r := vF_in hv (f.1 + 1).toNat
    have r' := vF_in hv (g.1 + 1).toNat
    exact (has_bound h hp (x := f.1) (y := g.1) (c := g.2 - f.2 - s) hf hg (by omega) (by omega)).2
theorem compF_pt (h : Gd n z) (hv : InV v) (hp : Pt n (vF v) z) {k : Int} (hk : 1 ≤ k ∧ k ≤ 6) {f g : Int × Int} {x y : Int} (hf : -1 ≤ f.1 ∧ f.1 < n) (hg : -1 ≤ g.1 ∧ g.1 < n) (hx : x = atV v f.1 + f.2) (hy : y = atV v g.1 + g.2) (hc : cmpP k x y = true) : Pt n (vF v) (compF z k f g) := by
  rcases (cmp_iff hk).1 hc with ⟨rfl, e⟩ | ⟨rfl, e⟩ | ⟨rfl, e⟩ | ⟨rfl, e⟩ | ⟨rfl, e⟩ | ⟨rfl, e⟩
  · have a := belowF_pt h hv hp hf hg hx hy (s := 0) (by omega)
    exact belowF_pt (belowF_sub h f g 0).1 hv a hg hf hy hx (s := 0) (by omega)
  · exact hp
  · exact belowF_pt h hv hp hf hg hx hy (s := 1) (by omega)
  · exact belowF_pt h hv hp hf hg hx hy (s := 0) (by omega)
  · exact belowF_pt h hv hp hg hf hy hx (s := 1) (by omega)
  · exact belowF_pt h hv hp hg hf hy hx (s := 0) (by omega)
theorem assZ_pt (h : Gd n z) (hv : InV v) (hp : Pt n (vF v) z) {k : Int} (hk : 1 ≤ k ∧ k ≤ 6) {t : (Int × Int) × Int × Int} {f g : (Int × Int) × Bool} {r s : Int × Int} (hf : LinOk (n : Int) f r v) (hg : LinOk (n : Int) g s v) (hr : r.2 = 0) (hs : s.2 = 0)
    (h1 : Hs t.1 r.1) (h2 : Hs t.2 s.1) (i1 : EvIn t.1) (i2 : EvIn t.2) (hc : cmpP k r.1 s.1 = true) : Pt n (vF v) (assZ z n k t f g) := by
  unfold assZ
  rw [if_neg (by unfold Hs at h1 h2; omega)]
  have a1 : Gd n (if f.2 = true then heldF z f.1 t.1 else z) ∧ Pt n (vF v) (if f.2 = true then heldF z f.1 t.1 else z) := by
    split
    · rename_i q
      obtain ⟨f1, f2, f3⟩ := hf q
      exact ⟨(heldF_sub h _ _).1, heldF_pt h hv hp f1 f2 (f3 hr) h1 i1⟩
    · exact ⟨h, hp⟩
  dsimp only
  generalize (if f.2 = true then heldF z f.1 t.1 else z) = z1 at *
  have a2 : Gd n (if g.2 = true then heldF z1 g.1 t.2 else z1) ∧ Pt n (vF v) (if g.2 = true then heldF z1 g.1 t.2 else z1) := by
    split
    · rename_i q
      obtain ⟨g1, g2, g3⟩ := hg q
      exact ⟨(heldF_sub a1.1 _ _).1, heldF_pt a1.1 hv a1.2 g1 g2 (g3 hs) h2 i2⟩
    · exact a1
  generalize (if g.2 = true then heldF z1 g.1 t.2 else z1) = z2 at *
  split
  · rename_i q
    obtain ⟨f1, f2, f3⟩ := hf q.1
    obtain ⟨g1, g2, g3⟩ := hg q.2
    exact compF_pt a2.1 hv a2.2 hk f1 g1 (f3 hr) (g3 hs) hc
  · exact a2.2
end

section
variable {D : Nat} {z : Zo} {v : List Int} {k deep : Int} {cs ds t u : List Cell} {e i : (Int × Int) × Bool × Bool} {f g : (Int × Int) × Bool} {r s : Int × Int}
theorem assumes_law (h : Gd 3 z) (hv : InV v) (hp : Pt 3 (vF v) z) (hk : 1 ≤ k ∧ k ≤ 6) (ht : tameC D deep 3 cs = t) (hu : tameC D deep 3 ds = u) (hc : okE D cs = true) (hd : okE D ds = true)
    (he : evalC D t false 3 (itvsZ z 3) = e) (hi : evalC D u false 3 (itvsZ z 3) = i) (hf : linC D t = f) (hg : linC D u = g) (hr : evRC D t 3 v = r) (hs : evRC D u 3 v = s) :
    Gd 3 (assZ z 3 k (testP k (sideO e i).1 (sideO e i).2.1) f g) ∧ withinZ (assZ z 3 k (testP k (sideO e i).1 (sideO e i).2.1) f g) z = true ∧
      ((hoO k r s).2 = 2 → (sideO e i).2.2.1 = true) ∧ ((hoO k r s).2 = 3 → (sideO e i).2.2.2 = true) ∧
      ((hoO k r s).2 = 0 → (hoO k r s).1 = true → Pt 3 (vF v) (assZ z 3 k (testP k (sideO e i).1 (sideO e i).2.1) f g)) := by
  subst ht hu
  have row := itvs_row h hv hp
  obtain ⟨T1, K1⟩ := eval_tell (m := 3) (M := 3) (show (0 : Int) < 3 ∧ (3 : Int) ≤ 1000 by omega) (by omega) (by omega) row D deep cs hc
  obtain ⟨T2, K2⟩ := eval_tell (m := 3) (M := 3) (show (0 : Int) < 3 ∧ (3 : Int) ≤ 1000 by omega) (by omega) (by omega) row D deep ds hd
  have L1 := lin_tell (m := 3) (M := 3) (show (0 : Int) < 3 ∧ (3 : Int) ≤ 1000 by omega) (by omega) (by omega) row D deep cs hc
  have L2 := lin_tell (m := 3) (M := 3) (show (0 : Int) < 3 ∧ (3 : Int) ≤ 1000 by omega) (by omega) (by omega) row D deep ds hd
  rw [he] at T1
  rw [hi] at T2
  rw [hr] at T1 K1 L1
  rw [hs] at T2 K2 L2
  rw [hf] at L1
  rw [hg] at L2
  have B := assZ_sub h k (testP k (sideO e i).1 (sideO e i).2.1) f g
  refine ⟨B.1, B.2, ?_, ?_, ?_⟩
  · intro q
    unfold hoO at q
    unfold sideO
    by_cases r0 : r.2 = 0
    · rw [if_neg (by omega)] at q
      by_cases s0 : s.2 = 0
      · rw [if_neg (by omega)] at q; exact absurd q (by show ¬ (0 : Int) = 2; omega)
      · rw [if_pos s0] at q
        have a := (T1.1 r0).1
        unfold Hs at a
        rw [if_neg (by omega)]
        exact eiE_r.1 (T2.2.1 q)
    · rw [if_pos r0] at q
      have a := T1.2.1 q
      split
      · exact a
      · exact eiE_l.1 a
  · intro q
    unfold hoO at q
    unfold sideO
    by_cases r0 : r.2 = 0
    · rw [if_neg (by omega)] at q
      by_cases s0 : s.2 = 0
      · rw [if_neg (by omega)] at q; exact absurd q (by show ¬ (0 : Int) = 3; omega)
      · rw [if_pos s0] at q
        have a := (T1.1 r0).1
        unfold Hs at a
        rw [if_neg (by omega)]
        exact eiE_r.2 (T2.2.2 q)
    · rw [if_pos r0] at q
      have a := T1.2.2 q
      split
      · exact a
      · exact eiE_l.2 a
  · intro q1 q2
    unfold hoO at q1 q2
    by_cases r0 : r.2 = 0
    · rw [if_neg (by omega)] at q1 q2
      by_cases s0 : s.2 = 0
      · rw [if_neg (by omega)] at q1 q2
        have a := T1.1 r0
        have b := T2.1 s0
        have es : sideO e i = (e.1, i.1, eiE e.2 i.2) := by
          have a1 := a.1
          unfold Hs at a1
          unfold sideO; rw [if_neg (by omega)]
        rw [es]
        have th := test_has hk a.2 b.2 a.1 b.1 q2
        have ti := test_ev k e.1 i.1
        exact assZ_pt h hv hp hk L1 L2 r0 s0 th.1 th.2 ti.1 ti.2 q2
      · rw [if_pos s0] at q1; exact absurd q1 s0
    · rw [if_pos r0] at q1; exact absurd q1 r0
theorem assumes_one (h : Sg 3 v z) (hv : InV v) (hk : 1 ≤ k ∧ k ≤ 6) (ht : tameC D deep 3 cs = t) (hu : tameC D deep 3 ds = u) (hc : okE D cs = true) (hd : okE D ds = true)
    (he : evalC D t false 3 (itvsZ z 3) = e) (hi : evalC D u false 3 (itvsZ z 3) = i) (hf : linC D t = f) (hg : linC D u = g) (hr : evRC D t 3 v = r) (hs : evRC D u 3 v = s) :
    (sideO e i).2.2 = (decide ((hoO k r s).2 = 2), decide ((hoO k r s).2 = 3)) ∧
      (assZ z 3 k (testP k (sideO e i).1 (sideO e i).2.1) f g).2.1 = !(decide ((hoO k r s).2 = 0) && (hoO k r s).1) ∧
      ((assZ z 3 k (testP k (sideO e i).1 (sideO e i).2.1) f g).2.1 = false → withinZ z (assZ z 3 k (testP k (sideO e i).1 (sideO e i).2.1) f g) = true) := by
  obtain ⟨A1, A2, A3, A4, A5⟩ := assumes_law h.gd hv h.pt hk ht hu hc hd he hi hf hg hr hs
  subst ht hu
  have row := h.row hv
  have X1 := eval_ex (m := 3) (M := 3) (show (0 : Int) < 3 ∧ (3 : Int) ≤ 1000 by omega) (by omega) (by omega) row D deep cs hc
  have X2 := eval_ex (m := 3) (M := 3) (show (0 : Int) < 3 ∧ (3 : Int) ≤ 1000 by omega) (by omega) (by omega) row D deep ds hd
  have T1 := (eval_tell (m := 3) (M := 3) (show (0 : Int) < 3 ∧ (3 : Int) ≤ 1000 by omega) (by omega) (by omega) row.row D deep cs hc).1.1
  have T2 := (eval_tell (m := 3) (M := 3) (show (0 : Int) < 3 ∧ (3 : Int) ≤ 1000 by omega) (by omega) (by omega) row.row D deep ds hd).1.1
  rw [he] at T1 X1
  rw [hi] at T2 X2
  rw [hr] at T1 X1
  rw [hs] at T2 X2
  have non : Non (testP k (sideO e i).1 (sideO e i).2.1) → (assZ z 3 k (testP k (sideO e i).1 (sideO e i).2.1) f g).2.1 = true := fun q => by
    unfold assZ; rw [if_pos (show _ ∨ _ from q)]; rfl
  have win : (hoO k r s).2 = 0 → (hoO k r s).1 = true → withinZ z (assZ z 3 k (testP k (sideO e i).1 (sideO e i).2.1) f g) = true := fun q1 q2 => by
    have p := A5 q1 q2
    rw [Zm.within_iff h.gd A1]
    refine .inr ⟨h.pt.1, p.1, fun i j hi hj => ?_⟩
    have := p.2 i j hi hj
    unfold ptM at this
    rw [h.eq hi hj]; exact this
  by_cases r0 : r.2 = 0
  · by_cases s0 : s.2 = 0
    · have eh : hoO k r s = (cmpP k r.1 s.1, 0) := by unfold hoO; rw [if_neg (by omega), if_neg (by omega)]
      have es : sideO e i = ((r.1, r.1), (s.1, s.1), (false, false)) := by
        rw [X1, X2, exO_0 r0, exO_0 s0]
        unfold sideO
        rw [if_neg (by dsimp only; omega)]; rfl
      cases hcmp : cmpP k r.1 s.1 with
      | true =>
        rw [hcmp] at eh
        have p := A5 (by rw [eh]) (by rw [eh])
        refine ⟨by rw [es, eh]; rfl, by rw [p.1, eh]; rfl, fun _ => win (by rw [eh]) (by rw [eh])⟩
      | false =>
        rw [hcmp] at eh
        have n := non (by rw [es]; exact test_ex hk (T1 r0).2 (T2 s0).2 hcmp)
        refine ⟨by rw [es, eh]; rfl, by rw [n, eh]; rfl, fun q => by rw [n] at q; cases q⟩
    · have eh : hoO k r s = (false, s.2) := by unfold hoO; rw [if_neg (by omega), if_pos s0]
      have es : sideO e i = ((r.1, r.1), (1, 0), (decide (s.2 = 2), decide (s.2 = 3))) := by
        rw [X1, X2, exO_0 r0, exO_1 s0]
        unfold sideO
        rw [if_neg (by dsimp only; omega)]
        dsimp only
        rw [eiE_no.1]
      have n := non (by rw [es]; exact test_none.2)
      refine ⟨by rw [es, eh], by rw [n, eh]; simp, fun q => by rw [n] at q; cases q⟩
  · have eh : hoO k r s = (false, r.2) := by unfold hoO; rw [if_pos r0]
    have es : sideO e i = ((1, 0), (1, 0), (decide (r.2 = 2), decide (r.2 = 3))) := by
      rw [X1, exO_1 r0]
      unfold sideO
      rw [if_pos (by dsimp only; omega)]
    have n := non (by rw [es]; exact test_none.1)
    refine ⟨by rw [es, eh], by rw [n, eh]; simp, fun q => by rw [n] at q; cases q⟩
end

end Go.Proofs.Ytgmciihlmgeecaa.Fn
