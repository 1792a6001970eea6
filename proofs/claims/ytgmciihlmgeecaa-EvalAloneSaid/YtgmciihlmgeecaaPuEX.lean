import Derived.Test.YtgmciihlmgeecaaPuER
/- Of one row of numbers alone what is told is just that. Conditions: those that each lemma names. -/
namespace Go.Proofs.Ytgmciihlmgeecaa.Fn
open Go Go.RowKit Go.Proofs.Ytgmciihlmgeecaa.Mt Go.Proofs.Ytgmciihlmgeecaa.Zm
set_option linter.unusedVariables false
set_option linter.unusedSimpArgs false

def exO (r : Int × Int) : (Int × Int) × Bool × Bool := if r.2 = 0 then ((r.1, r.1), false, false) else ((1, 0), decide (r.2 = 2), decide (r.2 = 3))
theorem exO_0 {r : Int × Int} (h : r.2 = 0) : exO r = ((r.1, r.1), false, false) := if_pos h
theorem exO_1 {r : Int × Int} (h : r.2 ≠ 0) : exO r = ((1, 0), decide (r.2 = 2), decide (r.2 = 3)) := if_neg h
theorem ofP_out {v : Int} (h : v < -2147483648 ∨ v > 2147483647) : ofP v v = (1, 0) := by
  unfold ofP normP
  rw [if_pos (by omega)]
theorem outI_iff {a b : Int} : outI a b = decide (a < -2147483648 ∨ b > 2147483647) := by
  unfold outI
  rw [Bool.eq_iff_iff]; simp
def rgO (v : Int) : Int × Int := if v < -2147483648 ∨ v > 2147483647 then (0, 2) else (v, 0)
theorem rg_ex {v : Int} : (ofP v v, outI v v, false) = exO (rgO v) := by
  unfold rgO
  rw [outI_iff]
  by_cases h : v < -2147483648 ∨ v > 2147483647
  · rw [if_pos h, ofP_out h, decide_eq_true h]; rfl
  · rw [if_neg h, ofP_one (by unfold In; omega), decide_eq_false h]; rfl
theorem mI_one {x : Int} (h : In x) : mI (x, x) allI = (x, x) := by
  unfold In at h
  unfold mI normP allI
  dsimp only
  rw [if_neg (by omega), if_neg (by omega), show max x (-2147483648) = x by omega, show min x 2147483647 = x by omega]
theorem corM_one {x y : Int} : corM (x, x) (y, y) = (x * y, x * y) := by
  unfold corM min4 max4; simp
theorem corD_one {x y : Int} : corD (x, x) (y, y) = (x.tdiv y, x.tdiv y) := by
  unfold corD min4 max4; simp
theorem join_empty {q : Int × Int} : joinI (1, 0) q = normP q.1 q.2 := by
  unfold joinI; rw [if_pos (by decide)]
theorem norm_ofP {a b : Int} : normP (ofP a b).1 (ofP a b).2 = ofP a b := by
  unfold ofP normP
  (repeat' split) <;> first | rfl | (exfalso; dsimp only at *; omega)
theorem quo_one {x y : Int} (hy : In y) (h0 : y ≠ 0) : quoP (x, x) (y, y) = (ofP (x.tdiv y) (x.tdiv y), outI (x.tdiv y) (x.tdiv y), false) := by
  unfold In at hy
  by_cases h : y < 0
  · have e1 : mI (y, y) (-2147483648, -1) = (y, y) := by
      unfold mI normP; dsimp only
      rw [if_neg (by omega), if_neg (by omega), show max y (-2147483648) = y by omega, show min y (-1) = y by omega]
    have e2 : mI (y, y) (1, 2147483647) = (1, 0) := by
      unfold mI normP; dsimp only
      rw [if_neg (by omega), if_pos (by omega)]
    unfold quoP
    rw [e1, e2]
    unfold quoS
    rw [if_pos (show ((1 : Int), (0 : Int)).1 > ((1 : Int), (0 : Int)).2 by decide), if_neg (show ¬ ((y, y) : Int × Int).1 > (y, y).2 by dsimp only; omega), corD_one, join_empty, norm_ofP]
    simp
  · have e1 : mI (y, y) (1, 2147483647) = (y, y) := by
      unfold mI normP; dsimp only
      rw [if_neg (by omega), if_neg (by omega), show max y 1 = y by omega, show min y 2147483647 = y by omega]
    have e2 : mI (y, y) (-2147483648, -1) = (1, 0) := by
      unfold mI normP; dsimp only
      rw [if_neg (by omega), if_pos (by omega)]
    unfold quoP
    rw [e1, e2]
    unfold quoS
    rw [if_pos (show ((1 : Int), (0 : Int)).1 > ((1 : Int), (0 : Int)).2 by decide), if_neg (show ¬ ((y, y) : Int × Int).1 > (y, y).2 by dsimp only; omega), corD_one, join_empty, norm_ofP]
    simp
theorem do_ex {k x y : Int} (hk : 4 ≤ k ∧ k ≤ 8) (hx : In x) (hy : In y) : doP k (x, x) (y, y) = exO (oneP k x y) := by
  have hk' : k = 4 ∨ k = 5 ∨ k = 6 ∨ k = 7 ∨ k = 8 := by omega
  unfold doP
  rw [mI_one hx, mI_one hy, if_neg (by dsimp only; omega)]
  rcases hk' with rfl | rfl | rfl | rfl | rfl
  · exact rg_ex (v := x + y)
  · exact rg_ex (v := x - y)
  · show cutP (corM (x, x) (y, y)).1 (corM (x, x) (y, y)).2 = _
    rw [corM_one]
    exact rg_ex (v := x * y)
  · show divP 7 (x, x) (y, y) = _
    unfold divP
    by_cases h0 : y = 0
    · subst h0; rfl
    · have q := quo_one (x := x) hy h0
      rw [if_neg (by dsimp only; omega), if_neg (by decide), q]
      have e : (decide (y ≤ 0) && decide (0 ≤ y)) = false := by
        rw [Bool.and_eq_false_iff, decide_eq_false_iff_not, decide_eq_false_iff_not]; omega
      have e' : oneP 7 x y = rgO (x.tdiv y) := by
        unfold oneP; rw [if_neg (fun h => h0 h.2)]; rfl
      rw [e', ← rg_ex]
      dsimp only
      rw [e]
  · show divP 8 (x, x) (y, y) = _
    unfold divP
    by_cases h0 : y = 0
    · subst h0; rfl
    · have hi := (rest_has (p := (x, x)) (q := (y, y)) (x := x) (y := y) hx ⟨Int.le_refl _, Int.le_refl _⟩ ⟨Int.le_refl _, Int.le_refl _⟩ h0).2
      rw [if_neg (by dsimp only; omega), if_pos rfl]
      have e : (decide (y ≤ 0) && decide (0 ≤ y)) = false := by
        rw [Bool.and_eq_false_iff, decide_eq_false_iff_not, decide_eq_false_iff_not]; omega
      have e' : oneP 8 x y = (x.tmod y, 0) := by
        unfold In at hi
        unfold oneP; rw [if_neg (fun h => h0 h.2), if_neg (show ¬ (onV 8 x y < -2147483648 ∨ onV 8 x y > 2147483647) by show ¬ (x.tmod y < -2147483648 ∨ x.tmod y > 2147483647); omega)]; rfl
      have er : restP (x, x) (y, y) = (x.tmod y, x.tmod y) := by
        unfold restP
        rw [if_pos ⟨rfl, rfl⟩]
        exact ofP_one hi
      rw [e', er, exO_0 rfl]
      dsimp only
      rw [e]
theorem do_none {k : Int} {p : Int × Int} : doP k p (1, 0) = ((1, 0), false, false) := by
  unfold doP; rw [if_pos (.inr (.inl (by decide)))]
theorem eiE_no {b : Bool × Bool} : eiE (false, false) b = b ∧ eiE b (false, false) = b := by
  unfold eiE; simp
theorem two_ex {k : Int} (hk : 4 ≤ k ∧ k ≤ 8) {a b : Int × Int} (ha : a.2 = 0 → In a.1) (hb : b.2 = 0 → In b.1) :
    twoO k (exO a) (exO b) = exO (if a.2 ≠ 0 then (0, a.2) else if b.2 ≠ 0 then (0, b.2) else oneP k a.1 b.1) := by
  unfold twoO
  by_cases h0 : a.2 = 0
  · rw [exO_0 h0, if_neg (by dsimp only; omega), if_neg (by omega)]
    by_cases h1 : b.2 = 0
    · rw [exO_0 h1, if_neg (by omega), do_ex hk (ha h0) (hb h1), eiE_no.1, eiE_no.1]
    · rw [exO_1 h1, if_pos h1, do_none, exO_1 (r := (0, b.2)) h1, eiE_no.1, eiE_no.2]
  · rw [exO_1 h0, if_pos (by dsimp only; omega), if_pos h0, exO_1 (r := (0, a.2)) h0]
theorem neg_ex {a : Int × Int} (ha : a.2 = 0 → In a.1) : negO (exO a) = exO (if a.2 ≠ 0 then (0, a.2) else oneP 5 0 a.1) := by
  unfold negO negP
  by_cases h0 : a.2 = 0
  · rw [exO_0 h0, if_neg (by omega), do_ex (by omega) (by unfold In; omega) (ha h0), eiE_no.1]
  · rw [exO_1 h0, if_pos h0, do_none, exO_1 (r := (0, a.2)) h0, eiE_no.2]

def RowOne (vars : Int) (il vl : List Int) : Prop := ∀ x : Int, 0 ≤ x → x < vars → (il.getD (x.toNat * 2) 0 = vl.getD x.toNat 0 ∧ il.getD (x.toNat * 2 + 1) 0 = vl.getD x.toNat 0) ∧ In (vl.getD x.toNat 0)
theorem RowOne.row {vars : Int} {il vl : List Int} (h : RowOne vars il vl) : RowIn vars il vl := fun x h0 h1 => by
  obtain ⟨⟨a, b⟩, c⟩ := h x h0 h1
  rw [a, b]
  exact ⟨⟨Int.le_refl _, Int.le_refl _⟩, c⟩
theorem eval_ex {vars : Int} {m M : Nat} {il vl : List Int} (hv : 0 < vars ∧ vars ≤ 1000) (hm : vars ≤ (m : Int)) (hM : vars ≤ (M : Int)) (hr : RowOne vars il vl) :
    ∀ (d : Nat) (deep : Int) (cs : List Cell), okE d cs = true → evalC d (tameC d deep vars cs) false m il = exO (evRC d (tameC d deep vars cs) M vl)
  | 0, _, _, h => by cases h
  | d + 1, deep, cs, h => by
    rcases tame_cases d deep vars cs h hv with ⟨k, hk, e, o0, o1⟩ | ⟨e, o0⟩ | ⟨x, hx, e⟩ | ⟨n, hn, e⟩
    · rw [e]
      have l0 := tame_len d (deep - 1) vars (kid cs 0)
      have l1 := tame_len d (deep - 1) vars (kid cs 1)
      have t0 := eval_ex hv hm hM hr d (deep - 1) _ o0
      have t1 := eval_ex hv hm hM hr d (deep - 1) _ o1
      have k0 := (eval_tell hv hm hM hr.row d (deep - 1) _ o0).1.1
      have k1 := (eval_tell hv hm hM hr.row d (deep - 1) _ o1).1.1
      rw [evR_two hk]
      show evalO (ex k 0 0 2 _) false m il _ _ = _
      rw [kid_two0 l0, kid_two1 l0 l1]
      have ee : ∀ r s, evalO (ex k 0 0 2 (tameC d (deep - 1) vars (kid cs 0) ++ tameC d (deep - 1) vars (kid cs 1))) false m il r s = twoO k r s := fun r s => by
        unfold evalO
        rw [show kK (ex k 0 0 2 (tameC d (deep - 1) vars (kid cs 0) ++ tameC d (deep - 1) vars (kid cs 1))) = k from rfl, if_neg (by decide), if_neg (by omega), if_neg (by omega), if_neg (by omega), if_pos ⟨hk, rfl⟩]
      rw [ee, t0, t1]
      exact two_ex hk (fun q => (k0 q).2) (fun q => (k1 q).2)
    · rw [e]
      have l0 := tame_len d (deep - 1) vars (kid cs 0)
      have t0 := eval_ex hv hm hM hr d (deep - 1) _ o0
      have k0 := (eval_tell hv hm hM hr.row d (deep - 1) _ o0).1.1
      rw [evR_neg]
      show evalO (ex 3 0 0 1 _) false m il _ _ = _
      rw [kid_one l0]
      have ee : ∀ r s, evalO (ex 3 0 0 1 (tameC d (deep - 1) vars (kid cs 0))) false m il r s = negO r := fun r s => by
        unfold evalO
        rw [show kK (ex 3 0 0 1 (tameC d (deep - 1) vars (kid cs 0))) = 3 from rfl, if_neg (by decide), if_neg (by omega), if_neg (by omega), if_pos ⟨rfl, rfl⟩]
      rw [ee, t0]
      exact neg_ex fun q => (k0 q).2
    · rw [e]
      obtain ⟨h1, h2⟩ := hr x hx.1 hx.2
      rw [evR_var ⟨hx.1, by omega⟩ h2]
      show evalO (ex 2 0 x 0 []) false m il _ _ = _
      have ee : ∀ r s, evalO (ex 2 0 x 0 []) false m il r s = ((il.getD (x.toNat * 2) 0, il.getD (x.toNat * 2 + 1) 0), false, false) := fun r s => by
        unfold evalO
        rw [show kK (ex 2 0 x 0 []) = 2 from rfl, show kX (ex 2 0 x 0 []) = x from rfl, if_neg (by decide), if_neg (by omega), if_pos ⟨rfl, hx.1, by omega⟩]
      rw [ee, h1.1, h1.2, exO_0 rfl]
    · rw [e]
      have hi : In n := by unfold In; omega
      rw [evR_num hi]
      show evalO (ex 1 n 0 0 []) false m il _ _ = _
      have ee : ∀ r s, evalO (ex 1 n 0 0 []) false m il r s = (ofP n n, false, false) := fun r s => rfl
      rw [ee, ofP_one hi, exO_0 rfl]

structure Sg (n : Nat) (v : List Int) (z : Zo) : Prop where
  gd : Gd n z
  pt : Pt n (vF v) z
  up : ∀ i, i ≤ n → g z.2.2 i 0 ≤ vF v i ∧ g z.2.2 0 i ≤ - vF v i
section
variable {n : Nat} {v : List Int} {z z' : Zo}
theorem Sg.eq (h : Sg n v z) {i j : Nat} (hi : i ≤ n) (hj : j ≤ n) : g z.2.2 i j = vF v i - vF v j := by
  have a := h.pt.2 i j hi hj
  have b := (h.gd.clo h.pt.1).2 i j 0 hi hj (by omega)
  have c := (h.up i hi).1
  have d := (h.up j hj).2
  unfold ptM at a
  omega
theorem Sg.uniq (h : Sg n v z) (h' : Sg n v z') : z = z' :=
  h.gd.ext h'.gd (by rw [h.pt.1, h'.pt.1]) fun _ i j hi hj => by rw [h.eq hi hj, h'.eq hi hj]
theorem sg_held (h : Gd n z) (hp : Pt n (vF v) z) (hv : InV v) {x a : Int} (hx : 0 ≤ x ∧ x < n) (ha : a = vF v (x + 1).toNat) (hu : ∀ i, i ≤ n → i ≠ (x + 1).toNat → g z.2.2 i 0 ≤ vF v i ∧ g z.2.2 0 i ≤ - vF v i) : Sg n v (heldZ z x a a) := by
  have hr : -2147483648 ≤ a ∧ a ≤ 2147483647 := by
    rw [ha, show (x + 1).toNat = x.toNat + 1 by omega, vF_succ]; exact inV_get hv _
  obtain ⟨g1, p1⟩ := has_held h hp (x := x) (lo := a) (hi := a) hx (by omega) (by omega) (by omega) (by omega)
  refine ⟨g1, p1, ?_⟩
  have e : heldZ z x a a = boundZ (boundZ z x (-1) a) (-1) x (-a) := by
    have hn := h.hn
    unfold heldZ
    rw [if_neg (by omega), if_neg (by omega), show wrap64 (-a) = -a from wrap_in (by omega) (by omega)]
  have R := bound_rep (bound_rep h.rep (x := x) (y := -1) (b := a) (by omega) (by omega)) (x := -1) (y := x) (b := -a) (by omega) (by omega)
  rw [← e] at R
  obtain ⟨⟨⟨_, q1⟩, q2⟩, q3⟩ := (R.2.2 p1.1 _ (g1.clo p1.1)).2 (Lem.refl _ _)
  rw [show ((-1 : Int) + 1).toNat = 0 from rfl] at q2 q3
  intro i hi
  by_cases ei : i = (x + 1).toNat
  · subst ei; omega
  · have := hu i hi ei
    have a1 := q1 i 0 hi (by omega)
    have a2 := q1 0 i (by omega) hi
    omega
theorem forget_up (h : Sg n v z) {x : Int} (hx : 0 ≤ x ∧ x < n) {w : List Int} (hw : ∀ i, i ≤ n → i ≠ (x + 1).toNat → vF w i = vF v i) : ∀ i, i ≤ n → i ≠ (x + 1).toNat → g (forgetZ z x).2.2 i 0 ≤ vF w i ∧ g (forgetZ z x).2.2 0 i ≤ - vF w i := fun i hi e => by
  obtain ⟨_, _, f3⟩ := forget_rep h.gd h.pt.1 hx
  rw [f3 i 0 hi (by omega), f3 0 i (by omega) hi, hw i hi e]
  unfold Zm.forM
  rw [if_neg e, if_neg (by omega), if_neg (by omega), if_neg e]
  exact h.up i hi
theorem copy_up (h : Sg n v z) {x y b : Int} (hx : 0 ≤ x ∧ x < n) (hy : -1 ≤ y ∧ y < n) (hs : (copyZ z x y b).2.1 = false) {w : List Int} (hw : ∀ i, i ≤ n → i ≠ (x + 1).toNat → vF w i = vF v i) : ∀ i, i ≤ n → i ≠ (x + 1).toNat → g (copyZ z x y b).2.2 i 0 ≤ vF w i ∧ g (copyZ z x y b).2.2 0 i ≤ - vF w i := fun i hi e => by
  have u := h.up i hi
  rw [hw i hi e]
  by_cases exy : x = y
  · subst exy
    have R := mov_rep h.gd h.pt.1 (b := b) hx
    obtain ⟨q, _⟩ := (R.2.2 hs _ (R.1.clo hs)).2 (Lem.refl _ _)
    have a1 := q i 0 hi (by omega) e (by omega)
    have a2 := q 0 i (by omega) hi (by omega) e
    omega
  · have R := copy_rep h.gd h.pt.1 (b := b) hx hy exy
    obtain ⟨q, _⟩ := (R.2.2 hs _ (R.1.clo hs)).2 (Lem.refl _ _)
    have a1 := q i 0 hi (by omega) e (by omega)
    have a2 := q 0 i (by omega) hi (by omega) e
    omega
theorem vF_other {l : List Int} (hl : l.length = n) {x b : Int} (hx : 0 ≤ x ∧ x < n) : (∀ i, i ≤ n → i ≠ (x + 1).toNat → vF (l.set x.toNat b) i = vF l i) ∧ vF (l.set x.toNat b) (x + 1).toNat = b :=
  ⟨fun i hi e => by rw [vF_set (by omega), if_neg (by omega)], by rw [vF_set (by omega), if_pos (by omega)]⟩
theorem asg_sg (h : Sg n v z) (hl : v.length = n) (hv : InV v) {m : Nat} {x : Int} (hx : 0 ≤ x ∧ x < n) {e : (Int × Int) × Bool × Bool} {f : (Int × Int) × Bool} {r : Int × Int} (he : e.1 = (r.1, r.1)) (hr : In r.1) (hf : LinOk (n : Int) f r v) (h0 : r.2 = 0) :
    Sg n (v.set x.toNat r.1) (asgZ z m x e f) ∧ InV (v.set x.toNat r.1) := by
  obtain ⟨o1, o2⟩ := vF_other (l := v) hl (b := r.1) hx
  have hr' := hr
  unfold In at hr'
  unfold asgZ
  rw [he, if_neg (by dsimp only; omega)]
  by_cases hf2 : f.2 = true
  · rw [if_pos hf2]
    obtain ⟨f1, f2, f3⟩ := hf hf2
    have c := has_copy h.gd hl hv h.pt (x := x) (y := f.1.1) (b := f.1.2) (c := r.1) hx f1 f2 (by rw [f3 h0, atV_vF f1.1]) hr'
    exact ⟨sg_held c.1 c.2.1 c.2.2 hx o2.symm (copy_up h hx f1 c.2.1.1 o1), c.2.2⟩
  · rw [if_neg hf2]
    have c := has_forget h.gd hl hv h.pt (x := x) (b := r.1) hx hr'
    exact ⟨sg_held c.1 c.2.1 c.2.2 hx o2.symm (forget_up h hx o1), c.2.2⟩
theorem Sg.row (h : Sg n v z) (hv : InV v) : RowOne (n : Int) (itvsZ z n) v := fun x h0 h1 => by
  have q := itv_in h.gd h.pt.1 (x := x) ⟨h0, h1⟩
  have n6 := h.gd.n6
  have e1 := h.eq (i := (x + 1).toNat) (j := 0) (by omega) (by omega)
  have e2 := h.eq (i := 0) (j := (x + 1).toNat) (by omega) (by omega)
  rw [(itvs_get (show x.toNat < n by omega)).1, (itvs_get (show x.toNat < n by omega)).2, show ((x.toNat : Nat) : Int) = x by omega, q.1, e1, e2, show (x + 1).toNat = x.toNat + 1 by omega, vF_succ, show vF v 0 = 0 from rfl]
  exact ⟨⟨by dsimp only; omega, by dsimp only; omega⟩, inV_get hv x.toNat⟩
end
theorem row_sg {a b c : Int} (ha : In a) (hb : In b) (hc : In c) : Sg 3 [a, b, c] (rowZ [a, b, c] 3) := by
  have iv0 : InV [(0 : Int), 0, 0] := fun x hx => by simp at hx; omega
  have e0 : ∀ i, i ≤ 3 → vF [(0 : Int), 0, 0] i = 0 := fun i hi => by
    rcases (show i = 0 ∨ i = 1 ∨ i = 2 ∨ i = 3 by omega) with rfl | rfl | rfl | rfl <;> rfl
  have s0 : Sg 3 [(0 : Int), 0, 0] (zerosZ (3 : Nat)) := by
    refine ⟨zeros_gd (by omega), ⟨rfl, fun i j hi hj => ?_⟩, fun i hi => ?_⟩
    · rw [zeros_g]
      show vF _ i - vF _ j ≤ 0
      rw [e0 i hi, e0 j hj]; omega
    · rw [zeros_g, zeros_g, e0 i hi]; omega
  have step : ∀ {v : List Int} {z : Zo} {t : Nat} {x : Int}, Sg 3 v z → v.length = 3 → InV v → t < 3 → In x → Sg 3 (v.set t x) (heldZ (forgetZ z t) t (ofP x x).1 (ofP x x).2) ∧ InV (v.set t x) := fun {v z t x} s hl hv ht hx => by
    rw [ofP_one hx]
    have hx' := hx
    unfold In at hx'
    obtain ⟨o1, o2⟩ := vF_other (n := 3) (l := v) hl (x := (t : Int)) (b := x) ⟨by omega, by omega⟩
    have c := has_forget s.gd hl hv s.pt (x := (t : Int)) (b := x) ⟨by omega, by omega⟩ hx'
    rw [Int.toNat_natCast] at c o1 o2
    exact ⟨sg_held c.1 c.2.1 c.2.2 ⟨by omega, by omega⟩ o2.symm (forget_up s ⟨by omega, by omega⟩ o1), c.2.2⟩
  obtain ⟨s1, i1⟩ := step s0 rfl iv0 (t := 0) (by omega) ha
  obtain ⟨s2, i2⟩ := step s1 rfl i1 (t := 1) (by omega) hb
  exact (step s2 rfl i2 (t := 2) (by omega) hc).1
theorem row_sg' {v : List Int} (hl : v.length = 3) (hv : InV v) : Sg 3 v (rowZ v 3) := by
  match v, hl with
  | [a, b, c], _ => exact row_sg (hv a (by simp)) (hv b (by simp)) (hv c (by simp))
theorem two_sg {a b c : Int} (ha : In a) (hb : In b) (hc : In c) : Sg 3 [a, b, c] (twoZ [a, b, c] [a, b, c]) := by
  have s := row_sg ha hb hc
  have t := two_has ha hb hc ha hb hc
  refine ⟨t.1, t.2.1, fun i hi => ?_⟩
  unfold twoZ
  rw [join_g s.gd s.gd s.pt.1 s.pt.1 (by omega) (by omega), join_g s.gd s.gd s.pt.1 s.pt.1 (by omega) (by omega)]
  have := s.up i hi
  omega

theorem evalAlone_law {D : Nat} {z : Zo} {v : List Int} (h : Sg 3 v z) (hl : v.length = 3) (hv : InV v) {k : Int} (hk : 0 ≤ k ∧ k < 3) {deep : Int} {cs t : List Cell} (ht : tameC D deep 3 cs = t) (hc : okE D cs = true)
    {e : (Int × Int) × Bool × Bool} (he : evalC D t false 3 (itvsZ z 3) = e) {f : (Int × Int) × Bool} (hf : linC D t = f) {r : Int × Int} (hr : evRC D t 3 v = r) :
    e = exO r ∧ (r.2 = 0 ∨ r.2 = 2 ∨ r.2 = 3) ∧ (r.2 ≠ 0 → asgZ z 3 k e f = noneZ 3) ∧
      (r.2 = 0 → In r.1 ∧ asgZ z 3 k e f = rowZ (v.set k.toNat r.1) 3 ∧ Sg 3 (v.set k.toNat r.1) (rowZ (v.set k.toNat r.1) 3) ∧ InV (v.set k.toNat r.1)) := by
  subst ht
  have row := h.row hv
  have X := eval_ex (m := 3) (M := 3) (show (0 : Int) < 3 ∧ (3 : Int) ≤ 1000 by omega) (by omega) (by omega) row D deep cs hc
  obtain ⟨T, K⟩ := eval_tell (m := 3) (M := 3) (show (0 : Int) < 3 ∧ (3 : Int) ≤ 1000 by omega) (by omega) (by omega) row.row D deep cs hc
  have L := lin_tell (m := 3) (M := 3) (show (0 : Int) < 3 ∧ (3 : Int) ≤ 1000 by omega) (by omega) (by omega) row.row D deep cs hc
  rw [he] at T X
  rw [hr] at T K L X
  rw [hf] at L
  refine ⟨X, K, fun h1 => ?_, fun h0 => ?_⟩
  · rw [X, exO_1 h1]
    unfold asgZ
    rw [if_pos (show (1 : Int) > 0 by decide)]; rfl
  · have hi := (T.1 h0).2
    have e1 : e.1 = (r.1, r.1) := by rw [X, exO_0 h0]
    obtain ⟨s, iv⟩ := asg_sg h hl hv (m := 3) (x := k) (by omega) e1 hi L h0
    have s' := row_sg' (v := v.set k.toNat r.1) (by rw [List.length_set]; exact hl) iv
    exact ⟨hi, s.uniq s', s', iv⟩

end Go.Proofs.Ytgmciihlmgeecaa.Fn
