import Derived.Test.YtgmciihlmgeecaaPuEM
import Derived.Test.YtgmciihlmgeecaaPuE6
/- What an expression is of one row is had, or the error is told. Conditions: those that each lemma names. -/
namespace Go.Proofs.Ytgmciihlmgeecaa.Fn
open Go Go.RowKit Go.Proofs.Ytgmciihlmgeecaa.Mt Go.Proofs.Ytgmciihlmgeecaa.Zm
set_option linter.unusedVariables false
set_option linter.unusedSimpArgs false

theorem eiE_l {a b : Bool × Bool} : (a.1 = true → (eiE a b).1 = true) ∧ (a.2 = true → (eiE a b).2 = true) := ⟨fun h => by simp [eiE, h], fun h => by simp [eiE, h]⟩
theorem eiE_r {a b : Bool × Bool} : (b.1 = true → (eiE a b).1 = true) ∧ (b.2 = true → (eiE a b).2 = true) := ⟨fun h => by simp [eiE, h], fun h => by simp [eiE, h]⟩
theorem opR_two {k : Int} (hk : 4 ≤ k ∧ k ≤ 8) (n y : Int) (m : Nat) (kids : List Cell) (a b : Int) (M : Nat) (l : List Int) : opR (ex k n y m kids) a b M l = oneP k a b := by
  have hk' : k = 4 ∨ k = 5 ∨ k = 6 ∨ k = 7 ∨ k = 8 := by omega
  unfold opR oneP numR onV
  rw [show kK (ex k n y m kids) = k from rfl]
  rcases hk' with rfl | rfl | rfl | rfl | rfl <;> simp
theorem opR_neg (n y : Int) (m : Nat) (kids : List Cell) (a b : Int) (M : Nat) (l : List Int) : opR (ex 3 n y m kids) a b M l = oneP 5 0 a := by
  unfold opR oneP numR onV
  rw [show kK (ex 3 n y m kids) = 3 from rfl]
  simp
theorem one_kind (k x y : Int) : (oneP k x y).2 = 0 ∨ (oneP k x y).2 = 2 ∨ (oneP k x y).2 = 3 := by
  unfold oneP
  (repeat' split) <;> simp
theorem two_tell {k : Int} {r s : (Int × Int) × Bool × Bool} {a b : Int × Int} (hk : 4 ≤ k ∧ k ≤ 8) (ha : Tell r a) (hb : Tell s b) (ka : a.2 = 0 ∨ a.2 = 2 ∨ a.2 = 3) (kb : b.2 = 0 ∨ b.2 = 2 ∨ b.2 = 3) :
    Tell (twoO k r s) (if a.2 ≠ 0 then (0, a.2) else if b.2 ≠ 0 then (0, b.2) else oneP k a.1 b.1) := by
  unfold twoO
  by_cases e : r.1.1 > r.1.2
  · rw [if_pos e]
    have h0 : a.2 ≠ 0 := fun h => by
      have := (ha.1 h).1
      unfold Hs at this
      omega
    rw [if_pos h0]
    exact ⟨fun h => absurd h h0, ha.2.1, ha.2.2⟩
  · rw [if_neg e]
    by_cases h0 : a.2 = 0
    · rw [if_neg (by omega)]
      obtain ⟨a1, a2⟩ := ha.1 h0
      by_cases h1 : b.2 = 0
      · rw [if_neg (by omega)]
        obtain ⟨b1, b2⟩ := hb.1 h1
        have d := do_tell hk a2 b2 a1 b1
        exact ⟨d.1, fun h => eiE_r.1 (d.2.1 h), fun h => eiE_r.2 (d.2.2 h)⟩
      · rw [if_pos h1]
        exact ⟨fun h => absurd h h1, fun h => eiE_l.1 (eiE_r.1 (hb.2.1 h)), fun h => eiE_l.2 (eiE_r.2 (hb.2.2 h))⟩
    · rw [if_pos h0]
      exact ⟨fun h => absurd h h0, fun h => eiE_l.1 (eiE_l.1 (ha.2.1 h)), fun h => eiE_l.2 (eiE_l.2 (ha.2.2 h))⟩
theorem neg_tell' {r : (Int × Int) × Bool × Bool} {a : Int × Int} (ha : Tell r a) : Tell (negO r) (if a.2 ≠ 0 then (0, a.2) else oneP 5 0 a.1) := by
  unfold negO
  by_cases h0 : a.2 = 0
  · rw [if_neg (by omega)]
    obtain ⟨a1, a2⟩ := ha.1 h0
    have d := neg_tell a2 a1
    exact ⟨d.1, fun h => eiE_r.1 (d.2.1 h), fun h => eiE_r.2 (d.2.2 h)⟩
  · rw [if_pos h0]
    exact ⟨fun h => absurd h h0, fun h => eiE_l.1 (ha.2.1 h), fun h => eiE_l.2 (ha.2.2 h)⟩

theorem evR_two {k : Int} (hk : 4 ≤ k ∧ k ≤ 8) {d : Nat} {ks : List Cell} {M : Nat} {l : List Int} :
    evRC (d + 1) (ex k 0 0 2 ks) M l = if (evRC d (kid (ex k 0 0 2 ks) 0) M l).2 ≠ 0 then (0, (evRC d (kid (ex k 0 0 2 ks) 0) M l).2) else if (evRC d (kid (ex k 0 0 2 ks) 1) M l).2 ≠ 0 then (0, (evRC d (kid (ex k 0 0 2 ks) 1) M l).2) else oneP k (evRC d (kid (ex k 0 0 2 ks) 0) M l).1 (evRC d (kid (ex k 0 0 2 ks) 1) M l).1 := by
  show evRO (ex k 0 0 2 ks) M l _ _ = _
  unfold evRO
  rw [opR_two hk, show kN (ex k 0 0 2 ks) = 2 from rfl]
  simp
theorem evR_neg {d : Nat} {ks : List Cell} {M : Nat} {l : List Int} :
    evRC (d + 1) (ex 3 0 0 1 ks) M l = if (evRC d (kid (ex 3 0 0 1 ks) 0) M l).2 ≠ 0 then (0, (evRC d (kid (ex 3 0 0 1 ks) 0) M l).2) else oneP 5 0 (evRC d (kid (ex 3 0 0 1 ks) 0) M l).1 := by
  show evRO (ex 3 0 0 1 ks) M l _ _ = _
  unfold evRO
  rw [opR_neg, show kN (ex 3 0 0 1 ks) = 1 from rfl]
  simp
theorem evR_num {d : Nat} {n : Int} {M : Nat} {l : List Int} (h : In n) : evRC (d + 1) (ex 1 n 0 0 []) M l = (n, 0) := by
  show opR (ex 1 n 0 0 []) _ _ M l = _
  unfold opR numR In at *
  rw [show kK (ex 1 n 0 0 []) = 1 from rfl, show kV (ex 1 n 0 0 []) = n from rfl]
  simp
  omega
theorem evR_var {d : Nat} {x : Int} {M : Nat} {l : List Int} (h : 0 ≤ x ∧ x < (M : Int)) (hi : In (l.getD x.toNat 0)) : evRC (d + 1) (ex 2 0 x 0 []) M l = (l.getD x.toNat 0, 0) := by
  show opR (ex 2 0 x 0 []) _ _ M l = _
  have e : ∀ a b, numR (ex 2 0 x 0 []) a b M l = l.getD x.toNat 0 := fun a b => by
    unfold numR
    rw [show kK (ex 2 0 x 0 []) = 2 from rfl, show kX (ex 2 0 x 0 []) = x from rfl, if_neg (by omega), if_pos rfl, if_pos h]
  unfold opR In at *
  rw [e, show kK (ex 2 0 x 0 []) = 2 from rfl, if_neg (by omega), if_neg (by omega)]
def RowIn (vars : Int) (il vl : List Int) : Prop := ∀ x : Int, 0 ≤ x → x < vars → Hs (il.getD (x.toNat * 2) 0, il.getD (x.toNat * 2 + 1) 0) (vl.getD x.toNat 0) ∧ In (vl.getD x.toNat 0)
theorem eval_tell {vars : Int} {m M : Nat} {il vl : List Int} (hv : 0 < vars ∧ vars ≤ 1000) (hm : vars ≤ (m : Int)) (hM : vars ≤ (M : Int)) (hr : RowIn vars il vl) :
    ∀ (d : Nat) (deep : Int) (cs : List Cell), okE d cs = true → Tell (evalC d (tameC d deep vars cs) false m il) (evRC d (tameC d deep vars cs) M vl) ∧
      ((evRC d (tameC d deep vars cs) M vl).2 = 0 ∨ (evRC d (tameC d deep vars cs) M vl).2 = 2 ∨ (evRC d (tameC d deep vars cs) M vl).2 = 3)
  | 0, _, _, h => by cases h
  | d + 1, deep, cs, h => by
    rcases tame_cases d deep vars cs h hv with ⟨k, hk, e, o0, o1⟩ | ⟨e, o0⟩ | ⟨x, hx, e⟩ | ⟨n, hn, e⟩
    · rw [e]
      have l0 := tame_len d (deep - 1) vars (kid cs 0)
      have l1 := tame_len d (deep - 1) vars (kid cs 1)
      obtain ⟨t0, k0⟩ := eval_tell hv hm hM hr d (deep - 1) _ o0
      obtain ⟨t1, k1⟩ := eval_tell hv hm hM hr d (deep - 1) _ o1
      rw [evR_two hk]
      show Tell (evalO (ex k 0 0 2 _) false m il _ _) _ ∧ _
      rw [kid_two0 l0, kid_two1 l0 l1]
      have ee : ∀ r s, evalO (ex k 0 0 2 (tameC d (deep - 1) vars (kid cs 0) ++ tameC d (deep - 1) vars (kid cs 1))) false m il r s = twoO k r s := fun r s => by
        unfold evalO
        rw [show kK (ex k 0 0 2 (tameC d (deep - 1) vars (kid cs 0) ++ tameC d (deep - 1) vars (kid cs 1))) = k from rfl, if_neg (by decide), if_neg (by omega), if_neg (by omega), if_neg (by omega), if_pos ⟨hk, rfl⟩]
      rw [ee]
      refine ⟨two_tell hk t0 t1 k0 k1, ?_⟩
      split
      · exact k0
      · split
        · exact k1
        · exact one_kind _ _ _
    · rw [e]
      have l0 := tame_len d (deep - 1) vars (kid cs 0)
      obtain ⟨t0, k0⟩ := eval_tell hv hm hM hr d (deep - 1) _ o0
      rw [evR_neg]
      show Tell (evalO (ex 3 0 0 1 _) false m il _ _) _ ∧ _
      rw [kid_one l0]
      have ee : ∀ r s, evalO (ex 3 0 0 1 (tameC d (deep - 1) vars (kid cs 0))) false m il r s = negO r := fun r s => by
        unfold evalO
        rw [show kK (ex 3 0 0 1 (tameC d (deep - 1) vars (kid cs 0))) = 3 from rfl, if_neg (by decide), if_neg (by omega), if_neg (by omega), if_pos ⟨rfl, rfl⟩]
      rw [ee]
      refine ⟨neg_tell' t0, ?_⟩
      split
      · exact k0
      · exact one_kind _ _ _
    · rw [e]
      obtain ⟨h1, h2⟩ := hr x hx.1 hx.2
      rw [evR_var ⟨hx.1, by omega⟩ h2]
      show Tell (evalO (ex 2 0 x 0 []) false m il _ _) _ ∧ _
      have ee : ∀ r s, evalO (ex 2 0 x 0 []) false m il r s = ((il.getD (x.toNat * 2) 0, il.getD (x.toNat * 2 + 1) 0), false, false) := fun r s => by
        unfold evalO
        rw [show kK (ex 2 0 x 0 []) = 2 from rfl, show kX (ex 2 0 x 0 []) = x from rfl, if_neg (by decide), if_neg (by omega), if_pos ⟨rfl, hx.1, by omega⟩]
      rw [ee]
      exact ⟨⟨fun _ => ⟨h1, h2⟩, fun h => (by cases h), fun h => (by cases h)⟩, .inl rfl⟩
    · rw [e]
      have hi : In n := by unfold In; omega
      rw [evR_num hi]
      show Tell (evalO (ex 1 n 0 0 []) false m il _ _) _ ∧ _
      have ee : ∀ r s, evalO (ex 1 n 0 0 []) false m il r s = (ofP n n, false, false) := fun r s => rfl
      rw [ee]
      exact ⟨⟨fun _ => ⟨of_has (Int.le_refl _) (Int.le_refl _) hi, hi⟩, fun h => (by cases h), fun h => (by cases h)⟩, .inl rfl⟩

def atV (vl : List Int) (x : Int) : Int := if x = -1 then 0 else vl.getD x.toNat 0
def LinOk (vars : Int) (f : (Int × Int) × Bool) (r : Int × Int) (vl : List Int) : Prop :=
  f.2 = true → (-1 ≤ f.1.1 ∧ f.1.1 < vars) ∧ (-1099511627776 ≤ f.1.2 ∧ f.1.2 ≤ 1099511627776) ∧ (r.2 = 0 → r.1 = atV vl f.1.1 + f.1.2)
theorem pair_ok {vars k : Int} (hv : 0 < vars) {f g : (Int × Int) × Bool} {a b : Int × Int} {vl : List Int} (hk : k = 4 ∨ k = 5) (hf : LinOk vars f a vl) (hg : LinOk vars g b vl) (ka : a.2 = 0 ∨ a.2 = 2 ∨ a.2 = 3) (kb : b.2 = 0 ∨ b.2 = 2 ∨ b.2 = 3) :
    LinOk vars (farP (pairO k f g)) (if a.2 ≠ 0 then (0, a.2) else if b.2 ≠ 0 then (0, b.2) else oneP k a.1 b.1) vl := by
  intro h
  unfold farP at h
  simp only [Bool.and_eq_true, decide_eq_true_eq] at h
  obtain ⟨⟨h1, h2⟩, h3⟩ := h
  show (-1 ≤ (pairO k f g).1.1 ∧ (pairO k f g).1.1 < vars) ∧ (-1099511627776 ≤ (pairO k f g).1.2 ∧ (pairO k f g).1.2 ≤ 1099511627776) ∧ (_ → _ = atV vl (pairO k f g).1.1 + (pairO k f g).1.2)
  have hb : f.2 = true ∧ g.2 = true ∧ ¬ (g.1.1 ≠ -1 ∧ (k = 5 ∨ f.1.1 ≠ -1)) ∧ pairO k f g = (if k = 5 then ((f.1.1, f.1.2 - g.1.2), true) else ((max f.1.1 g.1.1, f.1.2 + g.1.2), true)) := by
    unfold pairO at h1 ⊢
    by_cases q : f.2 = false ∨ g.2 = false
    · rw [if_pos q] at h1; cases h1
    · rw [if_neg q] at h1 ⊢
      by_cases q2 : g.1.1 ≠ -1 ∧ (k = 5 ∨ f.1.1 ≠ -1)
      · rw [if_pos q2] at h1; cases h1
      · rw [if_neg q2]
        refine ⟨?_, ?_, q2, rfl⟩
        · cases e : f.2
          · exact absurd (.inl e) q
          · rfl
        · cases e : g.2
          · exact absurd (.inr e) q
          · rfl
  obtain ⟨hf2, hg2, hn, e⟩ := hb
  obtain ⟨f1, f2, f3⟩ := hf hf2
  obtain ⟨g1, g2, g3⟩ := hg hg2
  rw [e] at h2 h3 ⊢
  have val : (if a.2 ≠ 0 then (0, a.2) else if b.2 ≠ 0 then (0, b.2) else oneP k a.1 b.1).2 = 0 → a.2 = 0 ∧ b.2 = 0 ∧ (if a.2 ≠ 0 then (0, a.2) else if b.2 ≠ 0 then (0, b.2) else oneP k a.1 b.1).1 = onV k a.1 b.1 := by
    intro q
    by_cases a0 : a.2 = 0
    · rw [if_neg (by omega)] at q ⊢
      by_cases b0 : b.2 = 0
      · rw [if_neg (by omega)] at q ⊢
        refine ⟨a0, b0, ?_⟩
        unfold oneP at q ⊢
        by_cases q1 : 7 ≤ k ∧ b.1 = 0
        · omega
        · rw [if_neg q1] at q ⊢
          by_cases q2 : onV k a.1 b.1 < -2147483648 ∨ onV k a.1 b.1 > 2147483647
          · rw [if_pos q2] at q; cases q
          · rw [if_neg q2]
      · rw [if_pos b0] at q; exact absurd q b0
    · rw [if_pos a0] at q; exact absurd q a0
  have am1 : atV vl (-1) = 0 := rfl
  rcases hk with rfl | rfl
  · rw [if_neg (by decide)] at h2 h3 ⊢
    refine ⟨by dsimp only; omega, ⟨h3, h2⟩, fun q => ?_⟩
    obtain ⟨a0, b0, v⟩ := val q
    rw [v]
    show a.1 + b.1 = atV vl (max f.1.1 g.1.1) + (f.1.2 + g.1.2)
    have := f3 a0
    have := g3 b0
    by_cases q1 : g.1.1 = -1
    · rw [show max f.1.1 g.1.1 = f.1.1 by omega]
      rw [q1, am1] at this
      omega
    · have q2 : f.1.1 = -1 := by
        by_cases q3 : f.1.1 = -1
        · exact q3
        · exact absurd ⟨q1, .inr q3⟩ hn
      rw [show max f.1.1 g.1.1 = g.1.1 by omega]
      have f4 := f3 a0
      rw [q2, am1] at f4
      omega
  · rw [if_pos rfl] at h2 h3 ⊢
    refine ⟨f1, ⟨h3, h2⟩, fun q => ?_⟩
    obtain ⟨a0, b0, v⟩ := val q
    rw [v]
    show a.1 - b.1 = atV vl f.1.1 + (f.1.2 - g.1.2)
    have := f3 a0
    have g4 := g3 b0
    have q1 : g.1.1 = -1 := by
      by_cases q3 : g.1.1 = -1
      · exact q3
      · exact absurd ⟨q3, .inl rfl⟩ hn
    rw [q1, am1] at g4
    omega
theorem lin_tell {vars : Int} {m M : Nat} {il vl : List Int} (hv : 0 < vars ∧ vars ≤ 1000) (hm : vars ≤ (m : Int)) (hM : vars ≤ (M : Int)) (hr : RowIn vars il vl) :
    ∀ (d : Nat) (deep : Int) (cs : List Cell), okE d cs = true → LinOk vars (linC d (tameC d deep vars cs)) (evRC d (tameC d deep vars cs) M vl) vl
  | 0, _, _, h => by cases h
  | d + 1, deep, cs, h => by
    rcases tame_cases d deep vars cs h hv with ⟨k, hk, e, o0, o1⟩ | ⟨e, o0⟩ | ⟨x, hx, e⟩ | ⟨n, hn, e⟩
    · rw [e]
      have l0 := tame_len d (deep - 1) vars (kid cs 0)
      have l1 := tame_len d (deep - 1) vars (kid cs 1)
      have t0 := lin_tell hv hm hM hr d (deep - 1) _ o0
      have t1 := lin_tell hv hm hM hr d (deep - 1) _ o1
      have k0 := (eval_tell hv hm hM hr d (deep - 1) _ o0).2
      have k1 := (eval_tell hv hm hM hr d (deep - 1) _ o1).2
      rw [evR_two hk]
      show LinOk vars (linO (ex k 0 0 2 _) (pairO k _ _)) _ vl
      rw [kid_two0 l0, kid_two1 l0 l1]
      unfold linO
      rw [show kK (ex k 0 0 2 (tameC d (deep - 1) vars (kid cs 0) ++ tameC d (deep - 1) vars (kid cs 1))) = k from rfl, show kN (ex k 0 0 2 (tameC d (deep - 1) vars (kid cs 0) ++ tameC d (deep - 1) vars (kid cs 1))) = 2 from rfl, if_neg (by omega), if_neg (by omega)]
      by_cases q : k = 4 ∨ k = 5
      · rw [if_pos ⟨q, rfl⟩]
        exact pair_ok hv.1 q t0 t1 k0 k1
      · rw [if_neg (fun q2 => q q2.1)]
        intro c; simp [farP] at c
    · rw [e]
      show LinOk vars (linO (ex 3 0 0 1 _) _) _ vl
      intro c
      unfold linO at c
      rw [show kK (ex 3 0 0 1 (tameC d (deep - 1) vars (kid cs 0))) = 3 from rfl, if_neg (by omega), if_neg (by omega), if_neg (by omega)] at c
      simp [farP] at c
    · rw [e]
      obtain ⟨h1, h2⟩ := hr x hx.1 hx.2
      rw [evR_var ⟨hx.1, by omega⟩ h2]
      show LinOk vars (farP ((x, 0), true)) _ vl
      intro _
      refine ⟨⟨by show -1 ≤ x; omega, hx.2⟩, ⟨by show (-1099511627776 : Int) ≤ 0; omega, by show (0 : Int) ≤ 1099511627776; omega⟩, fun _ => ?_⟩
      show vl.getD x.toNat 0 = atV vl x + 0
      unfold atV
      rw [if_neg (by omega), Int.add_zero]
    · rw [e]
      have hi : In n := by unfold In; omega
      rw [evR_num hi]
      show LinOk vars (farP ((-1, n), true)) _ vl
      intro _
      refine ⟨⟨by show (-1 : Int) ≤ -1; omega, by show (-1 : Int) < vars; omega⟩, ⟨by show (-1099511627776 : Int) ≤ n; omega, by show n ≤ 1099511627776; omega⟩, fun _ => ?_⟩
      show n = atV vl (-1) + n
      rw [show atV vl (-1) = 0 from rfl, Int.zero_add]

end Go.Proofs.Ytgmciihlmgeecaa.Fn
