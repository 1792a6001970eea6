import Derived.Test.YtlfojobligplkaaWLItvFew
import Derived.Test.YtlfojobligplkaaPuDoes
/- The law ItvFew holds of all numbers. No conditions. -/
namespace Go.Proofs.Ytlfojobligplkaa.Fn
open Go Go.Proofs.Ytlfojobligplkaa.Mt

theorem of_one (v : Int) : ofI v v = if v < -2147483648 ∨ v > 2147483647 then (1, 0) else (v, v) := by
  unfold ofI nI
  (repeat' split) <;> first | rfl | omega | (simp only [Prod.mk.injEq] <;> omega)
theorem out_one (v : Int) : outI v v = decide (v < -2147483648 ∨ v > 2147483647) := by
  unfold outI
  rw [← Bool.decide_or]
theorem min4_one (v : Int) : min4 v v v v = v ∧ max4 v v v v = v := by
  unfold min4 max4 min2 max2
  exact ⟨by (repeat' split) <;> rfl, by (repeat' split) <;> rfl⟩
theorem jI_none (a b : Int) (h : (a = 1 ∧ b = 0) ∨ a ≤ b) : jI 1 0 a b = (a, b) := by
  have e : jI 1 0 a b = nI a b := if_pos (by omega)
  rw [e]
  unfold nI
  rcases h with ⟨rfl, rfl⟩ | h
  · rfl
  · rw [if_neg (by omega)]
theorem jI_none' (p : Int × Int) (h : p = (1, 0) ∨ p.1 ≤ p.2) : jI 1 0 p.1 p.2 = p := by
  rcases h with rfl | h
  · rfl
  · exact jI_none _ _ (.inr h)

theorem quo_one {a c : Int} (ha : In a) (hc : In c) (h0 : c ≠ 0) : quoP a a c c = ((ofI (a.tdiv c) (a.tdiv c)).1, (ofI (a.tdiv c) (a.tdiv c)).2, outI (a.tdiv c) (a.tdiv c)) := by
  have hc' := hc
  unfold In at hc'
  have k : cor f75_0 a a c c = (a.tdiv c, a.tdiv c) := by
    rw [cor_div ha ha, (min4_one _).1, (min4_one _).2]
  unfold quoP
  by_cases hs : c < 0
  · have e1 : mI c c (-2147483648) (-1) = (c, c) := by
      unfold mI nI; rw [if_neg (by omega), if_neg (by omega), show max c (-2147483648) = c by omega, show min c (-1) = c by omega]
    have e2 : mI c c 1 2147483647 = (1, 0) := by
      unfold mI nI; rw [if_neg (by omega), if_pos (by omega)]
    rw [e1, e2]
    have s1 : quoS a a (1, 0, false) (c, c) = _ := if_neg (show ¬ c > c by omega)
    have s2 : ∀ acc, quoS a a acc (1, 0) = acc := fun acc => if_pos (by decide)
    rw [s2, s1]
    dsimp only
    rw [k, jI_none' _ (of_norm _ _)]
    rfl
  · have e1 : mI c c (-2147483648) (-1) = (1, 0) := by
      unfold mI nI; rw [if_neg (by omega), if_pos (by omega)]
    have e2 : mI c c 1 2147483647 = (c, c) := by
      unfold mI nI; rw [if_neg (by omega), if_neg (by omega), show max c 1 = c by omega, show min c 2147483647 = c by omega]
    rw [e1, e2]
    have s1 : quoS a a (1, 0, false) (c, c) = _ := if_neg (show ¬ c > c by omega)
    have s2 : ∀ acc, quoS a a acc (1, 0) = acc := fun acc => if_pos (by decide)
    rw [s2, s1]
    dsimp only
    rw [k, jI_none' _ (of_norm _ _)]
    rfl

/-- Of one number each just that is told, or its error. -/
theorem do_alone {k a c : Int} (hk : 4 ≤ k ∧ k ≤ 8) (ha : In a) (hc : In c) :
    ((oneP k a c).2 = 0 ∧ doP k a a c c = ((oneP k a c).1, (oneP k a c).1, false, false) ∧ In (oneP k a c).1) ∨ ((oneP k a c).2 = 2 ∧ doP k a a c c = (1, 0, true, false)) ∨ ((oneP k a c).2 = 3 ∧ doP k a a c c = (1, 0, false, true)) := by
  have hk' : k = 4 ∨ k = 5 ∨ k = 6 ∨ k = 7 ∨ k = 8 := by omega
  have e : doP k a a c c = _ := if_neg (by omega)
  rw [e]
  have cut : ∀ (v : Int), oneP k a c = (if v < -2147483648 ∨ v > 2147483647 then (0, 2) else (v, 0)) →
      ((oneP k a c).2 = 0 ∧ ((ofI v v).1, (ofI v v).2, outI v v, false) = ((oneP k a c).1, (oneP k a c).1, false, false) ∧ In (oneP k a c).1) ∨ ((oneP k a c).2 = 2 ∧ ((ofI v v).1, (ofI v v).2, outI v v, false) = (1, 0, true, false)) ∨ ((oneP k a c).2 = 3 ∧ ((ofI v v).1, (ofI v v).2, outI v v, false) = (1, 0, false, true)) := by
    intro v ho
    rw [ho, of_one, out_one]
    by_cases hv : v < -2147483648 ∨ v > 2147483647
    · rw [if_pos hv, if_pos hv, decide_eq_true hv]
      exact .inr (.inl ⟨rfl, rfl⟩)
    · rw [if_neg hv, if_neg hv, decide_eq_false hv]
      exact .inl ⟨rfl, rfl, by unfold In; dsimp only; omega⟩
  rcases hk' with rfl | rfl | rfl | rfl | rfl
  · refine cut (a + c) ?_
    unfold oneP; rw [if_neg (by omega)]; rfl
  · refine cut (a - c) ?_
    unfold oneP; rw [if_neg (by omega)]; rfl
  · have m : cor f64_0 a a c c = (a * c, a * c) := by rw [cor_mul ha ha hc hc, (min4_one _).1, (min4_one _).2]
    rw [m]
    refine cut (a * c) ?_
    unfold oneP; rw [if_neg (by omega)]; rfl
  · rw [if_neg (by omega), if_neg (by omega), if_neg (by omega), if_pos (by omega)]
    unfold divP
    by_cases h0 : c = 0
    · subst h0
      have ho : oneP 7 a 0 = (0, 3) := if_pos ⟨by omega, rfl⟩
      rw [ho, if_pos ⟨rfl, rfl⟩]
      exact .inr (.inr ⟨rfl, rfl⟩)
    · rw [if_neg (by omega), if_neg (by omega), quo_one ha hc h0, show (decide (c ≤ 0) && decide (0 ≤ c)) = false by simp; omega]
      refine cut (a.tdiv c) ?_
      unfold oneP; rw [if_neg (by omega)]; rfl
  · rw [if_neg (by omega), if_neg (by omega), if_neg (by omega), if_pos (by omega)]
    unfold divP
    by_cases h0 : c = 0
    · subst h0
      have ho : oneP 8 a 0 = (0, 3) := if_pos ⟨by omega, rfl⟩
      rw [ho, if_pos ⟨rfl, rfl⟩]
      exact .inr (.inr ⟨rfl, rfl⟩)
    · rw [if_neg (by omega), if_pos rfl, show (decide (c ≤ 0) && decide (0 ≤ c)) = false by simp; omega]
      have e2 : restP a a c c = ofI (a.tmod c) (a.tmod c) := if_pos ⟨rfl, rfl⟩
      have hi := (rest_has ha (Int.le_refl a) (Int.le_refl a) (Int.le_refl c) (Int.le_refl c) h0).2
      have hi' := hi
      unfold In at hi'
      have ho : oneP 8 a c = (a.tmod c, 0) := by
        unfold oneP; rw [if_neg (by omega), if_neg (show ¬ (onV 8 a c < -2147483648 ∨ onV 8 a c > 2147483647) by show ¬ (a.tmod c < -2147483648 ∨ a.tmod c > 2147483647); omega)]; rfl
      rw [ho, e2, of_one, if_neg (by omega)]
      exact .inl ⟨rfl, rfl, hi⟩

/-- Some pair has this error. -/
def Err (k : Int) (e : Int) (a b c d : Int) : Prop := ∃ x y, a ≤ x ∧ x ≤ b ∧ c ≤ y ∧ y ≤ d ∧ (oneP k x y).2 = e
/-- So far: all pairs of earlier rows, and of this row those before y. -/
def Sofar (k : Int) (e : Int) (a x c d y : Int) : Prop := Err k e a (x - 1) c d ∨ ∃ y', c ≤ y' ∧ y' < y ∧ (oneP k x y').2 = e

theorem sofar_next {k e a x c d y : Int} (hy : c ≤ y) : Sofar k e a x c d (y + 1) ↔ (Sofar k e a x c d y ∨ (oneP k x y).2 = e) := by
  unfold Sofar
  constructor
  · rintro (h | ⟨y', h1, h2, h3⟩)
    · exact .inl (.inl h)
    · by_cases hh : y' = y
      · subst hh; exact .inr h3
      · exact .inl (.inr ⟨y', h1, by omega, h3⟩)
  · rintro ((h | ⟨y', h1, h2, h3⟩) | h)
    · exact .inl h
    · exact .inr ⟨y', h1, by omega, h3⟩
    · exact .inr ⟨y, hy, by omega, h⟩
theorem sofar_row {k e a x c d : Int} (hx : a ≤ x) : Err k e a x c d ↔ Sofar k e a x c d (d + 1) := by
  unfold Sofar Err
  constructor
  · rintro ⟨x', y', h1, h2, h3, h4, h5⟩
    by_cases hh : x' = x
    · subst hh; exact .inr ⟨y', h3, by omega, h5⟩
    · exact .inl ⟨x', y', h1, by omega, h3, h4, h5⟩
  · rintro (⟨x', y', h1, h2, h3, h4, h5⟩ | ⟨y', h3, h4, h5⟩)
    · exact ⟨x', y', h1, by omega, h3, h4, h5⟩
    · exact ⟨x, y', hx, by omega, h3, by omega, h5⟩
theorem sofar_first {k e a x c d : Int} : Sofar k e a x c d c ↔ Err k e a (x - 1) c d := by
  unfold Sofar
  constructor
  · rintro (h | ⟨y', h1, h2, _⟩)
    · exact h
    · omega
  · exact .inl

theorem round7 {o z : Bool} {f0 f1 zl zh y : Int} {k3 : Bool × Bool × Int → Prop} (h0 : f1 = 0 → zl ≤ f0 ∧ f0 ≤ zh) (hk : k3 (o || f1 == 2, z || f1 == 3, y)) :
    (bif o then (bif z then (bif f1 == 0 then ((!f27_0 zl zh f0) = false ∧ (k3 (true, true, y))) else (k3 (true, true, y))) else (bif f1 == 0 then ((!f27_0 zl zh f0) = false ∧ (k3 (true, (f1 == 3), y))) else (k3 (true, (f1 == 3), y))))
      else (bif z then (bif f1 == 0 then ((!f27_0 zl zh f0) = false ∧ (k3 ((f1 == 2), true, y))) else (k3 ((f1 == 2), true, y))) else (bif f1 == 0 then ((!f27_0 zl zh f0) = false ∧ (k3 ((f1 == 2), (f1 == 3), y))) else (k3 ((f1 == 2), (f1 == 3), y))))) := by
  have fin : ∀ {A : Prop}, A → (bif f1 == 0 then ((!f27_0 zl zh f0) = false ∧ A) else A) := fun hA =>
    cond_i (fun q => ⟨by rw [(has_iff' _ _ _).2 (h0 (by simpa using q))]; rfl, hA⟩) (fun _ => hA)
  cases o <;> cases z <;> exact fin hk

theorem err_zero {k a b c d : Int} (hk : 4 ≤ k ∧ k ≤ 8) (h : a ≤ b) : Err k 3 a b c d ↔ (7 ≤ k ∧ c ≤ 0 ∧ 0 ≤ d) := by
  unfold Err
  constructor
  · rintro ⟨x, y, h1, h2, h3, h4, h5⟩
    unfold oneP at h5
    split at h5
    · omega
    · split at h5 <;> cases h5
  · rintro ⟨h1, h2, h3⟩
    refine ⟨a, 0, Int.le_refl _, h, h2, h3, ?_⟩
    have e : oneP k a 0 = (0, 3) := if_pos ⟨h1, rfl⟩
    rw [e]

theorem err_over {k a b c d : Int} (hk : 4 ≤ k ∧ k ≤ 8) (ha : In a) (hb : In b) (hc : In c) (hd : In d) (h : a ≤ b) (h' : c ≤ d) (hx : k ≤ 5 ∨ (a = b ∧ c = d)) : (doP k a b c d).2.2.1 = true ↔ Err k 2 a b c d := by
  constructor
  · intro ho
    by_cases hal : a = b ∧ c = d
    · obtain ⟨rfl, rfl⟩ := hal
      rcases do_alone hk ha hc with ⟨_, h2, _⟩ | ⟨h1, _⟩ | ⟨_, h2⟩
      · rw [h2] at ho; cases ho
      · exact ⟨a, c, Int.le_refl _, Int.le_refl _, Int.le_refl _, Int.le_refl _, h1⟩
      · rw [h2] at ho; cases ho
    · have hk5 : k = 4 ∨ k = 5 := by omega
      have e : doP k a b c d = _ := if_neg (by omega)
      rw [e] at ho
      have err : ∀ x y, (onV k x y < -2147483648 ∨ onV k x y > 2147483647) → (oneP k x y).2 = 2 := fun x y hv => by
        unfold oneP; rw [if_neg (by omega), if_pos hv]
      rcases hk5 with rfl | rfl
      · have ho : outI (a + c) (b + d) = true := ho
        unfold outI at ho
        rw [Bool.or_eq_true, decide_eq_true_eq, decide_eq_true_eq] at ho
        rcases ho with ho | ho
        · exact ⟨a, c, by omega, h, by omega, h', err a c (.inl ho)⟩
        · exact ⟨b, d, h, by omega, h', by omega, err b d (.inr ho)⟩
      · have ho : outI (a - d) (b - c) = true := ho
        unfold outI at ho
        rw [Bool.or_eq_true, decide_eq_true_eq, decide_eq_true_eq] at ho
        rcases ho with ho | ho
        · exact ⟨a, d, by omega, h, h', by omega, err a d (.inl ho)⟩
        · exact ⟨b, c, h, by omega, by omega, h', err b c (.inr ho)⟩
  · rintro ⟨x, y, h1, h2, h3, h4, h5⟩
    exact (do_has hk ha hb hc hd (by unfold In at *; omega) (by unfold In at *; omega) h1 h2 h3 h4).2.1 h5

end Go.Proofs.Ytlfojobligplkaa.Fn
