import Derived.Test.YtlfojobligplkaaWLItvWidens
import Derived.Test.YtlfojobligplkaaPuSets
import Derived.Test.YtlfojobligplkaaMtRow2
/- The law ItvWidens holds of all rows. No conditions. -/
namespace Go.Proofs.Ytlfojobligplkaa.Fn
open Go Go.Proofs.Ytlfojobligplkaa.Mt

/-- Each of the changes that may still be. -/
def left (a b : Int) : Int := if a > b then 3 else (if a = -2147483648 then 0 else 1) + (if b = 2147483647 then 0 else 1)

theorem widen_round {a b x y : Int} (hx : In x) (hy : In y) (hab : (a = 1 ∧ b = 0) ∨ (In a ∧ In b ∧ a ≤ b)) :
    let j := jI a b x y
    let v := wI a b j.1 j.2
    ((v.1 = 1 ∧ v.2 = 0) ∨ (In v.1 ∧ In v.2 ∧ v.1 ≤ v.2)) ∧ (x > y ∨ (v.1 ≤ x ∧ y ≤ v.2)) ∧ (a > b ∨ (v.1 ≤ a ∧ b ≤ v.2)) ∧ ((v.1 = a ∧ v.2 = b) ∨ left v.1 v.2 + 1 ≤ left a b) := by
  unfold In at *
  dsimp only
  rcases hab with ⟨rfl, rfl⟩ | ⟨h1, h2, h3⟩
  · have ej : jI 1 0 x y = nI x y := if_pos (by omega)
    have ew : wI 1 0 (nI x y).1 (nI x y).2 = nI (nI x y).1 (nI x y).2 := if_pos (by omega)
    rw [ej, ew]
    by_cases h : x > y
    · have e : nI x y = (1, 0) := if_pos h
      rw [e]
      exact ⟨.inl ⟨rfl, rfl⟩, .inl h, .inl (by omega), .inl ⟨rfl, rfl⟩⟩
    · have e : nI x y = (x, y) := if_neg h
      rw [e]
      dsimp only
      rw [e]
      refine ⟨.inr ⟨hx, hy, by omega⟩, .inr ⟨by omega, by omega⟩, .inl (by omega), .inr ?_⟩
      unfold left
      rw [if_neg h, if_pos (show (1 : Int) > 0 by omega)]
      (repeat' split) <;> omega
  · by_cases h : x > y
    · have ej : jI a b x y = (a, b) := by unfold jI; rw [if_neg (by omega), if_pos h]
      have ew : wI a b a b = (a, b) := by unfold wI; rw [if_neg (by omega), if_neg (by omega), if_neg (by omega), if_neg (by omega)]
      rw [ej]; dsimp only; rw [ew]
      exact ⟨.inr ⟨h1, h2, h3⟩, .inl h, .inr ⟨by omega, by omega⟩, .inl ⟨rfl, rfl⟩⟩
    · have ej : jI a b x y = (min a x, max b y) := by unfold jI; rw [if_neg (by omega), if_neg (by omega)]
      have ew : wI a b (min a x) (max b y) = ((if min a x < a then -2147483648 else a), (if max b y > b then 2147483647 else b)) := by unfold wI; rw [if_neg (by omega), if_neg (by omega)]
      rw [ej]; dsimp only; rw [ew]; dsimp only
      have m1 : min a x ≤ a ∧ min a x ≤ x ∧ (min a x = a ∨ min a x = x) := by omega
      have m2 : b ≤ max b y ∧ y ≤ max b y ∧ (max b y = b ∨ max b y = y) := by omega
      clear ej ew
      generalize min a x = m at *
      generalize max b y = n at *
      by_cases c1 : m < a
      · by_cases c2 : n > b
        · rw [if_pos c1, if_pos c2]
          refine ⟨.inr ⟨by omega, by omega, by omega⟩, .inr ⟨by omega, by omega⟩, .inr ⟨by omega, by omega⟩, .inr ?_⟩
          unfold left
          (repeat' split) <;> omega
        · rw [if_pos c1, if_neg c2]
          refine ⟨.inr ⟨by omega, by omega, by omega⟩, .inr ⟨by omega, by omega⟩, .inr ⟨by omega, by omega⟩, .inr ?_⟩
          unfold left
          (repeat' split) <;> omega
      · by_cases c2 : n > b
        · rw [if_neg c1, if_pos c2]
          refine ⟨.inr ⟨by omega, by omega, by omega⟩, .inr ⟨by omega, by omega⟩, .inr ⟨by omega, by omega⟩, .inr ?_⟩
          unfold left
          (repeat' split) <;> omega
        · rw [if_neg c1, if_neg c2]
          exact ⟨.inr ⟨h1, h2, h3⟩, .inr ⟨by omega, by omega⟩, .inr ⟨by omega, by omega⟩, .inl ⟨rfl, rfl⟩⟩

theorem f11_pure (n : Nat) (l : List Int) (hl : l.length = n * 2) : f11_wp n (ic .i64 l) (fun r' => r' = tt) := by
  have e30 : ∀ a b, f30_0 a b = a := fun _ _ => rfl
  have e31 : ∀ a b, f30_1 a b = b := fun _ _ => rfl
  unfold f11_wp
  refine LoopP.ind (I := fun z => 0 ≤ z.2.1 ∧ z.2.1 ≤ 60 ∧ ((z.2.2.1 = 1 ∧ z.2.2.2 = 0) ∨ (In z.2.2.1 ∧ In z.2.2.2 ∧ z.2.2.1 ≤ z.2.2.2)) ∧ 0 ≤ z.1 ∧ z.1 + left z.2.2.1 z.2.2.2 ≤ 3) (μ := fun z => (60 - z.2.1).toNat) ?_
    ⟨by simp, by simp, .inl ⟨rfl, rfl⟩, by simp, by decide⟩
  rintro ⟨ch, i, a, b⟩ k0 ⟨h0, h1, hab, hc, hleft⟩ hk
  dsimp only at h0 h1 hab hc hleft ⊢
  have hpos : 0 ≤ left a b := by unfold left; (repeat' split) <;> omega
  have fin : (fun r' => r' = tt) (Ret.mk (.one (.v (.bool (decide (ch ≤ 3))))) []) := leaf (by simp; omega)
  refine cond_i (fun q1 => cond_i (fun q2 => ?_) (fun _ => fin)) (fun _ => fin)
  have q1 := of_decide_eq_true q1
  have q2 := of_decide_eq_true q2
  have hi : i.toNat * 2 + 1 < l.length := by omega
  have g0 := ic_get (k := .i64) (l := l) (j := i.toNat * 2) (by omega)
  have g1 := ic_get (k := .i64) (l := l) (j := i.toNat * 2 + 1) (by omega)
  rw [g0, g1]
  simp only [ic_len, intC, okK, isInt]
  generalize l.getD (i.toNat * 2) 0 = p
  generalize l.getD (i.toNat * 2 + 1) 0 = q
  have hx := bend0 p q
  have hy := bend1 p q
  generalize f31_0 p q = x at *
  generalize f31_1 p q = y at *
  simp only [e30, e31, (join_eq _ _ _ _).1, (join_eq _ _ _ _).2, (widen_eq _ _ _ _).1, (widen_eq _ _ _ _).2, within_eq]
  have w1 : IntKind.i64.wrap (i + 1) = i + 1 := i64_id (by omega) (by omega)
  have w2 : IntKind.i64.wrap (ch + 1) = ch + 1 := i64_id (by omega) (by omega)
  obtain ⟨R1, R2, R3, R4⟩ := widen_round hx hy hab
  rw [w1, w2]
  generalize wI a b (jI a b x y).1 (jI a b x y).2 = v at *
  refine ck_i (by simp; omega) (ck_i (by simp; omega) ⟨by rw [decide_eq_true R2]; rfl, by rw [decide_eq_true R3]; rfl, ?_⟩)
  refine cond_i (fun q => hk _ ⟨by simp only []; omega, by simp only []; omega, R1, by simp only []; omega, ?_⟩ (by simp only []; omega)) (fun q => hk _ ⟨by simp only []; omega, by simp only []; omega, R1, hc, ?_⟩ (by simp only []; omega))
  · rcases R4 with ⟨r1, r2⟩ | r
    · rw [r1, r2] at q; simp at q
    · show ch + 1 + left v.1 v.2 ≤ 3; omega
  · have q : v.1 = a ∧ v.2 = b := by simpa using q
    show ch + left v.1 v.2 ≤ 3
    rw [q.1, q.2]; exact hleft

theorem f11_true (n : Nat) (cs : List Cell) {D : Nat} (h : TyC Try.prog D 30 [.sl n cs]) : f11_wp n cs (fun r' => r' = tt) := by
  obtain ⟨l, rfl, h2, _⟩ := row_ints (k := .i64) (S := [3, 24, 29]) (s := 2) (by kernel_rfl) Try.underlying30 (by decide) (by kernel_rfl) (by decide) h
  exact f11_pure n l h2

end Go.Proofs.Ytlfojobligplkaa.Fn
