import Derived.Test.YtgmciihlmgeecaaZLaws
/- Zones whose variables are bound one by one. Conditions: those that each lemma names. -/
namespace Go.Proofs.Ytgmciihlmgeecaa.Zm
open Go Go.RowKit
set_option linter.unusedVariables false

def boxM (U L : Nat → Int) : Mx := fun i j => if i = j then 0 else (if i = 0 then 0 else U i) + (if j = 0 then 0 else L j)
structure IsBox (n : Nat) (U L : Nat → Int) (z : Zo) : Prop where
  gd : Gd n z
  some : z.2.1 = false
  eq : ∀ i j, i ≤ n → j ≤ n → g z.2.2 i j = boxM U L i j
def updF (f : Nat → Int) (r : Nat) (v : Int) : Nat → Int := fun i => if i = r then v else f i

section
variable {n : Nat} {U L : Nat → Int} {z : Zo} {P : Mx → Prop}
theorem boxM_clo (h : ∀ i, 1 ≤ i → i ≤ n → 0 ≤ U i + L i) : Clo n (boxM U L) := by
  refine ⟨fun i hi => by unfold boxM; rw [if_pos rfl]; exact Int.le_refl _, fun i j k hi hj hk => ?_⟩
  unfold boxM
  have hi' : i ≠ 0 → 0 ≤ U i + L i := fun e => h i (by omega) hi
  have hk' : k ≠ 0 → 0 ≤ U k + L k := fun e => h k (by omega) hk
  have hj' : j ≠ 0 → 0 ≤ U j + L j := fun e => h j (by omega) hj
  by_cases e1 : i = j
  · subst e1
    rw [if_pos rfl]
    by_cases e2 : i = k
    · subst e2; rw [if_pos rfl]; omega
    · rw [if_neg e2, if_neg (Ne.symm e2)]
      by_cases e3 : i = 0 <;> by_cases e4 : k = 0 <;> simp only [e3, e4, if_true, if_false] <;> (try have := hi' e3) <;> (try have := hk' e4) <;> omega
  · rw [if_neg e1]
    by_cases e2 : i = k
    · subst e2; rw [if_pos rfl, if_neg e1]; omega
    · by_cases e5 : k = j
      · subst e5; rw [if_pos rfl, if_neg e2]; omega
      · rw [if_neg e2, if_neg e5]
        by_cases e3 : k = 0
        · simp only [e3, if_true]; omega
        · have := hk' e3
          simp only [e3, if_false]; omega
theorem lem_box {m : Mx} (hm : Clo n m) : Lem n m (boxM U L) ↔ (∀ i, i ≤ n → m i i ≤ 0) ∧ ∀ i, 1 ≤ i → i ≤ n → m i 0 ≤ U i ∧ m 0 i ≤ L i := by
  constructor
  · intro h
    refine ⟨fun i hi => by have := h i i hi hi; unfold boxM at this; rw [if_pos rfl] at this; exact this, fun i h1 hi => ⟨?_, ?_⟩⟩
    · have := h i 0 hi (by omega)
      unfold boxM at this
      rw [if_neg (by omega), if_neg (by omega), if_pos rfl] at this
      omega
    · have := h 0 i (by omega) hi
      unfold boxM at this
      rw [if_neg (by omega), if_pos rfl, if_neg (by omega)] at this
      omega
  · rintro ⟨hd, hr⟩ i j hi hj
    have t := hm.2 i j 0 hi hj (by omega)
    have d0 := hd 0 (by omega)
    unfold boxM
    by_cases e : i = j
    · subst e; rw [if_pos rfl]; exact hd i hi
    · rw [if_neg e]
      by_cases e3 : i = 0
      · subst e3
        have := (hr j (by omega) hj).2
        rw [if_pos rfl, if_neg (by omega)]; omega
      · have a := (hr i (by omega) hi).1
        by_cases e4 : j = 0
        · subst e4
          rw [if_neg e3, if_pos rfl]; omega
        · have b := (hr j (by omega) hj).2
          rw [if_neg e3, if_neg e4]; omega
/-- A zone that is the numbers of a box. -/
theorem Rep.box (h : Rep n P z) (hc : ∀ i, 1 ≤ i → i ≤ n → 0 ≤ U i + L i) (hs : ∀ m, Clo n m → (P m ↔ (∀ i, i ≤ n → m i i ≤ 0) ∧ ∀ i, 1 ≤ i → i ≤ n → m i 0 ≤ U i ∧ m 0 i ≤ L i)) : IsBox n U L z := by
  obtain ⟨nb, he⟩ := h.eq (boxM_clo hc) fun m hm => (hs m hm).trans (lem_box hm).symm
  exact ⟨h.1, nb, he⟩
theorem IsBox.rep (h : IsBox n U L z) : Rep n (fun m => (∀ i, i ≤ n → m i i ≤ 0) ∧ ∀ i, 1 ≤ i → i ≤ n → m i 0 ≤ U i ∧ m 0 i ≤ L i) z :=
  h.gd.rep.of fun m hm => by
    rw [← lem_box hm]
    constructor
    · rintro ⟨_, hl⟩ i j hi hj; rw [← h.eq i j hi hj]; exact hl i j hi hj
    · intro hl; exact ⟨h.some, fun i j hi hj => by rw [h.eq i j hi hj]; exact hl i j hi hj⟩
theorem IsBox.up (h : IsBox n U L z) {i : Nat} (h1 : 1 ≤ i) (hi : i ≤ n) : g z.2.2 i 0 = U i ∧ g z.2.2 0 i = L i := by
  rw [h.eq i 0 hi (by omega), h.eq 0 i (by omega) hi]
  unfold boxM
  rw [if_neg (by omega), if_neg (by omega), if_pos rfl, if_neg (by omega), if_pos rfl, if_neg (by omega)]
  exact ⟨by omega, by omega⟩
theorem IsBox.forget (h : IsBox n U L z) {x : Int} (hx : 0 ≤ x ∧ x < n) : IsBox n (updF U (x + 1).toNat 2147483647) (updF L (x + 1).toNat 2147483648) (forgetZ z x) := by
  obtain ⟨f1, f2, f3⟩ := forget_rep h.gd h.some hx
  refine ⟨f1, f2, fun i j hi hj => ?_⟩
  rw [f3 i j hi hj]
  unfold forM
  rw [h.eq 0 j (by omega) hj, h.eq i 0 hi (by omega), h.eq i j hi hj]
  unfold boxM updF
  have r0 : (x + 1).toNat ≠ 0 := by omega
  by_cases c1 : i = (x + 1).toNat
  · subst c1
    rw [if_pos rfl]
    by_cases c2 : j = (x + 1).toNat
    · subst c2; rw [if_pos rfl, if_pos rfl]
    · rw [if_neg c2, if_neg (Ne.symm c2), if_neg r0, if_pos rfl]
      by_cases c3 : j = 0
      · subst c3; simp
      · rw [if_neg (Ne.symm c3), if_pos rfl, if_neg c3, if_neg c2]; omega
  · rw [if_neg c1]
    by_cases c2 : j = (x + 1).toNat
    · subst c2
      rw [if_pos rfl, if_neg c1, if_neg r0, if_pos rfl]
      by_cases c3 : i = 0
      · subst c3; simp
      · rw [if_neg c3, if_neg c3, if_pos rfl, if_neg c1]; omega
    · rw [if_neg c2, if_neg c1, if_neg c2]
theorem zeros_box (h : n ≤ 6) : IsBox n (fun _ => 0) (fun _ => 0) (zerosZ n) :=
  ⟨zeros_gd h, rfl, fun i j hi hj => by rw [zeros_g]; unfold boxM; split <;> (try rfl); split <;> split <;> rfl⟩
end
end Go.Proofs.Ytgmciihlmgeecaa.Zm
