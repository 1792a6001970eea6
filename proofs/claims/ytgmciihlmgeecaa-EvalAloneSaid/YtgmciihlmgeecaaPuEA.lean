import Derived.Test.YtgmciihlmgeecaaPuEN
import Derived.Test.YtgmciihlmgeecaaPuZA
import Derived.Test.YtgmciihlmgeecaaZLaws
/- What has a row of numbers has it behind an assignment. Conditions: those that each lemma names. -/
namespace Go.Proofs.Ytgmciihlmgeecaa.Fn
open Go Go.RowKit Go.Proofs.Ytgmciihlmgeecaa.Mt Go.Proofs.Ytgmciihlmgeecaa.Zm
set_option linter.unusedVariables false
set_option linter.unusedSimpArgs false

def vF (v : List Int) (i : Nat) : Int := atP v i
def InV (v : List Int) : Prop := ∀ x ∈ v, -2147483648 ≤ x ∧ x ≤ 2147483647
theorem vF_succ (v : List Int) (i : Nat) : vF v (i + 1) = v.getD i 0 := by
  unfold vF atP
  rw [if_neg (by omega), show ((i + 1 : Nat) : Int) - 1 = i by omega, Int.toNat_natCast]
theorem inV_get {v : List Int} (h : InV v) (j : Nat) : -2147483648 ≤ v.getD j 0 ∧ v.getD j 0 ≤ 2147483647 := by
  by_cases e : j < v.length
  · rw [List.getD_eq_getElem?_getD, List.getElem?_eq_getElem e]
    exact h _ (List.getElem_mem e)
  · rw [List.getD_eq_getElem?_getD, List.getElem?_eq_none (by omega)]; simp
theorem inV_in {v : List Int} (h : InV v) (n : Nat) : InR n (vF v) := by
  refine ⟨rfl, fun i h1 _ => ?_⟩
  obtain ⟨t, rfl⟩ : ∃ t, i = t + 1 := ⟨i - 1, by omega⟩
  rw [vF_succ]; exact inV_get h t
theorem inV_set {v : List Int} (h : InV v) {j : Nat} {x : Int} (hx : -2147483648 ≤ x ∧ x ≤ 2147483647) : InV (v.set j x) := fun y hy => by
  rcases List.mem_or_eq_of_mem_set hy with h' | rfl
  · exact h y h'
  · exact hx
theorem vF_set {v : List Int} {j : Nat} (hj : j < v.length) {x : Int} (i : Nat) : vF (v.set j x) i = if i = j + 1 then x else vF v i := by
  cases i with
  | zero => rw [if_neg (by omega)]; rfl
  | succ t =>
    rw [vF_succ, vF_succ, List.getD_eq_getElem?_getD, List.getElem?_set, List.getD_eq_getElem?_getD]
    by_cases e : j = t
    · subst e; rw [if_pos rfl, if_pos rfl, if_pos hj]; rfl
    · rw [if_neg e, if_neg (by omega)]
theorem has_true {n : Nat} {z : Zo} {v : List Int} (h : Gd n z) (hv : InV v) (hp : Pt n (vF v) z) : hasZ z n v = true := by
  have t := h.trip hp.1
  rw [t]
  have e := has_iff (n := (n : Int)) (D := z.2.2) (l := v) (by rw [← h.hn]; exact h.okN)
  rw [Int.toNat_natCast] at e
  have at' : ∀ i : Nat, -2147483648 ≤ vF v i ∧ vF v i ≤ 2147483647 := fun i => by
    cases i with
    | zero => show -2147483648 ≤ (0 : Int) ∧ (0 : Int) ≤ 2147483647; omega
    | succ t => rw [vF_succ]; exact inV_get hv t
  refine e.2 fun i hi => ⟨at' i, fun j hj => ?_⟩
  have a := at' i
  have b := at' j
  have c := hp.2 i j (by omega) (by omega)
  show wrap64 (vF v i - vF v j) ≤ _
  rw [wrap_in (by omega) (by omega)]
  exact c
theorem has_bound {n : Nat} {z : Zo} {v : List Int} (h : Gd n z) (hp : Pt n (vF v) z) {x y c : Int} (hx : -1 ≤ x ∧ x < n) (hy : -1 ≤ y ∧ y < n) (hc : vF v (x + 1).toNat - vF v (y + 1).toNat ≤ c) (h0 : -1099511627776 ≤ c) : Gd n (boundZ z x y c) ∧ Pt n (vF v) (boundZ z x y c) :=
  ⟨bound_gd h, (bound_pt h hx hy).2 ⟨hp, by omega⟩⟩
theorem has_forget {n : Nat} {z : Zo} {v : List Int} (h : Gd n z) (hl : v.length = n) (hv : InV v) (hp : Pt n (vF v) z) {x b : Int} (hx : 0 ≤ x ∧ x < n) (hb : -2147483648 ≤ b ∧ b ≤ 2147483647) : Gd n (forgetZ z x) ∧ Pt n (vF (v.set x.toNat b)) (forgetZ z x) ∧ InV (v.set x.toNat b) := by
  have iv := inV_set (j := x.toNat) hv hb
  refine ⟨forget_gd h, forget_pt h hx hp (inV_in iv n) fun i hi e => ?_, iv⟩
  rw [vF_set (by omega), if_neg (by omega)]
theorem has_copy {n : Nat} {z : Zo} {v : List Int} (h : Gd n z) (hl : v.length = n) (hv : InV v) (hp : Pt n (vF v) z) {x y b c : Int} (hx : 0 ≤ x ∧ x < n) (hy : -1 ≤ y ∧ y < n) (hb : -1099511627776 ≤ b ∧ b ≤ 1099511627776) (hc : c = vF v (y + 1).toNat + b) (hr : -2147483648 ≤ c ∧ c ≤ 2147483647) : Gd n (copyZ z x y b) ∧ Pt n (vF (v.set x.toNat c)) (copyZ z x y b) ∧ InV (v.set x.toNat c) := by
  have iv := inV_set (j := x.toNat) hv hr
  refine ⟨copy_gd h, copy_pt h hx hy hb hp (inV_in iv n) (fun i hi e => ?_) ?_, iv⟩
  · rw [vF_set (by omega), if_neg (by omega)]
  · rw [vF_set (by omega), if_pos (by omega)]; exact hc
theorem noneZ_gd {n : Nat} (h6 : n ≤ 6) : Gd n (noneZ n) :=
  ⟨capN_id h6, h6, zeroL_len, fun _ => rfl, fun h => (by cases h), fun h => (by cases h), fun h => (by cases h), fun h => (by cases h)⟩
theorem held_gd {n : Nat} {z : Zo} (h : Gd n z) {x lo hi : Int} : Gd n (heldZ z x lo hi) := by
  unfold heldZ
  split
  · exact h
  · split
    · rw [h.hn]; exact noneZ_gd h.n6
    · exact bound_gd (bound_gd h)
theorem has_held {n : Nat} {z : Zo} {v : List Int} (h : Gd n z) (hp : Pt n (vF v) z) {x lo hi : Int} (hx : 0 ≤ x ∧ x < n) (h1 : lo ≤ vF v (x + 1).toNat) (h2 : vF v (x + 1).toNat ≤ hi) (h3 : -4294967296 ≤ lo) (h4 : hi ≤ 4294967296) : Gd n (heldZ z x lo hi) ∧ Pt n (vF v) (heldZ z x lo hi) := by
  have hn := h.hn
  unfold heldZ
  rw [if_neg (by omega), if_neg (by omega), show wrap64 (-lo) = -lo from wrap_in (by omega) (by omega)]
  have v0 : vF v ((-1 : Int) + 1).toNat = 0 := rfl
  have a := has_bound h hp (x := x) (y := -1) (c := hi) (by omega) (by omega) (by rw [v0]; omega) (by omega)
  exact has_bound a.1 a.2 (x := -1) (y := x) (c := -lo) (by omega) (by omega) (by rw [v0]; omega) (by omega)

theorem atV_vF {v : List Int} {x : Int} (h : -1 ≤ x) : atV v x = vF v (x + 1).toNat := by
  unfold atV
  split
  · rename_i e; subst e; rfl
  · rw [show (x + 1).toNat = x.toNat + 1 by omega, vF_succ]
theorem asg_gd {n : Nat} {z : Zo} (h : Gd n z) {m : Nat} (hm : m = n) {x : Int} {e : (Int × Int) × Bool × Bool} {f : (Int × Int) × Bool} : Gd n (asgZ z m x e f) := by
  subst hm
  unfold asgZ
  split
  · exact noneZ_gd h.n6
  · split
    · exact held_gd (copy_gd h)
    · exact held_gd (forget_gd h)
end Go.Proofs.Ytgmciihlmgeecaa.Fn
