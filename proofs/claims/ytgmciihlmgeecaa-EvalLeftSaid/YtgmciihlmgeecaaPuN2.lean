import Derived.Test.YtgmciihlmgeecaaPuN1
import Derived.Test.YtgmciihlmgeecaaWNB
/- Functions beside Nums; bounds that hold a variable: what is told of each is so. Conditions: those that each lemma names. -/
namespace Go.Proofs.Ytgmciihlmgeecaa.Fn
open Go Go.RowKit Go.Proofs.Ytgmciihlmgeecaa.Mt Go.Proofs.Ytgmciihlmgeecaa.Zm
set_option linter.unusedVariables false
set_option linter.unusedSimpArgs false

theorem f39_spec (a b : Int) : f39_wp a b (fun r' => r' = itRet (normP a b)) := by
  unfold f39_wp normP
  refine cond_i (fun q => ?_) (fun q => ?_)
  · rw [if_pos (of_decide_eq_true q)]; rfl
  · rw [if_neg (of_decide_eq_false q)]; rfl
theorem cx39_ok : CtxOk Try.prog cx39.q.ctx := ctx_nil
theorem sum39_ok : ∀ vs r, sum39 vs = some (true, r) → SoundAt Try.prog 39 vs r := by
  intro vs r h
  unfold sum39 at h
  split at h
  · simp only [Option.some.injEq, Prod.mk.injEq, Bool.and_eq_true] at h
    obtain ⟨h0, rfl⟩ := h
    obtain ⟨x0, y0, rfl⟩ := pair_elim h0
    (try simp only [zO_ic])
    exact f39_sound _ _ cx39_ok (f39_spec x0 y0)
  · cases h
theorem cx40_ok : CtxOk Try.prog cx40.q.ctx := ctx_nil
theorem f40_spec (a b : Int) : f40_wp a b (fun r' => r' = itRet (bI a, bI b)) := rfl
theorem sum40_ok : ∀ vs r, sum40 vs = some (true, r) → SoundAt Try.prog 40 vs r := by
  intro vs r h
  unfold sum40 at h
  split at h
  · simp only [Option.some.injEq, Prod.mk.injEq, Bool.and_eq_true] at h
    obtain ⟨h0, rfl⟩ := h
    obtain ⟨x0, y0, rfl⟩ := pair_elim h0
    (try simp only [zO_ic])
    exact f40_sound _ _ cx40_ok (f40_spec x0 y0)
  · cases h
theorem cx43_ok : CtxOk Try.prog cx43.q.ctx := (ctx_cons (g := 42) (ctx_cons (g := 53) (ctx_cons (g := 41) (ctx_cons (g := 52) (ctx_cons (g := 60) (ctx_cons (g := 45) (ctx_cons (g := 57) ctx_nil (by kernel_rfl) sum57_ok) (by kernel_rfl) sum45_ok) (by kernel_rfl) sum60_ok) (by kernel_rfl) sum52_ok) (by kernel_rfl) sum41_ok) (by kernel_rfl) sum53_ok) (by kernel_rfl) sum42_ok)
theorem sum43_ok : ∀ vs r, sum43 vs = some (true, r) → SoundAt Try.prog 43 vs r := by
  intro vs r h
  unfold sum43 at h
  split at h
  · simp only [Option.some.injEq, Prod.mk.injEq, true_and] at h
    subst h
    exact f43_sound cx43_ok rfl
  · cases h

section
variable {n : Nat} {z w : Zo} {P P' : Mx → Prop}
theorem bound_repI (h : Rep n P z) {x y b : Int} {i j : Nat} (hx : x = (i : Int) - 1) (hy : y = (j : Int) - 1) (hi : i ≤ n) (hj : j ≤ n) (hb : -1099511627776 ≤ b) : Rep n (fun m => P m ∧ m i j ≤ b) (boundZ z x y b) := by
  have r := bound_rep h (x := x) (y := y) (b := b) (by omega) (by omega)
  rw [show (x + 1).toNat = i by omega, show (y + 1).toNat = j by omega, show max b (-1099511627776) = b by omega] at r
  exact r
theorem wrap_neg {a : Int} (h : -9223372036854775807 ≤ a ∧ a ≤ 9223372036854775807) : wrap64 (-a) = -a := wrap_in (by omega) (by omega)
/-- A variable is one of an Itv. -/
theorem held_rep (h : Rep n P z) {x lo hi : Int} {i : Nat} (hx : x = (i : Int) - 1) (h1 : 1 ≤ i) (hi' : i ≤ n) (hl : lo ≤ hi) (h2 : -1099511627776 ≤ hi) (h3 : lo ≤ 1099511627776) (h4 : -1099511627776 ≤ lo) : Rep n (fun m => (P m ∧ m i 0 ≤ hi) ∧ m 0 i ≤ -lo) (heldZ z x lo hi) := by
  have hn := h.1.hn
  unfold heldZ
  rw [if_neg (by omega), if_neg (by omega), wrap_neg (by omega)]
  exact bound_repI (bound_repI h hx (j := 0) (by omega) hi' (by omega) h2) (i := 0) (by omega) hx (by omega) hi' (by omega)
theorem rep_within (h : Rep n P z) (h' : Rep n P' w) (hs : ∀ m, Clo n m → P m → P' m) : withinZ z w = true := by
  rw [Zm.within_iff h.1 h'.1]
  cases hb : z.2.1 with
  | true => exact .inl rfl
  | false =>
    have p : P (g z.2.2) := (h.2.2 hb _ (h.1.clo hb)).2 (Lem.refl _ _)
    have p' := hs _ (h.1.clo hb) p
    cases hw : w.2.1 with
    | true => exact absurd p' (h'.2.1 hw _ (h.1.clo hb))
    | false => exact .inr ⟨rfl, rfl, (h'.2.2 hw _ (h.1.clo hb)).1 p'⟩
end
/-- Three by three. -/
def mx3 (a01 a02 a10 a12 a20 a21 : Int) : Mx := fun i j => if i = j then 0 else if i = 0 then (if j = 1 then a01 else a02) else if i = 1 then (if j = 0 then a10 else a12) else (if j = 0 then a20 else a21)
theorem mx3_clo {a01 a02 a10 a12 a20 a21 : Int} (h : 0 ≤ a01 + a10 ∧ 0 ≤ a02 + a20 ∧ 0 ≤ a12 + a21 ∧ a01 ≤ a02 + a21 ∧ a02 ≤ a01 + a12 ∧ a10 ≤ a12 + a20 ∧ a12 ≤ a10 + a02 ∧ a20 ≤ a21 + a10 ∧ a21 ≤ a20 + a01) : Clo 2 (mx3 a01 a02 a10 a12 a20 a21) := by
  refine ⟨fun i hi => by unfold mx3; rw [if_pos rfl]; exact Int.le_refl _, fun i j k hi hj hk => ?_⟩
  have ei : i = 0 ∨ i = 1 ∨ i = 2 := by omega
  have ej : j = 0 ∨ j = 1 ∨ j = 2 := by omega
  have ek : k = 0 ∨ k = 1 ∨ k = 2 := by omega
  rcases ei with rfl | rfl | rfl <;> rcases ej with rfl | rfl | rfl <;> rcases ek with rfl | rfl | rfl <;> simp [mx3] <;> omega
theorem lem3 {m : Mx} {a01 a02 a10 a12 a20 a21 : Int} (hd : ∀ i, i ≤ 2 → m i i ≤ 0) : Lem 2 m (mx3 a01 a02 a10 a12 a20 a21) ↔ m 0 1 ≤ a01 ∧ m 0 2 ≤ a02 ∧ m 1 0 ≤ a10 ∧ m 1 2 ≤ a12 ∧ m 2 0 ≤ a20 ∧ m 2 1 ≤ a21 := by
  constructor
  · intro h
    have e1 := h 0 1 (by omega) (by omega)
    have e2 := h 0 2 (by omega) (by omega)
    have e3 := h 1 0 (by omega) (by omega)
    have e4 := h 1 2 (by omega) (by omega)
    have e5 := h 2 0 (by omega) (by omega)
    have e6 := h 2 1 (by omega) (by omega)
    simp [mx3] at e1 e2 e3 e4 e5 e6
    exact ⟨e1, e2, e3, e4, e5, e6⟩
  · rintro ⟨e1, e2, e3, e4, e5, e6⟩ i j hi hj
    have ei : i = 0 ∨ i = 1 ∨ i = 2 := by omega
    have ej : j = 0 ∨ j = 1 ∨ j = 2 := by omega
    have d0 := hd 0 (by omega)
    have d1 := hd 1 (by omega)
    have d2 := hd 2 (by omega)
    rcases ei with rfl | rfl | rfl <;> rcases ej with rfl | rfl | rfl <;> simp [mx3] <;> assumption

end Go.Proofs.Ytgmciihlmgeecaa.Fn
