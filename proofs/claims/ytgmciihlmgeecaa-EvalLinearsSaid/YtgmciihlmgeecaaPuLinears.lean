import Derived.Test.YtgmciihlmgeecaaPuE6
import Derived.Test.YtgmciihlmgeecaaPuE5
import Derived.Test.YtgmciihlmgeecaaWLEvalLinears
/- EvalLinears: the law's function tells true. Conditions: none beyond its arguments' types. -/
namespace Go.Proofs.Ytgmciihlmgeecaa.Fn
open Go Go.RowKit Go.Proofs.Ytgmciihlmgeecaa.Mt Go.Proofs.Ytgmciihlmgeecaa.Zm
set_option linter.unusedVariables false
set_option linter.unusedSimpArgs false

/-- Two answers that are the same. -/
def SameL (f g : (Int × Int) × Bool) : Prop := f.2 = g.2 ∧ (f.2 = true → f = g ∧ -1 ≤ f.1.1) ∧ (g.2 = false → g = ((0, 0), false))
theorem fin_same {v s : Int} (h : -1 ≤ v) : SameL (farP ((v, s), true)) (finR ((v, s), true)) := by
  unfold farP finR
  by_cases h1 : s ≤ 1099511627776
  · by_cases h2 : -1099511627776 ≤ s
    · rw [if_neg (by simp; omega)]
      simp only [h1, h2, decide_true, Bool.and_true]
      exact ⟨rfl, fun _ => ⟨rfl, h⟩, fun x => (by cases x)⟩
    · rw [if_pos (.inr (.inr (by dsimp only; omega)))]
      simp only [h1, h2, decide_true, decide_false, Bool.and_false]
      exact ⟨rfl, fun x => (by cases x), fun _ => rfl⟩
  · rw [if_pos (.inr (.inl (by dsimp only; omega)))]
    simp only [h1, decide_false, Bool.and_false, Bool.false_and]
    exact ⟨rfl, fun x => (by cases x), fun _ => rfl⟩
theorem no_same (p : Int × Int) : SameL (farP (p, false)) (finR (p, false)) := ⟨rfl, fun x => (by cases x), fun _ => rfl⟩
theorem no_same2 (p : Int × Int) : SameL (farP (p, false)) (finR ((0, 0), false)) := ⟨rfl, fun x => (by cases x), fun _ => rfl⟩
theorem pair_same {k : Int} (hk : k = 4 ∨ k = 5) {f g f' g' : (Int × Int) × Bool} (h : SameL f g) (h' : SameL f' g') : SameL (farP (pairO k f f')) (finR (refP k g g')) := by
  obtain ⟨a1, a2, a3⟩ := h
  obtain ⟨b1, b2, b3⟩ := h'
  unfold pairO refP
  by_cases q : f.2 = true
  · by_cases q' : f'.2 = true
    · obtain ⟨rfl, c1⟩ := a2 q
      obtain ⟨rfl, c2⟩ := b2 q'
      rw [if_neg (by rw [q, q']; simp)]
      by_cases x : f'.1.1 ≠ -1 ∧ (k = 5 ∨ f.1.1 ≠ -1)
      · rw [if_pos x, if_pos]
        · exact no_same _
        · rcases x.2 with e | e
          · exact .inr (.inr (.inr ⟨e, by omega⟩))
          · exact .inr (.inr (.inl ⟨by omega, by omega⟩))
      · have y : ¬ (f.2 = false ∨ f'.2 = false ∨ (f.1.1 ≥ 0 ∧ f'.1.1 ≥ 0) ∨ (k = 5 ∧ f'.1.1 ≥ 0)) := by
          rw [q, q']
          rintro (z | z | z | z)
          · cases z
          · cases z
          · exact x ⟨by omega, .inr (by omega)⟩
          · exact x ⟨by omega, .inl z.1⟩
        rw [if_neg x, if_neg y]
        by_cases k5 : k = 5
        · rw [if_pos k5, if_pos k5, show max f.1.1 f'.1.1 = f.1.1 by omega]
          exact fin_same c1
        · rw [if_neg k5, if_neg k5]
          exact fin_same (by omega)
    · have q' : f'.2 = false := by simpa using q'
      rw [if_pos (.inr q'), if_pos (.inr (.inl (by rw [← b1, q'])))]
      exact no_same _
  · have q : f.2 = false := by simpa using q
    rw [if_pos (.inl q), if_pos (.inl (by rw [← a1, q]))]
    exact no_same _
theorem linO_ex {k n x : Int} {m : Nat} {l : List Cell} {p : (Int × Int) × Bool} : linO (ex k n x m l) p = farP (if k = 1 ∧ m = 0 then ((-1, n), true) else if k = 2 ∧ m = 0 then ((x, 0), true) else if (k = 4 ∨ k = 5) ∧ m = 2 then p else ((-1, 0), false)) := rfl
theorem refO_ex {k n x : Int} {m : Nat} {l : List Cell} {p q : (Int × Int) × Bool} : refO (ex k n x m l) p q = finR (if k = 1 ∧ m = 0 then ((-1, n), true) else if k = 2 ∧ m = 0 then ((x, 0), true) else if (k = 4 ∨ k = 5) ∧ m = 2 then refP k p q else ((-1, 0), false)) := rfl
theorem lin_ref : ∀ (d : Nat) (deep vars : Int) (cs : List Cell), okE d cs = true → (0 < vars ∧ vars ≤ 1000) → SameL (linC d (tameC d deep vars cs)) (refC d (tameC d deep vars cs))
  | 0, _, _, _, h, _ => by cases h
  | d + 1, deep, vars, cs, h, hv => by
    have l0 := tame_len d (deep - 1) vars (kid cs 0)
    have l1 := tame_len d (deep - 1) vars (kid cs 1)
    rcases tame_cases d deep vars cs h hv with ⟨k, hk, e, o0, o1⟩ | ⟨e, o0⟩ | ⟨x, hx, e⟩ | ⟨n, hn, e⟩
    · have s0 := lin_ref d (deep - 1) vars _ o0 hv
      have s1 := lin_ref d (deep - 1) vars _ o1 hv
      rw [e]
      show SameL (linO _ (pairO k (linC d (kid _ 0)) (linC d (kid _ 1)))) (refO _ (refC d (kid _ 0)) (refC d (kid _ 1)))
      rw [kid_two0 l0, kid_two1 l0 l1]
      rw [linO_ex, refO_ex]
      simp only [show ((2 : Nat) = 0) = False by simp, and_false, if_false, and_true]
      by_cases k45 : k = 4 ∨ k = 5
      · rw [if_pos k45, if_pos k45]
        exact pair_same k45 s0 s1
      · rw [if_neg k45, if_neg k45]
        exact no_same _
    · rw [e]
      exact no_same _
    · rw [e]
      exact fin_same (v := x) (s := 0) (by omega)
    · rw [e]
      exact fin_same (v := -1) (s := n) (by omega)
theorem same_lin3 {f g : (Int × Int) × Bool} (h : SameL f g) : lin3 f = g := by
  obtain ⟨h1, h2, h3⟩ := h
  unfold lin3
  split
  · rename_i q; exact (h2 q).1
  · rename_i q; exact (h3 (by rw [← h1]; simpa using q)).symm

theorem f17_pure (DD : Nat) (a b c : Int) (n : Nat) (l : List Cell) (h : okE DD (ex a b c n l) = true) : f17_wp DD a b c n l (fun r' => r' = boRet true) := by
  obtain ⟨t1, t2⟩ := tame_ok DD 20 3 (ex a b c n l) h
  have sl := same_lin3 (lin_ref DD 20 3 (ex a b c n l) h (by omega))
  obtain ⟨k, m, x, m', l', et⟩ := tameC_ex DD 20 3 (ex a b c n l)
  unfold f17_wp
  refine letV_j fun u hu => ?_
  have hu : tameC DD 20 3 (ex a b c n l) = u := hu
  rw [hu] at t1 t2 sl et
  subst et
  have h : okE DD [.v (.int .i64 a), .v (.int .i64 b), .v (.int .i64 c), .sl n l] = true := h
  refine ck_i (by simp only [h]; rfl) ?_
  have e : [Cell.v (Value.int .i64 (kK (ex k m x m' l'))), Cell.v (Value.int .i64 (kV (ex k m x m' l'))), Cell.v (Value.int .i64 (kX (ex k m x m' l'))), Cell.sl (kN (ex k m x m' l')) (kL (ex k m x m' l'))] = ex k m x m' l' := rfl
  rw [e]
  refine ck_i (by simp only [t1, t2]; rfl) ?_
  refine letV_j fun f hf => ?_
  refine ck_i (by simp only [t1]; rfl) ?_
  refine letV_j fun g hg => ?_
  obtain rfl : f = g := by rw [← hf, ← hg, sl]
  exact ⟨by simp, by simp, by simp [boRet]⟩
theorem cx17_ok (d : Nat) : CtxOk Try.prog (cx17 d).q.ctx := ctx_cons (g := 67) (ctx_cons (g := 69) (ctx_cons (g := 68) (ctx_cons (g := 70) (ctx_cons (g := 71) ctx_nil (by kernel_rfl) sum71_ok) (by kernel_rfl) (sum70_ok d)) (by kernel_rfl) (sum68_ok d)) (by kernel_rfl) (sum69_ok d)) (by kernel_rfl) (sum67_ok d)
theorem f17_law (cs : List Cell) {D : Nat} (h : TyC Try.prog D 93 cs) : SoundAt Try.prog 17 [.agg cs] (boRet true) := by
  have o := okE_ty D cs h
  obtain ⟨d', hd, a, b, c, n, l, rfl, _, _⟩ := okE_elim o
  exact f17_sound D a b c n l (cx17_ok D) (f17_pure D a b c n l o)

end Go.Proofs.Ytgmciihlmgeecaa.Fn
