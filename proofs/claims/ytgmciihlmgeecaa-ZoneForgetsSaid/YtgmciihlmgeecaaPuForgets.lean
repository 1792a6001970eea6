import Derived.Test.YtgmciihlmgeecaaPuZB
import Derived.Test.YtgmciihlmgeecaaPuZC
import Derived.Test.YtgmciihlmgeecaaWLZoneForgets
/- ZoneForgets: the law's function tells true. Conditions: none beyond its arguments' types. -/
namespace Go.Proofs.Ytgmciihlmgeecaa.Fn
open Go Go.RowKit Go.Proofs.Ytgmciihlmgeecaa.Mt Go.Proofs.Ytgmciihlmgeecaa.Zm
set_option linter.unusedVariables false
set_option linter.unusedSimpArgs false

theorem okRowU_ic {s n : Nat} {l : List Int} (h : l.length = n * s) : okRowU s (.sl n (ic .i64 l)) = true := by
  simp only [okRowU, Bool.and_eq_true, beq_iff_eq, ic_len]
  exact ⟨ic_all fun _ => rfl, h⟩
theorem same_refl (z : Zo) : sameZ z z = true := by unfold sameZ; exact decide_eq_true rfl
theorem good_of {n : Nat} {z : Zo} (h : Gd n z) : goodZ z = true := good_iff.2 ⟨n, h⟩

theorem forget_idem {n : Nat} {z : Zo} (h : Gd n z) (hb : z.2.1 = false) {x : Int} (hx : 0 ≤ x ∧ x < n) : forgetZ (forgetZ z x) x = forgetZ z x := by
  obtain ⟨g1, b1, e1⟩ := forget_rep h hb hx
  obtain ⟨g2, b2, e2⟩ := forget_rep g1 b1 hx
  refine g2.ext g1 (by rw [b1, b2]) fun _ i j hi hj => ?_
  rw [e2 i j hi hj, e1 i j hi hj]
  unfold Zm.forM
  rw [e1 0 j (by omega) hj, e1 i 0 hi (by omega), e1 i j hi hj]
  have r0 : ¬ 0 = (x + 1).toNat := by omega
  unfold Zm.forM
  by_cases c1 : i = (x + 1).toNat <;> by_cases c2 : j = (x + 1).toNat <;> simp only [c1, c2, r0, if_true, if_false]
theorem within_forget {n : Nat} {z : Zo} (h : Gd n z) (hb : z.2.1 = false) {x : Int} (hx : 0 ≤ x ∧ x < n) : withinZ z (forgetZ z x) = true := by
  obtain ⟨g1, b1, e1⟩ := forget_rep h hb hx
  refine (Zm.within_iff h g1).2 (.inr ⟨hb, b1, fun i j hi hj => ?_⟩)
  rw [e1 i j hi hj]
  have o := h.own hb (x + 1).toNat (by omega) (by omega)
  have t := (h.clo hb).2 i j 0 hi hj (by omega)
  unfold Zm.forM
  by_cases c1 : i = (x + 1).toNat
  · subst c1
    rw [if_pos rfl]
    by_cases c2 : j = (x + 1).toNat
    · subst c2; rw [if_pos rfl, h.diag hb _ hj]; omega
    · rw [if_neg c2]; omega
  · rw [if_neg c1]
    by_cases c2 : j = (x + 1).toNat
    · subst c2; rw [if_pos rfl]; omega
    · rw [if_neg c2]; omega

set_option maxHeartbeats 2000000 in
set_option maxRecDepth 100000 in
theorem f9_pure (n : Nat) (l : List Int) (hl : l.length = n * 4) (a1 : Int) : f9_wp n (ic .i64 l) a1 (fun r' => r' = boRet true) := by
  have hk := mod_in (a := a1) (m := 4) (by omega) (by omega)
  have ro := okRowU_ic hl
  unfold f9_wp
  generalize IntKind.i64.wrap ((IntKind.u64.wrap a1).tmod 4) = X at *
  refine letV_j fun u1 h1 => ?_
  refine letV_j fun u2 h2 => ?_
  obtain rfl : u1 = u2 := by rw [← h1, ← h2]; exact (topR_eq (n := 4) (by omega)).symm
  rw [map_eqD (D := (topZ 4).2.2) (by kernel_rfl)]
  have g1 : Gd 4 u1 := by rw [← h1]; exact (top_rep (n := 4) (by omega)).1
  rw [h1]
  clear h1 h2
  have l1 : u1.2.2.length = 49 := g1.len
  have s1 : sameZ (u1.1, u1.2.1, u1.2.2) (u1.1, u1.2.1, u1.2.2) = true := same_refl _
  have d1 : goodZ (u1.1, u1.2.1, u1.2.2) = true := good_of g1
  refine letV_j fun u3 h3 => ?_
  simp only [map_ic, Prod.eta] at h3
  have g3 := apply_gd g1 (m := n) (l := l)
  rw [h3] at g3
  have l3 : u3.2.2.length = 49 := g3.len
  have k3 := okL49 l3
  have e3 := eqW49s l3
  clear h3
  (repeat ((first | with_reducible apply ck_i | with_reducible apply And.intro); · (first | (simp only [min_if, max_if, ics]; done) | with_reducible rfl | ((try simp only [min_if, max_if, ics]); simp [min_if, max_if, ics, *]; done) | ((try simp only [min_if, max_if, ics]); simp [min_if, max_if, ics, *]; omega))))
  refine letV_j fun u7 h7 => ?_
  simp only [map_ic, Prod.eta] at h7
  have g7 := forget_gd (x := X) g3
  rw [h7] at g7
  have l7 : u7.2.2.length = 49 := g7.len
  have k7 := okL49 l7
  have e7 := eqW49s l7
  (repeat ((first | with_reducible apply ck_i | with_reducible apply And.intro); · (first | (simp only [min_if, max_if, ics]; done) | with_reducible rfl | ((try simp only [min_if, max_if, ics]); simp [min_if, max_if, ics, *]; done) | ((try simp only [min_if, max_if, ics]); simp [min_if, max_if, ics, *]; omega))))
  refine cond_i (fun nb => ?_) (fun nb => ?_)
  · obtain rfl : u3 = u7 := by rw [← h7]; exact (forgetZ_none nb).symm
    (repeat ((first | with_reducible apply ck_i | with_reducible apply And.intro); · (first | (simp only [min_if, max_if, ics]; done) | with_reducible rfl | ((try simp only [min_if, max_if, ics]); simp [min_if, max_if, ics, *]; done) | ((try simp only [min_if, max_if, ics]); simp [min_if, max_if, ics, *]; omega))))
    simp [e3, boRet]
  · obtain ⟨_, n7, f7⟩ := forget_rep g3 nb (x := X) (by omega)
    have w7 := within_forget g3 nb (x := X) (by omega)
    have i7 := forget_idem g3 nb (x := X) (by omega)
    rw [h7] at n7 f7 w7 i7
    have wX : IntKind.i64.wrap (X + 1) = X + 1 := wr1 (by omega) (by omega)
    rw [wX]
    clear h7
    (repeat ((first | with_reducible apply ck_i | with_reducible apply And.intro); · (first | (simp only [min_if, max_if, ics]; done) | with_reducible rfl | ((try simp only [min_if, max_if, ics]); simp [min_if, max_if, ics, *]; done) | ((try simp only [min_if, max_if, ics]); simp [min_if, max_if, ics, *]; omega))))
    refine LoopP.ind (I := fun z => 0 ≤ z ∧ z ≤ 5) (μ := fun z => (5 - z).toNat) ?_ ⟨by omega, by omega⟩
    rintro i k0 ⟨i1, i2⟩ hk0
    refine cond_i (fun q1 => ?_) (fun q1 => ?_)
    · have q1 : i ≤ 4 := of_decide_eq_true q1
      have hk' := hk0 (i + 1) ⟨by omega, by omega⟩ (by omega)
      clear hk0
      (repeat ((first | with_reducible apply ck_i | with_reducible apply And.intro); · (first | (simp only [min_if, max_if, ics]; done) | with_reducible rfl | ((try simp only [min_if, max_if, ics]); simp [min_if, max_if, ics, *]; done) | ((try simp only [min_if, max_if, ics]); simp [min_if, max_if, ics, *]; omega))))
      refine LoopP.ind (I := fun z => 0 ≤ z ∧ z ≤ 5) (μ := fun z => (5 - z).toNat) ?_ ⟨by omega, by omega⟩
      rintro j k3 ⟨j1, j2⟩ hk3
      refine cond_i (fun q4 => ?_) (fun q4 => ?_)
      · have q4 : j ≤ 4 := of_decide_eq_true q4
        have hk3' := hk3 (j + 1) ⟨by omega, by omega⟩ (by omega)
        clear hk3
        rw [wr1 (by omega) (by omega)]
        refine cond_i (fun q5 => ?_) (fun q5 => ?_)
        · have q5 : ¬ i = X + 1 := by simpa using q5
          refine cond_i (fun q6 => ?_) (fun q6 => ?_)
          · have q6 : ¬ j = X + 1 := by simpa using q6
            have e : g u7.2.2 i.toNat j.toNat = g u3.2.2 i.toNat j.toNat := by
              rw [f7 i.toNat j.toNat (by omega) (by omega)]
              unfold Zm.forM
              rw [if_neg (by omega), if_neg (by omega)]
            clear f7 hk'
            simp only [min_if, max_if, ics]
            rw [e]
            (repeat ((first | with_reducible apply ck_i | with_reducible apply And.intro); · (first | (simp only [min_if, max_if, ics]; done) | with_reducible rfl | ((try simp only [min_if, max_if, ics]); simp [min_if, max_if, ics, *]; done) | ((try simp only [min_if, max_if, ics]); simp [min_if, max_if, ics, *]; omega))))
            exact hk3'
          · clear f7 hk'
            (repeat ((first | with_reducible apply ck_i | with_reducible apply And.intro); · (first | (simp only [min_if, max_if, ics]; done) | with_reducible rfl | ((try simp only [min_if, max_if, ics]); simp [min_if, max_if, ics, *]; done) | ((try simp only [min_if, max_if, ics]); simp [min_if, max_if, ics, *]; omega))))
            exact hk3'
        · clear f7 hk'
          (repeat ((first | with_reducible apply ck_i | with_reducible apply And.intro); · (first | (simp only [min_if, max_if, ics]; done) | with_reducible rfl | ((try simp only [min_if, max_if, ics]); simp [min_if, max_if, ics, *]; done) | ((try simp only [min_if, max_if, ics]); simp [min_if, max_if, ics, *]; omega))))
          exact hk3'
      · clear hk3 f7
        rw [wr1 (by omega) (by omega)]
        (repeat ((first | with_reducible apply ck_i | with_reducible apply And.intro); · (first | (simp only [min_if, max_if, ics]; done) | with_reducible rfl | ((try simp only [min_if, max_if, ics]); simp [min_if, max_if, ics, *]; done) | ((try simp only [min_if, max_if, ics]); simp [min_if, max_if, ics, *]; omega))))
        exact hk'
    · clear hk0
      (repeat ((first | with_reducible apply ck_i | with_reducible apply And.intro); · (first | (simp only [min_if, max_if, ics]; done) | with_reducible rfl | ((try simp only [min_if, max_if, ics]); simp [min_if, max_if, ics, *]; done) | ((try simp only [min_if, max_if, ics]); simp [min_if, max_if, ics, *]; omega))))
      refine letV_j fun v hv => ?_
      rw [map_ic] at hv
      have e := (itv_in g7 n7 (x := X) (by omega)).1
      have a : g u7.2.2 0 (X + 1).toNat = 2147483648 := by
        rw [f7 0 (X + 1).toNat (by omega) (by omega)]
        unfold Zm.forM
        rw [if_neg (by omega), if_pos rfl, g3.diag nb 0 (by omega)]; rfl
      have b : g u7.2.2 (X + 1).toNat 0 = 2147483647 := by
        rw [f7 (X + 1).toNat 0 (by omega) (by omega)]
        unfold Zm.forM
        rw [if_pos rfl, if_neg (by omega), g3.diag nb 0 (by omega)]; rfl
      rw [a, b] at e
      obtain rfl : v = (-2147483648, 2147483647) := by rw [← hv]; exact e
      clear hv e a b f7
      (repeat ((first | with_reducible apply ck_i | with_reducible apply And.intro); · (first | (simp only [min_if, max_if, ics]; done) | with_reducible rfl | ((try simp only [min_if, max_if, ics]); simp [min_if, max_if, ics, *]; done) | ((try simp only [min_if, max_if, ics]); simp [min_if, max_if, ics, *]; omega))))
      refine letV_j fun u96 h96 => ?_
      obtain rfl : u7 = u96 := by rw [← h96, map_ic]; exact i7.symm
      clear h96 i7
      (repeat ((first | with_reducible apply ck_i | with_reducible apply And.intro); · (first | (simp only [min_if, max_if, ics]; done) | with_reducible rfl | ((try simp only [min_if, max_if, ics]); simp [min_if, max_if, ics, *]; done) | ((try simp only [min_if, max_if, ics]); simp [min_if, max_if, ics, *]; omega))))
      simp [e7, boRet]
theorem cx9_ok : CtxOk Try.prog cx9.q.ctx := (ctx_cons (g := 25) (ctx_cons (g := 31) (ctx_cons (g := 35) (ctx_cons (g := 37) (ctx_cons (g := 28) (ctx_cons (g := 29) (ctx_cons (g := 49) (ctx_cons (g := 47) ctx_nil (by kernel_rfl) sum47_ok) (by kernel_rfl) sum49_ok) (by kernel_rfl) sum29_ok) (by kernel_rfl) sum28_ok) (by kernel_rfl) sum37_ok) (by kernel_rfl) sum35_ok) (by kernel_rfl) sum31_ok) (by kernel_rfl) sum25_ok)
set_option maxRecDepth 100000 in
theorem f9_true (n : Nat) (cs : List Cell) (a1 : Int) {D : Nat} (h : TyC Try.prog D 36 [.sl n cs]) (_ : (Lit.int .i64 a1).wf = true) : f9_wp n cs a1 (fun r' => r' = boRet true) := by
  obtain ⟨l, rfl, e, _⟩ := row_ints (k := .i64) (S := [3, 47, 48]) (s := 4) (by kernel_rfl) Try.underlying36 (by decide) (by kernel_rfl) (by decide) h
  exact f9_pure n l e a1

end Go.Proofs.Ytgmciihlmgeecaa.Fn
