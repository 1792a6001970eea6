import Derived.Test.YtgmciihlmgeecaaPuZB
import Derived.Test.YtgmciihlmgeecaaWLZoneNones
import Derived.Test.YtgmciihlmgeecaaZLaws
/- ZoneNones: the law's function tells true. Conditions: none beyond its arguments' types. -/
namespace Go.Proofs.Ytgmciihlmgeecaa.Fn
open Go Go.RowKit Go.Proofs.Ytgmciihlmgeecaa.Mt Go.Proofs.Ytgmciihlmgeecaa.Zm
set_option linter.unusedVariables false
set_option linter.unusedSimpArgs false

theorem itv_none {z : Zo} (hb : z.2.1 = true) {x : Int} : itvZ z x = (1, 0) := by
  unfold itvZ
  rw [var_none hb]; rfl
theorem join_n2 {n : Nat} {a b : Zo} (h : Gd n a) (h' : Gd n b) (hb : b.2.1 = true) : joinZ a b = a := join_none2 hb
theorem widen_n2 {n : Nat} {a b : Zo} (h : Gd n a) (h' : Gd n b) (hb : b.2.1 = true) : widenZ a b = a := widen_in h h' ((Zm.within_iff h' h).2 (.inl hb))

theorem f15_true (a0 a1 a2 : Int) (_ : (Lit.int .i64 a0).wf = true) (_ : (Lit.int .i64 a1).wf = true) (_ : (Lit.int .i32 a2).wf = true) : f15_wp a0 a1 a2 (fun r' => r' = boRet true) := by
  have hx := mod_in (a := a0) (m := 4) (by omega) (by omega)
  have hy := mod_in (a := a1) (m := 5) (by omega) (by omega)
  have wy : IntKind.i64.wrap (IntKind.i64.wrap ((IntKind.u64.wrap a1).tmod 5) - 1) = IntKind.i64.wrap ((IntKind.u64.wrap a1).tmod 5) - 1 := IntWalk.i64_in _ ⟨by omega, by omega⟩
  have hd : -100000 ≤ (IntKind.i64.wrap a2).tmod 100000 ∧ (IntKind.i64.wrap a2).tmod 100000 ≤ 100000 := by
    have h1 := Int.tmod_lt_of_pos (IntKind.i64.wrap a2) (show (0 : Int) < 100000 by omega)
    have h2 := Int.lt_tmod_of_pos (IntKind.i64.wrap a2) (show (0 : Int) < 100000 by omega)
    omega
  unfold f15_wp
  (try delta X15_0)
  rw [wy]
  generalize IntKind.i64.wrap ((IntKind.u64.wrap a0).tmod 4) = X at *
  generalize IntKind.i64.wrap ((IntKind.u64.wrap a1).tmod 5) = Y' at *
  generalize (IntKind.i64.wrap a2).tmod 100000 = d at *
  obtain ⟨Y, rfl⟩ : ∃ Y, Y' = Y + 1 := ⟨Y' - 1, by omega⟩
  rw [show Y + 1 - 1 = Y by omega]
  clear wy
  refine cond_i (fun q => rfl) (fun q => ?_)
  have q : ¬ X = Y := by simpa using q
  refine letV_j fun u2 h2 => ?_
  rw [map_eqD (D := (topZ 4).2.2) (by kernel_rfl)]
  rw [h2, IntWalk.i64_in (-1 - d) ⟨by omega, by omega⟩, IntWalk.i64_in (0 - d) ⟨by omega, by omega⟩]
  have r2 := top_rep (n := 4) (by omega)
  have r2 : Rep 4 (fun m => (∀ i, i ≤ 4 → m i i ≤ 0) ∧ Own 4 m) u2 := by rw [← h2]; exact r2
  simp only [map_ic, Prod.eta]
  refine letV_j fun u3 h3 => ?_
  have r3 := bound_rep r2 (x := X) (y := Y) (b := d) (by omega) (by omega)
  rw [h3] at r3
  have l3 : u3.2.2.length = 49 := r3.1.len
  (repeat ((first | with_reducible apply ck_i | with_reducible apply And.intro); · (first | (simp only [min_if, max_if, ics]; done) | with_reducible rfl | ((try simp only [min_if, max_if, ics]); simp [min_if, max_if, ics, *]; done) | ((try simp only [min_if, max_if, ics]); simp [min_if, max_if, ics, *]; omega))))
  refine letV_j fun u5 h5 => ?_
  have r5 := bound_rep r3 (x := Y) (y := X) (b := -1 - d) (by omega) (by omega)
  rw [h5] at r5
  have l5 : u5.2.2.length = 49 := r5.1.len
  have n5 : u5.2.1 = true := r5.no fun m hm ⟨⟨_, h1⟩, h2⟩ => by
    have := hm.opp (i := (X + 1).toNat) (j := (Y + 1).toNat) (by omega) (by omega)
    omega
  (repeat ((first | with_reducible apply ck_i | with_reducible apply And.intro); · (first | (simp only [min_if, max_if, ics]; done) | with_reducible rfl | ((try simp only [min_if, max_if, ics]); simp [min_if, max_if, ics, *]; done) | ((try simp only [min_if, max_if, ics]); simp [min_if, max_if, ics, *]; omega))))
  refine letV_j fun u8 h8 => ?_
  obtain rfl := h8
  refine letV_j fun u9 h9 => ?_
  obtain rfl : u3 = u9 := by rw [← h9, h3]
  (repeat ((first | with_reducible apply ck_i | with_reducible apply And.intro); · (first | (simp only [min_if, max_if, ics]; done) | with_reducible rfl | ((try simp only [min_if, max_if, ics]); simp [min_if, max_if, ics, *]; done) | ((try simp only [min_if, max_if, ics]); simp [min_if, max_if, ics, *]; omega))))
  refine letV_j fun u11 h11 => ?_
  have r11 := bound_rep r3 (x := Y) (y := X) (b := 0 - d) (by omega) (by omega)
  rw [h11] at r11
  have l11 : u11.2.2.length = 49 := r11.1.len
  have n11 : u11.2.1 = false := by
    -- numbers that hold both
    have hv : InR 4 (fun i => if i = (X + 1).toNat then d else 0) := ⟨by dsimp only; rw [if_neg (by omega)], fun i h1 h4 => by dsimp only; split <;> omega⟩
    have e1 : ptM (fun i => if i = (X + 1).toNat then d else 0) (X + 1).toNat (Y + 1).toNat = d := by
      unfold ptM; dsimp only; rw [if_pos rfl, if_neg (by omega)]; omega
    have e2 : ptM (fun i => if i = (X + 1).toNat then d else 0) (Y + 1).toNat (X + 1).toNat = -d := by
      unfold ptM; dsimp only; rw [if_pos rfl, if_neg (by omega)]; omega
    exact r11.not_none (ptM_clo 4 _) ⟨⟨⟨fun i _ => by unfold ptM; omega, ptM_own hv⟩, by rw [e1]; omega⟩, by rw [e2]; omega⟩
  have g5 := r5.1
  have g11 := r11.1
  have k5 := okL49 l5
  have k11 := okL49 l11
  have e5 := eqW49s l5
  have e11 := eqW49s l11
  have t5 := right_gd g5
  clear h2 h3 h5 h9 h11 r2 r3 r5 r11
  (repeat ((first | with_reducible apply ck_i | with_reducible apply And.intro); · (first | (simp only [min_if, max_if, ics]; done) | with_reducible rfl | ((try simp only [min_if, max_if, ics]); simp [min_if, max_if, ics, *]; done) | ((try simp only [min_if, max_if, ics]); simp [min_if, max_if, ics, *]; omega))))
  refine letV_j fun u19 h19 => ?_
  obtain rfl : u5 = u19 := by rw [← h19]; exact (copyZ_none n5).symm
  (repeat ((first | with_reducible apply ck_i | with_reducible apply And.intro); · (first | (simp only [min_if, max_if, ics]; done) | with_reducible rfl | ((try simp only [min_if, max_if, ics]); simp [min_if, max_if, ics, *]; done) | ((try simp only [min_if, max_if, ics]); simp [min_if, max_if, ics, *]; omega))))
  refine letV_j fun u23 h23 => ?_
  obtain rfl : u5 = u23 := by rw [← h23]; exact (forgetZ_none n5).symm
  (repeat ((first | with_reducible apply ck_i | with_reducible apply And.intro); · (first | (simp only [min_if, max_if, ics]; done) | with_reducible rfl | ((try simp only [min_if, max_if, ics]); simp [min_if, max_if, ics, *]; done) | ((try simp only [min_if, max_if, ics]); simp [min_if, max_if, ics, *]; omega))))
  refine letV_j fun u27 h27 => ?_
  obtain rfl : u5 = u27 := by rw [← h27]; exact (boundZ_none n5).symm
  (repeat ((first | with_reducible apply ck_i | with_reducible apply And.intro); · (first | (simp only [min_if, max_if, ics]; done) | with_reducible rfl | ((try simp only [min_if, max_if, ics]); simp [min_if, max_if, ics, *]; done) | ((try simp only [min_if, max_if, ics]); simp [min_if, max_if, ics, *]; omega))))
  refine letV_j fun u31 h31 => ?_
  obtain rfl : u31 = (1, 0) := by rw [← h31]; exact itv_none n5
  (repeat ((first | with_reducible apply ck_i | with_reducible apply And.intro); · (first | (simp only [min_if, max_if, ics]; done) | with_reducible rfl | ((try simp only [min_if, max_if, ics]); simp [min_if, max_if, ics, *]; done) | ((try simp only [min_if, max_if, ics]); simp [min_if, max_if, ics, *]; omega))))
  refine letV_j fun u35 h35 => ?_
  obtain rfl : u11 = u35 := by rw [← h35]; exact (join_none1 g5 g11 n5).symm
  (repeat ((first | with_reducible apply ck_i | with_reducible apply And.intro); · (first | (simp only [min_if, max_if, ics]; done) | with_reducible rfl | ((try simp only [min_if, max_if, ics]); simp [min_if, max_if, ics, *]; done) | ((try simp only [min_if, max_if, ics]); simp [min_if, max_if, ics, *]; omega))))
  refine letV_j fun u39 h39 => ?_
  obtain rfl : u11 = u39 := by rw [← h39]; exact (join_n2 g11 g5 n5).symm
  (repeat ((first | with_reducible apply ck_i | with_reducible apply And.intro); · (first | (simp only [min_if, max_if, ics]; done) | with_reducible rfl | ((try simp only [min_if, max_if, ics]); simp [min_if, max_if, ics, *]; done) | ((try simp only [min_if, max_if, ics]); simp [min_if, max_if, ics, *]; omega))))
  refine letV_j fun u43 h43 => ?_
  obtain rfl : u11 = u43 := by rw [← h43]; exact (widen_none g5 g11 n5).symm
  (repeat ((first | with_reducible apply ck_i | with_reducible apply And.intro); · (first | (simp only [min_if, max_if, ics]; done) | with_reducible rfl | ((try simp only [min_if, max_if, ics]); simp [min_if, max_if, ics, *]; done) | ((try simp only [min_if, max_if, ics]); simp [min_if, max_if, ics, *]; omega))))
  refine letV_j fun u47 h47 => ?_
  obtain rfl : u11 = u47 := by rw [← h47]; exact (widen_n2 g11 g5 n5).symm
  have w1 : withinZ u5 u11 = true := (Zm.within_iff g5 g11).2 (.inl n5)
  have w2 : withinZ u11 u5 = false := by
    cases e : withinZ u11 u5 with
    | false => rfl
    | true =>
      rcases (Zm.within_iff g11 g5).1 e with h | ⟨_, h, _⟩
      · rw [n11] at h; cases h
      · rw [n5] at h; cases h
  (repeat ((first | with_reducible apply ck_i | with_reducible apply And.intro); · (first | (simp only [min_if, max_if, ics]; done) | with_reducible rfl | ((try simp only [min_if, max_if, ics]); simp [min_if, max_if, ics, *]; done) | ((try simp only [min_if, max_if, ics]); simp [min_if, max_if, ics, *]; omega))))
  rw [w2]; rfl
theorem cx15_ok : CtxOk Try.prog cx15.q.ctx := (ctx_cons (g := 28) (ctx_cons (g := 25) (ctx_cons (g := 26) (ctx_cons (g := 48) (ctx_cons (g := 27) (ctx_cons (g := 37) (ctx_cons (g := 29) (ctx_cons (g := 36) (ctx_cons (g := 61) (ctx_cons (g := 62) (ctx_cons (g := 47) ctx_nil (by kernel_rfl) sum47_ok) (by kernel_rfl) sum62_ok) (by kernel_rfl) sum61_ok) (by kernel_rfl) sum36_ok) (by kernel_rfl) sum29_ok) (by kernel_rfl) sum37_ok) (by kernel_rfl) sum27_ok) (by kernel_rfl) sum48_ok) (by kernel_rfl) sum26_ok) (by kernel_rfl) sum25_ok) (by kernel_rfl) sum28_ok)

end Go.Proofs.Ytgmciihlmgeecaa.Fn
