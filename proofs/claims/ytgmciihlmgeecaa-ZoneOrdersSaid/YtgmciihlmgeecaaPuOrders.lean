import Derived.Test.YtgmciihlmgeecaaPuZ8
import Derived.Test.YtgmciihlmgeecaaWLZoneOrders
import Derived.Test.YtgmciihlmgeecaaZLaws
/- ZoneOrders: the law's function tells true. Conditions: none beyond its arguments' types. -/
namespace Go.Proofs.Ytgmciihlmgeecaa.Fn
open Go Go.RowKit Go.Proofs.Ytgmciihlmgeecaa.Mt Go.Proofs.Ytgmciihlmgeecaa.Zm
set_option linter.unusedVariables false
set_option linter.unusedSimpArgs false

theorem f8_true (a0 a1 a2 a3 b0 b1 b2 b3 c0 c1 c2 c3 : Int) (_ : (Lit.int .i64 a0).wf = true) (_ : (Lit.int .i64 a1).wf = true) (_ : (Lit.int .i64 a2).wf = true) (_ : (Lit.int .i64 a3).wf = true) (_ : (Lit.int .i64 b0).wf = true) (_ : (Lit.int .i64 b1).wf = true) (_ : (Lit.int .i64 b2).wf = true) (_ : (Lit.int .i64 b3).wf = true) (_ : (Lit.int .i64 c0).wf = true) (_ : (Lit.int .i64 c1).wf = true) (_ : (Lit.int .i64 c2).wf = true) (_ : (Lit.int .i64 c3).wf = true) : f8_wp a0 a1 a2 a3 b0 b1 b2 b3 c0 c1 c2 c3 (fun r' => r' = boRet true) := by
  unfold f8_wp
  refine letV_j fun u1 h1 => ?_
  rw [map_eqD (D := (topZ 4).2.2) (by kernel_rfl)]
  rw [h1]
  have r1 := top_rep (n := 4) (by omega)
  have r1 : Rep 4 (fun m => (∀ i, i ≤ 4 → m i i ≤ 0) ∧ Own 4 m) u1 := by rw [← h1]; exact r1
  simp only [map_ic, Prod.eta]
  refine letV_j fun u2 h2 => ?_
  have r2 := boundA_rep r1 a1 a2 a3
  rw [h2] at r2
  have l2 : u2.2.2.length = 49 := r2.1.len
  (repeat ((first | with_reducible apply ck_i | with_reducible apply And.intro); · (first | (simp only [min_if, max_if, ics]; done) | with_reducible rfl | ((try simp only [min_if, max_if, ics]); simp [min_if, max_if, ics, *]; done) | ((try simp only [min_if, max_if, ics]); simp [min_if, max_if, ics, *]; omega))))
  refine letV_j fun u4 h4 => ?_
  have r4 := boundA_rep r2 b1 b2 b3
  rw [h4] at r4
  have l4 : u4.2.2.length = 49 := r4.1.len
  (repeat ((first | with_reducible apply ck_i | with_reducible apply And.intro); · (first | (simp only [min_if, max_if, ics]; done) | with_reducible rfl | ((try simp only [min_if, max_if, ics]); simp [min_if, max_if, ics, *]; done) | ((try simp only [min_if, max_if, ics]); simp [min_if, max_if, ics, *]; omega))))
  refine letV_j fun u6 h6 => ?_
  have r6 := boundA_rep r4 c1 c2 c3
  rw [h6] at r6
  have l6 : u6.2.2.length = 49 := r6.1.len
  (repeat ((first | with_reducible apply ck_i | with_reducible apply And.intro); · (first | (simp only [min_if, max_if, ics]; done) | with_reducible rfl | ((try simp only [min_if, max_if, ics]); simp [min_if, max_if, ics, *]; done) | ((try simp only [min_if, max_if, ics]); simp [min_if, max_if, ics, *]; omega))))
  refine letV_j fun u9 h9 => ?_
  have r9 := boundA_rep r1 c1 c2 c3
  rw [h9] at r9
  have l9 : u9.2.2.length = 49 := r9.1.len
  (repeat ((first | with_reducible apply ck_i | with_reducible apply And.intro); · (first | (simp only [min_if, max_if, ics]; done) | with_reducible rfl | ((try simp only [min_if, max_if, ics]); simp [min_if, max_if, ics, *]; done) | ((try simp only [min_if, max_if, ics]); simp [min_if, max_if, ics, *]; omega))))
  refine letV_j fun u11 h11 => ?_
  have r11 := boundA_rep r9 a1 a2 a3
  rw [h11] at r11
  have l11 : u11.2.2.length = 49 := r11.1.len
  (repeat ((first | with_reducible apply ck_i | with_reducible apply And.intro); · (first | (simp only [min_if, max_if, ics]; done) | with_reducible rfl | ((try simp only [min_if, max_if, ics]); simp [min_if, max_if, ics, *]; done) | ((try simp only [min_if, max_if, ics]); simp [min_if, max_if, ics, *]; omega))))
  refine letV_j fun u13 h13 => ?_
  have r13 := boundA_rep r11 b1 b2 b3
  rw [h13] at r13
  have l13 : u13.2.2.length = 49 := r13.1.len
  obtain rfl : u13 = u6 := r13.uniq r6 fun m hm => ⟨fun ⟨⟨⟨p, c⟩, a⟩, b⟩ => ⟨⟨⟨p, a⟩, b⟩, c⟩, fun ⟨⟨⟨p, a⟩, b⟩, c⟩ => ⟨⟨⟨p, c⟩, a⟩, b⟩⟩
  have k6 := okL49 l6
  have e6 := eqW49s l6
  clear h13
  (repeat ((first | with_reducible apply ck_i | with_reducible apply And.intro); · (first | (simp only [min_if, max_if, ics]; done) | with_reducible rfl | ((try simp only [min_if, max_if, ics]); simp [min_if, max_if, ics, *]; done) | ((try simp only [min_if, max_if, ics]); simp [min_if, max_if, ics, *]; omega))))
  refine letV_j fun u20 h20 => ?_
  have r20 := boundA_rep r6 b1 b2 b3
  rw [h20] at r20
  obtain rfl : u20 = u13 := r20.uniq r6 fun m hm => ⟨fun h => h.1, fun ⟨⟨⟨p, a⟩, b⟩, c⟩ => ⟨⟨⟨⟨p, a⟩, b⟩, c⟩, b⟩⟩
  clear h20
  (repeat ((first | with_reducible apply ck_i | with_reducible apply And.intro); · (first | (simp only [min_if, max_if, ics]; done) | with_reducible rfl | ((try simp only [min_if, max_if, ics]); simp [min_if, max_if, ics, *]; done) | ((try simp only [min_if, max_if, ics]); simp [min_if, max_if, ics, *]; omega))))
  refine letV_j fun u24 h24 => ?_
  have r24 := boundA_rep r1 a1 a2 a3
  rw [h24] at r24
  have l24 : u24.2.2.length = 49 := r24.1.len
  have w := r6.within r24 fun m hm ⟨⟨⟨p, a⟩, b⟩, c⟩ => ⟨p, a⟩
  clear h24
  (repeat ((first | with_reducible apply ck_i | with_reducible apply And.intro); · (first | (simp only [min_if, max_if, ics]; done) | with_reducible rfl | ((try simp only [min_if, max_if, ics]); simp [min_if, max_if, ics, *]; done) | ((try simp only [min_if, max_if, ics]); simp [min_if, max_if, ics, *]; omega))))
  refine cond_i (fun q => ?_) (fun q => ?_)
  · rfl
  · (repeat ((first | with_reducible apply ck_i | with_reducible apply And.intro); · (first | (simp only [min_if, max_if, ics]; done) | with_reducible rfl | ((try simp only [min_if, max_if, ics]); simp [min_if, max_if, ics, *]; done) | ((try simp only [min_if, max_if, ics]); simp [min_if, max_if, ics, *]; omega))))
    rw [right_gd r6.1]; rfl
theorem cx8_ok : CtxOk Try.prog cx8.q.ctx := (ctx_cons (g := 25) (ctx_cons (g := 46) (ctx_cons (g := 28) (ctx_cons (g := 47) (ctx_cons (g := 48) ctx_nil (by kernel_rfl) sum48_ok) (by kernel_rfl) sum47_ok) (by kernel_rfl) sum28_ok) (by kernel_rfl) sum46_ok) (by kernel_rfl) sum25_ok)

end Go.Proofs.Ytgmciihlmgeecaa.Fn
