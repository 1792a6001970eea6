import Derived.Test.YtgmciihlmgeecaaPuE
import Derived.Test.YtgmciihlmgeecaaWEB
/- Assignments and comparisons: what is told of each is so. Conditions: those that each lemma names. -/
namespace Go.Proofs.Ytgmciihlmgeecaa.Fn
open Go Go.RowKit Go.Proofs.Ytgmciihlmgeecaa.Mt Go.Proofs.Ytgmciihlmgeecaa.Zm
set_option linter.unusedVariables false
set_option linter.unusedSimpArgs false

set_option maxHeartbeats 1000000 in
theorem f79_spec (DD : Nat) (nn : Bool) (rn : Nat) (rl : List Int) (hr : rl.length = rn * 2) (N : Int) (B : Bool) (D : List Int) (hl : D.length = 49) (x a b c : Int) (n : Nat) (l : List Cell) (h : okE DD (ex a b c n l) = true) :
    f79_wp DD nn rn (ic .i64 rl) N B (ic .i64 D) x a b c n l (fun r' => r' = asRet (asgZ (N, B, D) rn x (evalC DD (ex a b c n l) nn rn rl) (linC DD (ex a b c n l))) (evalC DD (ex a b c n l) nn rn rl).2) := by
  have ro := okSl_ic hr
  unfold f79_wp
  (try delta X79_0)
  simp only [map_ic]
  refine ck_i (by simp [ic_len, hl]) ?_
  refine letV_j fun u hu => ?_
  have hu : evalC DD (ex a b c n l) nn rn rl = u := hu
  rw [hu]
  refine ck_i (by simp [h, ro, ics, hl]) ?_
  unfold asgZ emptyP
  refine cond_i (fun q => ?_) (fun q => ?_)
  · rw [if_pos (of_decide_eq_true q)]
    refine letV_j fun w hw => ?_
    rw [hw, rep49, show zeroL = w.2.2 by rw [← hw]; rfl]; rfl
  · rw [if_neg (of_decide_eq_false q)]
    refine letV_j fun f hf => ?_
    have hf : lin3 (linC DD (ex a b c n l)) = f := hf
    have fq : f.2 = (linC DD (ex a b c n l)).2 := by rw [← hf]; unfold lin3; split <;> simp_all
    have fp : f.2 = true → f = linC DD (ex a b c n l) := fun e => by rw [fq] at e; rw [← hf]; unfold lin3; rw [if_pos e]
    refine ck_i (by simp [h]) ?_
    clear hu hf q
    refine cond_i (fun q => ?_) (fun q => ?_)
    · rw [← fp q, if_pos q]
      clear fp fq q
      refine letV_j fun z hz => ?_
      have lz : z.2.2.length = 49 := by rw [← hz]; exact copyZ_len hl
      have oz := okSl_itvs (z := z) (t := (capN z.1).toNat)
      rw [hz]
      clear hz
      (repeat ((first | with_reducible apply ck_i | with_reducible apply And.intro); · (first | with_reducible rfl | ((try simp only [ics]) <;> simp [ics, *] <;> omega))))
      refine letV_j fun w hw => ?_
      have lw : w.2.2.length = 49 := by rw [← hw]; exact heldZ_len lz
      rw [hw]
      clear hw
      (repeat ((first | with_reducible apply ck_i | with_reducible apply And.intro); · (first | with_reducible rfl | ((try simp only [ics]) <;> simp [ics, *] <;> omega)))); rfl
    · rw [← fq, if_neg (by rw [q]; simp)]
      clear fp fq q
      refine letV_j fun w hw => ?_
      have lw : w.2.2.length = 49 := by rw [← hw]; exact heldZ_len (forgetZ_len hl)
      rw [hw]
      clear hw
      (repeat ((first | with_reducible apply ck_i | with_reducible apply And.intro); · (first | with_reducible rfl | ((try simp only [ics]) <;> simp [ics, *] <;> omega)))); rfl
theorem cx79_ok (d : Nat) : CtxOk Try.prog (cx79 d).q.ctx := ctx_cons (g := 75) (ctx_cons (g := 44) (ctx_cons (g := 57) (ctx_cons (g := 68) (ctx_cons (g := 59) (ctx_cons (g := 52) (ctx_cons (g := 41) ctx_nil (by kernel_rfl) sum41_ok) (by kernel_rfl) sum52_ok) (by kernel_rfl) sum59_ok) (by kernel_rfl) (sum68_ok d)) (by kernel_rfl) sum57_ok) (by kernel_rfl) sum44_ok) (by kernel_rfl) (sum75_ok d)
theorem sum79_ok (d : Nat) : ∀ vs r, sum79 d vs = some (true, r) → SoundAt Try.prog 79 vs r := by
  intro vs r h
  unfold sum79 at h
  split at h
  · rename_i va vx ve
    simp only [Option.some.injEq, Prod.mk.injEq, Bool.and_eq_true] at h
    obtain ⟨⟨⟨h0, h1⟩, h2⟩, rfl⟩ := h
    have hv := okE_agg h0
    obtain ⟨d', hd', a, b, c, n, l, e1, _, _⟩ := okE_elim h0
    obtain ⟨nn, rn, rl, N, B, D, hr, hl, hc, rfl⟩ := num_elim h1
    obtain ⟨x, rfl⟩ := int_elim h2
    rw [e1] at h0 hv ⊢
    rw [hv, uZ_ic]
    show SoundAt _ _ _ (asRet (asgZ (N, B, D) rn x (evalC d (ex a b c n l) nn rn ((ic .i64 rl).map intC)) (linC d (ex a b c n l))) (evalC d (ex a b c n l) nn rn ((ic .i64 rl).map intC)).2)
    rw [map_ic]
    exact f79_sound d _ _ _ _ _ _ _ _ _ _ _ _ (cx79_ok d) (f79_spec d nn rn rl hr N B D hl x a b c n l h0)
  · cases h

end Go.Proofs.Ytgmciihlmgeecaa.Fn
