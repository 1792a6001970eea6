import Derived.Test.YtgmciihlmgeecaaDoorPuZB
import Derived.Test.YtgmciihlmgeecaaDoorPuN1
/- Functions of two Nums: what is told of each is so. Conditions: those that each lemma names. -/
namespace Go.Proofs.YtgmciihlmgeecaaDoor.Fn
open Go Go.RowKit Go.Proofs.YtgmciihlmgeecaaDoor.Mt Go.Proofs.YtgmciihlmgeecaaDoor.Zm
set_option linter.unusedVariables false
set_option linter.unusedSimpArgs false
theorem f54_spec (c : Bool) (rn : Nat) (l : List Int) (hr : l.length = rn * 2) (n : Int) (b : Bool) (D : List Int) (hl : D.length = 49) (c2 : Bool) (rn2 : Nat) (l2 : List Int) (hr2 : l2.length = rn2 * 2) (n2 : Int) (b2 : Bool) (D2 : List Int) (hl2 : D2.length = 49) : f54_wp c rn (ic .i64 l) n b (ic .i64 D) c2 rn2 (ic .i64 l2) n2 b2 (ic .i64 D2) (fun r' => r' = boRet (withinZ (n, b, D) (n2, b2, D2))) := by
  unfold f54_wp
  simp only [take49 hl, take49 hl2, map_ic, Prod.eta]
  (repeat ((first | with_reducible apply ck_i | with_reducible apply And.intro); · (first | with_reducible rfl | ((try simp only [ics]) <;> simp [ics, *] <;> omega))))
  rfl
theorem cx54_ok : CtxOk Tryd.prog cx54.q.ctx := (ctx_cons (g := 26) ctx_nil (by kernel_rfl) sum47_ok)
theorem sum54_ok : ∀ vs r, sum54 vs = some (true, r) → SoundAt Tryd.prog 13 vs r := by
  intro vs r h
  unfold sum54 at h
  split at h
  · simp only [Option.some.injEq, Prod.mk.injEq, Bool.and_eq_true] at h
    obtain ⟨⟨h0, h1⟩, rfl⟩ := h
    obtain ⟨c, rn, l, n0, b0, D0, hr, hl0, hc0, rfl⟩ := num_elim h0
    obtain ⟨c2, rn2, l2, n2, b2, D2, hr2, hl2, hc2, rfl⟩ := num_elim h1
    simp only [uZ_ic]
    exact f54_sound _ _ _ _ _ _ _ _ _ _ _ _ cx54_ok (f54_spec c rn l hr n0 b0 D0 hl0 c2 rn2 l2 hr2 n2 b2 D2 hl2)
  · cases h

end Go.Proofs.YtgmciihlmgeecaaDoor.Fn
