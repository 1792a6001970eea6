import Derived.Test.YtgmciihlmgeecaaPuE2
import Derived.Test.YtgmciihlmgeecaaPuE4
/- The reference's Holds: what is told of it is so. Conditions: those that the lemma names. -/
namespace Go.Proofs.Ytgmciihlmgeecaa.Fn
open Go Go.RowKit Go.Proofs.Ytgmciihlmgeecaa.Mt Go.Proofs.Ytgmciihlmgeecaa.Zm
set_option linter.unusedVariables false
set_option linter.unusedSimpArgs false

theorem cx82_ok (d : Nat) : CtxOk Try.prog (cx82 d).q.ctx := ctx_cons (g := 78) ctx_nil (by kernel_rfl) (sum78_ok d)
theorem sum82_ok (d : Nat) : ∀ vs r, sum82 d vs = some (true, r) → SoundAt Try.prog 82 vs r := by
  intro vs r h
  unfold sum82 at h
  split at h
  · simp only [Option.some.injEq, Prod.mk.injEq, Bool.and_eq_true] at h
    obtain ⟨⟨h0, h1⟩, rfl⟩ := h
    obtain ⟨k, a, b, c, n, l, a', b', c', n', l', rfl, o1, o2⟩ := cond_elim h0
    obtain ⟨vn, vl, hl5, en5, el5, tr5⟩ := row_elimG (g := 82) h1
    simp only [en5, el5]
    refine tr5 [_] [] _ ?_
    exact f82_sound d _ _ _ _ _ _ _ _ _ _ _ _ _ (cx82_ok d) (f82_spec k a b c n l a' b' c' n' l' d o1 o2 vn vl hl5)
  · cases h

end Go.Proofs.Ytgmciihlmgeecaa.Fn
