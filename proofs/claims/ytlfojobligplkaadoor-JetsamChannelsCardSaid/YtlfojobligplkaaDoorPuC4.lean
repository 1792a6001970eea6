import Derived.Test.YtlfojobligplkaaDoorPuC3
/- The functions of Elems: what is told of each is so. No conditions. -/
namespace Go.Proofs.YtlfojobligplkaaDoor.Fn
open Go Go.RowKit Go.Proofs.YtlfojobligplkaaDoor.Mt
set_option linter.unusedVariables false
set_option linter.unusedSimpArgs false

theorem cx4_ok : CtxOk Tryd.prog cx4.q.ctx := (ctx_cons (g := 7) (ctx_cons (g := 14) ctx_nil (by kernel_rfl) sum14_ok) (by kernel_rfl) sum7_ok)

theorem chan_elim {v : CV} (h : okChan v = true) : ∃ c0 c1 c2 c3 c4 cr, v = .agg [.v (.int .i64 c0), .v (.int .i64 c1), .v (.int .i64 c2), .v (.int .i64 c3), .v (.int .i64 c4), cr] := by
  unfold okChan at h
  split at h
  · rename_i a b c d e f
    simp only [Bool.and_eq_true] at h
    obtain ⟨⟨⟨⟨⟨h0, h1⟩, h2⟩, h3⟩, h4⟩, _⟩ := h
    have g : ∀ {c : Cell}, isInt .i64 c = true → c = .v (.int .i64 (intC c)) := fun h => (okK_asK (k := some .i64) h).symm
    exact ⟨intC a, intC b, intC c, intC d, intC e, f, by rw [← g h0, ← g h1, ← g h2, ← g h3, ← g h4]⟩
  · cases h

theorem sum4_ok : ∀ vs r, sum4 vs = some (true, r) → SoundAt Tryd.prog 4 vs r := by
  intro vs r h
  unfold sum4 at h
  split at h
  · rename_i v
    simp only [Option.some.injEq, Prod.mk.injEq, Bool.and_eq_true, decide_eq_true_eq] at h
    obtain ⟨⟨⟨h0, h1⟩, h2⟩, rfl⟩ := h
    obtain ⟨c0, c1, c2, c3, c4, cr, rfl⟩ := chan_elim h0
    exact f4_sound c0 c1 c2 c3 c4 cr cx4_ok (f4_spec c0 c1 c2 c3 c4 cr h1 h2)
  · cases h

theorem sum23_ok : ∀ vs r, sum23 vs = some (true, r) → SoundAt Tryd.prog 23 vs r := by
  intro vs r h
  unfold sum23 at h
  split at h
  · rename_i v
    simp only [Option.some.injEq, Prod.mk.injEq] at h
    obtain ⟨h0, rfl⟩ := h
    exact row_elim (s := 2) (pre := []) (post := []) (f := fun n l => Ret.mk (.one (.own 0 0)) [⟨29, 2, n, ic .i64 l, true⟩]) h0 fun n l hl hn => f23_clone n l hl hn
  · cases h

theorem cx15_ok : CtxOk Tryd.prog cx15.q.ctx := (ctx_cons (g := 23) ctx_nil (by kernel_rfl) sum23_ok)

theorem sum15_ok : ∀ vs r, sum15 vs = some (true, r) → SoundAt Tryd.prog 15 vs r := by
  intro vs r h
  unfold sum15 at h
  split at h
  · rename_i v
    simp only [Option.some.injEq, Prod.mk.injEq, Bool.and_eq_true, decide_eq_true_eq] at h
    obtain ⟨h0, rfl⟩ := h
    exact el_elim (pre := []) (post := []) (f := fun lo hi n l => elRet 29 lo hi n l) h0 fun lo hi n l hl hn => f15_sound _ _ _ _ cx15_ok (f15_spec lo hi n l hl hn)
  · cases h

theorem cx6_ok : CtxOk Tryd.prog cx6.q.ctx := (ctx_cons (g := 15) (ctx_cons (g := 16) (ctx_cons (g := 17) ctx_nil (by kernel_rfl) sum17_ok) (by kernel_rfl) sum16_ok) (by kernel_rfl) sum15_ok)

theorem sum6_ok : ∀ vs r, sum6 vs = some (true, r) → SoundAt Tryd.prog 6 vs r := by
  intro vs r h
  unfold sum6 at h
  split at h
  · rename_i s v t i
    simp only [Option.some.injEq, Prod.mk.injEq, Bool.and_eq_true, decide_eq_true_eq] at h
    obtain ⟨⟨⟨⟨h0, h1⟩, h2⟩, h3⟩, rfl⟩ := h
    obtain ⟨c0, c1, c2, c3, c4, cr, rfl⟩ := chan_elim h0
    refine okO_elim h2 (motive := fun x => SoundAt Tryd.prog 6 [_, v, x, i] _) ?_
    refine okA_elim h3 (motive := fun x => SoundAt Tryd.prog 6 [_, v, _, x] _) ?_
    exact el_elim (pre := [_]) (post := [_, _]) (f := fun lo hi n l => elRet 29 (sendP c1 lo hi n l (intC (cellA t 0)) (intC (cellA i 0)) (intC (cellA i 1))).1 (sendP c1 lo hi n l (intC (cellA t 0)) (intC (cellA i 0)) (intC (cellA i 1))).2.1 n (sendP c1 lo hi n l (intC (cellA t 0)) (intC (cellA i 0)) (intC (cellA i 1))).2.2) h1
      fun lo hi n l hl hn => f6_sound _ _ _ _ _ _ _ _ _ _ _ _ _ cx6_ok (f6_spec c0 c1 c2 c3 c4 cr lo hi n l _ _ _ hl hn)
  · cases h

theorem cx10_ok : CtxOk Tryd.prog cx10.q.ctx := (ctx_cons (g := 21) ctx_nil (by kernel_rfl) sum21_ok)

theorem sum10_ok : ∀ vs r, sum10 vs = some (true, r) → SoundAt Tryd.prog 10 vs r := by
  intro vs r h
  unfold sum10 at h
  split at h
  · rename_i v q
    simp only [Option.some.injEq, Prod.mk.injEq, Bool.and_eq_true, decide_eq_true_eq] at h
    obtain ⟨⟨h0, h1⟩, rfl⟩ := h
    exact el_elim (pre := []) (post := [q]) (f := fun lo hi n l => boRet (hasP lo hi n l (rowN (cellA q 0)) (rowL (cellA q 0)))) h0 fun lo hi n l hl hn =>
      row_elim (s := 2) (pre := [_]) (post := []) (f := fun m k => boRet (hasP lo hi n l m k)) h1 fun m k hk hm => f10_sound _ _ _ _ _ _ cx10_ok (f10_spec lo hi n l m k hl hk hm)
  · cases h

theorem cx13_ok : CtxOk Tryd.prog cx13.q.ctx := (ctx_cons (g := 16) ctx_nil (by kernel_rfl) sum16_ok)

theorem sum13_ok : ∀ vs r, sum13 vs = some (true, r) → SoundAt Tryd.prog 13 vs r := by
  intro vs r h
  unfold sum13 at h
  split at h
  · rename_i v
    simp only [Option.some.injEq, Prod.mk.injEq, Bool.and_eq_true, decide_eq_true_eq] at h
    obtain ⟨h0, rfl⟩ := h
    exact el_elim (pre := []) (post := []) (f := fun lo hi n l => Ret.mk (.one (.own 0 0)) [⟨3, 1, (tagsL n l).length, ic .i64 (tagsL n l), true⟩]) h0 fun lo hi n l hl hn => by
      have k := f13_sound _ _ _ _ cx13_ok (f13_spec lo hi n l hl hn)
      by_cases h : tagsL n l = []
      · have e : tagsRet n l = _ := if_pos h
        rw [e] at k
        show SoundAt Tryd.prog 13 _ (Ret.mk _ [⟨3, 1, (tagsL n l).length, ic .i64 (tagsL n l), true⟩])
        rw [h]
        exact sound_own1 k
      · have e : tagsRet n l = _ := if_neg h
        rw [e] at k
        exact k
  · cases h

end Go.Proofs.YtlfojobligplkaaDoor.Fn
