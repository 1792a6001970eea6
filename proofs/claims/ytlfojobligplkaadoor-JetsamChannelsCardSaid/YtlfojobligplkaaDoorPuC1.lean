import Derived.Test.YtlfojobligplkaaDoorWC1
/- Functions of Itvs: what is told of each is so. No conditions. -/
namespace Go.Proofs.YtlfojobligplkaaDoor.Fn
open Go Go.RowKit Go.Proofs Go.Proofs.YtlfojobligplkaaDoor.Mt
set_option linter.unusedVariables false
set_option linter.unusedSimpArgs false

theorem i64_id {n : Int} (h : -9223372036854775808 ≤ n) (h' : n ≤ 9223372036854775807) : IntKind.i64.wrap n = n := IntWalk.i64_in n ⟨h, h'⟩
theorem cell_int {k : IntKind} {c : Cell} (h : okK (some k) c = true) : ∃ n, c = .v (.int k n) := ⟨intC c, (okK_asK h).symm⟩
theorem int_elimK {k : IntKind} {v : CV} (h : okO (some k) v = true) : ∃ n, v = .one (.v (.int k n)) := by
  cases v <;> first | (cases h; done) | skip
  rename_i c
  obtain ⟨n, rfl⟩ := cell_int (k := k) h
  exact ⟨n, rfl⟩
theorem int_elim {v : CV} (h : okO (some .i64) v = true) : ∃ n, v = .one (.v (.int .i64 n)) := int_elimK h
theorem pair_elim {v : CV} (h : okA [some .i64, some .i64] v = true) : ∃ a b, v = .agg [.v (.int .i64 a), .v (.int .i64 b)] :=
  okA_elim h (motive := fun v => ∃ a b, v = .agg [.v (.int .i64 a), .v (.int .i64 b)]) ⟨_, _, rfl⟩
theorem mx_if (a k : Int) : (if k > a then k else a) = max a k := by split <;> omega
theorem mn_if (a k : Int) : (if k < a then k else a) = min a k := by split <;> omega
theorem f16_spec (a b : Int) : f16_wp a b (fun r' => r' = boRet (decide (a > b))) := rfl
theorem cx16_ok : CtxOk Tryd.prog cx16.q.ctx := ctx_nil
theorem sum16_ok : ∀ vs r, sum16 vs = some (true, r) → SoundAt Tryd.prog 16 vs r := by
  intro vs r h
  unfold sum16 at h
  split at h
  · simp only [Option.some.injEq, Prod.mk.injEq, Bool.and_eq_true] at h
    obtain ⟨h0, rfl⟩ := h
    obtain ⟨x0, y0, rfl⟩ := pair_elim h0
    exact f16_sound _ _ cx16_ok (f16_spec x0 y0)
  · cases h
theorem f14_spec : f14_wp (fun r' => r' = twoRet 1 0) := rfl
theorem cx14_ok : CtxOk Tryd.prog cx14.q.ctx := ctx_nil
theorem sum14_ok : ∀ vs r, sum14 vs = some (true, r) → SoundAt Tryd.prog 14 vs r := by
  intro vs r h
  unfold sum14 at h
  split at h
  · simp only [Option.some.injEq, Prod.mk.injEq, true_and] at h
    subst h
    exact f14_sound cx14_ok f14_spec
  · cases h
theorem f24_spec (a b : Int) : f24_wp a b (fun r' => r' = itRet (nI a b)) := by
  unfold f24_wp
  refine cond_i (fun q => ?_) (fun q => ?_)
  · rw [nI, if_pos (of_decide_eq_true q)]; rfl
  · rw [nI, if_neg (of_decide_eq_false q)]; rfl
theorem cx24_ok : CtxOk Tryd.prog cx24.q.ctx := (ctx_cons (g := 16) (ctx_cons (g := 14) ctx_nil (by kernel_rfl) sum14_ok) (by kernel_rfl) sum16_ok)
theorem sum24_ok : ∀ vs r, sum24 vs = some (true, r) → SoundAt Tryd.prog 24 vs r := by
  intro vs r h
  unfold sum24 at h
  split at h
  · simp only [Option.some.injEq, Prod.mk.injEq, Bool.and_eq_true] at h
    obtain ⟨h0, rfl⟩ := h
    obtain ⟨x0, y0, rfl⟩ := pair_elim h0
    exact f24_sound _ _ cx24_ok (f24_spec x0 y0)
  · cases h
theorem f18_spec (a b : Int) : f18_wp a b (fun r' => r' = itRet (ofI a b)) := by
  unfold f18_wp
  simp only [mx_if, mn_if]
  exact letV_j fun u h => by rw [← h]; rfl
theorem cx18_ok : CtxOk Tryd.prog cx18.q.ctx := (ctx_cons (g := 24) ctx_nil (by kernel_rfl) sum24_ok)
theorem sum18_ok : ∀ vs r, sum18 vs = some (true, r) → SoundAt Tryd.prog 18 vs r := by
  intro vs r h
  unfold sum18 at h
  split at h
  · simp only [Option.some.injEq, Prod.mk.injEq, Bool.and_eq_true] at h
    obtain ⟨⟨h0, h1⟩, rfl⟩ := h
    obtain ⟨x0, rfl⟩ := int_elim h0
    obtain ⟨x1, rfl⟩ := int_elim h1
    exact f18_sound _ _ cx18_ok (f18_spec x0 x1)
  · cases h
theorem f7_spec (a : Int) : f7_wp a (fun r' => r' = itRet (ofI a a)) := by
  unfold f7_wp
  exact letV_j fun u h => by rw [← h]; rfl
theorem cx7_ok : CtxOk Tryd.prog cx7.q.ctx := (ctx_cons (g := 18) ctx_nil (by kernel_rfl) sum18_ok)
theorem sum7_ok : ∀ vs r, sum7 vs = some (true, r) → SoundAt Tryd.prog 7 vs r := by
  intro vs r h
  unfold sum7 at h
  split at h
  · simp only [Option.some.injEq, Prod.mk.injEq, Bool.and_eq_true] at h
    obtain ⟨h0, rfl⟩ := h
    obtain ⟨x0, rfl⟩ := int_elim h0
    exact f7_sound _ cx7_ok (f7_spec x0)
  · cases h
theorem f17_spec (a b c d : Int) : f17_wp a b c d (fun r' => r' = itRet (jI a b c d)) := by
  unfold f17_wp jI
  refine cond_i (fun q => ?_) (fun q => cond_i (fun q2 => ?_) (fun q2 => ?_))
  · rw [if_pos (of_decide_eq_true q)]
    exact letV_j fun u h => by rw [← h]; rfl
  · rw [if_neg (of_decide_eq_false q), if_pos (of_decide_eq_true q2)]; rfl
  · rw [if_neg (of_decide_eq_false q), if_neg (of_decide_eq_false q2), mx_if, mn_if]; rfl
theorem cx17_ok : CtxOk Tryd.prog cx17.q.ctx := (ctx_cons (g := 16) (ctx_cons (g := 24) ctx_nil (by kernel_rfl) sum24_ok) (by kernel_rfl) sum16_ok)
theorem sum17_ok : ∀ vs r, sum17 vs = some (true, r) → SoundAt Tryd.prog 17 vs r := by
  intro vs r h
  unfold sum17 at h
  split at h
  · simp only [Option.some.injEq, Prod.mk.injEq, Bool.and_eq_true] at h
    obtain ⟨⟨h0, h1⟩, rfl⟩ := h
    obtain ⟨x0, y0, rfl⟩ := pair_elim h0
    obtain ⟨x1, y1, rfl⟩ := pair_elim h1
    exact f17_sound _ _ _ _ cx17_ok (f17_spec x0 y0 x1 y1)
  · cases h
theorem f21_spec (a b n : Int) : f21_wp a b n (fun r' => r' = boRet (decide (a ≤ n) && decide (n ≤ b))) := by
  unfold f21_wp
  refine cond_i (fun q => ?_) (fun q => ?_)
  · rw [q]; rfl
  · rw [q]; rfl
theorem cx21_ok : CtxOk Tryd.prog cx21.q.ctx := ctx_nil
theorem sum21_ok : ∀ vs r, sum21 vs = some (true, r) → SoundAt Tryd.prog 21 vs r := by
  intro vs r h
  unfold sum21 at h
  split at h
  · simp only [Option.some.injEq, Prod.mk.injEq, Bool.and_eq_true] at h
    obtain ⟨⟨h0, h1⟩, rfl⟩ := h
    obtain ⟨x0, y0, rfl⟩ := pair_elim h0
    obtain ⟨x1, rfl⟩ := int_elim h1
    exact f21_sound _ _ _ cx21_ok (f21_spec x0 y0 x1)
  · cases h
end Go.Proofs.YtlfojobligplkaaDoor.Fn
