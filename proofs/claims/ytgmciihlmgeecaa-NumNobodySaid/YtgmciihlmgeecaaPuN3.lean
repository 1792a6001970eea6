import Derived.Test.YtgmciihlmgeecaaPuN2
import Derived.Test.YtgmciihlmgeecaaPuZC
import Derived.Test.YtgmciihlmgeecaaWNC
/- The reference's functions of Nums: what is told of each is so. Conditions: those that each lemma names. -/
namespace Go.Proofs.Ytgmciihlmgeecaa.Fn
open Go Go.RowKit Go.Proofs.Ytgmciihlmgeecaa.Mt Go.Proofs.Ytgmciihlmgeecaa.Zm
set_option linter.unusedVariables false
set_option linter.unusedSimpArgs false

theorem f98_spec (n : Int) (b : Bool) (D : List Int) (hl : D.length = 49) (x : Int) (h0 : decide (0 ≤ x) = true) (h5 : decide (x ≤ 5) = true) : f98_wp n b (ic .i64 D) x (fun r' => r' = itRet (itvR (n, b, D) x)) := by
  have h0 := of_decide_eq_true h0
  have h5 := of_decide_eq_true h5
  unfold f98_wp itvR
  cases b with
  | true => rfl
  | false =>
    refine cond_i (fun q => by cases q) (fun _ => ?_)
    simp only [ics, wr1 (show -1000 ≤ x by omega) (show x ≤ 1000 by omega)]
    (repeat ((first | with_reducible apply ck_i | with_reducible apply And.intro); · (first | with_reducible rfl | ((try simp only [ics]) <;> simp [ics, *] <;> omega))))
    simp only [IntWalk.i64_left, Int.zero_sub]; rfl
theorem cx98_ok : CtxOk Try.prog cx98.q.ctx := ctx_nil
theorem sum98_ok : ∀ vs r, sum98 vs = some (true, r) → SoundAt Try.prog 98 vs r := by
  intro vs r h
  unfold sum98 at h
  split at h
  · simp only [Option.some.injEq, Prod.mk.injEq, Bool.and_eq_true] at h
    obtain ⟨⟨⟨⟨h0, h1⟩, h2⟩, h3⟩, rfl⟩ := h
    obtain ⟨n0, b0, D0, hl0, hc0, rfl⟩ := zone_elim h0
    obtain ⟨x1, rfl⟩ := int_elim h1
    (try simp only [zO_ic] at h2)
    (try simp only [zO_ic] at h3)
    (try simp only [zO_ic])
    exact f98_sound _ _ _ _ cx98_ok (f98_spec n0 b0 D0 hl0 x1 h2 h3)
  · cases h
theorem meetR_len {z : Zo} {x lo hi : Int} (h : z.2.2.length = 49) : (meetR z x lo hi).2.2.length = 49 := by
  unfold meetR
  split
  · exact zeroL_len
  · exact boundR_len (boundR_len h)
theorem f55_spec (n : Int) (b : Bool) (D : List Int) (hl : D.length = 49) (x lo hi : Int) (hn : okN n = true) (hx : in16 x = true) : f55_wp n b (ic .i64 D) x lo hi (fun r' => r' = zRe (meetR (n, b, D) x lo hi)) := by
  unfold f55_wp
  simp only [map_ic, Prod.eta, rep49]
  unfold meetR
  cases b with
  | true => rfl
  | false =>
    refine cond_i (fun q => by cases q) (fun _ => ?_)
    refine cond_i (fun q => ?_) (fun q => ?_)
    · rw [if_pos (by simpa using q)]; rfl
    · rw [if_neg (by simpa using q)]
      refine ck_i (by (first | with_reducible rfl | ((try simp only [ics]) <;> simp [ics, *] <;> omega))) ?_
      refine letV_j fun u hu => ?_
      have lu : u.2.2.length = 49 := by rw [← hu]; exact boundR_len hl
      have ou : okN u.1 = true := by rw [← hu, boundR_fst]; exact hn
      refine ck_i (by (first | with_reducible rfl | ((try simp only [ics]) <;> simp [ics, *] <;> omega))) ?_
      refine letV_j fun w hw => ?_
      have lw : w.2.2.length = 49 := by rw [← hw]; exact boundR_len lu
      (repeat ((first | with_reducible apply ck_i | with_reducible apply And.intro); · (first | with_reducible rfl | ((try simp only [ics]) <;> simp [ics, *] <;> omega))))
      rw [hu, ← show IntKind.i64.wrap (0 - lo) = wrap64 (-lo) by rw [IntWalk.i64_left, Int.zero_sub], hw]; rfl
theorem cx55_ok : CtxOk Try.prog cx55.q.ctx := (ctx_cons (g := 33) ctx_nil (by kernel_rfl) sum33_ok)
theorem sum55_ok : ∀ vs r, sum55 vs = some (true, r) → SoundAt Try.prog 55 vs r := by
  intro vs r h
  unfold sum55 at h
  split at h
  · simp only [Option.some.injEq, Prod.mk.injEq, Bool.and_eq_true] at h
    obtain ⟨⟨⟨⟨⟨h0, hn⟩, h1⟩, hx⟩, h2⟩, rfl⟩ := h
    obtain ⟨n0, b0, D0, hl0, hc0, rfl⟩ := zone_elim h0
    obtain ⟨x, rfl⟩ := int_elim h1
    obtain ⟨lo, hi, rfl⟩ := pair_elim h2
    simp only [zO_ic]
    exact f55_sound _ _ _ _ _ _ cx55_ok (f55_spec n0 b0 D0 hl0 x lo hi hn hx)
  · cases h
theorem f99_spec (n : Int) (b : Bool) (D : List Int) (hl : D.length = 49) (x lo hi : Int) (hn : okN n = true) (hx : in16 x = true) : f99_wp n b (ic .i64 D) x lo hi (fun r' => r' = zRe (meetR (forgetR (n, b, D) x) x lo hi)) := by
  unfold f99_wp
  simp only [map_ic, Prod.eta]
  refine ck_i (by (first | with_reducible rfl | ((try simp only [ics]) <;> simp [ics, *] <;> omega))) ?_
  refine letV_j fun u hu => ?_
  have lu : u.2.2.length = 49 := by rw [← hu]; exact forgetR_len hl
  have ou : okN u.1 = true := by rw [← hu, forgetR_fst]; exact hn
  refine ck_i (by (first | with_reducible rfl | ((try simp only [ics]) <;> simp [ics, *] <;> omega))) ?_
  refine letV_j fun w hw => ?_
  have lw : w.2.2.length = 49 := by rw [← hw]; exact meetR_len lu
  (repeat ((first | with_reducible apply ck_i | with_reducible apply And.intro); · (first | with_reducible rfl | ((try simp only [ics]) <;> simp [ics, *] <;> omega))))
  rw [hu, hw]; rfl
theorem cx99_ok : CtxOk Try.prog cx99.q.ctx := (ctx_cons (g := 89) (ctx_cons (g := 55) ctx_nil (by kernel_rfl) sum55_ok) (by kernel_rfl) sum89_ok)
theorem sum99_ok : ∀ vs r, sum99 vs = some (true, r) → SoundAt Try.prog 99 vs r := by
  intro vs r h
  unfold sum99 at h
  split at h
  · simp only [Option.some.injEq, Prod.mk.injEq, Bool.and_eq_true] at h
    obtain ⟨⟨⟨⟨⟨h0, hn⟩, h1⟩, hx⟩, h2⟩, rfl⟩ := h
    obtain ⟨n0, b0, D0, hl0, hc0, rfl⟩ := zone_elim h0
    obtain ⟨x, rfl⟩ := int_elim h1
    obtain ⟨lo, hi, rfl⟩ := pair_elim h2
    simp only [zO_ic]
    exact f99_sound _ _ _ _ _ _ cx99_ok (f99_spec n0 b0 D0 hl0 x lo hi hn hx)
  · cases h

end Go.Proofs.Ytgmciihlmgeecaa.Fn
