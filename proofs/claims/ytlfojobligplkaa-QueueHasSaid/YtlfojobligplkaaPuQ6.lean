import Derived.Test.YtlfojobligplkaaPuQ5
/- A row of sends builds the same twice. Conditions: those that each lemma names. -/
namespace Go.Proofs.Ytlfojobligplkaa.Fn
open Go Go.RowKit Go.Proofs.Ytlfojobligplkaa.Mt
set_option linter.unusedVariables false
set_option linter.unusedSimpArgs false

theorem sendP_len {size lo hi : Int} {n : Nat} {l : List Int} {t i0 i1 : Int} : (sendP size lo hi n l t i0 i1).2.2.length = l.length := by
  unfold sendP
  split
  · rfl
  · exact setP_len _ _ _
theorem buildP_len (s : Int) (n : Nat) (row : List Int) (k : Nat) : (buildP s n row k).2.2.length = n * 2 := by
  induction k with
  | zero => exact noneL_len n
  | succ k ih => rw [buildP, sendP_len, ih]
theorem sameP_refl (lo hi : Int) (n : Nat) (l : List Int) : sameP lo hi n l lo hi n l = true := by simp [sameP]

def buildRet (n : Nat) (b : Int × Int × List Int) : Ret := Ret.mk (.tup [.agg [.v (.int .i64 b.1), .v (.int .i64 b.2.1), .own 0 0], .agg [.v (.int .i64 b.1), .v (.int .i64 b.2.1), .own 0 1], .one (.v (.bool true))]) [⟨25, 2, n, ic .i64 b.2.2, true⟩, ⟨29, 2, n, ic .i64 b.2.2, true⟩]

theorem f16_spec (t s : Int) (m : Nat) (row : List Int) (h1 : 1 ≤ t) (h2 : t ≤ 1000) (hr : row.length = m * 3) : f16_wp t s m (ic .i64 row) (fun r' => r' = buildRet t.toNat (buildP s t.toNat row (min m 20))) := by
  have hn : t.toNat ≤ 8796093022208 := by omega
  have hN := okRow_ic (s := 2) (noneL_len t.toNat) hn
  unfold f16_wp
  refine ck_i (by rw [decide_eq_true h1, decide_eq_true h2, plain_ic]; rfl) ?_
  refine LoopP.ind (I := Sum.elim (fun _ => True) (fun z => 1 ≤ z.1 ∧ z.1 ≤ (m : Int) ∧ z.1 ≤ 20 ∧ (z.2.1 = (buildP s t.toNat row z.1.toNat).1 ∧ z.2.2.1 = (buildP s t.toNat row z.1.toNat).2.1 ∧ z.2.2.2.1 = (buildP s t.toNat row z.1.toNat).1 ∧ z.2.2.2.2.1 = (buildP s t.toNat row z.1.toNat).2.1) ∧ z.2.2.2.2.2.1 = ic .i64 (buildP s t.toNat row z.1.toNat).2.2 ∧ z.2.2.2.2.2.2 = ic .i64 (buildP s t.toNat row z.1.toNat).2.2))
    (μ := Sum.elim (fun _ => m + 1) (fun z => ((m : Int) - z.1).toNat)) ?_ trivial
  rintro (_ | ⟨i, e1, e2, w1, w2, c1, c2⟩) k0 hI hk
  · dsimp only [Sum.elim_inl, Sum.elim_inr]
    refine cond_i (fun q => ?_) (fun q => ?_)
    · have q := of_decide_eq_true q
      have g0 := ic_get (k := .i64) (l := row) (j := 0) (by omega)
      have g1 := ic_get (k := .i64) (l := row) (j := 1) (by omega)
      have g2 := ic_get (k := .i64) (l := row) (j := 2) (by omega)
      have hb : buildP s t.toNat row 1 = sendP s 0 0 t.toNat (noneL t.toNat) (row.getD 0 0) (nI (f31_0 (row.getD 1 0) (row.getD 2 0)) (f31_1 (row.getD 1 0) (row.getD 2 0))).1 (nI (f31_0 (row.getD 1 0) (row.getD 2 0)) (f31_1 (row.getD 1 0) (row.getD 2 0))).2 := rfl
      have hl := buildP_len s t.toNat row 1
      have hk1 := hk (Sum.inr (1, (buildP s t.toNat row 1).1, (buildP s t.toNat row 1).2.1, (buildP s t.toNat row 1).1, (buildP s t.toNat row 1).2.1, ic .i64 (buildP s t.toNat row 1).2.2, ic .i64 (buildP s t.toNat row 1).2.2)) ⟨by dsimp only; omega, by dsimp only; omega, by dsimp only; omega, ⟨rfl, rfl, rfl, rfl⟩, rfl, rfl⟩ (by dsimp only [Sum.elim_inl, Sum.elim_inr]; omega)
      rw [hb] at hk1 hl
      rw [g0, g1, g2]
      simp only [intC, okK, isInt, ic_len, ic_map, (norm8_eq _ _).1, (norm8_eq _ _).2]
      generalize sendP s 0 0 t.toNat (noneL t.toNat) (row.getD 0 0) (nI (f31_0 (row.getD 1 0) (row.getD 2 0)) (f31_1 (row.getD 1 0) (row.getD 2 0))).1 (nI (f31_0 (row.getD 1 0) (row.getD 2 0)) (f31_1 (row.getD 1 0) (row.getD 2 0))).2 = S at *
      have hS := okRow_ic (s := 2) hl hn
      simp only [hN, hS, flat_ic, plain_ic, sameP_refl, Bool.and_true, Bool.not_true, cond_true, cond_false, beq_self_eq_true]
      refine ck_i (by simp; omega) (ck_i (by simp; omega) (ck_i (by simp; omega) hk1))
    · have q := of_decide_eq_false q
      have e : min m 20 = 0 := by omega
      rw [e]; exact rfl
  · dsimp only [Sum.elim_inl, Sum.elim_inr] at hI ⊢
    obtain ⟨i1, i2, i3, ⟨i4, i5, i6, i7⟩, i8, i9⟩ := hI
    subst i4; subst i5; subst i6; subst i7; subst i8; subst i9
    have fin : ∀ (h : min m 20 = i.toNat), (fun r' => r' = buildRet t.toNat (buildP s t.toNat row (min m 20))) (Ret.mk (.tup [.agg [.v (.int .i64 (buildP s t.toNat row i.toNat).1), .v (.int .i64 (buildP s t.toNat row i.toNat).2.1), .own 0 0], .agg [.v (.int .i64 (buildP s t.toNat row i.toNat).1), .v (.int .i64 (buildP s t.toNat row i.toNat).2.1), .own 0 1], .one (.v (.bool .true))]) [⟨25, 2, t.toNat, ic .i64 (buildP s t.toNat row i.toNat).2.2, true⟩, ⟨29, 2, t.toNat, ic .i64 (buildP s t.toNat row i.toNat).2.2, true⟩]) := fun h => by
      rw [h]; rfl
    refine cond_i (fun q => cond_i (fun q2 => ?_) (fun q2 => fin ?_)) (fun q => fin ?_)
    · have q := of_decide_eq_true q
      have q2 := of_decide_eq_true q2
      have g0 := ic_get (k := .i64) (l := row) (j := i.toNat * 3) (by omega)
      have g1 := ic_get (k := .i64) (l := row) (j := i.toNat * 3 + 1) (by omega)
      have g2 := ic_get (k := .i64) (l := row) (j := i.toNat * 3 + 1 + 1) (by omega)
      have w : IntKind.i64.wrap (i + 1) = i + 1 := i64_id (by omega) (by omega)
      have hb : buildP s t.toNat row (i.toNat + 1) = sendP s (buildP s t.toNat row i.toNat).1 (buildP s t.toNat row i.toNat).2.1 t.toNat (buildP s t.toNat row i.toNat).2.2 (row.getD (i.toNat * 3) 0) (nI (f31_0 (row.getD (i.toNat * 3 + 1) 0) (row.getD (i.toNat * 3 + 1 + 1) 0)) (f31_1 (row.getD (i.toNat * 3 + 1) 0) (row.getD (i.toNat * 3 + 1 + 1) 0))).1 (nI (f31_0 (row.getD (i.toNat * 3 + 1) 0) (row.getD (i.toNat * 3 + 1 + 1) 0)) (f31_1 (row.getD (i.toNat * 3 + 1) 0) (row.getD (i.toNat * 3 + 1 + 1) 0))).2 := rfl
      have hl := buildP_len s t.toNat row (i.toNat + 1)
      have hB := okRow_ic (s := 2) (buildP_len s t.toNat row i.toNat) hn
      have hk1 := hk (Sum.inr (i + 1, (buildP s t.toNat row (i.toNat + 1)).1, (buildP s t.toNat row (i.toNat + 1)).2.1, (buildP s t.toNat row (i.toNat + 1)).1, (buildP s t.toNat row (i.toNat + 1)).2.1, ic .i64 (buildP s t.toNat row (i.toNat + 1)).2.2, ic .i64 (buildP s t.toNat row (i.toNat + 1)).2.2)) (by
          dsimp only [Sum.elim_inl, Sum.elim_inr]
          rw [show (i + 1).toNat = i.toNat + 1 by omega]
          exact ⟨by omega, by omega, by omega, ⟨rfl, rfl, rfl, rfl⟩, rfl, rfl⟩) (by dsimp only [Sum.elim_inl, Sum.elim_inr]; omega)
      rw [hb] at hk1 hl
      rw [g0, g1, g2, w]
      simp only [intC, okK, isInt, ic_len, ic_map, (norm8_eq _ _).1, (norm8_eq _ _).2]
      generalize sendP s (buildP s t.toNat row i.toNat).1 (buildP s t.toNat row i.toNat).2.1 t.toNat (buildP s t.toNat row i.toNat).2.2 (row.getD (i.toNat * 3) 0) (nI (f31_0 (row.getD (i.toNat * 3 + 1) 0) (row.getD (i.toNat * 3 + 1 + 1) 0)) (f31_1 (row.getD (i.toNat * 3 + 1) 0) (row.getD (i.toNat * 3 + 1 + 1) 0))).1 (nI (f31_0 (row.getD (i.toNat * 3 + 1) 0) (row.getD (i.toNat * 3 + 1 + 1) 0)) (f31_1 (row.getD (i.toNat * 3 + 1) 0) (row.getD (i.toNat * 3 + 1 + 1) 0))).2 = S at *
      have hS := okRow_ic (s := 2) hl hn
      simp only [hB, hS, flat_ic, plain_ic, sameP_refl, Bool.and_true, Bool.not_true, cond_true, cond_false, beq_self_eq_true]
      refine ck_i (by simp; omega) (ck_i (by simp; omega) (ck_i (by simp; omega) hk1))
    · have q2 := of_decide_eq_false q2; omega
    · have q := of_decide_eq_false q; omega

theorem cx16_ok : CtxOk Try.prog cx16.q.ctx := (ctx_cons (g := 19) (ctx_cons (g := 57) (ctx_cons (g := 31) (ctx_cons (g := 39) (ctx_cons (g := 47) (ctx_cons (g := 20) (ctx_cons (g := 58) (ctx_cons (g := 46) ctx_nil (by kernel_rfl) sum46_ok) (by kernel_rfl) sum58_ok) (by kernel_rfl) sum20_ok) (by kernel_rfl) sum47_ok) (by kernel_rfl) sum39_ok) (by kernel_rfl) sum31_ok) (by kernel_rfl) sum57_ok) (by kernel_rfl) sum19_ok)

theorem sum16_ok : ∀ vs r, sum16 vs = some (true, r) → SoundAt Try.prog 16 vs r := by
  intro vs r h
  unfold sum16 at h
  split at h
  · rename_i t s q
    simp only [Option.some.injEq, Prod.mk.injEq, Bool.and_eq_true, decide_eq_true_eq] at h
    obtain ⟨⟨⟨⟨⟨⟨⟨h0, h1⟩, h2⟩, h3⟩, h4⟩, h5⟩, h6⟩, rfl⟩ := h
    refine okO_elim h0 (motive := fun x => SoundAt Try.prog 16 [x, s, q] _) ?_
    refine okO_elim h1 (motive := fun x => SoundAt Try.prog 16 [_, x, q] _) ?_
    exact row_elimU (s := 3) (pre := [_, _]) (post := []) (f := fun m row => buildRet (intC (cellA t 0)).toNat (buildP (intC (cellA s 0)) (intC (cellA t 0)).toNat row (min m 20))) h2 fun m row hl => f16_sound _ _ _ _ cx16_ok (f16_spec _ _ m row h3 h4 hl)
  · cases h

end Go.Proofs.Ytlfojobligplkaa.Fn
