import Derived.Test.YtlfojobligplkaaWLQueueSends
import Derived.Test.YtlfojobligplkaaPuQ6
/- The statement QueueSends, in numbers. Conditions: those that each lemma names. -/
namespace Go.Proofs.Ytlfojobligplkaa.Fn
open Go Go.RowKit Go.Proofs.Ytlfojobligplkaa.Mt
set_option linter.unusedVariables false
set_option linter.unusedSimpArgs false

/-- One and a rest. -/
theorem oneRem (a : Int) (m : Int) (h : 1 ≤ m) (h' : m ≤ 1000) : 1 ≤ IntKind.i64.wrap (1 + IntKind.i64.wrap ((IntKind.u64.wrap a).tmod m)) ∧ IntKind.i64.wrap (1 + IntKind.i64.wrap ((IntKind.u64.wrap a).tmod m)) ≤ m := by
  have h0 : 0 ≤ IntKind.u64.wrap a := by
    have e : IntKind.u64.wrap a = a % 18446744073709551616 := by simp [IntKind.wrap, IntKind.bits, IntKind.signed]
    omega
  have e : (IntKind.u64.wrap a).tmod m = (IntKind.u64.wrap a) % m := Int.tmod_eq_emod_of_nonneg h0
  have h1 := Int.emod_nonneg (IntKind.u64.wrap a) (show m ≠ 0 by omega)
  have h2 := Int.emod_lt_of_pos (IntKind.u64.wrap a) (show 0 < m by omega)
  rw [e, i64_id (n := IntKind.u64.wrap a % m) (by omega) (by omega), i64_id (by omega) (by omega)]
  omega

theorem tagsL_pre {k n : Nat} (l : List Int) (h : k ≤ n) : ∃ r, tagsL n l = tagsL k l ++ r := by
  induction n with
  | zero => exact ⟨[], by rw [show k = 0 by omega, List.append_nil]⟩
  | succ n ih =>
    by_cases e : k = n + 1
    · exact ⟨[], by rw [e, List.append_nil]⟩
    · obtain ⟨r, hr⟩ := ih (by omega)
      exact ⟨r ++ (if (pairAt l n).1 > (pairAt l n).2 then [] else [(n : Int)]), by rw [tagsL_succ, hr, List.append_assoc]⟩
theorem tagsL_at {k n : Nat} (l : List Int) (h : k < n) (hp : ¬ (pairAt l k).1 > (pairAt l k).2) : (tagsL k l).length < (tagsL n l).length ∧ (tagsL n l).getD (tagsL k l).length 0 = k := by
  obtain ⟨r, hr⟩ := tagsL_pre l (show k + 1 ≤ n from h)
  rw [tagsL_succ, if_neg hp] at hr
  rw [hr]
  exact ⟨by simp, by simp [List.getD_eq_getElem?_getD]⟩

theorem f3_pure (a0 a1 : Int) (m : Nat) (row : List Int) (hr : row.length = m * 3) : f3_wp a0 a1 m (ic .i64 row) (fun r' => r' = boRet true) := by
  unfold f3_wp
  obtain ⟨n1, n2⟩ := oneRem a0 4 (by decide) (by decide)
  obtain ⟨z1, z2⟩ := oneRem a1 16 (by decide) (by decide)
  generalize IntKind.i64.wrap (1 + IntKind.i64.wrap ((IntKind.u64.wrap a0).tmod 4)) = N at *
  generalize IntKind.i64.wrap (1 + IntKind.i64.wrap ((IntKind.u64.wrap a1).tmod 16)) = Z at *
  have hl := buildP_len Z N.toNat (List.map intC (ic .i64 row)) (min m 20)
  generalize (buildP Z N.toNat (List.map intC (ic .i64 row)) (min m 20)).2.2 = L at *
  rw [ic_map]
  generalize hT : tagsL N.toNat L = T
  have hTl : T.length ≤ N.toNat := by rw [← hT]; exact tagsL_len _ _
  refine ck_i (by simp only [okRowU_ic hr, decide_eq_true n1, decide_eq_true (show N ≤ 1000 by omega), decide_eq_true (show 0 ≤ Z by omega), decide_eq_true (show Z ≤ 1000 by omega), flat_ic, plain_ic]; rfl) ?_
  refine ck_i (by simp only [okRow_ic hl (show N.toNat ≤ 8796093022208 by omega), flat_ic, plain_ic]; rfl) ?_
  refine LoopP.ind (I := fun z => 0 ≤ z.2 ∧ z.2 ≤ N ∧ z.1 = ((tagsL z.2.toNat L).length : Int)) (μ := fun z => (N - z.2).toNat) ?_ ⟨by dsimp only; omega, by dsimp only; omega, rfl⟩
  rintro ⟨at_, i⟩ k0 ⟨i1, i2, i3⟩ hk
  dsimp only at i1 i2 i3 ⊢
  have w : IntKind.i64.wrap (i + 1) = i + 1 := i64_id (by omega) (by omega)
  have wn : (i + 1).toNat = i.toNat + 1 := by omega
  refine cond_i (fun q => ?_) (fun q => ?_)
  · have q := of_decide_eq_true q
    rw [ic_get (by omega), ic_get (by omega), ic_len]
    refine ck_i (by simp; omega) (ck_i (by simp [okK, isInt]; omega) (ck_i (by simp [okK, isInt]; omega) (cond_i (fun q2 => ?_) (fun q2 => ?_))))
    · have q2 : (pairAt L i.toNat).1 > (pairAt L i.toNat).2 := of_decide_eq_true q2
      rw [w]
      refine hk _ ⟨by dsimp only; omega, by dsimp only; omega, ?_⟩ (by dsimp only; omega)
      dsimp only
      rw [wn, tagsL_succ, if_pos q2, List.append_nil, i3]
    · have q2 : ¬ (pairAt L i.toNat).1 > (pairAt L i.toNat).2 := of_decide_eq_false q2
      obtain ⟨t1, t2⟩ := tagsL_at L (show i.toNat < N.toNat by omega) q2
      rw [hT] at t1 t2
      subst i3
      refine ⟨by simp; omega, ck_i (by simp; omega) ?_⟩
      rw [Int.toNat_natCast, Nat.mul_one, ic_get (by omega), ic_len]
      refine ck_i (by simp [okK, isInt]; omega) ⟨by rw [t2]; simp [intC]; omega, ?_⟩
      rw [w, i64_id (n := ((tagsL i.toNat L).length : Int) + 1) (by omega) (by omega)]
      refine hk _ ⟨by dsimp only; omega, by dsimp only; omega, ?_⟩ (by dsimp only; omega)
      dsimp only
      rw [wn, tagsL_succ, if_neg q2, List.length_append]
      rfl
  · have q := of_decide_eq_false q
    have e : i = N := by omega
    subst e
    rw [i3, hT]
    show boRet _ = _
    rw [beq_self_eq_true]

theorem f3_true (a0 a1 : Int) (n : Nat) (cs : List Cell) {p0 p1 : Prop} (w0 : p0) (w1 : p1) {D : Nat} (h : TyC Try.prog D 22 [.sl n cs]) : f3_wp a0 a1 n cs (fun r' => r' = boRet true) := by
  obtain ⟨l, rfl, h2, _⟩ := row_ints (k := .i64) (S := [3, 24, 29, 53, 54]) (s := 3) (by kernel_rfl) Try.underlying22 (by decide) (by kernel_rfl) (by decide) h
  exact f3_pure a0 a1 n l h2

theorem cx3_ok : CtxOk Try.prog cx3.q.ctx := (ctx_cons (g := 16) (ctx_cons (g := 17) (ctx_cons (g := 18) ctx_nil (by kernel_rfl) sum18_ok) (by kernel_rfl) sum17_ok) (by kernel_rfl) sum16_ok)

end Go.Proofs.Ytlfojobligplkaa.Fn
