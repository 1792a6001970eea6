import Derived.Test.YtlfojobligplkaaWQ1
import Derived.Test.YtlfojobligplkaaPuQ1
/- What is told of the functions of Elems is so: copying, reading. Conditions: those that each lemma names. -/
namespace Go.Proofs.Ytlfojobligplkaa.Fn
open Go Go.RowKit Go.Proofs.Ytlfojobligplkaa.Mt
set_option linter.unusedVariables false
set_option linter.unusedSimpArgs false

theorem noneL_succ (k : Nat) : noneL (k + 1) = noneL k ++ [1, 0] := by
  unfold noneL
  rw [List.replicate_succ', List.flatten_append]
  rfl
theorem noneL_len (k : Nat) : (noneL k).length = k * 2 := by
  induction k with
  | zero => rfl
  | succ k ih => rw [noneL_succ, List.length_append, ih]; simp; omega

theorem small_app {n : Nat} (h : n ≤ 8796093022208) : (decide (n * 16 ≤ 140737488355328) && true && true && true && true && true) = true := by
  simp; omega

theorem f57_spec (t : Int) (h1 : 1 ≤ t) (h2 : t ≤ 1000) : f57_wp t (fun r' => r' = elRet 29 0 0 t.toNat (noneL t.toNat)) := by
  unfold f57_wp
  refine LoopP.ind (I := Sum.elim (fun _ => True) (fun z => 1 ≤ z.1 ∧ z.1 ≤ t ∧ z.2.1 = z.1.toNat ∧ z.2.2 = ic .i64 (noneL z.1.toNat))) (μ := Sum.elim (fun _ => t.toNat + 1) (fun z => (t - z.1).toNat)) ?_ trivial
  rintro (_ | ⟨i, n, cs⟩) k0 hI hk
  · dsimp only [Sum.elim_inl, Sum.elim_inr]
    refine cond_i (fun _ => hk _ ?_ ?_) (fun q => ?_)
    · exact ⟨by dsimp only; omega, by dsimp only; omega, rfl, rfl⟩
    · dsimp only [Sum.elim_inl, Sum.elim_inr]; omega
    · have := of_decide_eq_false q; omega
  · dsimp only [Sum.elim_inl, Sum.elim_inr] at hI ⊢
    obtain ⟨i1, i2, i3, i4⟩ := hI
    subst i3
    subst i4
    refine cond_i (fun q => ck_i (small_app (by omega)) (hk _ ?_ ?_)) (fun q => ?_)
    · have q := of_decide_eq_true q
      have w : IntKind.i64.wrap (i + 1) = i + 1 := i64_id (by omega) (by omega)
      refine ⟨by dsimp only; omega, by dsimp only; omega, by dsimp only; omega, ?_⟩
      dsimp only
      rw [w, show (i + 1).toNat = i.toNat + 1 by omega, noneL_succ, ← ic_append]
      rfl
    · have q := of_decide_eq_true q
      have w : IntKind.i64.wrap (i + 1) = i + 1 := i64_id (by omega) (by omega)
      dsimp only [Sum.elim_inl, Sum.elim_inr]
      rw [w]; omega
    · have q := of_decide_eq_false q
      have e : i = t := by omega
      subst e
      rfl

theorem f19_spec (c0 c1 c2 c3 t : Int) (cr : Cell) (h1 : 1 ≤ t) (h2 : t ≤ 1000) : f19_wp c0 c1 c2 c3 t cr (fun r' => r' = elRet 25 0 0 t.toNat (noneL t.toNat)) := by
  unfold f19_wp
  refine LoopP.ind (I := Sum.elim (fun _ => True) (fun z => 1 ≤ z.1 ∧ z.1 ≤ t ∧ z.2.1 = z.1.toNat ∧ z.2.2 = ic .i64 (noneL z.1.toNat))) (μ := Sum.elim (fun _ => t.toNat + 1) (fun z => (t - z.1).toNat)) ?_ trivial
  rintro (_ | ⟨i, n, cs⟩) k0 hI hk
  · dsimp only [Sum.elim_inl, Sum.elim_inr]
    refine cond_i (fun _ => hk _ ?_ ?_) (fun q => ?_)
    · exact ⟨by dsimp only; omega, by dsimp only; omega, rfl, rfl⟩
    · dsimp only [Sum.elim_inl, Sum.elim_inr]; omega
    · have := of_decide_eq_false q; omega
  · dsimp only [Sum.elim_inl, Sum.elim_inr] at hI ⊢
    obtain ⟨i1, i2, i3, i4⟩ := hI
    subst i3
    subst i4
    refine cond_i (fun q => ck_i (small_app (by omega)) (hk _ ?_ ?_)) (fun q => ?_)
    · have q := of_decide_eq_true q
      have w : IntKind.i64.wrap (i + 1) = i + 1 := i64_id (by omega) (by omega)
      refine ⟨by dsimp only; omega, by dsimp only; omega, by dsimp only; omega, ?_⟩
      dsimp only
      rw [w, show (i + 1).toNat = i.toNat + 1 by omega, noneL_succ, ← ic_append]
      rfl
    · have q := of_decide_eq_true q
      have w : IntKind.i64.wrap (i + 1) = i + 1 := i64_id (by omega) (by omega)
      dsimp only [Sum.elim_inl, Sum.elim_inr]
      rw [w]; omega
    · have q := of_decide_eq_false q
      have e : i = t := by omega
      subst e
      rfl

theorem f67_spec (lo hi : Int) (n : Nat) (l : List Int) (hl : l.length = n * 2) (hn : n ≤ 8796093022208) : f67_wp lo hi n (ic .i64 l) (fun r' => r' = elRet 29 lo hi n l) := by
  unfold f67_wp
  refine ck_i ?_ ?_
  · simp [ic_len, hl]; omega
  · show Ret.mk _ _ = _
    rw [Nat.zero_add]; rfl

theorem f47_spec (lo hi : Int) (n : Nat) (l : List Int) (hl : l.length = n * 2) (hn : n ≤ 8796093022208) : f47_wp lo hi n (ic .i64 l) (fun r' => r' = if n = 0 then Ret.mk (.agg [.v (.int .i64 lo), .v (.int .i64 hi), .v (.slice none 0 0)]) [] else elRet 29 lo hi n l) := by
  unfold f47_wp
  refine LoopP.ind (I := Sum.elim (fun _ => True) (fun z => 1 ≤ z.1 ∧ z.1 ≤ (n : Int) ∧ z.2.1 = z.1.toNat ∧ z.2.2 = ic .i64 (l.take (z.1.toNat * 2)))) (μ := Sum.elim (fun _ => n + 1) (fun z => ((n : Int) - z.1).toNat)) ?_ trivial
  rintro (_ | ⟨i, m, cs⟩) k0 hI hk
  · dsimp only [Sum.elim_inl, Sum.elim_inr]
    refine cond_i (fun q => ?_) (fun q => ?_)
    · have q := of_decide_eq_true q
      have t2 := take2 (l := l) (j := 0) (by omega)
      rw [ic_get (by omega), ic_get (by omega), ic_len]
      refine ck_i (by simp; omega) (ck_i (by simp [okK, isInt]; omega) (ck_i (by simp [okK, isInt]; omega) (hk _ ?_ ?_)))
      · refine ⟨by dsimp only; omega, by dsimp only; omega, rfl, ?_⟩
        show _ = ic .i64 (l.take ((0 + 1) * 2))
        rw [← t2]; rfl
      · dsimp only [Sum.elim_inl, Sum.elim_inr]; omega
    · have q := of_decide_eq_false q
      show Ret.mk _ _ = _
      rw [if_pos (by omega)]
  · dsimp only [Sum.elim_inl, Sum.elim_inr] at hI ⊢
    obtain ⟨i1, i2, i3, i4⟩ := hI
    subst i3
    subst i4
    refine cond_i (fun q => ?_) (fun q => ?_)
    · have q := of_decide_eq_true q
      have w : IntKind.i64.wrap (i + 1) = i + 1 := i64_id (by omega) (by omega)
      have t2 := take2 (l := l) (j := i.toNat) (by omega)
      rw [ic_get (by omega), ic_get (by omega), ic_len, w]
      refine ck_i (by simp; omega) (ck_i (by simp [okK, isInt]; omega) (ck_i (by simp [okK, isInt]; omega) (ck_i (small_app (by omega)) (hk _ ?_ ?_))))
      · refine ⟨by dsimp only; omega, by dsimp only; omega, by dsimp only; omega, ?_⟩
        dsimp only
        rw [show (i + 1).toNat = i.toNat + 1 by omega, ← t2, ← ic_append]
        rfl
      · dsimp only [Sum.elim_inl, Sum.elim_inr]; omega
    · have q := of_decide_eq_false q
      have e : i.toNat = n := by omega
      show Ret.mk _ _ = _
      rw [if_neg (by omega), e, List.take_of_length_le (by omega)]
      rfl

theorem f35_spec (lo hi : Int) (n : Nat) (l : List Int) (hl : l.length = n * 2) (hn : n ≤ 8796093022208) : f35_wp lo hi n (ic .i64 l) (fun r' => r' = if n = 0 then Ret.mk (.agg [.v (.int .i64 lo), .v (.int .i64 hi), .v (.slice none 0 0)]) [] else elRet 25 lo hi n l) := by
  unfold f35_wp
  refine LoopP.ind (I := Sum.elim (fun _ => True) (fun z => 1 ≤ z.1 ∧ z.1 ≤ (n : Int) ∧ z.2.1 = z.1.toNat ∧ z.2.2 = ic .i64 (l.take (z.1.toNat * 2)))) (μ := Sum.elim (fun _ => n + 1) (fun z => ((n : Int) - z.1).toNat)) ?_ trivial
  rintro (_ | ⟨i, m, cs⟩) k0 hI hk
  · dsimp only [Sum.elim_inl, Sum.elim_inr]
    refine cond_i (fun q => ?_) (fun q => ?_)
    · have q := of_decide_eq_true q
      have t2 := take2 (l := l) (j := 0) (by omega)
      rw [ic_get (by omega), ic_get (by omega), ic_len]
      refine ck_i (by simp; omega) (ck_i (by simp [okK, isInt]; omega) (ck_i (by simp [okK, isInt]; omega) (hk _ ?_ ?_)))
      · refine ⟨by dsimp only; omega, by dsimp only; omega, rfl, ?_⟩
        show _ = ic .i64 (l.take ((0 + 1) * 2))
        rw [← t2]; rfl
      · dsimp only [Sum.elim_inl, Sum.elim_inr]; omega
    · have q := of_decide_eq_false q
      show Ret.mk _ _ = _
      rw [if_pos (by omega)]
  · dsimp only [Sum.elim_inl, Sum.elim_inr] at hI ⊢
    obtain ⟨i1, i2, i3, i4⟩ := hI
    subst i3
    subst i4
    refine cond_i (fun q => ?_) (fun q => ?_)
    · have q := of_decide_eq_true q
      have w : IntKind.i64.wrap (i + 1) = i + 1 := i64_id (by omega) (by omega)
      have t2 := take2 (l := l) (j := i.toNat) (by omega)
      rw [ic_get (by omega), ic_get (by omega), ic_len, w]
      refine ck_i (by simp; omega) (ck_i (by simp [okK, isInt]; omega) (ck_i (by simp [okK, isInt]; omega) (ck_i (small_app (by omega)) (hk _ ?_ ?_))))
      · refine ⟨by dsimp only; omega, by dsimp only; omega, by dsimp only; omega, ?_⟩
        dsimp only
        rw [show (i + 1).toNat = i.toNat + 1 by omega, ← t2, ← ic_append]
        rfl
      · dsimp only [Sum.elim_inl, Sum.elim_inr]; omega
    · have q := of_decide_eq_false q
      have e : i.toNat = n := by omega
      show Ret.mk _ _ = _
      rw [if_neg (by omega), e, List.take_of_length_le (by omega)]
      rfl

end Go.Proofs.Ytlfojobligplkaa.Fn
