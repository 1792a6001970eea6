import Derived.Test.YtlfojobligplkaaPuFew
/- The law ItvFew holds of all numbers: its rounds. No conditions. -/
namespace Go.Proofs.Ytlfojobligplkaa.Fn
open Go Go.Proofs.Ytlfojobligplkaa.Mt

theorem blk {d y1 o y0 : Bool} {X : Prop} (hz : d = y1) (ho : y0 = true → o = true) (hX : X) : (d == y1) = true ∧ (bif o then X else ((!y0) = true ∧ X)) := by
  subst hz
  refine ⟨by simp, ?_⟩
  cases o with
  | true => exact hX
  | false =>
    cases y0 with
    | true => exact absurd (ho rfl) (by decide)
    | false => exact ⟨rfl, hX⟩

theorem size7 (a : Int) : 0 ≤ IntKind.i64.wrap ((IntKind.u64.wrap a).tmod 7) ∧ IntKind.i64.wrap ((IntKind.u64.wrap a).tmod 7) ≤ 6 := by
  have h0 := u64_nonneg a
  have h1 : (IntKind.u64.wrap a).tmod 7 = IntKind.u64.wrap a % 7 := Int.tmod_eq_emod_of_nonneg h0
  rw [h1, i64_id (n := IntKind.u64.wrap a % 7) (by omega) (by omega)]
  omega

theorem few_range (a s : Int) : ∃ lo hi, IntKind.i64.wrap (IntKind.i32.wrap a) = lo ∧ (if 2147483647 < IntKind.i64.wrap (IntKind.i64.wrap (IntKind.i32.wrap a) + IntKind.i64.wrap ((IntKind.u64.wrap s).tmod 7)) then 2147483647 else IntKind.i64.wrap (IntKind.i64.wrap (IntKind.i32.wrap a) + IntKind.i64.wrap ((IntKind.u64.wrap s).tmod 7))) = hi ∧ In lo ∧ In hi ∧ lo ≤ hi := by
  have h := i32_range a
  have h2 := size7 s
  refine ⟨_, _, rfl, rfl, h, ?_⟩
  rw [i64_id (n := IntKind.i64.wrap (IntKind.i32.wrap a) + _) (by omega) (by omega)]
  unfold In
  split <;> omega

theorem few_pure (a b c d k : Int) (hk : 4 ≤ k ∧ k ≤ 8) (ha : In a) (hb : In b) (hc : In c) (hd : In d) (hab : a ≤ b) (hcd : c ≤ d) (a0_0 a0_1 a1_0 a1_1 a2 : Int)
    (e0 : IntKind.i64.wrap (IntKind.i32.wrap a0_0) = a) (e1 : (if 2147483647 < IntKind.i64.wrap (IntKind.i64.wrap (IntKind.i32.wrap a0_0) + IntKind.i64.wrap ((IntKind.u64.wrap a1_0).tmod 7)) then 2147483647 else IntKind.i64.wrap (IntKind.i64.wrap (IntKind.i32.wrap a0_0) + IntKind.i64.wrap ((IntKind.u64.wrap a1_0).tmod 7))) = b)
    (e2 : IntKind.i64.wrap (IntKind.i32.wrap a0_1) = c) (e3 : (if 2147483647 < IntKind.i64.wrap (IntKind.i64.wrap (IntKind.i32.wrap a0_1) + IntKind.i64.wrap ((IntKind.u64.wrap a1_1).tmod 7)) then 2147483647 else IntKind.i64.wrap (IntKind.i64.wrap (IntKind.i32.wrap a0_1) + IntKind.i64.wrap ((IntKind.u64.wrap a1_1).tmod 7))) = d)
    (e4 : IntKind.i64.wrap (4 + IntKind.i64.wrap ((IntKind.u64.wrap a2).tmod 5)) = k) : f7_wp a0_0 a0_1 a1_0 a1_1 a2 (fun r' => r' = tt) := by
  have e30 : ∀ a b, f30_0 a b = a := fun _ _ => rfl
  have e31 : ∀ a b, f30_1 a b = b := fun _ _ => rfl
  unfold f7_wp
  simp only [e1, e3, e30, e31]
  simp only [e0, e2, e4]
  clear e0 e1 e2 e3 e4 e30 e31
  refine ck_i (by rw [inB_iff.2 ha, inB_iff.2 hb, inB_iff.2 hc, inB_iff.2 hd]; rfl) ?_
  have ra := ha
  have rb := hb
  have rc := hc
  have rd := hd
  unfold In at ra rb rc rd
  refine LoopP.ind (I := fun z => a ≤ z.2.2 ∧ z.2.2 ≤ b + 1 ∧ (z.1 = true ↔ Err k 2 a (z.2.2 - 1) c d) ∧ (z.2.1 = true ↔ Err k 3 a (z.2.2 - 1) c d)) (μ := fun z => (b + 1 - z.2.2).toNat) ?_
    ⟨by dsimp only; omega, by dsimp only; omega, ⟨fun h => (by cases h), fun ⟨x, y, h1, h2, _⟩ => (by dsimp only at h2; omega)⟩, ⟨fun h => (by cases h), fun ⟨x, y, h1, h2, _⟩ => (by dsimp only at h2; omega)⟩⟩
  rintro ⟨o, z, x⟩ k0 ⟨i1, i2, i3, i4⟩ hk0
  dsimp only at i1 i2 i3 i4 ⊢
  refine cond_i (fun q => ?_) (fun q => ?_)
  · have q := of_decide_eq_true q
    refine LoopP.ind (I := fun w => c ≤ w.2.2 ∧ w.2.2 ≤ d + 1 ∧ (w.1 = true ↔ Sofar k 2 a x c d w.2.2) ∧ (w.2.1 = true ↔ Sofar k 3 a x c d w.2.2)) (μ := fun w => (d + 1 - w.2.2).toNat) ?_
      ⟨by dsimp only; omega, by dsimp only; omega, by rw [i3, sofar_first], by rw [i4, sofar_first]⟩
    rintro ⟨o, z, y⟩ k3 ⟨j1, j2, j3, j4⟩ hk3
    dsimp only at j1 j2 j3 j4 ⊢
    refine cond_i (fun q' => ?_) (fun q' => ?_)
    · have q' := of_decide_eq_true q'
      have hx : In x := by unfold In; omega
      have hy : In y := by unfold In; omega
      have wy : IntKind.i64.wrap (y + 1) = y + 1 := i64_id (by omega) (by omega)
      obtain ⟨o1, o2⟩ := one_eq hk hx hy
      have D := do_has hk ha hb hc hd hx hy i1 q j1 q'
      rw [← o2] at D
      rw [o1, wy]
      refine round7 D.1 (hk3 _ ⟨by dsimp only; omega, by dsimp only; omega, ?_, ?_⟩ (by dsimp only; omega))
      · dsimp only
        rw [Bool.or_eq_true, j3, sofar_next j1, beq_iff_eq, ← o2]
      · dsimp only
        rw [Bool.or_eq_true, j4, sofar_next j1, beq_iff_eq, ← o2]
    · have q' := of_decide_eq_false q'
      have hyd : y = d + 1 := by omega
      subst hyd
      have wx : IntKind.i64.wrap (x + 1) = x + 1 := i64_id (by omega) (by omega)
      rw [wx]
      refine hk0 _ ⟨by dsimp only; omega, by dsimp only; omega, ?_, ?_⟩ (by dsimp only; omega)
      · dsimp only
        rw [j3, ← sofar_row i1, show x + 1 - 1 = x by omega]
      · dsimp only
        rw [j4, ← sofar_row i1, show x + 1 - 1 = x by omega]
  · have q := of_decide_eq_false q
    have hxb : x = b + 1 := by omega
    subst hxb
    rw [show b + 1 - 1 = b by omega] at i3 i4
    have hz : (doP k a b c d).2.2.2 = z := by
      rw [do_zero hk hab hcd, Bool.eq_iff_iff, i4, err_zero hk hab]
      simp
    have ho : o = true → (doP k a b c d).2.2.1 = true := fun h => by
      obtain ⟨x, y, h1, h2, h3, h4, h5⟩ := i3.1 h
      exact (do_has hk ha hb hc hd (by unfold In; omega) (by unfold In; omega) h1 h2 h3 h4).2.1 h5
    have heq : (k ≤ 5 ∨ (a = b ∧ c = d)) → ((doP k a b c d).2.2.1 == o) = true := fun h => by
      have : (doP k a b c d).2.2.1 = o := by rw [Bool.eq_iff_iff, err_over hk ha hb hc hd hab hcd h, i3]
      rw [this]; simp
    have X2 : (bif decide (k > 5) then ((fun r' => r' = tt) (Ret.mk (.one (.v (.bool .true))) [])) else ((fun r' => r' = tt) (Ret.mk (.one (.v (.bool ((doP k a b c d).2.2.1 == o)))) []))) :=
      cond_i (fun _ => rfl) (fun q => leaf (heq (.inl (by have := of_decide_eq_false q; omega))))
    refine cond_i (fun qa => ?_) (fun _ => blk hz ho X2)
    have qa : a = b := by simpa using qa
    have X1 : (bif !(c == d) then (bif decide (k > 5) then ((fun r' => r' = tt) (Ret.mk (.one (.v (.bool .true))) [])) else ((fun r' => r' = tt) (Ret.mk (.one (.v (.bool ((doP k a b c d).2.2.1 == o)))) []))) else ((fun r' => r' = tt) (Ret.mk (.one (.v (.bool ((doP k a b c d).2.2.1 == o)))) []))) :=
      cond_i (fun _ => X2) (fun q => leaf (heq (.inr ⟨qa, by simpa using q⟩)))
    refine cond_i (fun qc => ?_) (fun _ => blk hz ho X1)
    have qc : c = d := by simpa using qc
    have B := blk hz ho X1
    obtain ⟨o1, o2⟩ := one_eq hk ha hc
    rw [o1]
    refine ck_i rfl ?_
    subst qa
    subst qc
    have hal := do_alone hk ha hc
    rw [← o2] at hal
    dsimp only at hal
    have hcon : f26_1 k a c = 0 → (!((doP k a a c c).1 == f21_0 (f26_0 k a c) && ((doP k a a c c).2.1 == f21_1 (f26_0 k a c) && true))) = false := fun h => by
      rcases hal with ⟨_, h2, h3⟩ | ⟨h1, _⟩ | ⟨h1, _⟩
      · rw [h2, (const_eq h3).1, (const_eq h3).2]; simp
      · omega
      · omega
    have hemp : f26_1 k a c ≠ 0 → f29_0 (doP k a a c c).1 (doP k a a c c).2.1 = true := fun h => by
      rcases hal with ⟨h1, _⟩ | ⟨_, h2⟩ | ⟨_, h2⟩
      · exact absurd h1 h
      · rw [h2]; rfl
      · rw [h2]; rfl
    refine cond_i (fun q => ⟨by rw [hemp (by simpa using q)]; rfl, cond_i (fun q' => ⟨hcon (by simpa using q'), B⟩) (fun _ => B)⟩) (fun _ => cond_i (fun q' => ⟨hcon (by simpa using q'), B⟩) (fun _ => B))

theorem f7_true (a0_0 a0_1 a1_0 a1_1 a2 : Int) (_ : (Lit.int .i64 a0_0).wf = true) (_ : (Lit.int .i64 a0_1).wf = true) (_ : (Lit.int .i64 a1_0).wf = true) (_ : (Lit.int .i64 a1_1).wf = true) (_ : (Lit.int .i64 a2).wf = true) : f7_wp a0_0 a0_1 a1_0 a1_1 a2 (fun r' => r' = tt) := by
  obtain ⟨a, b, e0, e1, ha, hb, hab⟩ := few_range a0_0 a1_0
  obtain ⟨c, d, e2, e3, hc, hd, hcd⟩ := few_range a0_1 a1_1
  exact few_pure a b c d _ (kind5 a2) ha hb hc hd hab hcd _ _ _ _ _ e0 e1 e2 e3 rfl

end Go.Proofs.Ytlfojobligplkaa.Fn
