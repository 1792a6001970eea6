import Derived.Test.YtgmciihlmgeecaaPuZA
import Derived.Test.YtgmciihlmgeecaaWI
/- Functions of Itvs: what is told of each is so. Conditions: those that each lemma names. -/
namespace Go.Proofs.Ytgmciihlmgeecaa.Fn
open Go Go.RowKit Go.Proofs.Ytgmciihlmgeecaa.Mt Go.Proofs.Ytgmciihlmgeecaa.Zm
set_option linter.unusedVariables false
set_option linter.unusedSimpArgs false

theorem inB_iff {a : Int} : inB a = true ↔ -2147483648 ≤ a ∧ a ≤ 2147483647 := by simp [inB]
theorem inP_iff {p : Int × Int} : inP p = true ↔ (-2147483648 ≤ p.1 ∧ p.1 ≤ 2147483647) ∧ -2147483648 ≤ p.2 ∧ p.2 ≤ 2147483647 := by simp [inP, inB]
theorem w64 {a : Int} (h : -9223372036854775808 ≤ a) (h' : a ≤ 9223372036854775807) : IntKind.i64.wrap a = a := IntWalk.i64_in a ⟨by omega, by omega⟩
theorem letV_u {α : Type} {x : α} {F : α → Prop} (h : F x) : letV x F := h

theorem f115_spec (a b c d : Int) : f115_wp a b c d (fun r' => r' = itRet (mI (a, b) (c, d))) := by
  unfold f115_wp mI emptyP
  rw [show (if c > a then c else a) = max a c by split <;> omega, show (if d < b then d else b) = min b d by split <;> omega]
  dsimp only
  refine cond_i (fun q => ?_) (fun q => ?_)
  · rw [if_pos (.inl (of_decide_eq_true q))]; rfl
  · have q := of_decide_eq_false q
    refine cond_i (fun q2 => ?_) (fun q2 => ?_)
    · rw [if_pos (.inr (of_decide_eq_true q2))]; rfl
    · have q2 := of_decide_eq_false q2
      rw [if_neg (by rintro (h | h); exact q h; exact q2 h)]
      exact letV_u rfl
theorem cx115_ok : CtxOk Try.prog cx115.q.ctx := (ctx_cons (g := 44) (ctx_cons (g := 36) (ctx_cons (g := 97) ctx_nil (by kernel_rfl) sum97_ok) (by kernel_rfl) sum36_ok) (by kernel_rfl) sum44_ok)
theorem sum115_ok : ∀ vs r, sum115 vs = some (true, r) → SoundAt Try.prog 115 vs r := by
  intro vs r h
  unfold sum115 at h
  split at h
  · simp only [Option.some.injEq, Prod.mk.injEq, Bool.and_eq_true] at h
    obtain ⟨⟨h0, h1⟩, rfl⟩ := h
    obtain ⟨x0, y0, rfl⟩ := pair_elim h0
    obtain ⟨x1, y1, rfl⟩ := pair_elim h1
    (try simp only [zO_ic])
    exact f115_sound _ _ _ _ cx115_ok (f115_spec x0 y0 x1 y1)
  · cases h
theorem f128_spec (a b c d : Int) : f128_wp a b c d (fun r' => r' = itRet (joinI (a, b) (c, d))) := by
  unfold f128_wp joinI emptyP
  rw [show (if c < a then c else a) = min a c by split <;> omega, show (if d > b then d else b) = max b d by split <;> omega]
  dsimp only
  refine cond_i (fun q => ?_) (fun q => ?_)
  · rw [if_pos (of_decide_eq_true q)]; exact letV_u rfl
  · rw [if_neg (of_decide_eq_false q)]
    refine cond_i (fun q2 => ?_) (fun q2 => ?_)
    · rw [if_pos (of_decide_eq_true q2)]; rfl
    · rw [if_neg (of_decide_eq_false q2)]; rfl
theorem cx128_ok : CtxOk Try.prog cx128.q.ctx := (ctx_cons (g := 44) (ctx_cons (g := 97) ctx_nil (by kernel_rfl) sum97_ok) (by kernel_rfl) sum44_ok)
theorem sum128_ok : ∀ vs r, sum128 vs = some (true, r) → SoundAt Try.prog 128 vs r := by
  intro vs r h
  unfold sum128 at h
  split at h
  · simp only [Option.some.injEq, Prod.mk.injEq, Bool.and_eq_true] at h
    obtain ⟨⟨h0, h1⟩, rfl⟩ := h
    obtain ⟨x0, y0, rfl⟩ := pair_elim h0
    obtain ⟨x1, y1, rfl⟩ := pair_elim h1
    (try simp only [zO_ic])
    exact f128_sound _ _ _ _ cx128_ok (f128_spec x0 y0 x1 y1)
  · cases h
theorem f81_spec (a b n : Int) : f81_wp a b n (fun r' => r' = boRet (decide (a ≤ n) && decide (n ≤ b))) := by
  unfold f81_wp
  refine cond_i (fun q => ?_) (fun q => ?_)
  · rw [q, Bool.true_and]; rfl
  · rw [q, Bool.false_and]; rfl
theorem cx81_ok : CtxOk Try.prog cx81.q.ctx := ctx_nil
theorem sum81_ok : ∀ vs r, sum81 vs = some (true, r) → SoundAt Try.prog 81 vs r := by
  intro vs r h
  unfold sum81 at h
  split at h
  · simp only [Option.some.injEq, Prod.mk.injEq, Bool.and_eq_true] at h
    obtain ⟨⟨h0, h1⟩, rfl⟩ := h
    obtain ⟨x0, y0, rfl⟩ := pair_elim h0
    obtain ⟨x1, rfl⟩ := int_elim h1
    (try simp only [zO_ic])
    exact f81_sound _ _ _ cx81_ok (f81_spec x0 y0 x1)
  · cases h
theorem mI_all (p : Int × Int) : (mI p allI).1 > (mI p allI).2 ∨ inP (mI p allI) = true := by
  rw [inP_iff]
  unfold mI allI normP
  dsimp only
  split
  · left; omega
  · split
    · left; omega
    · right; dsimp only; omega
theorem f121_spec (a b : Int) : f121_wp a b (fun r' => r' = evRet (cutP a b)) := by
  unfold f121_wp cutP outI
  refine letV_u (cond_i (fun q => ?_) (fun q => ?_))
  · rw [q, Bool.true_or]; rfl
  · rw [q, Bool.false_or]; rfl
theorem cx121_ok : CtxOk Try.prog cx121.q.ctx := (ctx_cons (g := 53) ctx_nil (by kernel_rfl) sum53_ok)
theorem sum121_ok : ∀ vs r, sum121 vs = some (true, r) → SoundAt Try.prog 121 vs r := by
  intro vs r h
  unfold sum121 at h
  split at h
  · simp only [Option.some.injEq, Prod.mk.injEq, Bool.and_eq_true] at h
    obtain ⟨⟨h0, h1⟩, rfl⟩ := h
    obtain ⟨x0, rfl⟩ := int_elim h0
    obtain ⟨x1, rfl⟩ := int_elim h1
    (try simp only [zO_ic])
    exact f121_sound _ _ cx121_ok (f121_spec x0 x1)
  · cases h
theorem mul_in {a b : Int} (ha : -2147483648 ≤ a ∧ a ≤ 2147483647) (hb : -2147483648 ≤ b ∧ b ≤ 2147483647) : -4611686018427387904 ≤ a * b ∧ a * b ≤ 4611686018427387904 := by
  have : (a * b).natAbs ≤ 2147483648 * 2147483648 := by
    rw [Int.natAbs_mul]
    exact Nat.mul_le_mul (by omega) (by omega)
  omega
theorem div_in {a b : Int} (ha : -2147483648 ≤ a ∧ a ≤ 2147483647) : -2147483648 ≤ a.tdiv b ∧ a.tdiv b ≤ 2147483648 := by
  have : (a.tdiv b).natAbs ≤ 2147483648 := by
    rw [Int.natAbs_tdiv]
    exact Nat.le_trans (Nat.div_le_self _ _) (by omega)
  omega
theorem f123_spec (a b : Int) (ha : inB a = true) (hb : inB b = true) : f123_wp a b (fun r' => r' = inRet (a * b)) := by
  have := mul_in (inB_iff.1 ha) (inB_iff.1 hb)
  unfold f123_wp
  rw [w64 (a := a * b) (by omega) (by omega)]; rfl
theorem cx123_ok : CtxOk Try.prog cx123.q.ctx := ctx_nil
theorem sum123_ok : ∀ vs r, sum123 vs = some (true, r) → SoundAt Try.prog 123 vs r := by
  intro vs r h
  unfold sum123 at h
  split at h
  · simp only [Option.some.injEq, Prod.mk.injEq, Bool.and_eq_true] at h
    obtain ⟨⟨⟨⟨h0, h1⟩, h2⟩, h3⟩, rfl⟩ := h
    obtain ⟨x0, rfl⟩ := int_elim h0
    obtain ⟨x1, rfl⟩ := int_elim h1
    (try simp only [zO_ic] at h2)
    (try simp only [zO_ic] at h3)
    (try simp only [zO_ic])
    exact f123_sound _ _ cx123_ok (f123_spec x0 x1 h2 h3)
  · cases h
theorem f127_spec (a b : Int) (ha : inB a = true) (hb : inB b = true) (h0 : (b != 0) = true) : f127_wp a b (fun r' => r' = inRet (a.tdiv b)) := by
  have := div_in (b := b) (inB_iff.1 ha)
  unfold f127_wp
  rw [w64 (a := a.tdiv b) (by omega) (by omega)]
  exact ck_i h0 rfl
theorem cx127_ok : CtxOk Try.prog cx127.q.ctx := ctx_nil
theorem sum127_ok : ∀ vs r, sum127 vs = some (true, r) → SoundAt Try.prog 127 vs r := by
  intro vs r h
  unfold sum127 at h
  split at h
  · simp only [Option.some.injEq, Prod.mk.injEq, Bool.and_eq_true] at h
    obtain ⟨⟨⟨⟨⟨h0, h1⟩, h2⟩, h3⟩, h4⟩, rfl⟩ := h
    obtain ⟨x0, rfl⟩ := int_elim h0
    obtain ⟨x1, rfl⟩ := int_elim h1
    (try simp only [zO_ic] at h2)
    (try simp only [zO_ic] at h3)
    (try simp only [zO_ic] at h4)
    (try simp only [zO_ic])
    exact f127_sound _ _ cx127_ok (f127_spec x0 x1 h2 h3 h4)
  · cases h
theorem min_if' {a b : Int} : (if a < b then a else b) = min b a := by split <;> omega
theorem max_if' {a b : Int} : (if a > b then a else b) = max b a := by split <;> omega
theorem f122m_spec (a b c d : Int) (h : inP (a, b) = true) (h' : inP (c, d) = true) : f122m_wp a b c d (fun r' => r' = coRet (corM (a, b) (c, d))) := by
  have k : inB a = true ∧ inB b = true := by simpa [inP] using h
  have k' : inB c = true ∧ inB d = true := by simpa [inP] using h'
  unfold f122m_wp
  simp only [k.1, k.2, k'.1, k'.2, Bool.true_and, cond_true, min_if', max_if']
  rfl
theorem f122d_spec (a b c d : Int) (h : inP (a, b) = true) (h' : inP (c, d) = true) (h0 : (c != 0) = true) (h1 : (d != 0) = true) : f122d_wp a b c d (fun r' => r' = coRet (corD (a, b) (c, d))) := by
  have k : inB a = true ∧ inB b = true := by simpa [inP] using h
  have k' : inB c = true ∧ inB d = true := by simpa [inP] using h'
  unfold f122d_wp
  simp only [k.1, k.2, k'.1, k'.2, h0, h1, Bool.true_and, cond_true, min_if', max_if']
  rfl
theorem cx122m_ok : CtxOk Try.prog cx122m.q.ctx := (ctx_cons (g := 123) ctx_nil (by kernel_rfl) sum123_ok)
theorem cx122d_ok : CtxOk Try.prog cx122d.q.ctx := (ctx_cons (g := 127) ctx_nil (by kernel_rfl) sum127_ok)
theorem fnOf_f {v : CV} {g : Nat} (h : fnOf v = some g) : v = .one (.v (.func (.func g) #[] #[])) := by
  unfold fnOf at h
  split at h
  · split at h
    · rename_i g' fs cs hc
      simp only [Option.some.injEq] at h
      subst h
      obtain ⟨h1, h2⟩ := hc
      rw [Array.eq_empty_of_size_eq_zero h1, Array.eq_empty_of_size_eq_zero h2]
    · cases h
  · cases h
theorem sum122_ok : ∀ vs r, sum122 vs = some (true, r) → SoundAt Try.prog 122 vs r := by
  intro vs r h
  unfold sum122 at h
  split at h
  · split at h
    · rename_i e
      rw [fnOf_f e]
      simp only [Option.some.injEq, Prod.mk.injEq, Bool.and_eq_true] at h
      obtain ⟨⟨⟨⟨h0, h1⟩, h2⟩, h3⟩, rfl⟩ := h
      obtain ⟨a, b, rfl⟩ := pair_elim h0
      obtain ⟨c, d, rfl⟩ := pair_elim h1
      exact f122m_sound _ _ _ _ cx122m_ok (f122m_spec a b c d h2 h3)
    · rename_i e
      rw [fnOf_f e]
      simp only [Option.some.injEq, Prod.mk.injEq, Bool.and_eq_true] at h
      obtain ⟨⟨⟨⟨⟨⟨h0, h1⟩, h2⟩, h3⟩, h4⟩, h5⟩, rfl⟩ := h
      obtain ⟨a, b, rfl⟩ := pair_elim h0
      obtain ⟨c, d, rfl⟩ := pair_elim h1
      exact f122d_sound _ _ _ _ cx122d_ok (f122d_spec a b c d h2 h3 h4 h5)
    · cases h
  · cases h

theorem f125_spec (a b c d : Int) (h : inP (a, b) = true) (h' : inP (c, d) = true) (h0 : ((c != 0) || (d != 0)) = true) : f125_wp a b c d (fun r' => r' = itRet (restP (a, b) (c, d))) := by
  have k := inP_iff.1 h
  have k' := inP_iff.1 h'
  dsimp only at k k'
  have wc : IntKind.i64.wrap (0 - c) = -c := by rw [w64 (by omega) (by omega)]; omega
  have wd : IntKind.i64.wrap (0 - d) = -d := by rw [w64 (by omega) (by omega)]; omega
  have wm : IntKind.i64.wrap (max (max (max (-c) d) c) (-d) - 1) = mostP (c, d) := w64 (by omega) (by omega)
  have wn : IntKind.i64.wrap (0 - mostP (c, d)) = -mostP (c, d) := by unfold mostP; dsimp only; rw [w64 (by omega) (by omega)]; omega
  unfold f125_wp
  (try delta X125_0)
  simp only [wc, wd, max_if', wm, wn, min_if']
  unfold restP
  dsimp only
  refine cond_i (fun q => ?_) (fun q => ?_)
  · have q : a = b := by simpa using q
    refine cond_i (fun q2 => ?_) (fun q2 => ?_)
    · have q2 : c = d := by simpa using q2
      refine ck_i (by subst q2; simpa using h0) ?_
      rw [if_pos ⟨q, q2⟩]; exact letV_u rfl
    · have q2 : ¬ c = d := by simpa using q2
      rw [if_neg (fun x => q2 x.2)]; exact letV_u rfl
  · have q : ¬ a = b := by simpa using q
    rw [if_neg (fun x => q x.1)]; exact letV_u rfl
theorem cx125_ok : CtxOk Try.prog cx125.q.ctx := (ctx_cons (g := 30) (ctx_cons (g := 53) ctx_nil (by kernel_rfl) sum53_ok) (by kernel_rfl) sum30_ok)
theorem sum125_ok : ∀ vs r, sum125 vs = some (true, r) → SoundAt Try.prog 125 vs r := by
  intro vs r h
  unfold sum125 at h
  split at h
  · simp only [Option.some.injEq, Prod.mk.injEq, Bool.and_eq_true] at h
    obtain ⟨⟨⟨⟨⟨h0, h1⟩, h2⟩, h3⟩, h4⟩, rfl⟩ := h
    obtain ⟨x0, y0, rfl⟩ := pair_elim h0
    obtain ⟨x1, y1, rfl⟩ := pair_elim h1
    (try simp only [zO_ic] at h2)
    (try simp only [zO_ic] at h3)
    (try simp only [zO_ic] at h4)
    (try simp only [zO_ic])
    exact f125_sound _ _ _ _ cx125_ok (f125_spec x0 y0 x1 y1 h2 h3 h4)
  · cases h
theorem neg_rng (q : Int × Int) : (mI q (-2147483648, -1)).1 > (mI q (-2147483648, -1)).2 ∨ ((-2147483648 ≤ (mI q (-2147483648, -1)).1 ∧ (mI q (-2147483648, -1)).1 ≤ -1) ∧ -2147483648 ≤ (mI q (-2147483648, -1)).2 ∧ (mI q (-2147483648, -1)).2 ≤ -1) := by
  unfold mI normP
  dsimp only
  split
  · left; omega
  · split
    · left; omega
    · right; dsimp only; omega
theorem pos_rng (q : Int × Int) : (mI q (1, 2147483647)).1 > (mI q (1, 2147483647)).2 ∨ ((1 ≤ (mI q (1, 2147483647)).1 ∧ (mI q (1, 2147483647)).1 ≤ 2147483647) ∧ 1 ≤ (mI q (1, 2147483647)).2 ∧ (mI q (1, 2147483647)).2 ≤ 2147483647) := by
  unfold mI normP
  dsimp only
  split
  · left; omega
  · split
    · left; omega
    · right; dsimp only; omega
theorem f126_spec (a b c d : Int) (h : inP (a, b) = true) (h' : inP (c, d) = true) : f126_wp a b c d (fun r' => r' = evRet (quoP (a, b) (c, d))) := by
  have k := inP_iff.1 h
  dsimp only at k
  unfold f126_wp
  refine letV_j fun u1 h1 => ?_
  obtain rfl : u1 = (-2147483648, -1) := by rw [← h1]; rfl
  refine letV_j fun p1 e1 => ?_
  refine letV_j fun u3 h3 => ?_
  obtain rfl : u3 = (1, 2147483647) := by rw [← h3]; rfl
  refine letV_j fun p2 e2 => ?_
  have r1 := neg_rng (c, d)
  have r2 := pos_rng (c, d)
  have e1 : mI (c, d) (-2147483648, -1) = p1 := e1
  have e2 : mI (c, d) (1, 2147483647) = p2 := e2
  have eq : quoP (a, b) (c, d) = quoS (a, b) (quoS (a, b) ((1, 0), false, false) p1) p2 := by unfold quoP; rw [e1, e2]
  rw [e1] at r1
  rw [e2] at r2
  rw [eq]
  clear eq e1 e2 h1 h3
  have step : ∀ (acc : (Int × Int) × Bool × Bool) (q : Int × Int), acc.2.2 = false → (quoS (a, b) acc q).2.2 = false := fun acc q e => by unfold quoS; split <;> simp [e]
  refine LoopP.ind (I := fun z => ∃ acc : (Int × Int) × Bool × Bool, acc.2.2 = false ∧ z.1 = acc.2.1 ∧ z.2.2 = (acc.1.1, acc.1.2) ∧ ((z.2.1 = 0 ∧ acc = ((1, 0), false, false)) ∨ (z.2.1 = 1 ∧ acc = quoS (a, b) ((1, 0), false, false) p1) ∨ (z.2.1 = 2 ∧ acc = quoS (a, b) (quoS (a, b) ((1, 0), false, false) p1) p2))) (μ := fun z => (2 - z.2.1).toNat) ?_ ⟨((1, 0), false, false), rfl, rfl, rfl, .inl ⟨rfl, rfl⟩⟩
  rintro ⟨o, i, lo, hi⟩ k0 ⟨acc, a0, a1, a2, hc⟩ hk
  dsimp only at a1 a2 hc ⊢
  subst a1
  simp only [Prod.mk.injEq] at a2
  obtain ⟨rfl, rfl⟩ := a2
  have round : ∀ (q : Int × Int) (j : Int), 0 ≤ j → j < 2 → (q.1 > q.2 ∨ (((-2147483648 ≤ q.1 ∧ q.1 ≤ 2147483647) ∧ -2147483648 ≤ q.2 ∧ q.2 ≤ 2147483647) ∧ q.1 ≠ 0 ∧ q.2 ≠ 0)) → k0 ((quoS (a, b) acc q).2.1, j + 1, (quoS (a, b) acc q).1.1, (quoS (a, b) acc q).1.2) →
      (bif emptyP q.1 q.2 then k0 (acc.2.1, IntKind.i64.wrap (j + 1), acc.1.1, acc.1.2) else letV (corD (a, b) (q.1, q.2)) (fun (u23 : Int × Int) => bif inP (a, b) && inP (q.1, q.2) && q.1 != 0 && q.2 != 0 && true && true && true && true && true then (letV (cutP u23.1 u23.2) (fun (u25 : (Int × Int) × Bool × Bool) => letV (joinI (acc.1.1, acc.1.2) (u25.1.1, u25.1.2)) (fun (u26 : Int × Int) => bif acc.2.1 then k0 (true, IntKind.i64.wrap (j + 1), u26.1, u26.2) else k0 (u25.2.1, IntKind.i64.wrap (j + 1), u26.1, u26.2)))) else False)) := fun q j j0 j1 hq hk' => by
    rw [w64 (a := j + 1) (by omega) (by omega)]
    unfold quoS at hk'
    unfold emptyP
    refine cond_i (fun x => ?_) (fun x => ?_)
    · rw [if_pos (of_decide_eq_true x)] at hk'; exact hk'
    · have x := of_decide_eq_false x
      rw [if_neg x] at hk'
      obtain ⟨q1, q2, q3⟩ := hq.resolve_left x
      have iq : inP (q.1, q.2) = true := inP_iff.2 q1
      refine letV_u (ck_i (by simp [h, iq, q2, q3]) (letV_u (letV_u ?_)))
      dsimp only at hk' ⊢
      cases ho : acc.2.1 with
      | true => rw [ho, Bool.true_or] at hk'; exact hk'
      | false => rw [ho, Bool.false_or] at hk'; exact hk'
  refine cond_i (fun q => ?_) (fun q => ?_)
  · have q := of_decide_eq_true q
    rcases hc with ⟨rfl, ea⟩ | ⟨rfl, ea⟩ | ⟨rfl, _⟩
    · refine ck_i rfl (ck_i rfl ?_)
      refine round p1 0 (by omega) (by omega) (r1.imp id fun x => ⟨⟨⟨x.1.1, by omega⟩, x.2.1, by omega⟩, by omega, by omega⟩) ?_
      exact hk _ ⟨quoS (a, b) acc p1, step _ _ a0, rfl, rfl, .inr (.inl ⟨rfl, by rw [ea]⟩)⟩ (by dsimp only; omega)
    · refine ck_i rfl (ck_i rfl ?_)
      refine round p2 1 (by omega) (by omega) (r2.imp id fun x => ⟨⟨⟨by omega, by omega⟩, by omega, by omega⟩, by omega, by omega⟩) ?_
      exact hk _ ⟨quoS (a, b) acc p2, step _ _ a0, rfl, rfl, .inr (.inr ⟨rfl, by rw [ea]⟩)⟩ (by dsimp only; omega)
    · omega
  · have q := of_decide_eq_false q
    rcases hc with ⟨rfl, _⟩ | ⟨rfl, _⟩ | ⟨rfl, ea⟩
    · omega
    · omega
    · rw [← ea]
      unfold evRet
      rw [a0]
theorem cx126_ok : CtxOk Try.prog cx126.q.ctx := (ctx_cons (g := 36) (ctx_cons (g := 53) (ctx_cons (g := 115) (ctx_cons (g := 44) (ctx_cons (g := 122) (ctx_cons (g := 121) (ctx_cons (g := 128) ctx_nil (by kernel_rfl) sum128_ok) (by kernel_rfl) sum121_ok) (by kernel_rfl) sum122_ok) (by kernel_rfl) sum44_ok) (by kernel_rfl) sum115_ok) (by kernel_rfl) sum53_ok) (by kernel_rfl) sum36_ok)
theorem sum126_ok : ∀ vs r, sum126 vs = some (true, r) → SoundAt Try.prog 126 vs r := by
  intro vs r h
  unfold sum126 at h
  split at h
  · simp only [Option.some.injEq, Prod.mk.injEq, Bool.and_eq_true] at h
    obtain ⟨⟨⟨⟨h0, h1⟩, h2⟩, h3⟩, rfl⟩ := h
    obtain ⟨x0, y0, rfl⟩ := pair_elim h0
    obtain ⟨x1, y1, rfl⟩ := pair_elim h1
    (try simp only [zO_ic] at h2)
    (try simp only [zO_ic] at h3)
    (try simp only [zO_ic])
    exact f126_sound _ _ _ _ cx126_ok (f126_spec x0 y0 x1 y1 h2 h3)
  · cases h
theorem f124_spec (k a b c d : Int) (h : inP (a, b) = true) (h' : inP (c, d) = true) : f124_wp k a b c d (fun r' => r' = evRet (divP k (a, b) (c, d))) := by
  unfold f124_wp divP
  refine letV_j fun u1 h1 => ?_
  obtain rfl : u1 = (0, 0) := by rw [← h1]; rfl
  dsimp only
  refine cond_i (fun q => ?_) (fun q => ?_)
  · rw [if_pos (by simpa using q)]; rfl
  · have q : ¬ (c = 0 ∧ d = 0) := by simpa using q
    rw [if_neg q]
    refine cond_i (fun q2 => ?_) (fun q2 => ?_)
    · rw [if_pos (by simpa using q2)]
      refine letV_u (ck_i ?_ rfl)
      have : ((c != 0) || (d != 0)) = true := by
        simp only [Bool.or_eq_true, bne_iff_ne, ne_eq]
        by_cases e : c = 0
        · exact .inr fun e2 => q ⟨e, e2⟩
        · exact .inl e
      simp only [h, h', this]; rfl
    · rw [if_neg (by simpa using q2)]
      exact letV_u (ck_i (by simp only [h, h']; rfl) rfl)
theorem cx124_ok : CtxOk Try.prog cx124.q.ctx := (ctx_cons (g := 81) (ctx_cons (g := 30) (ctx_cons (g := 36) (ctx_cons (g := 125) (ctx_cons (g := 126) ctx_nil (by kernel_rfl) sum126_ok) (by kernel_rfl) sum125_ok) (by kernel_rfl) sum36_ok) (by kernel_rfl) sum30_ok) (by kernel_rfl) sum81_ok)
theorem sum124_ok : ∀ vs r, sum124 vs = some (true, r) → SoundAt Try.prog 124 vs r := by
  intro vs r h
  unfold sum124 at h
  split at h
  · simp only [Option.some.injEq, Prod.mk.injEq, Bool.and_eq_true] at h
    obtain ⟨⟨⟨⟨⟨h0, h1⟩, h2⟩, h3⟩, h4⟩, rfl⟩ := h
    obtain ⟨x0, rfl⟩ := int_elim h0
    obtain ⟨x1, y1, rfl⟩ := pair_elim h1
    obtain ⟨x2, y2, rfl⟩ := pair_elim h2
    (try simp only [zO_ic] at h3)
    (try simp only [zO_ic] at h4)
    (try simp only [zO_ic])
    exact f124_sound _ _ _ _ _ cx124_ok (f124_spec x0 x1 y1 x2 y2 h3 h4)
  · cases h
theorem f114_spec (k a b c d : Int) : f114_wp k a b c d (fun r' => r' = evRet (doP k (a, b) (c, d))) := by
  unfold f114_wp
  (try delta X114_1); (try delta X114_0)
  have rp := mI_all (a, b)
  have rq := mI_all (c, d)
  unfold doP emptyP
  dsimp only
  refine cond_i (fun h => ?_) (fun h => ?_)
  · rw [if_pos (.inl (of_decide_eq_true h))]; rfl
  have h := of_decide_eq_false h
  refine cond_i (fun h2 => ?_) (fun h2 => ?_)
  · rw [if_pos (.inr (.inl (of_decide_eq_true h2)))]; rfl
  have h2 := of_decide_eq_false h2
  refine letV_j fun p hp => letV_j fun q hq => ?_
  have ep : mI (a, b) allI = p := hp
  have eq' : mI (c, d) allI = q := hq
  rw [ep] at rp ⊢
  rw [eq'] at rq ⊢
  clear hp hq ep eq'
  obtain ⟨p1, p2⟩ := p
  obtain ⟨q1, q2⟩ := q
  dsimp only at rp rq ⊢
  refine cond_i (fun h3 => ?_) (fun h3 => ?_)
  · rw [if_pos (.inr (.inr (.inl (of_decide_eq_true h3))))]; rfl
  have h3 := of_decide_eq_false h3
  have rp : inP (p1, p2) = true := rp.resolve_left h3
  refine cond_i (fun h4 => ?_) (fun h4 => ?_)
  · rw [if_pos (.inr (.inr (.inr (of_decide_eq_true h4))))]; rfl
  have h4 := of_decide_eq_false h4
  have rq : inP (q1, q2) = true := rq.resolve_left h4
  rw [if_neg (by rintro (x | x | x | x); exact h x; exact h2 x; exact h3 x; exact h4 x)]
  have kp := inP_iff.1 rp
  have kq := inP_iff.1 rq
  dsimp only at kp kq
  rw [w64 (a := p1 + q1) (by omega) (by omega), w64 (a := p2 + q2) (by omega) (by omega), w64 (a := p1 - q2) (by omega) (by omega), w64 (a := p2 - q1) (by omega) (by omega)]
  simp only [rp, rq, Bool.true_and, Bool.and_true, cond_true]
  unfold doQ
  refine cond_i (fun x => ?_) (fun x => ?_)
  · rw [if_pos (by simpa using x)]; exact letV_u rfl
  rw [if_neg (by simpa using x)]
  refine cond_i (fun x => ?_) (fun x => ?_)
  · rw [if_pos (by simpa using x)]; exact letV_u rfl
  rw [if_neg (by simpa using x)]
  refine cond_i (fun x => ?_) (fun x => ?_)
  · rw [if_pos (by simpa using x)]; exact letV_u (letV_u rfl)
  rw [if_neg (by simpa using x)]
  refine cond_i (fun x => ?_) (fun x => ?_)
  · rw [if_pos (.inl (by simpa using x))]; exact letV_u rfl
  refine cond_i (fun x2 => ?_) (fun x2 => ?_)
  · rw [if_pos (.inr (by simpa using x2))]; exact letV_u rfl
  rw [if_neg (by rintro (y | y); exact absurd y (by simpa using x); exact absurd y (by simpa using x2))]; rfl
theorem cx114_ok : CtxOk Try.prog cx114.q.ctx := (ctx_cons (g := 44) (ctx_cons (g := 36) (ctx_cons (g := 49) (ctx_cons (g := 115) (ctx_cons (g := 121) (ctx_cons (g := 122) (ctx_cons (g := 124) ctx_nil (by kernel_rfl) sum124_ok) (by kernel_rfl) sum122_ok) (by kernel_rfl) sum121_ok) (by kernel_rfl) sum115_ok) (by kernel_rfl) sum49_ok) (by kernel_rfl) sum36_ok) (by kernel_rfl) sum44_ok)
theorem sum114_ok : ∀ vs r, sum114 vs = some (true, r) → SoundAt Try.prog 114 vs r := by
  intro vs r h
  unfold sum114 at h
  split at h
  · simp only [Option.some.injEq, Prod.mk.injEq, Bool.and_eq_true] at h
    obtain ⟨⟨⟨h0, h1⟩, h2⟩, rfl⟩ := h
    obtain ⟨x0, rfl⟩ := int_elim h0
    obtain ⟨x1, y1, rfl⟩ := pair_elim h1
    obtain ⟨x2, y2, rfl⟩ := pair_elim h2
    (try simp only [zO_ic])
    exact f114_sound _ _ _ _ _ cx114_ok (f114_spec x0 x1 y1 x2 y2)
  · cases h
theorem f104_spec (a b : Int) : f104_wp a b (fun r' => r' = evRet (negP (a, b))) := by
  unfold f104_wp
  refine letV_j fun u1 h1 => ?_
  obtain rfl : u1 = (0, 0) := by rw [← h1]; rfl
  exact letV_u rfl
theorem cx104_ok : CtxOk Try.prog cx104.q.ctx := (ctx_cons (g := 30) (ctx_cons (g := 114) ctx_nil (by kernel_rfl) sum114_ok) (by kernel_rfl) sum30_ok)
theorem sum104_ok : ∀ vs r, sum104 vs = some (true, r) → SoundAt Try.prog 104 vs r := by
  intro vs r h
  unfold sum104 at h
  split at h
  · simp only [Option.some.injEq, Prod.mk.injEq, Bool.and_eq_true] at h
    obtain ⟨h0, rfl⟩ := h
    obtain ⟨x0, y0, rfl⟩ := pair_elim h0
    (try simp only [zO_ic])
    exact f104_sound _ _ cx104_ok (f104_spec x0 y0)
  · cases h

end Go.Proofs.Ytgmciihlmgeecaa.Fn
