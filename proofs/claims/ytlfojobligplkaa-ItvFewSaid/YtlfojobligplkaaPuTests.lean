import Derived.Test.YtlfojobligplkaaWLItvTests
import Derived.Test.YtlfojobligplkaaPuConsts
/- The law ItvTests holds of all numbers. No conditions. -/
namespace Go.Proofs.Ytlfojobligplkaa.Fn
open Go Go.Proofs.Ytlfojobligplkaa.Mt

def someQ (k n c d : Int) : Prop := (k = 1 ∧ c ≤ n ∧ n ≤ d) ∨ (k = 2 ∧ (c ≠ n ∨ d ≠ n)) ∨ (k = 3 ∧ n < d) ∨ (k = 4 ∧ n ≤ d) ∨ (k = 5 ∧ n > c) ∨ (k = 6 ∧ n ≥ c)
theorem some_iff {k : Int} (hk : 1 ≤ k ∧ k ≤ 6) (n c d : Int) : f71_0 k n c d = true ↔ someQ k n c d := by
  have hk : k = 1 ∨ k = 2 ∨ k = 3 ∨ k = 4 ∨ k = 5 ∨ k = 6 := by omega
  unfold someQ f71_0
  rcases hk with rfl | rfl | rfl | rfl | rfl | rfl
  · by_cases h : c ≤ n <;> simp [h]
  · by_cases h : c = n <;> simp [h]
  all_goals simp

theorem edges_in {k a b c d x y n : Int} (h : edgesP k a b c d x y = true) (h1 : a ≤ n) (h2 : n ≤ b) :
    (someQ k n c d → x ≤ n ∧ n ≤ y) ∧ ((n = x ∨ n = y) → x ≤ n → n ≤ y → someQ k n c d) := by
  simp only [edgesP, inB, Bool.and_eq_true, decide_eq_true_eq, beq_iff_eq] at h
  obtain ⟨⟨⟨⟨⟨⟨⟨⟨⟨k1, k2⟩, a1, a2⟩, b1, b2⟩, c1, c2⟩, d1, d2⟩, hab⟩, hcd⟩, hx⟩, hy⟩ := h
  have hk : k = 1 ∨ k = 2 ∨ k = 3 ∨ k = 4 ∨ k = 5 ∨ k = 6 := by omega
  unfold testP at hx hy
  rw [if_neg (by omega)] at hx hy
  unfold someQ
  rcases hk with rfl | rfl | rfl | rfl | rfl | rfl <;> simp only [mI, nI, unequalP, belowP, aboveP, Int.reduceEq, if_true, if_false] at hx hy <;> (repeat' split at hx) <;> (repeat' split at hy) <;> simp only [] at hx hy <;> omega

theorem edges_end {k a b c d x y : Int} (h : edgesP k a b c d x y = true) : (x = 1 ∧ y = 0) ∨ (x ≤ y ∧ x ≥ a ∧ y ≤ b) := by
  simp only [edgesP, inB, Bool.and_eq_true, decide_eq_true_eq, beq_iff_eq] at h
  obtain ⟨⟨⟨⟨⟨⟨⟨⟨⟨k1, k2⟩, a1, a2⟩, b1, b2⟩, c1, c2⟩, d1, d2⟩, hab⟩, hcd⟩, hx⟩, hy⟩ := h
  have hk : k = 1 ∨ k = 2 ∨ k = 3 ∨ k = 4 ∨ k = 5 ∨ k = 6 := by omega
  unfold testP at hx hy
  rw [if_neg (by omega)] at hx hy
  rcases hk with rfl | rfl | rfl | rfl | rfl | rfl <;> simp only [mI, nI, unequalP, belowP, aboveP, Int.reduceEq, if_true, if_false] at hx hy <;> (repeat' split at hx) <;> (repeat' split at hy) <;> simp only [] at hx hy <;> omega

theorem has_iff (a b n : Int) : f49_0 a b n = true ↔ (a ≤ n ∧ n ≤ b) := by
  unfold f49_0
  by_cases h : a ≤ n <;> simp [h]

theorem getD_ok {p : Cell → Bool} {L : List Cell} (h : L.all p = true) {j : Nat} (hj : j < L.length) : p (L.getD j .dead) = true := by
  rw [List.getD_eq_getElem?_getD, List.getElem?_eq_getElem hj, Option.getD_some]
  exact List.all_eq_true.1 h _ (List.getElem_mem hj)

theorem round54 {k a b c d x y n : Int} (h : edgesP k a b c d x y = true) {A : Prop} (hA : A) :
    (bif decide (n < a) then A else (bif decide (n > b) then A else (bif f71_0 k n c d then ((!f49_0 x y n) = false ∧ (bif n == x then (bif f49_0 x y n then ((!f71_0 k n c d) = false ∧ A) else A) else (bif n == y then (bif f49_0 x y n then ((!f71_0 k n c d) = false ∧ A) else A) else A))) else
      (bif n == x then (bif f49_0 x y n then ((!f71_0 k n c d) = false ∧ A) else A) else (bif n == y then (bif f49_0 x y n then ((!f71_0 k n c d) = false ∧ A) else A) else A))))) := by
  have hk : 1 ≤ k ∧ k ≤ 6 := by
    simp only [edgesP, inB, Bool.and_eq_true, decide_eq_true_eq, beq_iff_eq] at h; omega
  refine cond_i (fun _ => hA) (fun h1 => cond_i (fun _ => hA) (fun h2 => ?_))
  simp only [decide_eq_false_iff_not] at h1 h2
  obtain ⟨e1, e2⟩ := edges_in (n := n) h (by omega) (by omega)
  have fin : (bif n == x then (bif f49_0 x y n then ((!f71_0 k n c d) = false ∧ A) else A) else (bif n == y then (bif f49_0 x y n then ((!f71_0 k n c d) = false ∧ A) else A) else A)) := by
    refine cond_i (fun q => cond_i (fun q2 => ⟨?_, hA⟩) (fun _ => hA)) (fun _ => cond_i (fun q => cond_i (fun q2 => ⟨?_, hA⟩) (fun _ => hA)) (fun _ => hA))
    · have := (some_iff hk n c d).2 (e2 (.inl (by simpa using q)) ((has_iff _ _ _).1 q2).1 ((has_iff _ _ _).1 q2).2)
      rw [this]; rfl
    · have := (some_iff hk n c d).2 (e2 (.inr (by simpa using q)) ((has_iff _ _ _).1 q2).1 ((has_iff _ _ _).1 q2).2)
      rw [this]; rfl
  refine cond_i (fun q => ⟨?_, fin⟩) (fun _ => fin)
  rw [(has_iff _ _ _).2 (e1 ((some_iff hk n c d).1 q))]; rfl

theorem f54_true (k a b c d x y : Int) (h : edgesP k a b c d x y = true) : f54_wp k a b c d x y (fun r' => r' = tt) := by
  unfold f54_wp
  refine LoopP.ind (I := fun i => 0 ≤ i ∧ i ≤ 12) (μ := fun i => (12 - i).toNat) (fun i k0 hI hk => ?_) ⟨by omega, by omega⟩
  dsimp only
  refine cond_i (fun q => ?_) (fun q => ?_)
  · have q := of_decide_eq_true q
    have hw : IntKind.i64.wrap (i + 1) = i + 1 := i64_id (by omega) (by omega)
    have hnext := hk (i + 1) ⟨by omega, by omega⟩ (by omega)
    rw [hw]
    refine ck_i (by simp; omega) (ck_i ?_ (round54 h hnext))
    rw [Bool.and_eq_true]
    refine ⟨decide_eq_true (show i.toNat * 1 + 1 ≤ 12 by omega), getD_ok (p := okK (some .i64)) rfl ?_⟩
    show i.toNat * 1 < 12
    omega
  · rcases edges_end h with ⟨rfl, rfl⟩ | ⟨h1, h2, h3⟩
    · exact rfl
    · refine cond_i (fun _ => rfl) (fun _ => ⟨by simpa using h1, by simpa using h2, leaf (by simpa using h3)⟩)

theorem sum54_ok : ∀ vs r, sum54 vs = some (true, r) → SoundAt Try.prog 54 vs r := by
  intro vs r h
  unfold sum54 at h
  split at h
  · simp only [Option.some.injEq, Prod.mk.injEq, Bool.and_eq_true] at h
    obtain ⟨⟨⟨⟨⟨h0, h1⟩, h2⟩, h3⟩, h4⟩, rfl⟩ := h
    rename_i v0 v1 v2 v3
    refine okO_elim h0 (motive := fun v => SoundAt Try.prog 54 [v, v1, v2, v3] _) ?_
    refine okA_elim h1 (motive := fun v => SoundAt Try.prog 54 [_, v, v2, v3] _) ?_
    refine okA_elim h2 (motive := fun v => SoundAt Try.prog 54 [_, _, v, v3] _) ?_
    refine okA_elim h3 (motive := fun v => SoundAt Try.prog 54 [_, _, _, v] _) ?_
    exact f54_sound _ _ _ _ _ _ _ cx54_ok (f54_true _ _ _ _ _ _ _ h4)
  · cases h

theorem kind8 (a : Int) : 0 ≤ IntKind.i64.wrap ((IntKind.u64.wrap a).tmod 8) ∧ IntKind.i64.wrap ((IntKind.u64.wrap a).tmod 8) ≤ 7 := by
  have h0 := u64_nonneg a
  have h1 : (IntKind.u64.wrap a).tmod 8 = IntKind.u64.wrap a % 8 := Int.tmod_eq_emod_of_nonneg h0
  rw [h1, i64_id (n := IntKind.u64.wrap a % 8) (by omega) (by omega)]
  omega

def turnP (k : Int) : Int := if k = 3 then 5 else if k = 4 then 6 else if k = 5 then 3 else if k = 6 then 4 else k
theorem turn_eq {k : Int} (hk : 1 ≤ k ∧ k ≤ 6) : f55_0 k = turnP k ∧ f55_ok k = true := by
  have hk : k = 1 ∨ k = 2 ∨ k = 3 ∨ k = 4 ∨ k = 5 ∨ k = 6 := by omega
  rcases hk with rfl | rfl | rfl | rfl | rfl | rfl <;> exact ⟨rfl, rfl⟩

theorem test_turn {k a b c d : Int} (hk : 1 ≤ k ∧ k ≤ 6) (h : a ≤ b) (h' : c ≤ d) : (testP k a b c d).2 = (testP (turnP k) c d a b).1 := by
  have hk : k = 1 ∨ k = 2 ∨ k = 3 ∨ k = 4 ∨ k = 5 ∨ k = 6 := by omega
  unfold testP
  rw [if_neg (show ¬ (a > b ∨ c > d) by omega), if_neg (show ¬ (c > d ∨ a > b) by omega)]
  rcases hk with rfl | rfl | rfl | rfl | rfl | rfl <;> simp only [turnP, Int.reduceEq, if_true, if_false]
  unfold mI
  rw [if_neg (show ¬ (a > b ∨ c > d) by omega), if_neg (show ¬ (c > d ∨ a > b) by omega), show max a c = max c a by omega, show min b d = min d b by omega]

theorem edges_of {k a b c d : Int} (hk : 1 ≤ k ∧ k ≤ 6) (ha : In a) (hb : In b) (hc : In c) (hd : In d) (h : a ≤ b) (h' : c ≤ d) : edgesP k a b c d (testP k a b c d).1.1 (testP k a b c d).1.2 = true := by
  unfold In at *
  simp only [edgesP, inB, Bool.and_eq_true, decide_eq_true_eq, beq_self_eq_true, and_true]
  omega

theorem tests_pure (x y u v k : Int) (hx : In x) (hy : In y) (hu : In u) (hv : In v) (hk : 0 ≤ k ∧ k ≤ 7) (a0_0 a0_1 a1_0 a1_1 a2 : Int) (e0 : f31_0 a0_0 a0_1 = x) (e1 : f31_1 a0_0 a0_1 = y) (e2 : f31_0 a1_0 a1_1 = u) (e3 : f31_1 a1_0 a1_1 = v)
    (e4 : IntKind.i64.wrap ((IntKind.u64.wrap a2).tmod 8) = k) : f14_wp a0_0 a0_1 a1_0 a1_1 a2 (fun r' => r' = tt) := by
  have e30 : ∀ a b, f30_0 a b = a := fun _ _ => rfl
  have e31 : ∀ a b, f30_1 a b = b := fun _ _ => rfl
  have e34 : ∀ a b, f34_0 a b = a := fun _ _ => rfl
  have e35 : ∀ a b, f34_1 a b = b := fun _ _ => rfl
  obtain ⟨t0, t1, t2, t3⟩ := test_eq k hx hy hu hv
  unfold f14_wp
  simp only [e30, e31, e34, e35, e0, e1, e2, e3, e4, t0, t1, t2, t3]
  have none : k = 0 ∨ k = 7 ∨ x > y ∨ u > v → testP k x y u v = ((1, 0), (1, 0)) := fun h => by
    unfold testP
    by_cases hh : x > y ∨ u > v
    · rw [if_pos hh]
    · rw [if_neg hh, if_neg (by omega), if_neg (by omega), if_neg (by omega), if_neg (by omega), if_neg (by omega), if_neg (by omega)]
  have fin : testP k x y u v = ((1, 0), (1, 0)) → ((testP k x y u v).1.1 == 1 && ((testP k x y u v).1.2 == 0 && true)) = true ∧ (fun r' => r' = tt) (Ret.mk (.one (.v (.bool ((testP k x y u v).2.1 == 1 && ((testP k x y u v).2.2 == 0 && true))))) []) := fun h => by
    rw [h]; exact ⟨rfl, rfl⟩
  refine cond_i (fun q => fin (none (.inl (by simpa using q)))) (fun q0 => cond_i (fun q => fin (none (.inr (.inl (by simpa using q))))) (fun q7 => cond_i (fun q => fin (none (.inr (.inr (.inl (by simpa using q)))))) (fun qx => cond_i (fun q => fin (none (.inr (.inr (.inr (by simpa using q)))))) (fun qu => ?_))))
  simp only [beq_eq_false_iff_ne, ne_eq, decide_eq_false_iff_not] at q0 q7 qx qu
  have hk6 : 1 ≤ k ∧ k ≤ 6 := by omega
  have E1 := edges_of hk6 hx hy hu hv (by omega) (by omega)
  have hk7 : 1 ≤ turnP k ∧ turnP k ≤ 6 := by unfold turnP; (repeat' split) <;> omega
  have E2 := edges_of hk7 hu hv hx hy (by omega) (by omega)
  rw [← test_turn hk6 (by omega) (by omega)] at E2
  rw [E1, (turn_eq hk6).1, (turn_eq hk6).2, E2]
  rfl

theorem f14_true (a0_0 a0_1 a1_0 a1_1 a2 : Int) (_ : (Lit.int .i64 a0_0).wf = true) (_ : (Lit.int .i64 a0_1).wf = true) (_ : (Lit.int .i64 a1_0).wf = true) (_ : (Lit.int .i64 a1_1).wf = true) (_ : (Lit.int .i64 a2).wf = true) : f14_wp a0_0 a0_1 a1_0 a1_1 a2 (fun r' => r' = tt) :=
  tests_pure _ _ _ _ _ (bend0 ..) (bend1 ..) (bend0 ..) (bend1 ..) (kind8 a2) _ _ _ _ _ rfl rfl rfl rfl rfl

theorem cx14_ok : CtxOk Try.prog cx14.q.ctx := (ctx_cons (g := 31) (ctx_cons (g := 30) (ctx_cons (g := 53) (ctx_cons (g := 28) (ctx_cons (g := 43) (ctx_cons (g := 34) (ctx_cons (g := 54) (ctx_cons (g := 55) ctx_nil (by kernel_rfl) sum55_ok) (by kernel_rfl) sum54_ok) (by kernel_rfl) sum34_ok) (by kernel_rfl) sum43_ok) (by kernel_rfl) sum28_ok) (by kernel_rfl) sum53_ok) (by kernel_rfl) sum30_ok) (by kernel_rfl) sum31_ok)

end Go.Proofs.Ytlfojobligplkaa.Fn
