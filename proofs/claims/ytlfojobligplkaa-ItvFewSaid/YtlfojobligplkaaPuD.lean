import Derived.Test.YtlfojobligplkaaWDo
/- What is told of products, quotients and of each operation of Itvs is so. No conditions beyond those named. -/
namespace Go.Proofs.Ytlfojobligplkaa.Fn
open Go Go.Proofs.Ytlfojobligplkaa.Mt

theorem sum63_ok : ∀ vs r, sum63 vs = some (true, r) → SoundAt Try.prog 63 vs r := by
  intro vs r h
  unfold sum63 at h
  split at h
  · rename_i v0 v1 v2
    split at h
    · rename_i hf
      simp only [Option.some.injEq, Prod.mk.injEq, Bool.and_eq_true] at h
      obtain ⟨⟨h1, h2⟩, rfl⟩ := h
      have e0 := fn_const hf
      subst e0
      refine okA_elim h1 (motive := fun v => SoundAt Try.prog 63 [_, v, v2] _) ?_
      refine okA_elim h2 (motive := fun v => SoundAt Try.prog 63 [_, _, v] _) ?_
      exact f63m_sound _ _ _ _ cx63m_ok rfl
    · rename_i hf
      simp only [Option.some.injEq, Prod.mk.injEq, Bool.and_eq_true] at h
      obtain ⟨⟨⟨⟨h1, h2⟩, h3⟩, h4⟩, rfl⟩ := h
      have e0 := fn_const hf
      subst e0
      refine okA_elim h1 (motive := fun v => SoundAt Try.prog 63 [_, v, v2] _) ?_
      refine okA_elim h2 (motive := fun v => SoundAt Try.prog 63 [_, _, v] _) ?_
      refine f63q_sound _ _ _ _ cx63q_ok ?_
      unfold f63q_wp
      have q3 : ∀ a, f75_ok a (intC (cellA v2 0)) = true := fun a => by unfold f75_ok; rw [h3]; rfl
      have q4 : ∀ a, f75_ok a (intC (cellA v2 1)) = true := fun a => by unfold f75_ok; rw [h4]; rfl
      have b : ∀ {q : Bool}, q = true → (q && true && true && true && true && true) = true := fun h => by rw [h]; rfl
      exact ck_i (b (q3 _)) (ck_i (b (q4 _)) (ck_i (b (q3 _)) (ck_i (b (q4 _)) rfl)))
    · cases h
  · cases h

theorem cx74_ok : CtxOk Try.prog cx74.q.ctx := (ctx_cons (g := 43) (ctx_cons (g := 24) (ctx_cons (g := 40) (ctx_cons (g := 29) (ctx_cons (g := 63) (ctx_cons (g := 62) (ctx_cons (g := 45) ctx_nil (by kernel_rfl) sum45_ok) (by kernel_rfl) sum62_ok) (by kernel_rfl) sum63_ok) (by kernel_rfl) sum29_ok) (by kernel_rfl) sum40_ok) (by kernel_rfl) sum24_ok) (by kernel_rfl) sum43_ok)

theorem cut_eq (a b : Int) : f62_0 a b = (ofI a b).1 ∧ f62_1 a b = (ofI a b).2 ∧ f62_2 a b = outI a b ∧ f62_3 a b = false := by
  have h := cut_same a b
  refine ⟨?_, ?_, ?_, h.2.2.2⟩
  · unfold f62_0
    rw [(of_eq a b).1]
    cases decide (a < Int.negSucc 2147483647) <;> rfl
  · unfold f62_1
    rw [(of_eq a b).2]
    cases decide (a < Int.negSucc 2147483647) <;> rfl
  · unfold f62_2 outI
    rw [show Int.negSucc 2147483647 = -2147483648 from rfl, show Int.ofNat 2147483647 = 2147483647 from rfl]
    cases decide (a < -2147483648) <;> rfl

theorem mI_neg {c d : Int} (h : ¬ (mI c d (-2147483648) (-1)).1 > (mI c d (-2147483648) (-1)).2) : (mI c d (-2147483648) (-1)).1 ≤ -1 ∧ (mI c d (-2147483648) (-1)).2 ≤ -1 := by
  unfold mI nI at *
  (repeat' split at h) <;> (repeat' split) <;> simp only [] at h ⊢ <;> omega
theorem mI_pos {c d : Int} (h : ¬ (mI c d 1 2147483647).1 > (mI c d 1 2147483647).2) : (mI c d 1 2147483647).1 ≥ 1 ∧ (mI c d 1 2147483647).2 ≥ 1 := by
  unfold mI nI at *
  (repeat' split at h) <;> (repeat' split) <;> simp only [] at h ⊢ <;> omega

theorem round74 {a b P Q : Int} {ov : Bool} {lo hi i : Int} {k0 : Bool × Int × Int × Int → Prop} (hz : ¬ P > Q → P ≠ 0 ∧ Q ≠ 0)
    (hk : k0 ((quoS a b (lo, hi, ov) (P, Q)).2.2, i, (quoS a b (lo, hi, ov) (P, Q)).1, (quoS a b (lo, hi, ov) (P, Q)).2.1)) :
    (bif f29_0 P Q then (k0 (ov, i, lo, hi)) else (bif P != 0 && Q != 0 && true && true && true && true && true then (bif ov then (k0 (true, i, (f45_0 lo hi (f62_0 (cor f75_0 a b P Q).1 (cor f75_0 a b P Q).2) (f62_1 (cor f75_0 a b P Q).1 (cor f75_0 a b P Q).2)), (f45_1 lo hi (f62_0 (cor f75_0 a b P Q).1 (cor f75_0 a b P Q).2) (f62_1 (cor f75_0 a b P Q).1 (cor f75_0 a b P Q).2)))) else (k0 ((f62_2 (cor f75_0 a b P Q).1 (cor f75_0 a b P Q).2), i, (f45_0 lo hi (f62_0 (cor f75_0 a b P Q).1 (cor f75_0 a b P Q).2) (f62_1 (cor f75_0 a b P Q).1 (cor f75_0 a b P Q).2)), (f45_1 lo hi (f62_0 (cor f75_0 a b P Q).1 (cor f75_0 a b P Q).2) (f62_1 (cor f75_0 a b P Q).1 (cor f75_0 a b P Q).2))))) else False)) := by
  by_cases h : P > Q
  · have e : quoS a b (lo, hi, ov) (P, Q) = (lo, hi, ov) := if_pos h
    rw [e] at hk
    rw [empty_iff, decide_eq_true h]
    exact hk
  · rw [empty_iff, decide_eq_false h]
    obtain ⟨z1, z2⟩ := hz h
    have e : quoS a b (lo, hi, ov) (P, Q) = _ := if_neg h
    rw [e] at hk
    refine ck_i (by simp [z1, z2]) ?_
    obtain ⟨c0, c1, c2, _⟩ := cut_eq (cor f75_0 a b P Q).1 (cor f75_0 a b P Q).2
    rw [c0, c1, c2, (join_eq ..).1, (join_eq ..).2]
    cases ov with
    | true => exact hk
    | false => exact hk

theorem f74_spec (a b c d : Int) : f74_wp a b c d (fun r' => r' = Ret.mk (.tup [.agg [.v (.int .i64 (quoP a b c d).1), .v (.int .i64 (quoP a b c d).2.1)], .agg [.v (.bool (quoP a b c d).2.2), .v (.bool false)]]) []) := by
  unfold f74_wp
  refine LoopP.ind (I := fun z => (z.2.1 = 0 ∧ (z.2.2.1, z.2.2.2, z.1) = (1, 0, false)) ∨ (z.2.1 = 1 ∧ (z.2.2.1, z.2.2.2, z.1) = quoS a b (1, 0, false) (mI c d (-2147483648) (-1))) ∨ (z.2.1 = 2 ∧ (z.2.2.1, z.2.2.2, z.1) = quoP a b c d)) (μ := fun z => (2 - z.2.1).toNat) ?_ (.inl ⟨rfl, rfl⟩)
  rintro ⟨ov, i, lo, hi⟩ k0 hI hk
  dsimp only at hI
  rcases hI with ⟨rfl, he⟩ | ⟨rfl, he⟩ | ⟨rfl, he⟩
  · simp only [Prod.mk.injEq] at he
    obtain ⟨rfl, rfl, rfl⟩ := he
    show (bif f29_0 (f40_0 c d (-2147483648) (-1)) (f40_1 c d (-2147483648) (-1)) then _ else _)
    rw [(meet_eq c d (-2147483648) (-1)).1, (meet_eq c d (-2147483648) (-1)).2]
    refine round74 (i := 1) (fun h => ?_) (hk _ (.inr (.inl ⟨rfl, rfl⟩)) (show (2 - (1 : Int)).toNat < (2 - (0 : Int)).toNat by decide))
    have := mI_neg h
    omega
  · show (bif f29_0 (f40_0 c d 1 2147483647) (f40_1 c d 1 2147483647) then _ else _)
    rw [(meet_eq c d 1 2147483647).1, (meet_eq c d 1 2147483647).2]
    refine round74 (i := 2) (fun h => ?_) (hk _ (.inr (.inr ⟨rfl, ?_⟩)) (show (2 - (2 : Int)).toNat < (2 - (1 : Int)).toNat by decide))
    · have := mI_pos h
      omega
    · show _ = quoS a b _ _
      rw [← he]
  · show Ret.mk _ _ = _
    rw [← he]

theorem sum74_ok : ∀ vs r, sum74 vs = some (true, r) → SoundAt Try.prog 74 vs r := by
  intro vs r h
  unfold sum74 at h
  split at h
  · simp only [Option.some.injEq, Prod.mk.injEq, Bool.and_eq_true] at h
    obtain ⟨⟨h0, h1⟩, rfl⟩ := h
    rename_i v0 v1
    refine okA_elim h0 (motive := fun v => SoundAt Try.prog 74 [v, v1] _) ?_
    refine okA_elim h1 (motive := fun v => SoundAt Try.prog 74 [_, v] _) ?_
    exact f74_sound _ _ _ _ cx74_ok (f74_spec _ _ _ _)
  · cases h

theorem cx65_ok : CtxOk Try.prog cx65.q.ctx := (ctx_cons (g := 27) (ctx_cons (g := 21) (ctx_cons (g := 43) (ctx_cons (g := 73) (ctx_cons (g := 74) ctx_nil (by kernel_rfl) sum74_ok) (by kernel_rfl) sum73_ok) (by kernel_rfl) sum43_ok) (by kernel_rfl) sum21_ok) (by kernel_rfl) sum27_ok)


theorem max2_eq (p q : Int) : max2 p q = max p q := by unfold max2; split <;> omega
theorem min2_eq (p q : Int) : min2 p q = min p q := by unfold min2; split <;> omega

theorem rest_eq {a b c d : Int} (_ha : In a) (_hb : In b) (hc : In c) (hd : In d) : f73_0 a b c d = (restP a b c d).1 ∧ f73_1 a b c d = (restP a b c d).2 := by
  unfold In at *
  have w1 : IntKind.i64.wrap (0 - c) = 0 - c := i64_id (by omega) (by omega)
  have w2 : IntKind.i64.wrap (0 - d) = 0 - d := i64_id (by omega) (by omega)
  by_cases h : a = b ∧ c = d
  · obtain ⟨rfl, rfl⟩ := h
    have e : restP a a c c = ofI (a.tmod c) (a.tmod c) := if_pos ⟨rfl, rfl⟩
    rw [e]
    unfold f73_0 f73_1
    simp only [beq_self_eq_true, cond_true]
    exact ⟨(of_eq _ _).1, (of_eq _ _).2⟩
  · have e : restP a b c d = _ := if_neg h
    rw [e]
    dsimp only
    have m : -2147483648 ≤ max (max (max (0 - c) d) c) (0 - d) - 1 ∧ max (max (max (0 - c) d) c) (0 - d) - 1 ≤ 2147483648 := by omega
    have hM : max2 (max2 (max2 (IntKind.i64.wrap (0 - c)) d) c) (IntKind.i64.wrap (0 - d)) = max (max (max (0 - c) d) c) (0 - d) := by rw [w1, w2, max2_eq, max2_eq, max2_eq]
    have w3 : IntKind.i64.wrap (max (max (max (0 - c) d) c) (0 - d) - 1) = max (max (max (0 - c) d) c) (0 - d) - 1 := i64_id (by omega) (by omega)
    have w4 : IntKind.i64.wrap (0 - (max (max (max (0 - c) d) c) (0 - d) - 1)) = 0 - (max (max (max (0 - c) d) c) (0 - d) - 1) := i64_id (by omega) (by omega)
    have e0 : f73_0 a b c d = f24_0 (max2 (min2 a 0) (IntKind.i64.wrap (0 - IntKind.i64.wrap (max2 (max2 (max2 (IntKind.i64.wrap (0 - c)) d) c) (IntKind.i64.wrap (0 - d)) - 1)))) (min2 (max2 b 0) (IntKind.i64.wrap (max2 (max2 (max2 (IntKind.i64.wrap (0 - c)) d) c) (IntKind.i64.wrap (0 - d)) - 1))) := by
      unfold f73_0
      by_cases h1 : a = b
      · have h2 : ¬ c = d := fun h2 => h ⟨h1, h2⟩
        rw [show (a == b) = true by simpa using h1, show (c == d) = false by simpa using h2]; rfl
      · rw [show (a == b) = false by simpa using h1]; rfl
    have e1 : f73_1 a b c d = f24_1 (max2 (min2 a 0) (IntKind.i64.wrap (0 - IntKind.i64.wrap (max2 (max2 (max2 (IntKind.i64.wrap (0 - c)) d) c) (IntKind.i64.wrap (0 - d)) - 1)))) (min2 (max2 b 0) (IntKind.i64.wrap (max2 (max2 (max2 (IntKind.i64.wrap (0 - c)) d) c) (IntKind.i64.wrap (0 - d)) - 1))) := by
      unfold f73_1
      by_cases h1 : a = b
      · have h2 : ¬ c = d := fun h2 => h ⟨h1, h2⟩
        rw [show (a == b) = true by simpa using h1, show (c == d) = false by simpa using h2]; rfl
      · rw [show (a == b) = false by simpa using h1]; rfl
    rw [e0, e1, hM, w3, w4, (of_eq _ _).1, (of_eq _ _).2, max2_eq, min2_eq, min2_eq, max2_eq]
    exact ⟨rfl, rfl⟩

theorem rest_ok {a b c d : Int} (h : ¬ (c = 0 ∧ d = 0)) : f73_ok a b c d = true := by
  unfold f73_ok
  by_cases h1 : a = b
  · by_cases h2 : c = d
    · have : c ≠ 0 := by omega
      simp [h1, h2]; omega
    · simp [h1, h2]
  · simp [h1]

theorem has0_eq (c d : Int) : f27_0 c d 0 = (decide (c ≤ 0) && decide (0 ≤ d)) := by
  unfold f27_0
  cases decide (c ≤ 0) <;> rfl

theorem f65_spec (k a b c d : Int) (ha : In a) (hb : In b) (hc : In c) (hd : In d) :
    f65_wp k a b c d (fun r' => r' = Ret.mk (.tup [.agg [.v (.int .i64 (divP k a b c d).1), .v (.int .i64 (divP k a b c d).2.1)], .agg [.v (.bool (divP k a b c d).2.2.1), .v (.bool (divP k a b c d).2.2.2)]]) []) := by
  unfold f65_wp
  by_cases h : c = 0 ∧ d = 0
  · have e : divP k a b c d = _ := if_pos h
    rw [e]
    obtain ⟨rfl, rfl⟩ := h
    exact rfl
  · have e : divP k a b c d = _ := if_neg h
    rw [e]
    have h0 : (c == 0 && (d == 0 && true)) = false := by simp; omega
    rw [h0]
    rw [(rest_eq ha hb hc hd).1, (rest_eq ha hb hc hd).2, rest_ok h, has0_eq]
    by_cases hk : k = 8
    · rw [if_pos hk, show (k == 8) = true by simpa using hk]
      exact rfl
    · rw [if_neg hk, show (k == 8) = false by simpa using hk]
      exact rfl

theorem inB_iff {a : Int} : inB a = true ↔ In a := by simp [inB, In]

theorem sum65_ok : ∀ vs r, sum65 vs = some (true, r) → SoundAt Try.prog 65 vs r := by
  intro vs r h
  unfold sum65 at h
  split at h
  · rename_i v0 v1 v2
    simp only [Option.some.injEq, Prod.mk.injEq, Bool.and_eq_true, inB_iff, decide_eq_true_eq] at h
    obtain ⟨⟨⟨⟨⟨⟨⟨⟨⟨h0, h1⟩, h2⟩, i1⟩, i2⟩, i3⟩, i4⟩, _⟩, _⟩, rfl⟩ := h
    refine okO_elim h0 (motive := fun v => SoundAt Try.prog 65 [v, v1, v2] _) ?_
    refine okA_elim h1 (motive := fun v => SoundAt Try.prog 65 [_, v, v2] _) ?_
    refine okA_elim h2 (motive := fun v => SoundAt Try.prog 65 [_, _, v] _) ?_
    exact f65_sound _ _ _ _ _ cx65_ok (f65_spec _ _ _ _ _ i1 i2 i3 i4)
  · cases h

theorem cx25w_ok : CtxOk Try.prog cx25w.q.ctx := (ctx_cons (g := 29) (ctx_cons (g := 43) (ctx_cons (g := 61) (ctx_cons (g := 40) (ctx_cons (g := 62) (ctx_cons (g := 63) (ctx_cons (g := 65) ctx_nil (by kernel_rfl) sum65_ok) (by kernel_rfl) sum63_ok) (by kernel_rfl) sum62_ok) (by kernel_rfl) sum40_ok) (by kernel_rfl) sum61_ok) (by kernel_rfl) sum43_ok) (by kernel_rfl) sum29_ok)


theorem f25_spec (k a b c d : Int) (ha : In a) (hb : In b) (hc : In c) (hd : In d) :
    f25w_wp k a b c d (fun r' => r' = Ret.mk (.tup [.agg [.v (.int .i64 (doP k a b c d).1), .v (.int .i64 (doP k a b c d).2.1)], .agg [.v (.bool (doP k a b c d).2.2.1), .v (.bool (doP k a b c d).2.2.2)]]) []) := by
  unfold f25w_wp
  have z0 : f61_0 = -2147483648 := rfl
  have z1 : f61_1 = 2147483647 := rfl
  by_cases h : a > b
  · have e : doP k a b c d = _ := if_pos (.inl h)
    rw [e, empty_iff a b, decide_eq_true h]
    exact rfl
  · by_cases h' : c > d
    · have e : doP k a b c d = _ := if_pos (.inr h')
      rw [e, empty_iff a b, decide_eq_false h, empty_iff c d, decide_eq_true h']
      exact rfl
    · have e : doP k a b c d = _ := if_neg (by omega)
      rw [e]
      obtain ⟨m0, m1⟩ := meet_all ha hb (by omega)
      obtain ⟨m2, m3⟩ := meet_all hc hd (by omega)
      rw [z0, z1] at m0 m1 m2 m3
      simp only [m0, m1, m2, m3, empty_iff, decide_eq_false h, decide_eq_false h', cond_false]
      have hIn := And.intro (And.intro ha hb) (And.intro hc hd)
      unfold In at hIn
      by_cases k4 : k = 4
      · subst k4
        have w1 : IntKind.i64.wrap (a + c) = a + c := i64_id (by omega) (by omega)
        have w2 : IntKind.i64.wrap (b + d) = b + d := i64_id (by omega) (by omega)
        obtain ⟨c0, c1, c2, c3⟩ := cut_eq (a + c) (b + d)
        simp only [show ((4 : Int) == 4) = true from rfl, cond_true, if_true, w1, w2, c0, c1, c2, c3]
      rw [if_neg k4, show (k == 4) = false by simpa using k4]
      by_cases k5 : k = 5
      · subst k5
        have w1 : IntKind.i64.wrap (a - d) = a - d := i64_id (by omega) (by omega)
        have w2 : IntKind.i64.wrap (b - c) = b - c := i64_id (by omega) (by omega)
        obtain ⟨c0, c1, c2, c3⟩ := cut_eq (a - d) (b - c)
        simp only [show ((5 : Int) == 5) = true from rfl, cond_true, cond_false, if_true, w1, w2, c0, c1, c2, c3]
      rw [if_neg k5, show (k == 5) = false by simpa using k5]
      by_cases k6 : k = 6
      · subst k6
        obtain ⟨c0, c1, c2, c3⟩ := cut_eq (cor f64_0 a b c d).1 (cor f64_0 a b c d).2
        simp only [show ((6 : Int) == 6) = true from rfl, cond_true, cond_false, if_true, c0, c1, c2, c3]
      rw [if_neg k6, show (k == 6) = false by simpa using k6]
      have hc65 : ∀ x y : Bool, (inB a && inB b && inB c && inB d && decide (a ≤ b) && decide (c ≤ d) && x) = x := fun x y => by
        rw [inB_iff.2 ha, inB_iff.2 hb, inB_iff.2 hc, inB_iff.2 hd, decide_eq_true (show a ≤ b by omega), decide_eq_true (show c ≤ d by omega)]; rfl
      have hc65' : (inB a && inB b && inB c && inB d && decide (a ≤ b) && decide (c ≤ d)) = true := by
        rw [inB_iff.2 ha, inB_iff.2 hb, inB_iff.2 hc, inB_iff.2 hd, decide_eq_true (show a ≤ b by omega), decide_eq_true (show c ≤ d by omega)]; rfl
      by_cases k7 : k = 7
      · subst k7
        simp only [hc65', show ((7 : Int) == 7) = true from rfl, cond_true, cond_false, Bool.and_true, true_or, if_true]
      rw [show (k == 7) = false by simpa using k7]
      by_cases k8 : k = 8
      · subst k8
        simp only [hc65', show ((8 : Int) == 8) = true from rfl, cond_true, cond_false, Bool.and_true, or_true, if_true]
      rw [if_neg (by omega), show (k == 8) = false by simpa using k8]
      exact rfl

theorem sum25w_ok : ∀ vs r, sum25w vs = some (true, r) → SoundAt Try.prog 25 vs r := by
  intro vs r h
  unfold sum25w at h
  split at h
  · rename_i v0 v1 v2
    simp only [Option.some.injEq, Prod.mk.injEq, Bool.and_eq_true, inB_iff] at h
    obtain ⟨⟨⟨⟨⟨⟨⟨h0, h1⟩, h2⟩, i1⟩, i2⟩, i3⟩, i4⟩, rfl⟩ := h
    refine okO_elim h0 (motive := fun v => SoundAt Try.prog 25 [v, v1, v2] _) ?_
    refine okA_elim h1 (motive := fun v => SoundAt Try.prog 25 [_, v, v2] _) ?_
    refine okA_elim h2 (motive := fun v => SoundAt Try.prog 25 [_, _, v] _) ?_
    exact f25w_sound _ _ _ _ _ cx25w_ok (f25_spec _ _ _ _ _ i1 i2 i3 i4)
  · cases h

end Go.Proofs.Ytlfojobligplkaa.Fn
