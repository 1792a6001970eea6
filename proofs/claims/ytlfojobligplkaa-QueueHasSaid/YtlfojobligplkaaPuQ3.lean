import Derived.Test.YtlfojobligplkaaPuQ2
/- What is told of the functions of Elems is so: looking at two, at messages. Conditions: those that each lemma names. -/
namespace Go.Proofs.Ytlfojobligplkaa.Fn
open Go Go.RowKit Go.Proofs.Ytlfojobligplkaa.Mt
set_option linter.unusedVariables false
set_option linter.unusedSimpArgs false

theorem allR_succ (p : Nat → Bool) (k : Nat) : (List.range (k + 1)).all p = ((List.range k).all p && p k) := by
  simp [List.range_succ]
theorem allR_false {p : Nat → Bool} {i m : Nat} (h : i < m) (hp : p i = false) : (List.range m).all p = false := by
  rw [List.all_eq_false]
  exact ⟨i, by simpa using h, by simp [hp]⟩
theorem pairs_ext {n : Nat} {l l' : List Int} (hl : l.length = n * 2) (hl' : l'.length = n * 2) (h : ∀ j, j < n → pairAt l j = pairAt l' j) : l = l' := by
  apply List.ext_getElem (by omega)
  intro i h1 h2
  have := h (i / 2) (by omega)
  simp only [pairAt, Prod.mk.injEq, List.getD_eq_getElem?_getD] at this
  by_cases e : i % 2 = 0
  · have k := this.1
    rw [show i / 2 * 2 = i by omega, List.getElem?_eq_getElem h1, List.getElem?_eq_getElem h2] at k
    exact k
  · have k := this.2
    rw [show i / 2 * 2 + 1 = i by omega, List.getElem?_eq_getElem h1, List.getElem?_eq_getElem h2] at k
    exact k

theorem bo {p q : Bool} (h : p = q) : (fun r' => r' = boRet q) (Ret.mk (.one (.v (.bool p))) []) := by rw [h]; rfl

theorem f46_spec (lo hi : Int) (n : Nat) (l : List Int) (lo2 hi2 : Int) (n2 : Nat) (l2 : List Int) (hl : l.length = n * 2) (hl2 : l2.length = n2 * 2) (hn : n ≤ 8796093022208) :
    f46_wp lo hi n (ic .i64 l) lo2 hi2 n2 (ic .i64 l2) (fun r' => r' = boRet (sameP lo hi n l lo2 hi2 n2 l2)) := by
  unfold f46_wp
  refine cond_i (fun q => bo ?_) (fun q => cond_i (fun q2 => bo ?_) (fun q2 => ?_))
  · unfold sameP
    symm
    rw [decide_eq_false_iff_not]
    rintro ⟨rfl, rfl, _⟩
    simp at q
  · unfold sameP
    symm
    rw [decide_eq_false_iff_not]
    rintro ⟨_, _, rfl, _⟩
    simp at q2
  have q : lo = lo2 ∧ hi = hi2 := by simpa using q
  have q2 : n = n2 := by
    have q2 : (n : Int) = n2 := by simpa using q2
    omega
  obtain ⟨rfl, rfl⟩ := q
  subst q2
  refine LoopP.ind (I := fun i => 0 ≤ i ∧ i ≤ (n : Int) ∧ ∀ j, j < i.toNat → pairAt l j = pairAt l2 j) (μ := fun i => ((n : Int) - i).toNat) ?_ ⟨by omega, by omega, fun j h => by omega⟩
  intro i k0 ⟨i1, i2, i3⟩ hk
  dsimp only
  refine cond_i (fun q => ?_) (fun q => ?_)
  · have q := of_decide_eq_true q
    obtain ⟨r1, r2, r3, r4⟩ := rd2 hl i1 q
    obtain ⟨s1, s2, s3, s4⟩ := rd2 hl2 i1 q
    have w : IntKind.i64.wrap (i + 1) = i + 1 := i64_id (by omega) (by omega)
    refine ck_i r1 (ck_i r2 (ck_i s1 (ck_i s2 ?_)))
    rw [r3, r4, s3, s4, w]
    refine cond_i (fun q3 => bo ?_) (fun q3 => hk _ ⟨by omega, by omega, fun j hj => ?_⟩ (by omega))
    · unfold sameP
      symm
      rw [decide_eq_false_iff_not]
      rintro ⟨_, _, _, rfl⟩
      simp at q3
    · by_cases e : j = i.toNat
      · subst e
        have : (pairAt l i.toNat).1 = (pairAt l2 i.toNat).1 ∧ (pairAt l i.toNat).2 = (pairAt l2 i.toNat).2 := by simpa using q3
        exact Prod.ext this.1 this.2
      · exact i3 j (by omega)
  · have q := of_decide_eq_false q
    refine bo ?_
    unfold sameP
    symm
    rw [decide_eq_true_eq]
    exact ⟨rfl, rfl, rfl, pairs_ext hl hl2 fun j hj => i3 j (by omega)⟩

theorem f23_spec (lo hi : Int) (n : Nat) (l : List Int) (lo2 hi2 : Int) (n2 : Nat) (l2 : List Int) (hl : l.length = n * 2) (hl2 : l2.length = n2 * 2) (hn : n ≤ 8796093022208) :
    f23_wp lo hi n (ic .i64 l) lo2 hi2 n2 (ic .i64 l2) (fun r' => r' = boRet (withinP lo hi n l lo2 hi2 n2 l2)) := by
  have hw : ∀ a b c d, f42_0 a b c d = withB (a, b) (c, d) := fun a b c d => by
    rw [within_eq]; unfold withB
    rw [Bool.decide_or, Bool.decide_and]
  unfold f23_wp
  refine cond_i (fun q => bo ?_) (fun q => cond_i (fun q2 => bo ?_) (fun q2 => ?_))
  · unfold withinP
    have : ¬ n = n2 := by intro e; subst e; simp at q
    rw [decide_eq_false this]; rfl
  · unfold withinP
    rw [hw] at q2
    have : withB (lo, hi) (lo2, hi2) = false := by simpa using q2
    rw [this, Bool.and_false]; rfl
  have q : n = n2 := by
    have q : (n : Int) = n2 := by simpa using q
    omega
  subst q
  rw [hw] at q2
  have q2 : withB (lo, hi) (lo2, hi2) = true := by simpa using q2
  refine LoopP.ind (I := fun i => 0 ≤ i ∧ i ≤ (n : Int) ∧ (List.range i.toNat).all (fun j => withB (pairAt l j) (pairAt l2 j)) = true) (μ := fun i => ((n : Int) - i).toNat) ?_ ⟨by omega, by omega, rfl⟩
  intro i k0 ⟨i1, i2, i3⟩ hk
  dsimp only
  refine cond_i (fun q => ?_) (fun q => ?_)
  · have q := of_decide_eq_true q
    obtain ⟨r1, r2, r3, r4⟩ := rd2 hl i1 q
    obtain ⟨s1, s2, s3, s4⟩ := rd2 hl2 i1 q
    have w : IntKind.i64.wrap (i + 1) = i + 1 := i64_id (by omega) (by omega)
    refine ck_i r1 (ck_i r2 (ck_i s1 (ck_i s2 ?_)))
    rw [r3, r4, s3, s4, w, hw]
    refine cond_i (fun q3 => bo ?_) (fun q3 => hk _ ⟨by omega, by omega, ?_⟩ (by omega))
    · unfold withinP
      rw [allR_false (i := i.toNat) (m := n) (by omega) (by simpa using q3), Bool.and_false]
    · rw [show (i + 1).toNat = i.toNat + 1 by omega, allR_succ, i3, show withB (pairAt l i.toNat) (pairAt l2 i.toNat) = true by simpa using q3]; rfl
  · have q := of_decide_eq_false q
    refine bo ?_
    have e : i.toNat = n := by omega
    rw [e] at i3
    unfold withinP
    rw [i3, q2]; simp

theorem msg_read {n m : Nat} {l q : List Int} {i : Int} (hl : l.length = n * 2) (hq : q.length = m * 2) (h0 : 0 ≤ i) (hi : i < m) {A B : Prop} (hA : msgOk n l (pairAt q i.toNat).1 (pairAt q i.toNat).2 = true → A) (hB : msgOk n l (pairAt q i.toNat).1 (pairAt q i.toNat).2 = false → B) :
    (bif decide ((pairAt q i.toNat).1 < 0) then B else (bif decide ((pairAt q i.toNat).1 ≥ (n : Int)) then B else
      (bif decide (0 ≤ (pairAt q i.toNat).1) && decide ((pairAt q i.toNat).1 < (n : Int)) && decide ((pairAt q i.toNat).1.toNat * 2 < (ic .i64 l).length) then
        (bif decide ((pairAt q i.toNat).1.toNat * 2 + 2 ≤ (ic .i64 l).length) && (okK (some .i64) ((ic .i64 l).getD ((pairAt q i.toNat).1.toNat * 2) .dead) && (okK (some .i64) ((ic .i64 l).getD ((pairAt q i.toNat).1.toNat * 2 + 1) .dead) && true)) then
          (bif !f27_0 (intC ((ic .i64 l).getD ((pairAt q i.toNat).1.toNat * 2) .dead)) (intC ((ic .i64 l).getD ((pairAt q i.toNat).1.toNat * 2 + 1) .dead)) (pairAt q i.toNat).2 then B else A) else False) else False))) := by
  generalize pairAt q i.toNat = p at *
  have hf : ∀ a b c, f27_0 a b c = (decide (a ≤ c) && decide (c ≤ b)) := fun a b c => by unfold f27_0; cases decide (a ≤ c) <;> rfl
  refine cond_i (fun h => hB ?_) (fun h => cond_i (fun h2 => hB ?_) (fun h2 => ?_))
  · unfold msgOk; rw [decide_eq_false (by have := of_decide_eq_true h; omega : ¬ 0 ≤ p.1)]; rfl
  · unfold msgOk; rw [decide_eq_false (by have := of_decide_eq_true h2; omega : ¬ p.1 < (n : Int)), Bool.and_false]; rfl
  have h := of_decide_eq_false h
  have h2 := of_decide_eq_false h2
  obtain ⟨r1, r2, r3, r4⟩ := rd2 (i := p.1) hl (by omega) (by omega)
  refine ck_i r1 (ck_i r2 ?_)
  rw [r3, r4, hf]
  have e : msgOk n l p.1 p.2 = (decide ((pairAt l p.1.toNat).1 ≤ p.2) && decide (p.2 ≤ (pairAt l p.1.toNat).2)) := by
    unfold msgOk; rw [decide_eq_true (by omega : 0 ≤ p.1), decide_eq_true (by omega : p.1 < (n : Int))]; rfl
  refine cond_i (fun h3 => hB ?_) (fun h3 => hA ?_)
  · rw [e, ← Bool.not_eq_true']; exact h3
  · rw [e]; simpa using h3

theorem f22_spec (lo hi : Int) (n : Nat) (l : List Int) (m : Nat) (q : List Int) (hl : l.length = n * 2) (hq : q.length = m * 2) (hm : m ≤ 8796093022208) :
    f22_wp lo hi n (ic .i64 l) m (ic .i64 q) (fun r' => r' = boRet (hasP lo hi n l m q)) := by
  unfold f22_wp
  refine LoopP.ind (I := fun i => 0 ≤ i ∧ i ≤ (m : Int) ∧ (List.range i.toNat).all (fun j => msgOk n l (pairAt q j).1 (pairAt q j).2) = true) (μ := fun i => ((m : Int) - i).toNat) ?_ ⟨by omega, by omega, rfl⟩
  intro i k0 ⟨i1, i2, i3⟩ hk
  dsimp only
  refine cond_i (fun h => ?_) (fun h => ?_)
  · have h := of_decide_eq_true h
    obtain ⟨r1, r2, r3, r4⟩ := rd2 hq i1 h
    have w : IntKind.i64.wrap (i + 1) = i + 1 := i64_id (by omega) (by omega)
    refine ck_i r1 (ck_i r2 ?_)
    rw [r3, r4, w]
    refine msg_read hl hq i1 h (fun g => hk _ ⟨by omega, by omega, ?_⟩ (by omega)) (fun g => bo ?_)
    · rw [show (i + 1).toNat = i.toNat + 1 by omega, allR_succ, i3, g]; rfl
    · unfold hasP
      rw [allR_false (i := i.toNat) (m := m) (by omega) g, Bool.and_false]
  · have h := of_decide_eq_false h
    refine bo ?_
    have e : i.toNat = m := by omega
    rw [e] at i3
    unfold hasP f27_0
    rw [i3, Bool.and_true]
    cases decide (lo ≤ (m : Int)) <;> rfl

theorem f38_spec (lo hi : Int) (n : Nat) (l : List Int) (m : Nat) (q : List Int) (hl : l.length = n * 2) (hq : q.length = m * 2) (hm : m ≤ 8796093022208) :
    f38_wp lo hi n (ic .i64 l) m (ic .i64 q) (fun r' => r' = boRet (hasP lo hi n l m q)) := by
  unfold f38_wp
  refine cond_i (fun h => bo ?_) (fun h => cond_i (fun h2 => bo ?_) (fun h2 => ?_))
  · unfold hasP
    rw [decide_eq_false (by have := of_decide_eq_true h; omega : ¬ lo ≤ (m : Int))]; rfl
  · unfold hasP
    rw [decide_eq_false (by have := of_decide_eq_true h2; omega : ¬ (m : Int) ≤ hi), Bool.and_false]; rfl
  have h := of_decide_eq_false h
  have h2 := of_decide_eq_false h2
  have hb : hasP lo hi n l m q = (List.range m).all fun j => msgOk n l (pairAt q j).1 (pairAt q j).2 := by
    unfold hasP
    rw [decide_eq_true (by omega : lo ≤ (m : Int)), decide_eq_true (by omega : (m : Int) ≤ hi)]; rfl
  refine LoopP.ind (I := fun i => 0 ≤ i ∧ i ≤ (m : Int) ∧ (List.range i.toNat).all (fun j => msgOk n l (pairAt q j).1 (pairAt q j).2) = true) (μ := fun i => ((m : Int) - i).toNat) ?_ ⟨by omega, by omega, rfl⟩
  intro i k0 ⟨i1, i2, i3⟩ hk
  dsimp only
  refine cond_i (fun h => ?_) (fun h => ?_)
  · have h := of_decide_eq_true h
    obtain ⟨r1, r2, r3, r4⟩ := rd2 hq i1 h
    have w : IntKind.i64.wrap (i + 1) = i + 1 := i64_id (by omega) (by omega)
    have g0 := ic_get (k := .i64) (l := q) (j := i.toNat * 2) (by omega)
    have g1 := ic_get (k := .i64) (l := q) (j := i.toNat * 2 + 1) (by omega)
    refine ck_i r1 (ck_i (by rw [g0, ic_len]; simp [okK, isInt]; omega) ?_)
    rw [r3, r4, w]
    have fin := msg_read hl hq i1 h (A := k0 (i + 1)) (B := (fun r' => r' = boRet (hasP lo hi n l m q)) (Ret.mk (.one (.v (.bool .false))) [])) (fun g => hk _ ⟨by omega, by omega, by rw [show (i + 1).toNat = i.toNat + 1 by omega, allR_succ, i3, g]; rfl⟩ (by omega)) (fun g => bo (by rw [hb, allR_false (i := i.toNat) (m := m) (by omega) g]))
    refine cond_map fin id fun fin => cond_map fin id fun fin => ?_
    refine ck_map fin fun fin => ck_map fin fun fin => ck_i ?_ fin
    rw [g1, ic_len]; simp [okK, isInt]; omega
  · have h := of_decide_eq_false h
    refine bo ?_
    have e : i.toNat = m := by omega
    rw [e] at i3
    rw [hb, i3]

end Go.Proofs.Ytlfojobligplkaa.Fn
