import Derived.Test.YtlfojobligplkaaWQ2
import Derived.Test.YtlfojobligplkaaPuQ3
/- What is told of the functions of Elems is so: sends, joins, tags. Conditions: those that each lemma names. -/
namespace Go.Proofs.Ytlfojobligplkaa.Fn
open Go Go.RowKit Go.Proofs.Ytlfojobligplkaa.Mt
set_option linter.unusedVariables false
set_option linter.unusedSimpArgs false

theorem min_if (a b : Int) : (if a < b then a else b) = min b a := by split <;> omega
theorem okc {q : Bool} {l : List Int} (h : q = true) : (q && true && true && ((ic .i64 l).all flatC && true) && ((ic .i64 l).all plainC && true) && true) = true := by
  rw [h, flat_ic, plain_ic]; rfl

theorem f58_spec (size lo hi : Int) (n : Nat) (l : List Int) (t i0 i1 : Int) (hl : l.length = n * 2) (hn : n ≤ 8796093022208) :
    f58_wp size lo hi n (ic .i64 l) t i0 i1 (fun r' => r' = elRet 29 (sendP size lo hi n l t i0 i1).1 (sendP size lo hi n l t i0 i1).2.1 n (sendP size lo hi n l t i0 i1).2.2) := by
  unfold f58_wp
  rw [ic_map]
  have same : ∀ {X : Prop}, X → (fun r' => r' = elRet 29 (sendP size lo hi n l t i0 i1).1 (sendP size lo hi n l t i0 i1).2.1 n (sendP size lo hi n l t i0 i1).2.2) (Ret.mk (.agg [.v (.int .i64 lo), .v (.int .i64 hi), .own 0 0]) [⟨29, 2, n, ic .i64 l, true⟩]) ∨ ¬ (i0 > i1 ∨ t < 0 ∨ t ≥ (n : Int)) := fun _ => by
    by_cases h : i0 > i1 ∨ t < 0 ∨ t ≥ (n : Int)
    · left
      have e : sendP size lo hi n l t i0 i1 = (lo, hi, l) := if_pos h
      rw [e]; rfl
    · exact .inr h
  refine ck_i (okc (okRow_ic hl hn)) ?_
  refine cond_i (fun h => ?_) (fun h => cond_i (fun h2 => ?_) (fun h2 => cond_i (fun h3 => ?_) (fun h3 => ?_)))
  · exact (same trivial).resolve_right (fun k => k (.inl (of_decide_eq_true h)))
  · exact (same trivial).resolve_right (fun k => k (.inr (.inl (of_decide_eq_true h2))))
  · exact (same trivial).resolve_right (fun k => k (.inr (.inr (of_decide_eq_true h3))))
  have h := of_decide_eq_false h
  have h2 := of_decide_eq_false h2
  have h3 := of_decide_eq_false h3
  obtain ⟨r1, r2, r3, r4⟩ := rd2 (i := t) hl (by omega) (by omega)
  refine ck_i r1 (ck_i r2 (ck_i (by simp; omega) (ck_i (by rw [ic_len]; simp; omega) ?_)))
  have e : sendP size lo hi n l t i0 i1 = _ := if_neg (show ¬ (i0 > i1 ∨ t < 0 ∨ t ≥ (n : Int)) by omega)
  rw [r3, r4, (join8_eq ..).1, (join8_eq ..).2, e, min_if, pair_set]
  rfl

theorem f20_spec (c0 size c2 c3 c4 : Int) (cr : Cell) (lo hi : Int) (n : Nat) (l : List Int) (t i0 i1 : Int) (hl : l.length = n * 2) (hn : n ≤ 8796093022208) :
    f20_wp c0 size c2 c3 c4 cr lo hi n (ic .i64 l) t i0 i1 (fun r' => r' = elRet 25 (sendP size lo hi n l t i0 i1).1 (sendP size lo hi n l t i0 i1).2.1 n (sendP size lo hi n l t i0 i1).2.2) := by
  unfold f20_wp
  rw [ic_map]
  have same : ∀ {X : Prop}, X → (fun r' => r' = elRet 25 (sendP size lo hi n l t i0 i1).1 (sendP size lo hi n l t i0 i1).2.1 n (sendP size lo hi n l t i0 i1).2.2) (Ret.mk (.agg [.v (.int .i64 lo), .v (.int .i64 hi), .own 0 0]) [⟨25, 2, n, ic .i64 l, true⟩]) ∨ ¬ (i0 > i1 ∨ t < 0 ∨ t ≥ (n : Int)) := fun _ => by
    by_cases h : i0 > i1 ∨ t < 0 ∨ t ≥ (n : Int)
    · left
      have e : sendP size lo hi n l t i0 i1 = (lo, hi, l) := if_pos h
      rw [e]; rfl
    · exact .inr h
  refine ck_i (okc (okRow_ic hl hn)) ?_
  simp only [empty_iff]
  refine cond_i (fun h => ?_) (fun h => cond_i (fun h2 => ?_) (fun h2 => cond_i (fun h3 => ?_) (fun h3 => ?_)))
  · exact (same trivial).resolve_right (fun k => k (.inl (of_decide_eq_true h)))
  · exact (same trivial).resolve_right (fun k => k (.inr (.inl (of_decide_eq_true h2))))
  · exact (same trivial).resolve_right (fun k => k (.inr (.inr (of_decide_eq_true h3))))
  have h := of_decide_eq_false h
  have h2 := of_decide_eq_false h2
  have h3 := of_decide_eq_false h3
  obtain ⟨r1, r2, r3, r4⟩ := rd2 (i := t) hl (by omega) (by omega)
  refine ck_i r1 (ck_i r2 (ck_i (by simp; omega) (ck_i (by rw [ic_len]; simp; omega) ?_)))
  have e : sendP size lo hi n l t i0 i1 = _ := if_neg (show ¬ (i0 > i1 ∨ t < 0 ∨ t ≥ (n : Int)) by omega)
  rw [r3, r4, (join_eq ..).1, (join_eq ..).2, e, min_if, pair_set]
  rfl

theorem f59_spec (lo hi : Int) (n : Nat) (l : List Int) (hl : l.length = n * 2) (hn : n ≤ 8796093022208) : f59_wp lo hi n (ic .i64 l) (fun r' => r' = elRet 25 lo hi n l) := by
  unfold f59_wp
  rw [ic_map]
  refine ck_i ?_ rfl
  rw [okRow_ic hl hn, flat_ic, plain_ic]; rfl

/-! ### Two of them, element by element -/

/-- So many are done. -/
def twoU (w : Bool) (l l' : List Int) (k : Nat) : List Int := twoL w k l l' ++ l.drop (k * 2)
theorem twoL_succ (w : Bool) (k : Nat) (l l' : List Int) : twoL w (k + 1) l l' = twoL w k l l' ++ [(opI w (pairAt l k) (pairAt l' k)).1, (opI w (pairAt l k) (pairAt l' k)).2] := by
  unfold twoL
  rw [List.range_succ, List.map_append, List.flatten_append]
  rfl
theorem twoL_len (w : Bool) (k : Nat) (l l' : List Int) : (twoL w k l l').length = k * 2 := by
  induction k with
  | zero => rfl
  | succ k ih => rw [twoL_succ, List.length_append, ih]; simp; omega
theorem twoU_len {w : Bool} {l l' : List Int} {k n : Nat} (hl : l.length = n * 2) (hk : k ≤ n) : (twoU w l l' k).length = n * 2 := by
  unfold twoU
  rw [List.length_append, twoL_len, List.length_drop]; omega
theorem set_pair {A B : List Int} {a b x y : Int} {k : Nat} (hA : A.length = k * 2) : setP (A ++ a :: b :: B) k (x, y) = A ++ x :: y :: B := by
  unfold setP
  rw [List.set_append_right _ _ (by omega), show k * 2 - A.length = 0 by omega, List.set_cons_zero, List.set_append_right _ _ (by omega), show k * 2 + 1 - A.length = 1 by omega, List.set_cons_succ, List.set_cons_zero]
theorem drop2 {l : List Int} {k : Nat} (h : k * 2 + 1 < l.length) : l.drop (k * 2) = (pairAt l k).1 :: (pairAt l k).2 :: l.drop ((k + 1) * 2) := by
  rw [List.drop_eq_getElem_cons (show k * 2 < l.length by omega), List.drop_eq_getElem_cons h, show (k + 1) * 2 = k * 2 + 1 + 1 by omega]
  simp [pairAt, List.getD_eq_getElem?_getD, List.getElem?_eq_getElem h, List.getElem?_eq_getElem (by omega : k * 2 < l.length)]
theorem twoU_succ {w : Bool} {l l' : List Int} {k : Nat} (h : k * 2 + 1 < l.length) : setP (twoU w l l' k) k (opI w (pairAt l k) (pairAt l' k)) = twoU w l l' (k + 1) := by
  unfold twoU
  rw [drop2 h, set_pair (twoL_len w k l l'), twoL_succ]
  simp
theorem setP_twice (l : List Int) (k : Nat) (p q : Int × Int) : setP (setP l k p) k q = setP l k q := by
  unfold setP
  rw [List.set_comm p.2 q.1 (show k * 2 + 1 ≠ k * 2 by omega), List.set_set, List.set_set]

theorem f66j_spec (lo hi : Int) (n : Nat) (l : List Int) (lo2 hi2 : Int) (n2 : Nat) (l2 : List Int) (hl : l.length = n * 2) (hl2 : l2.length = n2 * 2) (hn : n ≤ 8796093022208) :
    f66j_wp lo hi n (ic .i64 l) lo2 hi2 n2 (ic .i64 l2) (fun r' => r' = elRet 25 (twoP false lo hi n l lo2 hi2 n2 l2).1 (twoP false lo hi n l lo2 hi2 n2 l2).2.1 n (twoP false lo hi n l lo2 hi2 n2 l2).2.2) := by
  unfold f66j_wp
  rw [ic_map]
  refine ck_i (okc (okRow_ic hl hn)) ?_
  refine cond_i (fun q => ?_) (fun q => ?_)
  · have e : twoP false lo hi n l lo2 hi2 n2 l2 = (lo, hi, l) := if_neg (fun e => by subst e; simp at q)
    rw [e]; rfl
  have q : n = n2 := by
    have q : (n : Int) = n2 := by simpa using q
    omega
  subst q
  have e : twoP false lo hi n l lo2 hi2 n l2 = _ := if_pos rfl
  rw [e]
  refine LoopP.ind (I := fun z => 0 ≤ z.1 ∧ z.1 ≤ (n : Int) ∧ z.2 = ic .i64 (twoU false l l2 z.1.toNat)) (μ := fun z => ((n : Int) - z.1).toNat) ?_ ⟨by dsimp only; omega, by dsimp only; omega, by simp [twoU, twoL]⟩
  rintro ⟨i, cs⟩ k0 ⟨i1, i2, i3⟩ hk
  dsimp only at i1 i2 i3 ⊢
  subst i3
  refine cond_i (fun q => ?_) (fun q => ?_)
  · have q := of_decide_eq_true q
    obtain ⟨r1, r2, r3, r4⟩ := rd2 hl i1 q
    obtain ⟨s1, s2, s3, s4⟩ := rd2 hl2 i1 q
    have w : IntKind.i64.wrap (i + 1) = i + 1 := i64_id (by omega) (by omega)
    refine ck_i r1 (ck_i r2 (ck_i s1 (ck_i s2 (ck_i (by simp; omega) (ck_i ?_ ?_)))))
    · rw [ic_len, twoU_len hl (by omega)]; simp; omega
    rw [r3, r4, s3, s4, w, (join_eq ..).1, (join_eq ..).2, pair_set]
    refine hk _ ⟨by dsimp only; omega, by dsimp only; omega, ?_⟩ (by dsimp only; omega)
    dsimp only
    rw [show (i + 1).toNat = i.toNat + 1 by omega, ← twoU_succ (by omega)]
    rfl
  · have q := of_decide_eq_false q
    have e : i.toNat = n := by omega
    rw [(join_eq ..).1, (join_eq ..).2, e]
    show Ret.mk _ _ = _
    unfold twoU
    rw [List.drop_of_length_le (by omega), List.append_nil]
    rfl

theorem f66w_spec (lo hi : Int) (n : Nat) (l : List Int) (lo2 hi2 : Int) (n2 : Nat) (l2 : List Int) (hl : l.length = n * 2) (hl2 : l2.length = n2 * 2) (hn : n ≤ 8796093022208) :
    f66w_wp lo hi n (ic .i64 l) lo2 hi2 n2 (ic .i64 l2) (fun r' => r' = elRet 25 (twoP true lo hi n l lo2 hi2 n2 l2).1 (twoP true lo hi n l lo2 hi2 n2 l2).2.1 n (twoP true lo hi n l lo2 hi2 n2 l2).2.2) := by
  unfold f66w_wp
  rw [ic_map]
  refine ck_i (okc (okRow_ic hl hn)) ?_
  refine cond_i (fun q => ?_) (fun q => ?_)
  · have e : twoP true lo hi n l lo2 hi2 n2 l2 = (lo, hi, l) := if_neg (fun e => by subst e; simp at q)
    rw [e]; rfl
  have q : n = n2 := by
    have q : (n : Int) = n2 := by simpa using q
    omega
  subst q
  have e : twoP true lo hi n l lo2 hi2 n l2 = _ := if_pos rfl
  rw [e]
  refine LoopP.ind (I := fun z => 0 ≤ z.1 ∧ z.1 ≤ (n : Int) ∧ z.2 = ic .i64 (twoU true l l2 z.1.toNat)) (μ := fun z => ((n : Int) - z.1).toNat) ?_ ⟨by dsimp only; omega, by dsimp only; omega, by simp [twoU, twoL]⟩
  rintro ⟨i, cs⟩ k0 ⟨i1, i2, i3⟩ hk
  dsimp only at i1 i2 i3 ⊢
  subst i3
  refine cond_i (fun q => ?_) (fun q => ?_)
  · have q := of_decide_eq_true q
    obtain ⟨r1, r2, r3, r4⟩ := rd2 hl i1 q
    obtain ⟨s1, s2, s3, s4⟩ := rd2 hl2 i1 q
    have w : IntKind.i64.wrap (i + 1) = i + 1 := i64_id (by omega) (by omega)
    refine ck_i r1 (ck_i r2 (ck_i s1 (ck_i s2 (ck_i (by simp; omega) (ck_i ?_ ?_)))))
    · rw [ic_len, twoU_len hl (by omega)]; simp; omega
    rw [r3, r4, s3, s4, w, (widen_eq ..).1, (widen_eq ..).2, pair_set]
    refine hk _ ⟨by dsimp only; omega, by dsimp only; omega, ?_⟩ (by dsimp only; omega)
    dsimp only
    rw [show (i + 1).toNat = i.toNat + 1 by omega, ← twoU_succ (by omega)]
    rfl
  · have q := of_decide_eq_false q
    have e : i.toNat = n := by omega
    rw [(widen_eq ..).1, (widen_eq ..).2, e]
    show Ret.mk _ _ = _
    unfold twoU
    rw [List.drop_of_length_le (by omega), List.append_nil]
    rfl

theorem f36_spec (lo hi : Int) (n : Nat) (l : List Int) (lo2 hi2 : Int) (n2 : Nat) (l2 : List Int) (hl : l.length = n * 2) (hl2 : l2.length = n2 * 2) (hn : n ≤ 8796093022208) (hn2 : n2 ≤ 8796093022208) :
    f36_wp lo hi n (ic .i64 l) lo2 hi2 n2 (ic .i64 l2) (fun r' => r' = elRet 25 (twoP false lo hi n l lo2 hi2 n2 l2).1 (twoP false lo hi n l lo2 hi2 n2 l2).2.1 n (twoP false lo hi n l lo2 hi2 n2 l2).2.2) := by
  unfold f36_wp
  rw [ic_map, ic_map]
  refine ck_i (okc ?_) rfl
  rw [okRow_ic hl hn, okRow_ic hl2 hn2]; rfl
theorem f37_spec (lo hi : Int) (n : Nat) (l : List Int) (lo2 hi2 : Int) (n2 : Nat) (l2 : List Int) (hl : l.length = n * 2) (hl2 : l2.length = n2 * 2) (hn : n ≤ 8796093022208) (hn2 : n2 ≤ 8796093022208) :
    f37_wp lo hi n (ic .i64 l) lo2 hi2 n2 (ic .i64 l2) (fun r' => r' = elRet 25 (twoP true lo hi n l lo2 hi2 n2 l2).1 (twoP true lo hi n l lo2 hi2 n2 l2).2.1 n (twoP true lo hi n l lo2 hi2 n2 l2).2.2) := by
  unfold f37_wp
  rw [ic_map, ic_map]
  refine ck_i (okc ?_) rfl
  rw [okRow_ic hl hn, okRow_ic hl2 hn2]; rfl

/-! ### Tags -/

theorem tagsL_succ (k : Nat) (l : List Int) : tagsL (k + 1) l = tagsL k l ++ (if (pairAt l k).1 > (pairAt l k).2 then [] else [(k : Int)]) := by
  unfold tagsL
  rw [List.range_succ, List.filter_append, List.map_append]
  congr 1
  by_cases h : (pairAt l k).1 > (pairAt l k).2
  · rw [if_pos h]; simp [h]
  · rw [if_neg h]; simp [h]
theorem tagsL_len (k : Nat) (l : List Int) : (tagsL k l).length ≤ k := by
  unfold tagsL
  rw [List.length_map]
  exact Nat.le_trans (List.length_filter_le _ _) (by simp)
theorem tagsL_nil {k n : Nat} {l : List Int} (h : k ≤ n) (he : tagsL k l ≠ []) : tagsL n l ≠ [] := by
  induction n with
  | zero => rw [show k = 0 by omega] at he; exact he
  | succ n ih =>
    by_cases e : k = n + 1
    · rw [← e]; exact he
    · rw [tagsL_succ]
      intro h2
      exact ih (by omega) (List.append_eq_nil_iff.1 h2).1

def tagsRet (n : Nat) (l : List Int) : Ret := if tagsL n l = [] then Ret.mk (.one (.v (.slice none 0 0))) [] else Ret.mk (.one (.own 0 0)) [⟨3, 1, (tagsL n l).length, ic .i64 (tagsL n l), true⟩]
theorem f18_spec (lo hi : Int) (n : Nat) (l : List Int) (hl : l.length = n * 2) (hn : n ≤ 8796093022208) : f18_wp lo hi n (ic .i64 l) (fun r' => r' = tagsRet n l) := by
  unfold f18_wp
  refine LoopP.ind (I := Sum.elim (fun i => 0 ≤ i ∧ i ≤ (n : Int) ∧ tagsL i.toNat l = []) (fun z => 0 ≤ z.1 ∧ z.1 ≤ (n : Int) ∧ tagsL z.1.toNat l ≠ [] ∧ z.2.1 = (tagsL z.1.toNat l).length ∧ z.2.2 = ic .i64 (tagsL z.1.toNat l)))
    (μ := Sum.elim (fun i => ((n : Int) - i).toNat) (fun z => ((n : Int) - z.1).toNat)) ?_ ⟨by omega, by omega, rfl⟩
  rintro (i | ⟨i, m, cs⟩) k0 hI hk
  · dsimp only [Sum.elim_inl, Sum.elim_inr] at hI ⊢
    obtain ⟨i1, i2, i3⟩ := hI
    refine cond_i (fun q => ?_) (fun q => ?_)
    · have q := of_decide_eq_true q
      obtain ⟨r1, r2, r3, r4⟩ := rd2 hl i1 q
      have w : IntKind.i64.wrap (i + 1) = i + 1 := i64_id (by omega) (by omega)
      have hs := tagsL_succ i.toNat l
      refine ck_i r1 (ck_i r2 ?_)
      rw [r3, r4, w, empty_iff]
      refine cond_i (fun h => hk _ ?_ (by dsimp only [Sum.elim_inl, Sum.elim_inr]; omega)) (fun h => hk _ ?_ (by dsimp only [Sum.elim_inl, Sum.elim_inr]; omega))
      · have h : ¬ (pairAt l i.toNat).1 > (pairAt l i.toNat).2 := by simpa using h
        rw [if_neg h, i3, List.nil_append, show i.toNat + 1 = (i + 1).toNat by omega, show ((i.toNat : Nat) : Int) = i by omega] at hs
        refine ⟨by dsimp only; omega, by dsimp only; omega, ?_, ?_, ?_⟩
        · dsimp only; rw [hs]; simp
        · dsimp only; rw [hs]; rfl
        · dsimp only; rw [hs]; rfl
      · have h : (pairAt l i.toNat).1 > (pairAt l i.toNat).2 := by simpa using h
        rw [if_pos h, i3, List.append_nil, show i.toNat + 1 = (i + 1).toNat by omega] at hs
        exact ⟨by omega, by omega, hs⟩
    · have q := of_decide_eq_false q
      have e : i.toNat = n := by omega
      rw [e] at i3
      show Ret.mk _ _ = _
      unfold tagsRet
      rw [if_pos i3]
  · dsimp only [Sum.elim_inl, Sum.elim_inr] at hI ⊢
    obtain ⟨i1, i2, i3, i4, i5⟩ := hI
    subst i4
    subst i5
    refine cond_i (fun q => ?_) (fun q => ?_)
    · have q := of_decide_eq_true q
      obtain ⟨r1, r2, r3, r4⟩ := rd2 hl i1 q
      have w : IntKind.i64.wrap (i + 1) = i + 1 := i64_id (by omega) (by omega)
      have hs := tagsL_succ i.toNat l
      have hlen := tagsL_len i.toNat l
      refine ck_i r1 (ck_i r2 ?_)
      rw [r3, r4, w, empty_iff]
      refine cond_i (fun h => ck_i (by simp; omega) (hk _ ?_ (by dsimp only [Sum.elim_inl, Sum.elim_inr]; omega))) (fun h => hk _ ?_ (by dsimp only [Sum.elim_inl, Sum.elim_inr]; omega))
      · have h : ¬ (pairAt l i.toNat).1 > (pairAt l i.toNat).2 := by simpa using h
        rw [if_neg h, show i.toNat + 1 = (i + 1).toNat by omega, show ((i.toNat : Nat) : Int) = i by omega] at hs
        refine ⟨by dsimp only; omega, by dsimp only; omega, ?_, ?_, ?_⟩
        · dsimp only; rw [hs]; simp
        · dsimp only; rw [hs, List.length_append]; rfl
        · dsimp only; rw [hs, ← ic_append]; rfl
      · have h : (pairAt l i.toNat).1 > (pairAt l i.toNat).2 := by simpa using h
        rw [if_pos h, List.append_nil, show i.toNat + 1 = (i + 1).toNat by omega] at hs
        exact ⟨by dsimp only; omega, by dsimp only; omega, by dsimp only; rw [hs]; exact i3, by dsimp only; rw [hs], by dsimp only; rw [hs]⟩
    · have q := of_decide_eq_false q
      have e : i.toNat = n := by omega
      rw [e] at i3 ⊢
      show Ret.mk _ _ = _
      unfold tagsRet
      rw [if_neg i3]

end Go.Proofs.Ytlfojobligplkaa.Fn
