import Derived.Test.YtlfojobligplkaaWLQueueOrders
import Derived.Test.YtlfojobligplkaaPuSends
/- The statement QueueOrders, in numbers. Conditions: those that each lemma names. -/
namespace Go.Proofs.Ytlfojobligplkaa.Fn
open Go Go.RowKit Go.Proofs.Ytlfojobligplkaa.Mt
set_option linter.unusedVariables false
set_option linter.unusedSimpArgs false

theorem pairAt_set {l : List Int} {j k : Nat} {p : Int × Int} (h : j * 2 + 1 < l.length) : pairAt (setP l j p) k = if j = k then p else pairAt l k := by
  unfold pairAt setP
  by_cases e : j = k
  · subst e
    rw [if_pos rfl]
    simp [List.getD_eq_getElem?_getD, List.getElem?_set, show j * 2 < l.length by omega, h]
  · rw [if_neg e]
    simp [List.getD_eq_getElem?_getD, List.getElem?_set, show j * 2 ≠ k * 2 by omega, show j * 2 + 1 ≠ k * 2 by omega, show j * 2 ≠ k * 2 + 1 by omega, show j * 2 + 1 ≠ k * 2 + 1 by omega, show ¬ j = k from e]

theorem sendP_pair {s lo hi : Int} {n : Nat} {l : List Int} {t i0 i1 : Int} {k : Nat} (hl : l.length = n * 2) (hk : k < n) :
    pairAt (sendP s lo hi n l t i0 i1).2.2 k = if (¬ (i0 > i1 ∨ t < 0 ∨ t ≥ (n : Int))) ∧ t = (k : Int) then jI (pairAt l k).1 (pairAt l k).2 i0 i1 else pairAt l k := by
  unfold sendP
  split
  · rename_i q; rw [if_neg (fun h => h.1 q)]
  · rename_i q
    dsimp only
    rw [pairAt_set (by omega)]
    by_cases e : t = (k : Int)
    · rw [if_pos (by omega), if_pos ⟨q, e⟩, show t.toNat = k by omega]
    · rw [if_neg (by omega), if_neg (fun h => e h.2)]

theorem noneL_pair {n k : Nat} (h : k < n) : pairAt (noneL n) k = (1, 0) := by
  induction n with
  | zero => omega
  | succ n ih =>
    rw [noneL_succ]
    have hl := noneL_len n
    by_cases e : k = n
    · subst e
      unfold pairAt
      rw [← hl]
      simp [List.getD_eq_getElem?_getD, List.getElem?_append_right]
    · rw [← ih (by omega)]
      unfold pairAt
      simp [List.getD_eq_getElem?_getD, List.getElem?_append_left, hl, show k * 2 < n * 2 by omega, show k * 2 + 1 < n * 2 by omega]

/-- One send upon one tag's numbers. -/
def up (ok : Prop) [Decidable ok] (i j : Int) (p : Int × Int) : Int × Int := if ok then jI p.1 p.2 i j else p

theorem up_three (i0 i1 j0 j1 : Int) (A B : Prop) [Decidable A] [Decidable B] (ha : A → i0 ≤ i1) (hb : B → j0 ≤ j1) :
    up B j0 j1 (up A i0 i1 (1, 0)) = up A i0 i1 (up B j0 j1 (1, 0)) ∧ up A i0 i1 (up B j0 j1 (up A i0 i1 (1, 0))) = up B j0 j1 (up A i0 i1 (1, 0)) := by
  unfold up
  have e : ∀ x y : Int, x ≤ y → jI 1 0 x y = (x, y) := fun x y h => by unfold jI nI; rw [if_pos (by decide), if_neg (by omega)]
  have f : ∀ x y z w : Int, x ≤ y → z ≤ w → jI x y z w = (min x z, max y w) := fun x y z w h h' => by unfold jI; rw [if_neg (by omega), if_neg (by omega)]
  by_cases h : A <;> by_cases h' : B <;> simp only [h, h', if_true, if_false]
  · have h := ha h
    have h' := hb h'
    rw [e _ _ h, e _ _ h']
    dsimp only
    rw [f _ _ _ _ h h', f _ _ _ _ h' h]
    dsimp only
    rw [f _ _ _ _ (by omega) h]
    constructor <;> (apply Prod.ext <;> dsimp only <;> omega)
  · have h := ha h
    rw [e _ _ h]
    dsimp only
    rw [f _ _ _ _ h h]
    exact ⟨trivial, by apply Prod.ext <;> dsimp only <;> omega⟩
  · exact ⟨trivial, trivial⟩
  · exact ⟨trivial, trivial⟩

theorem nI_lt (a b : Int) : (nI a b).1 ≤ (nI a b).2 ∨ nI a b = (1, 0) := by
  unfold nI; split
  · exact Or.inr rfl
  · exact Or.inl (by dsimp only; omega)

/-- One send, of a channel of nine and three tags. -/
def s93 (t i0 i1 : Int) (st : Int × Int × List Int) : Int × Int × List Int := sendP 9 st.1 st.2.1 3 st.2.2 t i0 i1
theorem s93_len {t i0 i1 : Int} {st : Int × Int × List Int} (h : st.2.2.length = 6) : (s93 t i0 i1 st).2.2.length = 6 := by unfold s93; rw [sendP_len, h]
theorem s93_num {t i0 i1 : Int} {st : Int × Int × List Int} (h : st.1 = 0) (h0 : 0 ≤ st.2.1) (h1 : st.2.1 ≤ 100) :
    (s93 t i0 i1 st).1 = 0 ∧ (s93 t i0 i1 st).2.1 = if i0 > i1 ∨ t < 0 ∨ t ≥ 3 then st.2.1 else min (st.2.1 + 1) 9 := by
  unfold s93 sendP
  split
  · rename_i q
    have q : i0 > i1 ∨ t < 0 ∨ t ≥ 3 := by omega
    rw [if_pos q]; exact ⟨h, rfl⟩
  · rename_i q
    have q : ¬ (i0 > i1 ∨ t < 0 ∨ t ≥ 3) := by omega
    rw [if_neg q]
    exact ⟨rfl, by dsimp only; rw [i64_id (by omega) (by omega)]⟩
theorem s93_pair {t i0 i1 : Int} {st : Int × Int × List Int} {k : Nat} (h : st.2.2.length = 6) (hk : k < 3) :
    pairAt (s93 t i0 i1 st).2.2 k = up ((¬ (i0 > i1 ∨ t < 0 ∨ t ≥ 3)) ∧ t = (k : Int)) i0 i1 (pairAt st.2.2 k) := by
  unfold s93 up
  exact sendP_pair (n := 3) h hk

theorem orders_core (a i0 i1 b j0 j1 : Int) (x y z : Int × Int × List Int) (hx : x = s93 b j0 j1 (s93 a i0 i1 (0, 0, noneL 3))) (hy : y = s93 a i0 i1 (s93 b j0 j1 (0, 0, noneL 3))) (hz : z = s93 a i0 i1 x) :
    (x.2.2.length = 6 ∧ y.2.2.length = 6 ∧ z.2.2.length = 6) ∧ (∀ k, k < 3 → pairAt x.2.2 k = pairAt y.2.2 k ∧ pairAt x.2.2 k = pairAt z.2.2 k) ∧ x.1 = 0 ∧ y.1 = 0 ∧ z.1 = 0 ∧ x.2.1 = y.2.1 ∧ x.2.1 ≤ z.2.1 := by
  have l0 : (0, 0, noneL 3).2.2.length = 6 := noneL_len 3
  have n0 : ((0, 0, noneL 3) : Int × Int × List Int).2.1 = 0 := rfl
  obtain ⟨p1, p2⟩ := s93_num (t := a) (i0 := i0) (i1 := i1) (st := (0, 0, noneL 3)) rfl (by omega) (by omega)
  obtain ⟨q1, q2⟩ := s93_num (t := b) (i0 := j0) (i1 := j1) (st := (0, 0, noneL 3)) rfl (by omega) (by omega)
  rw [n0] at p2 q2
  have lp := s93_len (t := a) (i0 := i0) (i1 := i1) (st := (0, 0, noneL 3)) l0
  have lq := s93_len (t := b) (i0 := j0) (i1 := j1) (st := (0, 0, noneL 3)) l0
  obtain ⟨x1, x2⟩ := s93_num (t := b) (i0 := j0) (i1 := j1) p1 (by rw [p2]; split <;> omega) (by rw [p2]; split <;> omega)
  obtain ⟨y1, y2⟩ := s93_num (t := a) (i0 := i0) (i1 := i1) q1 (by rw [q2]; split <;> omega) (by rw [q2]; split <;> omega)
  have lx := s93_len (t := b) (i0 := j0) (i1 := j1) lp
  have ly := s93_len (t := a) (i0 := i0) (i1 := i1) lq
  rw [← hx] at x1 x2 lx
  rw [← hy] at y1 y2 ly
  have lz := s93_len (t := a) (i0 := i0) (i1 := i1) lx
  have hx9 : 0 ≤ x.2.1 ∧ x.2.1 ≤ 9 := by rw [x2, p2]; split <;> split <;> omega
  obtain ⟨z1, z2⟩ := s93_num (t := a) (i0 := i0) (i1 := i1) x1 hx9.1 (by omega)
  rw [← hz] at z1 z2 lz
  refine ⟨⟨lx, ly, lz⟩, fun k hk => ?_, x1, y1, z1, ?_, ?_⟩
  · have e0 : pairAt ((0, 0, noneL 3) : Int × Int × List Int).2.2 k = (1, 0) := noneL_pair hk
    have ex : pairAt x.2.2 k = up ((¬ (j0 > j1 ∨ b < 0 ∨ b ≥ 3)) ∧ b = (k : Int)) j0 j1 (up ((¬ (i0 > i1 ∨ a < 0 ∨ a ≥ 3)) ∧ a = (k : Int)) i0 i1 (1, 0)) := by
      rw [hx, s93_pair lp hk, s93_pair (st := (0, 0, noneL 3)) l0 hk, e0]
    have ey : pairAt y.2.2 k = up ((¬ (i0 > i1 ∨ a < 0 ∨ a ≥ 3)) ∧ a = (k : Int)) i0 i1 (up ((¬ (j0 > j1 ∨ b < 0 ∨ b ≥ 3)) ∧ b = (k : Int)) j0 j1 (1, 0)) := by
      rw [hy, s93_pair lq hk, s93_pair (st := (0, 0, noneL 3)) l0 hk, e0]
    have ez : pairAt z.2.2 k = up ((¬ (i0 > i1 ∨ a < 0 ∨ a ≥ 3)) ∧ a = (k : Int)) i0 i1 (pairAt x.2.2 k) := by
      rw [hz, s93_pair lx hk]
    obtain ⟨u1, u2⟩ := up_three i0 i1 j0 j1 ((¬ (i0 > i1 ∨ a < 0 ∨ a ≥ 3)) ∧ a = (k : Int)) ((¬ (j0 > j1 ∨ b < 0 ∨ b ≥ 3)) ∧ b = (k : Int)) (fun h => by omega) (fun h => by omega)
    rw [ez, ey, ex, u1]
    exact ⟨rfl, by rw [← u1, u2]⟩
  · rw [x2, y2, p2, q2]
    split <;> split <;> omega
  · rw [z2]
    split <;> omega

theorem withB_refl (p : Int × Int) : withB p p = true := by simp [withB]

theorem f5_pure (a0 a1 a2 b0 b1 b2 : Int) : f5_wp a0 a1 a2 b0 b1 b2 (fun r' => r' = boRet true) := by
  unfold f5_wp
  rw [show (Min.min 2 20 : Nat) = 2 from rfl, show (Min.min 3 20 : Nat) = 3 from rfl]
  generalize hx : buildP 9 3 (List.map intC [Cell.v (Value.int IntKind.i64 a0), Cell.v (Value.int IntKind.i64 a1), Cell.v (Value.int IntKind.i64 a2), Cell.v (Value.int IntKind.i64 b0), Cell.v (Value.int IntKind.i64 b1), Cell.v (Value.int IntKind.i64 b2)]) 2 = x
  generalize hy : buildP 9 3 (List.map intC [Cell.v (Value.int IntKind.i64 b0), Cell.v (Value.int IntKind.i64 b1), Cell.v (Value.int IntKind.i64 b2), Cell.v (Value.int IntKind.i64 a0), Cell.v (Value.int IntKind.i64 a1), Cell.v (Value.int IntKind.i64 a2)]) 2 = y
  generalize hz : buildP 9 3 (List.map intC [Cell.v (Value.int IntKind.i64 a0), Cell.v (Value.int IntKind.i64 a1), Cell.v (Value.int IntKind.i64 a2), Cell.v (Value.int IntKind.i64 b0), Cell.v (Value.int IntKind.i64 b1), Cell.v (Value.int IntKind.i64 b2), Cell.v (Value.int IntKind.i64 a0), Cell.v (Value.int IntKind.i64 a1), Cell.v (Value.int IntKind.i64 a2)]) 3 = z
  obtain ⟨⟨lx, ly, lz⟩, hp, x1, y1, z1, hxy, hxz⟩ := orders_core a0 (nI (f31_0 a1 a2) (f31_1 a1 a2)).1 (nI (f31_0 a1 a2) (f31_1 a1 a2)).2 b0 (nI (f31_0 b1 b2) (f31_1 b1 b2)).1 (nI (f31_0 b1 b2) (f31_1 b1 b2)).2 x y z hx.symm hy.symm (hz.symm.trans (by rw [← hx]; rfl))
  clear hx hy hz
  refine ck_i (by simp only [flat_ic, plain_ic]; rfl) (ck_i (by simp only [flat_ic, plain_ic]; rfl) (ck_i (by simp only [flat_ic, plain_ic]; rfl) ?_))
  refine LoopP.ind (I := fun i => 0 ≤ i ∧ i ≤ 3) (μ := fun i => (3 - i).toNat) ?_ ⟨by omega, by omega⟩
  rintro i k0 ⟨i1, i2⟩ hk
  dsimp only at i1 i2 ⊢
  refine cond_i (fun q => ?_) (fun q => ?_)
  · have q := of_decide_eq_true q
    obtain ⟨e1, e2⟩ := hp i.toNat (by omega)
    obtain ⟨r1, r2, r3, r4⟩ := rd2 (n := 3) lx i1 q
    obtain ⟨s1, s2, s3, s4⟩ := rd2 (n := 3) ly i1 q
    obtain ⟨t1, t2, t3, t4⟩ := rd2 (n := 3) lz i1 q
    have w : IntKind.i64.wrap (i + 1) = i + 1 := i64_id (by omega) (by omega)
    rw [r3, r4, s3, s4, t3, t4, ← e1, ← e2]
    refine ck_i (by simp; omega) (ck_i r2 (ck_i s2 ⟨by simp, ck_i t2 ⟨by simp, ck_i ?_ ⟨by simp, ?_⟩⟩⟩))
    · rw [ic_get (by omega), ic_len]; simp [okK, isInt]; omega
    · rw [w]; exact hk _ ⟨by omega, by omega⟩ (by omega)
  · refine ⟨by rw [x1, y1, hxy]; simp, ck_i (by simp only [okRow_ic (n := 3) (s := 2) lx (by omega), okRow_ic (n := 3) (s := 2) lz (by omega)]; rfl) ?_⟩
    rw [ic_map, ic_map]
    show boRet _ = _
    congr 1
    unfold withinP
    rw [x1, z1]
    simp only [Bool.and_eq_true, List.all_eq_true, List.mem_range, decide_eq_true_eq]
    refine ⟨⟨trivial, ?_⟩, fun k hk => ?_⟩
    · simp [withB]; omega
    · rw [← (hp k hk).2]; exact withB_refl _

theorem f5_true (a0 a1 a2 b0 b1 b2 : Int) {p0 p1 p2 p3 p4 p5 : Prop} (w0 : p0) (w1 : p1) (w2 : p2) (w3 : p3) (w4 : p4) (w5 : p5) : f5_wp a0 a1 a2 b0 b1 b2 (fun r' => r' = boRet true) := f5_pure a0 a1 a2 b0 b1 b2

theorem cx5_ok : CtxOk Try.prog cx5.q.ctx := (ctx_cons (g := 16) (ctx_cons (g := 17) (ctx_cons (g := 23) ctx_nil (by kernel_rfl) sum23_ok) (by kernel_rfl) sum17_ok) (by kernel_rfl) sum16_ok)

end Go.Proofs.Ytlfojobligplkaa.Fn
