import Derived.Test.YtlfojobligplkaaWLQueueRaw
import Derived.Test.YtlfojobligplkaaMtRow3
import Derived.Test.YtlfojobligplkaaPuOrders
/- The statement QueueRaw, in numbers. Conditions: those that each lemma names. -/
namespace Go.Proofs.Ytlfojobligplkaa.Fn
open Go Go.RowKit Go.Proofs.Ytlfojobligplkaa.Mt
set_option linter.unusedVariables false
set_option linter.unusedSimpArgs false

theorem f9_pure (lo hi : Int) (n : Nat) (l : List Int) (m : Nat) (q : List Int) (tag : Int) (hl : l.length = n * 2) (hn : n ≤ 8796093022208) (hq : q.length = m * 2) :
    f9_wp lo hi n (ic .i64 l) m (ic .i64 q) tag (fun r' => r' = boRet true) := by
  have hN := okRow_ic (s := 2) hl hn
  unfold f9_wp
  simp only [ic_map, ic_len]
  refine ck_i (by simp only [hN, flat_ic, plain_ic]; rfl) ?_
  refine LoopP.ind (I := sumE (fun _ => True) (fun z => 1 ≤ z.1 ∧ z.1 ≤ (m : Int) ∧ z.1 ≤ 20 ∧ z.2.1 = z.1.toNat ∧ z.2.2 = ic .i64 (q.take (z.1.toNat * 2)))) (μ := sumE (fun _ => m + 1) (fun z => ((m : Int) - z.1).toNat)) ?_ trivial
  rintro (_ | ⟨i, k, cs⟩) k0 hI hk
  · dsimp only [sumE_l, sumE_r]
    refine cond_i (fun h => ?_) (fun h => ?_)
    · have h := of_decide_eq_true h
      have g0 := ic_get (k := .i64) (l := q) (j := 0) (by omega)
      have g1 := ic_get (k := .i64) (l := q) (j := 1) (by omega)
      rw [g0, g1]
      refine ck_i (by simp; omega) (ck_i (by simp [okK, isInt]; omega) (ck_i (by simp [okK, isInt]; omega) ?_))
      refine hk (Sum.inr _) ⟨by dsimp only; omega, by dsimp only; omega, by dsimp only; omega, rfl, ?_⟩ (by show _ < m + 1; dsimp only [sumE_r]; omega)
      have t := take2 (l := q) (j := 0) (by omega)
      simp only [Nat.zero_mul, List.take_zero, List.nil_append] at t
      show _ = ic .i64 (q.take ((0 + 1) * 2))
      rw [← t]
      rfl
    · have h := of_decide_eq_false h
      refine ck_i (by simp only [hN, flat_ic, plain_ic]; rfl) (ck_i (by simp only [hN, flat_ic, plain_ic]; rfl) (ck_i (by simp only [hN, flat_ic, plain_ic]; rfl) (ck_i (by simp only [hN, flat_ic, plain_ic]; rfl) (ck_i (by simp only [hN, flat_ic, plain_ic]; rfl) (ck_i (by simpa using hq) (ck_i (by simp only [hN, flat_ic, plain_ic]; rfl) ?_))))))
      show boRet _ = boRet true
      congr 1
      exact beq_self_eq_true _
  · obtain ⟨i1, i2, i3, i4, i5⟩ := hI
    dsimp only at i1 i2 i3 i4 i5
    dsimp only [sumE_l, sumE_r]
    subst i4; subst i5
    have tl : (q.take (i.toNat * 2)).length = i.toNat * 2 := by rw [List.length_take]; omega
    have hQ := okRow_ic (s := 2) tl (by omega)
    have te : List.drop 0 (List.take (i.toNat * 2) (ic .i64 q)) = ic .i64 (q.take (i.toNat * 2)) := by simp [ic]
    have w : IntKind.i64.wrap (i + 1) = i + 1 := i64_id (by omega) (by omega)
    simp only [Int.toNat_natCast, te, ic_map, Nat.sub_zero]
    refine cond_i (fun h => cond_i (fun h2 => ?_) (fun h2 => ?_)) (fun h => ?_)
    · have h := of_decide_eq_true h
      have h2 := of_decide_eq_true h2
      have g0 := ic_get (k := .i64) (l := q) (j := i.toNat * 2) (by omega)
      have g1 := ic_get (k := .i64) (l := q) (j := i.toNat * 2 + 1) (by omega)
      rw [g0, g1, w]
      refine ck_i (by simp; omega) (ck_i (by simp [okK, isInt]; omega) (ck_i (by simp [okK, isInt]; omega) (ck_i (by simp; omega) ?_)))
      refine hk (Sum.inr _) ⟨by dsimp only; omega, by dsimp only; omega, by dsimp only; omega, by dsimp only; omega, ?_⟩ (by dsimp only [sumE_r]; omega)
      have t := take2 (l := q) (j := i.toNat) (by omega)
      dsimp only
      rw [show (i + 1).toNat = i.toNat + 1 by omega, ← t, ← ic_append]
      rfl
    · refine ck_i (by simp only [hN, flat_ic, plain_ic]; rfl) (ck_i (by simp only [hN, flat_ic, plain_ic]; rfl) (ck_i (by simp only [hN, flat_ic, plain_ic]; rfl) (ck_i (by simp only [hN, flat_ic, plain_ic]; rfl) (ck_i (by simp only [hN, hQ, flat_ic, plain_ic]; rfl) (ck_i (by simp [hq]; omega) (ck_i (by simp only [hN, hQ, flat_ic, plain_ic]; rfl) ?_))))))
      show boRet _ = boRet true
      congr 1
      exact beq_self_eq_true _
    · refine ck_i (by simp only [hN, flat_ic, plain_ic]; rfl) (ck_i (by simp only [hN, flat_ic, plain_ic]; rfl) (ck_i (by simp only [hN, flat_ic, plain_ic]; rfl) (ck_i (by simp only [hN, flat_ic, plain_ic]; rfl) (ck_i (by simp only [hN, hQ, flat_ic, plain_ic]; rfl) (ck_i (by simp [hq]; omega) (ck_i (by simp only [hN, hQ, flat_ic, plain_ic]; rfl) ?_))))))
      show boRet _ = boRet true
      congr 1
      exact beq_self_eq_true _

theorem cx9_ok : CtxOk Try.prog cx9.q.ctx := (ctx_cons (g := 35) (ctx_cons (g := 21) (ctx_cons (g := 20) (ctx_cons (g := 19) (ctx_cons (g := 36) (ctx_cons (g := 37) (ctx_cons (g := 18) (ctx_cons (g := 17) (ctx_cons (g := 22) (ctx_cons (g := 38) ctx_nil (by kernel_rfl) sum38_ok) (by kernel_rfl) sum22_ok) (by kernel_rfl) sum17_ok) (by kernel_rfl) sum18_ok) (by kernel_rfl) sum37_ok) (by kernel_rfl) sum36_ok) (by kernel_rfl) sum19_ok) (by kernel_rfl) sum20_ok) (by kernel_rfl) sum21_ok) (by kernel_rfl) sum35_ok)

/-- An Elem of a reference's, by its cells. -/
theorem elem_ty {D : Nat} {cs : List Cell} (h : TyC Try.prog D 32 cs) : ∃ (lo hi : Int) (n : Nat) (l : List Int), cs = [.v (.int .i64 lo), .v (.int .i64 hi), .sl n (ic .i64 l)] ∧ l.length = n * 2 := by
  obtain ⟨D, rfl, hl, hf⟩ := ty_struct Try.underlying32 h
  have h0 : TyC Try.prog D 29 ((cs.drop 0).take 2) := hf { name := "Len", type := 29, offset := 0, embedded := false, tag := "", pkgPath := "", byteOffset := 0 } (by simp) 2 (by kernel_rfl)
  have h1 : TyC Try.prog D 30 ((cs.drop 2).take 1) := hf { name := "Vals", type := 30, offset := 2, embedded := false, tag := "", pkgPath := "", byteOffset := 16 } (by simp) 1 (by kernel_rfl)
  have hl : cs.length = 3 := hl 3 (by kernel_rfl)
  obtain ⟨a, b, c, rfl⟩ := three_of hl
  clear hf h hl
  have h1' : TyC Try.prog D 30 [c] := h1
  obtain ⟨n, es, e⟩ := ty_slice Try.underlying30 h1'
  simp only [List.cons.injEq, and_true] at e
  subst e
  obtain ⟨l, rfl, h2, _⟩ := row_ints (k := .i64) (S := [3, 24, 29]) (s := 2) (by kernel_rfl) Try.underlying30 (by decide) (by kernel_rfl) (by decide) h1'
  have hi := ints_of (k := .i64) (S := [3, 24, 29]) (by kernel_rfl) D 29 _ (by decide) h0
  obtain ⟨x, rfl, _⟩ := hi a (by simp)
  obtain ⟨y, rfl, _⟩ := hi b (by simp)
  exact ⟨x, y, n, l, rfl, h2⟩

theorem f9_law (a0 : List Cell) (m : Nat) (a1 : List Cell) (a2 : Int) {D D' : Nat} (h0 : TyC Try.prog D 32 a0) (h1 : TyC Try.prog D' 39 [.sl m a1]) {p : Prop} (w : p) (sz : ∀ n cs', a0[2]? = some (.sl n cs') → n * 16 ≤ reachBytes) :
    SoundAt Try.prog 9 [.agg a0, .one (.sl m a1), .one (.v (.int .i64 a2))] (boRet true) := by
  obtain ⟨lo, hi, n, l, rfl, hl⟩ := elem_ty h0
  obtain ⟨q, rfl, hq, _⟩ := row_ints (k := .i64) (S := [3, 45, 46]) (s := 2) (by kernel_rfl) Try.underlying39 (by decide) (by kernel_rfl) (by decide) h1
  have hn := sz n _ rfl
  have := reachBytes_lt
  exact f9_sound _ _ _ _ _ _ _ cx9_ok (f9_pure lo hi n l m q a2 hl (by omega) hq)

end Go.Proofs.Ytlfojobligplkaa.Fn
