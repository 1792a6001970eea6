import Derived.Test.YtgmciihlmgeecaaPuN3
import Derived.Test.YtgmciihlmgeecaaWND
/- The law's functions of Nums: what is told of each is so. Conditions: those that each lemma names. -/
namespace Go.Proofs.Ytgmciihlmgeecaa.Fn
open Go Go.RowKit Go.Proofs.Ytgmciihlmgeecaa.Mt Go.Proofs.Ytgmciihlmgeecaa.Zm
set_option linter.unusedVariables false
set_option linter.unusedSimpArgs false

theorem meetR_fst {z : Zo} {x lo hi : Int} : (meetR z x lo hi).1 = z.1 := by
  unfold meetR
  split
  · rfl
  · rw [boundR_fst, boundR_fst]
theorem zeroGo_fst {t : Nat} {z : Zo} : (zeroGo t z).1 = z.1 := by
  induction t with
  | zero => rfl
  | succ t ih => rw [zeroGo, meetR_fst, ih]
theorem zeroGo_len {t : Nat} {z : Zo} (h : z.2.2.length = 49) : (zeroGo t z).2.2.length = 49 := by
  induction t with
  | zero => exact h
  | succ t ih => rw [zeroGo]; exact meetR_len ih
theorem f72_spec (n : Int) (hn : okN n = true) : f72_wp n (fun r' => r' = zRe (zeroN n)) := by
  have rn := okN_rng hn
  unfold f72_wp
  have lT := topR_len (n := n)
  have fT : (topR n).1 = n := by
    unfold topR
    rw [closeR_fst]
    unfold capN
    show min (max n 0) 6 = n
    omega
  have e : zRe (zeroN n) = zRe (zeroGo n.toNat (topR n)) := rfl
  rw [e]
  clear e
  refine letV_j fun T hT => ?_
  rw [hT] at lT fT ⊢
  clear hT
  (repeat ((first | with_reducible apply ck_i | with_reducible apply And.intro); · (first | with_reducible rfl | ((try simp only [ics]) <;> simp [ics, *] <;> omega))))
  refine LoopP.ind (I := fun z => 0 ≤ z.1 ∧ z.1 ≤ n ∧ z.2 = ((zeroGo z.1.toNat T).1, (zeroGo z.1.toNat T).2.1, ic .i64 (zeroGo z.1.toNat T).2.2)) (μ := fun z => (n - z.1).toNat) ?_ ⟨by dsimp only; omega, by dsimp only; omega, rfl⟩
  rintro ⟨x, wn, wb, cs⟩ k0 ⟨i1, i2, i3⟩ hk
  dsimp only at i1 i2 i3 ⊢
  simp only [Prod.mk.injEq] at i3
  obtain ⟨rfl, rfl, rfl⟩ := i3
  have lW := zeroGo_len (t := x.toNat) lT
  have fW : (zeroGo x.toNat T).1 = n := by rw [zeroGo_fst]; exact fT
  refine cond_i (fun q1 => ?_) (fun q1 => ?_)
  · have q1 := of_decide_eq_true q1
    have hk' := hk (x + 1, (zeroGo (x + 1).toNat T).1, (zeroGo (x + 1).toNat T).2.1, ic .i64 (zeroGo (x + 1).toNat T).2.2) ⟨by dsimp only; omega, by dsimp only; omega, rfl⟩ (by dsimp only; omega)
    rw [show (x + 1).toNat = x.toNat + 1 by omega] at hk'
    unfold zeroGo at hk'
    rw [show ((x.toNat : Nat) : Int) = x by omega] at hk'
    clear hk lT fT
    have hx : in16 x = true := by unfold in16; simp; omega
    generalize zeroGo x.toNat T = W at *
    have oW : okN W.1 = true := by rw [fW]; exact hn
    refine ck_i (by (first | with_reducible rfl | ((try simp only [ics]) <;> simp [ics, *] <;> omega))) ?_
    refine letV_j fun u hu => ?_
    simp only [map_ic, Prod.eta] at hu
    rw [hu] at hk'
    have lu : u.2.2.length = 49 := by rw [← hu]; exact meetR_len lW
    clear hu
    rw [wr1 (by omega) (by omega)]
    (repeat ((first | with_reducible apply ck_i | with_reducible apply And.intro); · (first | with_reducible rfl | ((try simp only [ics]) <;> simp [ics, *] <;> omega))))
    exact hk'
  · have q1 := of_decide_eq_false q1
    rw [show x.toNat = n.toNat by omega] at lW ⊢
    (repeat ((first | with_reducible apply ck_i | with_reducible apply And.intro); · (first | with_reducible rfl | ((try simp only [ics]) <;> simp [ics, *] <;> omega)))); rfl
theorem cx72_ok : CtxOk Try.prog cx72.q.ctx := (ctx_cons (g := 31) (ctx_cons (g := 55) ctx_nil (by kernel_rfl) sum55_ok) (by kernel_rfl) sum31_ok)
theorem sum72_ok : ∀ vs r, sum72 vs = some (true, r) → SoundAt Try.prog 72 vs r := by
  intro vs r h
  unfold sum72 at h
  split at h
  · simp only [Option.some.injEq, Prod.mk.injEq, Bool.and_eq_true] at h
    obtain ⟨⟨h0, h1⟩, rfl⟩ := h
    obtain ⟨x0, rfl⟩ := int_elim h0
    (try simp only [zO_ic] at h1)
    (try simp only [zO_ic])
    exact f72_sound _ cx72_ok (f72_spec x0 h1)
  · cases h

theorem numOk_elim {c : Bool} {rn : Nat} {l : List Int} {z : Zo} (h : numOk c (.sl rn (ic .i64 l)) z = true) : c = z.2.1 ∧ rn = (capN z.1).toNat ∧ l = itvsZ z (capN z.1).toNat := by
  simp only [numOk, eqRow, rN, rL, map_ic, Bool.and_eq_true, beq_iff_eq, decide_eq_true_eq] at h
  exact ⟨h.1, of_decide_eq_true h.2.1, h.2.2⟩
theorem itvR_eq {n : Nat} {z : Zo} (h : Gd n z) {x : Int} (hx : 0 ≤ x ∧ x < n) : itvR z x = itvZ z x := by
  unfold itvR
  cases hb : z.2.1 with
  | true =>
    rw [if_pos rfl]
    unfold itvZ varP
    rw [hb]; simp
  | false =>
    rw [if_neg (by decide), (itv_in h hb hx).1]
    have r := h.range hb (i := 0) (j := (x + 1).toNat) (by omega) (by omega)
    rw [wrap_neg (by omega)]

theorem itvsZ_get {z : Zo} {t i : Nat} (h : i < t) : (itvsZ z t).getD (i * 2) 0 = (itvZ z i).1 ∧ (itvsZ z t).getD (i * 2 + 1) 0 = (itvZ z i).2 := by
  induction t with
  | zero => omega
  | succ t ih =>
    rw [itvsZ, List.getD_eq_getElem?_getD, List.getD_eq_getElem?_getD]
    by_cases e : i = t
    · subst e
      rw [List.getElem?_append_right (by rw [itvsZ_len]; omega), List.getElem?_append_right (by rw [itvsZ_len]; omega), itvsZ_len, Nat.sub_self, show i * 2 + 1 - i * 2 = 1 by omega]
      exact ⟨rfl, rfl⟩
    · rw [List.getElem?_append_left (by rw [itvsZ_len]; omega), List.getElem?_append_left (by rw [itvsZ_len]; omega), ← List.getD_eq_getElem?_getD, ← List.getD_eq_getElem?_getD]
      exact ih (by omega)
set_option maxHeartbeats 1000000 in
theorem f56_spec (n : Nat) (z : Zo) (h : Gd n z) : f56_wp z.2.1 (capN z.1).toNat (ic .i64 (itvsZ z (capN z.1).toNat)) z.1 z.2.1 (ic .i64 z.2.2) z.1 z.2.1 (ic .i64 z.2.2) (fun r' => r' = boRet true) := by
  have hl := h.len
  have hn := h.hn
  have n6 := h.n6
  have cn : (capN z.1).toNat = n := by rw [hn, capN_id n6]; simp
  have ro := okSl_itvs (z := z) (t := n)
  have rt : rightN z.2.1 (.sl n (ic .i64 (itvsZ z n))) (z.1, z.2.1, z.2.2) = true := by
    unfold rightN
    rw [cn, show ((z.1, z.2.1, z.2.2) : Zo) = z from rfl, right_gd h]; simp [eqRow]
  have kz := okL49 hl
  have ez := eqW49s hl
  rw [cn]
  unfold f56_wp
  simp only [take49 hl, map_ic]
  (repeat ((first | with_reducible apply ck_i | with_reducible apply And.intro); · (first | with_reducible rfl | ((try simp only [ics]) <;> simp [ics, *] <;> omega))))
  refine LoopP.ind (I := fun v : Int => 0 ≤ v ∧ v ≤ n) (μ := fun v : Int => ((n : Int) - v).toNat) ?_ ⟨by omega, by omega⟩
  rintro v k0 ⟨v1, v2⟩ hk
  refine cond_i (fun q => ?_) (fun q => rfl)
  have q : v < n := by have := of_decide_eq_true q; omega
  have hk' := hk (v + 1) ⟨by omega, by omega⟩ (by omega)
  clear hk
  refine letV_j fun u hu => ?_
  rw [show ((z.1, z.2.1, z.2.2) : Zo) = z from rfl, itvR_eq h ⟨v1, q⟩] at hu
  obtain ⟨s1, s2⟩ := itvsZ_get (z := z) (t := n) (i := v.toNat) (by omega)
  rw [show ((v.toNat : Nat) : Int) = v by omega, hu] at s1 s2
  have len : (itvsZ z n).length = n * 2 := itvsZ_len
  have b1 : v.toNat * 2 < (itvsZ z n).length := by omega
  have b2 : v.toNat * 2 + 1 < (itvsZ z n).length := by omega
  refine ck_i (by simp [ic_len, hl, plain_ic, int_ic]; omega) (ck_i (by simp [ic_len, len]; omega) (ck_i (by rw [rw_get b1, rw_get b2]; simp [ic_len, len]; omega) ?_))
  refine And.intro (by simp only [int_get, s1, s2]; simp) ?_
  rw [wr1 (by omega) (by omega)]
  exact ⟨by simp [plain_ic], hk'⟩
theorem cx56_ok : CtxOk Try.prog cx56.q.ctx := (ctx_cons (g := 34) (ctx_cons (g := 45) (ctx_cons (g := 98) ctx_nil (by kernel_rfl) sum98_ok) (by kernel_rfl) sum45_ok) (by kernel_rfl) sum34_ok)
theorem sum56_ok : ∀ vs r, sum56 vs = some (true, r) → SoundAt Try.prog 56 vs r := by
  intro vs r h
  unfold sum56 at h
  split at h
  · simp only [Option.some.injEq, Prod.mk.injEq, Bool.and_eq_true] at h
    obtain ⟨⟨⟨⟨⟨h0, h1⟩, h2⟩, h3⟩, h4⟩, rfl⟩ := h
    obtain ⟨c, rn, l, n0, b0, D0, hr, hl0, hc0, rfl⟩ := num_elim h0
    obtain ⟨n1, b1, D1, hl1, hc1, rfl⟩ := zone_elim h1
    simp only [uZ_ic, zO_ic] at h2 h3 h4
    have e := of_decide_eq_true h2
    simp only [Prod.mk.injEq] at e
    obtain ⟨rfl, rfl, rfl⟩ := e
    obtain ⟨rfl, rfl, rfl⟩ := numOk_elim (c := c) (rn := rn) (l := l) h4
    obtain ⟨N, hG⟩ := good_iff.1 h3
    exact f56_sound _ _ _ _ _ _ _ _ _ cx56_ok (f56_spec N _ hG)
  · cases h

/-- The reference's Meet is the program's. -/
theorem meetR_eq {n : Nat} {z : Zo} (h : Gd n z) {x lo hi : Int} (hx : 0 ≤ x ∧ x < n) (h1 : -4294967296 ≤ hi) (h2 : -4294967296 ≤ lo ∧ lo ≤ 4294967296) : meetR z x lo hi = heldZ z x lo hi := by
  have hn := h.hn
  have n6 := h.n6
  have cn : capN z.1 = z.1 := by rw [hn, capN_id n6]
  unfold meetR heldZ
  rw [if_neg (show ¬ (x < 0 ∨ z.1 ≤ x) by omega)]
  by_cases hl : lo > hi
  · rw [if_pos (by simp [hl]), if_pos hl]; unfold noneZ; rw [cn]
  · rw [if_neg hl]
    cases hb : z.2.1 with
    | true =>
      rw [if_pos (by simp), boundZ_none (z := z) hb, boundZ_none hb, ← h.none hb]
      exact Prod.ext rfl (Prod.ext hb.symm rfl)
    | false =>
      rw [if_neg (by simp [hl]), wrap_neg (by omega), boundR_eq h (by omega) (by omega) (by omega), boundR_eq (bound_gd h) (by omega) (by omega) (by omega)]

theorem zeroGo_rep {n : Nat} (h6 : n ≤ 6) : ∀ t, t ≤ n → Zm.Rep n (fun m => ((∀ i, i ≤ n → m i i ≤ 0) ∧ Own n m) ∧ ∀ i, 1 ≤ i → i ≤ t → m i 0 ≤ 0 ∧ m 0 i ≤ 0) (zeroGo t (topZ n))
  | 0, _ => (top_rep h6).of fun m hm => ⟨fun h => ⟨h, fun i h1 h2 => by omega⟩, fun h => h.1⟩
  | t + 1, ht => by
    have ih := zeroGo_rep h6 t (by omega)
    rw [zeroGo, meetR_eq ih.1 (by omega) (by omega) (by omega)]
    refine (held_rep ih (x := (t : Int)) (lo := 0) (hi := 0) (i := t + 1) (by omega) (by omega) ht (by omega) (by omega) (by omega) (by omega)).of fun m hm => ?_
    constructor
    · rintro ⟨⟨⟨hb, hr⟩, e1⟩, e2⟩
      refine ⟨hb, fun i h1 h2 => ?_⟩
      by_cases e : i = t + 1
      · subst e; exact ⟨e1, by omega⟩
      · exact hr i h1 (by omega)
    · rintro ⟨hb, hr⟩
      have r := hr (t + 1) (by omega) (by omega)
      exact ⟨⟨⟨hb, fun i h1 h2 => hr i h1 (by omega)⟩, r.1⟩, by omega⟩
theorem zeroN_eq {n : Nat} (h6 : n ≤ 6) : zeroN n = zerosZ n := by
  unfold zeroN
  rw [topR_eq h6, Int.toNat_natCast]
  exact (zeroGo_rep h6 n (Nat.le_refl _)).uniq (zeros_rep h6) fun m hm => Iff.rfl

end Go.Proofs.Ytgmciihlmgeecaa.Fn
