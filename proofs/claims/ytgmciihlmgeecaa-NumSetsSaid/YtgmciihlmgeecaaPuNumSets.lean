import Derived.Test.YtgmciihlmgeecaaPuN2
import Derived.Test.YtgmciihlmgeecaaZBox
import Derived.Test.YtgmciihlmgeecaaWLNumSets
/- NumSets: the law's function tells true. Conditions: none beyond its arguments' types. -/
namespace Go.Proofs.Ytgmciihlmgeecaa.Fn
open Go Go.RowKit Go.Proofs.Ytgmciihlmgeecaa.Mt Go.Proofs.Ytgmciihlmgeecaa.Zm
set_option linter.unusedVariables false
set_option linter.unusedSimpArgs false

theorem bI_range (a : Int) : -2147483648 ≤ bI a ∧ bI a ≤ 2147483647 := by
  have h : -2147483648 ≤ IntKind.i32.wrap a ∧ IntKind.i32.wrap a ≤ 2147483647 := by
    rw [IntKind.wrap_i32]; omega
  unfold bI
  rw [IntWalk.i64_in _ (by omega)]
  exact h
/-- An Itv as Norm tells it. -/
theorem norm_cases {a b : Int} (ha : -2147483648 ≤ a ∧ a ≤ 2147483647) (hb : -2147483648 ≤ b ∧ b ≤ 2147483647) : emptyP (normP a b).1 (normP a b).2 = true ∨ (emptyP (normP a b).1 (normP a b).2 = false ∧ (normP a b).1 ≤ (normP a b).2 ∧ -2147483648 ≤ (normP a b).1 ∧ (normP a b).2 ≤ 2147483647) := by
  unfold normP emptyP
  split
  · exact .inl rfl
  · rename_i h
    exact .inr ⟨decide_eq_false h, by dsimp only; omega, by dsimp only; omega, by dsimp only; omega⟩
theorem itvsZ_get {z : Zo} {t i : Nat} (h : i < t) : (itvsZ z t).getD (i * 2) 0 = (itvZ z i).1 ∧ (itvsZ z t).getD (i * 2 + 1) 0 = (itvZ z i).2 := by
  induction t with
  | zero => omega
  | succ t ih =>
    rw [itvsZ, List.getD_eq_getElem?_getD, List.getD_eq_getElem?_getD]
    by_cases e : i = t
    · subst e
      rw [List.getElem?_append_right (by rw [itvsZ_len]; omega), List.getElem?_append_right (by rw [itvsZ_len]; omega), itvsZ_len, Nat.sub_self, show i * 2 + 1 - i * 2 = 1 by omega]
      exact ⟨rfl, rfl⟩
    · rw [List.getElem?_append_left (by rw [itvsZ_len]; omega), List.getElem?_append_left (by rw [itvsZ_len]; omega), ← List.getD_eq_getElem?_getD, ← List.getD_eq_getElem?_getD]
      exact ih (by omega)
theorem eqRow_self {n : Nat} {l : List Int} : eqRow (.sl n (ic .i64 l)) (.sl n (ic .i64 l)) = true := by simp [eqRow]
theorem rightN_self {n : Nat} {u : Zo} (h : Gd n u) : rightN u.2.1 (.sl (capN u.1).toNat (ic .i64 (itvsZ u (capN u.1).toNat))) (u.1, u.2.1, u.2.2) = true := by
  unfold rightN
  rw [show ((u.1, u.2.1, u.2.2) : Zo) = u from rfl, right_gd h, eqRow_self]; simp
section
variable {n : Nat} {U L : Nat → Int} {z : Zo}
theorem box_held (h : IsBox n U L z) {x lo hi : Int} (hx : 0 ≤ x ∧ x < n) (hl : lo ≤ hi) (h1 : -2147483648 ≤ lo) (h2 : hi ≤ 2147483647) : IsBox n (updF U (x + 1).toNat hi) (updF L (x + 1).toNat (-lo)) (heldZ (forgetZ z x) x lo hi) := by
  have R := held_rep (h.forget hx).rep (x := x) (lo := lo) (hi := hi) (i := (x + 1).toNat) (by omega) (by omega) (by omega) hl (by omega) (by omega) (by omega)
  have cl := h.gd.clo h.some
  refine R.box (fun i i1 i2 => ?_) fun m hm => ?_
  · unfold updF
    by_cases e : i = (x + 1).toNat
    · rw [if_pos e, if_pos e]; omega
    · rw [if_neg e, if_neg e]
      have u := h.up i1 i2
      have := cl.opp (i := i) (j := 0) i2 (by omega)
      omega
  · constructor
    · rintro ⟨⟨⟨hd, hr⟩, e1⟩, e2⟩
      refine ⟨hd, fun i i1 i2 => ?_⟩
      have r := hr i i1 i2
      unfold updF at r ⊢
      by_cases e : i = (x + 1).toNat
      · subst e; rw [if_pos rfl, if_pos rfl]; exact ⟨e1, e2⟩
      · rw [if_neg e, if_neg e] at r ⊢; exact r
    · rintro ⟨hd, hr⟩
      have r := hr (x + 1).toNat (by omega) (by omega)
      unfold updF at r
      rw [if_pos rfl, if_pos rfl] at r
      refine ⟨⟨⟨hd, fun i i1 i2 => ?_⟩, r.1⟩, r.2⟩
      have r' := hr i i1 i2
      unfold updF at r' ⊢
      by_cases e : i = (x + 1).toNat
      · subst e; rw [if_pos rfl, if_pos rfl]; omega
      · rw [if_neg e, if_neg e] at r' ⊢; exact r'
theorem box_itv (h : IsBox n U L z) {x : Int} (hx : 0 ≤ x ∧ x < n) : itvZ z x = (- L (x + 1).toNat, U (x + 1).toNat) := by
  have u := h.up (i := (x + 1).toNat) (by omega) (by omega)
  rw [(itv_in h.gd h.some hx).1, u.1, u.2]
theorem held_empty {x lo hi : Int} (hx : 0 ≤ x ∧ x < z.1) (hl : hi < lo) : heldZ z x lo hi = noneZ z.1 := by
  unfold heldZ
  rw [if_neg (by omega), if_pos (by omega)]
theorem held_none (h : z.2.1 = true) (hz : z = noneZ z.1) {x lo hi : Int} : heldZ z x lo hi = z := by
  unfold heldZ
  split
  · rfl
  · split
    · exact hz.symm
    · rw [boundZ_none (z := z) h, boundZ_none h]
end
theorem none3_gd : Gd 3 (noneZ 3) :=
  ⟨rfl, by omega, zeroL_len, fun _ => rfl, fun h => (by cases h), fun h => (by cases h), fun h => (by cases h), fun h => (by cases h)⟩

/-- One variable is set. -/
structure Sets (k : Int) (e : Bool) (p : Int × Int) (V : Int → Int × Int) (z : Zo) : Prop where
  gd : Gd 3 z
  no : e = true → z = noneZ 3
  ok : e = false → ∃ U L, IsBox 3 U L z ∧ ∀ x, 0 ≤ x → x < 3 → (- L (x + 1).toNat, U (x + 1).toNat) = V x
theorem sets_step {k : Int} (hk : 0 ≤ k ∧ k < 3) {e : Bool} {p q : Int × Int} {V : Int → Int × Int} {z : Zo} (h : Sets k e p V z) (hq : emptyP q.1 q.2 = true ∨ (emptyP q.1 q.2 = false ∧ q.1 ≤ q.2 ∧ -2147483648 ≤ q.1 ∧ q.2 ≤ 2147483647)) :
    Sets k (e || emptyP q.1 q.2) q (fun x => if x = k then q else V x) (heldZ (forgetZ z k) k q.1 q.2) := by
  cases e with
  | true =>
    obtain rfl := h.no rfl
    rw [forgetZ_none rfl, held_none rfl rfl]
    exact ⟨none3_gd, fun _ => rfl, fun h => (by cases h)⟩
  | false =>
    obtain ⟨U, L, hb, hv⟩ := h.ok rfl
    rcases hq with hq | ⟨hq, q1, q2, q3⟩
    · have hlt : q.2 < q.1 := by simpa [emptyP] using hq
      have hn := (hb.forget (x := k) (by omega)).gd.hn
      rw [held_empty (by omega) hlt, hn, hq]
      exact ⟨none3_gd, fun _ => rfl, fun h => (by cases h)⟩
    · have hb' := box_held hb (x := k) (lo := q.1) (hi := q.2) (by omega) q1 q2 q3
      rw [hq]
      refine ⟨hb'.gd, fun h => (by cases h), fun _ => ⟨_, _, hb', fun x h0 h3 => ?_⟩⟩
      unfold updF
      by_cases c : x = k
      · subst c; rw [if_pos rfl, if_pos rfl, if_pos rfl, Int.neg_neg]
      · rw [if_neg (by omega), if_neg (by omega), if_neg c]; exact hv x h0 h3
theorem sets_zero {k : Int} {p : Int × Int} : Sets k false p (fun _ => (0, 0)) (zerosZ 3) :=
  ⟨(zeros_box (n := 3) (by omega)).gd, fun h => (by cases h), fun _ => ⟨_, _, zeros_box (n := 3) (by omega), fun x _ _ => rfl⟩⟩
theorem sets_none {k : Int} {e : Bool} {p : Int × Int} {V : Int → Int × Int} {z : Zo} (h : Sets k e p V z) : z.2.1 = e := by
  cases e with
  | true => rw [h.no rfl]; rfl
  | false => obtain ⟨_, _, hb, _⟩ := h.ok rfl; exact hb.some

set_option maxHeartbeats 2000000 in
set_option maxRecDepth 100000 in
theorem f7_pure (a b c d x : Int) : f7_wp a b c d x (fun r' => r' = boRet true) := by
  have hk := mod_in (a := x) (m := 3) (by omega) (by omega)
  have r1 := norm_cases (bI_range a) (bI_range b)
  have r2 := norm_cases (bI_range c) (bI_range d)
  unfold f7_wp
  generalize IntKind.i64.wrap ((IntKind.u64.wrap x).tmod 3) = k at *
  rw [show List.map intC (List.replicate 49 (Cell.v (Value.int IntKind.i64 0))) = (zerosZ 3).2.2 by kernel_rfl]
  refine letV_j fun p hp => ?_
  refine letV_j fun q hq => ?_
  rw [hp] at r1
  rw [hq] at r2
  clear hp hq
  refine letV_j fun u3 h3 => ?_
  rw [h3]
  refine letV_j fun u4 _ => ?_
  refine letV_j fun u5 _ => ?_
  refine letV_j fun u6 _ => ?_
  refine letV_j fun u7 h7 => ?_
  simp only [Prod.eta] at h7
  have S7 := sets_step hk (sets_zero (k := k) (p := p)) r1
  rw [h3, h7] at S7
  clear h7 h3
  have l7 : u7.2.2.length = 49 := S7.gd.len
  have o7 := okSl_itvs (z := u7) (t := (capN u7.1).toNat)
  (repeat ((first | with_reducible apply ck_i | with_reducible apply And.intro); · (first | (simp only [ics]; done) | with_reducible rfl | ((try simp only [ics]); simp [ics, *]; done) | ((try simp only [ics]); simp [ics, *]; omega))))
  refine letV_j fun u11 h11 => ?_
  simp only [map_ic, Prod.eta] at h11
  have S11 := sets_step hk S7 r2
  rw [h11] at S11
  clear h11
  have l11 : u11.2.2.length = 49 := S11.gd.len
  have o11 := okSl_itvs (z := u11) (t := (capN u11.1).toNat)
  have g11 := rightN_self S11.gd
  have c11 : (capN u11.1).toNat = 3 := by rw [S11.gd.hn]; rfl
  have n7 := sets_none S7
  have n11 := sets_none S11
  have ok := S11.ok
  have hb3 := S11.gd
  clear S7 S11
  rw [Bool.false_or] at n7
  rw [c11] at o11 g11
  (repeat ((first | with_reducible apply ck_i | with_reducible apply And.intro); · (first | (simp only [ics]; done) | with_reducible rfl | ((try simp only [ics]); simp [ics, *]; done) | ((try simp only [ics]); simp [ics, *]; omega))))
  refine cond_i (fun e1 => ?_) (fun e1 => ?_)
  · refine And.intro (by rw [n11, e1]; rfl) ?_
    refine And.intro (by simp [c11]) ?_
    refine And.intro (by (first | (simp only [ics]; done) | with_reducible rfl | ((try simp only [ics]); simp [ics, *]; done) | ((try simp only [ics]); simp [ics, *]; omega))) ?_
    rw [c11]
    refine LoopP.ind (I := fun v : Int => 0 ≤ v ∧ v ≤ 3) (μ := fun v : Int => (3 - v).toNat) ?_ ⟨by omega, by omega⟩
    rintro v k0 ⟨v1, v2⟩ hk0
    refine cond_i (fun c1 => ?_) (fun c1 => ?_)
    · have c1 : v < 3 := of_decide_eq_true c1
      refine cond_i (fun c2 => ?_) (fun c2 => ?_)
      · have c2 : u11.2.1 = false := by simpa using c2
        obtain ⟨U, L, hb, hv⟩ := ok (by rw [← n11]; exact c2)
        have ev := hv v v1 c1
        have iv := box_itv hb (x := v) ⟨v1, c1⟩
        obtain ⟨s1, s2⟩ := itvsZ_get (z := u11) (t := 3) (i := v.toNat) (by omega)
        rw [show ((v.toNat : Nat) : Int) = v by omega, iv, ev] at s1 s2
        have hk' := hk0 (v + 1) ⟨by omega, by omega⟩ (by omega)
        have wv : IntKind.i64.wrap (v + 1) = v + 1 := wr1 (by omega) (by omega)
        clear hk0 ok hb hv ev iv hb3
        have len : (itvsZ u11 3).length = 6 := itvsZ_len
        have b1 : v.toNat * 2 < (itvsZ u11 3).length := by omega
        have b2 : v.toNat * 2 + 1 < (itvsZ u11 3).length := by omega
        rw [wv]
        refine cond_i (fun c3 => ?_) (fun c3 => ?_)
        · have c3' : v = k := by simpa using c3
          rw [if_pos c3'] at s1 s2
          refine ck_i (by simp [ic_len, len]; omega) (ck_i (by rw [rw_get b1, rw_get b2]; simp [ic_len, len]; omega) ?_)
          refine And.intro (by simp only [int_get, s1, s2]; simp) ?_
          refine cond_i (fun c4 => by rw [c3'] at c4; simp at c4) (fun _ => ?_)
          (repeat ((first | with_reducible apply ck_i | with_reducible apply And.intro); · (first | (simp only [ics]; done) | with_reducible rfl | ((try simp only [ics]); simp [ics, *]; done) | ((try simp only [ics]); simp [ics, *]; omega)))); exact hk'
        · have c3' : ¬ v = k := by simpa using c3
          rw [if_neg c3', if_neg c3'] at s1 s2
          refine cond_i (fun _ => ?_) (fun c4 => absurd (by simpa using c4) c3')
          refine ck_i (by simp [ic_len, len]; omega) (ck_i (by rw [rw_get b1, rw_get b2]; simp [ic_len, len]; omega) ?_)
          refine letV_j fun u hu => ?_
          obtain rfl : (0, 0) = u := by rw [← hu]; rfl
          refine And.intro (by simp only [int_get, s1, s2]; simp) ?_
          (repeat ((first | with_reducible apply ck_i | with_reducible apply And.intro); · (first | (simp only [ics]; done) | with_reducible rfl | ((try simp only [ics]); simp [ics, *]; done) | ((try simp only [ics]); simp [ics, *]; omega)))); exact hk'
      · clear hk0 ok hb3
        (repeat ((first | with_reducible apply ck_i | with_reducible apply And.intro); · (first | (simp only [ics]; done) | with_reducible rfl | ((try simp only [ics]); simp [ics, *]; done) | ((try simp only [ics]); simp [ics, *]; omega))))
        rw [map_ic, g11]; rfl
    · clear hk0 ok hb3
      (repeat ((first | with_reducible apply ck_i | with_reducible apply And.intro); · (first | (simp only [ics]; done) | with_reducible rfl | ((try simp only [ics]); simp [ics, *]; done) | ((try simp only [ics]); simp [ics, *]; omega))))
      rw [map_ic, g11]; rfl
  · refine And.intro (by rw [n11, e1]; simp) ?_
    refine And.intro (by simp [c11]) ?_
    refine And.intro (by (first | (simp only [ics]; done) | with_reducible rfl | ((try simp only [ics]); simp [ics, *]; done) | ((try simp only [ics]); simp [ics, *]; omega))) ?_
    rw [c11]
    refine LoopP.ind (I := fun v : Int => 0 ≤ v ∧ v ≤ 3) (μ := fun v : Int => (3 - v).toNat) ?_ ⟨by omega, by omega⟩
    rintro v k0 ⟨v1, v2⟩ hk0
    refine cond_i (fun c1 => ?_) (fun c1 => ?_)
    · have c1 : v < 3 := of_decide_eq_true c1
      refine cond_i (fun c2 => ?_) (fun c2 => ?_)
      · have c2 : u11.2.1 = false := by simpa using c2
        obtain ⟨U, L, hb, hv⟩ := ok (by rw [← n11]; exact c2)
        have ev := hv v v1 c1
        have iv := box_itv hb (x := v) ⟨v1, c1⟩
        obtain ⟨s1, s2⟩ := itvsZ_get (z := u11) (t := 3) (i := v.toNat) (by omega)
        rw [show ((v.toNat : Nat) : Int) = v by omega, iv, ev] at s1 s2
        have hk' := hk0 (v + 1) ⟨by omega, by omega⟩ (by omega)
        have wv : IntKind.i64.wrap (v + 1) = v + 1 := wr1 (by omega) (by omega)
        clear hk0 ok hb hv ev iv hb3
        have len : (itvsZ u11 3).length = 6 := itvsZ_len
        have b1 : v.toNat * 2 < (itvsZ u11 3).length := by omega
        have b2 : v.toNat * 2 + 1 < (itvsZ u11 3).length := by omega
        rw [wv]
        refine cond_i (fun c3 => ?_) (fun c3 => ?_)
        · have c3' : v = k := by simpa using c3
          rw [if_pos c3'] at s1 s2
          refine ck_i (by simp [ic_len, len]; omega) (ck_i (by rw [rw_get b1, rw_get b2]; simp [ic_len, len]; omega) ?_)
          refine And.intro (by simp only [int_get, s1, s2]; simp) ?_
          refine cond_i (fun c4 => by rw [c3'] at c4; simp at c4) (fun _ => ?_)
          (repeat ((first | with_reducible apply ck_i | with_reducible apply And.intro); · (first | (simp only [ics]; done) | with_reducible rfl | ((try simp only [ics]); simp [ics, *]; done) | ((try simp only [ics]); simp [ics, *]; omega)))); exact hk'
        · have c3' : ¬ v = k := by simpa using c3
          rw [if_neg c3', if_neg c3'] at s1 s2
          refine cond_i (fun _ => ?_) (fun c4 => absurd (by simpa using c4) c3')
          refine ck_i (by simp [ic_len, len]; omega) (ck_i (by rw [rw_get b1, rw_get b2]; simp [ic_len, len]; omega) ?_)
          refine letV_j fun u hu => ?_
          obtain rfl : (0, 0) = u := by rw [← hu]; rfl
          refine And.intro (by simp only [int_get, s1, s2]; simp) ?_
          (repeat ((first | with_reducible apply ck_i | with_reducible apply And.intro); · (first | (simp only [ics]; done) | with_reducible rfl | ((try simp only [ics]); simp [ics, *]; done) | ((try simp only [ics]); simp [ics, *]; omega)))); exact hk'
      · clear hk0 ok hb3
        (repeat ((first | with_reducible apply ck_i | with_reducible apply And.intro); · (first | (simp only [ics]; done) | with_reducible rfl | ((try simp only [ics]); simp [ics, *]; done) | ((try simp only [ics]); simp [ics, *]; omega))))
        rw [map_ic, g11]; rfl
    · clear hk0 ok hb3
      (repeat ((first | with_reducible apply ck_i | with_reducible apply And.intro); · (first | (simp only [ics]; done) | with_reducible rfl | ((try simp only [ics]); simp [ics, *]; done) | ((try simp only [ics]); simp [ics, *]; omega))))
      rw [map_ic, g11]; rfl
theorem cx7_ok : CtxOk Try.prog cx7.q.ctx := (ctx_cons (g := 40) (ctx_cons (g := 39) (ctx_cons (g := 42) (ctx_cons (g := 41) (ctx_cons (g := 43) (ctx_cons (g := 44) (ctx_cons (g := 30) (ctx_cons (g := 45) ctx_nil (by kernel_rfl) sum45_ok) (by kernel_rfl) sum30_ok) (by kernel_rfl) sum44_ok) (by kernel_rfl) sum43_ok) (by kernel_rfl) sum41_ok) (by kernel_rfl) sum42_ok) (by kernel_rfl) sum39_ok) (by kernel_rfl) sum40_ok)
theorem f7_true (a b c d x : Int) (_ : (Lit.int .i64 a).wf = true) (_ : (Lit.int .i64 b).wf = true) (_ : (Lit.int .i64 c).wf = true) (_ : (Lit.int .i64 d).wf = true) (_ : (Lit.int .i64 x).wf = true) : f7_wp a b c d x (fun r' => r' = boRet true) := f7_pure a b c d x

end Go.Proofs.Ytgmciihlmgeecaa.Fn
