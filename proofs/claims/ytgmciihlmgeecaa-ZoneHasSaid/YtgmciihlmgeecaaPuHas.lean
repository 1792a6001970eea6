import Derived.Test.YtgmciihlmgeecaaPuZA
import Derived.Test.YtgmciihlmgeecaaWLZoneHas
import Derived.Test.YtgmciihlmgeecaaZLaws
/- ZoneHas: the law's function tells true. Conditions: none beyond its arguments' types. -/
namespace Go.Proofs.Ytgmciihlmgeecaa.Fn
open Go Go.RowKit Go.Proofs.Ytgmciihlmgeecaa.Mt Go.Proofs.Ytgmciihlmgeecaa.Zm
set_option linter.unusedVariables false
set_option linter.unusedSimpArgs false

theorem wf32 {x : Int} (h : (Lit.int .i32 x).wf = true) : -2147483648 ≤ x ∧ x ≤ 2147483647 := by
  simp [Lit.wf, IntKind.min, IntKind.max, IntKind.bits, IntKind.signed] at h; omega
theorem int_get32 {l : List Int} {j : Nat} : intC ((ic .i32 l).getD j .dead) = l.getD j 0 := by
  by_cases h : j < l.length
  · rw [ic_get h]; rfl
  · rw [List.getD_eq_getElem?_getD, List.getD_eq_getElem?_getD, List.getElem?_eq_none (by rw [ic_len]; omega), List.getElem?_eq_none (by omega)]; rfl
theorem okK_ic32 {l : List Int} {j : Nat} : okK (some .i32) ((ic .i32 l).getD j .dead) = decide (j < l.length) := by
  by_cases h : j < l.length
  · rw [ic_get h, decide_eq_true h]; rfl
  · rw [List.getD_eq_getElem?_getD, List.getElem?_eq_none (by rw [ic_len]; omega), decide_eq_false h]; rfl

/-- Numbers in a row, nought ahead of them. -/
def vF (v : List Int) (i : Nat) : Int := atP v i
def InV (v : List Int) : Prop := ∀ x ∈ v, -2147483648 ≤ x ∧ x ≤ 2147483647
theorem vF_succ (v : List Int) (i : Nat) : vF v (i + 1) = v.getD i 0 := by
  unfold vF atP
  rw [if_neg (by omega), show ((i + 1 : Nat) : Int) - 1 = i by omega, Int.toNat_natCast]
theorem inV_get {v : List Int} (h : InV v) (j : Nat) : -2147483648 ≤ v.getD j 0 ∧ v.getD j 0 ≤ 2147483647 := by
  by_cases e : j < v.length
  · rw [List.getD_eq_getElem?_getD, List.getElem?_eq_getElem e]
    exact h _ (List.getElem_mem e)
  · rw [List.getD_eq_getElem?_getD, List.getElem?_eq_none (by omega)]; simp
theorem inV_in {v : List Int} (h : InV v) (n : Nat) : InR n (vF v) := by
  refine ⟨rfl, fun i h1 _ => ?_⟩
  obtain ⟨t, rfl⟩ : ∃ t, i = t + 1 := ⟨i - 1, by omega⟩
  rw [vF_succ]; exact inV_get h t
theorem inV_set {v : List Int} (h : InV v) {j : Nat} {x : Int} (hx : -2147483648 ≤ x ∧ x ≤ 2147483647) : InV (v.set j x) := fun y hy => by
  rcases List.mem_or_eq_of_mem_set hy with h' | rfl
  · exact h y h'
  · exact hx
theorem vF_set {v : List Int} {j : Nat} (hj : j < v.length) {x : Int} (i : Nat) : vF (v.set j x) i = if i = j + 1 then x else vF v i := by
  cases i with
  | zero => rw [if_neg (by omega)]; rfl
  | succ t =>
    rw [vF_succ, vF_succ, List.getD_eq_getElem?_getD, List.getElem?_set, List.getD_eq_getElem?_getD]
    by_cases e : j = t
    · subst e; rw [if_pos rfl, if_pos rfl, if_pos hj]; rfl
    · rw [if_neg e, if_neg (by omega)]
theorem has_true {n : Nat} {z : Zo} {v : List Int} (h : Gd n z) (hv : InV v) (hp : Pt n (vF v) z) : hasZ z n v = true := by
  have t := h.trip hp.1
  rw [t]
  have e := has_iff (n := (n : Int)) (D := z.2.2) (l := v) (by rw [← h.hn]; exact h.okN)
  rw [Int.toNat_natCast] at e
  have at' : ∀ i : Nat, -2147483648 ≤ vF v i ∧ vF v i ≤ 2147483647 := fun i => by
    cases i with
    | zero => show -2147483648 ≤ (0 : Int) ∧ (0 : Int) ≤ 2147483647; omega
    | succ t => rw [vF_succ]; exact inV_get hv t
  refine e.2 fun i hi => ⟨at' i, fun j hj => ?_⟩
  have a := at' i
  have b := at' j
  have c := hp.2 i j (by omega) (by omega)
  show wrap64 (vF v i - vF v j) ≤ _
  rw [wrap_in (by omega) (by omega)]
  exact c
theorem has_count {n : Nat} {z : Zo} {v : List Int} (h : Gd n z) {m : Nat} (hm : m ≠ n) : hasZ z m v = false := by
  unfold hasZ
  rw [h.hn, decide_eq_false (by omega)]; simp

/-- A number that is had, after each call. -/
theorem has_bound {n : Nat} {z : Zo} {v : List Int} (h : Gd n z) (hp : Pt n (vF v) z) {x y c : Int} (hx : -1 ≤ x ∧ x < n) (hy : -1 ≤ y ∧ y < n) (hc : vF v (x + 1).toNat - vF v (y + 1).toNat ≤ c) (h0 : -1099511627776 ≤ c) : Gd n (boundZ z x y c) ∧ Pt n (vF v) (boundZ z x y c) :=
  ⟨bound_gd h, (bound_pt h hx hy).2 ⟨hp, by omega⟩⟩
theorem has_forget {n : Nat} {z : Zo} {v : List Int} (h : Gd n z) (hl : v.length = n) (hv : InV v) (hp : Pt n (vF v) z) {x b : Int} (hx : 0 ≤ x ∧ x < n) (hb : -2147483648 ≤ b ∧ b ≤ 2147483647) : Gd n (forgetZ z x) ∧ Pt n (vF (v.set x.toNat b)) (forgetZ z x) ∧ InV (v.set x.toNat b) := by
  have iv := inV_set (j := x.toNat) hv hb
  refine ⟨forget_gd h, forget_pt h hx hp (inV_in iv n) fun i hi e => ?_, iv⟩
  rw [vF_set (by omega), if_neg (by omega)]
theorem has_copy {n : Nat} {z : Zo} {v : List Int} (h : Gd n z) (hl : v.length = n) (hv : InV v) (hp : Pt n (vF v) z) {x y b c : Int} (hx : 0 ≤ x ∧ x < n) (hy : -1 ≤ y ∧ y < n) (hb : -1099511627776 ≤ b ∧ b ≤ 1099511627776) (hc : c = vF v (y + 1).toNat + b) (hr : -2147483648 ≤ c ∧ c ≤ 2147483647) : Gd n (copyZ z x y b) ∧ Pt n (vF (v.set x.toNat c)) (copyZ z x y b) ∧ InV (v.set x.toNat c) := by
  have iv := inV_set (j := x.toNat) hv hr
  refine ⟨copy_gd h, copy_pt h hx hy hb hp (inV_in iv n) (fun i hi e => ?_) ?_, iv⟩
  · rw [vF_set (by omega), if_neg (by omega)]
  · rw [vF_set (by omega), if_pos (by omega)]; exact hc
theorem ro_ok {K : Nat} {v : List Int} (h : v.length = K) : okRowU 1 (Cell.sl K (ic .i64 v)) = true := by
  simp [okRowU, int_ic, ic_len, h]

/-- By how much: below a thousand. -/
def bO (a : Int) : Int := (IntKind.i64.wrap (IntKind.i32.wrap a)).tmod 1000
theorem bO_f {a : Int} : (IntKind.i64.wrap (IntKind.i32.wrap a)).tmod 1000 = bO a := by rw [bO]
theorem actW_g {a : Int} : IntKind.i64.wrap ((IntKind.u64.wrap a).tmod 5) = actW a := by rw [actW]
theorem actX_g {n a : Int} : IntKind.i64.wrap ((IntKind.u64.wrap a).tmod (IntKind.u64.wrap n)) = actX n a := by rw [actX]
theorem actY_g {n a : Int} : IntKind.i64.wrap (actX (IntKind.i64.wrap (n + 1)) a - 1) = actY n a := by rw [actY, actX]
theorem bO_in (a : Int) : -999 ≤ bO a ∧ bO a ≤ 999 := by
  unfold bO
  have h1 := Int.tmod_lt_of_pos (IntKind.i64.wrap (IntKind.i32.wrap a)) (show (0 : Int) < 1000 by omega)
  have h2 := Int.lt_tmod_of_pos (IntKind.i64.wrap (IntKind.i32.wrap a)) (show (0 : Int) < 1000 by omega)
  omega

def hsI (K : Nat) (vals : List Int) : (Unit) ⊕ (Int × Nat × (List Cell)) → Prop
  | .inl _ => True
  | .inr (i, m, vs) => 1 ≤ i ∧ i ≤ K ∧ m = i.toNat ∧ vs = ic .i64 (vals.take i.toNat)
def hsM (K : Nat) : (Unit) ⊕ (Int × Nat × (List Cell)) → Nat
  | .inl _ => K + 1
  | .inr (i, _) => ((K : Int) - i).toNat

set_option maxHeartbeats 4000000 in
theorem f5_pure (a0 : Int) (v0 v1 v2 v3 v4 v5 : Int) (hv : InV [v0, v1, v2, v3, v4, v5]) (n : Nat) (l : List Int) (hl : l.length = n * 4) : f5_wp a0 v0 v1 v2 v3 v4 v5 n (ic .i64 l) (fun r' => r' = boRet true) := by
  have hk7 := mod_in (a := a0) (m := 7) (by omega) (by omega)
  unfold f5_wp
  (try delta X5_21)
  (try delta X5_20)
  (try delta X5_3)
  (try delta X5_19)
  (try delta X5_18)
  (try delta X5_17)
  (try delta X5_16)
  (try delta X5_15)
  (try delta X5_14)
  (try delta X5_13)
  (try delta X5_12)
  (try delta X5_11)
  (try delta X5_10)
  (try delta X5_9)
  (try delta X5_8)
  (try delta X5_7)
  (try delta X5_6)
  (try delta X5_5)
  (try delta X5_4)
  (try delta X5_2)
  (try delta X5_1)
  (try delta X5_0)
  simp only [Nat.mul_one, Nat.zero_add, int_get, okK_ic, ic_len]
  generalize IntKind.i64.wrap ((IntKind.u64.wrap a0).tmod 7) = kk at *
  obtain ⟨K, rfl⟩ : ∃ K : Nat, kk = K := ⟨kk.toNat, by omega⟩
  have K6 : K ≤ 6 := by omega
  simp only [actW_g, actX_g, actY_g, bO_f]
  refine letV_j fun u1 h1 => ?_
  have g1 : Gd K u1 := by rw [← h1]; exact (top_rep K6).1
  have l1 : u1.2.2.length = 49 := g1.len
  have p1 : ∀ v : List Int, InV v → Pt K (vF v) u1 := fun v hv => by rw [← h1]; exact top_pt K6 (inV_in hv K)
  clear h1
  (repeat ((first | with_reducible apply ck_i | with_reducible apply And.intro); · (first | (simp only [min_if, max_if, ics]; done) | with_reducible rfl | ((try simp only [min_if, max_if, ics]); simp [min_if, max_if, ics, *]; done) | ((try simp only [min_if, max_if, ics]); simp [min_if, max_if, ics, *]; omega))))
  have ev : ∀ i : Nat, i < 6 → okK (some .i32) ([Cell.v (Value.int .i32 v0), Cell.v (Value.int .i32 v1), Cell.v (Value.int .i32 v2), Cell.v (Value.int .i32 v3), Cell.v (Value.int .i32 v4), Cell.v (Value.int .i32 v5)].getD i .dead) = true ∧
      intC ([Cell.v (Value.int .i32 v0), Cell.v (Value.int .i32 v1), Cell.v (Value.int .i32 v2), Cell.v (Value.int .i32 v3), Cell.v (Value.int .i32 v4), Cell.v (Value.int .i32 v5)].getD i .dead) = [v0, v1, v2, v3, v4, v5].getD i 0 := fun i hi => by
    have e : [Cell.v (Value.int .i32 v0), Cell.v (Value.int .i32 v1), Cell.v (Value.int .i32 v2), Cell.v (Value.int .i32 v3), Cell.v (Value.int .i32 v4), Cell.v (Value.int .i32 v5)] = ic .i32 [v0, v1, v2, v3, v4, v5] := rfl
    rw [e, okK_ic32, int_get32]
    exact ⟨decide_eq_true hi, rfl⟩
  have h0 := inV_get hv 0
  have h0 : -2147483648 ≤ v0 ∧ v0 ≤ 2147483647 := h0
  have ln : [v0, v1, v2, v3, v4, v5].length = 6 := rfl
  have e0 : [v0, v1, v2, v3, v4, v5].take 1 = [v0] := rfl
  generalize hvs : [v0, v1, v2, v3, v4, v5] = vals at *
  refine LoopP.ind (I := hsI K vals) (μ := hsM K) ?_ trivial
  rintro (⟨⟩ | ⟨i, m, vs⟩) k0 hI hk
  · dsimp only [sumE_l]
    refine cond_i (fun q => ?_) (fun q => ?_)
    · have q : (0 : Int) < K := of_decide_eq_true q
      have hk' := hk (Sum.inr (1, 1, [Cell.v (Value.int .i64 v0)])) ⟨by omega, by omega, rfl, by show _ = ic .i64 (vals.take 1); rw [e0]; rfl⟩ (by show ((K : Int) - 1).toNat < K + 1; omega)
      rw [i64_id (n := v0) (by omega) (by omega)]
      clear hk ev
      (repeat ((first | with_reducible apply ck_i | with_reducible apply And.intro); · (first | (simp only [min_if, max_if, ics]; done) | with_reducible rfl | ((try simp only [min_if, max_if, ics]); simp [min_if, max_if, ics, *]; done) | ((try simp only [min_if, max_if, ics]); simp [min_if, max_if, ics, *]; omega))))
      exact hk'
    · have q : ¬ (0 : Int) < K := of_decide_eq_false q
      obtain rfl : K = 0 := by omega
      have t1 : hasZ (u1.1, u1.2.1, u1.2.2) 0 [] = true := has_true g1 (fun x hx => by cases hx) (p1 [] fun x hx => by cases hx)
      have t2 : hasZ (u1.1, u1.2.1, u1.2.2) 1 (List.map intC [Cell.v (Value.int .i64 1)]) = false := has_count g1 (by omega)
      clear hk ev
      (repeat ((first | with_reducible apply ck_i | with_reducible apply And.intro); · (first | (simp only [min_if, max_if, ics]; done) | with_reducible rfl | ((try simp only [min_if, max_if, ics]); simp [min_if, max_if, ics, *]; done) | ((try simp only [min_if, max_if, ics]); simp [min_if, max_if, ics, *]; omega))))
      refine LoopP.ind (I := fun z => z = 0) (μ := fun z => 0) ?_ rfl
      rintro _ k1 rfl hk1
      clear hk1
      refine cond_i (fun q1 => ?_) (fun q1 => ?_)
      · refine cond_i (fun q2 => ?_) (fun q2 => absurd q2 (by simp))
        refine cond_i (fun q3 => absurd q3 (by simp)) (fun q3 => ?_)
        (repeat ((first | with_reducible apply ck_i | with_reducible apply And.intro); · (first | (simp only [min_if, max_if, ics]; done) | with_reducible rfl | ((try simp only [min_if, max_if, ics]); simp [min_if, max_if, ics, *]; done) | ((try simp only [min_if, max_if, ics]); simp [min_if, max_if, ics, *]; omega))))
        rw [map_ic, t2]; rfl
      · (repeat ((first | with_reducible apply ck_i | with_reducible apply And.intro); · (first | (simp only [min_if, max_if, ics]; done) | with_reducible rfl | ((try simp only [min_if, max_if, ics]); simp [min_if, max_if, ics, *]; done) | ((try simp only [min_if, max_if, ics]); simp [min_if, max_if, ics, *]; omega))))
        rw [map_ic, t2]; rfl
  · dsimp only [sumE_r]
    obtain ⟨i1, i2, rfl, rfl⟩ := hI
    have wi : IntKind.i64.wrap (i + 1) = i + 1 := wr1 (by omega) (by omega)
    have lt : (vals.take i.toNat).length = i.toNat := by rw [List.length_take, ln]; omega
    rw [wi]
    refine cond_i (fun q => ?_) (fun q => ?_)
    · have q : i < K := of_decide_eq_true q
      obtain ⟨ev1, ev2⟩ := ev i.toNat (by omega)
      have hg := inV_get hv i.toNat
      rw [ev2, i64_id (n := vals.getD i.toNat 0) (by omega) (by omega)]
      have hk' := hk (Sum.inr (i + 1, i.toNat + 1, ic .i64 (vals.take i.toNat) ++ [Cell.v (Value.int .i64 (vals.getD i.toNat 0))])) ⟨by omega, by omega, by omega, by
        rw [show (i + 1).toNat = i.toNat + 1 by omega, List.take_succ_eq_append_getElem (by omega), ← ic_append, List.getD_eq_getElem?_getD, List.getElem?_eq_getElem (by omega)]; rfl⟩ (by show ((K : Int) - (i + 1)).toNat < ((K : Int) - i).toNat; omega)
      clear hk ev hvs
      (repeat ((first | with_reducible apply ck_i | with_reducible apply And.intro); · (first | (simp only [min_if, max_if, ics]; done) | with_reducible rfl | ((try simp only [min_if, max_if, ics]); simp [min_if, max_if, ics, *]; done) | ((try simp only [min_if, max_if, ics]); simp [min_if, max_if, ics, *]; omega))))
      rw [ev1]
      (repeat ((first | with_reducible apply ck_i | with_reducible apply And.intro); · (first | (simp only [min_if, max_if, ics]; done) | with_reducible rfl | ((try simp only [min_if, max_if, ics]); simp [min_if, max_if, ics, *]; done) | ((try simp only [min_if, max_if, ics]); simp [min_if, max_if, ics, *]; omega))))
      exact hk'
    · have q : ¬ i < K := of_decide_eq_false q
      obtain rfl : i = (K : Int) := by omega
      have ivt : InV (vals.take (K : Int).toNat) := fun x hx => hv x (List.mem_of_mem_take hx)
      rw [Int.toNat_natCast] at lt ivt ⊢
      have pt := p1 _ ivt
      generalize vals.take K = w0 at *
      clear hk ev hvs p1 ln e0 hv h0 wi
      (repeat ((first | with_reducible apply ck_i | with_reducible apply And.intro); · (first | (simp only [min_if, max_if, ics]; done) | with_reducible rfl | ((try simp only [min_if, max_if, ics]); simp [min_if, max_if, ics, *]; done) | ((try simp only [min_if, max_if, ics]); simp [min_if, max_if, ics, *]; omega))))
      refine LoopP.ind (I := fun z => 0 ≤ z.1 ∧ z.1 ≤ ((min n 20 : Nat) : Int) ∧ ∃ (z' : Zo) (v : List Int), z.2 = (z'.1, z'.2.1, ic .i64 z'.2.2, ic .i64 v) ∧ Gd K z' ∧ v.length = K ∧ InV v ∧ Pt K (vF v) z') (μ := fun z => (((min n 20 : Nat) : Int) - z.1).toNat) ?_ ⟨by dsimp only; omega, by dsimp only; omega, u1, w0, rfl, g1, lt, ivt, pt⟩
      clear g1 lt ivt pt
      rintro ⟨i, zn, zb, cs, vs⟩ k2 ⟨j1, j2, z, v, hz, gz, lv, iv, pz⟩ hk
      dsimp only at j1 j2 ⊢
      simp only [Prod.mk.injEq] at hz
      obtain ⟨rfl, rfl, rfl, rfl⟩ := hz
      have lz : z.2.2.length = 49 := gz.len
      have ro := ro_ok lv
      have nz : z.2.1 = false := pz.1
      have hz1 : hasZ (z.1, z.2.1, z.2.2) K v = true := has_true gz iv pz
      have hz2 : ∀ w : List Int, hasZ (z.1, z.2.1, z.2.2) (K + 1) w = false := fun w => has_count gz (by omega)
      have ro2 : okRowU 1 (Cell.sl (K + 1) (ic .i64 v ++ [Cell.v (Value.int .i64 1)])) = true := by
        have : ic .i64 v ++ [Cell.v (Value.int .i64 1)] = ic .i64 (v ++ [1]) := by rw [← ic_append]; rfl
        rw [this]; exact ro_ok (by rw [List.length_append, lv]; simp)
      have lap : (ic .i64 v ++ [Cell.v (Value.int .i64 1)]).length = K + 1 := by rw [List.length_append, ic_len, lv]; rfl
      refine cond_i (fun q => ?_) (fun q => ?_)
      · have q := of_decide_eq_true q
        refine cond_i (fun q2 => ?_) (fun q2 => ?_)
        · have q2 := of_decide_eq_true q2
          refine cond_i (fun q3 => ?_) (fun q3 => ?_)
          · have q3 := of_decide_eq_true q3
            have wi := wr1 (show -1000 ≤ i by omega) (show i ≤ 1000 by omega)
            have fin : ∀ (z' : Zo) (v' : List Int), Gd K z' → v'.length = K → InV v' → Pt K (vF v') z' → z'.2.2.length = 49 ∧ okRowU 1 (Cell.sl K (ic .i64 v')) = true ∧ hasZ (z'.1, z'.2.1, z'.2.2) K v' = true ∧ z'.2.1 = false ∧ k2 (i + 1, z'.1, z'.2.1, ic .i64 z'.2.2, ic .i64 v') := fun z' v' g l' iv' p =>
              ⟨g.len, ro_ok l', has_true g iv' p, p.1, hk _ ⟨by dsimp only; omega, by dsimp only; omega, z', v', rfl, g, l', iv', p⟩ (by dsimp only; omega)⟩
            have rl : i.toNat * 4 + 4 ≤ l.length := by omega
            refine ck_i (by simp; omega) (ck_i (by simp; omega) ?_)
            have rX := fun a => actX_in (n := (K : Int)) (a := a) (by omega) (by omega)
            have rY := fun a => actY_in (n := (K : Int)) (a := a) (by omega) (by omega)
            generalize l.getD (i.toNat * 4) 0 = ak
            generalize l.getD (i.toNat * 4 + 1) 0 = ax
            generalize l.getD (i.toNat * 4 + 2) 0 = ay
            generalize l.getD (i.toNat * 4 + 3) 0 = ab
            have rX := rX ax
            have rY := rY ay
            have rB := bO_in ab
            have rW := actW_in ak
            refine ck_i (by rw [IntWalk.u64_in (K : Int) ⟨by omega, by omega⟩]; simp; omega) (ck_i (by rw [wr1 (by omega) (by omega), IntWalk.u64_in ((K : Int) + 1) ⟨by omega, by omega⟩]; simp; omega) ?_)
            rw [wi]
            generalize actX (K : Int) ax = X at rX ⊢
            generalize actY (K : Int) ay = Y at rY ⊢
            generalize bO ab = B at rB ⊢
            simp only [max_if, int_get]
            clear hk q q2 q3 rl hz2 ro2 lap
            have gX := inV_get iv X.toNat
            have fX : vF v (X + 1).toNat = v.getD X.toNat 0 := by rw [show (X + 1).toNat = X.toNat + 1 by omega, vF_succ]
            have s0 := fin z v gz lv iv pz
            refine cond_i (fun qY => ?_) (fun qY => ?_)
            · skip
              have qY : Y ≥ 0 := of_decide_eq_true qY
              have gY := inV_get iv Y.toNat
              have fY : vF v (Y + 1).toNat = v.getD Y.toNat 0 := by rw [show (Y + 1).toNat = Y.toNat + 1 by omega, vF_succ]
              (repeat ((first | with_reducible apply ck_i | with_reducible apply And.intro); · (first | (simp only [min_if, max_if, ics]; done) | with_reducible rfl | ((try simp only [min_if, max_if, ics]); simp [min_if, max_if, ics, *]; done) | ((try simp only [min_if, max_if, ics]); simp [min_if, max_if, ics, *]; omega))))
              generalize v.getD Y.toNat 0 = at' at *
              refine cond_i (fun c0 => ?_) (fun c0 => ?_)
              · have c0 : actW ak = 0 := by simpa using c0
                refine cond_i (fun d => ?_) (fun d => ?_)
                · have d : ¬ X = Y := by simpa using d
                  (repeat ((first | with_reducible apply ck_i | with_reducible apply And.intro); · (first | (simp only [min_if, max_if, ics]; done) | with_reducible rfl | ((try simp only [min_if, max_if, ics]); simp [min_if, max_if, ics, *]; done) | ((try simp only [min_if, max_if, ics]); simp [min_if, max_if, ics, *]; omega))))
                  generalize v.getD X.toNat 0 = vx at *
                  rw [IntWalk.i64_in (vx - at') ⟨by omega, by omega⟩, IntWalk.i64_in (vx - at' + max B 0) ⟨by omega, by omega⟩]
                  refine letV_j fun u hu => ?_
                  have bb := has_bound (c := vx - at' + max B 0) gz pz (x := X) (y := Y) (by omega) (by omega) (by rw [fX, fY]; omega) (by omega)
                  simp only [map_ic, Prod.eta] at hu
                  rw [hu] at bb
                  have fq := fin u v bb.1 lv iv bb.2
                  clear hu bb fX fY
                  clear fin
                  obtain ⟨f1, f2, f3, f4, f5⟩ := fq
                  simp only [ics] at *
                  (repeat ((first | with_reducible apply ck_i | with_reducible apply And.intro); · (first | (simp only [min_if, max_if, ics]; done) | with_reducible rfl | ((try simp only [min_if, max_if, ics]); simp [min_if, max_if, ics, *]; done) | ((try simp only [min_if, max_if, ics]); simp [min_if, max_if, ics, *]; omega))))
                  exact f5
                · skip
                  obtain ⟨f1, f2, f3, f4, f5⟩ := s0
                  clear fin
                  simp only [map_ic, Prod.eta] at *
                  (repeat ((first | with_reducible apply ck_i | with_reducible apply And.intro); · (first | (simp only [min_if, max_if, ics]; done) | with_reducible rfl | ((try simp only [min_if, max_if, ics]); simp [min_if, max_if, ics, *]; done) | ((try simp only [min_if, max_if, ics]); simp [min_if, max_if, ics, *]; omega))))
                  exact f5
              · have c0 : ¬ actW ak = 0 := by simpa using c0
                refine cond_i (fun c1 => ?_) (fun c1 => ?_)
                · have c1 : actW ak = 1 := by simpa using c1
                  refine cond_i (fun d => ?_) (fun d => ?_)
                  · have d : ¬ X = Y := by simpa using d
                    (repeat ((first | with_reducible apply ck_i | with_reducible apply And.intro); · (first | (simp only [min_if, max_if, ics]; done) | with_reducible rfl | ((try simp only [min_if, max_if, ics]); simp [min_if, max_if, ics, *]; done) | ((try simp only [min_if, max_if, ics]); simp [min_if, max_if, ics, *]; omega))))
                    generalize v.getD X.toNat 0 = vx at *
                    rw [IntWalk.i64_in (vx - at') ⟨by omega, by omega⟩, IntWalk.i64_in (vx - at' + max B 0) ⟨by omega, by omega⟩]
                    refine letV_j fun u hu => ?_
                    have bb := has_bound (c := vx - at' + max B 0) gz pz (x := X) (y := Y) (by omega) (by omega) (by rw [fX, fY]; omega) (by omega)
                    simp only [map_ic, Prod.eta] at hu
                    rw [hu] at bb
                    have fq := fin u v bb.1 lv iv bb.2
                    clear hu bb fX fY
                    clear fin
                    obtain ⟨f1, f2, f3, f4, f5⟩ := fq
                    simp only [ics] at *
                    (repeat ((first | with_reducible apply ck_i | with_reducible apply And.intro); · (first | (simp only [min_if, max_if, ics]; done) | with_reducible rfl | ((try simp only [min_if, max_if, ics]); simp [min_if, max_if, ics, *]; done) | ((try simp only [min_if, max_if, ics]); simp [min_if, max_if, ics, *]; omega))))
                    exact f5
                  · skip
                    obtain ⟨f1, f2, f3, f4, f5⟩ := s0
                    clear fin
                    simp only [map_ic, Prod.eta] at *
                    (repeat ((first | with_reducible apply ck_i | with_reducible apply And.intro); · (first | (simp only [min_if, max_if, ics]; done) | with_reducible rfl | ((try simp only [min_if, max_if, ics]); simp [min_if, max_if, ics, *]; done) | ((try simp only [min_if, max_if, ics]); simp [min_if, max_if, ics, *]; omega))))
                    exact f5
                · have c1 : ¬ actW ak = 1 := by simpa using c1
                  refine cond_i (fun c2 => ?_) (fun c2 => ?_)
                  · have c2 : actW ak = 2 := by simpa using c2
                    (repeat ((first | with_reducible apply ck_i | with_reducible apply And.intro); · (first | (simp only [min_if, max_if, ics]; done) | with_reducible rfl | ((try simp only [min_if, max_if, ics]); simp [min_if, max_if, ics, *]; done) | ((try simp only [min_if, max_if, ics]); simp [min_if, max_if, ics, *]; omega))))
                    refine letV_j fun u hu => ?_
                    have bb := has_forget gz lv iv pz (x := X) (b := B) (by omega) (by omega)
                    simp only [map_ic, Prod.eta] at hu
                    rw [hu] at bb
                    have fq := fin u (v.set X.toNat B) bb.1 (by rw [List.length_set]; exact lv) bb.2.2 bb.2.1
                    clear hu bb fX fY
                    clear fin
                    obtain ⟨f1, f2, f3, f4, f5⟩ := fq
                    simp only [ics] at *
                    (repeat ((first | with_reducible apply ck_i | with_reducible apply And.intro); · (first | (simp only [min_if, max_if, ics]; done) | with_reducible rfl | ((try simp only [min_if, max_if, ics]); simp [min_if, max_if, ics, *]; done) | ((try simp only [min_if, max_if, ics]); simp [min_if, max_if, ics, *]; omega))))
                    exact f5
                  · have c2 : ¬ actW ak = 2 := by simpa using c2
                    refine cond_i (fun c3 => ?_) (fun c3 => ?_)
                    · have c3 : actW ak = 3 := by simpa using c3
                      rw [IntWalk.i64_in (at' + B) ⟨by omega, by omega⟩]
                      refine cond_i (fun d => ?_) (fun d => ?_)
                      · have d := of_decide_eq_true d
                        refine cond_i (fun d2 => ?_) (fun d2 => ?_)
                        · have d2 := of_decide_eq_true d2
                          (repeat ((first | with_reducible apply ck_i | with_reducible apply And.intro); · (first | (simp only [min_if, max_if, ics]; done) | with_reducible rfl | ((try simp only [min_if, max_if, ics]); simp [min_if, max_if, ics, *]; done) | ((try simp only [min_if, max_if, ics]); simp [min_if, max_if, ics, *]; omega))))
                          refine letV_j fun u hu => ?_
                          have bb := has_copy gz lv iv pz (x := X) (y := Y) (b := B) (c := at' + B) (by omega) (by omega) (by omega) (by rw [fY]) (by omega)
                          simp only [map_ic, Prod.eta] at hu
                          rw [hu] at bb
                          have fq := fin u (v.set X.toNat (at' + B)) bb.1 (by rw [List.length_set]; exact lv) bb.2.2 bb.2.1
                          clear hu bb fX fY
                          clear fin
                          obtain ⟨f1, f2, f3, f4, f5⟩ := fq
                          simp only [ics] at *
                          (repeat ((first | with_reducible apply ck_i | with_reducible apply And.intro); · (first | (simp only [min_if, max_if, ics]; done) | with_reducible rfl | ((try simp only [min_if, max_if, ics]); simp [min_if, max_if, ics, *]; done) | ((try simp only [min_if, max_if, ics]); simp [min_if, max_if, ics, *]; omega))))
                          exact f5
                        · skip
                          obtain ⟨f1, f2, f3, f4, f5⟩ := s0
                          clear fin
                          simp only [map_ic, Prod.eta] at *
                          (repeat ((first | with_reducible apply ck_i | with_reducible apply And.intro); · (first | (simp only [min_if, max_if, ics]; done) | with_reducible rfl | ((try simp only [min_if, max_if, ics]); simp [min_if, max_if, ics, *]; done) | ((try simp only [min_if, max_if, ics]); simp [min_if, max_if, ics, *]; omega))))
                          exact f5
                      · skip
                        obtain ⟨f1, f2, f3, f4, f5⟩ := s0
                        clear fin
                        simp only [map_ic, Prod.eta] at *
                        (repeat ((first | with_reducible apply ck_i | with_reducible apply And.intro); · (first | (simp only [min_if, max_if, ics]; done) | with_reducible rfl | ((try simp only [min_if, max_if, ics]); simp [min_if, max_if, ics, *]; done) | ((try simp only [min_if, max_if, ics]); simp [min_if, max_if, ics, *]; omega))))
                        exact f5
                    · have c3 : ¬ actW ak = 3 := by simpa using c3
                      refine cond_i (fun c4 => ?_) (fun c4 => ?_)
                      · have c4 : actW ak = 4 := by simpa using c4
                        rw [IntWalk.i64_in (at' + B) ⟨by omega, by omega⟩]
                        refine cond_i (fun d => ?_) (fun d => ?_)
                        · have d := of_decide_eq_true d
                          refine cond_i (fun d2 => ?_) (fun d2 => ?_)
                          · have d2 := of_decide_eq_true d2
                            (repeat ((first | with_reducible apply ck_i | with_reducible apply And.intro); · (first | (simp only [min_if, max_if, ics]; done) | with_reducible rfl | ((try simp only [min_if, max_if, ics]); simp [min_if, max_if, ics, *]; done) | ((try simp only [min_if, max_if, ics]); simp [min_if, max_if, ics, *]; omega))))
                            refine letV_j fun u hu => ?_
                            have bb := has_copy gz lv iv pz (x := X) (y := Y) (b := B) (c := at' + B) (by omega) (by omega) (by omega) (by rw [fY]) (by omega)
                            simp only [map_ic, Prod.eta] at hu
                            rw [hu] at bb
                            have fq := fin u (v.set X.toNat (at' + B)) bb.1 (by rw [List.length_set]; exact lv) bb.2.2 bb.2.1
                            clear hu bb fX fY
                            clear fin
                            obtain ⟨f1, f2, f3, f4, f5⟩ := fq
                            simp only [ics] at *
                            (repeat ((first | with_reducible apply ck_i | with_reducible apply And.intro); · (first | (simp only [min_if, max_if, ics]; done) | with_reducible rfl | ((try simp only [min_if, max_if, ics]); simp [min_if, max_if, ics, *]; done) | ((try simp only [min_if, max_if, ics]); simp [min_if, max_if, ics, *]; omega))))
                            exact f5
                          · skip
                            obtain ⟨f1, f2, f3, f4, f5⟩ := s0
                            clear fin
                            simp only [map_ic, Prod.eta] at *
                            (repeat ((first | with_reducible apply ck_i | with_reducible apply And.intro); · (first | (simp only [min_if, max_if, ics]; done) | with_reducible rfl | ((try simp only [min_if, max_if, ics]); simp [min_if, max_if, ics, *]; done) | ((try simp only [min_if, max_if, ics]); simp [min_if, max_if, ics, *]; omega))))
                            exact f5
                        · skip
                          obtain ⟨f1, f2, f3, f4, f5⟩ := s0
                          clear fin
                          simp only [map_ic, Prod.eta] at *
                          (repeat ((first | with_reducible apply ck_i | with_reducible apply And.intro); · (first | (simp only [min_if, max_if, ics]; done) | with_reducible rfl | ((try simp only [min_if, max_if, ics]); simp [min_if, max_if, ics, *]; done) | ((try simp only [min_if, max_if, ics]); simp [min_if, max_if, ics, *]; omega))))
                          exact f5
                      · have c4 : ¬ actW ak = 4 := by simpa using c4
                        omega
            · skip
              have qY : ¬ Y ≥ 0 := of_decide_eq_false qY
              have fY : vF v (Y + 1).toNat = 0 := by rw [show (Y + 1).toNat = 0 by omega]; rfl
              refine cond_i (fun c0 => ?_) (fun c0 => ?_)
              · have c0 : actW ak = 0 := by simpa using c0
                refine cond_i (fun d => ?_) (fun d => ?_)
                · have d : ¬ X = Y := by simpa using d
                  (repeat ((first | with_reducible apply ck_i | with_reducible apply And.intro); · (first | (simp only [min_if, max_if, ics]; done) | with_reducible rfl | ((try simp only [min_if, max_if, ics]); simp [min_if, max_if, ics, *]; done) | ((try simp only [min_if, max_if, ics]); simp [min_if, max_if, ics, *]; omega))))
                  generalize v.getD X.toNat 0 = vx at *
                  rw [IntWalk.i64_in (vx - 0) ⟨by omega, by omega⟩, IntWalk.i64_in (vx - 0 + max B 0) ⟨by omega, by omega⟩]
                  refine letV_j fun u hu => ?_
                  have bb := has_bound (c := vx - 0 + max B 0) gz pz (x := X) (y := Y) (by omega) (by omega) (by rw [fX, fY]; omega) (by omega)
                  simp only [map_ic, Prod.eta] at hu
                  rw [hu] at bb
                  have fq := fin u v bb.1 lv iv bb.2
                  clear hu bb fX fY
                  clear fin
                  obtain ⟨f1, f2, f3, f4, f5⟩ := fq
                  simp only [ics] at *
                  (repeat ((first | with_reducible apply ck_i | with_reducible apply And.intro); · (first | (simp only [min_if, max_if, ics]; done) | with_reducible rfl | ((try simp only [min_if, max_if, ics]); simp [min_if, max_if, ics, *]; done) | ((try simp only [min_if, max_if, ics]); simp [min_if, max_if, ics, *]; omega))))
                  exact f5
                · skip
                  obtain ⟨f1, f2, f3, f4, f5⟩ := s0
                  clear fin
                  simp only [map_ic, Prod.eta] at *
                  (repeat ((first | with_reducible apply ck_i | with_reducible apply And.intro); · (first | (simp only [min_if, max_if, ics]; done) | with_reducible rfl | ((try simp only [min_if, max_if, ics]); simp [min_if, max_if, ics, *]; done) | ((try simp only [min_if, max_if, ics]); simp [min_if, max_if, ics, *]; omega))))
                  exact f5
              · have c0 : ¬ actW ak = 0 := by simpa using c0
                refine cond_i (fun c1 => ?_) (fun c1 => ?_)
                · have c1 : actW ak = 1 := by simpa using c1
                  refine cond_i (fun d => ?_) (fun d => ?_)
                  · have d : ¬ X = Y := by simpa using d
                    (repeat ((first | with_reducible apply ck_i | with_reducible apply And.intro); · (first | (simp only [min_if, max_if, ics]; done) | with_reducible rfl | ((try simp only [min_if, max_if, ics]); simp [min_if, max_if, ics, *]; done) | ((try simp only [min_if, max_if, ics]); simp [min_if, max_if, ics, *]; omega))))
                    generalize v.getD X.toNat 0 = vx at *
                    rw [IntWalk.i64_in (vx - 0) ⟨by omega, by omega⟩, IntWalk.i64_in (vx - 0 + max B 0) ⟨by omega, by omega⟩]
                    refine letV_j fun u hu => ?_
                    have bb := has_bound (c := vx - 0 + max B 0) gz pz (x := X) (y := Y) (by omega) (by omega) (by rw [fX, fY]; omega) (by omega)
                    simp only [map_ic, Prod.eta] at hu
                    rw [hu] at bb
                    have fq := fin u v bb.1 lv iv bb.2
                    clear hu bb fX fY
                    clear fin
                    obtain ⟨f1, f2, f3, f4, f5⟩ := fq
                    simp only [ics] at *
                    (repeat ((first | with_reducible apply ck_i | with_reducible apply And.intro); · (first | (simp only [min_if, max_if, ics]; done) | with_reducible rfl | ((try simp only [min_if, max_if, ics]); simp [min_if, max_if, ics, *]; done) | ((try simp only [min_if, max_if, ics]); simp [min_if, max_if, ics, *]; omega))))
                    exact f5
                  · skip
                    obtain ⟨f1, f2, f3, f4, f5⟩ := s0
                    clear fin
                    simp only [map_ic, Prod.eta] at *
                    (repeat ((first | with_reducible apply ck_i | with_reducible apply And.intro); · (first | (simp only [min_if, max_if, ics]; done) | with_reducible rfl | ((try simp only [min_if, max_if, ics]); simp [min_if, max_if, ics, *]; done) | ((try simp only [min_if, max_if, ics]); simp [min_if, max_if, ics, *]; omega))))
                    exact f5
                · have c1 : ¬ actW ak = 1 := by simpa using c1
                  refine cond_i (fun c2 => ?_) (fun c2 => ?_)
                  · have c2 : actW ak = 2 := by simpa using c2
                    (repeat ((first | with_reducible apply ck_i | with_reducible apply And.intro); · (first | (simp only [min_if, max_if, ics]; done) | with_reducible rfl | ((try simp only [min_if, max_if, ics]); simp [min_if, max_if, ics, *]; done) | ((try simp only [min_if, max_if, ics]); simp [min_if, max_if, ics, *]; omega))))
                    refine letV_j fun u hu => ?_
                    have bb := has_forget gz lv iv pz (x := X) (b := B) (by omega) (by omega)
                    simp only [map_ic, Prod.eta] at hu
                    rw [hu] at bb
                    have fq := fin u (v.set X.toNat B) bb.1 (by rw [List.length_set]; exact lv) bb.2.2 bb.2.1
                    clear hu bb fX fY
                    clear fin
                    obtain ⟨f1, f2, f3, f4, f5⟩ := fq
                    simp only [ics] at *
                    (repeat ((first | with_reducible apply ck_i | with_reducible apply And.intro); · (first | (simp only [min_if, max_if, ics]; done) | with_reducible rfl | ((try simp only [min_if, max_if, ics]); simp [min_if, max_if, ics, *]; done) | ((try simp only [min_if, max_if, ics]); simp [min_if, max_if, ics, *]; omega))))
                    exact f5
                  · have c2 : ¬ actW ak = 2 := by simpa using c2
                    refine cond_i (fun c3 => ?_) (fun c3 => ?_)
                    · have c3 : actW ak = 3 := by simpa using c3
                      simp only [Int.zero_add]
                      rw [IntWalk.i64_in B ⟨by omega, by omega⟩]
                      refine cond_i (fun d => ?_) (fun d => ?_)
                      · have d := of_decide_eq_true d
                        refine cond_i (fun d2 => ?_) (fun d2 => ?_)
                        · have d2 := of_decide_eq_true d2
                          (repeat ((first | with_reducible apply ck_i | with_reducible apply And.intro); · (first | (simp only [min_if, max_if, ics]; done) | with_reducible rfl | ((try simp only [min_if, max_if, ics]); simp [min_if, max_if, ics, *]; done) | ((try simp only [min_if, max_if, ics]); simp [min_if, max_if, ics, *]; omega))))
                          refine letV_j fun u hu => ?_
                          have bb := has_copy gz lv iv pz (x := X) (y := Y) (b := B) (c := B) (by omega) (by omega) (by omega) (by rw [fY]; omega) (by omega)
                          simp only [map_ic, Prod.eta] at hu
                          rw [hu] at bb
                          have fq := fin u (v.set X.toNat B) bb.1 (by rw [List.length_set]; exact lv) bb.2.2 bb.2.1
                          clear hu bb fX fY
                          clear fin
                          obtain ⟨f1, f2, f3, f4, f5⟩ := fq
                          simp only [ics] at *
                          (repeat ((first | with_reducible apply ck_i | with_reducible apply And.intro); · (first | (simp only [min_if, max_if, ics]; done) | with_reducible rfl | ((try simp only [min_if, max_if, ics]); simp [min_if, max_if, ics, *]; done) | ((try simp only [min_if, max_if, ics]); simp [min_if, max_if, ics, *]; omega))))
                          exact f5
                        · skip
                          obtain ⟨f1, f2, f3, f4, f5⟩ := s0
                          clear fin
                          simp only [map_ic, Prod.eta] at *
                          (repeat ((first | with_reducible apply ck_i | with_reducible apply And.intro); · (first | (simp only [min_if, max_if, ics]; done) | with_reducible rfl | ((try simp only [min_if, max_if, ics]); simp [min_if, max_if, ics, *]; done) | ((try simp only [min_if, max_if, ics]); simp [min_if, max_if, ics, *]; omega))))
                          exact f5
                      · skip
                        obtain ⟨f1, f2, f3, f4, f5⟩ := s0
                        clear fin
                        simp only [map_ic, Prod.eta] at *
                        (repeat ((first | with_reducible apply ck_i | with_reducible apply And.intro); · (first | (simp only [min_if, max_if, ics]; done) | with_reducible rfl | ((try simp only [min_if, max_if, ics]); simp [min_if, max_if, ics, *]; done) | ((try simp only [min_if, max_if, ics]); simp [min_if, max_if, ics, *]; omega))))
                        exact f5
                    · have c3 : ¬ actW ak = 3 := by simpa using c3
                      refine cond_i (fun c4 => ?_) (fun c4 => ?_)
                      · have c4 : actW ak = 4 := by simpa using c4
                        simp only [Int.zero_add]
                        rw [IntWalk.i64_in B ⟨by omega, by omega⟩]
                        refine cond_i (fun d => ?_) (fun d => ?_)
                        · have d := of_decide_eq_true d
                          refine cond_i (fun d2 => ?_) (fun d2 => ?_)
                          · have d2 := of_decide_eq_true d2
                            (repeat ((first | with_reducible apply ck_i | with_reducible apply And.intro); · (first | (simp only [min_if, max_if, ics]; done) | with_reducible rfl | ((try simp only [min_if, max_if, ics]); simp [min_if, max_if, ics, *]; done) | ((try simp only [min_if, max_if, ics]); simp [min_if, max_if, ics, *]; omega))))
                            refine letV_j fun u hu => ?_
                            have bb := has_copy gz lv iv pz (x := X) (y := Y) (b := B) (c := B) (by omega) (by omega) (by omega) (by rw [fY]; omega) (by omega)
                            simp only [map_ic, Prod.eta] at hu
                            rw [hu] at bb
                            have fq := fin u (v.set X.toNat B) bb.1 (by rw [List.length_set]; exact lv) bb.2.2 bb.2.1
                            clear hu bb fX fY
                            clear fin
                            obtain ⟨f1, f2, f3, f4, f5⟩ := fq
                            simp only [ics] at *
                            (repeat ((first | with_reducible apply ck_i | with_reducible apply And.intro); · (first | (simp only [min_if, max_if, ics]; done) | with_reducible rfl | ((try simp only [min_if, max_if, ics]); simp [min_if, max_if, ics, *]; done) | ((try simp only [min_if, max_if, ics]); simp [min_if, max_if, ics, *]; omega))))
                            exact f5
                          · skip
                            obtain ⟨f1, f2, f3, f4, f5⟩ := s0
                            clear fin
                            simp only [map_ic, Prod.eta] at *
                            (repeat ((first | with_reducible apply ck_i | with_reducible apply And.intro); · (first | (simp only [min_if, max_if, ics]; done) | with_reducible rfl | ((try simp only [min_if, max_if, ics]); simp [min_if, max_if, ics, *]; done) | ((try simp only [min_if, max_if, ics]); simp [min_if, max_if, ics, *]; omega))))
                            exact f5
                        · skip
                          obtain ⟨f1, f2, f3, f4, f5⟩ := s0
                          clear fin
                          simp only [map_ic, Prod.eta] at *
                          (repeat ((first | with_reducible apply ck_i | with_reducible apply And.intro); · (first | (simp only [min_if, max_if, ics]; done) | with_reducible rfl | ((try simp only [min_if, max_if, ics]); simp [min_if, max_if, ics, *]; done) | ((try simp only [min_if, max_if, ics]); simp [min_if, max_if, ics, *]; omega))))
                          exact f5
                      · have c4 : ¬ actW ak = 4 := by simpa using c4
                        omega
          · (repeat ((first | with_reducible apply ck_i | with_reducible apply And.intro); · (first | (simp only [min_if, max_if, ics]; done) | with_reducible rfl | ((try simp only [min_if, max_if, ics]); simp [min_if, max_if, ics, *]; done) | ((try simp only [min_if, max_if, ics]); simp [min_if, max_if, ics, *]; omega))))
            rw [map_ic, hz2]; rfl
        · (repeat ((first | with_reducible apply ck_i | with_reducible apply And.intro); · (first | (simp only [min_if, max_if, ics]; done) | with_reducible rfl | ((try simp only [min_if, max_if, ics]); simp [min_if, max_if, ics, *]; done) | ((try simp only [min_if, max_if, ics]); simp [min_if, max_if, ics, *]; omega))))
          rw [map_ic, hz2]; rfl
      · (repeat ((first | with_reducible apply ck_i | with_reducible apply And.intro); · (first | (simp only [min_if, max_if, ics]; done) | with_reducible rfl | ((try simp only [min_if, max_if, ics]); simp [min_if, max_if, ics, *]; done) | ((try simp only [min_if, max_if, ics]); simp [min_if, max_if, ics, *]; omega))))
        rw [map_ic, hz2]; rfl
theorem cx5_ok : CtxOk Try.prog cx5.q.ctx := (ctx_cons (g := 25) (ctx_cons (g := 26) (ctx_cons (g := 37) (ctx_cons (g := 27) (ctx_cons (g := 38) (ctx_cons (g := 28) ctx_nil (by kernel_rfl) sum28_ok) (by kernel_rfl) sum38_ok) (by kernel_rfl) sum27_ok) (by kernel_rfl) sum37_ok) (by kernel_rfl) sum26_ok) (by kernel_rfl) sum25_ok)
theorem f5_true (a0 : Int) (v0 v1 v2 v3 v4 v5 : Int) (n : Nat) (cs : List Cell) (_ : (Lit.int .i64 a0).wf = true) (h0 : (Lit.int .i32 v0).wf = true) (h1 : (Lit.int .i32 v1).wf = true) (h2 : (Lit.int .i32 v2).wf = true) (h3 : (Lit.int .i32 v3).wf = true) (h4 : (Lit.int .i32 v4).wf = true) (h5 : (Lit.int .i32 v5).wf = true) {D : Nat} (h : TyC Try.prog D 36 [.sl n cs]) : f5_wp a0 v0 v1 v2 v3 v4 v5 n cs (fun r' => r' = boRet true) := by
  obtain ⟨l, rfl, e, _⟩ := row_ints (k := .i64) (S := [3, 47, 48]) (s := 4) (by kernel_rfl) Try.underlying36 (by decide) (by kernel_rfl) (by decide) h
  refine f5_pure a0 v0 v1 v2 v3 v4 v5 (fun x hx => ?_) n l e
  simp only [List.mem_cons, List.not_mem_nil, or_false] at hx
  rcases hx with rfl | rfl | rfl | rfl | rfl | rfl
  · exact wf32 h0
  · exact wf32 h1
  · exact wf32 h2
  · exact wf32 h3
  · exact wf32 h4
  · exact wf32 h5

end Go.Proofs.Ytgmciihlmgeecaa.Fn
