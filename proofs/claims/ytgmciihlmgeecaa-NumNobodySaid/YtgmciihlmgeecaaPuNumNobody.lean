import Derived.Test.YtgmciihlmgeecaaPuN5
import Derived.Test.YtgmciihlmgeecaaPuN6
import Derived.Test.YtgmciihlmgeecaaWLNumNobody
/- NumNobody: the law's function tells true. Conditions: none beyond its arguments' types. -/
namespace Go.Proofs.Ytgmciihlmgeecaa.Fn
open Go Go.RowKit Go.Proofs.Ytgmciihlmgeecaa.Mt Go.Proofs.Ytgmciihlmgeecaa.Zm
set_option linter.unusedVariables false
set_option linter.unusedSimpArgs false

theorem same_refl (z : Zo) : sameZ z z = true := by unfold sameZ; exact decide_eq_true rfl
theorem good_of {n : Nat} {z : Zo} (h : Gd n z) : goodZ z = true := good_iff.2 ⟨n, h⟩
theorem numOk_self {n : Nat} {u : Zo} (h : Gd n u) : numOk u.2.1 (.sl (capN u.1).toNat (ic .i64 (itvsZ u (capN u.1).toNat))) u = true := by simp [numOk, eqRow]
theorem unlike {n m : Nat} {a b : Zo} (h : Gd n a) (h' : Gd m b) (hne : n ≠ m) : alikeZ a b = false := by
  unfold alikeZ
  rw [h.hn, h'.hn, decide_eq_false (by omega)]; rfl
theorem un_join {n m : Nat} {a b : Zo} (h : Gd n a) (h' : Gd m b) (hne : n ≠ m) : joinZ a b = a := by
  unfold joinZ; rw [unlike h h' hne]; rfl
theorem un_widen {n m : Nat} {a b : Zo} (h : Gd n a) (h' : Gd m b) (hne : n ≠ m) : widenZ a b = a := by
  unfold widenZ; rw [unlike h h' hne]; rfl
theorem un_within {n m : Nat} {a b : Zo} (h : Gd n a) (h' : Gd m b) (hne : n ≠ m) : withinZ a b = false := by
  unfold withinZ; rw [unlike h h' hne]; rfl
/-- Of nought of each, and of a variable that there isn't. -/
theorem no_var {K : Nat} (K6 : K ≤ 6) {v lo hi : Int} (hv : v < 0 ∨ (K : Int) ≤ v) :
    heldZ (forgetZ (zerosZ K) v) v lo hi = zerosZ K ∧ heldZ (zerosZ K) v lo hi = zerosZ K ∧ copyZ (zerosZ K) v (-1) 1 = zerosZ K ∧ boundZ (zerosZ K) v (-1) 1 = zerosZ K := by
  have g := zeros_gd K6
  have hn := g.hn
  have e : heldZ (zerosZ K) v lo hi = zerosZ K := by unfold heldZ; rw [if_pos (by omega)]
  refine ⟨by rw [forgetZ_un g (by omega)]; exact e, e, copyZ_un g (.inl (by omega)), ?_⟩
  by_cases h1 : v = -1
  · subst h1
    have r := zeros_rep K6
    refine (bound_repI r (x := -1) (y := -1) (b := 1) (i := 0) (j := 0) rfl rfl (by omega) (by omega) (by omega)).uniq r fun m hm => ?_
    exact ⟨fun h => h.1, fun h => ⟨h, by have := h.1.1 0 (by omega); omega⟩⟩
  · exact boundZ_un g (.inl (by omega))

set_option maxHeartbeats 4000000 in
theorem f19a_pure (a0 a1 lo hi : Int) (h0 : a1 ≥ 0) (h0' : a1 < IntKind.i64.wrap ((IntKind.u64.wrap a0).tmod 6)) : f19a_wp a0 a1 lo hi (fun r' => r' = boRet true) := by
  have hk7 := mod_in (a := a0) (m := 6) (by omega) (by omega)
  unfold f19a_wp
  generalize IntKind.i64.wrap ((IntKind.u64.wrap a0).tmod 6) = kk at *
  obtain ⟨K, rfl⟩ : ∃ K : Nat, kk = K := ⟨kk.toNat, by omega⟩
  have K6 : K ≤ 6 := by omega
  have zl : List.map intC (List.replicate 49 (Cell.v (Value.int .i64 0))) = zeroL := by rw [rep_ic, map_ic]
  have oK : okN (K : Int) = true := by unfold okN; simp; omega
  rw [wr1 (show -1000 ≤ (K : Int) by omega) (by omega)]
  rw [IntWalk.i64_in ((K : Int) + a1) ⟨by omega, by omega⟩]
  obtain ⟨e1, e2, e3, e4⟩ := no_var K6 (v := (K : Int) + a1) (lo := lo) (hi := hi) (.inr (by omega))
  refine letV_j fun u1 h1 => ?_
  have zN : zeroN K = u1 := by rw [← h1, zeroN_eq K6]
  have g1 : Gd K u1 := by rw [← h1]; exact zeros_gd K6
  have l1 : u1.2.2.length = 49 := g1.len
  have m1 : zeroL = u1.2.2 := by rw [← h1]; rfl
  rw [h1] at e1 e2 e3 e4
  have s1 : sameZ u1 u1 = true := same_refl _
  have d1 : goodZ u1 = true := good_of g1
  have o1 := okSl_itvs (z := u1) (t := (capN u1.1).toNat)
  have n1 := numOk_self g1
  simp only [zl]
  rw [m1]
  simp only [map_ic, Prod.eta]
  clear h1 m1 zl
  refine And.intro (decide_eq_true h0) ?_
  refine And.intro (decide_eq_true h0') ?_
  refine letV_j fun u4 h4 => ?_
  have g4 : Gd (K + 1) u4 := by rw [← h4]; exact (top_rep (n := K + 1) (by omega)).1
  have l4 : u4.2.2.length = 49 := g4.len
  have o4 := okSl_itvs (z := u4) (t := (capN u4.1).toNat)
  have j4 := un_join g1 g4 (by omega)
  have w4 := un_widen g1 g4 (by omega)
  have i4 := un_within g1 g4 (by omega)
  clear h4
  (repeat ((first | with_reducible apply ck_i | with_reducible apply And.intro); · (first | with_reducible rfl | ((try simp only [ics]) <;> simp [ics, *] <;> omega))))
  refine letV_j fun u7 h7 => ?_
  refine letV_j fun u8 h8 => ?_
  refine letV_j fun u9 h9 => ?_
  refine letV_j fun u10 h10 => ?_
  clear h7 h8 h9 h10
  (repeat ((first | with_reducible apply ck_i | with_reducible apply And.intro); · (first | with_reducible rfl | ((try simp only [ics]) <;> simp [ics, *] <;> omega))))
  refine letV_j fun u12 hA => ?_
  obtain rfl : u1 = u12 := by rw [← hA]; exact e1.symm
  clear hA
  (repeat ((first | with_reducible apply ck_i | with_reducible apply And.intro); · (first | with_reducible rfl | ((try simp only [ics]) <;> simp [ics, *] <;> omega))))
  refine letV_j fun u14 hB => ?_
  obtain rfl : u1 = u14 := by rw [← hB]; exact zN.symm
  clear hB
  (repeat ((first | with_reducible apply ck_i | with_reducible apply And.intro); · (first | with_reducible rfl | ((try simp only [ics]) <;> simp [ics, *] <;> omega))))
  refine letV_j fun u17 hA => ?_
  obtain rfl : u1 = u17 := by rw [← hA]; exact e2.symm
  clear hA
  (repeat ((first | with_reducible apply ck_i | with_reducible apply And.intro); · (first | with_reducible rfl | ((try simp only [ics]) <;> simp [ics, *] <;> omega))))
  refine letV_j fun u19 hB => ?_
  obtain rfl : u1 = u19 := by rw [← hB]; exact zN.symm
  clear hB
  (repeat ((first | with_reducible apply ck_i | with_reducible apply And.intro); · (first | with_reducible rfl | ((try simp only [ics]) <;> simp [ics, *] <;> omega))))
  refine letV_j fun u22 hA => ?_
  obtain rfl : u1 = u22 := by rw [← hA]; exact e3.symm
  clear hA
  (repeat ((first | with_reducible apply ck_i | with_reducible apply And.intro); · (first | with_reducible rfl | ((try simp only [ics]) <;> simp [ics, *] <;> omega))))
  refine letV_j fun u24 hB => ?_
  obtain rfl : u1 = u24 := by rw [← hB]; exact zN.symm
  clear hB
  (repeat ((first | with_reducible apply ck_i | with_reducible apply And.intro); · (first | with_reducible rfl | ((try simp only [ics]) <;> simp [ics, *] <;> omega))))
  refine letV_j fun u27 hA => ?_
  obtain rfl : u1 = u27 := by rw [← hA]; exact e4.symm
  clear hA
  (repeat ((first | with_reducible apply ck_i | with_reducible apply And.intro); · (first | with_reducible rfl | ((try simp only [ics]) <;> simp [ics, *] <;> omega))))
  refine letV_j fun u29 hB => ?_
  obtain rfl : u1 = u29 := by rw [← hB]; exact zN.symm
  clear hB
  (repeat ((first | with_reducible apply ck_i | with_reducible apply And.intro); · (first | with_reducible rfl | ((try simp only [ics]) <;> simp [ics, *] <;> omega))))
  refine letV_j fun u33 hA => ?_
  obtain rfl : u1 = u33 := by rw [← hA]; exact j4.symm
  clear hA
  (repeat ((first | with_reducible apply ck_i | with_reducible apply And.intro); · (first | with_reducible rfl | ((try simp only [ics]) <;> simp [ics, *] <;> omega))))
  refine letV_j fun u35 hB => ?_
  obtain rfl : u1 = u35 := by rw [← hB]; exact zN.symm
  clear hB
  (repeat ((first | with_reducible apply ck_i | with_reducible apply And.intro); · (first | with_reducible rfl | ((try simp only [ics]) <;> simp [ics, *] <;> omega))))
  refine letV_j fun u38 hA => ?_
  obtain rfl : u1 = u38 := by rw [← hA]; exact w4.symm
  clear hA
  (repeat ((first | with_reducible apply ck_i | with_reducible apply And.intro); · (first | with_reducible rfl | ((try simp only [ics]) <;> simp [ics, *] <;> omega))))
  refine letV_j fun u40 hB => ?_
  obtain rfl : u1 = u40 := by rw [← hB]; exact zN.symm
  clear hB
  (repeat ((first | with_reducible apply ck_i | with_reducible apply And.intro); · (first | with_reducible rfl | ((try simp only [ics]) <;> simp [ics, *] <;> omega))))
  rw [i4]; rfl
set_option maxHeartbeats 4000000 in
theorem f19b_pure (a0 a1 lo hi : Int) (h0 : a1 ≥ 0) (h0' : ¬ a1 < IntKind.i64.wrap ((IntKind.u64.wrap a0).tmod 6)) : f19b_wp a0 a1 lo hi (fun r' => r' = boRet true) := by
  have hk7 := mod_in (a := a0) (m := 6) (by omega) (by omega)
  unfold f19b_wp
  generalize IntKind.i64.wrap ((IntKind.u64.wrap a0).tmod 6) = kk at *
  obtain ⟨K, rfl⟩ : ∃ K : Nat, kk = K := ⟨kk.toNat, by omega⟩
  have K6 : K ≤ 6 := by omega
  have zl : List.map intC (List.replicate 49 (Cell.v (Value.int .i64 0))) = zeroL := by rw [rep_ic, map_ic]
  have oK : okN (K : Int) = true := by unfold okN; simp; omega
  rw [wr1 (show -1000 ≤ (K : Int) by omega) (by omega)]
  obtain ⟨e1, e2, e3, e4⟩ := no_var K6 (v := a1) (lo := lo) (hi := hi) (.inr (by omega))
  refine letV_j fun u1 h1 => ?_
  have zN : zeroN K = u1 := by rw [← h1, zeroN_eq K6]
  have g1 : Gd K u1 := by rw [← h1]; exact zeros_gd K6
  have l1 : u1.2.2.length = 49 := g1.len
  have m1 : zeroL = u1.2.2 := by rw [← h1]; rfl
  rw [h1] at e1 e2 e3 e4
  have s1 : sameZ u1 u1 = true := same_refl _
  have d1 : goodZ u1 = true := good_of g1
  have o1 := okSl_itvs (z := u1) (t := (capN u1.1).toNat)
  have n1 := numOk_self g1
  simp only [zl]
  rw [m1]
  simp only [map_ic, Prod.eta]
  clear h1 m1 zl
  refine And.intro (decide_eq_true h0) ?_
  refine And.intro (decide_eq_false h0') ?_
  refine letV_j fun u4 h4 => ?_
  have g4 : Gd (K + 1) u4 := by rw [← h4]; exact (top_rep (n := K + 1) (by omega)).1
  have l4 : u4.2.2.length = 49 := g4.len
  have o4 := okSl_itvs (z := u4) (t := (capN u4.1).toNat)
  have j4 := un_join g1 g4 (by omega)
  have w4 := un_widen g1 g4 (by omega)
  have i4 := un_within g1 g4 (by omega)
  clear h4
  (repeat ((first | with_reducible apply ck_i | with_reducible apply And.intro); · (first | with_reducible rfl | ((try simp only [ics]) <;> simp [ics, *] <;> omega))))
  refine letV_j fun u7 h7 => ?_
  refine letV_j fun u8 h8 => ?_
  refine letV_j fun u9 h9 => ?_
  refine letV_j fun u10 h10 => ?_
  clear h7 h8 h9 h10
  (repeat ((first | with_reducible apply ck_i | with_reducible apply And.intro); · (first | with_reducible rfl | ((try simp only [ics]) <;> simp [ics, *] <;> omega))))
  refine letV_j fun u12 hA => ?_
  obtain rfl : u1 = u12 := by rw [← hA]; exact e1.symm
  clear hA
  (repeat ((first | with_reducible apply ck_i | with_reducible apply And.intro); · (first | with_reducible rfl | ((try simp only [ics]) <;> simp [ics, *] <;> omega))))
  refine letV_j fun u14 hB => ?_
  obtain rfl : u1 = u14 := by rw [← hB]; exact zN.symm
  clear hB
  (repeat ((first | with_reducible apply ck_i | with_reducible apply And.intro); · (first | with_reducible rfl | ((try simp only [ics]) <;> simp [ics, *] <;> omega))))
  refine letV_j fun u17 hA => ?_
  obtain rfl : u1 = u17 := by rw [← hA]; exact e2.symm
  clear hA
  (repeat ((first | with_reducible apply ck_i | with_reducible apply And.intro); · (first | with_reducible rfl | ((try simp only [ics]) <;> simp [ics, *] <;> omega))))
  refine letV_j fun u19 hB => ?_
  obtain rfl : u1 = u19 := by rw [← hB]; exact zN.symm
  clear hB
  (repeat ((first | with_reducible apply ck_i | with_reducible apply And.intro); · (first | with_reducible rfl | ((try simp only [ics]) <;> simp [ics, *] <;> omega))))
  refine letV_j fun u22 hA => ?_
  obtain rfl : u1 = u22 := by rw [← hA]; exact e3.symm
  clear hA
  (repeat ((first | with_reducible apply ck_i | with_reducible apply And.intro); · (first | with_reducible rfl | ((try simp only [ics]) <;> simp [ics, *] <;> omega))))
  refine letV_j fun u24 hB => ?_
  obtain rfl : u1 = u24 := by rw [← hB]; exact zN.symm
  clear hB
  (repeat ((first | with_reducible apply ck_i | with_reducible apply And.intro); · (first | with_reducible rfl | ((try simp only [ics]) <;> simp [ics, *] <;> omega))))
  refine letV_j fun u27 hA => ?_
  obtain rfl : u1 = u27 := by rw [← hA]; exact e4.symm
  clear hA
  (repeat ((first | with_reducible apply ck_i | with_reducible apply And.intro); · (first | with_reducible rfl | ((try simp only [ics]) <;> simp [ics, *] <;> omega))))
  refine letV_j fun u29 hB => ?_
  obtain rfl : u1 = u29 := by rw [← hB]; exact zN.symm
  clear hB
  (repeat ((first | with_reducible apply ck_i | with_reducible apply And.intro); · (first | with_reducible rfl | ((try simp only [ics]) <;> simp [ics, *] <;> omega))))
  refine letV_j fun u33 hA => ?_
  obtain rfl : u1 = u33 := by rw [← hA]; exact j4.symm
  clear hA
  (repeat ((first | with_reducible apply ck_i | with_reducible apply And.intro); · (first | with_reducible rfl | ((try simp only [ics]) <;> simp [ics, *] <;> omega))))
  refine letV_j fun u35 hB => ?_
  obtain rfl : u1 = u35 := by rw [← hB]; exact zN.symm
  clear hB
  (repeat ((first | with_reducible apply ck_i | with_reducible apply And.intro); · (first | with_reducible rfl | ((try simp only [ics]) <;> simp [ics, *] <;> omega))))
  refine letV_j fun u38 hA => ?_
  obtain rfl : u1 = u38 := by rw [← hA]; exact w4.symm
  clear hA
  (repeat ((first | with_reducible apply ck_i | with_reducible apply And.intro); · (first | with_reducible rfl | ((try simp only [ics]) <;> simp [ics, *] <;> omega))))
  refine letV_j fun u40 hB => ?_
  obtain rfl : u1 = u40 := by rw [← hB]; exact zN.symm
  clear hB
  (repeat ((first | with_reducible apply ck_i | with_reducible apply And.intro); · (first | with_reducible rfl | ((try simp only [ics]) <;> simp [ics, *] <;> omega))))
  rw [i4]; rfl
set_option maxHeartbeats 4000000 in
theorem f19c_pure (a0 a1 lo hi : Int) (h0 : ¬ a1 ≥ 0) : f19c_wp a0 a1 lo hi (fun r' => r' = boRet true) := by
  have hk7 := mod_in (a := a0) (m := 6) (by omega) (by omega)
  unfold f19c_wp
  generalize IntKind.i64.wrap ((IntKind.u64.wrap a0).tmod 6) = kk at *
  obtain ⟨K, rfl⟩ : ∃ K : Nat, kk = K := ⟨kk.toNat, by omega⟩
  have K6 : K ≤ 6 := by omega
  have zl : List.map intC (List.replicate 49 (Cell.v (Value.int .i64 0))) = zeroL := by rw [rep_ic, map_ic]
  have oK : okN (K : Int) = true := by unfold okN; simp; omega
  rw [wr1 (show -1000 ≤ (K : Int) by omega) (by omega)]
  obtain ⟨e1, e2, e3, e4⟩ := no_var K6 (v := a1) (lo := lo) (hi := hi) (.inl (by omega))
  refine letV_j fun u1 h1 => ?_
  have zN : zeroN K = u1 := by rw [← h1, zeroN_eq K6]
  have g1 : Gd K u1 := by rw [← h1]; exact zeros_gd K6
  have l1 : u1.2.2.length = 49 := g1.len
  have m1 : zeroL = u1.2.2 := by rw [← h1]; rfl
  rw [h1] at e1 e2 e3 e4
  have s1 : sameZ u1 u1 = true := same_refl _
  have d1 : goodZ u1 = true := good_of g1
  have o1 := okSl_itvs (z := u1) (t := (capN u1.1).toNat)
  have n1 := numOk_self g1
  simp only [zl]
  rw [m1]
  simp only [map_ic, Prod.eta]
  clear h1 m1 zl
  refine And.intro (decide_eq_false h0) ?_
  refine letV_j fun u4 h4 => ?_
  have g4 : Gd (K + 1) u4 := by rw [← h4]; exact (top_rep (n := K + 1) (by omega)).1
  have l4 : u4.2.2.length = 49 := g4.len
  have o4 := okSl_itvs (z := u4) (t := (capN u4.1).toNat)
  have j4 := un_join g1 g4 (by omega)
  have w4 := un_widen g1 g4 (by omega)
  have i4 := un_within g1 g4 (by omega)
  clear h4
  (repeat ((first | with_reducible apply ck_i | with_reducible apply And.intro); · (first | with_reducible rfl | ((try simp only [ics]) <;> simp [ics, *] <;> omega))))
  refine letV_j fun u7 h7 => ?_
  refine letV_j fun u8 h8 => ?_
  refine letV_j fun u9 h9 => ?_
  refine letV_j fun u10 h10 => ?_
  clear h7 h8 h9 h10
  (repeat ((first | with_reducible apply ck_i | with_reducible apply And.intro); · (first | with_reducible rfl | ((try simp only [ics]) <;> simp [ics, *] <;> omega))))
  refine letV_j fun u12 hA => ?_
  obtain rfl : u1 = u12 := by rw [← hA]; exact e1.symm
  clear hA
  (repeat ((first | with_reducible apply ck_i | with_reducible apply And.intro); · (first | with_reducible rfl | ((try simp only [ics]) <;> simp [ics, *] <;> omega))))
  refine letV_j fun u14 hB => ?_
  obtain rfl : u1 = u14 := by rw [← hB]; exact zN.symm
  clear hB
  (repeat ((first | with_reducible apply ck_i | with_reducible apply And.intro); · (first | with_reducible rfl | ((try simp only [ics]) <;> simp [ics, *] <;> omega))))
  refine letV_j fun u17 hA => ?_
  obtain rfl : u1 = u17 := by rw [← hA]; exact e2.symm
  clear hA
  (repeat ((first | with_reducible apply ck_i | with_reducible apply And.intro); · (first | with_reducible rfl | ((try simp only [ics]) <;> simp [ics, *] <;> omega))))
  refine letV_j fun u19 hB => ?_
  obtain rfl : u1 = u19 := by rw [← hB]; exact zN.symm
  clear hB
  (repeat ((first | with_reducible apply ck_i | with_reducible apply And.intro); · (first | with_reducible rfl | ((try simp only [ics]) <;> simp [ics, *] <;> omega))))
  refine letV_j fun u22 hA => ?_
  obtain rfl : u1 = u22 := by rw [← hA]; exact e3.symm
  clear hA
  (repeat ((first | with_reducible apply ck_i | with_reducible apply And.intro); · (first | with_reducible rfl | ((try simp only [ics]) <;> simp [ics, *] <;> omega))))
  refine letV_j fun u24 hB => ?_
  obtain rfl : u1 = u24 := by rw [← hB]; exact zN.symm
  clear hB
  (repeat ((first | with_reducible apply ck_i | with_reducible apply And.intro); · (first | with_reducible rfl | ((try simp only [ics]) <;> simp [ics, *] <;> omega))))
  refine letV_j fun u27 hA => ?_
  obtain rfl : u1 = u27 := by rw [← hA]; exact e4.symm
  clear hA
  (repeat ((first | with_reducible apply ck_i | with_reducible apply And.intro); · (first | with_reducible rfl | ((try simp only [ics]) <;> simp [ics, *] <;> omega))))
  refine letV_j fun u29 hB => ?_
  obtain rfl : u1 = u29 := by rw [← hB]; exact zN.symm
  clear hB
  (repeat ((first | with_reducible apply ck_i | with_reducible apply And.intro); · (first | with_reducible rfl | ((try simp only [ics]) <;> simp [ics, *] <;> omega))))
  refine letV_j fun u33 hA => ?_
  obtain rfl : u1 = u33 := by rw [← hA]; exact j4.symm
  clear hA
  (repeat ((first | with_reducible apply ck_i | with_reducible apply And.intro); · (first | with_reducible rfl | ((try simp only [ics]) <;> simp [ics, *] <;> omega))))
  refine letV_j fun u35 hB => ?_
  obtain rfl : u1 = u35 := by rw [← hB]; exact zN.symm
  clear hB
  (repeat ((first | with_reducible apply ck_i | with_reducible apply And.intro); · (first | with_reducible rfl | ((try simp only [ics]) <;> simp [ics, *] <;> omega))))
  refine letV_j fun u38 hA => ?_
  obtain rfl : u1 = u38 := by rw [← hA]; exact w4.symm
  clear hA
  (repeat ((first | with_reducible apply ck_i | with_reducible apply And.intro); · (first | with_reducible rfl | ((try simp only [ics]) <;> simp [ics, *] <;> omega))))
  refine letV_j fun u40 hB => ?_
  obtain rfl : u1 = u40 := by rw [← hB]; exact zN.symm
  clear hB
  (repeat ((first | with_reducible apply ck_i | with_reducible apply And.intro); · (first | with_reducible rfl | ((try simp only [ics]) <;> simp [ics, *] <;> omega))))
  rw [i4]; rfl
theorem cx19a_ok : CtxOk Try.prog cx19a.q.ctx := (ctx_cons (g := 42) (ctx_cons (g := 51) (ctx_cons (g := 41) (ctx_cons (g := 59) (ctx_cons (g := 52) (ctx_cons (g := 73) (ctx_cons (g := 60) (ctx_cons (g := 43) (ctx_cons (g := 72) (ctx_cons (g := 56) (ctx_cons (g := 50) (ctx_cons (g := 74) (ctx_cons (g := 54) (ctx_cons (g := 45) ctx_nil (by kernel_rfl) sum45_ok) (by kernel_rfl) sum54_ok) (by kernel_rfl) sum74_ok) (by kernel_rfl) sum50_ok) (by kernel_rfl) sum56_ok) (by kernel_rfl) sum72_ok) (by kernel_rfl) sum43_ok) (by kernel_rfl) sum60_ok) (by kernel_rfl) sum73_ok) (by kernel_rfl) sum52_ok) (by kernel_rfl) sum59_ok) (by kernel_rfl) sum41_ok) (by kernel_rfl) sum51_ok) (by kernel_rfl) sum42_ok)
theorem f19_law (a0 a1 a2 a3 : Int) (_ : (Lit.int .i64 a0).wf = true) (_ : (Lit.int .i64 a1).wf = true) (_ : (Lit.int .i64 a2).wf = true) (_ : (Lit.int .i64 a3).wf = true) : SoundAt Try.prog 19 [.one (.v (.int .i64 a0)), .one (.v (.int .i64 a1)), .agg [.v (.int .i64 a2), .v (.int .i64 a3)]] (boRet true) := by
  by_cases h : a1 ≥ 0
  · by_cases h' : a1 < IntKind.i64.wrap ((IntKind.u64.wrap a0).tmod 6)
    · exact f19a_sound _ _ _ _ cx19a_ok (f19a_pure a0 a1 a2 a3 h h')
    · exact f19b_sound _ _ _ _ cx19a_ok (f19b_pure a0 a1 a2 a3 h h')
  · exact f19c_sound _ _ _ _ cx19a_ok (f19c_pure a0 a1 a2 a3 h)

end Go.Proofs.Ytgmciihlmgeecaa.Fn
