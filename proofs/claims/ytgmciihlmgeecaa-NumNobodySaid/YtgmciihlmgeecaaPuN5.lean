import Derived.Test.YtgmciihlmgeecaaPuN4
/- Rows of calls on Nums: what is told of apply is so. Conditions: those that each lemma names. -/
namespace Go.Proofs.Ytgmciihlmgeecaa.Fn
open Go Go.RowKit Go.Proofs.Ytgmciihlmgeecaa.Mt Go.Proofs.Ytgmciihlmgeecaa.Zm
set_option linter.unusedVariables false
set_option linter.unusedSimpArgs false

theorem noneZ_gd {n : Nat} (h6 : n ≤ 6) : Gd n (noneZ n) :=
  ⟨capN_id h6, h6, zeroL_len, fun _ => rfl, fun h => (by cases h), fun h => (by cases h), fun h => (by cases h), fun h => (by cases h)⟩
theorem held_gd {n : Nat} {z : Zo} (h : Gd n z) {x lo hi : Int} : Gd n (heldZ z x lo hi) := by
  unfold heldZ
  split
  · exact h
  · split
    · rw [h.hn]; exact noneZ_gd h.n6
    · exact bound_gd (bound_gd h)
theorem stepN_gd {n : Nat} {z : Zo} (h : Gd n z) {k x y b lo hi : Int} : Gd n (stepN z k x y b lo hi) := by
  unfold stepN
  split
  · exact held_gd (forget_gd h)
  · split
    · exact held_gd h
    · split
      · exact copy_gd h
      · split
        · exact bound_gd h
        · exact h
theorem rowsN_gd {n : Nat} {z : Zo} (h : Gd n z) (l : List Int) (t : Nat) : Gd n (rowsN z l t) := by
  induction t with
  | zero => exact h
  | succ t ih => exact stepN_gd ih

theorem bI_range (a : Int) : -2147483648 ≤ bI a ∧ bI a ≤ 2147483647 := by
  unfold bI
  have h := actB_in a
  unfold actB at h
  omega
theorem norm_rng {a b : Int} (ha : -2147483648 ≤ a ∧ a ≤ 2147483647) (hb : -2147483648 ≤ b ∧ b ≤ 2147483647) : -2147483648 ≤ (normP a b).1 ∧ (normP a b).1 ≤ 2147483647 ∧ -2147483648 ≤ (normP a b).2 ∧ (normP a b).2 ≤ 2147483647 := by
  unfold normP
  split <;> dsimp only <;> omega
theorem set_eq {n : Nat} {z : Zo} (h : Gd n z) {x : Int} {p : Int × Int} (hx : 0 ≤ x ∧ x < n) (rp : -2147483648 ≤ p.1 ∧ p.1 ≤ 2147483647 ∧ -2147483648 ≤ p.2 ∧ p.2 ≤ 2147483647) : meetR (forgetR z x) x p.1 p.2 = heldZ (forgetZ z x) x p.1 p.2 := by
  rw [forgetR_eq h hx, meetR_eq (forget_gd h) hx (by omega) ⟨by omega, by omega⟩]
set_option maxHeartbeats 4000000 in
set_option maxRecDepth 100000 in
theorem f58_spec (N : Nat) (z : Zo) (h : Gd N z) (m : Nat) (l : List Int) (hr : l.length = m * 6) : f58_wp z.2.1 (capN z.1).toNat (ic .i64 (itvsZ z (capN z.1).toNat)) z.1 z.2.1 (ic .i64 z.2.2) z.1 z.2.1 (ic .i64 z.2.2) m (ic .i64 l) (fun r' => r' = appRetN (applyN z m l)) := by
  have n6 := h.n6
  unfold f58_wp
  (try delta X58_16)
  (try delta X58_15)
  (try delta X58_14)
  (try delta X58_13)
  (try delta X58_12)
  (try delta X58_11)
  (try delta X58_10)
  (try delta X58_9)
  (try delta X58_8)
  (try delta X58_7)
  (try delta X58_6)
  (try delta X58_5)
  (try delta X58_4)
  (try delta X58_3)
  (try delta X58_2)
  (try delta X58_1)
  (try delta X58_0)
  refine And.intro (by simp [plain_ic]) ?_
  refine LoopP.ind (I := fun s => 0 ≤ s.1 ∧ s.1 ≤ ((m : Nat) : Int) ∧ s.1 ≤ 16 ∧ (z.1 = 0 → s.1 = 0) ∧ s.2 = ((rowsN z l s.1.toNat).2.1, (capN (rowsN z l s.1.toNat).1).toNat, ic .i64 (itvsZ (rowsN z l s.1.toNat) (capN (rowsN z l s.1.toNat).1).toNat), (rowsN z l s.1.toNat).1, (rowsN z l s.1.toNat).2.1, ic .i64 (rowsN z l s.1.toNat).2.2, (rowsN z l s.1.toNat).1, (rowsN z l s.1.toNat).2.1, ic .i64 (rowsN z l s.1.toNat).2.2)) (μ := fun s => (16 - s.1).toNat) ?_ ⟨by dsimp only; omega, by dsimp only; omega, by dsimp only; omega, fun _ => rfl, rfl⟩
  rintro ⟨i, c, rn, rc, Nn, b, D, N', b', D'⟩ k0 ⟨i1, i2, i3, i0, i4⟩ hk
  dsimp only at i1 i2 i3 i0 i4 ⊢
  simp only [Prod.mk.injEq] at i4
  obtain ⟨rfl, rfl, rfl, rfl, rfl, rfl, rfl, rfl, rfl⟩ := i4
  have gW := rowsN_gd h l i.toNat
  have lW := gW.len
  have done : ∀ (_ : ¬ (i < m ∧ i < 16 ∧ (rowsN z l i.toNat).1 > 0)), appRetN (rowsN z l i.toNat) = appRetN (applyN z m l) := fun hn => by
    unfold applyN
    have e := gW.hn
    have e0 := h.hn
    by_cases z0 : z.1 = 0
    · rw [if_pos z0]
      have : i.toNat = 0 := by have := i0 z0; omega
      rw [this]; rfl
    · rw [if_neg z0, show i.toNat = min m 16 by omega]
  refine cond_i (fun q1 => ?_) (fun q1 => ?_)
  · have q1 : i < m := of_decide_eq_true q1
    refine cond_i (fun q2 => ?_) (fun q2 => ?_)
    · have q2 : i < 16 := of_decide_eq_true q2
      refine cond_i (fun q3 => ?_) (fun q3 => ?_)
      · have q3 : (rowsN z l i.toNat).1 > 0 := of_decide_eq_true q3
        have hk' := hk (i + 1, (rowsN z l (i + 1).toNat).2.1, (capN (rowsN z l (i + 1).toNat).1).toNat, ic .i64 (itvsZ (rowsN z l (i + 1).toNat) (capN (rowsN z l (i + 1).toNat).1).toNat), (rowsN z l (i + 1).toNat).1, (rowsN z l (i + 1).toNat).2.1, ic .i64 (rowsN z l (i + 1).toNat).2.2, (rowsN z l (i + 1).toNat).1, (rowsN z l (i + 1).toNat).2.1, ic .i64 (rowsN z l (i + 1).toNat).2.2) ⟨by dsimp only; omega, by dsimp only; omega, by dsimp only; omega, fun e => by have := gW.hn; have := h.hn; omega, rfl⟩ (by dsimp only; omega)
        rw [show (i + 1).toNat = i.toNat + 1 by omega] at hk'
        unfold rowsN at hk'
        clear hk done
        generalize rowsN z l i.toNat = W at *
        have al : ∀ j, j < 6 → i.toNat * 6 + j < l.length := fun j hj => by rw [hr]; omega
        simp only [int_get, actW_f, actX_f, actY_f, actB_f, okK_ic, decide_eq_true (al 0 (by omega)), decide_eq_true (al 1 (by omega)), decide_eq_true (al 2 (by omega)), decide_eq_true (al 3 (by omega)), decide_eq_true (al 4 (by omega)), decide_eq_true (al 5 (by omega))]
        generalize l.getD (i.toNat * 6) 0 = ak at *
        generalize l.getD (i.toNat * 6 + 1) 0 = ax at *
        generalize l.getD (i.toNat * 6 + 2) 0 = ay at *
        generalize l.getD (i.toNat * 6 + 3) 0 = ab at *
        generalize l.getD (i.toNat * 6 + 4) 0 = alo at *
        generalize l.getD (i.toNat * 6 + 5) 0 = ahi at *
        obtain ⟨wn, wb, WD⟩ := W
        have gW : Gd N (wn, wb, WD) := gW
        have dn : wn = (N : Int) := gW.hn
        dsimp only at q3 dn hk' lW ⊢
        subst dn
        have rX := actX_in (n := (N : Int)) (a := ax) (by omega) (by omega)
        have rY := actY_in (n := (N : Int)) (a := ay) (by omega) (by omega)
        have rB := actB_in ab
        have rK := actW_in ak
        have oW : okN (N : Int) = true := gW.okN
        have xX : in16 (actX (N : Int) ax) = true := by unfold in16; simp; omega
        have xY : in16 (actY (N : Int) ay) = true := by unfold in16; simp; omega
        have k1 := okL49 lW
        have k2 := eqW49s lW
        have cW : (capN (N : Int)).toNat = N := by rw [capN_id n6]; simp
        have wi := wr1 (show -1000 ≤ i by omega) (show i ≤ 1000 by omega)
        have hR : (itvsZ ((N : Int), wb, WD) N).length = N * 2 := itvsZ_len
        have oR := okSl_itvs (z := ((N : Int), wb, WD)) (t := N)
        rw [cW, wi]
        generalize hrr : itvsZ ((N : Int), wb, WD) N = rr at *
        refine ck_i (by simp [ic_len, hr]; omega) (ck_i (by simp [ic_len, hr]; omega) ?_)
        refine ck_i (by rw [IntWalk.u64_in (N : Int) ⟨by omega, by omega⟩]; simp; omega) (ck_i (by rw [wr1 (by omega) (by omega), IntWalk.u64_in ((N : Int) + 1) ⟨by omega, by omega⟩]; simp; omega) ?_)
        dsimp only [stepN] at hk'
        refine letV_j fun p hp => ?_
        rw [hp] at hk'
        have rp := norm_rng (bI_range alo) (bI_range ahi)
        have hp' : normP (bI alo) (bI ahi) = p := hp
        rw [hp'] at rp
        clear hp hp'
        refine ck_i (by simp [ic_len, hR]; omega) ?_
        refine ck_i (by simp [ic_len, lW]) (ck_i (by simp [ic_len, lW]) ?_)
        refine cond_i (fun c0 => ?_) (fun c0 => ?_)
        · have c0 : actW ak = 0 := by simpa using c0
          rw [if_pos c0] at hk'
          have gu : Gd N (heldZ (forgetZ ((N : Int), wb, WD) (actX (N : Int) ax)) (actX (N : Int) ax) p.1 p.2) := held_gd (forget_gd gW)
          (repeat ((first | with_reducible apply ck_i | with_reducible apply And.intro); · (first | with_reducible rfl | ((try simp only [ics]) <;> simp [ics, *] <;> omega))))
          refine letV_j fun u hu => ?_
          simp only [map_ic, Prod.eta] at hu
          rw [hu] at gu hk'
          have lu : u.2.2.length = 49 := gu.len
          have cu : (capN u.1).toNat = N := by rw [gu.hn, capN_id n6]; simp
          have ou := okSl_itvs (z := u) (t := N)
          have ku := okL49 lu
          have ku2 := eqW49s lu
          have go : goodZ u = true := good_iff.2 ⟨N, gu⟩
          have nu : numOk u.2.1 (.sl N (ic .i64 (itvsZ u N))) u = true := by unfold numOk; rw [cu]; simp [eqRow]
          have su : sameZ u u = true := by simp [sameZ]
          rw [cu] at hk' ⊢
          (repeat ((first | with_reducible apply ck_i | with_reducible apply And.intro); · (first | with_reducible rfl | ((try simp only [ics]) <;> simp [ics, *] <;> omega))))
          refine letV_j fun v hv => ?_
          obtain rfl : v = u := by rw [← hv, ← hu]; simp only [map_ic, Prod.eta]; exact set_eq gW ⟨by omega, by omega⟩ rp
          clear hu hv
          simp only [map_ic, Prod.eta]
          (repeat ((first | with_reducible apply ck_i | with_reducible apply And.intro); · (first | with_reducible rfl | ((try simp only [ics]) <;> simp [ics, *] <;> omega))))

          refine LoopP.ind (I := fun v : Int => 0 ≤ v ∧ v ≤ N) (μ := fun v : Int => ((N : Int) - v).toNat) ?_ ⟨by omega, by omega⟩
          rintro v kv ⟨v1, v2⟩ hv
          refine cond_i (fun q => ?_) (fun q => ?_)
          · have q : v < N := by have := of_decide_eq_true q; omega
            have hv' := hv (v + 1) ⟨by omega, by omega⟩ (by omega)
            clear hv
            rw [wr1 (show -1000 ≤ v by omega) (show v ≤ 1000 by omega)]
            refine ck_i (by simp [ic_len, hR]; omega) (ck_i (by simp [ic_len, hR]; omega) (ck_i (by simp; omega) ?_))
            refine And.intro (by simp) ?_
            (repeat ((first | with_reducible apply ck_i | with_reducible apply And.intro); · (first | with_reducible rfl | ((try simp only [ics]) <;> simp [ics, *] <;> omega))))
            exact hv'
          · clear hv
            (repeat ((first | with_reducible apply ck_i | with_reducible apply And.intro); · (first | with_reducible rfl | ((try simp only [ics]) <;> simp [ics, *] <;> omega))))
            exact hk'
        · have c0 : ¬ actW ak = 0 := by simpa using c0
          rw [if_neg c0] at hk'
          refine cond_i (fun c1 => ?_) (fun c1 => ?_)
          · have c1 : actW ak = 1 := by simpa using c1
            rw [if_pos (.inl c1)] at hk'
            have gu : Gd N (heldZ ((N : Int), wb, WD) (actX (N : Int) ax) p.1 p.2) := held_gd gW
            (repeat ((first | with_reducible apply ck_i | with_reducible apply And.intro); · (first | with_reducible rfl | ((try simp only [ics]) <;> simp [ics, *] <;> omega))))
            refine letV_j fun u hu => ?_
            simp only [map_ic, Prod.eta] at hu
            rw [hu] at gu hk'
            have lu : u.2.2.length = 49 := gu.len
            have cu : (capN u.1).toNat = N := by rw [gu.hn, capN_id n6]; simp
            have ou := okSl_itvs (z := u) (t := N)
            have ku := okL49 lu
            have ku2 := eqW49s lu
            have go : goodZ u = true := good_iff.2 ⟨N, gu⟩
            have nu : numOk u.2.1 (.sl N (ic .i64 (itvsZ u N))) u = true := by unfold numOk; rw [cu]; simp [eqRow]
            have su : sameZ u u = true := by simp [sameZ]
            rw [cu] at hk' ⊢
            (repeat ((first | with_reducible apply ck_i | with_reducible apply And.intro); · (first | with_reducible rfl | ((try simp only [ics]) <;> simp [ics, *] <;> omega))))
            refine letV_j fun v hv => ?_
            obtain rfl : v = u := by rw [← hv, ← hu]; simp only [map_ic, Prod.eta]; exact meetR_eq gW ⟨by omega, by omega⟩ (by omega) ⟨by omega, by omega⟩
            clear hu hv
            simp only [map_ic, Prod.eta]
            (repeat ((first | with_reducible apply ck_i | with_reducible apply And.intro); · (first | with_reducible rfl | ((try simp only [ics]) <;> simp [ics, *] <;> omega))))

            refine LoopP.ind (I := fun v : Int => 0 ≤ v ∧ v ≤ N) (μ := fun v : Int => ((N : Int) - v).toNat) ?_ ⟨by omega, by omega⟩
            rintro v kv ⟨v1, v2⟩ hv
            refine cond_i (fun q => ?_) (fun q => ?_)
            · have q : v < N := by have := of_decide_eq_true q; omega
              have hv' := hv (v + 1) ⟨by omega, by omega⟩ (by omega)
              clear hv
              rw [wr1 (show -1000 ≤ v by omega) (show v ≤ 1000 by omega)]
              refine ck_i (by simp [ic_len, hR]; omega) (ck_i (by simp [ic_len, hR]; omega) (ck_i (by simp; omega) ?_))
              refine And.intro (by simp) ?_
              (repeat ((first | with_reducible apply ck_i | with_reducible apply And.intro); · (first | with_reducible rfl | ((try simp only [ics]) <;> simp [ics, *] <;> omega))))
              exact hv'
            · clear hv
              (repeat ((first | with_reducible apply ck_i | with_reducible apply And.intro); · (first | with_reducible rfl | ((try simp only [ics]) <;> simp [ics, *] <;> omega))))
              exact hk'
          · have c1 : ¬ actW ak = 1 := by simpa using c1
            refine cond_i (fun c2 => ?_) (fun c2 => ?_)
            · have c2 : actW ak = 2 := by simpa using c2
              rw [if_pos (.inr c2)] at hk'
              have gu : Gd N (heldZ ((N : Int), wb, WD) (actX (N : Int) ax) p.1 p.2) := held_gd gW
              (repeat ((first | with_reducible apply ck_i | with_reducible apply And.intro); · (first | with_reducible rfl | ((try simp only [ics]) <;> simp [ics, *] <;> omega))))
              refine letV_j fun u hu => ?_
              simp only [map_ic, Prod.eta] at hu
              rw [hu] at gu hk'
              have lu : u.2.2.length = 49 := gu.len
              have cu : (capN u.1).toNat = N := by rw [gu.hn, capN_id n6]; simp
              have ou := okSl_itvs (z := u) (t := N)
              have ku := okL49 lu
              have ku2 := eqW49s lu
              have go : goodZ u = true := good_iff.2 ⟨N, gu⟩
              have nu : numOk u.2.1 (.sl N (ic .i64 (itvsZ u N))) u = true := by unfold numOk; rw [cu]; simp [eqRow]
              have su : sameZ u u = true := by simp [sameZ]
              rw [cu] at hk' ⊢
              (repeat ((first | with_reducible apply ck_i | with_reducible apply And.intro); · (first | with_reducible rfl | ((try simp only [ics]) <;> simp [ics, *] <;> omega))))
              refine letV_j fun v hv => ?_
              obtain rfl : v = u := by rw [← hv, ← hu]; simp only [map_ic, Prod.eta]; exact meetR_eq gW ⟨by omega, by omega⟩ (by omega) ⟨by omega, by omega⟩
              clear hu hv
              simp only [map_ic, Prod.eta]
              (repeat ((first | with_reducible apply ck_i | with_reducible apply And.intro); · (first | with_reducible rfl | ((try simp only [ics]) <;> simp [ics, *] <;> omega))))

              refine LoopP.ind (I := fun v : Int => 0 ≤ v ∧ v ≤ N) (μ := fun v : Int => ((N : Int) - v).toNat) ?_ ⟨by omega, by omega⟩
              rintro v kv ⟨v1, v2⟩ hv
              refine cond_i (fun q => ?_) (fun q => ?_)
              · have q : v < N := by have := of_decide_eq_true q; omega
                have hv' := hv (v + 1) ⟨by omega, by omega⟩ (by omega)
                clear hv
                rw [wr1 (show -1000 ≤ v by omega) (show v ≤ 1000 by omega)]
                refine ck_i (by simp [ic_len, hR]; omega) (ck_i (by simp [ic_len, hR]; omega) (ck_i (by simp; omega) ?_))
                refine And.intro (by simp) ?_
                (repeat ((first | with_reducible apply ck_i | with_reducible apply And.intro); · (first | with_reducible rfl | ((try simp only [ics]) <;> simp [ics, *] <;> omega))))
                exact hv'
              · clear hv
                (repeat ((first | with_reducible apply ck_i | with_reducible apply And.intro); · (first | with_reducible rfl | ((try simp only [ics]) <;> simp [ics, *] <;> omega))))
                exact hk'
            · have c2 : ¬ actW ak = 2 := by simpa using c2
              rw [if_neg (by omega)] at hk'
              refine cond_i (fun c3 => ?_) (fun c3 => ?_)
              · have c3 : actW ak = 3 := by simpa using c3
                rw [if_pos c3] at hk'
                have gu : Gd N (copyZ ((N : Int), wb, WD) (actX (N : Int) ax) (actY (N : Int) ay) (actB ab)) := copy_gd gW
                (repeat ((first | with_reducible apply ck_i | with_reducible apply And.intro); · (first | with_reducible rfl | ((try simp only [ics]) <;> simp [ics, *] <;> omega))))
                refine letV_j fun u hu => ?_
                simp only [map_ic, Prod.eta] at hu
                rw [hu] at gu hk'
                have lu : u.2.2.length = 49 := gu.len
                have cu : (capN u.1).toNat = N := by rw [gu.hn, capN_id n6]; simp
                have ou := okSl_itvs (z := u) (t := N)
                have ku := okL49 lu
                have ku2 := eqW49s lu
                have go : goodZ u = true := good_iff.2 ⟨N, gu⟩
                have nu : numOk u.2.1 (.sl N (ic .i64 (itvsZ u N))) u = true := by unfold numOk; rw [cu]; simp [eqRow]
                have su : sameZ u u = true := by simp [sameZ]
                rw [cu] at hk' ⊢
                (repeat ((first | with_reducible apply ck_i | with_reducible apply And.intro); · (first | with_reducible rfl | ((try simp only [ics]) <;> simp [ics, *] <;> omega))))
                refine letV_j fun v hv => ?_
                obtain rfl : v = u := by rw [← hv, ← hu]; simp only [map_ic, Prod.eta]; exact copyR_eq gW ⟨by omega, by omega⟩ ⟨by omega, by omega⟩ ⟨by omega, by omega⟩
                clear hu hv
                simp only [map_ic, Prod.eta]
                (repeat ((first | with_reducible apply ck_i | with_reducible apply And.intro); · (first | with_reducible rfl | ((try simp only [ics]) <;> simp [ics, *] <;> omega))))

                refine LoopP.ind (I := fun v : Int => 0 ≤ v ∧ v ≤ N) (μ := fun v : Int => ((N : Int) - v).toNat) ?_ ⟨by omega, by omega⟩
                rintro v kv ⟨v1, v2⟩ hv
                refine cond_i (fun q => ?_) (fun q => ?_)
                · have q : v < N := by have := of_decide_eq_true q; omega
                  have hv' := hv (v + 1) ⟨by omega, by omega⟩ (by omega)
                  clear hv
                  rw [wr1 (show -1000 ≤ v by omega) (show v ≤ 1000 by omega)]
                  refine ck_i (by simp [ic_len, hR]; omega) (ck_i (by simp [ic_len, hR]; omega) (ck_i (by simp; omega) ?_))
                  refine And.intro (by simp) ?_
                  (repeat ((first | with_reducible apply ck_i | with_reducible apply And.intro); · (first | with_reducible rfl | ((try simp only [ics]) <;> simp [ics, *] <;> omega))))
                  exact hv'
                · clear hv
                  (repeat ((first | with_reducible apply ck_i | with_reducible apply And.intro); · (first | with_reducible rfl | ((try simp only [ics]) <;> simp [ics, *] <;> omega))))
                  exact hk'
              · have c3 : ¬ actW ak = 3 := by simpa using c3
                rw [if_neg c3] at hk'
                refine cond_i (fun c4 => ?_) (fun c4 => ?_)
                · have c4 : actW ak = 4 := by simpa using c4
                  refine cond_i (fun d => ?_) (fun d => ?_)
                  · have d : ¬ actX (N : Int) ax = actY (N : Int) ay := by simpa using d
                    rw [if_pos ⟨c4, d⟩] at hk'
                    have gu : Gd N (boundZ ((N : Int), wb, WD) (actX (N : Int) ax) (actY (N : Int) ay) (actB ab)) := bound_gd gW
                    (repeat ((first | with_reducible apply ck_i | with_reducible apply And.intro); · (first | with_reducible rfl | ((try simp only [ics]) <;> simp [ics, *] <;> omega))))
                    refine letV_j fun u hu => ?_
                    simp only [map_ic, Prod.eta] at hu
                    rw [hu] at gu hk'
                    have lu : u.2.2.length = 49 := gu.len
                    have cu : (capN u.1).toNat = N := by rw [gu.hn, capN_id n6]; simp
                    have ou := okSl_itvs (z := u) (t := N)
                    have ku := okL49 lu
                    have ku2 := eqW49s lu
                    have go : goodZ u = true := good_iff.2 ⟨N, gu⟩
                    have nu : numOk u.2.1 (.sl N (ic .i64 (itvsZ u N))) u = true := by unfold numOk; rw [cu]; simp [eqRow]
                    have su : sameZ u u = true := by simp [sameZ]
                    rw [cu] at hk' ⊢
                    (repeat ((first | with_reducible apply ck_i | with_reducible apply And.intro); · (first | with_reducible rfl | ((try simp only [ics]) <;> simp [ics, *] <;> omega))))
                    refine letV_j fun v hv => ?_
                    obtain rfl : v = u := by rw [← hv, ← hu]; simp only [map_ic, Prod.eta]; exact boundR_eq gW ⟨by omega, by omega⟩ ⟨by omega, by omega⟩ (by omega)
                    clear hu hv
                    simp only [map_ic, Prod.eta]
                    (repeat ((first | with_reducible apply ck_i | with_reducible apply And.intro); · (first | with_reducible rfl | ((try simp only [ics]) <;> simp [ics, *] <;> omega))))

                    refine LoopP.ind (I := fun v : Int => 0 ≤ v ∧ v ≤ N) (μ := fun v : Int => ((N : Int) - v).toNat) ?_ ⟨by omega, by omega⟩
                    rintro v kv ⟨v1, v2⟩ hv
                    refine cond_i (fun q => ?_) (fun q => ?_)
                    · have q : v < N := by have := of_decide_eq_true q; omega
                      have hv' := hv (v + 1) ⟨by omega, by omega⟩ (by omega)
                      clear hv
                      rw [wr1 (show -1000 ≤ v by omega) (show v ≤ 1000 by omega)]
                      refine ck_i (by simp [ic_len, hR]; omega) (ck_i (by simp [ic_len, hR]; omega) (ck_i (by simp; omega) ?_))
                      refine And.intro (by simp) ?_
                      (repeat ((first | with_reducible apply ck_i | with_reducible apply And.intro); · (first | with_reducible rfl | ((try simp only [ics]) <;> simp [ics, *] <;> omega))))
                      exact hv'
                    · clear hv
                      (repeat ((first | with_reducible apply ck_i | with_reducible apply And.intro); · (first | with_reducible rfl | ((try simp only [ics]) <;> simp [ics, *] <;> omega))))
                      exact hk'
                  · have d : actX (N : Int) ax = actY (N : Int) ay := by simpa using d
                    rw [if_neg (fun h => h.2 d)] at hk'
                    simp only [map_ic, Prod.eta]
                    have go : goodZ ((N : Int), wb, WD) = true := good_iff.2 ⟨N, gW⟩
                    have nu : numOk wb (.sl N (ic .i64 (itvsZ ((N : Int), wb, WD) N))) ((N : Int), wb, WD) = true := by unfold numOk; rw [cW]; simp [eqRow]
                    have su : sameZ ((N : Int), wb, WD) ((N : Int), wb, WD) = true := by simp [sameZ]
                    have ou := okSl_itvs (z := ((N : Int), wb, WD)) (t := N)
                    rw [hrr] at nu ou
                    rw [cW, hrr] at hk'
                    (repeat ((first | with_reducible apply ck_i | with_reducible apply And.intro); · (first | with_reducible rfl | ((try simp only [ics]) <;> simp [ics, *] <;> omega))))

                    refine LoopP.ind (I := fun v : Int => 0 ≤ v ∧ v ≤ N) (μ := fun v : Int => ((N : Int) - v).toNat) ?_ ⟨by omega, by omega⟩
                    rintro v kv ⟨v1, v2⟩ hv
                    refine cond_i (fun q => ?_) (fun q => ?_)
                    · have q : v < N := by have := of_decide_eq_true q; omega
                      have hv' := hv (v + 1) ⟨by omega, by omega⟩ (by omega)
                      clear hv
                      rw [wr1 (show -1000 ≤ v by omega) (show v ≤ 1000 by omega)]
                      refine ck_i (by simp [ic_len, hR]; omega) (ck_i (by simp [ic_len, hR]; omega) (ck_i (by simp; omega) ?_))
                      refine And.intro (by simp) ?_
                      (repeat ((first | with_reducible apply ck_i | with_reducible apply And.intro); · (first | with_reducible rfl | ((try simp only [ics]) <;> simp [ics, *] <;> omega))))
                      exact hv'
                    · clear hv
                      (repeat ((first | with_reducible apply ck_i | with_reducible apply And.intro); · (first | with_reducible rfl | ((try simp only [ics]) <;> simp [ics, *] <;> omega))))
                      exact hk'
                · have c4 : ¬ actW ak = 4 := by simpa using c4
                  exact absurd rK (by omega)
      · have q3 : ¬ (rowsN z l i.toNat).1 > 0 := of_decide_eq_false q3
        rw [← done (by omega)]
        clear hk done
        (repeat ((first | with_reducible apply ck_i | with_reducible apply And.intro); · (first | with_reducible rfl | ((try simp only [ics]) <;> simp [ics, *] <;> omega)))); rfl
    · have q2 : ¬ i < 16 := of_decide_eq_false q2
      rw [← done (by omega)]
      clear hk done
      (repeat ((first | with_reducible apply ck_i | with_reducible apply And.intro); · (first | with_reducible rfl | ((try simp only [ics]) <;> simp [ics, *] <;> omega)))); rfl
  · have q1 : ¬ i < m := of_decide_eq_false q1
    rw [← done (by omega)]
    clear hk done
    (repeat ((first | with_reducible apply ck_i | with_reducible apply And.intro); · (first | with_reducible rfl | ((try simp only [ics]) <;> simp [ics, *] <;> omega)))); rfl

theorem cx58_ok : CtxOk Try.prog cx58.q.ctx := (ctx_cons (g := 40) (ctx_cons (g := 39) (ctx_cons (g := 41) (ctx_cons (g := 99) (ctx_cons (g := 52) (ctx_cons (g := 55) (ctx_cons (g := 59) (ctx_cons (g := 90) (ctx_cons (g := 50) (ctx_cons (g := 33) (ctx_cons (g := 56) ctx_nil (by kernel_rfl) sum56_ok) (by kernel_rfl) sum33_ok) (by kernel_rfl) sum50_ok) (by kernel_rfl) sum90_ok) (by kernel_rfl) sum59_ok) (by kernel_rfl) sum55_ok) (by kernel_rfl) sum52_ok) (by kernel_rfl) sum99_ok) (by kernel_rfl) sum41_ok) (by kernel_rfl) sum39_ok) (by kernel_rfl) sum40_ok)
theorem sum58_ok : ∀ vs r, sum58 vs = some (true, r) → SoundAt Try.prog 58 vs r := by
  intro vs r h
  unfold sum58 at h
  split at h
  · simp only [Option.some.injEq, Prod.mk.injEq, Bool.and_eq_true] at h
    obtain ⟨⟨⟨⟨⟨⟨h0, h1⟩, h2⟩, h3⟩, h4⟩, h5⟩, rfl⟩ := h
    obtain ⟨c, rn, l, n0, b0, D0, hr, hl0, hc0, rfl⟩ := num_elim h0
    obtain ⟨n1, b1, D1, hl1, hc1, rfl⟩ := zone_elim h1
    obtain ⟨m, ll, hl5, en5, el5, tr5⟩ := row_elimG (g := 58) h5
    simp only [uZ_ic, zO_ic] at h2 h3 h4
    have e := of_decide_eq_true h2
    simp only [Prod.mk.injEq] at e
    obtain ⟨rfl, rfl, rfl⟩ := e
    obtain ⟨rfl, rfl, rfl⟩ := numOk_elim (c := c) (rn := rn) (l := l) h4
    obtain ⟨N, hG⟩ := good_iff.1 h3
    simp only [en5, el5, zO_ic]
    refine tr5 [_, _] [] _ ?_
    exact f58_sound _ _ _ _ _ _ _ _ _ _ _ cx58_ok (f58_spec N _ hG m ll hl5)
  · cases h

end Go.Proofs.Ytgmciihlmgeecaa.Fn
