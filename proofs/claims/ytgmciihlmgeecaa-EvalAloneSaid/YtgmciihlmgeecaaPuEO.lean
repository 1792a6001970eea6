import Derived.Test.YtgmciihlmgeecaaPuE7
import Derived.Test.YtgmciihlmgeecaaWEO
/- Functions that hand back a Num whose row is the caller's own: what is told of each is so. Conditions: those that each lemma names. -/
namespace Go.Proofs.Ytgmciihlmgeecaa.Fn
open Go Go.RowKit Go.Proofs.Ytgmciihlmgeecaa.Mt Go.Proofs.Ytgmciihlmgeecaa.Zm
set_option linter.unusedVariables false
set_option linter.unusedSimpArgs false

theorem noSl_ic {l : List Int} : (ic .i64 l).all noSl = true := ic_all fun _ => rfl
theorem cap_cap (n : Int) : capN (capN n) = capN n := by unfold capN; omega
theorem boundZ_fst {z : Zo} {x y c : Int} : (boundZ z x y c).1 = z.1 := by
  unfold boundZ; split
  · rw [closeZ_fst]
  · rfl
theorem forgetZ_fst {z : Zo} {x : Int} : (forgetZ z x).1 = z.1 := by
  unfold forgetZ; split
  · rw [closeZ_fst]
  · rfl
theorem cap_held {z : Zo} {x lo hi : Int} : capN (heldZ z x lo hi).1 = capN z.1 := by
  unfold heldZ
  split
  · rfl
  · split
    · exact cap_cap _
    · rw [boundZ_fst, boundZ_fst]
theorem cap_row {l : List Int} {z : Zo} (t : Nat) : capN (rowGo l z t).1 = capN z.1 := by
  induction t with
  | zero => rfl
  | succ t ih => rw [rowGo, cap_held, forgetZ_fst, ih]
theorem sum93o_ok : ∀ vs r, sum93o vs = some (true, r) → SoundAt Try.prog 93 vs r := by
  intro vs r h
  unfold sum93o at h
  split at h
  · simp only [Option.some.injEq, Prod.mk.injEq, Bool.and_eq_true] at h
    obtain ⟨⟨h0, h1⟩, rfl⟩ := h
    obtain ⟨n0, b0, D0, hl0, hc0, rfl⟩ := zone_elim h0
    simp only [zO_ic]
    have h1 : decide (0 < capN n0) = true := h1
    have s := f93_sound _ _ _ cx93_ok (f93_spec n0 b0 D0 hl0)
    have e : ofRaw (n0, b0, D0) = numO (n0, b0, D0) := by unfold ofRaw numO; rw [h1]; rfl
    rw [e] at s
    exact s
  · cases h
theorem f42o_spec (n : Int) (h : 0 < capN n) : f42o_wp n (fun r' => r' = numO (zerosZ n)) := by
  unfold f42o_wp
  refine letV_j fun u hu => ?_
  have e : List.replicate 49 (Cell.v (Value.int .i64 0)) = ic .i64 u.2.2 := by rw [← hu]; exact rep_ic
  have c : capN u.1 = capN n := by rw [← hu]; exact cap_cap n
  rw [e]
  simp only [map_ic, Prod.eta]
  refine ck_i (by simp [ics, c, h]) ?_
  rw [hu]; rfl
theorem cx42o_ok : CtxOk Try.prog cx42o.q.ctx := (ctx_cons (g := 32) (ctx_cons (g := 93) ctx_nil (by kernel_rfl) sum93o_ok) (by kernel_rfl) sum32_ok)
theorem sum42o_ok : ∀ vs r, sum42o vs = some (true, r) → SoundAt Try.prog 42 vs r := by
  intro vs r h
  unfold sum42o at h
  split at h
  · simp only [Option.some.injEq, Prod.mk.injEq, Bool.and_eq_true, decide_eq_true_eq] at h
    obtain ⟨⟨h0, h1⟩, rfl⟩ := h
    obtain ⟨x, rfl⟩ := int_elim h0
    exact f42o_sound _ cx42o_ok (f42o_spec x h1)
  · cases h
theorem f41o_spec (c : Bool) (rn : Nat) (l : List Int) (hr : l.length = rn * 2) (n : Int) (b : Bool) (D : List Int) (hl : D.length = 49) (x lo hi : Int) (h : 0 < capN n) : f41o_wp c rn (ic .i64 l) n b (ic .i64 D) x lo hi (fun r' => r' = numO (heldZ (forgetZ (n, b, D) x) x lo hi)) := by
  unfold f41o_wp
  simp only [take49 hl, map_ic, Prod.eta]
  refine ck_i (by (first | with_reducible rfl | ((try simp only [List.length_nil, ics]) <;> simp [List.length_nil, ics, *] <;> omega))) ?_
  refine letV_j fun u hu => ?_
  have lu : u.2.2.length = 49 := by rw [← hu]; exact forgetZ_len hl
  refine ck_i (by (first | with_reducible rfl | ((try simp only [List.length_nil, ics]) <;> simp [List.length_nil, ics, *] <;> omega))) ?_
  refine letV_j fun w hw => ?_
  have lw : w.2.2.length = 49 := by rw [← hw]; exact heldZ_len lu
  have cw : capN w.1 = capN n := by rw [← hw, cap_held, ← hu, forgetZ_fst]
  refine ck_i (by simp [ics, lu]) ?_
  refine ck_i (by simp [ics, lw, cw, h]) ?_
  (repeat ((first | with_reducible apply ck_i | with_reducible apply And.intro); · (first | with_reducible rfl | ((try simp only [List.length_nil, ics]) <;> simp [List.length_nil, ics, *] <;> omega))))
  rw [hu, hw]; rfl
theorem cx41o_ok : CtxOk Try.prog cx41o.q.ctx := (ctx_cons (g := 37) (ctx_cons (g := 94) (ctx_cons (g := 93) ctx_nil (by kernel_rfl) sum93o_ok) (by kernel_rfl) sum94_ok) (by kernel_rfl) sum37_ok)
theorem sum41o_ok : ∀ vs r, sum41o vs = some (true, r) → SoundAt Try.prog 41 vs r := by
  intro vs r h
  unfold sum41o at h
  split at h
  · simp only [Option.some.injEq, Prod.mk.injEq, Bool.and_eq_true, decide_eq_true_eq] at h
    obtain ⟨⟨⟨⟨h0, h1⟩, h2⟩, h3⟩, rfl⟩ := h
    obtain ⟨c, rn, l, n0, b0, D0, hr, hl0, hc0, rfl⟩ := num_elim h0
    obtain ⟨x, rfl⟩ := int_elim h1
    obtain ⟨lo, hi, rfl⟩ := pair_elim h2
    simp only [uZ_ic]
    exact f41o_sound _ _ _ _ _ _ _ _ _ cx41o_ok (f41o_spec c rn l hr n0 b0 D0 hl0 x lo hi h3)
  · cases h
theorem f80o_spec (n : Nat) (l : List Int) (hl : l.length = n * 1) (h1 : 1 ≤ n) (hn : n ≤ 6) : f80o_wp n (ic .i64 l) (fun r' => r' = numO (rowZ l n)) := by
  have cn : 0 < capN (n : Int) := by unfold capN; omega
  unfold f80o_wp
  refine letV_j fun z hz => ?_
  have lz : z.2.2.length = 49 := by rw [← hz]; exact zeroL_len
  have cz : capN z.1 = capN (n : Int) := by rw [← hz]; exact cap_cap _
  have mz : List.replicate 49 (Cell.v (Value.int .i64 0)) = ic .i64 z.2.2 := by rw [← hz]; exact rep_ic
  rw [mz]
  have er : rowZ l n = rowGo l z n := by unfold rowZ; rw [hz]
  rw [er]
  clear hz mz er
  simp only [map_ic, Prod.eta, ic_len]
  refine ck_i (by simp [ics, cn]) ?_
  refine LoopP.ind (I := sumE (fun _ => True) (fun s => 1 ≤ s.1 ∧ s.1 ≤ ((n : Nat) : Int) ∧ s.2 = ((rowGo l z s.1.toNat).2.1, (rowGo l z s.1.toNat).1, (rowGo l z s.1.toNat).2.1, ic .i64 (rowGo l z s.1.toNat).2.2, (capN (rowGo l z s.1.toNat).1).toNat, ic .i64 (itvsZ (rowGo l z s.1.toNat) (capN (rowGo l z s.1.toNat).1).toNat)))) (μ := sumE (fun _ => n + 1) (fun s => ((n : Int) - s.1).toNat)) ?_ trivial
  rintro (⟨⟩ | ⟨i, c, N, B, D, rn, rc⟩) k0 hI hk
  · dsimp only [sumE_l]
    refine cond_i (fun q => ?_) (fun q => absurd (of_decide_eq_false q) (by omega))
    have hk' := hk (.inr (1, (rowGo l z (1 : Int).toNat).2.1, (rowGo l z (1 : Int).toNat).1, (rowGo l z (1 : Int).toNat).2.1, ic .i64 (rowGo l z (1 : Int).toNat).2.2, (capN (rowGo l z (1 : Int).toNat).1).toNat, ic .i64 (itvsZ (rowGo l z (1 : Int).toNat) (capN (rowGo l z (1 : Int).toNat).1).toNat))) ⟨by dsimp only; omega, by dsimp only; omega, rfl⟩ (by dsimp only [sumE_l, sumE_r]; omega)
    have er : rowGo l z (1 : Int).toNat = heldZ (forgetZ z 0) 0 (ofP (l.getD 0 0) (l.getD 0 0)).1 (ofP (l.getD 0 0) (l.getD 0 0)).2 := rfl
    rw [er] at hk'
    clear hk er
    have oz := okSl_itvs (z := z) (t := (capN z.1).toNat)
    simp only [int_get, okK_ic]
    refine ck_i (by simp; omega) (ck_i (by simp; omega) ?_)
    refine letV_j fun p hp => ?_
    rw [hp] at hk'
    refine letV_j fun u hu => ?_
    rw [hu] at hk'
    have lu : u.2.2.length = 49 := by rw [← hu]; exact heldZ_len (forgetZ_len lz)
    refine ck_i (by simp only [oz, noSl_ic, flat_ic]; simp [ics, cn, cz]) (ck_i (by simp [ics, lu]) ⟨by simp [ics], ?_⟩)
    exact hk'
  · obtain ⟨i1, i2, i3⟩ := hI
    dsimp only at i1 i2 i3
    simp only [Prod.mk.injEq] at i3
    obtain ⟨rfl, rfl, rfl, rfl, rfl, rfl⟩ := i3
    dsimp only [sumE_r]
    have lW := rowGo_len (l := l) lz i.toNat
    have cW := cap_row (l := l) (z := z) i.toNat
    refine cond_i (fun q => ?_) (fun q => ?_)
    · have q : i < n := of_decide_eq_true q
      have hk' := hk (.inr (i + 1, (rowGo l z (i + 1).toNat).2.1, (rowGo l z (i + 1).toNat).1, (rowGo l z (i + 1).toNat).2.1, ic .i64 (rowGo l z (i + 1).toNat).2.2, (capN (rowGo l z (i + 1).toNat).1).toNat, ic .i64 (itvsZ (rowGo l z (i + 1).toNat) (capN (rowGo l z (i + 1).toNat).1).toNat))) ⟨by dsimp only; omega, by dsimp only; omega, rfl⟩ (by dsimp only [sumE_r]; omega)
      rw [show (i + 1).toNat = i.toNat + 1 by omega] at hk'
      unfold rowGo at hk'
      rw [show ((i.toNat : Nat) : Int) = i by omega] at hk'
      clear hk
      generalize rowGo l z i.toNat = W at *
      have oW := okSl_itvs (z := W) (t := (capN W.1).toNat)
      rw [wr1 (show -1000 ≤ i by omega) (show i ≤ 1000 by omega)]
      simp only [map_ic, Prod.eta, Nat.mul_one, int_get, okK_ic, ic_len]
      refine ck_i (by simp [lW]) (ck_i (by simp [hl]; omega) (ck_i (by simp [hl]; omega) ?_))
      refine letV_j fun p hp => ?_
      rw [hp] at hk'
      refine letV_j fun u hu => ?_
      rw [hu] at hk'
      have lu : u.2.2.length = 49 := by rw [← hu]; exact heldZ_len (forgetZ_len lW)
      clear hu hp
      refine ck_i (by simp only [oW, noSl_ic, flat_ic]; simp [ics, lW, cn, cW, cz]) (ck_i (by simp [ics, lu, lW]) ⟨by simp [ics], ?_⟩)
      exact hk'
    · have q : ¬ i < n := of_decide_eq_false q
      rw [show i.toNat = n by omega] at *
      clear hk
      (repeat ((first | with_reducible apply ck_i | with_reducible apply And.intro); · (first | with_reducible rfl | ((try simp only [List.length_nil, ics]) <;> simp [List.length_nil, ics, *] <;> omega)))); rfl
theorem cx80o_ok : CtxOk Try.prog cx80o.q.ctx := (ctx_cons (g := 42) (ctx_cons (g := 30) (ctx_cons (g := 41) ctx_nil (by kernel_rfl) sum41o_ok) (by kernel_rfl) sum30_ok) (by kernel_rfl) sum42o_ok)
theorem sum80o_ok : ∀ vs r, sum80o vs = some (true, r) → SoundAt Try.prog 80 vs r := by
  intro vs r h
  unfold sum80o at h
  split at h
  · simp only [Option.some.injEq, Prod.mk.injEq, Bool.and_eq_true, decide_eq_true_eq] at h
    obtain ⟨⟨⟨h1, h2⟩, h3⟩, rfl⟩ := h
    obtain ⟨vn, vl, hl5, en5, el5, tr5⟩ := row_elimG (g := 80) h1
    rw [en5] at h2 h3
    simp only [en5, el5]
    refine tr5 [] [] _ ?_
    exact f80o_sound _ _ cx80o_ok (f80o_spec vn vl hl5 h2 h3)
  · cases h

end Go.Proofs.Ytgmciihlmgeecaa.Fn
