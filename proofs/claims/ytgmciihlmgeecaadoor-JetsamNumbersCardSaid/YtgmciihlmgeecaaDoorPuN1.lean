import Derived.Test.YtgmciihlmgeecaaDoorPuZA
import Derived.Test.YtgmciihlmgeecaaDoorWNA
/- Functions of Nums: what is told of each is so. Conditions: those that each lemma names. -/
namespace Go.Proofs.YtgmciihlmgeecaaDoor.Fn
open Go Go.RowKit Go.Proofs.YtgmciihlmgeecaaDoor.Mt Go.Proofs.YtgmciihlmgeecaaDoor.Zm
set_option linter.unusedVariables false
set_option linter.unusedSimpArgs false

theorem take49 {D : List Int} (h : D.length = 49) : List.take 49 (ic .i64 D) = ic .i64 D := List.take_of_length_le (by rw [ic_len]; omega)
theorem capN_if {n : Int} : (if 6 < if 0 > n then 0 else n then 6 else if 0 > n then 0 else n) = capN n := by
  unfold capN; split <;> split at * <;> omega
theorem capN_capN {n : Int} : capN (capN n) = capN n := by unfold capN; omega
theorem itvsZ_len {z : Zo} {t : Nat} : (itvsZ z t).length = t * 2 := by
  induction t with
  | zero => rfl
  | succ t ih => rw [itvsZ, List.length_append, ih]; simp; omega
theorem okSl_ic {s n : Nat} {l : List Int} (h : l.length = n * s) : okSl s (.sl n (ic .i64 l)) = true := by
  simp only [okSl, Bool.and_eq_true, beq_iff_eq, ic_len]
  exact ⟨ic_all fun _ => rfl, h⟩
theorem okSl_itvs {z : Zo} {t : Nat} : okSl 2 (.sl t (ic .i64 (itvsZ z t))) = true := okSl_ic itvsZ_len
theorem sl_elim {s : Nat} {c : Cell} (h : okSl s c = true) : ∃ (n : Nat) (l : List Int), l.length = n * s ∧ c = .sl n (ic .i64 l) := by
  cases c with
  | sl n cs =>
    simp only [okSl, Bool.and_eq_true, beq_iff_eq] at h
    obtain ⟨h1, h2⟩ := h
    have hi : ∀ c, isInt .i64 c = true → ∃ x, c = .v (.int .i64 x) := fun c hc => by
      unfold isInt at hc
      split at hc
      · simp at hc; subst hc; exact ⟨_, rfl⟩
      · cases hc
    have : ∀ l : List Cell, l.all (isInt .i64) = true → l = ic .i64 (l.map intC) := fun l => by
      induction l with
      | nil => exact fun _ => rfl
      | cons c r ih =>
        intro hc
        simp only [List.all_cons, Bool.and_eq_true] at hc
        obtain ⟨x, rfl⟩ := hi c hc.1
        have := ih hc.2
        simp only [ic, List.map_cons, intC] at this ⊢
        rw [← this]
    have e := this cs h1
    exact ⟨n, cs.map intC, by rw [List.length_map, h2], by rw [← e]⟩
  | _ => cases h
theorem num_elim {v : CV} (h : okNum v = true) : ∃ (c : Bool) (rn : Nat) (l : List Int) (n : Int) (b : Bool) (D : List Int), l.length = rn * 2 ∧ D.length = 49 ∧ cellsA v = .v (.bool c) :: .sl rn (ic .i64 l) :: .v (.int .i64 n) :: .v (.bool b) :: ic .i64 D ∧ v = .agg (.v (.bool c) :: .sl rn (ic .i64 l) :: .v (.int .i64 n) :: .v (.bool b) :: ic .i64 D) := by
  unfold okNum at h
  split at h
  · rename_i a r n b ds
    simp only [Bool.and_eq_true] at h
    obtain ⟨⟨⟨⟨ha, hr⟩, hn⟩, hb⟩, hd⟩ := h
    obtain ⟨n, b, D, hl, _, e⟩ := zone_elim (v := .agg (n :: b :: ds)) (by simp only [okZ, Bool.and_eq_true]; exact ⟨⟨hn, hb⟩, hd⟩)
    simp only [CV.agg.injEq, List.cons.injEq] at e
    obtain ⟨rfl, rfl, rfl⟩ := e
    obtain ⟨rn, l, hl2, rfl⟩ := sl_elim hr
    have hbb : ∃ y, a = .v (.bool y) := by
      have hb : isBool a = true := ha
      unfold isBool at hb
      split at hb
      · exact ⟨_, rfl⟩
      · cases hb
    obtain ⟨y, rfl⟩ := hbb
    exact ⟨y, rn, l, n, b, D, hl2, hl, rfl, rfl⟩
  · cases h
theorem uZ_ic {c : Bool} {r : Cell} {n : Int} {b : Bool} {D : List Int} : uZ (.agg (.v (.bool c) :: r :: .v (.int .i64 n) :: .v (.bool b) :: ic .i64 D)) = (n, b, D) := by
  show (n, b, (ic .i64 D).map intC) = _
  rw [map_ic]

/-! ### What a zone tells -/
/-- As it is handed back. -/
def ofRaw (z : Zo) : Ret := bif decide (0 < capN z.1) then
    Ret.mk (.agg (.v (.bool z.2.1) :: .own 0 0 :: .v (.int .i64 z.1) :: .v (.bool z.2.1) :: ic .i64 z.2.2)) [⟨34, 2, (capN z.1).toNat, ic .i64 (itvsZ z (capN z.1).toNat), true⟩]
  else Ret.mk (.agg (.v (.bool z.2.1) :: .v (.slice none 0 0) :: .v (.int .i64 z.1) :: .v (.bool z.2.1) :: ic .i64 z.2.2)) []
theorem ic_snoc {l : List Int} {a b : Int} : ic .i64 l ++ [.v (.int .i64 a), .v (.int .i64 b)] = ic .i64 (l ++ [a, b]) := by simp [ic]
theorem f93_spec (n : Int) (b : Bool) (D : List Int) (hl : D.length = 49) : f93_wp n b (ic .i64 D) (fun r' => r' = ofRaw (n, b, D)) := by
  unfold f93_wp
  simp only [capN_if]
  have c6 : capN n ≤ 6 := by unfold capN; omega
  (repeat ((first | with_reducible apply ck_i | with_reducible apply And.intro); · (first | with_reducible rfl | ((try simp only [ics]) <;> simp [ics, *] <;> omega))))
  refine LoopP.ind (I := sumE (fun _ => True) (fun z => 1 ≤ z.1 ∧ z.1 ≤ capN n ∧ z.2.1 = z.1.toNat ∧ z.2.2 = ic .i64 (itvsZ (n, b, D) z.1.toNat))) (μ := sumE (fun _ => 7) (fun z => (6 - z.1).toNat)) ?_ trivial
  rintro (u | ⟨x, m, cs⟩) k0 hI hk
  · dsimp only [sumE_l, sumE_r]
    refine cond_i (fun q => ?_) (fun q => ?_)
    · have q : 0 < capN n := of_decide_eq_true q
      refine letV_j fun u hu => ?_
      rw [map_ic] at hu
      have hk' := hk (.inr (1, 1, ic .i64 (itvsZ (n, b, D) 1))) ⟨by dsimp only; omega, by dsimp only; omega, rfl, rfl⟩ (by dsimp only [sumE_l, sumE_r]; omega)
      clear hk
      (repeat ((first | with_reducible apply ck_i | with_reducible apply And.intro); · (first | with_reducible rfl | ((try simp only [ics]) <;> simp [ics, *] <;> omega))))
      rw [show itvsZ (n, b, D) 1 = [u.1, u.2] by rw [← hu]; rfl] at hk'
      exact hk'
    · have q : ¬ 0 < capN n := by simpa using q
      clear hk
      (repeat ((first | with_reducible apply ck_i | with_reducible apply And.intro); · (first | with_reducible rfl | ((try simp only [ics]) <;> simp [ics, *] <;> omega))))
      unfold ofRaw
      rw [decide_eq_false (by exact q)]; rfl
  · obtain ⟨h1, h2, h3, h4⟩ := hI
    dsimp only at h1 h2 h3 h4
    subst h3; subst h4
    dsimp only [sumE_l, sumE_r]
    refine cond_i (fun q => ?_) (fun q => ?_)
    · have q : x < capN n := of_decide_eq_true q
      refine letV_j fun u hu => ?_
      rw [map_ic] at hu
      have hk' := hk (.inr (x + 1, (x + 1).toNat, ic .i64 (itvsZ (n, b, D) (x + 1).toNat))) ⟨by dsimp only; omega, by dsimp only; omega, rfl, rfl⟩ (by dsimp only [sumE_l, sumE_r]; omega)
      clear hk
      have e : itvsZ (n, b, D) (x + 1).toNat = itvsZ (n, b, D) x.toNat ++ [u.1, u.2] := by
        rw [show (x + 1).toNat = x.toNat + 1 by omega, itvsZ, ← hu, show ((x.toNat : Nat) : Int) = x by omega]
      rw [wr1 (by omega) (by omega), ic_snoc, ← e, show x.toNat + 1 = (x + 1).toNat by omega]
      refine ck_i (by (first | with_reducible rfl | ((try simp only [ics]) <;> simp [ics, *] <;> omega))) (ck_i (by simp; omega) ?_)
      (repeat ((first | with_reducible apply ck_i | with_reducible apply And.intro); · (first | with_reducible rfl | ((try simp only [ics]) <;> simp [ics, *] <;> omega))))
      exact hk'
    · have q : ¬ x < capN n := by simpa using q
      clear hk
      obtain rfl : x = capN n := by omega
      (repeat ((first | with_reducible apply ck_i | with_reducible apply And.intro); · (first | with_reducible rfl | ((try simp only [ics]) <;> simp [ics, *] <;> omega))))
      unfold ofRaw
      rw [decide_eq_true (by dsimp only; omega)]; rfl
theorem cx93_ok : CtxOk Tryd.prog cx93.q.ctx := (ctx_cons (g := 11) ctx_nil (by kernel_rfl) sum29_ok)
theorem sum93_ok : ∀ vs r, sum93 vs = some (true, r) → SoundAt Tryd.prog 15 vs r := by
  intro vs r h
  unfold sum93 at h
  split at h
  · simp only [Option.some.injEq, Prod.mk.injEq] at h
    obtain ⟨h0, rfl⟩ := h
    obtain ⟨n0, b0, D0, hl0, hc0, rfl⟩ := zone_elim h0
    simp only [zO_ic]
    have s := (f93_sound _ _ _ cx93_ok (f93_spec n0 b0 D0 hl0)).frz (by unfold ofRaw; cases decide (0 < capN (n0, b0, D0).1) <;> rfl)
    have e : frzR (ofRaw (n0, b0, D0)) = numRe (n0, b0, D0) := by
      unfold ofRaw numRe frzR
      have mp : ∀ (ts : List Tok) (l : List Int), (ic .i64 l).map (frzC ts) = ic .i64 l := fun ts l => by simp [ic, frzC]
      cases q : decide (0 < capN (n0, b0, D0).1) with
      | true => simp [frzV, frz1, frzC, mp]
      | false =>
        have q := of_decide_eq_false q
        have z0 : (capN n0).toNat = 0 := by dsimp only at q; omega
        simp [frzV, frz1, frzC, mp, z0, itvsZ, ic]
    rw [e] at s
    exact s
  · cases h

theorem zero49 : List.map intC (List.replicate 49 (Cell.v (Value.int IntKind.i64 0))) = zeroL := by kernel_rfl
theorem rep49 : List.replicate 49 (Cell.v (Value.int IntKind.i64 0)) = ic .i64 zeroL := by kernel_rfl
theorem forgetZ_len {z : Zo} {x : Int} (h : z.2.2.length = 49) : (forgetZ z x).2.2.length = 49 := by
  unfold forgetZ
  split
  · exact closeZ_len (by rw [forT_len]; exact h)
  · exact h
theorem copyZ_len {z : Zo} {x y c : Int} (h : z.2.2.length = 49) : (copyZ z x y c).2.2.length = 49 := by
  unfold copyZ
  split
  · split
    · exact movZ_len h
    · unfold setZ; exact closeZ_len (by rw [st_length, st_length]; exact forgetZ_len h)
  · exact h
theorem widenZ_len {a b : Zo} (h : a.2.2.length = 49) (h' : b.2.2.length = 49) : (widenZ a b).2.2.length = 49 := by
  unfold widenZ
  split
  · exact h
  · split
    · exact h'
    · exact closeZ_len (by unfold widD; exact mkD_len _)
theorem heldZ_len {z : Zo} {x lo hi : Int} (h : z.2.2.length = 49) : (heldZ z x lo hi).2.2.length = 49 := by
  unfold heldZ
  split
  · exact h
  · split
    · exact zeroL_len
    · exact boundZ_len (boundZ_len h)
theorem f57_spec (n : Int) : f57_wp n (fun r' => r' = numRe (noneZ n)) := by
  unfold f57_wp
  simp only [capN_if, zero49, rep49]; rfl
theorem cx57_ok : CtxOk Tryd.prog cx57.q.ctx := (ctx_cons (g := 15) ctx_nil (by kernel_rfl) sum93_ok)
theorem sum57_ok : ∀ vs r, sum57 vs = some (true, r) → SoundAt Tryd.prog 29 vs r := by
  intro vs r h
  unfold sum57 at h
  split at h
  · simp only [Option.some.injEq, Prod.mk.injEq, Bool.and_eq_true] at h
    obtain ⟨h0, rfl⟩ := h
    obtain ⟨x0, rfl⟩ := int_elim h0
    (try simp only [zO_ic])
    exact f57_sound _ cx57_ok (f57_spec x0)
  · cases h
theorem f94_spec (n : Int) (b : Bool) (D : List Int) (hl : D.length = 49) (x lo hi : Int) : f94_wp n b (ic .i64 D) x lo hi (fun r' => r' = zRe (heldZ (n, b, D) x lo hi)) := by
  unfold f94_wp
  simp only [map_ic, Prod.eta, rep49]
  refine cond_i (fun q => ?_) (fun q => ?_)
  · have q : x < 0 := of_decide_eq_true q
    unfold heldZ
    rw [if_pos (.inl q)]
    (repeat ((first | with_reducible apply ck_i | with_reducible apply And.intro); · (first | with_reducible rfl | ((try simp only [ics]) <;> simp [ics, *] <;> omega)))); rfl
  · have q : ¬ x < 0 := by simpa using q
    refine cond_i (fun q2 => ?_) (fun q2 => ?_)
    · have q2 : n ≤ x := by simpa using q2
      unfold heldZ
      rw [if_pos (.inr q2)]
      (repeat ((first | with_reducible apply ck_i | with_reducible apply And.intro); · (first | with_reducible rfl | ((try simp only [ics]) <;> simp [ics, *] <;> omega)))); rfl
    · have q2 : ¬ n ≤ x := by simpa using q2
      unfold heldZ
      rw [if_neg (by dsimp only; omega)]
      refine cond_i (fun q3 => ?_) (fun q3 => ?_)
      · have q3 : lo > hi := of_decide_eq_true q3
        rw [if_pos q3]
        refine letV_j fun u hu => ?_
        subst hu; rfl
      · have q3 : ¬ lo > hi := by simpa [emptyP] using q3
        rw [if_neg q3]
        refine ck_i (by (first | with_reducible rfl | ((try simp only [ics]) <;> simp [ics, *] <;> omega))) ?_
        refine letV_j fun u hu => ?_
        have lu : u.2.2.length = 49 := by rw [← hu]; exact boundZ_len hl
        refine ck_i (by (first | with_reducible rfl | ((try simp only [ics]) <;> simp [ics, *] <;> omega))) ?_
        refine letV_j fun w hw => ?_
        have lw : w.2.2.length = 49 := by rw [← hw]; exact boundZ_len lu
        (repeat ((first | with_reducible apply ck_i | with_reducible apply And.intro); · (first | with_reducible rfl | ((try simp only [ics]) <;> simp [ics, *] <;> omega))))
        rw [hu, ← show IntKind.i64.wrap (0 - lo) = wrap64 (-lo) by rw [IntWalk.i64_left, Int.zero_sub], hw]; rfl
theorem cx94_ok : CtxOk Tryd.prog cx94.q.ctx := (ctx_cons (g := 28) (ctx_cons (g := 29) (ctx_cons (g := 30) ctx_nil (by kernel_rfl) sum26_ok) (by kernel_rfl) sum57_ok) (by kernel_rfl) sum44_ok)
theorem sum94_ok : ∀ vs r, sum94 vs = some (true, r) → SoundAt Tryd.prog 16 vs r := by
  intro vs r h
  unfold sum94 at h
  split at h
  · simp only [Option.some.injEq, Prod.mk.injEq, Bool.and_eq_true] at h
    obtain ⟨⟨⟨h0, h1⟩, h2⟩, rfl⟩ := h
    obtain ⟨n0, b0, D0, hl0, hc0, rfl⟩ := zone_elim h0
    obtain ⟨x, rfl⟩ := int_elim h1
    obtain ⟨lo, hi, rfl⟩ := pair_elim h2
    simp only [zO_ic]
    exact f94_sound _ _ _ _ _ _ cx94_ok (f94_spec n0 b0 D0 hl0 x lo hi)
  · cases h
theorem f51_spec (n : Int) : f51_wp n (fun r' => r' = numRe (topZ n)) := by
  unfold f51_wp
  simp only [map_ic, Prod.eta]
  refine letV_j fun u hu => ?_
  have lu : u.2.2.length = 49 := by rw [← hu]; exact topZ_len
  (repeat ((first | with_reducible apply ck_i | with_reducible apply And.intro); · (first | with_reducible rfl | ((try simp only [ics]) <;> simp [ics, *] <;> omega))))
  rw [hu]; rfl
theorem cx51_ok : CtxOk Tryd.prog cx51.q.ctx := (ctx_cons (g := 18) (ctx_cons (g := 15) ctx_nil (by kernel_rfl) sum93_ok) (by kernel_rfl) sum25_ok)
theorem sum51_ok : ∀ vs r, sum51 vs = some (true, r) → SoundAt Tryd.prog 5 vs r := by
  intro vs r h
  unfold sum51 at h
  split at h
  · simp only [Option.some.injEq, Prod.mk.injEq, Bool.and_eq_true] at h
    obtain ⟨h0, rfl⟩ := h
    obtain ⟨x0, rfl⟩ := int_elim h0
    (try simp only [zO_ic])
    exact f51_sound _ cx51_ok (f51_spec x0)
  · cases h
theorem f41_spec (c : Bool) (rn : Nat) (l : List Int) (hr : l.length = rn * 2) (n : Int) (b : Bool) (D : List Int) (hl : D.length = 49) (x lo hi : Int) : f41_wp c rn (ic .i64 l) n b (ic .i64 D) x lo hi (fun r' => r' = numRe (heldZ (forgetZ (n, b, D) x) x lo hi)) := by
  unfold f41_wp
  simp only [take49 hl, map_ic, Prod.eta]
  refine ck_i (by (first | with_reducible rfl | ((try simp only [ics]) <;> simp [ics, *] <;> omega))) ?_
  refine letV_j fun u hu => ?_
  have lu : u.2.2.length = 49 := by rw [← hu]; exact forgetZ_len hl
  refine ck_i (by (first | with_reducible rfl | ((try simp only [ics]) <;> simp [ics, *] <;> omega))) ?_
  refine letV_j fun w hw => ?_
  have lw : w.2.2.length = 49 := by rw [← hw]; exact heldZ_len lu
  (repeat ((first | with_reducible apply ck_i | with_reducible apply And.intro); · (first | with_reducible rfl | ((try simp only [ics]) <;> simp [ics, *] <;> omega))))
  rw [hu, hw]; rfl
theorem cx41_ok : CtxOk Tryd.prog cx41.q.ctx := (ctx_cons (g := 17) (ctx_cons (g := 16) (ctx_cons (g := 15) ctx_nil (by kernel_rfl) sum93_ok) (by kernel_rfl) sum94_ok) (by kernel_rfl) sum37_ok)
theorem sum41_ok : ∀ vs r, sum41 vs = some (true, r) → SoundAt Tryd.prog 4 vs r := by
  intro vs r h
  unfold sum41 at h
  split at h
  · simp only [Option.some.injEq, Prod.mk.injEq, Bool.and_eq_true] at h
    obtain ⟨⟨⟨h0, h1⟩, h2⟩, rfl⟩ := h
    obtain ⟨c, rn, l, n0, b0, D0, hr, hl0, hc0, rfl⟩ := num_elim h0
    obtain ⟨x, rfl⟩ := int_elim h1
    obtain ⟨lo, hi, rfl⟩ := pair_elim h2
    simp only [uZ_ic]
    exact f41_sound _ _ _ _ _ _ _ _ _ cx41_ok (f41_spec c rn l hr n0 b0 D0 hl0 x lo hi)
  · cases h
theorem f52_spec (c : Bool) (rn : Nat) (l : List Int) (hr : l.length = rn * 2) (n : Int) (b : Bool) (D : List Int) (hl : D.length = 49) (x lo hi : Int) : f52_wp c rn (ic .i64 l) n b (ic .i64 D) x lo hi (fun r' => r' = numRe (heldZ (n, b, D) x lo hi)) := by
  unfold f52_wp
  simp only [take49 hl, map_ic, Prod.eta]
  refine ck_i (by (first | with_reducible rfl | ((try simp only [ics]) <;> simp [ics, *] <;> omega))) ?_
  refine letV_j fun w hw => ?_
  have lw : w.2.2.length = 49 := by rw [← hw]; exact heldZ_len hl
  (repeat ((first | with_reducible apply ck_i | with_reducible apply And.intro); · (first | with_reducible rfl | ((try simp only [ics]) <;> simp [ics, *] <;> omega))))
  rw [hw]; rfl
theorem cx52_ok : CtxOk Tryd.prog cx52.q.ctx := (ctx_cons (g := 16) (ctx_cons (g := 15) ctx_nil (by kernel_rfl) sum93_ok) (by kernel_rfl) sum94_ok)
theorem sum52_ok : ∀ vs r, sum52 vs = some (true, r) → SoundAt Tryd.prog 8 vs r := by
  intro vs r h
  unfold sum52 at h
  split at h
  · simp only [Option.some.injEq, Prod.mk.injEq, Bool.and_eq_true] at h
    obtain ⟨⟨⟨h0, h1⟩, h2⟩, rfl⟩ := h
    obtain ⟨c, rn, l, n0, b0, D0, hr, hl0, hc0, rfl⟩ := num_elim h0
    obtain ⟨x, rfl⟩ := int_elim h1
    obtain ⟨lo, hi, rfl⟩ := pair_elim h2
    simp only [uZ_ic]
    exact f52_sound _ _ _ _ _ _ _ _ _ cx52_ok (f52_spec c rn l hr n0 b0 D0 hl0 x lo hi)
  · cases h
theorem f59_spec (c : Bool) (rn : Nat) (l : List Int) (hr : l.length = rn * 2) (n : Int) (b : Bool) (D : List Int) (hl : D.length = 49) (x y k : Int) : f59_wp c rn (ic .i64 l) n b (ic .i64 D) x y k (fun r' => r' = numRe (copyZ (n, b, D) x y k)) := by
  unfold f59_wp
  simp only [take49 hl, map_ic, Prod.eta]
  refine ck_i (by (first | with_reducible rfl | ((try simp only [ics]) <;> simp [ics, *] <;> omega))) ?_
  refine letV_j fun w hw => ?_
  have lw : w.2.2.length = 49 := by rw [← hw]; exact copyZ_len hl
  (repeat ((first | with_reducible apply ck_i | with_reducible apply And.intro); · (first | with_reducible rfl | ((try simp only [ics]) <;> simp [ics, *] <;> omega))))
  rw [hw]; rfl
theorem cx59_ok : CtxOk Tryd.prog cx59.q.ctx := (ctx_cons (g := 20) (ctx_cons (g := 15) ctx_nil (by kernel_rfl) sum93_ok) (by kernel_rfl) sum27_ok)
theorem sum59_ok : ∀ vs r, sum59 vs = some (true, r) → SoundAt Tryd.prog 7 vs r := by
  intro vs r h
  unfold sum59 at h
  split at h
  · simp only [Option.some.injEq, Prod.mk.injEq, Bool.and_eq_true] at h
    obtain ⟨⟨⟨⟨h0, h1⟩, h2⟩, h3⟩, rfl⟩ := h
    obtain ⟨c, rn, l, n0, b0, D0, hr, hl0, hc0, rfl⟩ := num_elim h0
    obtain ⟨x, rfl⟩ := int_elim h1
    obtain ⟨y, rfl⟩ := int_elim h2
    obtain ⟨k, rfl⟩ := int_elim h3
    simp only [uZ_ic]
    exact f59_sound _ _ _ _ _ _ _ _ _ cx59_ok (f59_spec c rn l hr n0 b0 D0 hl0 x y k)
  · cases h
theorem okRowU_icN {s n : Nat} {l : List Int} (h : l.length = n * s) : okRowU s (.sl n (ic .i64 l)) = true := by
  simp only [okRowU, Bool.and_eq_true, beq_iff_eq, ic_len]
  exact ⟨ic_all fun _ => rfl, h⟩
theorem f60_spec (c : Bool) (rn : Nat) (l : List Int) (hr : l.length = rn * 2) (n : Int) (b : Bool) (D : List Int) (hl : D.length = 49) (m : Nat) (v : List Int) (hv : v.length = m * 1) : f60_wp c rn (ic .i64 l) n b (ic .i64 D) m (ic .i64 v) (fun r' => r' = boRet (!c && hasZ (n, b, D) m v)) := by
  unfold f60_wp
  have ro := okRowU_icN hv
  simp only [take49 hl, map_ic, Prod.eta]
  cases c with
  | true => rfl
  | false =>
    refine cond_i (fun q => ?_) (fun q => by cases q)
    (repeat ((first | with_reducible apply ck_i | with_reducible apply And.intro); · (first | with_reducible rfl | ((try simp only [ics]) <;> simp [ics, *] <;> omega))))
    rfl
theorem cx60_ok : CtxOk Tryd.prog cx60.q.ctx := (ctx_cons (g := 27) ctx_nil (by kernel_rfl) sum38_ok)
theorem sum60_ok : ∀ vs r, sum60 vs = some (true, r) → SoundAt Tryd.prog 14 vs r := by
  intro vs r h
  unfold sum60 at h
  split at h
  · simp only [Option.some.injEq, Prod.mk.injEq, Bool.and_eq_true] at h
    obtain ⟨⟨h0, h1⟩, rfl⟩ := h
    obtain ⟨c, rn, l, n0, b0, D0, hr, hl0, hc0, rfl⟩ := num_elim h0
    obtain ⟨m, v, hv, en, el, tr⟩ := row_elimG (P := Tryd.prog) (g := 14) h1
    simp only [uZ_ic, en, el]
    refine tr [_] [] _ ?_
    exact f60_sound _ _ _ _ _ _ _ _ cx60_ok (f60_spec c rn l hr n0 b0 D0 hl0 m v hv)
  · cases h
theorem two_all {n : Nat} {l m : List Int} (hl : l.length = n * 2) (hm : m.length = n * 2) (h : ∀ j, j < n → l.getD (j * 2) 0 = m.getD (j * 2) 0 ∧ l.getD (j * 2 + 1) 0 = m.getD (j * 2 + 1) 0) : l = m := by
  refine List.ext_getElem? fun i => ?_
  by_cases hi : i < n * 2
  · have hd := Nat.div_add_mod i 2
    have e : l.getD i 0 = m.getD i 0 := by
      rcases Nat.mod_two_eq_zero_or_one i with h0 | h0
      · have := (h (i / 2) (by omega)).1
        rwa [show i / 2 * 2 = i by omega] at this
      · have := (h (i / 2) (by omega)).2
        rwa [show i / 2 * 2 + 1 = i by omega] at this
    rw [List.getD_eq_getElem?_getD, List.getD_eq_getElem?_getD, List.getElem?_eq_getElem (by omega), List.getElem?_eq_getElem (by omega), Option.getD_some, Option.getD_some] at e
    rw [List.getElem?_eq_getElem (by omega), List.getElem?_eq_getElem (by omega), e]
  · rw [List.getElem?_eq_none (by omega), List.getElem?_eq_none (by omega)]
theorem f95_spec (n : Nat) (l : List Int) (hl : l.length = n * 2) (m : Nat) (l2 : List Int) (hl2 : l2.length = m * 2) (hn : m ≤ 6) : f95_wp n (ic .i64 l) m (ic .i64 l2) (fun r' => r' = boRet (decide (n = m) && decide (l = l2))) := by
  unfold f95_wp
  refine cond_i (fun q => ?_) (fun q => ?_)
  · have q : ¬ n = m := by have : ¬ (n : Int) = m := by simpa using q
                           omega
    rw [decide_eq_false q]; rfl
  · have q : n = m := by have : (n : Int) = m := by simpa using q
                         omega
    subst q
    refine LoopP.ind (I := fun (i : Int) => 0 ≤ i ∧ i ≤ n ∧ ∀ j, j < i.toNat → l.getD (j * 2) 0 = l2.getD (j * 2) 0 ∧ l.getD (j * 2 + 1) 0 = l2.getD (j * 2 + 1) 0) (μ := fun (i : Int) => ((n : Int) - i).toNat) ?_ ⟨by omega, by omega, fun j hj => by omega⟩
    rintro i k0 ⟨i1, i2, i3⟩ hk
    refine cond_i (fun q => ?_) (fun q => ?_)
    · have q : i < n := of_decide_eq_true q
      have b1 : i.toNat * 2 < l.length := by omega
      have b2 : i.toNat * 2 + 1 < l.length := by omega
      have b3 : i.toNat * 2 < l2.length := by omega
      have b4 : i.toNat * 2 + 1 < l2.length := by omega
      refine ck_i (by simp [ic_len]; omega) (ck_i (by rw [rw_get b1, rw_get b2]; simp [ic_len]; omega) (ck_i (by simp [ic_len]; omega) (ck_i (by rw [rw_get b3, rw_get b4]; simp [ic_len]; omega) ?_)))
      simp only [int_get]
      refine cond_i (fun q2 => ?_) (fun q2 => ?_)
      · have ne : ¬ l = l2 := fun e => by subst e; simp at q2
        rw [decide_eq_false ne, Bool.and_false]; rfl
      · rw [wr1 (by omega) (by omega)]
        have q2 : l.getD (i.toNat * 2) 0 = l2.getD (i.toNat * 2) 0 ∧ l.getD (i.toNat * 2 + 1) 0 = l2.getD (i.toNat * 2 + 1) 0 := by
          simpa only [Bool.not_eq_false', Bool.and_eq_true, beq_iff_eq, and_true] using q2
        refine hk (i + 1) ⟨by omega, by omega, fun j hj => ?_⟩ (by omega)
        by_cases e : j = i.toNat
        · subst e; exact q2
        · exact i3 j (by omega)
    · have q : ¬ i < n := by simpa using q
      have e := two_all hl hl2 fun j hj => i3 j (by omega)
      rw [decide_eq_true e, decide_eq_true rfl]; rfl
theorem cx95_ok : CtxOk Tryd.prog cx95.q.ctx := ctx_nil
theorem sum95_ok : ∀ vs r, sum95 vs = some (true, r) → SoundAt Tryd.prog 23 vs r := by
  intro vs r h
  unfold sum95 at h
  split at h
  · simp only [Option.some.injEq, Prod.mk.injEq, Bool.and_eq_true] at h
    obtain ⟨⟨⟨h0, h1⟩, h2⟩, rfl⟩ := h
    rename_i a b
    obtain ⟨n, l, hl, rfl⟩ : ∃ (n : Nat) (l : List Int), l.length = n * 2 ∧ a = .one (.sl n (ic .i64 l)) := by
      cases a with
      | one c => obtain ⟨n, l, hl, rfl⟩ := sl_elim h0; exact ⟨n, l, hl, rfl⟩
      | _ => cases h0
    obtain ⟨m, l2, hl2, rfl⟩ : ∃ (n : Nat) (l : List Int), l.length = n * 2 ∧ b = .one (.sl n (ic .i64 l)) := by
      cases b with
      | one c => obtain ⟨n, l, hl, rfl⟩ := sl_elim h1; exact ⟨n, l, hl, rfl⟩
      | _ => cases h1
    have e : eqRow (cellA (.one (.sl n (ic .i64 l))) 0) (cellA (.one (.sl m (ic .i64 l2))) 0) = (decide (n = m) && decide (l = l2)) := by
      show (decide (n = m) && decide (List.map intC (ic .i64 l) = List.map intC (ic .i64 l2))) = _
      rw [map_ic, map_ic]
    rw [e]
    exact f95_sound _ _ _ _ cx95_ok (f95_spec n l hl m l2 hl2 (of_decide_eq_true h2))
  · cases h
theorem f45_spec (c : Bool) (rn : Nat) (l : List Int) (hr : l.length = rn * 2) (n : Int) (b : Bool) (D : List Int) (hl : D.length = 49) : f45_wp c rn (ic .i64 l) n b (ic .i64 D) (fun r' => r' = boRet (rightN c (.sl rn (ic .i64 l)) (n, b, D))) := by
  unfold f45_wp rightN
  have ro := okSl_ic hr
  have ro2 := okSl_itvs (z := (n, b, D)) (t := (capN n).toNat)
  have c6 : (capN n).toNat ≤ 6 := by unfold capN; omega
  simp only [take49 hl, map_ic, Prod.eta]
  (repeat ((first | with_reducible apply ck_i | with_reducible apply And.intro); · (first | with_reducible rfl | ((try simp only [ics]) <;> simp [ics, *] <;> omega))))
  refine cond_i (fun q => ?_) (fun q => ?_)
  · rw [q]
    refine cond_i (fun q2 => ?_) (fun q2 => ?_)
    · rw [q2]
      (repeat ((first | with_reducible apply ck_i | with_reducible apply And.intro); · (first | with_reducible rfl | ((try simp only [ics]) <;> simp [ics, *] <;> omega))))
      rfl
    · rw [q2]; rfl
  · rw [q]; rfl
theorem cx45_ok : CtxOk Tryd.prog cx45.q.ctx := (ctx_cons (g := 15) (ctx_cons (g := 22) (ctx_cons (g := 23) ctx_nil (by kernel_rfl) sum95_ok) (by kernel_rfl) sum48_ok) (by kernel_rfl) sum93_ok)
theorem sum45_ok : ∀ vs r, sum45 vs = some (true, r) → SoundAt Tryd.prog 10 vs r := by
  intro vs r h
  unfold sum45 at h
  split at h
  · simp only [Option.some.injEq, Prod.mk.injEq, Bool.and_eq_true] at h
    obtain ⟨h0, rfl⟩ := h
    obtain ⟨c, rn, l, n0, b0, D0, hr, hl0, hc0, rfl⟩ := num_elim h0
    simp only [uZ_ic]
    exact f45_sound _ _ _ _ _ _ cx45_ok (f45_spec c rn l hr n0 b0 D0 hl0)
  · cases h

end Go.Proofs.YtgmciihlmgeecaaDoor.Fn
