import Derived.Test.YtgmciihlmgeecaaDoorPuZ2
/- Functions of one zone: what is told of each is so. Conditions: those that each lemma names. -/
namespace Go.Proofs.YtgmciihlmgeecaaDoor.Fn
open Go Go.RowKit Go.Proofs.YtgmciihlmgeecaaDoor.Mt Go.Proofs.YtgmciihlmgeecaaDoor.Zm
set_option linter.unusedVariables false
set_option linter.unusedSimpArgs false
theorem allL_len (n t : Nat) (D : List Int) : (allL n t D).length = D.length := allL_length n t D
theorem kR_len (i j t : Nat) (D : List Int) : (kR i j t D).length = D.length := by
  induction t with
  | zero => rfl
  | succ t ih => rw [kR, relaxR, st_length, ih]
theorem jR_len (i n t : Nat) (D : List Int) : (jR i n t D).length = D.length := by
  induction t with
  | zero => rfl
  | succ t ih => rw [jR, kR_len, ih]
theorem iR_len (n t : Nat) (D : List Int) : (iR n t D).length = D.length := by
  induction t with
  | zero => rfl
  | succ t ih => rw [iR, jR_len, ih]
theorem rR_len (n t : Nat) (D : List Int) : (rR n t D).length = D.length := by
  induction t with
  | zero => rfl
  | succ t ih => rw [rR, iR_len, ih]
theorem closeZ_len {n : Int} {b : Bool} {D : List Int} (h : D.length = 49) : (closeZ (n, b, D)).2.2.length = 49 := by
  unfold closeZ
  split
  · exact h
  · split
    · show (allL _ _ _).length = 49
      rw [allL_length, ownT_len]; exact h
    · exact zeroL_len
theorem closeR_len {n : Int} {b : Bool} {D : List Int} (h : D.length = 49) : (closeR (n, b, D)).2.2.length = 49 := by
  unfold closeR
  split
  · exact zeroL_len
  · split
    · show (rR _ _ _).length = 49
      rw [rR_len, ownT_len]; exact h
    · exact zeroL_len
theorem max_if (a k : Int) : (if k > a then k else a) = max a k := by split <;> omega
theorem var_rng {n : Int} {b : Bool} {x : Int} (h : varP n b x = true) : 0 ≤ x ∧ x ≤ 5 ∧ b = false ∧ okN n = true := by
  unfold varP okN at *
  cases b <;> simp at h ⊢
  omega
theorem nor_rng {n : Int} {b : Bool} {x : Int} (h : norP n b x = true) : -1 ≤ x ∧ x ≤ 5 ∧ b = false ∧ okN n = true := by
  unfold norP varP okN at *
  cases b <;> simp at h ⊢
  omega
theorem in16_rng {x : Int} (h : in16 x = true) : -1 ≤ x ∧ x ≤ 5 := by
  unfold in16 at h
  simpa using h
theorem okN_rng {n : Int} (h : okN n = true) : 0 ≤ n ∧ n ≤ 6 := by
  unfold okN at h
  simpa using h
theorem f36_spec : f36_wp (fun r' => r' = twoRet 1 0) := rfl
theorem cx36_ok : CtxOk Tryd.prog cx36.q.ctx := ctx_nil
theorem sum36_ok : ∀ vs r, sum36 vs = some (true, r) → SoundAt Tryd.prog 25 vs r := by
  intro vs r h
  unfold sum36 at h
  split at h
  · simp only [Option.some.injEq, Prod.mk.injEq, true_and] at h
    subst h
    exact f36_sound cx36_ok f36_spec
  · cases h
theorem f44_spec (a b : Int) : f44_wp a b (fun r' => r' = boRet (emptyP a b)) := rfl
theorem cx44_ok : CtxOk Tryd.prog cx44.q.ctx := ctx_nil
theorem sum44_ok : ∀ vs r, sum44 vs = some (true, r) → SoundAt Tryd.prog 28 vs r := by
  intro vs r h
  unfold sum44 at h
  split at h
  · simp only [Option.some.injEq, Prod.mk.injEq, Bool.and_eq_true] at h
    obtain ⟨h0, rfl⟩ := h
    obtain ⟨x0, y0, rfl⟩ := pair_elim h0
    (try simp only [zO_ic])
    exact f44_sound _ _ cx44_ok (f44_spec x0 y0)
  · cases h
theorem f97_spec (a b : Int) : f97_wp a b (fun r' => r' = itRet (normP a b)) := by
  unfold f97_wp
  refine cond_i (fun q => ?_) (fun q => ?_)
  · unfold emptyP at q
    rw [normP, if_pos (of_decide_eq_true q)]; rfl
  · unfold emptyP at q
    rw [normP, if_neg (of_decide_eq_false q)]; rfl
theorem cx97_ok : CtxOk Tryd.prog cx97.q.ctx := (ctx_cons (g := 28) (ctx_cons (g := 25) ctx_nil (by kernel_rfl) sum36_ok) (by kernel_rfl) sum44_ok)
theorem sum97_ok : ∀ vs r, sum97 vs = some (true, r) → SoundAt Tryd.prog 19 vs r := by
  intro vs r h
  unfold sum97 at h
  split at h
  · simp only [Option.some.injEq, Prod.mk.injEq, Bool.and_eq_true] at h
    obtain ⟨h0, rfl⟩ := h
    obtain ⟨x0, y0, rfl⟩ := pair_elim h0
    (try simp only [zO_ic])
    exact f97_sound _ _ cx97_ok (f97_spec x0 y0)
  · cases h
theorem f53_spec (a b : Int) : f53_wp a b (fun r' => r' = itRet (ofP a b)) := by
  unfold f53_wp
  simp only [min_if, max_if]; rfl
theorem cx53_ok : CtxOk Tryd.prog cx53.q.ctx := (ctx_cons (g := 19) ctx_nil (by kernel_rfl) sum97_ok)
theorem sum53_ok : ∀ vs r, sum53 vs = some (true, r) → SoundAt Tryd.prog 6 vs r := by
  intro vs r h
  unfold sum53 at h
  split at h
  · simp only [Option.some.injEq, Prod.mk.injEq, Bool.and_eq_true] at h
    obtain ⟨⟨h0, h1⟩, rfl⟩ := h
    obtain ⟨x0, rfl⟩ := int_elim h0
    obtain ⟨x1, rfl⟩ := int_elim h1
    (try simp only [zO_ic])
    exact f53_sound _ _ cx53_ok (f53_spec x0 x1)
  · cases h
theorem f30_spec (a : Int) : f30_wp a (fun r' => r' = itRet (ofP a a)) := rfl
theorem cx30_ok : CtxOk Tryd.prog cx30.q.ctx := (ctx_cons (g := 6) ctx_nil (by kernel_rfl) sum53_ok)
theorem sum30_ok : ∀ vs r, sum30 vs = some (true, r) → SoundAt Tryd.prog 12 vs r := by
  intro vs r h
  unfold sum30 at h
  split at h
  · simp only [Option.some.injEq, Prod.mk.injEq, Bool.and_eq_true] at h
    obtain ⟨h0, rfl⟩ := h
    obtain ⟨x0, rfl⟩ := int_elim h0
    (try simp only [zO_ic])
    exact f30_sound _ cx30_ok (f30_spec x0)
  · cases h
theorem f26_spec (n : Int) (b : Bool) (D : List Int) (hl : D.length = 49) (x y c : Int) : f26_wp n b (ic .i64 D) x y c (fun r' => r' = zRe (boundZ (n, b, D) x y c)) := by
  unfold f26_wp boundZ
  (try delta X26_1)
  (try delta X26_0)
  (repeat ((first | with_reducible apply ck_i | with_reducible apply And.intro); · (first | with_reducible rfl | ((try simp only [closeZ_len, closeR_len, forT_len, movT_len, ownT_len, min_if, max_if, ics]) <;> simp [closeZ_len, closeR_len, forT_len, movT_len, ownT_len, min_if, max_if, ics, *] <;> omega))))
  refine cond_i (fun q => ?_) (fun q => ?_)
  · have q : norP n b x = false := by simpa using q
    simp only [q]
    (repeat ((first | with_reducible apply ck_i | with_reducible apply And.intro); · (first | with_reducible rfl | ((try simp only [closeZ_len, closeR_len, forT_len, movT_len, ownT_len, min_if, max_if, ics]) <;> simp [closeZ_len, closeR_len, forT_len, movT_len, ownT_len, min_if, max_if, ics, *] <;> omega)))); rfl
  · have q : norP n b x = true := by simpa using q
    refine cond_i (fun q2 => ?_) (fun q2 => ?_)
    · have q2 : norP n b y = false := by simpa using q2
      simp only [q, q2]
      (repeat ((first | with_reducible apply ck_i | with_reducible apply And.intro); · (first | with_reducible rfl | ((try simp only [closeZ_len, closeR_len, forT_len, movT_len, ownT_len, min_if, max_if, ics]) <;> simp [closeZ_len, closeR_len, forT_len, movT_len, ownT_len, min_if, max_if, ics, *] <;> omega)))); rfl
    · have q2 : norP n b y = true := by simpa using q2
      have r1 := nor_rng q
      have r2 := nor_rng q2
      simp only [q, q2]
      simp only [closeZ_len, closeR_len, forT_len, movT_len, ownT_len, min_if, max_if, ics, wr1 (show -1000 ≤ x by omega) (show x ≤ 1000 by omega), wr1 (show -1000 ≤ y by omega) (show y ≤ 1000 by omega)]
      (repeat ((first | with_reducible apply ck_i | with_reducible apply And.intro); · (first | with_reducible rfl | ((try simp only [closeZ_len, closeR_len, forT_len, movT_len, ownT_len, min_if, max_if, ics]) <;> simp [closeZ_len, closeR_len, forT_len, movT_len, ownT_len, min_if, max_if, ics, *] <;> omega)))); rfl
theorem cx26_ok : CtxOk Tryd.prog cx26.q.ctx := (ctx_cons (g := 33) (ctx_cons (g := 32) ctx_nil (by kernel_rfl) sum83_ok) (by kernel_rfl) sum84_ok)
theorem sum26_ok : ∀ vs r, sum26 vs = some (true, r) → SoundAt Tryd.prog 30 vs r := by
  intro vs r h
  unfold sum26 at h
  split at h
  · simp only [Option.some.injEq, Prod.mk.injEq, Bool.and_eq_true] at h
    obtain ⟨⟨⟨⟨h0, h1⟩, h2⟩, h3⟩, rfl⟩ := h
    obtain ⟨n0, b0, D0, hl0, hc0, rfl⟩ := zone_elim h0
    obtain ⟨x1, rfl⟩ := int_elim h1
    obtain ⟨x2, rfl⟩ := int_elim h2
    obtain ⟨x3, rfl⟩ := int_elim h3
    (try simp only [zO_ic])
    exact f26_sound _ _ _ _ _ _ cx26_ok (f26_spec n0 b0 D0 hl0 x1 x2 x3)
  · cases h
theorem f37_spec (n : Int) (b : Bool) (D : List Int) (hl : D.length = 49) (x : Int) : f37_wp n b (ic .i64 D) x (fun r' => r' = zRe (forgetZ (n, b, D) x)) := by
  unfold f37_wp forgetZ
  (try delta X37_1)
  (try delta X37_0)
  (repeat ((first | with_reducible apply ck_i | with_reducible apply And.intro); · (first | with_reducible rfl | ((try simp only [closeZ_len, closeR_len, forT_len, movT_len, ownT_len, min_if, max_if, ics]) <;> simp [closeZ_len, closeR_len, forT_len, movT_len, ownT_len, min_if, max_if, ics, *] <;> omega))))
  refine cond_i (fun q => ?_) (fun q => ?_)
  · have q : varP n b x = false := by simpa using q
    simp only [q]
    (repeat ((first | with_reducible apply ck_i | with_reducible apply And.intro); · (first | with_reducible rfl | ((try simp only [closeZ_len, closeR_len, forT_len, movT_len, ownT_len, min_if, max_if, ics]) <;> simp [closeZ_len, closeR_len, forT_len, movT_len, ownT_len, min_if, max_if, ics, *] <;> omega)))); rfl
  · have q : varP n b x = true := by simpa using q
    obtain ⟨r1, r2, r3, r4⟩ := var_rng q
    simp only [q]
    simp only [closeZ_len, closeR_len, forT_len, movT_len, ownT_len, min_if, max_if, ics, wr1 (show -1000 ≤ x by omega) (show x ≤ 1000 by omega)]
    (repeat ((first | with_reducible apply ck_i | with_reducible apply And.intro); · (first | with_reducible rfl | ((try simp only [closeZ_len, closeR_len, forT_len, movT_len, ownT_len, min_if, max_if, ics]) <;> simp [closeZ_len, closeR_len, forT_len, movT_len, ownT_len, min_if, max_if, ics, *] <;> omega)))); rfl
theorem cx37_ok : CtxOk Tryd.prog cx37.q.ctx := (ctx_cons (g := 24) (ctx_cons (g := 32) (ctx_pcons (g := 31) ctx_nil (by kernel_rfl) psum87_ok) (by kernel_rfl) sum83_ok) (by kernel_rfl) sum85_ok)
theorem sum37_ok : ∀ vs r, sum37 vs = some (true, r) → SoundAt Tryd.prog 17 vs r := by
  intro vs r h
  unfold sum37 at h
  split at h
  · simp only [Option.some.injEq, Prod.mk.injEq, Bool.and_eq_true] at h
    obtain ⟨⟨h0, h1⟩, rfl⟩ := h
    obtain ⟨n0, b0, D0, hl0, hc0, rfl⟩ := zone_elim h0
    obtain ⟨x1, rfl⟩ := int_elim h1
    (try simp only [zO_ic])
    exact f37_sound _ _ _ _ cx37_ok (f37_spec n0 b0 D0 hl0 x1)
  · cases h
theorem f86_spec (n : Int) (b : Bool) (D : List Int) (hl : D.length = 49) (x c : Int) (hn : okN n = true) (h0 : decide (0 ≤ x) = true) (h6 : decide (x ≤ 6) = true) : f86_wp n b (ic .i64 D) x c (fun r' => r' = zRe (movZ (n, b, D) x c)) := by
  have hn := okN_rng hn
  have h0 := of_decide_eq_true h0
  have h6 := of_decide_eq_true h6
  unfold f86_wp
  (try delta X86_2)
  (try delta X86_1)
  (try delta X86_0)
  (repeat ((first | with_reducible apply ck_i | with_reducible apply And.intro); · (first | with_reducible rfl | ((try simp only [closeZ_len, closeR_len, forT_len, movT_len, ownT_len, min_if, max_if, ics]) <;> simp [closeZ_len, closeR_len, forT_len, movT_len, ownT_len, min_if, max_if, ics, *] <;> omega))))
  refine LoopP.ind (I := fun z => 0 ≤ z.1 ∧ z.1 ≤ n + 1 ∧ z.2 = ic .i64 (movT x.toNat c z.1.toNat D)) (μ := fun z => (n + 1 - z.1).toNat) ?_ ⟨by dsimp only; omega, by dsimp only; omega, rfl⟩
  rintro ⟨i, cs⟩ k0 ⟨i1, i2, i3⟩ hk
  dsimp only at i1 i2 i3 ⊢
  subst i3
  have lE : (movT x.toNat c i.toNat D).length = 49 := by rw [movT_len]; exact hl
  refine cond_i (fun q => ?_) (fun q => ?_)
  · have q := of_decide_eq_true q
    have hk' := hk (i + 1, ic .i64 (movT x.toNat c (i + 1).toNat D)) ⟨by dsimp only; omega, by dsimp only; omega, rfl⟩ (by dsimp only; omega)
    rw [show (i + 1).toNat = i.toNat + 1 by omega, movT] at hk'
    clear hk
    refine cond_i (fun q2 => ?_) (fun q2 => ?_)
    · have q2 : ¬ i = x := by simpa using q2
      rw [if_neg (by omega)] at hk'
      generalize movT x.toNat c i.toNat D = E at *
      simp only [closeZ_len, closeR_len, forT_len, movT_len, ownT_len, min_if, max_if, ics, wr1 (show -1000 ≤ i by omega) (show i ≤ 1000 by omega)]
      (repeat ((first | with_reducible apply ck_i | with_reducible apply And.intro); · (first | with_reducible rfl | ((try simp only [closeZ_len, closeR_len, forT_len, movT_len, ownT_len, min_if, max_if, ics]) <;> simp [closeZ_len, closeR_len, forT_len, movT_len, ownT_len, min_if, max_if, ics, *] <;> omega))))
      simp only [IntWalk.i64_left]
      exact hk'
    · have q2 : i = x := by simpa using q2
      rw [if_pos (by omega)] at hk'
      simp only [wr1 (show -1000 ≤ i by omega) (show i ≤ 1000 by omega)]
      (repeat ((first | with_reducible apply ck_i | with_reducible apply And.intro); · (first | with_reducible rfl | ((try simp only [closeZ_len, closeR_len, forT_len, movT_len, ownT_len, min_if, max_if, ics]) <;> simp [closeZ_len, closeR_len, forT_len, movT_len, ownT_len, min_if, max_if, ics, *] <;> omega))))
      exact hk'
  · have q := of_decide_eq_false q
    have e : i.toNat = n.toNat + 1 := by omega
    rw [e] at lE ⊢
    have e2 : zRe (movZ (n, b, D) x c) = zRe (closeZ (n, b, movT x.toNat c (n.toNat + 1) D)) := rfl
    rw [e2]
    generalize movT x.toNat c (n.toNat + 1) D = E at *
    (repeat ((first | with_reducible apply ck_i | with_reducible apply And.intro); · (first | with_reducible rfl | ((try simp only [closeZ_len, closeR_len, forT_len, movT_len, ownT_len, min_if, max_if, ics]) <;> simp [closeZ_len, closeR_len, forT_len, movT_len, ownT_len, min_if, max_if, ics, *] <;> omega))))
    simp only [closeZ_len, closeR_len, forT_len, movT_len, ownT_len, min_if, max_if, ics]; rfl
theorem cx86_ok : CtxOk Tryd.prog cx86.q.ctx := (ctx_cons (g := 32) ctx_nil (by kernel_rfl) sum83_ok)
theorem sum86_ok : ∀ vs r, sum86 vs = some (true, r) → SoundAt Tryd.prog 34 vs r := by
  intro vs r h
  unfold sum86 at h
  split at h
  · simp only [Option.some.injEq, Prod.mk.injEq, Bool.and_eq_true] at h
    obtain ⟨⟨⟨⟨⟨⟨h0, h1⟩, h2⟩, h3⟩, h4⟩, h5⟩, rfl⟩ := h
    obtain ⟨n0, b0, D0, hl0, hc0, rfl⟩ := zone_elim h0
    obtain ⟨x2, rfl⟩ := int_elim h2
    obtain ⟨x3, rfl⟩ := int_elim h3
    (try simp only [zO_ic] at h1)
    (try simp only [zO_ic] at h4)
    (try simp only [zO_ic] at h5)
    (try simp only [zO_ic])
    exact f86_sound _ _ _ _ _ cx86_ok (f86_spec n0 b0 D0 hl0 x2 x3 h1 h4 h5)
  · cases h
theorem f29_spec (n : Int) (b : Bool) (D : List Int) (hl : D.length = 49) (x : Int) : f29_wp n b (ic .i64 D) x (fun r' => r' = itRet (itvZ (n, b, D) x)) := by
  unfold f29_wp itvZ
  (try delta X29_0)
  (repeat ((first | with_reducible apply ck_i | with_reducible apply And.intro); · (first | with_reducible rfl | ((try simp only [closeZ_len, closeR_len, forT_len, movT_len, ownT_len, min_if, max_if, ics]) <;> simp [closeZ_len, closeR_len, forT_len, movT_len, ownT_len, min_if, max_if, ics, *] <;> omega))))
  refine cond_i (fun q => ?_) (fun q => ?_)
  · have q : varP n b x = false := by simpa using q
    simp only [q]; rfl
  · have q : varP n b x = true := by simpa using q
    obtain ⟨r1, r2, r3, r4⟩ := var_rng q
    simp only [q]
    simp only [closeZ_len, closeR_len, forT_len, movT_len, ownT_len, min_if, max_if, ics, wr1 (show -1000 ≤ x by omega) (show x ≤ 1000 by omega)]
    (repeat ((first | with_reducible apply ck_i | with_reducible apply And.intro); · (first | with_reducible rfl | ((try simp only [closeZ_len, closeR_len, forT_len, movT_len, ownT_len, min_if, max_if, ics]) <;> simp [closeZ_len, closeR_len, forT_len, movT_len, ownT_len, min_if, max_if, ics, *] <;> omega))))
    simp only [IntWalk.i64_left, Int.zero_sub]; rfl
theorem cx29_ok : CtxOk Tryd.prog cx29.q.ctx := (ctx_cons (g := 24) (ctx_cons (g := 25) (ctx_cons (g := 6) ctx_nil (by kernel_rfl) sum53_ok) (by kernel_rfl) sum36_ok) (by kernel_rfl) sum85_ok)
theorem sum29_ok : ∀ vs r, sum29 vs = some (true, r) → SoundAt Tryd.prog 11 vs r := by
  intro vs r h
  unfold sum29 at h
  split at h
  · simp only [Option.some.injEq, Prod.mk.injEq, Bool.and_eq_true] at h
    obtain ⟨⟨h0, h1⟩, rfl⟩ := h
    obtain ⟨n0, b0, D0, hl0, hc0, rfl⟩ := zone_elim h0
    obtain ⟨x1, rfl⟩ := int_elim h1
    (try simp only [zO_ic])
    exact f29_sound _ _ _ _ cx29_ok (f29_spec n0 b0 D0 hl0 x1)
  · cases h
theorem f92_spec (n : Nat) (l : List Int) (hl : l.length = n * 1) (i : Int) (h0 : decide (0 ≤ i) = true) (h1 : decide (i ≤ (n : Int)) = true) (h2 : decide (i ≤ 6) = true) : f92_wp n (ic .i64 l) i (fun r' => r' = inRet (atP l i)) := by
  have h0 := of_decide_eq_true h0
  have h1 := of_decide_eq_true h1
  have h2 := of_decide_eq_true h2
  rw [Nat.mul_one] at hl
  unfold f92_wp atP
  simp only [Nat.mul_one]
  refine cond_i (fun q => ?_) (fun q => ?_)
  · have q : i = 0 := by simpa using q
    rw [if_pos q]; rfl
  · have q : ¬ i = 0 := by simpa using q
    rw [if_neg q]
    rw [i64_id (show -9223372036854775808 ≤ i - 1 by omega) (show i - 1 ≤ 9223372036854775807 by omega)]
    have hj : (i - 1).toNat < l.length := by omega
    rw [ic_get hj]
    refine ck_i (by simp [ic_len]; omega) (ck_i (by simp [ic_len, okK, isInt]; omega) ?_)
    rfl
theorem cx92_ok : CtxOk Tryd.prog cx92.q.ctx := ctx_nil
theorem sum92_ok : ∀ vs r, sum92 vs = some (true, r) → SoundAt Tryd.prog 38 vs r := by
  intro vs r h
  unfold sum92 at h
  split at h
  · simp only [Option.some.injEq, Prod.mk.injEq, Bool.and_eq_true] at h
    obtain ⟨⟨⟨⟨⟨h0, h1⟩, h2⟩, h3⟩, h4⟩, rfl⟩ := h
    obtain ⟨n0, l0, hl0, en0, el0, tr0⟩ := row_elimG (g := 38) h0
    obtain ⟨x1, rfl⟩ := int_elim h1
    (try simp only [en0, el0] at h2)
    (try simp only [en0, el0] at h3)
    (try simp only [en0, el0] at h4)
    (try simp only [en0, el0])
    (try simp only [zO_ic] at h2)
    (try simp only [zO_ic] at h3)
    (try simp only [zO_ic] at h4)
    (try simp only [zO_ic])
    refine tr0 [] [_] _ ?_
    exact f92_sound _ _ _ cx92_ok (f92_spec n0 l0 hl0 x1 h2 h3 h4)
  · cases h
def topS (k i j : Nat) : List Int := mkD fun a b => if a ≤ k ∧ b ≤ k ∧ a ≠ b ∧ (a < i ∨ (a = i ∧ b < j)) then 1099511627776 else 0
theorem topS_0 (k : Nat) : zeroL = topS k 0 0 := by
  rw [zero_mk]
  exact mk_ext fun i j hi hj => by rw [if_neg (by omega)]
theorem topS_row {k i : Nat} : topS k i (k + 1) = topS k (i + 1) 0 := mk_ext fun a b ha hb => by
  by_cases e : a ≤ k ∧ b ≤ k ∧ a ≠ b ∧ (a < i ∨ (a = i ∧ b < k + 1))
  · rw [if_pos e, if_pos (by omega)]
  · rw [if_neg e, if_neg (by omega)]
theorem topS_set {k i j : Nat} (hi : i ≤ k) (hj : j ≤ k) (hk : k ≤ 6) (h : i ≠ j) : st (topS k i j) i j 1099511627776 = topS k i (j + 1) := by
  unfold topS
  rw [st_mk _ (by omega) (by omega)]
  refine mk_ext fun a b ha hb => ?_
  by_cases e : a = i ∧ b = j
  · rw [if_pos e, if_pos (by omega)]
  · rw [if_neg e]
    by_cases e2 : a ≤ k ∧ b ≤ k ∧ a ≠ b ∧ (a < i ∨ (a = i ∧ b < j))
    · rw [if_pos e2, if_pos (by omega)]
    · rw [if_neg e2, if_neg (by omega)]
theorem topS_same {k i : Nat} : topS k i i = topS k i (i + 1) := mk_ext fun a b ha hb => by
  by_cases e2 : a ≤ k ∧ b ≤ k ∧ a ≠ b ∧ (a < i ∨ (a = i ∧ b < i))
  · rw [if_pos e2, if_pos (by omega)]
  · rw [if_neg e2, if_neg (by omega)]
theorem topS_end {k : Nat} : topS k (k + 1) 0 = topD k := mk_ext fun a b ha hb => by
  by_cases e2 : a ≤ k ∧ b ≤ k ∧ a ≠ b
  · rw [if_pos (by omega), if_pos e2]
  · rw [if_neg (by omega), if_neg e2]
theorem topS_len {k i j : Nat} : (topS k i j).length = 49 := mkD_len _
theorem f25_spec (a : Int) : f25_wp a (fun r' => r' = zRe (topZ a)) := by
  unfold f25_wp
  (try delta X25_0)
  simp only [min_if, max_if]
  have e0 : min (max a 0) 6 = capN a := rfl
  have e1 : zRe (topZ a) = zRe (closeZ (capN a, false, topD (capN a).toNat)) := rfl
  rw [e1]
  simp only [e0]
  have hn : 0 ≤ capN a ∧ capN a ≤ 6 := by unfold capN; omega
  generalize capN a = n at *
  rw [rep_ic, topS_0 n.toNat]
  refine LoopP.ind (I := fun z => 0 ≤ z.1 ∧ z.1 ≤ n + 1 ∧ z.2 = ic .i64 (topS n.toNat z.1.toNat 0)) (μ := fun z => (n + 1 - z.1).toNat) ?_ ⟨by dsimp only; omega, by dsimp only; omega, rfl⟩
  rintro ⟨i, cs⟩ kk ⟨i1, i2, i3⟩ hk
  dsimp only at i1 i2 i3 ⊢
  subst i3
  refine cond_i (fun q => ?_) (fun q => ?_)
  · have q := of_decide_eq_true q
    refine And.intro (by (first | with_reducible rfl | ((try simp only [closeZ_len, closeR_len, forT_len, movT_len, ownT_len, min_if, max_if, mkD_len, ics]) <;> simp [closeZ_len, closeR_len, forT_len, movT_len, ownT_len, min_if, max_if, mkD_len, ics, *] <;> omega))) ?_
    have hk' := hk (i + 1, ic .i64 (topS n.toNat (i + 1).toNat 0)) ⟨by dsimp only; omega, by dsimp only; omega, rfl⟩ (by dsimp only; omega)
    rw [show (i + 1).toNat = i.toNat + 1 by omega] at hk'
    clear hk
    refine LoopP.ind (I := fun z => 0 ≤ z.1 ∧ z.1 ≤ n + 1 ∧ z.2 = ic .i64 (topS n.toNat i.toNat z.1.toNat)) (μ := fun z => (n + 1 - z.1).toNat) ?_ ⟨by dsimp only; omega, by dsimp only; omega, rfl⟩
    rintro ⟨j, cs⟩ kk2 ⟨j1, j2, j3⟩ hk
    dsimp only at j1 j2 j3 ⊢
    subst j3
    have lE := topS_len (k := n.toNat) (i := i.toNat) (j := j.toNat)
    refine cond_i (fun q2 => ?_) (fun q2 => ?_)
    · have q2 := of_decide_eq_true q2
      have hm' := hk (j + 1, ic .i64 (topS n.toNat i.toNat (j + 1).toNat)) ⟨by dsimp only; omega, by dsimp only; omega, rfl⟩ (by dsimp only; omega)
      rw [show (j + 1).toNat = j.toNat + 1 by omega] at hm'
      rw [wr1 (by omega) (by omega)]
      refine cond_i (fun q3 => ?_) (fun q3 => ?_)
      · have q3 : ¬ i = j := by simpa using q3
        rw [← topS_set (by omega) (by omega) (by omega) (by omega)] at hm'
        simp only [closeZ_len, closeR_len, forT_len, movT_len, ownT_len, min_if, max_if, mkD_len, ics]
        (repeat ((first | with_reducible apply ck_i | with_reducible apply And.intro); · (first | with_reducible rfl | ((try simp only [closeZ_len, closeR_len, forT_len, movT_len, ownT_len, min_if, max_if, mkD_len, ics]) <;> simp [closeZ_len, closeR_len, forT_len, movT_len, ownT_len, min_if, max_if, mkD_len, ics, *] <;> omega))))
        exact hm'
      · have q3 : i = j := by simpa using q3
        subst q3
        rw [← topS_same] at hm'
        (repeat ((first | with_reducible apply ck_i | with_reducible apply And.intro); · (first | with_reducible rfl | ((try simp only [closeZ_len, closeR_len, forT_len, movT_len, ownT_len, min_if, max_if, mkD_len, ics]) <;> simp [closeZ_len, closeR_len, forT_len, movT_len, ownT_len, min_if, max_if, mkD_len, ics, *] <;> omega))))
        exact hm'
    · have q2 := of_decide_eq_false q2
      refine And.intro (by (first | with_reducible rfl | ((try simp only [closeZ_len, closeR_len, forT_len, movT_len, ownT_len, min_if, max_if, mkD_len, ics]) <;> simp [closeZ_len, closeR_len, forT_len, movT_len, ownT_len, min_if, max_if, mkD_len, ics, *] <;> omega))) ?_
      rw [wr1 (by omega) (by omega), show j.toNat = n.toNat + 1 by omega, topS_row]
      exact hk'
  · have q := of_decide_eq_false q
    rw [show i.toNat = n.toNat + 1 by omega, topS_end]
    have lD : (topD n.toNat).length = 49 := mkD_len _
    clear hk
    generalize topD n.toNat = E at *
    (repeat ((first | with_reducible apply ck_i | with_reducible apply And.intro); · (first | with_reducible rfl | ((try simp only [closeZ_len, closeR_len, forT_len, movT_len, ownT_len, min_if, max_if, mkD_len, ics]) <;> simp [closeZ_len, closeR_len, forT_len, movT_len, ownT_len, min_if, max_if, mkD_len, ics, *] <;> omega))))
    simp only [closeZ_len, closeR_len, forT_len, movT_len, ownT_len, min_if, max_if, mkD_len, ics]; rfl
theorem cx25_ok : CtxOk Tryd.prog cx25.q.ctx := (ctx_cons (g := 32) ctx_nil (by kernel_rfl) sum83_ok)
theorem sum25_ok : ∀ vs r, sum25 vs = some (true, r) → SoundAt Tryd.prog 18 vs r := by
  intro vs r h
  unfold sum25 at h
  split at h
  · simp only [Option.some.injEq, Prod.mk.injEq, Bool.and_eq_true] at h
    obtain ⟨h0, rfl⟩ := h
    obtain ⟨x0, rfl⟩ := int_elim h0
    (try simp only [zO_ic])
    exact f25_sound _ cx25_ok (f25_spec x0)
  · cases h
theorem movZ_len {n : Int} {b : Bool} {D : List Int} {r c : Int} (h : D.length = 49) : (movZ (n, b, D) r c).2.2.length = 49 := by
  unfold movZ
  exact closeZ_len (by rw [movT_len]; exact h)
theorem forgetR_len {n : Int} {b : Bool} {D : List Int} {x : Int} (h : D.length = 49) : (forgetR (n, b, D) x).2.2.length = 49 := by
  unfold forgetR
  split
  · exact h
  · exact closeR_len (by rw [forT_len]; exact h)
theorem closeZ_fst {z : Zo} : (closeZ z).1 = z.1 := by
  unfold closeZ
  split
  · rfl
  · split <;> rfl
theorem closeR_fst {z : Zo} : (closeR z).1 = z.1 := by
  unfold closeR
  split
  · rfl
  · split <;> rfl
theorem forgetR_fst {z : Zo} {x : Int} : (forgetR z x).1 = z.1 := by
  unfold forgetR
  split
  · rfl
  · exact closeR_fst
theorem clamp_if (c : Int) : min (max c (-1099511627776)) 1099511627776 = clampB c := rfl
theorem f27_spec (n : Int) (b : Bool) (D : List Int) (hl : D.length = 49) (x y c : Int) : f27_wp n b (ic .i64 D) x y c (fun r' => r' = zRe (copyZ (n, b, D) x y c)) := by
  unfold f27_wp copyZ
  (try delta X27_1)
  (try delta X27_0)
  (try delta X27_4)
  (try delta X27_3)
  (try delta X27_2)
  (repeat ((first | with_reducible apply ck_i | with_reducible apply And.intro); · (first | with_reducible rfl | ((try simp only [closeZ_len, closeR_len, forT_len, movT_len, ownT_len, min_if, max_if, mkD_len, movZ_len, forgetR_len, closeZ_fst, closeR_fst, forgetR_fst, ics]) <;> simp [closeZ_len, closeR_len, forT_len, movT_len, ownT_len, min_if, max_if, mkD_len, movZ_len, forgetR_len, closeZ_fst, closeR_fst, forgetR_fst, ics, *] <;> omega))))
  refine cond_i (fun q => ?_) (fun q => ?_)
  · have q : varP n b x = false := by simpa using q
    simp only [q]
    (repeat ((first | with_reducible apply ck_i | with_reducible apply And.intro); · (first | with_reducible rfl | ((try simp only [closeZ_len, closeR_len, forT_len, movT_len, ownT_len, min_if, max_if, mkD_len, movZ_len, forgetR_len, closeZ_fst, closeR_fst, forgetR_fst, ics]) <;> simp [closeZ_len, closeR_len, forT_len, movT_len, ownT_len, min_if, max_if, mkD_len, movZ_len, forgetR_len, closeZ_fst, closeR_fst, forgetR_fst, ics, *] <;> omega)))); (first | rfl | (unfold zRe zRet; (try unfold setZ); simp only [closeZ_fst, closeR_fst, forgetR_fst]))
  · have q : varP n b x = true := by simpa using q
    refine cond_i (fun q2 => ?_) (fun q2 => ?_)
    · have q2 : norP n b y = false := by simpa using q2
      simp only [q, q2]
      (repeat ((first | with_reducible apply ck_i | with_reducible apply And.intro); · (first | with_reducible rfl | ((try simp only [closeZ_len, closeR_len, forT_len, movT_len, ownT_len, min_if, max_if, mkD_len, movZ_len, forgetR_len, closeZ_fst, closeR_fst, forgetR_fst, ics]) <;> simp [closeZ_len, closeR_len, forT_len, movT_len, ownT_len, min_if, max_if, mkD_len, movZ_len, forgetR_len, closeZ_fst, closeR_fst, forgetR_fst, ics, *] <;> omega)))); (first | rfl | (unfold zRe zRet; (try unfold setZ); simp only [closeZ_fst, closeR_fst, forgetR_fst]))
    · have q2 : norP n b y = true := by simpa using q2
      obtain ⟨r1, r2, r3, r4⟩ := var_rng q
      have r5 := nor_rng q2
      simp only [q, q2]
      simp only [wr1 (show -1000 ≤ x by omega) (show x ≤ 1000 by omega), wr1 (show -1000 ≤ y by omega) (show y ≤ 1000 by omega), min_if, max_if, clamp_if]
      refine cond_i (fun q3 => ?_) (fun q3 => ?_)
      · have q3 : x = y := by simpa using q3
        rw [if_pos (by rfl), if_pos q3]
        simp only [closeZ_len, closeR_len, forT_len, movT_len, ownT_len, min_if, max_if, mkD_len, movZ_len, forgetR_len, closeZ_fst, closeR_fst, forgetR_fst, ics]
        (repeat ((first | with_reducible apply ck_i | with_reducible apply And.intro); · (first | with_reducible rfl | ((try simp only [closeZ_len, closeR_len, forT_len, movT_len, ownT_len, min_if, max_if, mkD_len, movZ_len, forgetR_len, closeZ_fst, closeR_fst, forgetR_fst, ics]) <;> simp [closeZ_len, closeR_len, forT_len, movT_len, ownT_len, min_if, max_if, mkD_len, movZ_len, forgetR_len, closeZ_fst, closeR_fst, forgetR_fst, ics, *] <;> omega)))); (first | rfl | (unfold zRe zRet; (try unfold setZ); simp only [closeZ_fst, closeR_fst, forgetR_fst]))
      · have q3 : ¬ x = y := by simpa using q3
        rw [if_pos (by rfl), if_neg q3]
        have e : forgetZ (n, b, D) x = closeZ (n, b, forT (x + 1).toNat (n.toNat + 1) D) := by unfold forgetZ; rw [q]; rfl
        rw [e]
        have lE : (forT (x + 1).toNat (n.toNat + 1) D).length = 49 := by rw [forT_len]; exact hl
        simp only [closeZ_len, closeR_len, forT_len, movT_len, ownT_len, min_if, max_if, mkD_len, movZ_len, forgetR_len, closeZ_fst, closeR_fst, forgetR_fst, ics, IntWalk.i64_left, Int.zero_sub]
        have lF := closeZ_len (n := n) (b := b) lE
        (repeat ((first | with_reducible apply ck_i | with_reducible apply And.intro); · (first | with_reducible rfl | ((try simp only [closeZ_len, closeR_len, forT_len, movT_len, ownT_len, min_if, max_if, mkD_len, movZ_len, forgetR_len, closeZ_fst, closeR_fst, forgetR_fst, ics]) <;> simp [closeZ_len, closeR_len, forT_len, movT_len, ownT_len, min_if, max_if, mkD_len, movZ_len, forgetR_len, closeZ_fst, closeR_fst, forgetR_fst, ics, *] <;> omega)))); (first | rfl | (unfold zRe zRet; (try unfold setZ); simp only [closeZ_fst, closeR_fst, forgetR_fst]))
theorem cx27_ok : CtxOk Tryd.prog cx27.q.ctx := (ctx_cons (g := 24) (ctx_cons (g := 33) (ctx_cons (g := 34) (ctx_cons (g := 32) (ctx_pcons (g := 31) ctx_nil (by kernel_rfl) psum87_ok) (by kernel_rfl) sum83_ok) (by kernel_rfl) sum86_ok) (by kernel_rfl) sum84_ok) (by kernel_rfl) sum85_ok)
theorem sum27_ok : ∀ vs r, sum27 vs = some (true, r) → SoundAt Tryd.prog 20 vs r := by
  intro vs r h
  unfold sum27 at h
  split at h
  · simp only [Option.some.injEq, Prod.mk.injEq, Bool.and_eq_true] at h
    obtain ⟨⟨⟨⟨h0, h1⟩, h2⟩, h3⟩, rfl⟩ := h
    obtain ⟨n0, b0, D0, hl0, hc0, rfl⟩ := zone_elim h0
    obtain ⟨x1, rfl⟩ := int_elim h1
    obtain ⟨x2, rfl⟩ := int_elim h2
    obtain ⟨x3, rfl⟩ := int_elim h3
    (try simp only [zO_ic])
    exact f27_sound _ _ _ _ _ _ cx27_ok (f27_spec n0 b0 D0 hl0 x1 x2 x3)
  · cases h
theorem has_iff {n : Int} {D l : List Int} (hn : okN n = true) : hasZ (n, false, D) n.toNat l = true ↔
    ∀ i : Nat, (i : Int) ≤ n → (-2147483648 ≤ atP l i ∧ atP l i ≤ 2147483647) ∧ ∀ j : Nat, (j : Int) ≤ n → wrap64 (atP l i - atP l j) ≤ g D i j := by
  have rn := okN_rng hn
  unfold hasZ
  have e : ((n.toNat : Nat) : Int) = n := by omega
  simp only [hn, e, decide_true, Bool.not_false, Bool.and_true, Bool.true_and, List.all_eq_true, List.mem_range, Bool.and_eq_true, decide_eq_true_eq]
  constructor
  · intro h i hi
    obtain ⟨h1, h2⟩ := h i (by omega)
    exact ⟨h1, fun j hj => h2 j (by omega)⟩
  · intro h i hi
    obtain ⟨h1, h2⟩ := h i (by omega)
    exact ⟨h1, fun j hj => h2 j (by omega)⟩
theorem f38_spec (n : Int) (b : Bool) (D : List Int) (hl : D.length = 49) (m : Nat) (l : List Int) (hm : l.length = m * 1) : f38_wp n b (ic .i64 D) m (ic .i64 l) (fun r' => r' = boRet (hasZ (n, b, D) m l)) := by
  unfold f38_wp
  cases b with
  | true => rfl
  | false =>
    refine cond_i (fun q => by cases q) (fun _ => ?_)
    refine cond_i (fun q => ?_) (fun q => ?_)
    · have q : okN n = false := by simpa using q
      have e : hasZ (n, false, D) m l = false := by unfold hasZ; simp [q]
      rw [e]; rfl
    · have hn : okN n = true := by simpa using q
      have rn := okN_rng hn
      refine cond_i (fun q => ?_) (fun q => ?_)
      · have q : ¬ (m : Int) = n := by simpa using q
        have e : hasZ (n, false, D) m l = false := by unfold hasZ; simp [q]
        rw [e]; rfl
      · have q : (m : Int) = n := by simpa using q
        obtain rfl : m = n.toNat := by omega
        have ho : okRowU 1 (Cell.sl n.toNat (ic .i64 l)) = true := by simp [okRowU, int_ic, ic_len, hm]
        simp only [ho, map_ic]
        have hf := has_iff (D := D) (l := l) hn
        have no : ∀ {P : Prop}, P → (P → ¬ hasZ (n, false, D) n.toNat l = true) → boRet false = boRet (hasZ (n, false, D) n.toNat l) := fun p h => by
          cases e : hasZ (n, false, D) n.toNat l with
          | false => rfl
          | true => exact absurd e (h p)
        (repeat ((first | with_reducible apply ck_i | with_reducible apply And.intro); · (first | with_reducible rfl | ((try simp only [closeZ_len, closeR_len, forT_len, movT_len, ownT_len, min_if, max_if, mkD_len, movZ_len, forgetR_len, closeZ_fst, closeR_fst, forgetR_fst, ics]) <;> simp [closeZ_len, closeR_len, forT_len, movT_len, ownT_len, min_if, max_if, mkD_len, movZ_len, forgetR_len, closeZ_fst, closeR_fst, forgetR_fst, ics, *] <;> omega))))
        refine LoopP.ind (I := fun z => 0 ≤ z ∧ z ≤ n + 1 ∧ ∀ i : Nat, (i : Int) < z → (-2147483648 ≤ atP l i ∧ atP l i ≤ 2147483647) ∧ ∀ j : Nat, (j : Int) ≤ n → wrap64 (atP l i - atP l j) ≤ g D i j) (μ := fun z => (n + 1 - z).toNat) ?_ ⟨by omega, by omega, fun i hi => absurd hi (by omega)⟩
        rintro i k0 ⟨i1, i2, i3⟩ hk
        have ei : ((i.toNat : Nat) : Int) = i := by omega
        refine cond_i (fun q1 => ?_) (fun q1 => ?_)
        · have q1 := of_decide_eq_true q1
          refine ck_i (by simp; omega) ?_
          refine cond_i (fun q2 => ?_) (fun q2 => ?_)
          · have q2 := of_decide_eq_true q2
            refine no q2 fun q2 h => ?_
            have := (hf.1 h i.toNat (by omega)).1
            rw [ei] at this; omega
          · have q2 := of_decide_eq_false q2
            refine cond_i (fun q3 => ?_) (fun q3 => ?_)
            · have q3 := of_decide_eq_true q3
              refine no q3 fun q3 h => ?_
              have := (hf.1 h i.toNat (by omega)).1
              rw [ei] at this; omega
            · have q3 := of_decide_eq_false q3
              (repeat ((first | with_reducible apply ck_i | with_reducible apply And.intro); · (first | with_reducible rfl | ((try simp only [closeZ_len, closeR_len, forT_len, movT_len, ownT_len, min_if, max_if, mkD_len, movZ_len, forgetR_len, closeZ_fst, closeR_fst, forgetR_fst, ics]) <;> simp [closeZ_len, closeR_len, forT_len, movT_len, ownT_len, min_if, max_if, mkD_len, movZ_len, forgetR_len, closeZ_fst, closeR_fst, forgetR_fst, ics, *] <;> omega))))
              refine LoopP.ind (I := fun z => 0 ≤ z ∧ z ≤ n + 1 ∧ ∀ j : Nat, (j : Int) < z → wrap64 (atP l i - atP l j) ≤ g D i.toNat j) (μ := fun z => (n + 1 - z).toNat) ?_ ⟨by omega, by omega, fun i hi => absurd hi (by omega)⟩
              rintro j k1 ⟨j1, j2, j3⟩ hk1
              have ej : ((j.toNat : Nat) : Int) = j := by omega
              refine cond_i (fun q4 => ?_) (fun q4 => ?_)
              · have q4 := of_decide_eq_true q4
                refine ck_i (by simp; omega) ?_
                refine cond_i (fun q5 => ?_) (fun q5 => ?_)
                · have q5 := of_decide_eq_true q5
                  refine no q5 fun q5 h => ?_
                  have := (hf.1 h j.toNat (by omega)).1
                  rw [ej] at this; omega
                · have q5 := of_decide_eq_false q5
                  refine cond_i (fun q6 => ?_) (fun q6 => ?_)
                  · have q6 := of_decide_eq_true q6
                    refine no q6 fun q6 h => ?_
                    have := (hf.1 h j.toNat (by omega)).1
                    rw [ej] at this; omega
                  · have q6 := of_decide_eq_false q6
                    (repeat ((first | with_reducible apply ck_i | with_reducible apply And.intro); · (first | with_reducible rfl | ((try simp only [closeZ_len, closeR_len, forT_len, movT_len, ownT_len, min_if, max_if, mkD_len, movZ_len, forgetR_len, closeZ_fst, closeR_fst, forgetR_fst, ics]) <;> simp [closeZ_len, closeR_len, forT_len, movT_len, ownT_len, min_if, max_if, mkD_len, movZ_len, forgetR_len, closeZ_fst, closeR_fst, forgetR_fst, ics, *] <;> omega))))
                    rw [IntWalk.i64_left]
                    simp only [closeZ_len, closeR_len, forT_len, movT_len, ownT_len, min_if, max_if, mkD_len, movZ_len, forgetR_len, closeZ_fst, closeR_fst, forgetR_fst, ics]
                    refine cond_i (fun q7 => ?_) (fun q7 => ?_)
                    · have q7 := of_decide_eq_true q7
                      refine no q7 fun q7 h => ?_
                      have := (hf.1 h i.toNat (by omega)).2 j.toNat (by omega)
                      rw [ei, ej] at this; omega
                    · have q7 := of_decide_eq_false q7
                      rw [wr1 (by omega) (by omega)]
                      refine And.intro (by (first | with_reducible rfl | ((try simp only [closeZ_len, closeR_len, forT_len, movT_len, ownT_len, min_if, max_if, mkD_len, movZ_len, forgetR_len, closeZ_fst, closeR_fst, forgetR_fst, ics]) <;> simp [closeZ_len, closeR_len, forT_len, movT_len, ownT_len, min_if, max_if, mkD_len, movZ_len, forgetR_len, closeZ_fst, closeR_fst, forgetR_fst, ics, *] <;> omega))) (hk1 _ ⟨by omega, by omega, fun t ht => ?_⟩ (by omega))
                      by_cases e : (t : Int) < j
                      · exact j3 t e
                      · obtain rfl : t = j.toNat := by omega
                        rw [ej]; omega
              · have q4 := of_decide_eq_false q4
                rw [wr1 (by omega) (by omega)]
                refine And.intro (by (first | with_reducible rfl | ((try simp only [closeZ_len, closeR_len, forT_len, movT_len, ownT_len, min_if, max_if, mkD_len, movZ_len, forgetR_len, closeZ_fst, closeR_fst, forgetR_fst, ics]) <;> simp [closeZ_len, closeR_len, forT_len, movT_len, ownT_len, min_if, max_if, mkD_len, movZ_len, forgetR_len, closeZ_fst, closeR_fst, forgetR_fst, ics, *] <;> omega))) (hk _ ⟨by omega, by omega, fun t ht => ?_⟩ (by omega))
                by_cases e : (t : Int) < i
                · exact i3 t e
                · obtain rfl : t = i.toNat := by omega
                  rw [ei]
                  exact ⟨by omega, fun s hs => j3 s (by omega)⟩
        · have q1 := of_decide_eq_false q1
          rw [hf.2 fun t ht => i3 t (by omega)]; rfl
theorem cx38_ok : CtxOk Tryd.prog cx38.q.ctx := (ctx_cons (g := 36) (ctx_cons (g := 38) ctx_nil (by kernel_rfl) sum92_ok) (by kernel_rfl) sum91_ok)
theorem sum38_ok : ∀ vs r, sum38 vs = some (true, r) → SoundAt Tryd.prog 27 vs r := by
  intro vs r h
  unfold sum38 at h
  split at h
  · simp only [Option.some.injEq, Prod.mk.injEq, Bool.and_eq_true] at h
    obtain ⟨⟨h0, h1⟩, rfl⟩ := h
    obtain ⟨n0, b0, D0, hl0, hc0, rfl⟩ := zone_elim h0
    obtain ⟨n1, l1, hl1, en1, el1, tr1⟩ := row_elimG (g := 27) h1
    (try simp only [en1, el1])
    (try simp only [zO_ic])
    refine tr1 [_] [] _ ?_
    exact f38_sound _ _ _ _ _ cx38_ok (f38_spec n0 b0 D0 hl0 n1 l1 hl1)
  · cases h
/-- A row of seven. -/
def rowOf (D : List Int) (i : Nat) : List Int := [g D i 0, g D i 1, g D i 2, g D i 3, g D i 4, g D i 5, g D i 6]
theorem row7 {D : List Int} {i : Nat} : [Cell.v (Value.int .i64 (intC ((ic .i64 D).getD (i * 7) .dead))), Cell.v (Value.int .i64 (intC ((ic .i64 D).getD (i * 7 + 1) .dead))), Cell.v (Value.int .i64 (intC ((ic .i64 D).getD (i * 7 + 2) .dead))), Cell.v (Value.int .i64 (intC ((ic .i64 D).getD (i * 7 + 3) .dead))), Cell.v (Value.int .i64 (intC ((ic .i64 D).getD (i * 7 + 4) .dead))), Cell.v (Value.int .i64 (intC ((ic .i64 D).getD (i * 7 + 5) .dead))), Cell.v (Value.int .i64 (intC ((ic .i64 D).getD (i * 7 + 6) .dead)))] = ic .i64 (rowOf D i) := by
  simp only [int_get]
  unfold rowOf g
  rw [show 7 * i + 0 = i * 7 by omega, Nat.mul_comm 7 i]
  rfl
theorem g_row {D : List Int} {i j : Nat} (hj : j < 7) : g (rowOf D i) 0 j = g D i j := by
  unfold rowOf
  have : j = 0 ∨ j = 1 ∨ j = 2 ∨ j = 3 ∨ j = 4 ∨ j = 5 ∨ j = 6 := by omega
  rcases this with rfl | rfl | rfl | rfl | rfl | rfl | rfl <;> rfl
theorem rowOf_len {D : List Int} {i : Nat} : (rowOf D i).length = 7 := rfl
theorem take_ic {D : List Int} (hl : D.length = 49) : List.take 49 (ic .i64 D) = ic .i64 D := List.take_of_length_le (by rw [ic_len]; omega)
theorem topZ_len {n : Int} : (topZ n).2.2.length = 49 := closeZ_len (mkD_len _)
theorem topR_len {n : Int} : (topR n).2.2.length = 49 := closeR_len (mkD_len _)
theorem boundR_len {z : Zo} {x y c : Int} (h : z.2.2.length = 49) : (boundR z x y c).2.2.length = 49 := by
  unfold boundR
  split
  · exact h
  · exact closeR_len (by rw [st_length]; exact h)
theorem boundR_fst {z : Zo} {x y c : Int} : (boundR z x y c).1 = z.1 := by
  unfold boundR
  split
  · rfl
  · exact closeR_fst
/-- Rows of a matrix made place by place. -/
def parD (f h : Nat → Nat → Int) (i j : Nat) : List Int := mkD fun a b => if a < i ∨ (a = i ∧ b < j) then f a b else h a b
theorem parD_0 {D : List Int} (hl : D.length = 49) (f : Nat → Nat → Int) : D = parD f (g D) 0 0 := mk_eq hl fun a b _ _ => by rw [if_neg (by omega)]
theorem parD_row {f h : Nat → Nat → Int} {i k : Nat} (hk : k = 7 ∨ ∀ a b, a = i → b < 7 → k ≤ b → f a b = h a b) : parD f h i k = parD f h (i + 1) 0 := mk_ext fun a b ha hb => by
  by_cases e : a < i ∨ (a = i ∧ b < k)
  · rw [if_pos e, if_pos (by omega)]
  · rw [if_neg e]
    by_cases e2 : a < i + 1 ∨ (a = i + 1 ∧ b < 0)
    · rw [if_pos e2]
      rcases hk with rfl | hk
      · omega
      · exact (hk a b (by omega) hb (by omega)).symm
    · rw [if_neg e2]
theorem parD_set {f h : Nat → Nat → Int} {i j : Nat} (hi : i < 7) (hj : j < 7) : st (parD f h i j) i j (f i j) = parD f h i (j + 1) := by
  unfold parD
  rw [st_mk _ hi hj]
  refine mk_ext fun a b ha hb => ?_
  by_cases e : a = i ∧ b = j
  · rw [if_pos e, if_pos (by omega), e.1, e.2]
  · rw [if_neg e]
    by_cases e2 : a < i ∨ (a = i ∧ b < j)
    · rw [if_pos e2, if_pos (by omega)]
    · rw [if_neg e2, if_neg (by omega)]
theorem parD_end {f h : Nat → Nat → Int} : parD f h 7 0 = mkD f := mk_ext fun a b ha hb => by rw [if_pos (by omega)]
theorem parD_len {f h : Nat → Nat → Int} {i j : Nat} : (parD f h i j).length = 49 := mkD_len _
theorem parD_g {f h : Nat → Nat → Int} {i j : Nat} (hi : i < 7) (hj : j < 7) : g (parD f h i j) i j = h i j := by
  unfold parD
  rw [g_mk _ hi hj, if_neg (by omega)]
theorem okL_ic {n : Nat} {l : List Int} (h : l.length = n) : okL (List.replicate n (some .i64)) (ic .i64 l) = true := by
  induction n generalizing l with
  | zero => cases l with
    | nil => rfl
    | cons a l => simp at h
  | succ n ih => cases l with
    | nil => simp at h
    | cons a l =>
      rw [List.replicate_succ]
      show (okK (some .i64) (.v (.int .i64 a)) && okL _ (ic .i64 l)) = true
      rw [ih (by simpa using h)]; rfl
theorem eqW_ic {n : Nat} {l m : List Int} (h : l.length = n) (h' : m.length = n) : eqW (List.replicate n (some .i64)) (ic .i64 l) (ic .i64 m) = decide (l = m) := by
  induction n generalizing l m with
  | zero =>
    obtain rfl := List.eq_nil_of_length_eq_zero h
    obtain rfl := List.eq_nil_of_length_eq_zero h'
    rfl
  | succ n ih => cases l with
    | nil => simp at h
    | cons a l => cases m with
      | nil => simp at h'
      | cons b m =>
        rw [List.replicate_succ]
        show ((a == b) && eqW _ (ic .i64 l) (ic .i64 m)) = _
        rw [ih (by simpa using h) (by simpa using h')]
        by_cases e : a = b <;> by_cases e2 : l = m <;> simp [e, e2]
/-- What is wrong at a place. -/
def cellBad (b : Bool) (n i j c : Int) : Bool := ((b || decide (n < i) || decide (n < j)) && !decide (c = 0)) || decide (c > 1099511627776) || decide (c < -1099511627776)
theorem tree48 {b : Bool} {n i j c : Int} {F N : Prop} (hF : cellBad b n i j c = true → F) (hN : cellBad b n i j c = false → N) :
    (bif b then (bif c != 0 then F else (bif decide (c > 1099511627776) then F else (bif decide (c < -1099511627776) then F else N)))
      else (bif decide (i > n) then (bif c != 0 then F else (bif decide (c > 1099511627776) then F else (bif decide (c < -1099511627776) then F else N)))
      else (bif decide (j > n) then (bif c != 0 then F else (bif decide (c > 1099511627776) then F else (bif decide (c < -1099511627776) then F else N)))
      else (bif decide (c > 1099511627776) then F else (bif decide (c < -1099511627776) then F else N))))) := by
  unfold cellBad at hF hN
  by_cases h1 : c = 0 <;> by_cases h2 : c > 1099511627776 <;> by_cases h3 : c < -1099511627776 <;> by_cases h4 : n < i <;> by_cases h5 : n < j <;> cases b <;> simp_all
theorem right_iff {n : Int} {b : Bool} {D : List Int} (hn : okN n = true) : rightZ (n, b, D) = true ↔ (∀ i j : Nat, i < 7 → j < 7 → cellBad b n i j (g D i j) = false) ∧ closeZ (n, b, D) = (n, b, D) := by
  unfold rightZ
  simp only [hn, Bool.true_and, Bool.and_eq_true, all7, decide_eq_true_eq]
  constructor
  · rintro ⟨h1, h2⟩
    refine ⟨fun i j hi hj => ?_, h2⟩
    have : (!cellBad b n i j (g D i j)) = true := h1 i j hi hj
    simpa using this
  · rintro ⟨h1, h2⟩
    refine ⟨fun i j hi hj => ?_, h2⟩
    have := h1 i j hi hj
    unfold cellBad at this
    rw [this]; rfl
theorem f48_spec (n : Int) (b : Bool) (D : List Int) (hl : D.length = 49) : f48_wp n b (ic .i64 D) (fun r' => r' = boRet (rightZ (n, b, D))) := by
  unfold f48_wp
  (try delta X48_1)
  (try delta X48_0)
  simp only [take_ic hl, map_ic, row7]
  refine cond_i (fun q => ?_) (fun q => ?_)
  · have q : okN n = false := by simpa using q
    unfold rightZ; rw [q]; rfl
  · have hn : okN n = true := by simpa using q
    have hf := right_iff (b := b) (D := D) hn
    have no : ∀ {i j : Nat}, i < 7 → j < 7 → cellBad b n i j (g D i j) = true → boRet false = boRet (rightZ (n, b, D)) := fun hi hj h => by
      cases e : rightZ (n, b, D) with
      | false => rfl
      | true => rw [(hf.1 e).1 _ _ hi hj] at h; cases h
    (repeat ((first | with_reducible apply ck_i | with_reducible apply And.intro); · (first | with_reducible rfl | ((try simp only [closeZ_len, closeR_len, min_if, max_if, mkD_len, topZ_len, topR_len, boundR_len, ics]) <;> simp [closeZ_len, closeR_len, min_if, max_if, mkD_len, topZ_len, topR_len, boundR_len, ics, *] <;> omega))))
    refine LoopP.ind (I := fun z => 0 ≤ z ∧ z ≤ 7 ∧ ∀ i j : Nat, (i : Int) < z → j < 7 → cellBad b n i j (g D i j) = false) (μ := fun z => (7 - z).toNat) ?_ ⟨by omega, by omega, fun i j hi _ => absurd hi (by omega)⟩
    rintro i k0 ⟨i1, i2, i3⟩ hk
    have ei : ((i.toNat : Nat) : Int) = i := by omega
    refine cond_i (fun q1 => ?_) (fun q1 => ?_)
    · have q1 := of_decide_eq_true q1
      (repeat ((first | with_reducible apply ck_i | with_reducible apply And.intro); · (first | with_reducible rfl | ((try simp only [closeZ_len, closeR_len, min_if, max_if, mkD_len, topZ_len, topR_len, boundR_len, ics]) <;> simp [closeZ_len, closeR_len, min_if, max_if, mkD_len, topZ_len, topR_len, boundR_len, ics, *] <;> omega))))
      refine LoopP.ind (I := fun z => 0 ≤ z ∧ z ≤ 7 ∧ ∀ j : Nat, (j : Int) < z → cellBad b n i j (g D i.toNat j) = false) (μ := fun z => (7 - z).toNat) ?_ ⟨by omega, by omega, fun i hi => absurd hi (by omega)⟩
      rintro j k1 ⟨j1, j2, j3⟩ hk1
      have ej : ((j.toNat : Nat) : Int) = j := by omega
      refine cond_i (fun q4 => ?_) (fun q4 => ?_)
      · have q4 := of_decide_eq_true q4
        simp only [closeZ_len, closeR_len, min_if, max_if, mkD_len, topZ_len, topR_len, boundR_len, ics, g_row (D := D) (i := i.toNat) (j := j.toNat) (by omega), wr1 (show -1000 ≤ j by omega) (show j ≤ 1000 by omega)]
        have lr := rowOf_len (D := D) (i := i.toNat)
        (repeat ((first | with_reducible apply ck_i | with_reducible apply And.intro); · (first | with_reducible rfl | ((try simp only [closeZ_len, closeR_len, min_if, max_if, mkD_len, topZ_len, topR_len, boundR_len, ics]) <;> simp [closeZ_len, closeR_len, min_if, max_if, mkD_len, topZ_len, topR_len, boundR_len, ics, *] <;> omega))))
        refine tree48 (fun h => ?_) (fun h => ?_)
        · exact no (i := i.toNat) (j := j.toNat) (by omega) (by omega) (by rw [ei, ej]; exact h)
        · refine And.intro (by (first | with_reducible rfl | ((try simp only [closeZ_len, closeR_len, min_if, max_if, mkD_len, topZ_len, topR_len, boundR_len, ics]) <;> simp [closeZ_len, closeR_len, min_if, max_if, mkD_len, topZ_len, topR_len, boundR_len, ics, *] <;> omega))) (hk1 _ ⟨by omega, by omega, fun t ht => ?_⟩ (by omega))
          by_cases e : (t : Int) < j
          · exact j3 t e
          · obtain rfl : t = j.toNat := by omega
            rw [ej]; exact h
      · have q4 := of_decide_eq_false q4
        rw [wr1 (by omega) (by omega)]
        refine And.intro (by (first | with_reducible rfl | ((try simp only [closeZ_len, closeR_len, min_if, max_if, mkD_len, topZ_len, topR_len, boundR_len, ics]) <;> simp [closeZ_len, closeR_len, min_if, max_if, mkD_len, topZ_len, topR_len, boundR_len, ics, *] <;> omega))) (hk _ ⟨by omega, by omega, fun t s ht hs => ?_⟩ (by omega))
        by_cases e : (t : Int) < i
        · exact i3 t s e hs
        · obtain rfl : t = i.toNat := by omega
          rw [ei]
          exact j3 s (by omega)
    · have q1 := of_decide_eq_false q1
      have lC := closeZ_len (n := n) (b := b) hl
      have k1 := okL_ic lC
      have k2 := okL_ic hl
      have k3 := eqW_ic lC hl
      (repeat ((first | with_reducible apply ck_i | with_reducible apply And.intro); · (first | with_reducible rfl | ((try simp only [closeZ_len, closeR_len, min_if, max_if, mkD_len, topZ_len, topR_len, boundR_len, ics]) <;> simp [closeZ_len, closeR_len, min_if, max_if, mkD_len, topZ_len, topR_len, boundR_len, ics, *] <;> omega))))
      have e : ((closeZ (n, b, D)).1 == n && ((closeZ (n, b, D)).2.1 == b && eqW (List.replicate 49 (some .i64)) (ic .i64 (closeZ (n, b, D)).2.2) (ic .i64 D))) = rightZ (n, b, D) := by
        rw [k3, Bool.eq_iff_iff, hf]
        simp only [Bool.and_eq_true, beq_iff_eq, decide_eq_true_eq]
        constructor
        · rintro ⟨h1, h2, h3⟩
          refine ⟨fun t s ht hs => i3 t s (by omega) hs, ?_⟩
          exact Prod.ext h1 (Prod.ext h2 h3)
        · rintro ⟨_, h⟩
          exact ⟨congrArg Prod.fst h, congrArg (fun z : Zo => z.2.1) h, congrArg (fun z : Zo => z.2.2) h⟩
      exact congrArg boRet e
theorem cx48_ok : CtxOk Tryd.prog cx48.q.ctx := (ctx_cons (g := 36) (ctx_cons (g := 32) ctx_nil (by kernel_rfl) sum83_ok) (by kernel_rfl) sum91_ok)
theorem sum48_ok : ∀ vs r, sum48 vs = some (true, r) → SoundAt Tryd.prog 22 vs r := by
  intro vs r h
  unfold sum48 at h
  split at h
  · simp only [Option.some.injEq, Prod.mk.injEq, Bool.and_eq_true] at h
    obtain ⟨h0, rfl⟩ := h
    obtain ⟨n0, b0, D0, hl0, hc0, rfl⟩ := zone_elim h0
    (try simp only [zO_ic])
    exact f48_sound _ _ _ cx48_ok (f48_spec n0 b0 D0 hl0)
  · cases h
theorem boundZ_len {z : Zo} {x y c : Int} (h : z.2.2.length = 49) : (boundZ z x y c).2.2.length = 49 := by
  unfold boundZ
  split
  · exact closeZ_len (by rw [st_length]; exact h)
  · exact h
theorem actW_f {a : Int} : IntKind.i64.wrap ((IntKind.u64.wrap a).tmod 5) = actW a := rfl
theorem actX_f {n a : Int} : IntKind.i64.wrap ((IntKind.u64.wrap a).tmod (IntKind.u64.wrap n)) = actX n a := rfl
theorem actY_f {n a : Int} : IntKind.i64.wrap (actX (IntKind.i64.wrap (n + 1)) a - 1) = actY n a := rfl
theorem actB_f {a : Int} : IntKind.i64.wrap (IntKind.i32.wrap a) = actB a := rfl
theorem okL49 {l : List Int} (h : l.length = 49) : okL K49 (ic .i64 l) = true := okL_ic h
theorem eqW49 {l m : List Int} (h : l.length = 49) (h' : m.length = 49) : eqW K49 (ic .i64 l) (ic .i64 m) = decide (l = m) := eqW_ic h h'
theorem eqW49s {l : List Int} (h : l.length = 49) : eqW K49 (ic .i64 l) (ic .i64 l) = true := by rw [eqW49 h h]; simp
theorem rw_get {l : List Int} {j : Nat} (h : j < l.length) : okK (some .i64) ((ic .i64 l).getD j .dead) = true := okK_get h
theorem letV_j {α : Type} {x : α} {F : α → Prop} (h : ∀ c, x = c → F c) : letV x F := h x rfl
theorem map_eqD {x : Cell} {l : List Cell} {D : List Int} (h : List.map intC (x :: l) = D) : List.map intC (x :: l) = D := h

/-! ### Itvs of a zone -/
theorem itv_none {z : Zo} (hb : z.2.1 = true) {x : Int} : itvZ z x = (1, 0) := by
  unfold itvZ
  rw [var_none hb]; rfl
theorem itv_out {n : Nat} {z : Zo} (h : Gd n z) {x : Int} (hx : ¬ (0 ≤ x ∧ x < n)) : itvZ z x = (1, 0) := by
  cases hb : z.2.1 with
  | true => exact itv_none hb
  | false =>
    unfold itvZ
    rw [if_neg (fun e => hx ((var_ok h hb).1 e))]
theorem itv_in {n : Nat} {z : Zo} (h : Gd n z) (hb : z.2.1 = false) {x : Int} (hx : 0 ≤ x ∧ x < n) : itvZ z x = (- g z.2.2 0 (x + 1).toNat, g z.2.2 (x + 1).toNat 0) ∧ -2147483648 ≤ - g z.2.2 0 (x + 1).toNat ∧ - g z.2.2 0 (x + 1).toNat ≤ g z.2.2 (x + 1).toNat 0 ∧ g z.2.2 (x + 1).toNat 0 ≤ 2147483647 := by
  have n6 := h.n6
  have o := h.own hb (x + 1).toNat (by omega) (by omega)
  have p := (h.clo hb).opp (i := 0) (j := (x + 1).toNat) (by omega) (by omega)
  refine ⟨?_, by omega, by omega, by omega⟩
  unfold itvZ
  rw [if_pos ((var_ok h hb).2 hx), wrap_small (by omega) (by omega)]
  unfold ofP normP
  rw [show max (- g z.2.2 0 (x + 1).toNat) (-2147483648) = - g z.2.2 0 (x + 1).toNat by omega, show min (g z.2.2 (x + 1).toNat 0) 2147483647 = g z.2.2 (x + 1).toNat 0 by omega, if_neg (by omega)]

end Go.Proofs.YtgmciihlmgeecaaDoor.Fn
