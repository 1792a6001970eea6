import Derived.Test.YtgmciihlmgeecaaWZ2
import Derived.Test.YtgmciihlmgeecaaPuZ2
/- Small functions of zones: what is told of each is so. Conditions: those that each lemma names. -/
namespace Go.Proofs.Ytgmciihlmgeecaa.Fn
open Go Go.RowKit Go.Proofs.Ytgmciihlmgeecaa.Mt Go.Proofs.Ytgmciihlmgeecaa.Zm
set_option linter.unusedVariables false
set_option linter.unusedSimpArgs false

theorem allL_len (n t : Nat) (D : List Int) : (allL n t D).length = D.length := allL_length n t D
theorem kR_len (i j t : Nat) (D : List Int) : (kR i j t D).length = D.length := by
  induction t with
  | zero => rfl
  | succ t ih => rw [kR, relaxR, st_length, ih]
theorem jR_len (i n t : Nat) (D : List Int) : (jR i n t D).length = D.length := by
  induction t with
  | zero => rfl
  | succ t ih => rw [jR, kR_len, ih]
theorem iR_len (n t : Nat) (D : List Int) : (iR n t D).length = D.length := by
  induction t with
  | zero => rfl
  | succ t ih => rw [iR, jR_len, ih]
theorem rR_len (n t : Nat) (D : List Int) : (rR n t D).length = D.length := by
  induction t with
  | zero => rfl
  | succ t ih => rw [rR, iR_len, ih]
theorem closeZ_len {n : Int} {b : Bool} {D : List Int} (h : D.length = 49) : (closeZ (n, b, D)).2.2.length = 49 := by
  unfold closeZ
  split
  · exact h
  · split
    · show (allL _ _ _).length = 49
      rw [allL_length, ownT_len]; exact h
    · exact zeroL_len
theorem closeR_len {n : Int} {b : Bool} {D : List Int} (h : D.length = 49) : (closeR (n, b, D)).2.2.length = 49 := by
  unfold closeR
  split
  · exact zeroL_len
  · split
    · show (rR _ _ _).length = 49
      rw [rR_len, ownT_len]; exact h
    · exact zeroL_len
theorem max_if (a k : Int) : (if k > a then k else a) = max a k := by split <;> omega
theorem var_rng {n : Int} {b : Bool} {x : Int} (h : varP n b x = true) : 0 ≤ x ∧ x ≤ 5 ∧ b = false ∧ okN n = true := by
  unfold varP okN at *
  cases b <;> simp at h ⊢
  omega
theorem nor_rng {n : Int} {b : Bool} {x : Int} (h : norP n b x = true) : -1 ≤ x ∧ x ≤ 5 ∧ b = false ∧ okN n = true := by
  unfold norP varP okN at *
  cases b <;> simp at h ⊢
  omega
theorem in16_rng {x : Int} (h : in16 x = true) : -1 ≤ x ∧ x ≤ 5 := by
  unfold in16 at h
  simpa using h
theorem okN_rng {n : Int} (h : okN n = true) : 0 ≤ n ∧ n ≤ 6 := by
  unfold okN at h
  simpa using h

/-! ### Numbers -/
theorem f36_spec : f36_wp (fun r' => r' = twoRet 1 0) := rfl
theorem cx36_ok : CtxOk Try.prog cx36.q.ctx := ctx_nil
theorem sum36_ok : ∀ vs r, sum36 vs = some (true, r) → SoundAt Try.prog 36 vs r := by
  intro vs r h
  unfold sum36 at h
  split at h
  · simp only [Option.some.injEq, Prod.mk.injEq, true_and] at h
    subst h
    exact f36_sound cx36_ok f36_spec
  · cases h
theorem f49_spec : f49_wp (fun r' => r' = twoRet (-2147483648) 2147483647) := rfl
theorem cx49_ok : CtxOk Try.prog cx49.q.ctx := ctx_nil
theorem sum49_ok : ∀ vs r, sum49 vs = some (true, r) → SoundAt Try.prog 49 vs r := by
  intro vs r h
  unfold sum49 at h
  split at h
  · simp only [Option.some.injEq, Prod.mk.injEq, true_and] at h
    subst h
    exact f49_sound cx49_ok f49_spec
  · cases h
theorem f44_spec (a b : Int) : f44_wp a b (fun r' => r' = boRet (emptyP a b)) := rfl
theorem cx44_ok : CtxOk Try.prog cx44.q.ctx := ctx_nil
theorem sum44_ok : ∀ vs r, sum44 vs = some (true, r) → SoundAt Try.prog 44 vs r := by
  intro vs r h
  unfold sum44 at h
  split at h
  · simp only [Option.some.injEq, Prod.mk.injEq, Bool.and_eq_true] at h
    obtain ⟨h0, rfl⟩ := h
    obtain ⟨x0, y0, rfl⟩ := pair_elim h0
    (try simp only [zO_ic])
    exact f44_sound _ _ cx44_ok (f44_spec x0 y0)
  · cases h
theorem f97_spec (a b : Int) : f97_wp a b (fun r' => r' = itRet (normP a b)) := by
  unfold f97_wp
  refine cond_i (fun q => ?_) (fun q => ?_)
  · unfold emptyP at q
    rw [normP, if_pos (of_decide_eq_true q)]; rfl
  · unfold emptyP at q
    rw [normP, if_neg (of_decide_eq_false q)]; rfl
theorem cx97_ok : CtxOk Try.prog cx97.q.ctx := (ctx_cons (g := 44) (ctx_cons (g := 36) ctx_nil (by kernel_rfl) sum36_ok) (by kernel_rfl) sum44_ok)
theorem sum97_ok : ∀ vs r, sum97 vs = some (true, r) → SoundAt Try.prog 97 vs r := by
  intro vs r h
  unfold sum97 at h
  split at h
  · simp only [Option.some.injEq, Prod.mk.injEq, Bool.and_eq_true] at h
    obtain ⟨h0, rfl⟩ := h
    obtain ⟨x0, y0, rfl⟩ := pair_elim h0
    (try simp only [zO_ic])
    exact f97_sound _ _ cx97_ok (f97_spec x0 y0)
  · cases h
theorem f53_spec (a b : Int) : f53_wp a b (fun r' => r' = itRet (ofP a b)) := by
  unfold f53_wp
  simp only [min_if, max_if]; rfl
theorem cx53_ok : CtxOk Try.prog cx53.q.ctx := (ctx_cons (g := 97) ctx_nil (by kernel_rfl) sum97_ok)
theorem sum53_ok : ∀ vs r, sum53 vs = some (true, r) → SoundAt Try.prog 53 vs r := by
  intro vs r h
  unfold sum53 at h
  split at h
  · simp only [Option.some.injEq, Prod.mk.injEq, Bool.and_eq_true] at h
    obtain ⟨⟨h0, h1⟩, rfl⟩ := h
    obtain ⟨x0, rfl⟩ := int_elim h0
    obtain ⟨x1, rfl⟩ := int_elim h1
    (try simp only [zO_ic])
    exact f53_sound _ _ cx53_ok (f53_spec x0 x1)
  · cases h
theorem f30_spec (a : Int) : f30_wp a (fun r' => r' = itRet (ofP a a)) := rfl
theorem cx30_ok : CtxOk Try.prog cx30.q.ctx := (ctx_cons (g := 53) ctx_nil (by kernel_rfl) sum53_ok)
theorem sum30_ok : ∀ vs r, sum30 vs = some (true, r) → SoundAt Try.prog 30 vs r := by
  intro vs r h
  unfold sum30 at h
  split at h
  · simp only [Option.some.injEq, Prod.mk.injEq, Bool.and_eq_true] at h
    obtain ⟨h0, rfl⟩ := h
    obtain ⟨x0, rfl⟩ := int_elim h0
    (try simp only [zO_ic])
    exact f30_sound _ cx30_ok (f30_spec x0)
  · cases h
theorem f101_spec (a b : Int) : f101_wp a b (fun r' => r' = inRet (max a b)) := by
  unfold f101_wp
  simp only [min_if, max_if]
  show _ = inRet _
  rw [Int.max_comm]; rfl
theorem cx101_ok : CtxOk Try.prog cx101.q.ctx := ctx_nil
theorem sum101_ok : ∀ vs r, sum101 vs = some (true, r) → SoundAt Try.prog 101 vs r := by
  intro vs r h
  unfold sum101 at h
  split at h
  · simp only [Option.some.injEq, Prod.mk.injEq, Bool.and_eq_true] at h
    obtain ⟨⟨h0, h1⟩, rfl⟩ := h
    obtain ⟨x0, rfl⟩ := int_elim h0
    obtain ⟨x1, rfl⟩ := int_elim h1
    (try simp only [zO_ic])
    exact f101_sound _ _ cx101_ok (f101_spec x0 x1)
  · cases h
theorem f102_spec (a b : Int) : f102_wp a b (fun r' => r' = inRet (keptP a b)) := by
  unfold f102_wp keptP
  refine cond_i (fun q => ?_) (fun q => ?_)
  · rw [if_pos (of_decide_eq_true q)]; rfl
  · rw [if_neg (of_decide_eq_false q)]; rfl
theorem cx102_ok : CtxOk Try.prog cx102.q.ctx := ctx_nil
theorem sum102_ok : ∀ vs r, sum102 vs = some (true, r) → SoundAt Try.prog 102 vs r := by
  intro vs r h
  unfold sum102 at h
  split at h
  · simp only [Option.some.injEq, Prod.mk.injEq, Bool.and_eq_true] at h
    obtain ⟨⟨h0, h1⟩, rfl⟩ := h
    obtain ⟨x0, rfl⟩ := int_elim h0
    obtain ⟨x1, rfl⟩ := int_elim h1
    (try simp only [zO_ic])
    exact f102_sound _ _ cx102_ok (f102_spec x0 x1)
  · cases h
theorem f96_spec (n : Int) (b : Bool) (D : List Int) (hl : D.length = 49) (n2 : Int) (b2 : Bool) (D2 : List Int) (hl2 : D2.length = 49) : f96_wp n b (ic .i64 D) n2 b2 (ic .i64 D2) (fun r' => r' = boRet (alikeZ (n, b, D) (n2, b2, D2))) := by
  unfold f96_wp alikeZ
  refine cond_i (fun q => ?_) (fun q => ?_)
  · have q : n = n2 := by simpa using q
    simp [q, boRet]
  · have q : ¬ n = n2 := by simpa using q
    simp [q, boRet]
theorem cx96_ok : CtxOk Try.prog cx96.q.ctx := (ctx_cons (g := 91) ctx_nil (by kernel_rfl) sum91_ok)
theorem sum96_ok : ∀ vs r, sum96 vs = some (true, r) → SoundAt Try.prog 96 vs r := by
  intro vs r h
  unfold sum96 at h
  split at h
  · simp only [Option.some.injEq, Prod.mk.injEq, Bool.and_eq_true] at h
    obtain ⟨⟨h0, h1⟩, rfl⟩ := h
    obtain ⟨n0, b0, D0, hl0, hc0, rfl⟩ := zone_elim h0
    obtain ⟨n1, b1, D1, hl1, hc1, rfl⟩ := zone_elim h1
    (try simp only [zO_ic])
    exact f96_sound _ _ _ _ _ _ cx96_ok (f96_spec n0 b0 D0 hl0 n1 b1 D1 hl1)
  · cases h
theorem f32_spec (n : Int) : f32_wp n (fun r' => r' = zRe (zerosZ n)) := by
  unfold f32_wp zerosZ
  simp only [min_if, max_if]; rfl
theorem cx32_ok : CtxOk Try.prog cx32.q.ctx := ctx_nil
theorem sum32_ok : ∀ vs r, sum32 vs = some (true, r) → SoundAt Try.prog 32 vs r := by
  intro vs r h
  unfold sum32 at h
  split at h
  · simp only [Option.some.injEq, Prod.mk.injEq, Bool.and_eq_true] at h
    obtain ⟨h0, rfl⟩ := h
    obtain ⟨x0, rfl⟩ := int_elim h0
    (try simp only [zO_ic])
    exact f32_sound _ cx32_ok (f32_spec x0)
  · cases h

/-! ### Calls that close -/
theorem f26_spec (n : Int) (b : Bool) (D : List Int) (hl : D.length = 49) (x y c : Int) : f26_wp n b (ic .i64 D) x y c (fun r' => r' = zRe (boundZ (n, b, D) x y c)) := by
  unfold f26_wp boundZ
  (try delta X26_1)
  (try delta X26_0)
  (repeat ((first | with_reducible apply ck_i | with_reducible apply And.intro); · (first | (simp only [closeZ_len, closeR_len, forT_len, movT_len, ownT_len, min_if, max_if, ics]; done) | with_reducible rfl | ((try simp only [closeZ_len, closeR_len, forT_len, movT_len, ownT_len, min_if, max_if, ics]); simp [closeZ_len, closeR_len, forT_len, movT_len, ownT_len, min_if, max_if, ics, *]; done) | ((try simp only [closeZ_len, closeR_len, forT_len, movT_len, ownT_len, min_if, max_if, ics]); simp [closeZ_len, closeR_len, forT_len, movT_len, ownT_len, min_if, max_if, ics, *]; omega))))
  refine cond_i (fun q => ?_) (fun q => ?_)
  · have q : norP n b x = false := by simpa using q
    simp only [q]
    (repeat ((first | with_reducible apply ck_i | with_reducible apply And.intro); · (first | (simp only [closeZ_len, closeR_len, forT_len, movT_len, ownT_len, min_if, max_if, ics]; done) | with_reducible rfl | ((try simp only [closeZ_len, closeR_len, forT_len, movT_len, ownT_len, min_if, max_if, ics]); simp [closeZ_len, closeR_len, forT_len, movT_len, ownT_len, min_if, max_if, ics, *]; done) | ((try simp only [closeZ_len, closeR_len, forT_len, movT_len, ownT_len, min_if, max_if, ics]); simp [closeZ_len, closeR_len, forT_len, movT_len, ownT_len, min_if, max_if, ics, *]; omega)))); rfl
  · have q : norP n b x = true := by simpa using q
    refine cond_i (fun q2 => ?_) (fun q2 => ?_)
    · have q2 : norP n b y = false := by simpa using q2
      simp only [q, q2]
      (repeat ((first | with_reducible apply ck_i | with_reducible apply And.intro); · (first | (simp only [closeZ_len, closeR_len, forT_len, movT_len, ownT_len, min_if, max_if, ics]; done) | with_reducible rfl | ((try simp only [closeZ_len, closeR_len, forT_len, movT_len, ownT_len, min_if, max_if, ics]); simp [closeZ_len, closeR_len, forT_len, movT_len, ownT_len, min_if, max_if, ics, *]; done) | ((try simp only [closeZ_len, closeR_len, forT_len, movT_len, ownT_len, min_if, max_if, ics]); simp [closeZ_len, closeR_len, forT_len, movT_len, ownT_len, min_if, max_if, ics, *]; omega)))); rfl
    · have q2 : norP n b y = true := by simpa using q2
      have r1 := nor_rng q
      have r2 := nor_rng q2
      simp only [q, q2]
      simp only [closeZ_len, closeR_len, forT_len, movT_len, ownT_len, min_if, max_if, ics, wr1 (show -1000 ≤ x by omega) (show x ≤ 1000 by omega), wr1 (show -1000 ≤ y by omega) (show y ≤ 1000 by omega)]
      (repeat ((first | with_reducible apply ck_i | with_reducible apply And.intro); · (first | (simp only [closeZ_len, closeR_len, forT_len, movT_len, ownT_len, min_if, max_if, ics]; done) | with_reducible rfl | ((try simp only [closeZ_len, closeR_len, forT_len, movT_len, ownT_len, min_if, max_if, ics]); simp [closeZ_len, closeR_len, forT_len, movT_len, ownT_len, min_if, max_if, ics, *]; done) | ((try simp only [closeZ_len, closeR_len, forT_len, movT_len, ownT_len, min_if, max_if, ics]); simp [closeZ_len, closeR_len, forT_len, movT_len, ownT_len, min_if, max_if, ics, *]; omega)))); rfl
theorem cx26_ok : CtxOk Try.prog cx26.q.ctx := (ctx_cons (g := 84) (ctx_cons (g := 83) ctx_nil (by kernel_rfl) sum83_ok) (by kernel_rfl) sum84_ok)
theorem sum26_ok : ∀ vs r, sum26 vs = some (true, r) → SoundAt Try.prog 26 vs r := by
  intro vs r h
  unfold sum26 at h
  split at h
  · simp only [Option.some.injEq, Prod.mk.injEq, Bool.and_eq_true] at h
    obtain ⟨⟨⟨⟨h0, h1⟩, h2⟩, h3⟩, rfl⟩ := h
    obtain ⟨n0, b0, D0, hl0, hc0, rfl⟩ := zone_elim h0
    obtain ⟨x1, rfl⟩ := int_elim h1
    obtain ⟨x2, rfl⟩ := int_elim h2
    obtain ⟨x3, rfl⟩ := int_elim h3
    (try simp only [zO_ic])
    exact f26_sound _ _ _ _ _ _ cx26_ok (f26_spec n0 b0 D0 hl0 x1 x2 x3)
  · cases h

theorem f37_spec (n : Int) (b : Bool) (D : List Int) (hl : D.length = 49) (x : Int) : f37_wp n b (ic .i64 D) x (fun r' => r' = zRe (forgetZ (n, b, D) x)) := by
  unfold f37_wp forgetZ
  (try delta X37_1)
  (try delta X37_0)
  (repeat ((first | with_reducible apply ck_i | with_reducible apply And.intro); · (first | (simp only [closeZ_len, closeR_len, forT_len, movT_len, ownT_len, min_if, max_if, ics]; done) | with_reducible rfl | ((try simp only [closeZ_len, closeR_len, forT_len, movT_len, ownT_len, min_if, max_if, ics]); simp [closeZ_len, closeR_len, forT_len, movT_len, ownT_len, min_if, max_if, ics, *]; done) | ((try simp only [closeZ_len, closeR_len, forT_len, movT_len, ownT_len, min_if, max_if, ics]); simp [closeZ_len, closeR_len, forT_len, movT_len, ownT_len, min_if, max_if, ics, *]; omega))))
  refine cond_i (fun q => ?_) (fun q => ?_)
  · have q : varP n b x = false := by simpa using q
    simp only [q]
    (repeat ((first | with_reducible apply ck_i | with_reducible apply And.intro); · (first | (simp only [closeZ_len, closeR_len, forT_len, movT_len, ownT_len, min_if, max_if, ics]; done) | with_reducible rfl | ((try simp only [closeZ_len, closeR_len, forT_len, movT_len, ownT_len, min_if, max_if, ics]); simp [closeZ_len, closeR_len, forT_len, movT_len, ownT_len, min_if, max_if, ics, *]; done) | ((try simp only [closeZ_len, closeR_len, forT_len, movT_len, ownT_len, min_if, max_if, ics]); simp [closeZ_len, closeR_len, forT_len, movT_len, ownT_len, min_if, max_if, ics, *]; omega)))); rfl
  · have q : varP n b x = true := by simpa using q
    obtain ⟨r1, r2, r3, r4⟩ := var_rng q
    simp only [q]
    simp only [closeZ_len, closeR_len, forT_len, movT_len, ownT_len, min_if, max_if, ics, wr1 (show -1000 ≤ x by omega) (show x ≤ 1000 by omega)]
    (repeat ((first | with_reducible apply ck_i | with_reducible apply And.intro); · (first | (simp only [closeZ_len, closeR_len, forT_len, movT_len, ownT_len, min_if, max_if, ics]; done) | with_reducible rfl | ((try simp only [closeZ_len, closeR_len, forT_len, movT_len, ownT_len, min_if, max_if, ics]); simp [closeZ_len, closeR_len, forT_len, movT_len, ownT_len, min_if, max_if, ics, *]; done) | ((try simp only [closeZ_len, closeR_len, forT_len, movT_len, ownT_len, min_if, max_if, ics]); simp [closeZ_len, closeR_len, forT_len, movT_len, ownT_len, min_if, max_if, ics, *]; omega)))); rfl
theorem cx37_ok : CtxOk Try.prog cx37.q.ctx := (ctx_cons (g := 85) (ctx_cons (g := 83) (ctx_pcons (g := 87) ctx_nil (by kernel_rfl) psum87_ok) (by kernel_rfl) sum83_ok) (by kernel_rfl) sum85_ok)
theorem sum37_ok : ∀ vs r, sum37 vs = some (true, r) → SoundAt Try.prog 37 vs r := by
  intro vs r h
  unfold sum37 at h
  split at h
  · simp only [Option.some.injEq, Prod.mk.injEq, Bool.and_eq_true] at h
    obtain ⟨⟨h0, h1⟩, rfl⟩ := h
    obtain ⟨n0, b0, D0, hl0, hc0, rfl⟩ := zone_elim h0
    obtain ⟨x1, rfl⟩ := int_elim h1
    (try simp only [zO_ic])
    exact f37_sound _ _ _ _ cx37_ok (f37_spec n0 b0 D0 hl0 x1)
  · cases h

theorem f86_spec (n : Int) (b : Bool) (D : List Int) (hl : D.length = 49) (x c : Int) (hn : okN n = true) (h0 : decide (0 ≤ x) = true) (h6 : decide (x ≤ 6) = true) : f86_wp n b (ic .i64 D) x c (fun r' => r' = zRe (movZ (n, b, D) x c)) := by
  have hn := okN_rng hn
  have h0 := of_decide_eq_true h0
  have h6 := of_decide_eq_true h6
  unfold f86_wp
  (try delta X86_2)
  (try delta X86_1)
  (try delta X86_0)
  (repeat ((first | with_reducible apply ck_i | with_reducible apply And.intro); · (first | (simp only [closeZ_len, closeR_len, forT_len, movT_len, ownT_len, min_if, max_if, ics]; done) | with_reducible rfl | ((try simp only [closeZ_len, closeR_len, forT_len, movT_len, ownT_len, min_if, max_if, ics]); simp [closeZ_len, closeR_len, forT_len, movT_len, ownT_len, min_if, max_if, ics, *]; done) | ((try simp only [closeZ_len, closeR_len, forT_len, movT_len, ownT_len, min_if, max_if, ics]); simp [closeZ_len, closeR_len, forT_len, movT_len, ownT_len, min_if, max_if, ics, *]; omega))))
  refine LoopP.ind (I := fun z => 0 ≤ z.1 ∧ z.1 ≤ n + 1 ∧ z.2 = ic .i64 (movT x.toNat c z.1.toNat D)) (μ := fun z => (n + 1 - z.1).toNat) ?_ ⟨by dsimp only; omega, by dsimp only; omega, rfl⟩
  rintro ⟨i, cs⟩ k0 ⟨i1, i2, i3⟩ hk
  dsimp only at i1 i2 i3 ⊢
  subst i3
  have lE : (movT x.toNat c i.toNat D).length = 49 := by rw [movT_len]; exact hl
  refine cond_i (fun q => ?_) (fun q => ?_)
  · have q := of_decide_eq_true q
    have hk' := hk (i + 1, ic .i64 (movT x.toNat c (i + 1).toNat D)) ⟨by dsimp only; omega, by dsimp only; omega, rfl⟩ (by dsimp only; omega)
    rw [show (i + 1).toNat = i.toNat + 1 by omega, movT] at hk'
    clear hk
    refine cond_i (fun q2 => ?_) (fun q2 => ?_)
    · have q2 : ¬ i = x := by simpa using q2
      rw [if_neg (by omega)] at hk'
      generalize movT x.toNat c i.toNat D = E at *
      simp only [closeZ_len, closeR_len, forT_len, movT_len, ownT_len, min_if, max_if, ics, wr1 (show -1000 ≤ i by omega) (show i ≤ 1000 by omega)]
      (repeat ((first | with_reducible apply ck_i | with_reducible apply And.intro); · (first | (simp only [closeZ_len, closeR_len, forT_len, movT_len, ownT_len, min_if, max_if, ics]; done) | with_reducible rfl | ((try simp only [closeZ_len, closeR_len, forT_len, movT_len, ownT_len, min_if, max_if, ics]); simp [closeZ_len, closeR_len, forT_len, movT_len, ownT_len, min_if, max_if, ics, *]; done) | ((try simp only [closeZ_len, closeR_len, forT_len, movT_len, ownT_len, min_if, max_if, ics]); simp [closeZ_len, closeR_len, forT_len, movT_len, ownT_len, min_if, max_if, ics, *]; omega))))
      simp only [IntWalk.i64_left]
      exact hk'
    · have q2 : i = x := by simpa using q2
      rw [if_pos (by omega)] at hk'
      simp only [wr1 (show -1000 ≤ i by omega) (show i ≤ 1000 by omega)]
      (repeat ((first | with_reducible apply ck_i | with_reducible apply And.intro); · (first | (simp only [closeZ_len, closeR_len, forT_len, movT_len, ownT_len, min_if, max_if, ics]; done) | with_reducible rfl | ((try simp only [closeZ_len, closeR_len, forT_len, movT_len, ownT_len, min_if, max_if, ics]); simp [closeZ_len, closeR_len, forT_len, movT_len, ownT_len, min_if, max_if, ics, *]; done) | ((try simp only [closeZ_len, closeR_len, forT_len, movT_len, ownT_len, min_if, max_if, ics]); simp [closeZ_len, closeR_len, forT_len, movT_len, ownT_len, min_if, max_if, ics, *]; omega))))
      exact hk'
  · have q := of_decide_eq_false q
    have e : i.toNat = n.toNat + 1 := by omega
    rw [e] at lE ⊢
    have e2 : zRe (movZ (n, b, D) x c) = zRe (closeZ (n, b, movT x.toNat c (n.toNat + 1) D)) := rfl
    rw [e2]
    generalize movT x.toNat c (n.toNat + 1) D = E at *
    (repeat ((first | with_reducible apply ck_i | with_reducible apply And.intro); · (first | (simp only [closeZ_len, closeR_len, forT_len, movT_len, ownT_len, min_if, max_if, ics]; done) | with_reducible rfl | ((try simp only [closeZ_len, closeR_len, forT_len, movT_len, ownT_len, min_if, max_if, ics]); simp [closeZ_len, closeR_len, forT_len, movT_len, ownT_len, min_if, max_if, ics, *]; done) | ((try simp only [closeZ_len, closeR_len, forT_len, movT_len, ownT_len, min_if, max_if, ics]); simp [closeZ_len, closeR_len, forT_len, movT_len, ownT_len, min_if, max_if, ics, *]; omega))))
    simp only [closeZ_len, closeR_len, forT_len, movT_len, ownT_len, min_if, max_if, ics]; rfl
theorem cx86_ok : CtxOk Try.prog cx86.q.ctx := (ctx_cons (g := 83) ctx_nil (by kernel_rfl) sum83_ok)
theorem sum86_ok : ∀ vs r, sum86 vs = some (true, r) → SoundAt Try.prog 86 vs r := by
  intro vs r h
  unfold sum86 at h
  split at h
  · simp only [Option.some.injEq, Prod.mk.injEq, Bool.and_eq_true] at h
    obtain ⟨⟨⟨⟨⟨⟨h0, h1⟩, h2⟩, h3⟩, h4⟩, h5⟩, rfl⟩ := h
    obtain ⟨n0, b0, D0, hl0, hc0, rfl⟩ := zone_elim h0
    obtain ⟨x2, rfl⟩ := int_elim h2
    obtain ⟨x3, rfl⟩ := int_elim h3
    (try simp only [zO_ic] at h1)
    (try simp only [zO_ic] at h4)
    (try simp only [zO_ic] at h5)
    (try simp only [zO_ic])
    exact f86_sound _ _ _ _ _ cx86_ok (f86_spec n0 b0 D0 hl0 x2 x3 h1 h4 h5)
  · cases h

theorem f29_spec (n : Int) (b : Bool) (D : List Int) (hl : D.length = 49) (x : Int) : f29_wp n b (ic .i64 D) x (fun r' => r' = itRet (itvZ (n, b, D) x)) := by
  unfold f29_wp itvZ
  (try delta X29_0)
  (repeat ((first | with_reducible apply ck_i | with_reducible apply And.intro); · (first | (simp only [closeZ_len, closeR_len, forT_len, movT_len, ownT_len, min_if, max_if, ics]; done) | with_reducible rfl | ((try simp only [closeZ_len, closeR_len, forT_len, movT_len, ownT_len, min_if, max_if, ics]); simp [closeZ_len, closeR_len, forT_len, movT_len, ownT_len, min_if, max_if, ics, *]; done) | ((try simp only [closeZ_len, closeR_len, forT_len, movT_len, ownT_len, min_if, max_if, ics]); simp [closeZ_len, closeR_len, forT_len, movT_len, ownT_len, min_if, max_if, ics, *]; omega))))
  refine cond_i (fun q => ?_) (fun q => ?_)
  · have q : varP n b x = false := by simpa using q
    simp only [q]; rfl
  · have q : varP n b x = true := by simpa using q
    obtain ⟨r1, r2, r3, r4⟩ := var_rng q
    simp only [q]
    simp only [closeZ_len, closeR_len, forT_len, movT_len, ownT_len, min_if, max_if, ics, wr1 (show -1000 ≤ x by omega) (show x ≤ 1000 by omega)]
    (repeat ((first | with_reducible apply ck_i | with_reducible apply And.intro); · (first | (simp only [closeZ_len, closeR_len, forT_len, movT_len, ownT_len, min_if, max_if, ics]; done) | with_reducible rfl | ((try simp only [closeZ_len, closeR_len, forT_len, movT_len, ownT_len, min_if, max_if, ics]); simp [closeZ_len, closeR_len, forT_len, movT_len, ownT_len, min_if, max_if, ics, *]; done) | ((try simp only [closeZ_len, closeR_len, forT_len, movT_len, ownT_len, min_if, max_if, ics]); simp [closeZ_len, closeR_len, forT_len, movT_len, ownT_len, min_if, max_if, ics, *]; omega))))
    simp only [IntWalk.i64_left, Int.zero_sub]; rfl
theorem cx29_ok : CtxOk Try.prog cx29.q.ctx := (ctx_cons (g := 85) (ctx_cons (g := 36) (ctx_cons (g := 53) ctx_nil (by kernel_rfl) sum53_ok) (by kernel_rfl) sum36_ok) (by kernel_rfl) sum85_ok)
theorem sum29_ok : ∀ vs r, sum29 vs = some (true, r) → SoundAt Try.prog 29 vs r := by
  intro vs r h
  unfold sum29 at h
  split at h
  · simp only [Option.some.injEq, Prod.mk.injEq, Bool.and_eq_true] at h
    obtain ⟨⟨h0, h1⟩, rfl⟩ := h
    obtain ⟨n0, b0, D0, hl0, hc0, rfl⟩ := zone_elim h0
    obtain ⟨x1, rfl⟩ := int_elim h1
    (try simp only [zO_ic])
    exact f29_sound _ _ _ _ cx29_ok (f29_spec n0 b0 D0 hl0 x1)
  · cases h

theorem f92_spec (n : Nat) (l : List Int) (hl : l.length = n * 1) (i : Int) (h0 : decide (0 ≤ i) = true) (h1 : decide (i ≤ (n : Int)) = true) (h2 : decide (i ≤ 6) = true) : f92_wp n (ic .i64 l) i (fun r' => r' = inRet (atP l i)) := by
  have h0 := of_decide_eq_true h0
  have h1 := of_decide_eq_true h1
  have h2 := of_decide_eq_true h2
  rw [Nat.mul_one] at hl
  unfold f92_wp atP
  simp only [Nat.mul_one]
  refine cond_i (fun q => ?_) (fun q => ?_)
  · have q : i = 0 := by simpa using q
    rw [if_pos q]; rfl
  · have q : ¬ i = 0 := by simpa using q
    rw [if_neg q]
    rw [i64_id (show -9223372036854775808 ≤ i - 1 by omega) (show i - 1 ≤ 9223372036854775807 by omega)]
    have hj : (i - 1).toNat < l.length := by omega
    rw [ic_get hj]
    refine ck_i (by simp [ic_len]; omega) (ck_i (by simp [ic_len, okK, isInt]; omega) ?_)
    rfl
theorem cx92_ok : CtxOk Try.prog cx92.q.ctx := ctx_nil
theorem sum92_ok : ∀ vs r, sum92 vs = some (true, r) → SoundAt Try.prog 92 vs r := by
  intro vs r h
  unfold sum92 at h
  split at h
  · simp only [Option.some.injEq, Prod.mk.injEq, Bool.and_eq_true] at h
    obtain ⟨⟨⟨⟨⟨h0, h1⟩, h2⟩, h3⟩, h4⟩, rfl⟩ := h
    obtain ⟨n0, l0, hl0, en0, el0, tr0⟩ := row_elimG (g := 92) h0
    obtain ⟨x1, rfl⟩ := int_elim h1
    (try simp only [en0, el0] at h2)
    (try simp only [en0, el0] at h3)
    (try simp only [en0, el0] at h4)
    (try simp only [en0, el0])
    (try simp only [zO_ic] at h2)
    (try simp only [zO_ic] at h3)
    (try simp only [zO_ic] at h4)
    (try simp only [zO_ic])
    refine tr0 [] [_] _ ?_
    exact f92_sound _ _ _ cx92_ok (f92_spec n0 l0 hl0 x1 h2 h3 h4)
  · cases h

end Go.Proofs.Ytgmciihlmgeecaa.Fn
