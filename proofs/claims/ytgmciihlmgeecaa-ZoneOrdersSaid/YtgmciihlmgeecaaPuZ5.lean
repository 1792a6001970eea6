import Derived.Test.YtgmciihlmgeecaaPuZ4
import Derived.Test.YtgmciihlmgeecaaWZ3
/- Functions of zones, on: copies, has, within, join. Conditions: those that each lemma names. -/
namespace Go.Proofs.Ytgmciihlmgeecaa.Fn
open Go Go.RowKit Go.Proofs.Ytgmciihlmgeecaa.Mt Go.Proofs.Ytgmciihlmgeecaa.Zm
set_option linter.unusedVariables false
set_option linter.unusedSimpArgs false

theorem closeZ_fst {z : Zo} : (closeZ z).1 = z.1 := by
  unfold closeZ
  split
  · rfl
  · split <;> rfl
theorem closeR_fst {z : Zo} : (closeR z).1 = z.1 := by
  unfold closeR
  split
  · rfl
  · split <;> rfl
theorem forgetR_fst {z : Zo} {x : Int} : (forgetR z x).1 = z.1 := by
  unfold forgetR
  split
  · rfl
  · exact closeR_fst
theorem clamp_if (c : Int) : min (max c (-1099511627776)) 1099511627776 = clampB c := rfl

theorem f27_spec (n : Int) (b : Bool) (D : List Int) (hl : D.length = 49) (x y c : Int) : f27_wp n b (ic .i64 D) x y c (fun r' => r' = zRe (copyZ (n, b, D) x y c)) := by
  unfold f27_wp copyZ
  (try delta X27_1)
  (try delta X27_0)
  (try delta X27_4)
  (try delta X27_3)
  (try delta X27_2)
  (repeat ((first | with_reducible apply ck_i | with_reducible apply And.intro); · (first | (simp only [closeZ_len, closeR_len, forT_len, movT_len, ownT_len, min_if, max_if, mkD_len, movZ_len, forgetR_len, closeZ_fst, closeR_fst, forgetR_fst, ics]; done) | with_reducible rfl | ((try simp only [closeZ_len, closeR_len, forT_len, movT_len, ownT_len, min_if, max_if, mkD_len, movZ_len, forgetR_len, closeZ_fst, closeR_fst, forgetR_fst, ics]); simp [closeZ_len, closeR_len, forT_len, movT_len, ownT_len, min_if, max_if, mkD_len, movZ_len, forgetR_len, closeZ_fst, closeR_fst, forgetR_fst, ics, *]; done) | ((try simp only [closeZ_len, closeR_len, forT_len, movT_len, ownT_len, min_if, max_if, mkD_len, movZ_len, forgetR_len, closeZ_fst, closeR_fst, forgetR_fst, ics]); simp [closeZ_len, closeR_len, forT_len, movT_len, ownT_len, min_if, max_if, mkD_len, movZ_len, forgetR_len, closeZ_fst, closeR_fst, forgetR_fst, ics, *]; omega))))
  refine cond_i (fun q => ?_) (fun q => ?_)
  · have q : varP n b x = false := by simpa using q
    simp only [q]
    (repeat ((first | with_reducible apply ck_i | with_reducible apply And.intro); · (first | (simp only [closeZ_len, closeR_len, forT_len, movT_len, ownT_len, min_if, max_if, mkD_len, movZ_len, forgetR_len, closeZ_fst, closeR_fst, forgetR_fst, ics]; done) | with_reducible rfl | ((try simp only [closeZ_len, closeR_len, forT_len, movT_len, ownT_len, min_if, max_if, mkD_len, movZ_len, forgetR_len, closeZ_fst, closeR_fst, forgetR_fst, ics]); simp [closeZ_len, closeR_len, forT_len, movT_len, ownT_len, min_if, max_if, mkD_len, movZ_len, forgetR_len, closeZ_fst, closeR_fst, forgetR_fst, ics, *]; done) | ((try simp only [closeZ_len, closeR_len, forT_len, movT_len, ownT_len, min_if, max_if, mkD_len, movZ_len, forgetR_len, closeZ_fst, closeR_fst, forgetR_fst, ics]); simp [closeZ_len, closeR_len, forT_len, movT_len, ownT_len, min_if, max_if, mkD_len, movZ_len, forgetR_len, closeZ_fst, closeR_fst, forgetR_fst, ics, *]; omega)))); (first | rfl | (unfold zRe zRet; (try unfold setZ); simp only [closeZ_fst, closeR_fst, forgetR_fst]))
  · have q : varP n b x = true := by simpa using q
    refine cond_i (fun q2 => ?_) (fun q2 => ?_)
    · have q2 : norP n b y = false := by simpa using q2
      simp only [q, q2]
      (repeat ((first | with_reducible apply ck_i | with_reducible apply And.intro); · (first | (simp only [closeZ_len, closeR_len, forT_len, movT_len, ownT_len, min_if, max_if, mkD_len, movZ_len, forgetR_len, closeZ_fst, closeR_fst, forgetR_fst, ics]; done) | with_reducible rfl | ((try simp only [closeZ_len, closeR_len, forT_len, movT_len, ownT_len, min_if, max_if, mkD_len, movZ_len, forgetR_len, closeZ_fst, closeR_fst, forgetR_fst, ics]); simp [closeZ_len, closeR_len, forT_len, movT_len, ownT_len, min_if, max_if, mkD_len, movZ_len, forgetR_len, closeZ_fst, closeR_fst, forgetR_fst, ics, *]; done) | ((try simp only [closeZ_len, closeR_len, forT_len, movT_len, ownT_len, min_if, max_if, mkD_len, movZ_len, forgetR_len, closeZ_fst, closeR_fst, forgetR_fst, ics]); simp [closeZ_len, closeR_len, forT_len, movT_len, ownT_len, min_if, max_if, mkD_len, movZ_len, forgetR_len, closeZ_fst, closeR_fst, forgetR_fst, ics, *]; omega)))); (first | rfl | (unfold zRe zRet; (try unfold setZ); simp only [closeZ_fst, closeR_fst, forgetR_fst]))
    · have q2 : norP n b y = true := by simpa using q2
      obtain ⟨r1, r2, r3, r4⟩ := var_rng q
      have r5 := nor_rng q2
      simp only [q, q2]
      simp only [wr1 (show -1000 ≤ x by omega) (show x ≤ 1000 by omega), wr1 (show -1000 ≤ y by omega) (show y ≤ 1000 by omega), min_if, max_if, clamp_if]
      refine cond_i (fun q3 => ?_) (fun q3 => ?_)
      · have q3 : x = y := by simpa using q3
        rw [if_pos (by rfl), if_pos q3]
        simp only [closeZ_len, closeR_len, forT_len, movT_len, ownT_len, min_if, max_if, mkD_len, movZ_len, forgetR_len, closeZ_fst, closeR_fst, forgetR_fst, ics]
        (repeat ((first | with_reducible apply ck_i | with_reducible apply And.intro); · (first | (simp only [closeZ_len, closeR_len, forT_len, movT_len, ownT_len, min_if, max_if, mkD_len, movZ_len, forgetR_len, closeZ_fst, closeR_fst, forgetR_fst, ics]; done) | with_reducible rfl | ((try simp only [closeZ_len, closeR_len, forT_len, movT_len, ownT_len, min_if, max_if, mkD_len, movZ_len, forgetR_len, closeZ_fst, closeR_fst, forgetR_fst, ics]); simp [closeZ_len, closeR_len, forT_len, movT_len, ownT_len, min_if, max_if, mkD_len, movZ_len, forgetR_len, closeZ_fst, closeR_fst, forgetR_fst, ics, *]; done) | ((try simp only [closeZ_len, closeR_len, forT_len, movT_len, ownT_len, min_if, max_if, mkD_len, movZ_len, forgetR_len, closeZ_fst, closeR_fst, forgetR_fst, ics]); simp [closeZ_len, closeR_len, forT_len, movT_len, ownT_len, min_if, max_if, mkD_len, movZ_len, forgetR_len, closeZ_fst, closeR_fst, forgetR_fst, ics, *]; omega)))); (first | rfl | (unfold zRe zRet; (try unfold setZ); simp only [closeZ_fst, closeR_fst, forgetR_fst]))
      · have q3 : ¬ x = y := by simpa using q3
        rw [if_pos (by rfl), if_neg q3]
        have e : forgetZ (n, b, D) x = closeZ (n, b, forT (x + 1).toNat (n.toNat + 1) D) := by unfold forgetZ; rw [q]; rfl
        rw [e]
        have lE : (forT (x + 1).toNat (n.toNat + 1) D).length = 49 := by rw [forT_len]; exact hl
        simp only [closeZ_len, closeR_len, forT_len, movT_len, ownT_len, min_if, max_if, mkD_len, movZ_len, forgetR_len, closeZ_fst, closeR_fst, forgetR_fst, ics, IntWalk.i64_left, Int.zero_sub]
        have lF := closeZ_len (n := n) (b := b) lE
        (repeat ((first | with_reducible apply ck_i | with_reducible apply And.intro); · (first | (simp only [closeZ_len, closeR_len, forT_len, movT_len, ownT_len, min_if, max_if, mkD_len, movZ_len, forgetR_len, closeZ_fst, closeR_fst, forgetR_fst, ics]; done) | with_reducible rfl | ((try simp only [closeZ_len, closeR_len, forT_len, movT_len, ownT_len, min_if, max_if, mkD_len, movZ_len, forgetR_len, closeZ_fst, closeR_fst, forgetR_fst, ics]); simp [closeZ_len, closeR_len, forT_len, movT_len, ownT_len, min_if, max_if, mkD_len, movZ_len, forgetR_len, closeZ_fst, closeR_fst, forgetR_fst, ics, *]; done) | ((try simp only [closeZ_len, closeR_len, forT_len, movT_len, ownT_len, min_if, max_if, mkD_len, movZ_len, forgetR_len, closeZ_fst, closeR_fst, forgetR_fst, ics]); simp [closeZ_len, closeR_len, forT_len, movT_len, ownT_len, min_if, max_if, mkD_len, movZ_len, forgetR_len, closeZ_fst, closeR_fst, forgetR_fst, ics, *]; omega)))); (first | rfl | (unfold zRe zRet; (try unfold setZ); simp only [closeZ_fst, closeR_fst, forgetR_fst]))
theorem cx27_ok : CtxOk Try.prog cx27.q.ctx := (ctx_cons (g := 85) (ctx_cons (g := 84) (ctx_cons (g := 86) (ctx_cons (g := 83) (ctx_pcons (g := 87) ctx_nil (by kernel_rfl) psum87_ok) (by kernel_rfl) sum83_ok) (by kernel_rfl) sum86_ok) (by kernel_rfl) sum84_ok) (by kernel_rfl) sum85_ok)
theorem sum27_ok : ∀ vs r, sum27 vs = some (true, r) → SoundAt Try.prog 27 vs r := by
  intro vs r h
  unfold sum27 at h
  split at h
  · simp only [Option.some.injEq, Prod.mk.injEq, Bool.and_eq_true] at h
    obtain ⟨⟨⟨⟨h0, h1⟩, h2⟩, h3⟩, rfl⟩ := h
    obtain ⟨n0, b0, D0, hl0, hc0, rfl⟩ := zone_elim h0
    obtain ⟨x1, rfl⟩ := int_elim h1
    obtain ⟨x2, rfl⟩ := int_elim h2
    obtain ⟨x3, rfl⟩ := int_elim h3
    (try simp only [zO_ic])
    exact f27_sound _ _ _ _ _ _ cx27_ok (f27_spec n0 b0 D0 hl0 x1 x2 x3)
  · cases h

theorem f90_spec (n : Int) (b : Bool) (D : List Int) (hl : D.length = 49) (x y c : Int) (hn : okN n = true) (hx : in16 x = true) (hy : in16 y = true) : f90_wp n b (ic .i64 D) x y c (fun r' => r' = zRe (copyR (n, b, D) x y c)) := by
  have r1 := in16_rng hx
  have r2 := in16_rng hy
  have rn := okN_rng hn
  unfold f90_wp
  (try delta X90_4)
  (try delta X90_3)
  (try delta X90_2)
  (try delta X90_1)
  (try delta X90_0)
  cases b with
  | true => (try simp only [cond_true]); (repeat ((first | with_reducible apply ck_i | with_reducible apply And.intro); · (first | (simp only [closeZ_len, closeR_len, forT_len, movT_len, ownT_len, min_if, max_if, mkD_len, movZ_len, forgetR_len, closeZ_fst, closeR_fst, forgetR_fst, ics]; done) | with_reducible rfl | ((try simp only [closeZ_len, closeR_len, forT_len, movT_len, ownT_len, min_if, max_if, mkD_len, movZ_len, forgetR_len, closeZ_fst, closeR_fst, forgetR_fst, ics]); simp [closeZ_len, closeR_len, forT_len, movT_len, ownT_len, min_if, max_if, mkD_len, movZ_len, forgetR_len, closeZ_fst, closeR_fst, forgetR_fst, ics, *]; done) | ((try simp only [closeZ_len, closeR_len, forT_len, movT_len, ownT_len, min_if, max_if, mkD_len, movZ_len, forgetR_len, closeZ_fst, closeR_fst, forgetR_fst, ics]); simp [closeZ_len, closeR_len, forT_len, movT_len, ownT_len, min_if, max_if, mkD_len, movZ_len, forgetR_len, closeZ_fst, closeR_fst, forgetR_fst, ics, *]; omega)))); (first | rfl | (unfold zRe zRet; (try unfold setZ); simp only [closeZ_fst, closeR_fst, forgetR_fst]))
  | false =>
    refine cond_i (fun q => by cases q) (fun _ => ?_)
    simp only [wr1 (show -1000 ≤ x by omega) (show x ≤ 1000 by omega), wr1 (show -1000 ≤ y by omega) (show y ≤ 1000 by omega)]
    refine cond_i (fun q3 => ?_) (fun q3 => ?_)
    · have q3 : x = y := by simpa using q3
      have e : copyR (n, false, D) x y c = closeR (n, false, movT (x + 1).toNat c (n.toNat + 1) D) := by unfold copyR; rw [if_neg (by simp), if_pos q3]
      rw [e]
      (repeat ((first | with_reducible apply ck_i | with_reducible apply And.intro); · (first | (simp only [closeZ_len, closeR_len, forT_len, movT_len, ownT_len, min_if, max_if, mkD_len, movZ_len, forgetR_len, closeZ_fst, closeR_fst, forgetR_fst, ics]; done) | with_reducible rfl | ((try simp only [closeZ_len, closeR_len, forT_len, movT_len, ownT_len, min_if, max_if, mkD_len, movZ_len, forgetR_len, closeZ_fst, closeR_fst, forgetR_fst, ics]); simp [closeZ_len, closeR_len, forT_len, movT_len, ownT_len, min_if, max_if, mkD_len, movZ_len, forgetR_len, closeZ_fst, closeR_fst, forgetR_fst, ics, *]; done) | ((try simp only [closeZ_len, closeR_len, forT_len, movT_len, ownT_len, min_if, max_if, mkD_len, movZ_len, forgetR_len, closeZ_fst, closeR_fst, forgetR_fst, ics]); simp [closeZ_len, closeR_len, forT_len, movT_len, ownT_len, min_if, max_if, mkD_len, movZ_len, forgetR_len, closeZ_fst, closeR_fst, forgetR_fst, ics, *]; omega))))
      refine LoopP.ind (I := fun z => 0 ≤ z.1 ∧ z.1 ≤ n + 1 ∧ z.2 = ic .i64 (movT (x + 1).toNat c z.1.toNat D)) (μ := fun z => (n + 1 - z.1).toNat) ?_ ⟨by dsimp only; omega, by dsimp only; omega, rfl⟩
      rintro ⟨i, cs⟩ k0 ⟨i1, i2, i3⟩ hk
      dsimp only at i1 i2 i3 ⊢
      subst i3
      have lE : (movT (x + 1).toNat c i.toNat D).length = 49 := by rw [movT_len]; exact hl
      refine cond_i (fun q => ?_) (fun q => ?_)
      · have q := of_decide_eq_true q
        have hk' := hk (i + 1, ic .i64 (movT (x + 1).toNat c (i + 1).toNat D)) ⟨by dsimp only; omega, by dsimp only; omega, rfl⟩ (by dsimp only; omega)
        rw [show (i + 1).toNat = i.toNat + 1 by omega, movT] at hk'
        clear hk
        refine cond_i (fun q2 => ?_) (fun q2 => ?_)
        · have q2 : ¬ i = x + 1 := by simpa using q2
          rw [if_neg (by omega)] at hk'
          generalize movT (x + 1).toNat c i.toNat D = E at *
          simp only [closeZ_len, closeR_len, forT_len, movT_len, ownT_len, min_if, max_if, mkD_len, movZ_len, forgetR_len, closeZ_fst, closeR_fst, forgetR_fst, ics, wr1 (show -1000 ≤ i by omega) (show i ≤ 1000 by omega)]
          (repeat ((first | with_reducible apply ck_i | with_reducible apply And.intro); · (first | (simp only [closeZ_len, closeR_len, forT_len, movT_len, ownT_len, min_if, max_if, mkD_len, movZ_len, forgetR_len, closeZ_fst, closeR_fst, forgetR_fst, ics]; done) | with_reducible rfl | ((try simp only [closeZ_len, closeR_len, forT_len, movT_len, ownT_len, min_if, max_if, mkD_len, movZ_len, forgetR_len, closeZ_fst, closeR_fst, forgetR_fst, ics]); simp [closeZ_len, closeR_len, forT_len, movT_len, ownT_len, min_if, max_if, mkD_len, movZ_len, forgetR_len, closeZ_fst, closeR_fst, forgetR_fst, ics, *]; done) | ((try simp only [closeZ_len, closeR_len, forT_len, movT_len, ownT_len, min_if, max_if, mkD_len, movZ_len, forgetR_len, closeZ_fst, closeR_fst, forgetR_fst, ics]); simp [closeZ_len, closeR_len, forT_len, movT_len, ownT_len, min_if, max_if, mkD_len, movZ_len, forgetR_len, closeZ_fst, closeR_fst, forgetR_fst, ics, *]; omega))))
          simp only [IntWalk.i64_left]
          exact hk'
        · have q2 : i = x + 1 := by simpa using q2
          rw [if_pos (by omega)] at hk'
          simp only [wr1 (show -1000 ≤ i by omega) (show i ≤ 1000 by omega)]
          (repeat ((first | with_reducible apply ck_i | with_reducible apply And.intro); · (first | (simp only [closeZ_len, closeR_len, forT_len, movT_len, ownT_len, min_if, max_if, mkD_len, movZ_len, forgetR_len, closeZ_fst, closeR_fst, forgetR_fst, ics]; done) | with_reducible rfl | ((try simp only [closeZ_len, closeR_len, forT_len, movT_len, ownT_len, min_if, max_if, mkD_len, movZ_len, forgetR_len, closeZ_fst, closeR_fst, forgetR_fst, ics]); simp [closeZ_len, closeR_len, forT_len, movT_len, ownT_len, min_if, max_if, mkD_len, movZ_len, forgetR_len, closeZ_fst, closeR_fst, forgetR_fst, ics, *]; done) | ((try simp only [closeZ_len, closeR_len, forT_len, movT_len, ownT_len, min_if, max_if, mkD_len, movZ_len, forgetR_len, closeZ_fst, closeR_fst, forgetR_fst, ics]); simp [closeZ_len, closeR_len, forT_len, movT_len, ownT_len, min_if, max_if, mkD_len, movZ_len, forgetR_len, closeZ_fst, closeR_fst, forgetR_fst, ics, *]; omega))))
          exact hk'
      · have q := of_decide_eq_false q
        have e : i.toNat = n.toNat + 1 := by omega
        rw [e] at lE ⊢
        clear hk
        generalize movT (x + 1).toNat c (n.toNat + 1) D = E at *
        (repeat ((first | with_reducible apply ck_i | with_reducible apply And.intro); · (first | (simp only [closeZ_len, closeR_len, forT_len, movT_len, ownT_len, min_if, max_if, mkD_len, movZ_len, forgetR_len, closeZ_fst, closeR_fst, forgetR_fst, ics]; done) | with_reducible rfl | ((try simp only [closeZ_len, closeR_len, forT_len, movT_len, ownT_len, min_if, max_if, mkD_len, movZ_len, forgetR_len, closeZ_fst, closeR_fst, forgetR_fst, ics]); simp [closeZ_len, closeR_len, forT_len, movT_len, ownT_len, min_if, max_if, mkD_len, movZ_len, forgetR_len, closeZ_fst, closeR_fst, forgetR_fst, ics, *]; done) | ((try simp only [closeZ_len, closeR_len, forT_len, movT_len, ownT_len, min_if, max_if, mkD_len, movZ_len, forgetR_len, closeZ_fst, closeR_fst, forgetR_fst, ics]); simp [closeZ_len, closeR_len, forT_len, movT_len, ownT_len, min_if, max_if, mkD_len, movZ_len, forgetR_len, closeZ_fst, closeR_fst, forgetR_fst, ics, *]; omega))))
        (try simp only [closeZ_len, closeR_len, forT_len, movT_len, ownT_len, min_if, max_if, mkD_len, movZ_len, forgetR_len, closeZ_fst, closeR_fst, forgetR_fst, ics]); (first | rfl | (unfold zRe zRet; (try unfold setZ); simp only [closeZ_fst, closeR_fst, forgetR_fst]))
    · have q3 : ¬ x = y := by simpa using q3
      have e : copyR (n, false, D) x y c = closeR (setZ (forgetR (n, false, D) x) (x + 1).toNat (y + 1).toNat c (wrap64 (0 - c))) := by unfold copyR; rw [if_neg (by simp), if_neg q3]
      rw [e]
      have lF := forgetR_len (n := n) (b := false) (x := x) hl
      have hf : okN (forgetR (n, false, D) x).1 = true := by rw [forgetR_fst]; exact hn
      simp only [closeZ_len, closeR_len, forT_len, movT_len, ownT_len, min_if, max_if, mkD_len, movZ_len, forgetR_len, closeZ_fst, closeR_fst, forgetR_fst, ics, IntWalk.i64_left]
      (repeat ((first | with_reducible apply ck_i | with_reducible apply And.intro); · (first | (simp only [closeZ_len, closeR_len, forT_len, movT_len, ownT_len, min_if, max_if, mkD_len, movZ_len, forgetR_len, closeZ_fst, closeR_fst, forgetR_fst, ics]; done) | with_reducible rfl | ((try simp only [closeZ_len, closeR_len, forT_len, movT_len, ownT_len, min_if, max_if, mkD_len, movZ_len, forgetR_len, closeZ_fst, closeR_fst, forgetR_fst, ics]); simp [closeZ_len, closeR_len, forT_len, movT_len, ownT_len, min_if, max_if, mkD_len, movZ_len, forgetR_len, closeZ_fst, closeR_fst, forgetR_fst, ics, *]; done) | ((try simp only [closeZ_len, closeR_len, forT_len, movT_len, ownT_len, min_if, max_if, mkD_len, movZ_len, forgetR_len, closeZ_fst, closeR_fst, forgetR_fst, ics]); simp [closeZ_len, closeR_len, forT_len, movT_len, ownT_len, min_if, max_if, mkD_len, movZ_len, forgetR_len, closeZ_fst, closeR_fst, forgetR_fst, ics, *]; omega)))); (first | rfl | (unfold zRe zRet; (try unfold setZ); simp only [closeZ_fst, closeR_fst, forgetR_fst]))
theorem cx90_ok : CtxOk Try.prog cx90.q.ctx := (ctx_cons (g := 88) (ctx_cons (g := 89) ctx_nil (by kernel_rfl) sum89_ok) (by kernel_rfl) sum88_ok)
theorem sum90_ok : ∀ vs r, sum90 vs = some (true, r) → SoundAt Try.prog 90 vs r := by
  intro vs r h
  unfold sum90 at h
  split at h
  · simp only [Option.some.injEq, Prod.mk.injEq, Bool.and_eq_true] at h
    obtain ⟨⟨⟨⟨⟨⟨⟨h0, h1⟩, h2⟩, h3⟩, h4⟩, h5⟩, h6⟩, rfl⟩ := h
    obtain ⟨n0, b0, D0, hl0, hc0, rfl⟩ := zone_elim h0
    obtain ⟨x2, rfl⟩ := int_elim h2
    obtain ⟨x3, rfl⟩ := int_elim h3
    obtain ⟨x4, rfl⟩ := int_elim h4
    (try simp only [zO_ic] at h1)
    (try simp only [zO_ic] at h5)
    (try simp only [zO_ic] at h6)
    (try simp only [zO_ic])
    exact f90_sound _ _ _ _ _ _ cx90_ok (f90_spec n0 b0 D0 hl0 x2 x3 x4 h1 h5 h6)
  · cases h

/-! ### Has -/
theorem has_iff {n : Int} {D l : List Int} (hn : okN n = true) : hasZ (n, false, D) n.toNat l = true ↔
    ∀ i : Nat, (i : Int) ≤ n → (-2147483648 ≤ atP l i ∧ atP l i ≤ 2147483647) ∧ ∀ j : Nat, (j : Int) ≤ n → wrap64 (atP l i - atP l j) ≤ g D i j := by
  have rn := okN_rng hn
  unfold hasZ
  have e : ((n.toNat : Nat) : Int) = n := by omega
  simp only [hn, e, decide_true, Bool.not_false, Bool.and_true, Bool.true_and, List.all_eq_true, List.mem_range, Bool.and_eq_true, decide_eq_true_eq]
  constructor
  · intro h i hi
    obtain ⟨h1, h2⟩ := h i (by omega)
    exact ⟨h1, fun j hj => h2 j (by omega)⟩
  · intro h i hi
    obtain ⟨h1, h2⟩ := h i (by omega)
    exact ⟨h1, fun j hj => h2 j (by omega)⟩
theorem f38_spec (n : Int) (b : Bool) (D : List Int) (hl : D.length = 49) (m : Nat) (l : List Int) (hm : l.length = m * 1) : f38_wp n b (ic .i64 D) m (ic .i64 l) (fun r' => r' = boRet (hasZ (n, b, D) m l)) := by
  unfold f38_wp
  cases b with
  | true => rfl
  | false =>
    refine cond_i (fun q => by cases q) (fun _ => ?_)
    refine cond_i (fun q => ?_) (fun q => ?_)
    · have q : okN n = false := by simpa using q
      have e : hasZ (n, false, D) m l = false := by unfold hasZ; simp [q]
      rw [e]; rfl
    · have hn : okN n = true := by simpa using q
      have rn := okN_rng hn
      refine cond_i (fun q => ?_) (fun q => ?_)
      · have q : ¬ (m : Int) = n := by simpa using q
        have e : hasZ (n, false, D) m l = false := by unfold hasZ; simp [q]
        rw [e]; rfl
      · have q : (m : Int) = n := by simpa using q
        obtain rfl : m = n.toNat := by omega
        have ho : okRowU 1 (Cell.sl n.toNat (ic .i64 l)) = true := by simp [okRowU, int_ic, ic_len, hm]
        simp only [ho, map_ic]
        have hf := has_iff (D := D) (l := l) hn
        have no : ∀ {P : Prop}, P → (P → ¬ hasZ (n, false, D) n.toNat l = true) → boRet false = boRet (hasZ (n, false, D) n.toNat l) := fun p h => by
          cases e : hasZ (n, false, D) n.toNat l with
          | false => rfl
          | true => exact absurd e (h p)
        (repeat ((first | with_reducible apply ck_i | with_reducible apply And.intro); · (first | (simp only [closeZ_len, closeR_len, forT_len, movT_len, ownT_len, min_if, max_if, mkD_len, movZ_len, forgetR_len, closeZ_fst, closeR_fst, forgetR_fst, ics]; done) | with_reducible rfl | ((try simp only [closeZ_len, closeR_len, forT_len, movT_len, ownT_len, min_if, max_if, mkD_len, movZ_len, forgetR_len, closeZ_fst, closeR_fst, forgetR_fst, ics]); simp [closeZ_len, closeR_len, forT_len, movT_len, ownT_len, min_if, max_if, mkD_len, movZ_len, forgetR_len, closeZ_fst, closeR_fst, forgetR_fst, ics, *]; done) | ((try simp only [closeZ_len, closeR_len, forT_len, movT_len, ownT_len, min_if, max_if, mkD_len, movZ_len, forgetR_len, closeZ_fst, closeR_fst, forgetR_fst, ics]); simp [closeZ_len, closeR_len, forT_len, movT_len, ownT_len, min_if, max_if, mkD_len, movZ_len, forgetR_len, closeZ_fst, closeR_fst, forgetR_fst, ics, *]; omega))))
        refine LoopP.ind (I := fun z => 0 ≤ z ∧ z ≤ n + 1 ∧ ∀ i : Nat, (i : Int) < z → (-2147483648 ≤ atP l i ∧ atP l i ≤ 2147483647) ∧ ∀ j : Nat, (j : Int) ≤ n → wrap64 (atP l i - atP l j) ≤ g D i j) (μ := fun z => (n + 1 - z).toNat) ?_ ⟨by omega, by omega, fun i hi => absurd hi (by omega)⟩
        rintro i k0 ⟨i1, i2, i3⟩ hk
        have ei : ((i.toNat : Nat) : Int) = i := by omega
        refine cond_i (fun q1 => ?_) (fun q1 => ?_)
        · have q1 := of_decide_eq_true q1
          refine ck_i (by simp; omega) ?_
          refine cond_i (fun q2 => ?_) (fun q2 => ?_)
          · have q2 := of_decide_eq_true q2
            refine no q2 fun q2 h => ?_
            have := (hf.1 h i.toNat (by omega)).1
            rw [ei] at this; omega
          · have q2 := of_decide_eq_false q2
            refine cond_i (fun q3 => ?_) (fun q3 => ?_)
            · have q3 := of_decide_eq_true q3
              refine no q3 fun q3 h => ?_
              have := (hf.1 h i.toNat (by omega)).1
              rw [ei] at this; omega
            · have q3 := of_decide_eq_false q3
              (repeat ((first | with_reducible apply ck_i | with_reducible apply And.intro); · (first | (simp only [closeZ_len, closeR_len, forT_len, movT_len, ownT_len, min_if, max_if, mkD_len, movZ_len, forgetR_len, closeZ_fst, closeR_fst, forgetR_fst, ics]; done) | with_reducible rfl | ((try simp only [closeZ_len, closeR_len, forT_len, movT_len, ownT_len, min_if, max_if, mkD_len, movZ_len, forgetR_len, closeZ_fst, closeR_fst, forgetR_fst, ics]); simp [closeZ_len, closeR_len, forT_len, movT_len, ownT_len, min_if, max_if, mkD_len, movZ_len, forgetR_len, closeZ_fst, closeR_fst, forgetR_fst, ics, *]; done) | ((try simp only [closeZ_len, closeR_len, forT_len, movT_len, ownT_len, min_if, max_if, mkD_len, movZ_len, forgetR_len, closeZ_fst, closeR_fst, forgetR_fst, ics]); simp [closeZ_len, closeR_len, forT_len, movT_len, ownT_len, min_if, max_if, mkD_len, movZ_len, forgetR_len, closeZ_fst, closeR_fst, forgetR_fst, ics, *]; omega))))
              refine LoopP.ind (I := fun z => 0 ≤ z ∧ z ≤ n + 1 ∧ ∀ j : Nat, (j : Int) < z → wrap64 (atP l i - atP l j) ≤ g D i.toNat j) (μ := fun z => (n + 1 - z).toNat) ?_ ⟨by omega, by omega, fun i hi => absurd hi (by omega)⟩
              rintro j k1 ⟨j1, j2, j3⟩ hk1
              have ej : ((j.toNat : Nat) : Int) = j := by omega
              refine cond_i (fun q4 => ?_) (fun q4 => ?_)
              · have q4 := of_decide_eq_true q4
                refine ck_i (by simp; omega) ?_
                refine cond_i (fun q5 => ?_) (fun q5 => ?_)
                · have q5 := of_decide_eq_true q5
                  refine no q5 fun q5 h => ?_
                  have := (hf.1 h j.toNat (by omega)).1
                  rw [ej] at this; omega
                · have q5 := of_decide_eq_false q5
                  refine cond_i (fun q6 => ?_) (fun q6 => ?_)
                  · have q6 := of_decide_eq_true q6
                    refine no q6 fun q6 h => ?_
                    have := (hf.1 h j.toNat (by omega)).1
                    rw [ej] at this; omega
                  · have q6 := of_decide_eq_false q6
                    (repeat ((first | with_reducible apply ck_i | with_reducible apply And.intro); · (first | (simp only [closeZ_len, closeR_len, forT_len, movT_len, ownT_len, min_if, max_if, mkD_len, movZ_len, forgetR_len, closeZ_fst, closeR_fst, forgetR_fst, ics]; done) | with_reducible rfl | ((try simp only [closeZ_len, closeR_len, forT_len, movT_len, ownT_len, min_if, max_if, mkD_len, movZ_len, forgetR_len, closeZ_fst, closeR_fst, forgetR_fst, ics]); simp [closeZ_len, closeR_len, forT_len, movT_len, ownT_len, min_if, max_if, mkD_len, movZ_len, forgetR_len, closeZ_fst, closeR_fst, forgetR_fst, ics, *]; done) | ((try simp only [closeZ_len, closeR_len, forT_len, movT_len, ownT_len, min_if, max_if, mkD_len, movZ_len, forgetR_len, closeZ_fst, closeR_fst, forgetR_fst, ics]); simp [closeZ_len, closeR_len, forT_len, movT_len, ownT_len, min_if, max_if, mkD_len, movZ_len, forgetR_len, closeZ_fst, closeR_fst, forgetR_fst, ics, *]; omega))))
                    rw [IntWalk.i64_left]
                    simp only [closeZ_len, closeR_len, forT_len, movT_len, ownT_len, min_if, max_if, mkD_len, movZ_len, forgetR_len, closeZ_fst, closeR_fst, forgetR_fst, ics]
                    refine cond_i (fun q7 => ?_) (fun q7 => ?_)
                    · have q7 := of_decide_eq_true q7
                      refine no q7 fun q7 h => ?_
                      have := (hf.1 h i.toNat (by omega)).2 j.toNat (by omega)
                      rw [ei, ej] at this; omega
                    · have q7 := of_decide_eq_false q7
                      rw [wr1 (by omega) (by omega)]
                      refine And.intro (by (first | (simp only [closeZ_len, closeR_len, forT_len, movT_len, ownT_len, min_if, max_if, mkD_len, movZ_len, forgetR_len, closeZ_fst, closeR_fst, forgetR_fst, ics]; done) | with_reducible rfl | ((try simp only [closeZ_len, closeR_len, forT_len, movT_len, ownT_len, min_if, max_if, mkD_len, movZ_len, forgetR_len, closeZ_fst, closeR_fst, forgetR_fst, ics]); simp [closeZ_len, closeR_len, forT_len, movT_len, ownT_len, min_if, max_if, mkD_len, movZ_len, forgetR_len, closeZ_fst, closeR_fst, forgetR_fst, ics, *]; done) | ((try simp only [closeZ_len, closeR_len, forT_len, movT_len, ownT_len, min_if, max_if, mkD_len, movZ_len, forgetR_len, closeZ_fst, closeR_fst, forgetR_fst, ics]); simp [closeZ_len, closeR_len, forT_len, movT_len, ownT_len, min_if, max_if, mkD_len, movZ_len, forgetR_len, closeZ_fst, closeR_fst, forgetR_fst, ics, *]; omega))) (hk1 _ ⟨by omega, by omega, fun t ht => ?_⟩ (by omega))
                      by_cases e : (t : Int) < j
                      · exact j3 t e
                      · obtain rfl : t = j.toNat := by omega
                        rw [ej]; omega
              · have q4 := of_decide_eq_false q4
                rw [wr1 (by omega) (by omega)]
                refine And.intro (by (first | (simp only [closeZ_len, closeR_len, forT_len, movT_len, ownT_len, min_if, max_if, mkD_len, movZ_len, forgetR_len, closeZ_fst, closeR_fst, forgetR_fst, ics]; done) | with_reducible rfl | ((try simp only [closeZ_len, closeR_len, forT_len, movT_len, ownT_len, min_if, max_if, mkD_len, movZ_len, forgetR_len, closeZ_fst, closeR_fst, forgetR_fst, ics]); simp [closeZ_len, closeR_len, forT_len, movT_len, ownT_len, min_if, max_if, mkD_len, movZ_len, forgetR_len, closeZ_fst, closeR_fst, forgetR_fst, ics, *]; done) | ((try simp only [closeZ_len, closeR_len, forT_len, movT_len, ownT_len, min_if, max_if, mkD_len, movZ_len, forgetR_len, closeZ_fst, closeR_fst, forgetR_fst, ics]); simp [closeZ_len, closeR_len, forT_len, movT_len, ownT_len, min_if, max_if, mkD_len, movZ_len, forgetR_len, closeZ_fst, closeR_fst, forgetR_fst, ics, *]; omega))) (hk _ ⟨by omega, by omega, fun t ht => ?_⟩ (by omega))
                by_cases e : (t : Int) < i
                · exact i3 t e
                · obtain rfl : t = i.toNat := by omega
                  rw [ei]
                  exact ⟨by omega, fun s hs => j3 s (by omega)⟩
        · have q1 := of_decide_eq_false q1
          rw [hf.2 fun t ht => i3 t (by omega)]; rfl
theorem cx38_ok : CtxOk Try.prog cx38.q.ctx := (ctx_cons (g := 91) (ctx_cons (g := 92) ctx_nil (by kernel_rfl) sum92_ok) (by kernel_rfl) sum91_ok)
theorem sum38_ok : ∀ vs r, sum38 vs = some (true, r) → SoundAt Try.prog 38 vs r := by
  intro vs r h
  unfold sum38 at h
  split at h
  · simp only [Option.some.injEq, Prod.mk.injEq, Bool.and_eq_true] at h
    obtain ⟨⟨h0, h1⟩, rfl⟩ := h
    obtain ⟨n0, b0, D0, hl0, hc0, rfl⟩ := zone_elim h0
    obtain ⟨n1, l1, hl1, en1, el1, tr1⟩ := row_elimG (g := 38) h1
    (try simp only [en1, el1])
    (try simp only [zO_ic])
    refine tr1 [_] [] _ ?_
    exact f38_sound _ _ _ _ _ cx38_ok (f38_spec n0 b0 D0 hl0 n1 l1 hl1)
  · cases h

/-! ### Within -/
/-- A row of seven. -/
def rowOf (D : List Int) (i : Nat) : List Int := [g D i 0, g D i 1, g D i 2, g D i 3, g D i 4, g D i 5, g D i 6]
theorem row7 {D : List Int} {i : Nat} : [Cell.v (Value.int .i64 (intC ((ic .i64 D).getD (i * 7) .dead))), Cell.v (Value.int .i64 (intC ((ic .i64 D).getD (i * 7 + 1) .dead))), Cell.v (Value.int .i64 (intC ((ic .i64 D).getD (i * 7 + 2) .dead))), Cell.v (Value.int .i64 (intC ((ic .i64 D).getD (i * 7 + 3) .dead))), Cell.v (Value.int .i64 (intC ((ic .i64 D).getD (i * 7 + 4) .dead))), Cell.v (Value.int .i64 (intC ((ic .i64 D).getD (i * 7 + 5) .dead))), Cell.v (Value.int .i64 (intC ((ic .i64 D).getD (i * 7 + 6) .dead)))] = ic .i64 (rowOf D i) := by
  simp only [int_get]
  unfold rowOf g
  rw [show 7 * i + 0 = i * 7 by omega, Nat.mul_comm 7 i]
  rfl
theorem g_row {D : List Int} {i j : Nat} (hj : j < 7) : g (rowOf D i) 0 j = g D i j := by
  unfold rowOf
  have : j = 0 ∨ j = 1 ∨ j = 2 ∨ j = 3 ∨ j = 4 ∨ j = 5 ∨ j = 6 := by omega
  rcases this with rfl | rfl | rfl | rfl | rfl | rfl | rfl <;> rfl
theorem rowOf_len {D : List Int} {i : Nat} : (rowOf D i).length = 7 := rfl
theorem take_ic {D : List Int} (hl : D.length = 49) : List.take 49 (ic .i64 D) = ic .i64 D := List.take_of_length_le (by rw [ic_len]; omega)

theorem f47_spec (n : Int) (b : Bool) (D : List Int) (hl : D.length = 49) (n2 : Int) (b2 : Bool) (D2 : List Int) (hl2 : D2.length = 49) : f47_wp n b (ic .i64 D) n2 b2 (ic .i64 D2) (fun r' => r' = boRet (withinZ (n, b, D) (n2, b2, D2))) := by
  unfold f47_wp
  (try delta X47_0)
  simp only [take_ic hl, map_ic, row7]
  (repeat ((first | with_reducible apply ck_i | with_reducible apply And.intro); · (first | (simp only [closeZ_len, closeR_len, forT_len, movT_len, ownT_len, min_if, max_if, mkD_len, movZ_len, forgetR_len, closeZ_fst, closeR_fst, forgetR_fst, ics]; done) | with_reducible rfl | ((try simp only [closeZ_len, closeR_len, forT_len, movT_len, ownT_len, min_if, max_if, mkD_len, movZ_len, forgetR_len, closeZ_fst, closeR_fst, forgetR_fst, ics]); simp [closeZ_len, closeR_len, forT_len, movT_len, ownT_len, min_if, max_if, mkD_len, movZ_len, forgetR_len, closeZ_fst, closeR_fst, forgetR_fst, ics, *]; done) | ((try simp only [closeZ_len, closeR_len, forT_len, movT_len, ownT_len, min_if, max_if, mkD_len, movZ_len, forgetR_len, closeZ_fst, closeR_fst, forgetR_fst, ics]); simp [closeZ_len, closeR_len, forT_len, movT_len, ownT_len, min_if, max_if, mkD_len, movZ_len, forgetR_len, closeZ_fst, closeR_fst, forgetR_fst, ics, *]; omega))))
  refine cond_i (fun q => ?_) (fun q => ?_)
  · have q : alikeZ (n, b, D) (n2, b2, D2) = false := by simpa using q
    unfold withinZ; rw [q]; rfl
  · have q : alikeZ (n, b, D) (n2, b2, D2) = true := by simpa using q
    refine cond_i (fun q1 => ?_) (fun q1 => ?_)
    · unfold withinZ; rw [q, q1]; rfl
    · refine cond_i (fun q2 => ?_) (fun q2 => ?_)
      · unfold withinZ; rw [q, q1, q2]; rfl
      · subst q1 q2
        have hf : withinZ (n, false, D) (n2, false, D2) = true ↔ ∀ i j : Nat, i < 7 → j < 7 → g D i j ≤ g D2 i j := by
          unfold withinZ; rw [q]
          simp only [Bool.not_true, Bool.false_eq_true, if_false, all7, decide_eq_true_eq]
        (repeat ((first | with_reducible apply ck_i | with_reducible apply And.intro); · (first | (simp only [closeZ_len, closeR_len, forT_len, movT_len, ownT_len, min_if, max_if, mkD_len, movZ_len, forgetR_len, closeZ_fst, closeR_fst, forgetR_fst, ics]; done) | with_reducible rfl | ((try simp only [closeZ_len, closeR_len, forT_len, movT_len, ownT_len, min_if, max_if, mkD_len, movZ_len, forgetR_len, closeZ_fst, closeR_fst, forgetR_fst, ics]); simp [closeZ_len, closeR_len, forT_len, movT_len, ownT_len, min_if, max_if, mkD_len, movZ_len, forgetR_len, closeZ_fst, closeR_fst, forgetR_fst, ics, *]; done) | ((try simp only [closeZ_len, closeR_len, forT_len, movT_len, ownT_len, min_if, max_if, mkD_len, movZ_len, forgetR_len, closeZ_fst, closeR_fst, forgetR_fst, ics]); simp [closeZ_len, closeR_len, forT_len, movT_len, ownT_len, min_if, max_if, mkD_len, movZ_len, forgetR_len, closeZ_fst, closeR_fst, forgetR_fst, ics, *]; omega))))
        refine LoopP.ind (I := fun z => 0 ≤ z ∧ z ≤ 7 ∧ ∀ i j : Nat, (i : Int) < z → j < 7 → g D i j ≤ g D2 i j) (μ := fun z => (7 - z).toNat) ?_ ⟨by omega, by omega, fun i j hi _ => absurd hi (by omega)⟩
        rintro i k0 ⟨i1, i2, i3⟩ hk
        refine cond_i (fun q1 => ?_) (fun q1 => ?_)
        · have q1 := of_decide_eq_true q1
          (repeat ((first | with_reducible apply ck_i | with_reducible apply And.intro); · (first | (simp only [closeZ_len, closeR_len, forT_len, movT_len, ownT_len, min_if, max_if, mkD_len, movZ_len, forgetR_len, closeZ_fst, closeR_fst, forgetR_fst, ics]; done) | with_reducible rfl | ((try simp only [closeZ_len, closeR_len, forT_len, movT_len, ownT_len, min_if, max_if, mkD_len, movZ_len, forgetR_len, closeZ_fst, closeR_fst, forgetR_fst, ics]); simp [closeZ_len, closeR_len, forT_len, movT_len, ownT_len, min_if, max_if, mkD_len, movZ_len, forgetR_len, closeZ_fst, closeR_fst, forgetR_fst, ics, *]; done) | ((try simp only [closeZ_len, closeR_len, forT_len, movT_len, ownT_len, min_if, max_if, mkD_len, movZ_len, forgetR_len, closeZ_fst, closeR_fst, forgetR_fst, ics]); simp [closeZ_len, closeR_len, forT_len, movT_len, ownT_len, min_if, max_if, mkD_len, movZ_len, forgetR_len, closeZ_fst, closeR_fst, forgetR_fst, ics, *]; omega))))
          refine LoopP.ind (I := fun z => 0 ≤ z ∧ z ≤ 7 ∧ ∀ j : Nat, (j : Int) < z → g D i.toNat j ≤ g D2 i.toNat j) (μ := fun z => (7 - z).toNat) ?_ ⟨by omega, by omega, fun i hi => absurd hi (by omega)⟩
          rintro j k1 ⟨j1, j2, j3⟩ hk1
          refine cond_i (fun q4 => ?_) (fun q4 => ?_)
          · have q4 := of_decide_eq_true q4
            simp only [closeZ_len, closeR_len, forT_len, movT_len, ownT_len, min_if, max_if, mkD_len, movZ_len, forgetR_len, closeZ_fst, closeR_fst, forgetR_fst, ics, g_row (D := D) (i := i.toNat) (j := j.toNat) (by omega)]
            have lr := rowOf_len (D := D) (i := i.toNat)
            (repeat ((first | with_reducible apply ck_i | with_reducible apply And.intro); · (first | (simp only [closeZ_len, closeR_len, forT_len, movT_len, ownT_len, min_if, max_if, mkD_len, movZ_len, forgetR_len, closeZ_fst, closeR_fst, forgetR_fst, ics]; done) | with_reducible rfl | ((try simp only [closeZ_len, closeR_len, forT_len, movT_len, ownT_len, min_if, max_if, mkD_len, movZ_len, forgetR_len, closeZ_fst, closeR_fst, forgetR_fst, ics]); simp [closeZ_len, closeR_len, forT_len, movT_len, ownT_len, min_if, max_if, mkD_len, movZ_len, forgetR_len, closeZ_fst, closeR_fst, forgetR_fst, ics, *]; done) | ((try simp only [closeZ_len, closeR_len, forT_len, movT_len, ownT_len, min_if, max_if, mkD_len, movZ_len, forgetR_len, closeZ_fst, closeR_fst, forgetR_fst, ics]); simp [closeZ_len, closeR_len, forT_len, movT_len, ownT_len, min_if, max_if, mkD_len, movZ_len, forgetR_len, closeZ_fst, closeR_fst, forgetR_fst, ics, *]; omega))))
            refine cond_i (fun q7 => ?_) (fun q7 => ?_)
            · have q7 := of_decide_eq_true q7
              cases e : withinZ (n, false, D) (n2, false, D2) with
              | false => rfl
              | true =>
                have := hf.1 e i.toNat j.toNat (by omega) (by omega)
                omega
            · have q7 := of_decide_eq_false q7
              rw [wr1 (by omega) (by omega)]
              refine And.intro (by (first | (simp only [closeZ_len, closeR_len, forT_len, movT_len, ownT_len, min_if, max_if, mkD_len, movZ_len, forgetR_len, closeZ_fst, closeR_fst, forgetR_fst, ics]; done) | with_reducible rfl | ((try simp only [closeZ_len, closeR_len, forT_len, movT_len, ownT_len, min_if, max_if, mkD_len, movZ_len, forgetR_len, closeZ_fst, closeR_fst, forgetR_fst, ics]); simp [closeZ_len, closeR_len, forT_len, movT_len, ownT_len, min_if, max_if, mkD_len, movZ_len, forgetR_len, closeZ_fst, closeR_fst, forgetR_fst, ics, *]; done) | ((try simp only [closeZ_len, closeR_len, forT_len, movT_len, ownT_len, min_if, max_if, mkD_len, movZ_len, forgetR_len, closeZ_fst, closeR_fst, forgetR_fst, ics]); simp [closeZ_len, closeR_len, forT_len, movT_len, ownT_len, min_if, max_if, mkD_len, movZ_len, forgetR_len, closeZ_fst, closeR_fst, forgetR_fst, ics, *]; omega))) (hk1 _ ⟨by omega, by omega, fun t ht => ?_⟩ (by omega))
              by_cases e : (t : Int) < j
              · exact j3 t e
              · obtain rfl : t = j.toNat := by omega
                omega
          · have q4 := of_decide_eq_false q4
            rw [wr1 (by omega) (by omega)]
            refine And.intro (by (first | (simp only [closeZ_len, closeR_len, forT_len, movT_len, ownT_len, min_if, max_if, mkD_len, movZ_len, forgetR_len, closeZ_fst, closeR_fst, forgetR_fst, ics]; done) | with_reducible rfl | ((try simp only [closeZ_len, closeR_len, forT_len, movT_len, ownT_len, min_if, max_if, mkD_len, movZ_len, forgetR_len, closeZ_fst, closeR_fst, forgetR_fst, ics]); simp [closeZ_len, closeR_len, forT_len, movT_len, ownT_len, min_if, max_if, mkD_len, movZ_len, forgetR_len, closeZ_fst, closeR_fst, forgetR_fst, ics, *]; done) | ((try simp only [closeZ_len, closeR_len, forT_len, movT_len, ownT_len, min_if, max_if, mkD_len, movZ_len, forgetR_len, closeZ_fst, closeR_fst, forgetR_fst, ics]); simp [closeZ_len, closeR_len, forT_len, movT_len, ownT_len, min_if, max_if, mkD_len, movZ_len, forgetR_len, closeZ_fst, closeR_fst, forgetR_fst, ics, *]; omega))) (hk _ ⟨by omega, by omega, fun t s ht hs => ?_⟩ (by omega))
            by_cases e : (t : Int) < i
            · exact i3 t s e hs
            · obtain rfl : t = i.toNat := by omega
              exact j3 s (by omega)
        · have q1 := of_decide_eq_false q1
          rw [hf.2 fun t s ht hs => i3 t s (by omega) hs]; rfl
theorem cx47_ok : CtxOk Try.prog cx47.q.ctx := (ctx_cons (g := 96) ctx_nil (by kernel_rfl) sum96_ok)
theorem sum47_ok : ∀ vs r, sum47 vs = some (true, r) → SoundAt Try.prog 47 vs r := by
  intro vs r h
  unfold sum47 at h
  split at h
  · simp only [Option.some.injEq, Prod.mk.injEq, Bool.and_eq_true] at h
    obtain ⟨⟨h0, h1⟩, rfl⟩ := h
    obtain ⟨n0, b0, D0, hl0, hc0, rfl⟩ := zone_elim h0
    obtain ⟨n1, b1, D1, hl1, hc1, rfl⟩ := zone_elim h1
    (try simp only [zO_ic])
    exact f47_sound _ _ _ _ _ _ cx47_ok (f47_spec n0 b0 D0 hl0 n1 b1 D1 hl1)
  · cases h

theorem f65_spec (n : Int) (b : Bool) (D : List Int) (hl : D.length = 49) (n2 : Int) (b2 : Bool) (D2 : List Int) (hl2 : D2.length = 49) (hn : okN n = true) : f65_wp n b (ic .i64 D) n2 b2 (ic .i64 D2) (fun r' => r' = boRet (withinR (n, b, D) (n2, b2, D2))) := by
  have rn := okN_rng hn
  unfold f65_wp
  refine cond_i (fun q => ?_) (fun q => ?_)
  · have q : ¬ n = n2 := by simpa using q
    unfold withinR; rw [decide_eq_false (by exact q)]; rfl
  · have q : n = n2 := by simpa using q
    subst q
    refine cond_i (fun q1 => ?_) (fun q1 => ?_)
    · subst q1; unfold withinR; simp [boRet]
    · subst q1
      (repeat ((first | with_reducible apply ck_i | with_reducible apply And.intro); · (first | (simp only [closeZ_len, closeR_len, forT_len, movT_len, ownT_len, min_if, max_if, mkD_len, movZ_len, forgetR_len, closeZ_fst, closeR_fst, forgetR_fst, ics]; done) | with_reducible rfl | ((try simp only [closeZ_len, closeR_len, forT_len, movT_len, ownT_len, min_if, max_if, mkD_len, movZ_len, forgetR_len, closeZ_fst, closeR_fst, forgetR_fst, ics]); simp [closeZ_len, closeR_len, forT_len, movT_len, ownT_len, min_if, max_if, mkD_len, movZ_len, forgetR_len, closeZ_fst, closeR_fst, forgetR_fst, ics, *]; done) | ((try simp only [closeZ_len, closeR_len, forT_len, movT_len, ownT_len, min_if, max_if, mkD_len, movZ_len, forgetR_len, closeZ_fst, closeR_fst, forgetR_fst, ics]); simp [closeZ_len, closeR_len, forT_len, movT_len, ownT_len, min_if, max_if, mkD_len, movZ_len, forgetR_len, closeZ_fst, closeR_fst, forgetR_fst, ics, *]; omega))))
      have hf : withinR (n, false, D) (n, false, D2) = true ↔ ∀ i j : Nat, i < n.toNat + 1 → j < n.toNat + 1 → g D i j ≤ g D2 i j := by
        unfold withinR
        simp only [decide_true, Bool.not_true, Bool.false_eq_true, if_false, all7, decide_eq_true_eq]
      cases b2 with
      | true =>
        refine LoopP.ind (I := fun z => z = 0) (μ := fun z => 0) ?_ rfl
        rintro i k0 rfl hk
        refine cond_i (fun q1 => ?_) (fun q1 => ?_)
        · refine cond_i (fun q2 => by cases q2) (fun q2 => ?_)
          unfold withinR; simp [boRet]
        · have := of_decide_eq_false q1; omega
      | false =>
        refine LoopP.ind (I := fun z => 0 ≤ z ∧ z ≤ n + 1 ∧ ∀ i j : Nat, (i : Int) < z → j < n.toNat + 1 → g D i j ≤ g D2 i j) (μ := fun z => (n + 1 - z).toNat) ?_ ⟨by omega, by omega, fun i j hi _ => absurd hi (by omega)⟩
        rintro i k0 ⟨i1, i2, i3⟩ hk
        refine cond_i (fun q1 => ?_) (fun q1 => ?_)
        · have q1 := of_decide_eq_true q1
          refine cond_i (fun q2 => ?_) (fun q2 => by cases q2)
          (repeat ((first | with_reducible apply ck_i | with_reducible apply And.intro); · (first | (simp only [closeZ_len, closeR_len, forT_len, movT_len, ownT_len, min_if, max_if, mkD_len, movZ_len, forgetR_len, closeZ_fst, closeR_fst, forgetR_fst, ics]; done) | with_reducible rfl | ((try simp only [closeZ_len, closeR_len, forT_len, movT_len, ownT_len, min_if, max_if, mkD_len, movZ_len, forgetR_len, closeZ_fst, closeR_fst, forgetR_fst, ics]); simp [closeZ_len, closeR_len, forT_len, movT_len, ownT_len, min_if, max_if, mkD_len, movZ_len, forgetR_len, closeZ_fst, closeR_fst, forgetR_fst, ics, *]; done) | ((try simp only [closeZ_len, closeR_len, forT_len, movT_len, ownT_len, min_if, max_if, mkD_len, movZ_len, forgetR_len, closeZ_fst, closeR_fst, forgetR_fst, ics]); simp [closeZ_len, closeR_len, forT_len, movT_len, ownT_len, min_if, max_if, mkD_len, movZ_len, forgetR_len, closeZ_fst, closeR_fst, forgetR_fst, ics, *]; omega))))
          refine LoopP.ind (I := fun z => 0 ≤ z ∧ z ≤ n + 1 ∧ ∀ j : Nat, (j : Int) < z → g D i.toNat j ≤ g D2 i.toNat j) (μ := fun z => (n + 1 - z).toNat) ?_ ⟨by omega, by omega, fun i hi => absurd hi (by omega)⟩
          rintro j k1 ⟨j1, j2, j3⟩ hk1
          refine cond_i (fun q4 => ?_) (fun q4 => ?_)
          · have q4 := of_decide_eq_true q4
            simp only [closeZ_len, closeR_len, forT_len, movT_len, ownT_len, min_if, max_if, mkD_len, movZ_len, forgetR_len, closeZ_fst, closeR_fst, forgetR_fst, ics]
            (repeat ((first | with_reducible apply ck_i | with_reducible apply And.intro); · (first | (simp only [closeZ_len, closeR_len, forT_len, movT_len, ownT_len, min_if, max_if, mkD_len, movZ_len, forgetR_len, closeZ_fst, closeR_fst, forgetR_fst, ics]; done) | with_reducible rfl | ((try simp only [closeZ_len, closeR_len, forT_len, movT_len, ownT_len, min_if, max_if, mkD_len, movZ_len, forgetR_len, closeZ_fst, closeR_fst, forgetR_fst, ics]); simp [closeZ_len, closeR_len, forT_len, movT_len, ownT_len, min_if, max_if, mkD_len, movZ_len, forgetR_len, closeZ_fst, closeR_fst, forgetR_fst, ics, *]; done) | ((try simp only [closeZ_len, closeR_len, forT_len, movT_len, ownT_len, min_if, max_if, mkD_len, movZ_len, forgetR_len, closeZ_fst, closeR_fst, forgetR_fst, ics]); simp [closeZ_len, closeR_len, forT_len, movT_len, ownT_len, min_if, max_if, mkD_len, movZ_len, forgetR_len, closeZ_fst, closeR_fst, forgetR_fst, ics, *]; omega))))
            refine cond_i (fun q7 => ?_) (fun q7 => ?_)
            · have q7 := of_decide_eq_true q7
              cases e : withinR (n, false, D) (n, false, D2) with
              | false => rfl
              | true =>
                have := hf.1 e i.toNat j.toNat (by omega) (by omega)
                omega
            · have q7 := of_decide_eq_false q7
              rw [wr1 (by omega) (by omega)]
              refine And.intro (by (first | (simp only [closeZ_len, closeR_len, forT_len, movT_len, ownT_len, min_if, max_if, mkD_len, movZ_len, forgetR_len, closeZ_fst, closeR_fst, forgetR_fst, ics]; done) | with_reducible rfl | ((try simp only [closeZ_len, closeR_len, forT_len, movT_len, ownT_len, min_if, max_if, mkD_len, movZ_len, forgetR_len, closeZ_fst, closeR_fst, forgetR_fst, ics]); simp [closeZ_len, closeR_len, forT_len, movT_len, ownT_len, min_if, max_if, mkD_len, movZ_len, forgetR_len, closeZ_fst, closeR_fst, forgetR_fst, ics, *]; done) | ((try simp only [closeZ_len, closeR_len, forT_len, movT_len, ownT_len, min_if, max_if, mkD_len, movZ_len, forgetR_len, closeZ_fst, closeR_fst, forgetR_fst, ics]); simp [closeZ_len, closeR_len, forT_len, movT_len, ownT_len, min_if, max_if, mkD_len, movZ_len, forgetR_len, closeZ_fst, closeR_fst, forgetR_fst, ics, *]; omega))) (hk1 _ ⟨by omega, by omega, fun t ht => ?_⟩ (by omega))
              by_cases e : (t : Int) < j
              · exact j3 t e
              · obtain rfl : t = j.toNat := by omega
                omega
          · have q4 := of_decide_eq_false q4
            rw [wr1 (by omega) (by omega)]
            refine And.intro (by (first | (simp only [closeZ_len, closeR_len, forT_len, movT_len, ownT_len, min_if, max_if, mkD_len, movZ_len, forgetR_len, closeZ_fst, closeR_fst, forgetR_fst, ics]; done) | with_reducible rfl | ((try simp only [closeZ_len, closeR_len, forT_len, movT_len, ownT_len, min_if, max_if, mkD_len, movZ_len, forgetR_len, closeZ_fst, closeR_fst, forgetR_fst, ics]); simp [closeZ_len, closeR_len, forT_len, movT_len, ownT_len, min_if, max_if, mkD_len, movZ_len, forgetR_len, closeZ_fst, closeR_fst, forgetR_fst, ics, *]; done) | ((try simp only [closeZ_len, closeR_len, forT_len, movT_len, ownT_len, min_if, max_if, mkD_len, movZ_len, forgetR_len, closeZ_fst, closeR_fst, forgetR_fst, ics]); simp [closeZ_len, closeR_len, forT_len, movT_len, ownT_len, min_if, max_if, mkD_len, movZ_len, forgetR_len, closeZ_fst, closeR_fst, forgetR_fst, ics, *]; omega))) (hk _ ⟨by omega, by omega, fun t s ht hs => ?_⟩ (by omega))
            by_cases e : (t : Int) < i
            · exact i3 t s e hs
            · obtain rfl : t = i.toNat := by omega
              exact j3 s (by omega)
        · have q1 := of_decide_eq_false q1
          rw [hf.2 fun t s ht hs => i3 t s (by omega) hs]; rfl
theorem cx65_ok : CtxOk Try.prog cx65.q.ctx := ctx_nil
theorem sum65_ok : ∀ vs r, sum65 vs = some (true, r) → SoundAt Try.prog 65 vs r := by
  intro vs r h
  unfold sum65 at h
  split at h
  · simp only [Option.some.injEq, Prod.mk.injEq, Bool.and_eq_true] at h
    obtain ⟨⟨⟨h0, h1⟩, h2⟩, rfl⟩ := h
    obtain ⟨n0, b0, D0, hl0, hc0, rfl⟩ := zone_elim h0
    obtain ⟨n1, b1, D1, hl1, hc1, rfl⟩ := zone_elim h1
    (try simp only [zO_ic] at h2)
    (try simp only [zO_ic])
    exact f65_sound _ _ _ _ _ _ cx65_ok (f65_spec n0 b0 D0 hl0 n1 b1 D1 hl1 h2)
  · cases h

end Go.Proofs.Ytgmciihlmgeecaa.Fn
