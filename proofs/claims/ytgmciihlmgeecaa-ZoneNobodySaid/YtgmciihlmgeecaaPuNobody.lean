import Derived.Test.YtgmciihlmgeecaaPuZC
import Derived.Test.YtgmciihlmgeecaaWLZoneNobody
import Derived.Test.YtgmciihlmgeecaaZLaws
/- ZoneNobody: the law's function tells true. Conditions: none beyond its arguments' types. -/
namespace Go.Proofs.Ytgmciihlmgeecaa.Fn
open Go Go.RowKit Go.Proofs.Ytgmciihlmgeecaa.Mt Go.Proofs.Ytgmciihlmgeecaa.Zm
set_option linter.unusedVariables false
set_option linter.unusedSimpArgs false

theorem okRowU_ic {s n : Nat} {l : List Int} (h : l.length = n * s) : okRowU s (.sl n (ic .i64 l)) = true := by
  simp only [okRowU, Bool.and_eq_true, beq_iff_eq, ic_len]
  exact ⟨ic_all fun _ => rfl, h⟩
theorem same_refl (z : Zo) : sameZ z z = true := by unfold sameZ; exact decide_eq_true rfl
theorem good_of {n : Nat} {z : Zo} (h : Gd n z) : goodZ z = true := good_iff.2 ⟨n, h⟩
theorem wf64 {x : Int} (h : (Lit.int .i64 x).wf = true) : -9223372036854775808 ≤ x ∧ x ≤ 9223372036854775807 := by
  simp [Lit.wf, IntKind.min, IntKind.max, IntKind.bits, IntKind.signed] at h; omega

set_option maxHeartbeats 2000000 in
theorem f6_pure (a0 : Int) (n : Nat) (l : List Int) (hl : l.length = n * 4) (x : Int) (hx : -9223372036854775808 ≤ x ∧ x ≤ 9223372036854775807) : f6_wp a0 n (ic .i64 l) x (fun r' => r' = boRet true) := by
  have hk7 := mod_in (a := a0) (m := 7) (by omega) (by omega)
  have ro := okRowU_ic hl
  unfold f6_wp
  (try delta X6_0)
  generalize IntKind.i64.wrap ((IntKind.u64.wrap a0).tmod 7) = kk at *
  obtain ⟨K, rfl⟩ : ∃ K : Nat, kk = K := ⟨kk.toNat, by omega⟩
  have K6 : K ≤ 6 := by omega
  refine letV_j fun u1 h1 => ?_
  have g1 : Gd K u1 := by rw [← h1]; exact (top_rep K6).1
  have l1 : u1.2.2.length = 49 := g1.len
  refine ck_i (by (first | (simp only [min_if, max_if, ics]; done) | with_reducible rfl | ((try simp only [min_if, max_if, ics]); simp [min_if, max_if, ics, *]; done) | ((try simp only [min_if, max_if, ics]); simp [min_if, max_if, ics, *]; omega))) ?_
  refine letV_j fun u3 h3 => ?_
  obtain rfl : u1 = u3 := by rw [← h1, ← h3, topR_eq K6]
  have s1 : sameZ (u1.1, u1.2.1, u1.2.2) (u1.1, u1.2.1, u1.2.2) = true := same_refl _
  have d1 : goodZ (u1.1, u1.2.1, u1.2.2) = true := good_of g1
  clear h3 h1
  (repeat ((first | with_reducible apply ck_i | with_reducible apply And.intro); · (first | (simp only [min_if, max_if, ics]; done) | with_reducible rfl | ((try simp only [min_if, max_if, ics]); simp [min_if, max_if, ics, *]; done) | ((try simp only [min_if, max_if, ics]); simp [min_if, max_if, ics, *]; omega))))
  refine letV_j fun u5 h5 => ?_
  simp only [map_ic, Prod.eta] at h5
  have g5 := apply_gd g1 (m := n) (l := l)
  rw [h5] at g5
  have l5 : u5.2.2.length = 49 := g5.len
  have k5 := okL49 l5
  have e5 := eqW49s l5
  clear h5
  (repeat ((first | with_reducible apply ck_i | with_reducible apply And.intro); · (first | (simp only [min_if, max_if, ics]; done) | with_reducible rfl | ((try simp only [min_if, max_if, ics]); simp [min_if, max_if, ics, *]; done) | ((try simp only [min_if, max_if, ics]); simp [min_if, max_if, ics, *]; omega))))
  refine cond_i (fun q1 => ?_) (fun q1 => ?_)
  · have q1 : x ≥ 0 := of_decide_eq_true q1
    refine cond_i (fun q2 => ?_) (fun q2 => ?_)
    · have q2 : x < K := of_decide_eq_true q2
      rw [IntWalk.i64_in ((K : Int) + x) ⟨by omega, by omega⟩]
      refine cond_i (fun q3 => ?_) (fun q3 => ?_)
      · have q3 : (K : Int) + x = -1 := by simpa using q3
        omega
      · have hV : ¬ (-1 ≤ (K : Int) + x ∧ (K : Int) + x < K) := by omega
        generalize hvv : (K : Int) + x = V at *
        (repeat ((first | with_reducible apply ck_i | with_reducible apply And.intro); · (first | (simp only [min_if, max_if, ics]; done) | with_reducible rfl | ((try simp only [min_if, max_if, ics]); simp [min_if, max_if, ics, *]; done) | ((try simp only [min_if, max_if, ics]); simp [min_if, max_if, ics, *]; omega))))
        refine letV_j fun w hw => ?_
        obtain rfl : u5 = w := by rw [← hw, map_ic]; exact (boundZ_un g5 (.inl hV)).symm
        clear hw
        (repeat ((first | with_reducible apply ck_i | with_reducible apply And.intro); · (first | (simp only [min_if, max_if, ics]; done) | with_reducible rfl | ((try simp only [min_if, max_if, ics]); simp [min_if, max_if, ics, *]; done) | ((try simp only [min_if, max_if, ics]); simp [min_if, max_if, ics, *]; omega))))
        refine letV_j fun w hw => ?_
        obtain rfl : u5 = w := by rw [← hw, map_ic]; exact (boundZ_un g5 (.inr hV)).symm
        clear hw
        (repeat ((first | with_reducible apply ck_i | with_reducible apply And.intro); · (first | (simp only [min_if, max_if, ics]; done) | with_reducible rfl | ((try simp only [min_if, max_if, ics]); simp [min_if, max_if, ics, *]; done) | ((try simp only [min_if, max_if, ics]); simp [min_if, max_if, ics, *]; omega))))
        refine letV_j fun w hw => ?_
        obtain rfl : u5 = w := by rw [← hw, map_ic]; exact (forgetZ_un g5 (by omega)).symm
        clear hw
        (repeat ((first | with_reducible apply ck_i | with_reducible apply And.intro); · (first | (simp only [min_if, max_if, ics]; done) | with_reducible rfl | ((try simp only [min_if, max_if, ics]); simp [min_if, max_if, ics, *]; done) | ((try simp only [min_if, max_if, ics]); simp [min_if, max_if, ics, *]; omega))))
        refine letV_j fun w hw => ?_
        obtain rfl : u5 = w := by rw [← hw, map_ic]; exact (forgetZ_un g5 (by omega)).symm
        clear hw
        (repeat ((first | with_reducible apply ck_i | with_reducible apply And.intro); · (first | (simp only [min_if, max_if, ics]; done) | with_reducible rfl | ((try simp only [min_if, max_if, ics]); simp [min_if, max_if, ics, *]; done) | ((try simp only [min_if, max_if, ics]); simp [min_if, max_if, ics, *]; omega))))
        refine letV_j fun w hw => ?_
        obtain rfl : u5 = w := by rw [← hw, map_ic]; exact (copyZ_un g5 (.inl (by omega))).symm
        clear hw
        (repeat ((first | with_reducible apply ck_i | with_reducible apply And.intro); · (first | (simp only [min_if, max_if, ics]; done) | with_reducible rfl | ((try simp only [min_if, max_if, ics]); simp [min_if, max_if, ics, *]; done) | ((try simp only [min_if, max_if, ics]); simp [min_if, max_if, ics, *]; omega))))
        refine letV_j fun w hw => ?_
        obtain rfl : u5 = w := by rw [← hw, map_ic]; exact (copyZ_un g5 (.inl (by omega))).symm
        clear hw
        (repeat ((first | with_reducible apply ck_i | with_reducible apply And.intro); · (first | (simp only [min_if, max_if, ics]; done) | with_reducible rfl | ((try simp only [min_if, max_if, ics]); simp [min_if, max_if, ics, *]; done) | ((try simp only [min_if, max_if, ics]); simp [min_if, max_if, ics, *]; omega))))
        refine cond_i (fun q => ?_) (fun q => ?_)
        · skip
          refine letV_j fun w hw => ?_
          obtain rfl : w = (1, 0) := by rw [← hw, map_ic]; exact itv_out g5 (by omega)
          clear hw
          (repeat ((first | with_reducible apply ck_i | with_reducible apply And.intro); · (first | (simp only [min_if, max_if, ics]; done) | with_reducible rfl | ((try simp only [min_if, max_if, ics]); simp [min_if, max_if, ics, *]; done) | ((try simp only [min_if, max_if, ics]); simp [min_if, max_if, ics, *]; omega))))
          rfl
        · skip
          refine letV_j fun w hw => ?_
          obtain rfl : u5 = w := by rw [← hw, map_ic]; exact (copyZ_un g5 (.inr hV)).symm
          clear hw
          (repeat ((first | with_reducible apply ck_i | with_reducible apply And.intro); · (first | (simp only [min_if, max_if, ics]; done) | with_reducible rfl | ((try simp only [min_if, max_if, ics]); simp [min_if, max_if, ics, *]; done) | ((try simp only [min_if, max_if, ics]); simp [min_if, max_if, ics, *]; omega))))
          refine letV_j fun w hw => ?_
          obtain rfl : w = (1, 0) := by rw [← hw, map_ic]; exact itv_out g5 (by omega)
          clear hw
          (repeat ((first | with_reducible apply ck_i | with_reducible apply And.intro); · (first | (simp only [min_if, max_if, ics]; done) | with_reducible rfl | ((try simp only [min_if, max_if, ics]); simp [min_if, max_if, ics, *]; done) | ((try simp only [min_if, max_if, ics]); simp [min_if, max_if, ics, *]; omega))))
          rfl
    · have q2 : ¬ x < K := of_decide_eq_false q2
      refine cond_i (fun q3 => ?_) (fun q3 => ?_)
      · have q3 : x = -1 := by simpa using q3
        omega
      · have hV : ¬ (-1 ≤ x ∧ x < K) := by omega
        (repeat ((first | with_reducible apply ck_i | with_reducible apply And.intro); · (first | (simp only [min_if, max_if, ics]; done) | with_reducible rfl | ((try simp only [min_if, max_if, ics]); simp [min_if, max_if, ics, *]; done) | ((try simp only [min_if, max_if, ics]); simp [min_if, max_if, ics, *]; omega))))
        refine letV_j fun w hw => ?_
        obtain rfl : u5 = w := by rw [← hw, map_ic]; exact (boundZ_un g5 (.inl hV)).symm
        clear hw
        (repeat ((first | with_reducible apply ck_i | with_reducible apply And.intro); · (first | (simp only [min_if, max_if, ics]; done) | with_reducible rfl | ((try simp only [min_if, max_if, ics]); simp [min_if, max_if, ics, *]; done) | ((try simp only [min_if, max_if, ics]); simp [min_if, max_if, ics, *]; omega))))
        refine letV_j fun w hw => ?_
        obtain rfl : u5 = w := by rw [← hw, map_ic]; exact (boundZ_un g5 (.inr hV)).symm
        clear hw
        (repeat ((first | with_reducible apply ck_i | with_reducible apply And.intro); · (first | (simp only [min_if, max_if, ics]; done) | with_reducible rfl | ((try simp only [min_if, max_if, ics]); simp [min_if, max_if, ics, *]; done) | ((try simp only [min_if, max_if, ics]); simp [min_if, max_if, ics, *]; omega))))
        refine letV_j fun w hw => ?_
        obtain rfl : u5 = w := by rw [← hw, map_ic]; exact (forgetZ_un g5 (by omega)).symm
        clear hw
        (repeat ((first | with_reducible apply ck_i | with_reducible apply And.intro); · (first | (simp only [min_if, max_if, ics]; done) | with_reducible rfl | ((try simp only [min_if, max_if, ics]); simp [min_if, max_if, ics, *]; done) | ((try simp only [min_if, max_if, ics]); simp [min_if, max_if, ics, *]; omega))))
        refine letV_j fun w hw => ?_
        obtain rfl : u5 = w := by rw [← hw, map_ic]; exact (forgetZ_un g5 (by omega)).symm
        clear hw
        (repeat ((first | with_reducible apply ck_i | with_reducible apply And.intro); · (first | (simp only [min_if, max_if, ics]; done) | with_reducible rfl | ((try simp only [min_if, max_if, ics]); simp [min_if, max_if, ics, *]; done) | ((try simp only [min_if, max_if, ics]); simp [min_if, max_if, ics, *]; omega))))
        refine letV_j fun w hw => ?_
        obtain rfl : u5 = w := by rw [← hw, map_ic]; exact (copyZ_un g5 (.inl (by omega))).symm
        clear hw
        (repeat ((first | with_reducible apply ck_i | with_reducible apply And.intro); · (first | (simp only [min_if, max_if, ics]; done) | with_reducible rfl | ((try simp only [min_if, max_if, ics]); simp [min_if, max_if, ics, *]; done) | ((try simp only [min_if, max_if, ics]); simp [min_if, max_if, ics, *]; omega))))
        refine letV_j fun w hw => ?_
        obtain rfl : u5 = w := by rw [← hw, map_ic]; exact (copyZ_un g5 (.inl (by omega))).symm
        clear hw
        (repeat ((first | with_reducible apply ck_i | with_reducible apply And.intro); · (first | (simp only [min_if, max_if, ics]; done) | with_reducible rfl | ((try simp only [min_if, max_if, ics]); simp [min_if, max_if, ics, *]; done) | ((try simp only [min_if, max_if, ics]); simp [min_if, max_if, ics, *]; omega))))
        refine cond_i (fun q => ?_) (fun q => ?_)
        · skip
          refine letV_j fun w hw => ?_
          obtain rfl : w = (1, 0) := by rw [← hw, map_ic]; exact itv_out g5 (by omega)
          clear hw
          (repeat ((first | with_reducible apply ck_i | with_reducible apply And.intro); · (first | (simp only [min_if, max_if, ics]; done) | with_reducible rfl | ((try simp only [min_if, max_if, ics]); simp [min_if, max_if, ics, *]; done) | ((try simp only [min_if, max_if, ics]); simp [min_if, max_if, ics, *]; omega))))
          rfl
        · skip
          refine letV_j fun w hw => ?_
          obtain rfl : u5 = w := by rw [← hw, map_ic]; exact (copyZ_un g5 (.inr hV)).symm
          clear hw
          (repeat ((first | with_reducible apply ck_i | with_reducible apply And.intro); · (first | (simp only [min_if, max_if, ics]; done) | with_reducible rfl | ((try simp only [min_if, max_if, ics]); simp [min_if, max_if, ics, *]; done) | ((try simp only [min_if, max_if, ics]); simp [min_if, max_if, ics, *]; omega))))
          refine letV_j fun w hw => ?_
          obtain rfl : w = (1, 0) := by rw [← hw, map_ic]; exact itv_out g5 (by omega)
          clear hw
          (repeat ((first | with_reducible apply ck_i | with_reducible apply And.intro); · (first | (simp only [min_if, max_if, ics]; done) | with_reducible rfl | ((try simp only [min_if, max_if, ics]); simp [min_if, max_if, ics, *]; done) | ((try simp only [min_if, max_if, ics]); simp [min_if, max_if, ics, *]; omega))))
          rfl
  · have q1 : ¬ x ≥ 0 := of_decide_eq_false q1
    refine cond_i (fun q3 => ?_) (fun q3 => ?_)
    · have hV : ¬ (-1 ≤ (-2 : Int) ∧ (-2 : Int) < K) := by omega
      (repeat ((first | with_reducible apply ck_i | with_reducible apply And.intro); · (first | (simp only [min_if, max_if, ics]; done) | with_reducible rfl | ((try simp only [min_if, max_if, ics]); simp [min_if, max_if, ics, *]; done) | ((try simp only [min_if, max_if, ics]); simp [min_if, max_if, ics, *]; omega))))
      refine letV_j fun w hw => ?_
      obtain rfl : u5 = w := by rw [← hw, map_ic]; exact (boundZ_un g5 (.inl hV)).symm
      clear hw
      (repeat ((first | with_reducible apply ck_i | with_reducible apply And.intro); · (first | (simp only [min_if, max_if, ics]; done) | with_reducible rfl | ((try simp only [min_if, max_if, ics]); simp [min_if, max_if, ics, *]; done) | ((try simp only [min_if, max_if, ics]); simp [min_if, max_if, ics, *]; omega))))
      refine letV_j fun w hw => ?_
      obtain rfl : u5 = w := by rw [← hw, map_ic]; exact (boundZ_un g5 (.inr hV)).symm
      clear hw
      (repeat ((first | with_reducible apply ck_i | with_reducible apply And.intro); · (first | (simp only [min_if, max_if, ics]; done) | with_reducible rfl | ((try simp only [min_if, max_if, ics]); simp [min_if, max_if, ics, *]; done) | ((try simp only [min_if, max_if, ics]); simp [min_if, max_if, ics, *]; omega))))
      refine letV_j fun w hw => ?_
      obtain rfl : u5 = w := by rw [← hw, map_ic]; exact (forgetZ_un g5 (by omega)).symm
      clear hw
      (repeat ((first | with_reducible apply ck_i | with_reducible apply And.intro); · (first | (simp only [min_if, max_if, ics]; done) | with_reducible rfl | ((try simp only [min_if, max_if, ics]); simp [min_if, max_if, ics, *]; done) | ((try simp only [min_if, max_if, ics]); simp [min_if, max_if, ics, *]; omega))))
      refine letV_j fun w hw => ?_
      obtain rfl : u5 = w := by rw [← hw, map_ic]; exact (forgetZ_un g5 (by omega)).symm
      clear hw
      (repeat ((first | with_reducible apply ck_i | with_reducible apply And.intro); · (first | (simp only [min_if, max_if, ics]; done) | with_reducible rfl | ((try simp only [min_if, max_if, ics]); simp [min_if, max_if, ics, *]; done) | ((try simp only [min_if, max_if, ics]); simp [min_if, max_if, ics, *]; omega))))
      refine letV_j fun w hw => ?_
      obtain rfl : u5 = w := by rw [← hw, map_ic]; exact (copyZ_un g5 (.inl (by omega))).symm
      clear hw
      (repeat ((first | with_reducible apply ck_i | with_reducible apply And.intro); · (first | (simp only [min_if, max_if, ics]; done) | with_reducible rfl | ((try simp only [min_if, max_if, ics]); simp [min_if, max_if, ics, *]; done) | ((try simp only [min_if, max_if, ics]); simp [min_if, max_if, ics, *]; omega))))
      refine letV_j fun w hw => ?_
      obtain rfl : u5 = w := by rw [← hw, map_ic]; exact (copyZ_un g5 (.inl (by omega))).symm
      clear hw
      (repeat ((first | with_reducible apply ck_i | with_reducible apply And.intro); · (first | (simp only [min_if, max_if, ics]; done) | with_reducible rfl | ((try simp only [min_if, max_if, ics]); simp [min_if, max_if, ics, *]; done) | ((try simp only [min_if, max_if, ics]); simp [min_if, max_if, ics, *]; omega))))
      refine cond_i (fun q => ?_) (fun q => ?_)
      · skip
        refine letV_j fun w hw => ?_
        obtain rfl : w = (1, 0) := by rw [← hw, map_ic]; exact itv_out g5 (by omega)
        clear hw
        (repeat ((first | with_reducible apply ck_i | with_reducible apply And.intro); · (first | (simp only [min_if, max_if, ics]; done) | with_reducible rfl | ((try simp only [min_if, max_if, ics]); simp [min_if, max_if, ics, *]; done) | ((try simp only [min_if, max_if, ics]); simp [min_if, max_if, ics, *]; omega))))
        rfl
      · skip
        refine letV_j fun w hw => ?_
        obtain rfl : u5 = w := by rw [← hw, map_ic]; exact (copyZ_un g5 (.inr hV)).symm
        clear hw
        (repeat ((first | with_reducible apply ck_i | with_reducible apply And.intro); · (first | (simp only [min_if, max_if, ics]; done) | with_reducible rfl | ((try simp only [min_if, max_if, ics]); simp [min_if, max_if, ics, *]; done) | ((try simp only [min_if, max_if, ics]); simp [min_if, max_if, ics, *]; omega))))
        refine letV_j fun w hw => ?_
        obtain rfl : w = (1, 0) := by rw [← hw, map_ic]; exact itv_out g5 (by omega)
        clear hw
        (repeat ((first | with_reducible apply ck_i | with_reducible apply And.intro); · (first | (simp only [min_if, max_if, ics]; done) | with_reducible rfl | ((try simp only [min_if, max_if, ics]); simp [min_if, max_if, ics, *]; done) | ((try simp only [min_if, max_if, ics]); simp [min_if, max_if, ics, *]; omega))))
        rfl
    · have q3 : ¬ x = -1 := by simpa using q3
      have hV : ¬ (-1 ≤ x ∧ x < K) := by omega
      (repeat ((first | with_reducible apply ck_i | with_reducible apply And.intro); · (first | (simp only [min_if, max_if, ics]; done) | with_reducible rfl | ((try simp only [min_if, max_if, ics]); simp [min_if, max_if, ics, *]; done) | ((try simp only [min_if, max_if, ics]); simp [min_if, max_if, ics, *]; omega))))
      refine letV_j fun w hw => ?_
      obtain rfl : u5 = w := by rw [← hw, map_ic]; exact (boundZ_un g5 (.inl hV)).symm
      clear hw
      (repeat ((first | with_reducible apply ck_i | with_reducible apply And.intro); · (first | (simp only [min_if, max_if, ics]; done) | with_reducible rfl | ((try simp only [min_if, max_if, ics]); simp [min_if, max_if, ics, *]; done) | ((try simp only [min_if, max_if, ics]); simp [min_if, max_if, ics, *]; omega))))
      refine letV_j fun w hw => ?_
      obtain rfl : u5 = w := by rw [← hw, map_ic]; exact (boundZ_un g5 (.inr hV)).symm
      clear hw
      (repeat ((first | with_reducible apply ck_i | with_reducible apply And.intro); · (first | (simp only [min_if, max_if, ics]; done) | with_reducible rfl | ((try simp only [min_if, max_if, ics]); simp [min_if, max_if, ics, *]; done) | ((try simp only [min_if, max_if, ics]); simp [min_if, max_if, ics, *]; omega))))
      refine letV_j fun w hw => ?_
      obtain rfl : u5 = w := by rw [← hw, map_ic]; exact (forgetZ_un g5 (by omega)).symm
      clear hw
      (repeat ((first | with_reducible apply ck_i | with_reducible apply And.intro); · (first | (simp only [min_if, max_if, ics]; done) | with_reducible rfl | ((try simp only [min_if, max_if, ics]); simp [min_if, max_if, ics, *]; done) | ((try simp only [min_if, max_if, ics]); simp [min_if, max_if, ics, *]; omega))))
      refine letV_j fun w hw => ?_
      obtain rfl : u5 = w := by rw [← hw, map_ic]; exact (forgetZ_un g5 (by omega)).symm
      clear hw
      (repeat ((first | with_reducible apply ck_i | with_reducible apply And.intro); · (first | (simp only [min_if, max_if, ics]; done) | with_reducible rfl | ((try simp only [min_if, max_if, ics]); simp [min_if, max_if, ics, *]; done) | ((try simp only [min_if, max_if, ics]); simp [min_if, max_if, ics, *]; omega))))
      refine letV_j fun w hw => ?_
      obtain rfl : u5 = w := by rw [← hw, map_ic]; exact (copyZ_un g5 (.inl (by omega))).symm
      clear hw
      (repeat ((first | with_reducible apply ck_i | with_reducible apply And.intro); · (first | (simp only [min_if, max_if, ics]; done) | with_reducible rfl | ((try simp only [min_if, max_if, ics]); simp [min_if, max_if, ics, *]; done) | ((try simp only [min_if, max_if, ics]); simp [min_if, max_if, ics, *]; omega))))
      refine letV_j fun w hw => ?_
      obtain rfl : u5 = w := by rw [← hw, map_ic]; exact (copyZ_un g5 (.inl (by omega))).symm
      clear hw
      (repeat ((first | with_reducible apply ck_i | with_reducible apply And.intro); · (first | (simp only [min_if, max_if, ics]; done) | with_reducible rfl | ((try simp only [min_if, max_if, ics]); simp [min_if, max_if, ics, *]; done) | ((try simp only [min_if, max_if, ics]); simp [min_if, max_if, ics, *]; omega))))
      refine cond_i (fun q => ?_) (fun q => ?_)
      · skip
        refine letV_j fun w hw => ?_
        obtain rfl : w = (1, 0) := by rw [← hw, map_ic]; exact itv_out g5 (by omega)
        clear hw
        (repeat ((first | with_reducible apply ck_i | with_reducible apply And.intro); · (first | (simp only [min_if, max_if, ics]; done) | with_reducible rfl | ((try simp only [min_if, max_if, ics]); simp [min_if, max_if, ics, *]; done) | ((try simp only [min_if, max_if, ics]); simp [min_if, max_if, ics, *]; omega))))
        rfl
      · skip
        refine letV_j fun w hw => ?_
        obtain rfl : u5 = w := by rw [← hw, map_ic]; exact (copyZ_un g5 (.inr hV)).symm
        clear hw
        (repeat ((first | with_reducible apply ck_i | with_reducible apply And.intro); · (first | (simp only [min_if, max_if, ics]; done) | with_reducible rfl | ((try simp only [min_if, max_if, ics]); simp [min_if, max_if, ics, *]; done) | ((try simp only [min_if, max_if, ics]); simp [min_if, max_if, ics, *]; omega))))
        refine letV_j fun w hw => ?_
        obtain rfl : w = (1, 0) := by rw [← hw, map_ic]; exact itv_out g5 (by omega)
        clear hw
        (repeat ((first | with_reducible apply ck_i | with_reducible apply And.intro); · (first | (simp only [min_if, max_if, ics]; done) | with_reducible rfl | ((try simp only [min_if, max_if, ics]); simp [min_if, max_if, ics, *]; done) | ((try simp only [min_if, max_if, ics]); simp [min_if, max_if, ics, *]; omega))))
        rfl
theorem cx6_ok : CtxOk Try.prog cx6.q.ctx := (ctx_cons (g := 25) (ctx_cons (g := 31) (ctx_cons (g := 35) (ctx_cons (g := 28) (ctx_cons (g := 26) (ctx_cons (g := 37) (ctx_cons (g := 27) (ctx_cons (g := 29) (ctx_cons (g := 36) ctx_nil (by kernel_rfl) sum36_ok) (by kernel_rfl) sum29_ok) (by kernel_rfl) sum27_ok) (by kernel_rfl) sum37_ok) (by kernel_rfl) sum26_ok) (by kernel_rfl) sum28_ok) (by kernel_rfl) sum35_ok) (by kernel_rfl) sum31_ok) (by kernel_rfl) sum25_ok)
theorem f6_true (a0 : Int) (n : Nat) (cs : List Cell) (a2 : Int) (_ : (Lit.int .i64 a0).wf = true) {D : Nat} (h : TyC Try.prog D 36 [.sl n cs]) (h2 : (Lit.int .i64 a2).wf = true) : f6_wp a0 n cs a2 (fun r' => r' = boRet true) := by
  obtain ⟨l, rfl, e, _⟩ := row_ints (k := .i64) (S := [3, 47, 48]) (s := 4) (by kernel_rfl) Try.underlying36 (by decide) (by kernel_rfl) (by decide) h
  exact f6_pure a0 n l e a2 (wf64 h2)

end Go.Proofs.Ytgmciihlmgeecaa.Fn
