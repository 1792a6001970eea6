import Derived.Test.YtlfojobligplkaaRows
import Derived.Test.YtlfojobligplkaaMtRow2
import Derived.Test.YtlfojobligplkaaPuOrders
import Derived.WalkKit
import Derived.ProofKit
import Derived.OpenShut
import Derived.ShutString
import Derived.ChangeOld
import Derived.Below
import Derived.SizedLaws
import Derived.Carry
/- The statement QueueOrders, as it is given. No conditions beyond its own. -/
namespace Go.Proofs.Ytlfojobligplkaa.RQueueOrders
open Go Go.ChangeShapes Go.WideShapes Go.ChangeAt Go.RowKit Go.Proofs Go.Proofs.Ytlfojobligplkaa.Mt Go.Proofs.Ytlfojobligplkaa.Fn
set_option linter.unusedVariables false
set_option linter.unusedSimpArgs false
theorem own : ownKnob Try.prog.godebug = none := by kernel_rfl
theorem laidOut : laidOutB Try.prog = true := by kernel_rfl
theorem closed : closedT Try.prog [3,24,29,53,54,22] = true := by kernel_rfl
set_option maxRecDepth 100000 in
theorem lifted (os : Os) (started : os.Started) (H : Type) (enc : TypeId × Value → H) :
    ReturnsInHanded {} Try.checked os 5 .any (Rows.queueOrdersSpec.pre6 enc Try.prog Try.f5 Rows.queueOrdersRow.domain false) (Rows.queueOrdersSpec.post enc Try.prog Try.f5 false true false false) := by
  refine returnsInHanded_of_change_sized (C := Try.checked) own started (by kernel_rfl) Try.func5
    (ChangeSpec.witness6 (enc := enc) (C := Try.checked) false ⟨#[], #[.agg #[.int .i64 0, .int .i64 0, .int .i64 0], .agg #[.int .i64 0, .int .i64 0, .int .i64 0]], []⟩ 8 (by kernel_rfl) (by kernel_rfl) (by kernel_rfl) (by kernel_rfl)) ?_
  intro W base args ds gs before hval0 hW hcnd hsz0 _
  have hval : ∀ (j : Nat) t v, Try.f5.params[j]? = some t → args[j]? = some v → Value.okWide Try.prog W .any base t v := hval0
  have hW' := hW
  obtain ⟨p, q, hA0, hV, rfl, hfz, hnd⟩ := hW
  have hA : DataW.TrodAll enc Try.prog W 0 (fun _ => true) true Try.f5.params.toList args.toList ds p := hA0
  rw [Try.params5] at hA hval
  obtain ⟨v0, vs0, d0, ds0, p0, q0, hargs, rfl, rfl, h0, r0⟩ := trodAll_cons hA
  obtain ⟨v1, vs1, d1, ds1, p1, q1, rfl, rfl, rfl, h1, r1⟩ := trodAll_cons r0
  obtain ⟨rfl, rfl, rfl⟩ := trodAll_nil r1
  obtain rfl : args = #[v0, v1] := by cases args; simp_all
  obtain ⟨rfl, rfl⟩ := trodVars_none hV
  have k0 := h0
  have lt0 : ∀ x ∈ p0, x.block < W.heap.size := by obtain ⟨m, hm⟩ := k0; exact DataW.trod_lt m _ _ _ hm
  obtain ⟨xs0, rfl, kw0_0⟩ := open_flat (ks := [some .i64, some .i64, some .i64]) (by kernel_rfl) (by kernel_rfl) (by kernel_rfl) (hval 0 54 v0 rfl rfl) h0
  obtain ⟨a0_0, y0_0, rfl, w0_0, kw0_1⟩ := kw0_0.int
  obtain ⟨a0_1, y0_1, rfl, w0_1, kw0_2⟩ := kw0_1.int
  obtain ⟨a0_2, y0_2, rfl, w0_2, kw0_3⟩ := kw0_2.int
  obtain rfl := kw0_3.end'
  have k1 := h1
  have lt1 : ∀ x ∈ p1, x.block < W.heap.size := by obtain ⟨m, hm⟩ := k1; exact DataW.trod_lt m _ _ _ hm
  obtain ⟨xs1, rfl, kw1_0⟩ := open_flat (ks := [some .i64, some .i64, some .i64]) (by kernel_rfl) (by kernel_rfl) (by kernel_rfl) (hval 1 54 v1 rfl rfl) h1
  obtain ⟨a1_0, y1_0, rfl, w1_0, kw1_1⟩ := kw1_0.int
  obtain ⟨a1_1, y1_1, rfl, w1_1, kw1_2⟩ := kw1_1.int
  obtain ⟨a1_2, y1_2, rfl, w1_2, kw1_3⟩ := kw1_2.int
  obtain rfl := kw1_3.end'
  have hs := f5_sound a0_0 a0_1 a0_2 a1_0 a1_1 a1_2 cx5_ok (f5_true a0_0 a0_1 a0_2 a1_0 a1_1 a1_2 w0_0 w0_1 w0_2 w1_0 w1_1 w1_2)
  refine (law_calls (w := W) hs (args_cons (arg_agg (xs := [.int .i64 a0_0, .int .i64 a0_1, .int .i64 a0_2]) (by simp [Value.oneCell'])) (args_cons (arg_agg (xs := [.int .i64 a1_0, .int .i64 a1_1, .int .i64 a1_2]) (by simp [Value.oneCell'])) args_nil))).mono fun e W' ⟨he, bel⟩ => ?_
  subst he
  exact ⟨_, rfl, _, _, _, [], _, [], hW', trodAll_mk1 (shut_bool Try.underlying4 _), (trodAll_cons_mk (Below.trod laidOut (by kernel_rfl) (of_decide_eq_true (by kernel_rfl)) k0 bel lt0) (trodAll_cons_mk (Below.trod laidOut (by kernel_rfl) (of_decide_eq_true (by kernel_rfl)) k1 bel lt1) trodAll_mk0)), rfl, bel.frame _, fun h => by cases h⟩
theorem over : Rows.queueOrdersRow.holds Try.pinned (OpenSpec.ofChange Rows.queueOrdersSpec) :=
  OpenClaim.holds_of_wide 5 Try.f5 rfl rfl rfl rfl rfl rfl rfl ⟨rfl, rfl, rfl, rfl, rfl⟩ rfl rfl rfl rfl rfl (by kernel_rfl) Try.func5 (by kernel_rfl)
    (of_decide_eq_true (by kernel_rfl)) (by unfold Func.isWrapper; first | (rw [if_pos (by decide +kernel)]; kernel_rfl) | (rw [if_neg (by decide +kernel)]; exact ⟨rfl, rfl⟩))
    (fun os started H enc _ => lifted os started H enc)
end Go.Proofs.Ytlfojobligplkaa.RQueueOrders
namespace Go.Proofs.Ytlfojobligplkaa
/-- The statement. -/
theorem queueOrders_holds : Rows.QueueOrdersSaid := RQueueOrders.over
end Go.Proofs.Ytlfojobligplkaa

