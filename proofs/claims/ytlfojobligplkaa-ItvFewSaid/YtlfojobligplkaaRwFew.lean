import Derived.Test.YtlfojobligplkaaRows
import Derived.Test.YtlfojobligplkaaPuFew2
import Derived.WalkKit
import Derived.ProofKit
import Derived.OpenShut
import Derived.ShutString
import Derived.ChangeOld
import Derived.Below
import Derived.SizedLaws
import Derived.Carry
/- The statement ItvFew, as it is given. No conditions beyond its own. -/
namespace Go.Proofs.Ytlfojobligplkaa.RItvFew
open Go Go.ChangeShapes Go.WideShapes Go.ChangeAt Go.RowKit Go.Proofs Go.Proofs.Ytlfojobligplkaa.Mt Go.Proofs.Ytlfojobligplkaa.Fn
set_option linter.unusedVariables false
set_option linter.unusedSimpArgs false
theorem own : ownKnob Try.prog.godebug = none := by kernel_rfl
theorem laidOut : laidOutB Try.prog = true := by kernel_rfl
set_option maxRecDepth 100000 in
theorem lifted (os : Os) (started : os.Started) (H : Type) (enc : TypeId × Value → H) :
    ReturnsInHanded {} Try.checked os 7 .any (Rows.itvFewSpec.pre6 enc Try.prog Try.f7 Rows.itvFewRow.domain false) (Rows.itvFewSpec.post enc Try.prog Try.f7 false true false false) := by
  refine returnsInHanded_of_change_sized (C := Try.checked) own started (by kernel_rfl) Try.func7
    (ChangeSpec.witness6 (enc := enc) (C := Try.checked) false ⟨#[], #[.agg #[.int .i64 0, .int .i64 0], .agg #[.int .i64 0, .int .i64 0], .int .i64 0], []⟩ 8 (by kernel_rfl) (by kernel_rfl) (by kernel_rfl) (by kernel_rfl)) ?_
  intro W base args ds gs before hval0 hW hcnd hsz0 _
  have hval : ∀ (j : Nat) t v, Try.f7.params[j]? = some t → args[j]? = some v → Value.okWide Try.prog W .any base t v := hval0
  have hW' := hW
  obtain ⟨p, q, hA0, hV, rfl, hfz, hnd⟩ := hW
  have hA : DataW.TrodAll enc Try.prog W 0 (fun _ => true) true Try.f7.params.toList args.toList ds p := hA0
  rw [Try.params7] at hA hval
  obtain ⟨v0, vs0, d0, ds0, p0, q0, hargs, rfl, rfl, h0, r0⟩ := trodAll_cons hA
  obtain ⟨v1, vs1, d1, ds1, p1, q1, rfl, rfl, rfl, h1, r1⟩ := trodAll_cons r0
  obtain ⟨v2, vs2, d2, ds2, p2, q2, rfl, rfl, rfl, h2, r2⟩ := trodAll_cons r1
  obtain ⟨rfl, rfl, rfl⟩ := trodAll_nil r2
  obtain rfl : args = #[v0, v1, v2] := by cases args; simp_all
  obtain ⟨rfl, rfl⟩ := trodVars_none hV
  have k0 := h0
  have lt0 : ∀ x ∈ p0, x.block < W.heap.size := by obtain ⟨m, hm⟩ := k0; exact DataW.trod_lt m _ _ _ hm
  obtain ⟨xs0, rfl, kw0_0⟩ := open_flat (ks := [some .i64, some .i64]) (by kernel_rfl) (by kernel_rfl) (by kernel_rfl) (hval 0 67 v0 rfl rfl) h0
  obtain ⟨a0_0, y0_0, rfl, w0_0, kw0_1⟩ := kw0_0.int
  obtain ⟨a0_1, y0_1, rfl, w0_1, kw0_2⟩ := kw0_1.int
  obtain rfl := kw0_2.end'
  have k1 := h1
  have lt1 : ∀ x ∈ p1, x.block < W.heap.size := by obtain ⟨m, hm⟩ := k1; exact DataW.trod_lt m _ _ _ hm
  obtain ⟨xs1, rfl, kw1_0⟩ := open_flat (ks := [some .i64, some .i64]) (by kernel_rfl) (by kernel_rfl) (by kernel_rfl) (hval 1 67 v1 rfl rfl) h1
  obtain ⟨a1_0, y1_0, rfl, w1_0, kw1_1⟩ := kw1_0.int
  obtain ⟨a1_1, y1_1, rfl, w1_1, kw1_2⟩ := kw1_1.int
  obtain rfl := kw1_2.end'
  have k2 := h2
  have lt2 : ∀ x ∈ p2, x.block < W.heap.size := by obtain ⟨m, hm⟩ := k2; exact DataW.trod_lt m _ _ _ hm
  obtain ⟨a2, rfl, rfl, rfl, w2⟩ := open_int Try.underlying3 (hval 2 3 v2 rfl rfl) h2
  have hs := f7_sound a0_0 a0_1 a1_0 a1_1 a2 cx7_ok (f7_true a0_0 a0_1 a1_0 a1_1 a2 w0_0 w0_1 w1_0 w1_1 w2)
  refine (law_calls (w := W) hs (args_cons (arg_agg (xs := [.int .i64 a0_0, .int .i64 a0_1]) (by simp [Value.oneCell'])) (args_cons (arg_agg (xs := [.int .i64 a1_0, .int .i64 a1_1]) (by simp [Value.oneCell'])) (args_cons (arg_v rfl) args_nil)))).mono fun e W' ⟨he, bel⟩ => ?_
  subst he
  exact ⟨_, rfl, _, _, _, [], _, [], hW', trodAll_mk1 (shut_bool Try.underlying4 _), (trodAll_cons_mk (Below.trod laidOut (by kernel_rfl) (of_decide_eq_true (by kernel_rfl)) k0 bel lt0) (trodAll_cons_mk (Below.trod laidOut (by kernel_rfl) (of_decide_eq_true (by kernel_rfl)) k1 bel lt1) (trodAll_cons_mk (Below.trod laidOut (by kernel_rfl) (of_decide_eq_true (by kernel_rfl)) k2 bel lt2) trodAll_mk0))), rfl, bel.frame _, fun h => by cases h⟩
theorem over : Rows.itvFewRow.holds Try.pinned (OpenSpec.ofChange Rows.itvFewSpec) :=
  OpenClaim.holds_of_wide 7 Try.f7 rfl rfl rfl rfl rfl rfl rfl ⟨rfl, rfl, rfl, rfl, rfl⟩ rfl rfl rfl rfl rfl (by kernel_rfl) Try.func7 (by kernel_rfl)
    (of_decide_eq_true (by kernel_rfl)) (by unfold Func.isWrapper; first | (rw [if_pos (by decide +kernel)]; kernel_rfl) | (rw [if_neg (by decide +kernel)]; exact ⟨rfl, rfl⟩))
    (fun os started H enc _ => lifted os started H enc)
end Go.Proofs.Ytlfojobligplkaa.RItvFew
namespace Go.Proofs.Ytlfojobligplkaa
/-- The statement. -/
theorem itvFew_holds : Rows.ItvFewSaid := RItvFew.over
end Go.Proofs.Ytlfojobligplkaa

