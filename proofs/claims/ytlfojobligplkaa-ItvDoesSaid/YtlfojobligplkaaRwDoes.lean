import Derived.Test.YtlfojobligplkaaRows
import Derived.Test.YtlfojobligplkaaPuDoes
import Derived.WalkKit
import Derived.ProofKit
import Derived.OpenShut
import Derived.ShutString
import Derived.ChangeOld
import Derived.Below
import Derived.SizedLaws
import Derived.Carry
/- The statement ItvDoes, as it is given. No conditions beyond its own. -/
namespace Go.Proofs.Ytlfojobligplkaa.RItvDoes
open Go Go.ChangeShapes Go.WideShapes Go.ChangeAt Go.RowKit Go.Proofs Go.Proofs.Ytlfojobligplkaa.Mt Go.Proofs.Ytlfojobligplkaa.Fn
set_option linter.unusedVariables false
set_option linter.unusedSimpArgs false
theorem own : ownKnob Try.prog.godebug = none := by kernel_rfl
theorem laidOut : laidOutB Try.prog = true := by kernel_rfl
set_option maxRecDepth 100000 in
theorem lifted (os : Os) (started : os.Started) (H : Type) (enc : TypeId × Value → H) :
    ReturnsInHanded {} Try.checked os 6 .any (Rows.itvDoesSpec.pre6 enc Try.prog Try.f6 Rows.itvDoesRow.domain false) (Rows.itvDoesSpec.post enc Try.prog Try.f6 false true false false) := by
  refine returnsInHanded_of_change_sized (C := Try.checked) own started (by kernel_rfl) Try.func6
    (ChangeSpec.witness6 (enc := enc) (C := Try.checked) false ⟨#[], #[.agg #[.int .i32 0, .int .i32 0, .int .i32 0], .agg #[.int .i32 0, .int .i32 0, .int .i32 0], .int .i64 0], []⟩ 8 (by kernel_rfl) (by kernel_rfl) (by kernel_rfl) (by kernel_rfl)) ?_
  intro W base args ds gs before hval0 hW hcnd hsz0 _
  have hval : ∀ (j : Nat) t v, Try.f6.params[j]? = some t → args[j]? = some v → Value.okWide Try.prog W .any base t v := hval0
  have hW' := hW
  obtain ⟨p, q, hA0, hV, rfl, hfz, hnd⟩ := hW
  have hA : DataW.TrodAll enc Try.prog W 0 (fun _ => true) true Try.f6.params.toList args.toList ds p := hA0
  rw [Try.params6] at hA hval
  obtain ⟨v0, vs0, d0, ds0, p0, q0, hargs, rfl, rfl, h0, r0⟩ := trodAll_cons hA
  obtain ⟨v1, vs1, d1, ds1, p1, q1, rfl, rfl, rfl, h1, r1⟩ := trodAll_cons r0
  obtain ⟨v2, vs2, d2, ds2, p2, q2, rfl, rfl, rfl, h2, r2⟩ := trodAll_cons r1
  obtain ⟨rfl, rfl, rfl⟩ := trodAll_nil r2
  obtain rfl : args = #[v0, v1, v2] := by cases args; simp_all
  obtain ⟨rfl, rfl⟩ := trodVars_none hV
  have k0 := h0
  have lt0 : ∀ x ∈ p0, x.block < W.heap.size := by obtain ⟨m, hm⟩ := k0; exact DataW.trod_lt m _ _ _ hm
  obtain ⟨xs0, rfl, kw0_0⟩ := open_flat (ks := [some .i32, some .i32, some .i32]) (by kernel_rfl) (by kernel_rfl) (by kernel_rfl) (hval 0 56 v0 rfl rfl) h0
  obtain ⟨a0_0, y0_0, rfl, w0_0, kw0_1⟩ := kw0_0.int
  obtain ⟨a0_1, y0_1, rfl, w0_1, kw0_2⟩ := kw0_1.int
  obtain ⟨a0_2, y0_2, rfl, w0_2, kw0_3⟩ := kw0_2.int
  obtain rfl := kw0_3.end'
  have k1 := h1
  have lt1 : ∀ x ∈ p1, x.block < W.heap.size := by obtain ⟨m, hm⟩ := k1; exact DataW.trod_lt m _ _ _ hm
  obtain ⟨xs1, rfl, kw1_0⟩ := open_flat (ks := [some .i32, some .i32, some .i32]) (by kernel_rfl) (by kernel_rfl) (by kernel_rfl) (hval 1 56 v1 rfl rfl) h1
  obtain ⟨a1_0, y1_0, rfl, w1_0, kw1_1⟩ := kw1_0.int
  obtain ⟨a1_1, y1_1, rfl, w1_1, kw1_2⟩ := kw1_1.int
  obtain ⟨a1_2, y1_2, rfl, w1_2, kw1_3⟩ := kw1_2.int
  obtain rfl := kw1_3.end'
  have k2 := h2
  have lt2 : ∀ x ∈ p2, x.block < W.heap.size := by obtain ⟨m, hm⟩ := k2; exact DataW.trod_lt m _ _ _ hm
  obtain ⟨a2, rfl, rfl, rfl, w2⟩ := open_int Try.underlying3 (hval 2 3 v2 rfl rfl) h2
  have hs := f6_sound a0_0 a0_1 a0_2 a1_0 a1_1 a1_2 a2 cx6_ok (f6_true a0_0 a0_1 a0_2 a1_0 a1_1 a1_2 a2 w0_0 w0_1 w0_2 w1_0 w1_1 w1_2 w2)
  refine (law_calls (w := W) hs (args_cons (arg_agg (xs := [.int .i32 a0_0, .int .i32 a0_1, .int .i32 a0_2]) (by simp [Value.oneCell'])) (args_cons (arg_agg (xs := [.int .i32 a1_0, .int .i32 a1_1, .int .i32 a1_2]) (by simp [Value.oneCell'])) (args_cons (arg_v rfl) args_nil)))).mono fun e W' ⟨he, bel⟩ => ?_
  subst he
  exact ⟨_, rfl, _, _, _, [], _, [], hW', trodAll_mk1 (shut_bool Try.underlying4 _), (trodAll_cons_mk (Below.trod laidOut (by kernel_rfl) (of_decide_eq_true (by kernel_rfl)) k0 bel lt0) (trodAll_cons_mk (Below.trod laidOut (by kernel_rfl) (of_decide_eq_true (by kernel_rfl)) k1 bel lt1) (trodAll_cons_mk (Below.trod laidOut (by kernel_rfl) (of_decide_eq_true (by kernel_rfl)) k2 bel lt2) trodAll_mk0))), rfl, bel.frame _, fun h => by cases h⟩
theorem over : Rows.itvDoesRow.holds Try.pinned (OpenSpec.ofChange Rows.itvDoesSpec) :=
  OpenClaim.holds_of_wide 6 Try.f6 rfl rfl rfl rfl rfl rfl rfl ⟨rfl, rfl, rfl, rfl, rfl⟩ rfl rfl rfl rfl rfl (by kernel_rfl) Try.func6 (by kernel_rfl)
    (of_decide_eq_true (by kernel_rfl)) (by unfold Func.isWrapper; first | (rw [if_pos (by decide +kernel)]; kernel_rfl) | (rw [if_neg (by decide +kernel)]; exact ⟨rfl, rfl⟩))
    (fun os started H enc _ => lifted os started H enc)
end Go.Proofs.Ytlfojobligplkaa.RItvDoes
namespace Go.Proofs.Ytlfojobligplkaa
/-- The statement. -/
theorem itvDoes_holds : Rows.ItvDoesSaid := RItvDoes.over
end Go.Proofs.Ytlfojobligplkaa

