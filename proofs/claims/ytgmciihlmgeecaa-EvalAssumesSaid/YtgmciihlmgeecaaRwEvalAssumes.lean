import Derived.Test.YtgmciihlmgeecaaRows
import Derived.Test.YtgmciihlmgeecaaMtRow2
import Derived.Test.YtgmciihlmgeecaaPF
import Derived.Test.YtgmciihlmgeecaaPuEvalAssumes
import Derived.WalkKit
import Derived.ProofKit
import Derived.OpenShut
import Derived.ShutString
import Derived.ChangeOld
import Derived.Below
import Derived.SizedLaws
import Derived.Carry
/- The statement EvalAssumes, as it is given. No conditions beyond its own. -/
namespace Go.Proofs.Ytgmciihlmgeecaa.REvalAssumes
open Go Go.ChangeShapes Go.WideShapes Go.ChangeAt Go.RowKit Go.Proofs Go.Proofs.Ytgmciihlmgeecaa.Mt Go.Proofs.Ytgmciihlmgeecaa.Fn
set_option linter.unusedVariables false
set_option linter.unusedSimpArgs false
theorem own : ownKnob Try.prog.godebug = none := by kernel_rfl
theorem laidOut : laidOutB Try.prog = true := by kernel_rfl
theorem closed : closedT Try.prog [3,91,93] = true := by kernel_rfl
set_option maxRecDepth 100000 in
theorem lifted (os : Os) (started : os.Started) (H : Type) (enc : TypeId × Value → H) :
    ReturnsInHanded {} Try.checked os 24 .any (Rows.evalAssumesSpec.pre6 enc Try.prog Try.f24 Rows.evalAssumesRow.domain false) (Rows.evalAssumesSpec.post enc Try.prog Try.f24 false true false false) := by
  refine returnsInHanded_of_change_sized (C := Try.checked) own started (by kernel_rfl) Try.func24
    (ChangeSpec.witness6 (enc := enc) (C := Try.checked) false ⟨#[], #[.agg #[.int .i64 0, .int .i64 0, .int .i64 0, .slice none 0 0], .agg #[.int .i64 0, .int .i64 0, .int .i64 0, .slice none 0 0], .agg #[.int .i32 0, .int .i32 0, .int .i32 0, .int .i32 0, .int .i32 0, .int .i32 0, .bool false]], []⟩ 8 (by kernel_rfl) (by kernel_rfl) (by kernel_rfl) (by kernel_rfl)) ?_
  intro W base args ds gs before hval0 hW hcnd hsz0 _
  have hval : ∀ (j : Nat) t v, Try.f24.params[j]? = some t → args[j]? = some v → Value.okWide Try.prog W .any base t v := hval0
  have hW' := hW
  obtain ⟨p, q, hA0, hV, rfl, hfz, hnd⟩ := hW
  have hA : DataW.TrodAll enc Try.prog W 0 (fun _ => true) true Try.f24.params.toList args.toList ds p := hA0
  rw [Try.params24] at hA hval
  obtain ⟨v0, vs0, d0, ds0, p0, q0, hargs, rfl, rfl, h0, r0⟩ := trodAll_cons hA
  obtain ⟨v1, vs1, d1, ds1, p1, q1, rfl, rfl, rfl, h1, r1⟩ := trodAll_cons r0
  obtain ⟨v2, vs2, d2, ds2, p2, q2, rfl, rfl, rfl, h2, r2⟩ := trodAll_cons r1
  obtain ⟨rfl, rfl, rfl⟩ := trodAll_nil r2
  obtain rfl : args = #[v0, v1, v2] := by cases args; simp_all
  obtain ⟨rfl, rfl⟩ := trodVars_none hV
  have k0 := h0
  have lt0 : ∀ x ∈ p0, x.block < W.heap.size := by obtain ⟨m, hm⟩ := k0; exact DataW.trod_lt m _ _ _ hm
  obtain ⟨a0, D0, rel0, ty0⟩ := open_aggT closed (by decide) (by kernel_rfl) (hval 0 93 v0 rfl rfl) h0
  have k1 := h1
  have lt1 : ∀ x ∈ p1, x.block < W.heap.size := by obtain ⟨m, hm⟩ := k1; exact DataW.trod_lt m _ _ _ hm
  obtain ⟨a1, D1, rel1, ty1⟩ := open_aggT closed (by decide) (by kernel_rfl) (hval 1 93 v1 rfl rfl) h1
  have k2 := h2
  have lt2 : ∀ x ∈ p2, x.block < W.heap.size := by obtain ⟨m, hm⟩ := k2; exact DataW.trod_lt m _ _ _ hm
  obtain ⟨xs2, rfl, kw2_0⟩ := open_flat (ks := [some .i32, some .i32, some .i32, some .i32, some .i32, some .i32, none]) (by kernel_rfl) (by kernel_rfl) (by kernel_rfl) (hval 2 118 v2 rfl rfl) h2
  obtain ⟨a2_0, y2_0, rfl, w2_0, kw2_1⟩ := kw2_0.int
  obtain ⟨a2_1, y2_1, rfl, w2_1, kw2_2⟩ := kw2_1.int
  obtain ⟨a2_2, y2_2, rfl, w2_2, kw2_3⟩ := kw2_2.int
  obtain ⟨a2_3, y2_3, rfl, w2_3, kw2_4⟩ := kw2_3.int
  obtain ⟨a2_4, y2_4, rfl, w2_4, kw2_5⟩ := kw2_4.int
  obtain ⟨a2_5, y2_5, rfl, w2_5, kw2_6⟩ := kw2_5.int
  obtain ⟨a2_6, y2_6, rfl, kw2_7⟩ := kw2_6.bool
  obtain rfl := kw2_7.end'
  have hs := f24_law a0 a1 a2_0 a2_1 a2_2 a2_3 a2_4 a2_5 a2_6 ty0 ty1 w2_0 w2_1 w2_2 w2_3 w2_4 w2_5
  refine (law_calls (w := W) hs (args_cons rel0 (args_cons rel1 (args_cons (arg_agg (xs := [.int .i32 a2_0, .int .i32 a2_1, .int .i32 a2_2, .int .i32 a2_3, .int .i32 a2_4, .int .i32 a2_5, .bool a2_6]) (by simp [Value.oneCell'])) args_nil)))).mono fun e W' ⟨he, bel⟩ => ?_
  subst he
  exact ⟨_, rfl, _, _, _, [], _, [], hW', trodAll_mk1 (shut_bool Try.underlying4 _), (trodAll_cons_mk (Below.trod laidOut (by kernel_rfl) (of_decide_eq_true (by kernel_rfl)) k0 bel lt0) (trodAll_cons_mk (Below.trod laidOut (by kernel_rfl) (of_decide_eq_true (by kernel_rfl)) k1 bel lt1) (trodAll_cons_mk (Below.trod laidOut (by kernel_rfl) (of_decide_eq_true (by kernel_rfl)) k2 bel lt2) trodAll_mk0))), rfl, bel.frame _, fun h => by cases h⟩
set_option maxRecDepth 100000 in
theorem cf0 : (Rows.evalAssumesRow.wf (OpenSpec.ofChange Rows.evalAssumesSpec) && laidOutB Try.prog && mapsRowed Try.prog && Try.f24.params.all (Try.prog.readableRec ·) && namedTie Try.prog Rows.evalAssumesRow.named Rows.evalAssumesSpec.vars && (Rows.evalAssumesRow.stops == []) && (Try.prog.stops == []) && (Rows.evalAssumesRow.knobs == []) && (Try.prog.stopKnobs == [])) = true := by kernel_rfl
set_option maxRecDepth 100000 in
theorem cf1 : (Rows.evalAssumesRow.inPlace == Try.prog.inPlace 24) = true := by kernel_rfl
set_option maxRecDepth 100000 in
theorem cf2 : (Rows.evalAssumesRow.unfollowed == Try.prog.unfollowed 24) = true := by kernel_rfl
set_option maxRecDepth 100000 in
theorem cf3 : (Rows.evalAssumesRow.recurses == Try.prog.recurses 24) = true := by kernel_rfl
set_option maxRecDepth 100000 in
theorem cf4 : (Rows.evalAssumesRow.named == Try.prog.varsNamed 24) = true := by kernel_rfl
set_option maxRecDepth 100000 in
theorem cf5 : (Rows.evalAssumesRow.maps == (Try.f24.params.toList ++ Rows.evalAssumesSpec.plain.varTypes Try.prog).any (Try.prog.mapsRec ·)) = true := by kernel_rfl
set_option maxRecDepth 100000 in
theorem cf6 : (Rows.evalAssumesRow.ifaces == (Try.f24.params.toList ++ Rows.evalAssumesSpec.plain.varTypes Try.prog).any (Try.prog.ifacesRec ·)) = true := by kernel_rfl
set_option maxRecDepth 100000 in
theorem cf7 : (Rows.evalAssumesRow.mapsOut == Try.prog.mapsAmong Try.f24.resultTypes.toList) = true := by kernel_rfl
set_option maxRecDepth 100000 in
theorem cf8 : (Rows.evalAssumesRow.loops == (Try.f24.params.toList ++ Rows.evalAssumesSpec.plain.varTypes Try.prog).any (Try.prog.loopsFrom ·)) = true := by kernel_rfl
set_option maxRecDepth 100000 in
theorem cf9 : (Rows.evalAssumesRow.wideKeys == (Try.f24.params.toList ++ Rows.evalAssumesSpec.plain.varTypes Try.prog ++ Try.f24.resultTypes.toList).any (Try.prog.wideKeysFrom ·)) = true := by kernel_rfl
set_option maxRecDepth 100000 in
theorem cf10 : (Rows.evalAssumesSpec.vars.all (Try.prog.varReadable ·)) = true := by kernel_rfl
set_option maxRecDepth 100000 in
theorem cf11 : (Try.f24.resultTypes.all (fun t => Try.prog.readableRec t && decide (t < Try.prog.types.size))) = true := by kernel_rfl
set_option maxRecDepth 100000 in
theorem cf12 : (Rows.evalAssumesRow.ifacesOut == Try.f24.resultTypes.toList.any (Try.prog.ifacesRec ·)) = true := by kernel_rfl
set_option maxRecDepth 100000 in
theorem cf13 : (Rows.evalAssumesRow.loopsOut == Try.f24.resultTypes.toList.any (Try.prog.loopsFrom ·)) = true := by kernel_rfl
set_option maxRecDepth 100000 in
theorem cf14 : (Rows.evalAssumesRow.plainKeys == Try.prog.plainKeys) = true := by kernel_rfl
set_option maxRecDepth 100000 in
theorem cf15 : (Rows.evalAssumesRow.shortTexts.isNone) = true := by kernel_rfl
set_option maxRecDepth 100000 in
theorem cf16 : (Try.prog.stopsHeard) = true := by kernel_rfl
set_option maxRecDepth 100000 in
theorem cf17 : (Try.prog.mayEnter) = true := by exact PF.enter
set_option maxRecDepth 100000 in
theorem cf18 : (Rows.evalAssumesRow.lifted == Try.prog.liftsFinal) = true := by rw [PF.lifts]; rfl
set_option maxRecDepth 100000 in
theorem cf19 : (Try.prog.make == some Rows.evalAssumesRow.make) = true := by rw [PF.make]; rfl
set_option maxRecDepth 100000 in
theorem cf20 : (Rows.evalAssumesRow.kinds == (if Rows.evalAssumesRow.domain.isEmpty then [] else Try.f24.params.toList.map fun t => match Try.prog.underlying t with | some (.int k) => some k | _ => none)) = true := by kernel_rfl
set_option maxRecDepth 100000 in
theorem cf21 : (Rows.evalAssumesRow.pinned == Rows.evalAssumesRow.pinnedBy) = true := by kernel_rfl
set_option maxRecDepth 100000 in
theorem cf22 : (Rows.evalAssumesRow.veiled == (Try.f24.params.toList ++ Rows.evalAssumesSpec.plain.varTypes Try.prog ++ Try.f24.resultTypes.toList).any (Try.prog.veiledRec ·)) = true := by kernel_rfl
set_option maxRecDepth 100000 in
theorem cf23 : (Rows.evalAssumesRow.veiledFits Try.prog Try.f24.params.toList (Try.f24.params.toList ++ Rows.evalAssumesSpec.plain.varTypes Try.prog ++ Try.f24.resultTypes.toList)) = true := by kernel_rfl
set_option maxRecDepth 100000 in
theorem closedF : joinedFacts Try.prog 24 Try.f24 Rows.evalAssumesSpec Rows.evalAssumesRow = true := by
  unfold joinedFacts
  exact (PF.and_i (PF.and_i (PF.and_i (PF.and_i (PF.and_i (PF.and_i (PF.and_i (PF.and_i (PF.and_i (PF.and_i (PF.and_i (PF.and_i (PF.and_i (PF.and_i (PF.and_i (PF.and_i (PF.and_i (PF.and_i (PF.and_i (PF.and_i (PF.and_i (PF.and_i (PF.and_i cf0 cf1) cf2) cf3) cf4) cf5) cf6) cf7) cf8) cf9) cf10) cf11) cf12) cf13) cf14) cf15) cf16) cf17) cf18) cf19) cf20) cf21) cf22) cf23)
set_option maxRecDepth 100000 in
theorem over : Rows.evalAssumesRow.holds Try.pinned (OpenSpec.ofChange Rows.evalAssumesSpec) :=
  OpenClaim.holds_of_wide 24 Try.f24 rfl rfl rfl rfl rfl rfl rfl ⟨rfl, rfl, rfl, rfl, rfl⟩ rfl rfl rfl rfl rfl (by kernel_rfl) Try.func24 closedF
    (of_decide_eq_true (by kernel_rfl)) (by unfold Func.isWrapper; first | (rw [if_pos (by decide +kernel)]; kernel_rfl) | (rw [if_neg (by decide +kernel)]; exact ⟨rfl, rfl⟩))
    (fun os started H enc _ => lifted os started H enc)
end Go.Proofs.Ytgmciihlmgeecaa.REvalAssumes
namespace Go.Proofs.Ytgmciihlmgeecaa
theorem evalAssumes_holds : Rows.EvalAssumesSaid := REvalAssumes.over
end Go.Proofs.Ytgmciihlmgeecaa

