import Derived.Test.YtgmciihlmgeecaaRows
import Derived.Test.YtgmciihlmgeecaaMtRow2
import Derived.Test.YtgmciihlmgeecaaPF
import Derived.Test.YtgmciihlmgeecaaPuLinears
import Derived.WalkKit
import Derived.ProofKit
import Derived.OpenShut
import Derived.ShutString
import Derived.ChangeOld
import Derived.Below
import Derived.SizedLaws
import Derived.Carry
/- The statement EvalLinears, as it is given. No conditions beyond its own. -/
namespace Go.Proofs.Ytgmciihlmgeecaa.REvalLinears
open Go Go.ChangeShapes Go.WideShapes Go.ChangeAt Go.RowKit Go.Proofs Go.Proofs.Ytgmciihlmgeecaa.Mt Go.Proofs.Ytgmciihlmgeecaa.Fn
set_option linter.unusedVariables false
set_option linter.unusedSimpArgs false
theorem own : ownKnob Try.prog.godebug = none := by kernel_rfl
theorem laidOut : laidOutB Try.prog = true := by kernel_rfl
theorem closed : closedT Try.prog [3,91,93] = true := by kernel_rfl
set_option maxRecDepth 100000 in
theorem lifted (os : Os) (started : os.Started) (H : Type) (enc : TypeId × Value → H) :
    ReturnsInHanded {} Try.checked os 17 .any (Rows.evalLinearsSpec.pre6 enc Try.prog Try.f17 Rows.evalLinearsRow.domain false) (Rows.evalLinearsSpec.post enc Try.prog Try.f17 false true false false) := by
  refine returnsInHanded_of_change_sized (C := Try.checked) own started (by kernel_rfl) Try.func17
    (ChangeSpec.witness6 (enc := enc) (C := Try.checked) false ⟨#[], #[.agg #[.int .i64 0, .int .i64 0, .int .i64 0, .slice none 0 0]], []⟩ 8 (by kernel_rfl) (by kernel_rfl) (by kernel_rfl) (by kernel_rfl)) ?_
  intro W base args ds gs before hval0 hW hcnd hsz0 _
  have hval : ∀ (j : Nat) t v, Try.f17.params[j]? = some t → args[j]? = some v → Value.okWide Try.prog W .any base t v := hval0
  have hW' := hW
  obtain ⟨p, q, hA0, hV, rfl, hfz, hnd⟩ := hW
  have hA : DataW.TrodAll enc Try.prog W 0 (fun _ => true) true Try.f17.params.toList args.toList ds p := hA0
  rw [Try.params17] at hA hval
  obtain ⟨v0, vs0, d0, ds0, p0, q0, hargs, rfl, rfl, h0, r0⟩ := trodAll_cons hA
  obtain ⟨rfl, rfl, rfl⟩ := trodAll_nil r0
  obtain rfl : args = #[v0] := by cases args; simp_all
  obtain ⟨rfl, rfl⟩ := trodVars_none hV
  have k0 := h0
  have lt0 : ∀ x ∈ p0, x.block < W.heap.size := by obtain ⟨m, hm⟩ := k0; exact DataW.trod_lt m _ _ _ hm
  obtain ⟨a0, D0, rel0, ty0⟩ := open_aggT closed (by decide) (by kernel_rfl) (hval 0 93 v0 rfl rfl) h0
  have hs := f17_law a0 ty0
  refine (law_calls (w := W) hs (args_cons rel0 args_nil)).mono fun e W' ⟨he, bel⟩ => ?_
  subst he
  exact ⟨_, rfl, _, _, _, [], _, [], hW', trodAll_mk1 (shut_bool Try.underlying4 _), (trodAll_cons_mk (Below.trod laidOut (by kernel_rfl) (of_decide_eq_true (by kernel_rfl)) k0 bel lt0) trodAll_mk0), rfl, bel.frame _, fun h => by cases h⟩
set_option maxRecDepth 100000 in
theorem cf0 : (Rows.evalLinearsRow.wf (OpenSpec.ofChange Rows.evalLinearsSpec) && laidOutB Try.prog && mapsRowed Try.prog && Try.f17.params.all (Try.prog.readableRec ·) && namedTie Try.prog Rows.evalLinearsRow.named Rows.evalLinearsSpec.vars && (Rows.evalLinearsRow.stops == []) && (Try.prog.stops == []) && (Rows.evalLinearsRow.knobs == []) && (Try.prog.stopKnobs == [])) = true := by kernel_rfl
set_option maxRecDepth 100000 in
theorem cf1 : (Rows.evalLinearsRow.inPlace == Try.prog.inPlace 17) = true := by kernel_rfl
set_option maxRecDepth 100000 in
theorem cf2 : (Rows.evalLinearsRow.unfollowed == Try.prog.unfollowed 17) = true := by kernel_rfl
set_option maxRecDepth 100000 in
theorem cf3 : (Rows.evalLinearsRow.recurses == Try.prog.recurses 17) = true := by kernel_rfl
set_option maxRecDepth 100000 in
theorem cf4 : (Rows.evalLinearsRow.named == Try.prog.varsNamed 17) = true := by kernel_rfl
set_option maxRecDepth 100000 in
theorem cf5 : (Rows.evalLinearsRow.maps == (Try.f17.params.toList ++ Rows.evalLinearsSpec.plain.varTypes Try.prog).any (Try.prog.mapsRec ·)) = true := by kernel_rfl
set_option maxRecDepth 100000 in
theorem cf6 : (Rows.evalLinearsRow.ifaces == (Try.f17.params.toList ++ Rows.evalLinearsSpec.plain.varTypes Try.prog).any (Try.prog.ifacesRec ·)) = true := by kernel_rfl
set_option maxRecDepth 100000 in
theorem cf7 : (Rows.evalLinearsRow.mapsOut == Try.prog.mapsAmong Try.f17.resultTypes.toList) = true := by kernel_rfl
set_option maxRecDepth 100000 in
theorem cf8 : (Rows.evalLinearsRow.loops == (Try.f17.params.toList ++ Rows.evalLinearsSpec.plain.varTypes Try.prog).any (Try.prog.loopsFrom ·)) = true := by kernel_rfl
set_option maxRecDepth 100000 in
theorem cf9 : (Rows.evalLinearsRow.wideKeys == (Try.f17.params.toList ++ Rows.evalLinearsSpec.plain.varTypes Try.prog ++ Try.f17.resultTypes.toList).any (Try.prog.wideKeysFrom ·)) = true := by kernel_rfl
set_option maxRecDepth 100000 in
theorem cf10 : (Rows.evalLinearsSpec.vars.all (Try.prog.varReadable ·)) = true := by kernel_rfl
set_option maxRecDepth 100000 in
theorem cf11 : (Try.f17.resultTypes.all (fun t => Try.prog.readableRec t && decide (t < Try.prog.types.size))) = true := by kernel_rfl
set_option maxRecDepth 100000 in
theorem cf12 : (Rows.evalLinearsRow.ifacesOut == Try.f17.resultTypes.toList.any (Try.prog.ifacesRec ·)) = true := by kernel_rfl
set_option maxRecDepth 100000 in
theorem cf13 : (Rows.evalLinearsRow.loopsOut == Try.f17.resultTypes.toList.any (Try.prog.loopsFrom ·)) = true := by kernel_rfl
set_option maxRecDepth 100000 in
theorem cf14 : (Rows.evalLinearsRow.plainKeys == Try.prog.plainKeys) = true := by kernel_rfl
set_option maxRecDepth 100000 in
theorem cf15 : (Rows.evalLinearsRow.shortTexts.isNone) = true := by kernel_rfl
set_option maxRecDepth 100000 in
theorem cf16 : (Try.prog.stopsHeard) = true := by kernel_rfl
set_option maxRecDepth 100000 in
theorem cf17 : (Try.prog.mayEnter) = true := by exact PF.enter
set_option maxRecDepth 100000 in
theorem cf18 : (Rows.evalLinearsRow.lifted == Try.prog.liftsFinal) = true := by rw [PF.lifts]; rfl
set_option maxRecDepth 100000 in
theorem cf19 : (Try.prog.make == some Rows.evalLinearsRow.make) = true := by rw [PF.make]; rfl
set_option maxRecDepth 100000 in
theorem cf20 : (Rows.evalLinearsRow.kinds == (if Rows.evalLinearsRow.domain.isEmpty then [] else Try.f17.params.toList.map fun t => match Try.prog.underlying t with | some (.int k) => some k | _ => none)) = true := by kernel_rfl
set_option maxRecDepth 100000 in
theorem cf21 : (Rows.evalLinearsRow.pinned == Rows.evalLinearsRow.pinnedBy) = true := by kernel_rfl
set_option maxRecDepth 100000 in
theorem cf22 : (Rows.evalLinearsRow.veiled == (Try.f17.params.toList ++ Rows.evalLinearsSpec.plain.varTypes Try.prog ++ Try.f17.resultTypes.toList).any (Try.prog.veiledRec ·)) = true := by kernel_rfl
set_option maxRecDepth 100000 in
theorem cf23 : (Rows.evalLinearsRow.veiledFits Try.prog Try.f17.params.toList (Try.f17.params.toList ++ Rows.evalLinearsSpec.plain.varTypes Try.prog ++ Try.f17.resultTypes.toList)) = true := by kernel_rfl
set_option maxRecDepth 100000 in
theorem closedF : joinedFacts Try.prog 17 Try.f17 Rows.evalLinearsSpec Rows.evalLinearsRow = true := by
  unfold joinedFacts
  exact (PF.and_i (PF.and_i (PF.and_i (PF.and_i (PF.and_i (PF.and_i (PF.and_i (PF.and_i (PF.and_i (PF.and_i (PF.and_i (PF.and_i (PF.and_i (PF.and_i (PF.and_i (PF.and_i (PF.and_i (PF.and_i (PF.and_i (PF.and_i (PF.and_i (PF.and_i (PF.and_i cf0 cf1) cf2) cf3) cf4) cf5) cf6) cf7) cf8) cf9) cf10) cf11) cf12) cf13) cf14) cf15) cf16) cf17) cf18) cf19) cf20) cf21) cf22) cf23)
set_option maxRecDepth 100000 in
theorem over : Rows.evalLinearsRow.holds Try.pinned (OpenSpec.ofChange Rows.evalLinearsSpec) :=
  OpenClaim.holds_of_wide 17 Try.f17 rfl rfl rfl rfl rfl rfl rfl ⟨rfl, rfl, rfl, rfl, rfl⟩ rfl rfl rfl rfl rfl (by kernel_rfl) Try.func17 closedF
    (of_decide_eq_true (by kernel_rfl)) (by unfold Func.isWrapper; first | (rw [if_pos (by decide +kernel)]; kernel_rfl) | (rw [if_neg (by decide +kernel)]; exact ⟨rfl, rfl⟩))
    (fun os started H enc _ => lifted os started H enc)
end Go.Proofs.Ytgmciihlmgeecaa.REvalLinears
namespace Go.Proofs.Ytgmciihlmgeecaa
/-- The statement. -/
theorem evalLinears_holds : Rows.EvalLinearsSaid := REvalLinears.over
end Go.Proofs.Ytgmciihlmgeecaa

