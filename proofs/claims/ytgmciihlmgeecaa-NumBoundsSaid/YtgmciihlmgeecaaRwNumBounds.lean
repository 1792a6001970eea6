import Derived.Test.YtgmciihlmgeecaaRows
import Derived.Test.YtgmciihlmgeecaaMtRow2
import Derived.Test.YtgmciihlmgeecaaPF
import Derived.Test.YtgmciihlmgeecaaPuNumBounds
import Derived.WalkKit
import Derived.ProofKit
import Derived.OpenShut
import Derived.ShutString
import Derived.ChangeOld
import Derived.Below
import Derived.SizedLaws
import Derived.Carry
/- The statement NumBounds, as it is given. No conditions beyond its own. -/
namespace Go.Proofs.Ytgmciihlmgeecaa.RNumBounds
open Go Go.ChangeShapes Go.WideShapes Go.ChangeAt Go.RowKit Go.Proofs Go.Proofs.Ytgmciihlmgeecaa.Mt Go.Proofs.Ytgmciihlmgeecaa.Fn
set_option linter.unusedVariables false
set_option linter.unusedSimpArgs false
theorem own : ownKnob Try.prog.godebug = none := by kernel_rfl
theorem laidOut : laidOutB Try.prog = true := by kernel_rfl
theorem closed : closedT Try.prog [3] = true := by kernel_rfl
set_option maxRecDepth 100000 in
theorem lifted (os : Os) (started : os.Started) (H : Type) (enc : TypeId × Value → H) :
    ReturnsInHanded {} Try.checked os 10 .any (Rows.numBoundsSpec.pre6 enc Try.prog Try.f10 Rows.numBoundsRow.domain false) (Rows.numBoundsSpec.post enc Try.prog Try.f10 false true false false) := by
  refine returnsInHanded_of_change_sized (C := Try.checked) own started (by kernel_rfl) Try.func10
    (ChangeSpec.witness6 (enc := enc) (C := Try.checked) false ⟨#[], #[.int .i32 0, .int .u8 0, .int .i32 0], []⟩ 8 (by kernel_rfl) (by kernel_rfl) (by kernel_rfl) (by kernel_rfl)) ?_
  intro W base args ds gs before hval0 hW hcnd hsz0 _
  have hval : ∀ (j : Nat) t v, Try.f10.params[j]? = some t → args[j]? = some v → Value.okWide Try.prog W .any base t v := hval0
  have hW' := hW
  obtain ⟨p, q, hA0, hV, rfl, hfz, hnd⟩ := hW
  have hA : DataW.TrodAll enc Try.prog W 0 (fun _ => true) true Try.f10.params.toList args.toList ds p := hA0
  rw [Try.params10] at hA hval
  obtain ⟨v0, vs0, d0, ds0, p0, q0, hargs, rfl, rfl, h0, r0⟩ := trodAll_cons hA
  obtain ⟨v1, vs1, d1, ds1, p1, q1, rfl, rfl, rfl, h1, r1⟩ := trodAll_cons r0
  obtain ⟨v2, vs2, d2, ds2, p2, q2, rfl, rfl, rfl, h2, r2⟩ := trodAll_cons r1
  obtain ⟨rfl, rfl, rfl⟩ := trodAll_nil r2
  obtain rfl : args = #[v0, v1, v2] := by cases args; simp_all
  obtain ⟨rfl, rfl⟩ := trodVars_none hV
  have k0 := h0
  have lt0 : ∀ x ∈ p0, x.block < W.heap.size := by obtain ⟨m, hm⟩ := k0; exact DataW.trod_lt m _ _ _ hm
  obtain ⟨a0, rfl, rfl, rfl, w0⟩ := open_int Try.underlying21 (hval 0 21 v0 rfl rfl) h0
  have k1 := h1
  have lt1 : ∀ x ∈ p1, x.block < W.heap.size := by obtain ⟨m, hm⟩ := k1; exact DataW.trod_lt m _ _ _ hm
  obtain ⟨a1, rfl, rfl, rfl, w1⟩ := open_int Try.underlying5 (hval 1 5 v1 rfl rfl) h1
  have k2 := h2
  have lt2 : ∀ x ∈ p2, x.block < W.heap.size := by obtain ⟨m, hm⟩ := k2; exact DataW.trod_lt m _ _ _ hm
  obtain ⟨a2, rfl, rfl, rfl, w2⟩ := open_int Try.underlying21 (hval 2 21 v2 rfl rfl) h2
  have hs := f10_sound a0 a1 a2 cx10_ok (f10_true a0 a1 a2 w0 w1 w2)
  refine (law_calls (w := W) hs (args_cons (arg_v rfl) (args_cons (arg_v rfl) (args_cons (arg_v rfl) args_nil)))).mono fun e W' ⟨he, bel⟩ => ?_
  subst he
  exact ⟨_, rfl, _, _, _, [], _, [], hW', trodAll_mk1 (shut_bool Try.underlying4 _), (trodAll_cons_mk (Below.trod laidOut (by kernel_rfl) (of_decide_eq_true (by kernel_rfl)) k0 bel lt0) (trodAll_cons_mk (Below.trod laidOut (by kernel_rfl) (of_decide_eq_true (by kernel_rfl)) k1 bel lt1) (trodAll_cons_mk (Below.trod laidOut (by kernel_rfl) (of_decide_eq_true (by kernel_rfl)) k2 bel lt2) trodAll_mk0))), rfl, bel.frame _, fun h => by cases h⟩
set_option maxRecDepth 100000 in
theorem cf0 : (Rows.numBoundsRow.wf (OpenSpec.ofChange Rows.numBoundsSpec) && laidOutB Try.prog && mapsRowed Try.prog && Try.f10.params.all (Try.prog.readableRec ·) && namedTie Try.prog Rows.numBoundsRow.named Rows.numBoundsSpec.vars && (Rows.numBoundsRow.stops == []) && (Try.prog.stops == []) && (Rows.numBoundsRow.knobs == []) && (Try.prog.stopKnobs == [])) = true := by kernel_rfl
set_option maxRecDepth 100000 in
theorem cf1 : (Rows.numBoundsRow.inPlace == Try.prog.inPlace 10) = true := by kernel_rfl
set_option maxRecDepth 100000 in
theorem cf2 : (Rows.numBoundsRow.unfollowed == Try.prog.unfollowed 10) = true := by kernel_rfl
set_option maxRecDepth 100000 in
theorem cf3 : (Rows.numBoundsRow.recurses == Try.prog.recurses 10) = true := by kernel_rfl
set_option maxRecDepth 100000 in
theorem cf4 : (Rows.numBoundsRow.named == Try.prog.varsNamed 10) = true := by kernel_rfl
set_option maxRecDepth 100000 in
theorem cf5 : (Rows.numBoundsRow.maps == (Try.f10.params.toList ++ Rows.numBoundsSpec.plain.varTypes Try.prog).any (Try.prog.mapsRec ·)) = true := by kernel_rfl
set_option maxRecDepth 100000 in
theorem cf6 : (Rows.numBoundsRow.ifaces == (Try.f10.params.toList ++ Rows.numBoundsSpec.plain.varTypes Try.prog).any (Try.prog.ifacesRec ·)) = true := by kernel_rfl
set_option maxRecDepth 100000 in
theorem cf7 : (Rows.numBoundsRow.mapsOut == Try.prog.mapsAmong Try.f10.resultTypes.toList) = true := by kernel_rfl
set_option maxRecDepth 100000 in
theorem cf8 : (Rows.numBoundsRow.loops == (Try.f10.params.toList ++ Rows.numBoundsSpec.plain.varTypes Try.prog).any (Try.prog.loopsFrom ·)) = true := by kernel_rfl
set_option maxRecDepth 100000 in
theorem cf9 : (Rows.numBoundsRow.wideKeys == (Try.f10.params.toList ++ Rows.numBoundsSpec.plain.varTypes Try.prog ++ Try.f10.resultTypes.toList).any (Try.prog.wideKeysFrom ·)) = true := by kernel_rfl
set_option maxRecDepth 100000 in
theorem cf10 : (Rows.numBoundsSpec.vars.all (Try.prog.varReadable ·)) = true := by kernel_rfl
set_option maxRecDepth 100000 in
theorem cf11 : (Try.f10.resultTypes.all (fun t => Try.prog.readableRec t && decide (t < Try.prog.types.size))) = true := by kernel_rfl
set_option maxRecDepth 100000 in
theorem cf12 : (Rows.numBoundsRow.ifacesOut == Try.f10.resultTypes.toList.any (Try.prog.ifacesRec ·)) = true := by kernel_rfl
set_option maxRecDepth 100000 in
theorem cf13 : (Rows.numBoundsRow.loopsOut == Try.f10.resultTypes.toList.any (Try.prog.loopsFrom ·)) = true := by kernel_rfl
set_option maxRecDepth 100000 in
theorem cf14 : (Rows.numBoundsRow.plainKeys == Try.prog.plainKeys) = true := by kernel_rfl
set_option maxRecDepth 100000 in
theorem cf15 : (Rows.numBoundsRow.shortTexts.isNone) = true := by kernel_rfl
set_option maxRecDepth 100000 in
theorem cf16 : (Try.prog.stopsHeard) = true := by kernel_rfl
set_option maxRecDepth 100000 in
theorem cf17 : (Try.prog.mayEnter) = true := by exact PF.enter
set_option maxRecDepth 100000 in
theorem cf18 : (Rows.numBoundsRow.lifted == Try.prog.liftsFinal) = true := by rw [PF.lifts]; rfl
set_option maxRecDepth 100000 in
theorem cf19 : (Try.prog.make == some Rows.numBoundsRow.make) = true := by rw [PF.make]; rfl
set_option maxRecDepth 100000 in
theorem cf20 : (Rows.numBoundsRow.kinds == (if Rows.numBoundsRow.domain.isEmpty then [] else Try.f10.params.toList.map fun t => match Try.prog.underlying t with | some (.int k) => some k | _ => none)) = true := by kernel_rfl
set_option maxRecDepth 100000 in
theorem cf21 : (Rows.numBoundsRow.pinned == Rows.numBoundsRow.pinnedBy) = true := by kernel_rfl
set_option maxRecDepth 100000 in
theorem cf22 : (Rows.numBoundsRow.veiled == (Try.f10.params.toList ++ Rows.numBoundsSpec.plain.varTypes Try.prog ++ Try.f10.resultTypes.toList).any (Try.prog.veiledRec ·)) = true := by kernel_rfl
set_option maxRecDepth 100000 in
theorem cf23 : (Rows.numBoundsRow.veiledFits Try.prog Try.f10.params.toList (Try.f10.params.toList ++ Rows.numBoundsSpec.plain.varTypes Try.prog ++ Try.f10.resultTypes.toList)) = true := by kernel_rfl
set_option maxRecDepth 100000 in
theorem closedF : joinedFacts Try.prog 10 Try.f10 Rows.numBoundsSpec Rows.numBoundsRow = true := by
  unfold joinedFacts
  exact (PF.and_i (PF.and_i (PF.and_i (PF.and_i (PF.and_i (PF.and_i (PF.and_i (PF.and_i (PF.and_i (PF.and_i (PF.and_i (PF.and_i (PF.and_i (PF.and_i (PF.and_i (PF.and_i (PF.and_i (PF.and_i (PF.and_i (PF.and_i (PF.and_i (PF.and_i (PF.and_i cf0 cf1) cf2) cf3) cf4) cf5) cf6) cf7) cf8) cf9) cf10) cf11) cf12) cf13) cf14) cf15) cf16) cf17) cf18) cf19) cf20) cf21) cf22) cf23)
set_option maxRecDepth 100000 in
theorem over : Rows.numBoundsRow.holds Try.pinned (OpenSpec.ofChange Rows.numBoundsSpec) :=
  OpenClaim.holds_of_wide 10 Try.f10 rfl rfl rfl rfl rfl rfl rfl ⟨rfl, rfl, rfl, rfl, rfl⟩ rfl rfl rfl rfl rfl (by kernel_rfl) Try.func10 closedF
    (of_decide_eq_true (by kernel_rfl)) (by unfold Func.isWrapper; first | (rw [if_pos (by decide +kernel)]; kernel_rfl) | (rw [if_neg (by decide +kernel)]; exact ⟨rfl, rfl⟩))
    (fun os started H enc _ => lifted os started H enc)
end Go.Proofs.Ytgmciihlmgeecaa.RNumBounds
namespace Go.Proofs.Ytgmciihlmgeecaa
/-- The statement. -/
theorem numBounds_holds : Rows.NumBoundsSaid := RNumBounds.over
end Go.Proofs.Ytgmciihlmgeecaa

