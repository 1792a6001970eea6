import Derived.Test.YtlfojobligplkaaDoorRows
import Derived.Test.YtlfojobligplkaaDoorMtRow2
import Derived.Test.YtlfojobligplkaaDoorPF
import Derived.Test.YtlfojobligplkaaDoorPuJetsamChannels
import Derived.WalkKit
import Derived.ProofKit
import Derived.OpenShut
import Derived.ShutString
import Derived.ChangeOld
import Derived.Below
import Derived.SizedLaws
import Derived.Carry
import Derived.LaidMore
import Derived.Lay
import Derived.SevenTiedAt
import Derived.Stop.Joined
import Derived.Test.YtlfojobligplkaaDoorCards
import Derived.Test.YtlfojobligplkaaDoorTie
/- The card JetsamChannels, as it is given. No conditions beyond its own: the listed variables read as the program lays them. -/
namespace Go.Proofs.YtlfojobligplkaaDoor.RJetsamChannels
open Go Go.ChangeShapes Go.WideShapes Go.ChangeAt Go.RowKit Go.Proofs Go.Proofs.YtlfojobligplkaaDoor.Mt Go.Proofs.YtlfojobligplkaaDoor.Fn
set_option linter.unusedVariables false
set_option linter.unusedSimpArgs false
theorem own : ownKnob Tryd.prog.godebug = none := by kernel_rfl
theorem laidOut : laidOutB Tryd.prog = true := by kernel_rfl
theorem closed : closedT Tryd.prog [21,22] = true := by kernel_rfl
set_option maxRecDepth 100000 in
theorem lifted (os : Os) (started : os.Started) (H : Type) (enc : TypeId × Value → H) :
    ReturnsInHanded {} Tryd.checked os 3 .any (fun w args => (Rows.jetsamChannelsSpec.pre enc Tryd.prog Tryd.f3 Rows.jetsamChannelsRow.domain false w args ∧ laidMetH Tryd.prog Rows.jetsamChannelsRow.laid w) ∧ sizedMet enc Tryd.prog Tryd.f3 (OpenSpec.ofChange Rows.jetsamChannelsSpec) false w args) (Rows.jetsamChannelsSpec.post enc Tryd.prog Tryd.f3 false true false false) := by
  refine returnsInHanded_of_change_and (C := Tryd.checked) (X := fun w _ => laidMetH Tryd.prog Rows.jetsamChannelsRow.laid w) (fun _ _ _ hh h => h.of_heap hh) own started (by kernel_rfl) Tryd.func3
    (ChangeSpec.witness_shaped (enc := enc) (C := Tryd.checked) (os := os) (X := fun w _ => laidMetH Tryd.prog Rows.jetsamChannelsRow.laid w) false (World.laidAll Tryd.prog os Rows.jetsamChannelsRow.laid) #[.int .i64 0, .slice none 0 0] 8 (World.laidAll_os _ _ _)
      (World.shaped_of_ZipB (by kernel_rfl) (by kernel_rfl)) (by kernel_rfl) (by kernel_rfl) (by kernel_rfl)
      (by rw [MakeChecks.laidMetH_plain _ _ _ (by kernel_rfl)]; exact laidMet_laidAll _ (by kernel_rfl) (by kernel_rfl))) ?_
  intro W base args ds gs before hval0 hW hcnd _ hL _
  have hval : ∀ (j : Nat) t v, Tryd.f3.params[j]? = some t → args[j]? = some v → Value.okWide Tryd.prog W .any base t v := hval0
  have hW' := hW
  obtain ⟨p, q, hA0, hV, rfl, hfz, hnd⟩ := hW
  have hA : DataW.TrodAll enc Tryd.prog W 0 (fun _ => true) true Tryd.f3.params.toList args.toList ds p := hA0
  rw [Tryd.params3] at hA hval
  obtain ⟨v0, vs0, d0, ds0, p0, q0, hargs, rfl, rfl, h0, r0⟩ := trodAll_cons hA
  obtain ⟨v1, vs1, d1, ds1, p1, q1, rfl, rfl, rfl, h1, r1⟩ := trodAll_cons r0
  obtain ⟨rfl, rfl, rfl⟩ := trodAll_nil r1
  obtain rfl : args = #[v0, v1] := by cases args; simp_all
  obtain ⟨rfl, rfl⟩ := trodVars_none hV
  have k0 := h0
  have lt0 : ∀ x ∈ p0, x.block < W.heap.size := by obtain ⟨m, hm⟩ := k0; exact DataW.trod_lt m _ _ _ hm
  obtain ⟨a0, rfl, rfl, rfl, w0⟩ := open_int Tryd.underlying3 (hval 0 3 v0 rfl rfl) h0
  have k1 := h1
  have lt1 : ∀ x ∈ p1, x.block < W.heap.size := by obtain ⟨m, hm⟩ := k1; exact DataW.trod_lt m _ _ _ hm
  obtain ⟨a1n, a1, D1, rel1, ty1⟩ := open_rowT closed (by decide) Tryd.underlying22 (hval 1 22 v1 rfl rfl) h1
  have hs := f3_sound a0 a1n a1 cx3_ok (f3_true a0 a1n a1 w0 ty1)
  refine (law_calls (w := W) hs (args_cons (arg_v rfl) (args_cons rel1 args_nil))).mono fun e W' ⟨he, bel⟩ => ?_
  subst he
  exact ⟨_, rfl, _, _, _, [], _, [], hW', trodAll_mk1 (shut_bool Tryd.underlying4 _), (trodAll_cons_mk (Below.trod laidOut (by kernel_rfl) (of_decide_eq_true (by kernel_rfl)) k0 bel lt0) (trodAll_cons_mk (Below.trod laidOut (by kernel_rfl) (of_decide_eq_true (by kernel_rfl)) k1 bel lt1) trodAll_mk0)), rfl, bel.frame _, fun h => by cases h⟩
set_option maxRecDepth 100000 in
theorem cf0 : (Rows.jetsamChannelsRow.wf (OpenSpec.ofChange Rows.jetsamChannelsSpec) && laidOutB Tryd.prog && mapsRowed Tryd.prog && Tryd.f3.params.all (Tryd.prog.readableRec ·) && namedTie Tryd.prog Rows.jetsamChannelsRow.named Rows.jetsamChannelsSpec.vars && (Rows.jetsamChannelsRow.stops == []) && (Tryd.prog.stops == []) && (Rows.jetsamChannelsRow.knobs == []) && (Tryd.prog.stopKnobs == [])) = true := by kernel_rfl
set_option maxRecDepth 100000 in
theorem cf1 : (Rows.jetsamChannelsRow.inPlace == Tryd.prog.inPlace 3) = true := by kernel_rfl
set_option maxRecDepth 100000 in
theorem cf2 : (Rows.jetsamChannelsRow.unfollowed == Tryd.prog.unfollowed 3) = true := by kernel_rfl
set_option maxRecDepth 100000 in
theorem cf3 : (Rows.jetsamChannelsRow.recurses == Tryd.prog.recurses 3) = true := by kernel_rfl
set_option maxRecDepth 100000 in
theorem cf4 : (Rows.jetsamChannelsRow.named == Tryd.prog.varsNamed 3) = true := by kernel_rfl
set_option maxRecDepth 100000 in
theorem cf5 : (Rows.jetsamChannelsRow.maps == (Tryd.f3.params.toList ++ Rows.jetsamChannelsSpec.plain.varTypes Tryd.prog).any (Tryd.prog.mapsRec ·)) = true := by kernel_rfl
set_option maxRecDepth 100000 in
theorem cf6 : (Rows.jetsamChannelsRow.ifaces == (Tryd.f3.params.toList ++ Rows.jetsamChannelsSpec.plain.varTypes Tryd.prog).any (Tryd.prog.ifacesRec ·)) = true := by kernel_rfl
set_option maxRecDepth 100000 in
theorem cf7 : (Rows.jetsamChannelsRow.mapsOut == Tryd.prog.mapsAmong Tryd.f3.resultTypes.toList) = true := by kernel_rfl
set_option maxRecDepth 100000 in
theorem cf8 : (Rows.jetsamChannelsRow.loops == (Tryd.f3.params.toList ++ Rows.jetsamChannelsSpec.plain.varTypes Tryd.prog).any (Tryd.prog.loopsFrom ·)) = true := by kernel_rfl
set_option maxRecDepth 100000 in
theorem cf9 : (Rows.jetsamChannelsRow.wideKeys == (Tryd.f3.params.toList ++ Rows.jetsamChannelsSpec.plain.varTypes Tryd.prog ++ Tryd.f3.resultTypes.toList).any (Tryd.prog.wideKeysFrom ·)) = true := by kernel_rfl
set_option maxRecDepth 100000 in
theorem cf10 : (Rows.jetsamChannelsSpec.vars.all (Tryd.prog.varReadable ·)) = true := by kernel_rfl
set_option maxRecDepth 100000 in
theorem cf11 : (Tryd.f3.resultTypes.all (fun t => Tryd.prog.readableRec t && decide (t < Tryd.prog.types.size))) = true := by kernel_rfl
set_option maxRecDepth 100000 in
theorem cf12 : (Rows.jetsamChannelsRow.ifacesOut == Tryd.f3.resultTypes.toList.any (Tryd.prog.ifacesRec ·)) = true := by kernel_rfl
set_option maxRecDepth 100000 in
theorem cf13 : (Rows.jetsamChannelsRow.loopsOut == Tryd.f3.resultTypes.toList.any (Tryd.prog.loopsFrom ·)) = true := by kernel_rfl
set_option maxRecDepth 100000 in
theorem cf14 : (Rows.jetsamChannelsRow.plainKeys == Tryd.prog.plainKeys) = true := by kernel_rfl
set_option maxRecDepth 100000 in
theorem cf15 : (Rows.jetsamChannelsRow.shortTexts.isNone) = true := by kernel_rfl
set_option maxRecDepth 100000 in
theorem cf16 : (Tryd.prog.stopsHeard) = true := by kernel_rfl
set_option maxRecDepth 100000 in
theorem cf17 : (Tryd.prog.mayEnter) = true := by exact PF.enter
set_option maxRecDepth 100000 in
theorem cf18 : (Rows.jetsamChannelsRow.lifted == Tryd.prog.liftsFinal) = true := by rw [PF.lifts]; rfl
set_option maxRecDepth 100000 in
theorem cf19 : (Tryd.prog.make == some Rows.jetsamChannelsRow.make) = true := by rw [PF.make]; rfl
set_option maxRecDepth 100000 in
theorem cf20 : (Rows.jetsamChannelsRow.kinds == (if Rows.jetsamChannelsRow.domain.isEmpty then [] else Tryd.f3.params.toList.map fun t => match Tryd.prog.underlying t with | some (.int k) => some k | _ => none)) = true := by kernel_rfl
set_option maxRecDepth 100000 in
theorem cf21 : (Rows.jetsamChannelsRow.pinned == Rows.jetsamChannelsRow.pinnedBy) = true := by kernel_rfl
set_option maxRecDepth 100000 in
theorem cf22 : (Rows.jetsamChannelsRow.veiled == (Tryd.f3.params.toList ++ Rows.jetsamChannelsSpec.plain.varTypes Tryd.prog ++ Tryd.f3.resultTypes.toList).any (Tryd.prog.veiledRec ·)) = true := by kernel_rfl
set_option maxRecDepth 100000 in
theorem cf23 : (Rows.jetsamChannelsRow.veiledFits Tryd.prog Tryd.f3.params.toList (Tryd.f3.params.toList ++ Rows.jetsamChannelsSpec.plain.varTypes Tryd.prog ++ Tryd.f3.resultTypes.toList)) = true := by kernel_rfl
set_option maxRecDepth 100000 in
theorem closedF : joinedFacts Tryd.prog 3 Tryd.f3 Rows.jetsamChannelsSpec Rows.jetsamChannelsRow = true := by
  unfold joinedFacts
  exact (PF.and_i (PF.and_i (PF.and_i (PF.and_i (PF.and_i (PF.and_i (PF.and_i (PF.and_i (PF.and_i (PF.and_i (PF.and_i (PF.and_i (PF.and_i (PF.and_i (PF.and_i (PF.and_i (PF.and_i (PF.and_i (PF.and_i (PF.and_i (PF.and_i (PF.and_i (PF.and_i cf0 cf1) cf2) cf3) cf4) cf5) cf6) cf7) cf8) cf9) cf10) cf11) cf12) cf13) cf14) cf15) cf16) cf17) cf18) cf19) cf20) cf21) cf22) cf23)
set_option maxRecDepth 100000 in
theorem over : Rows.jetsamChannelsRow.holds Tryd.pinned (OpenSpec.ofChange Rows.jetsamChannelsSpec) :=
  OpenClaim.holds_of_wide 3 Tryd.f3 rfl rfl rfl rfl rfl rfl rfl ⟨rfl, rfl, rfl, rfl, rfl⟩ rfl rfl rfl rfl rfl (by kernel_rfl) Tryd.func3 closedF
    (of_decide_eq_true (by kernel_rfl)) (by unfold Func.isWrapper; first | (rw [if_pos (by decide +kernel)]; kernel_rfl) | (rw [if_neg (by decide +kernel)]; exact ⟨rfl, rfl⟩))
    (fun os started H enc _ => lifted os started H enc)
theorem plain (f : FuncId) (fn : Func) (hf : Tryd.pinned.checked.prog.funcNamed "jetsam/jetsamtop.JetsamChannels" = some f) (hfn : Tryd.pinned.checked.prog.funcs[f]? = some fn) :
    true = Tryd.pinned.checked.prog.looks [] ∧ ∀ (j : Nat) t, fn.params[j]? = some t → Tryd.pinned.checked.prog.wantsStandIn t = false := by
  obtain rfl : f = 3 := Option.some.inj ((show Tryd.prog.funcNamed "jetsam/jetsamtop.JetsamChannels" = some 3 by kernel_rfl).symm.trans hf) |>.symm
  obtain rfl : fn = Tryd.f3 := (Option.some.inj (Tryd.func3.symm.trans hfn)).symm
  refine ⟨by kernel_rfl, fun j t ht => ?_⟩
  rw [Tryd.params3] at ht
  have hm : t ∈ [3, 22] := by simpa using Array.mem_of_getElem? ht
  have hall : ([3, 22].all fun u => !Tryd.prog.wantsStandIn u) = true := by kernel_rfl
  exact (show Tryd.prog.wantsStandIn t = false by simpa using List.all_eq_true.1 hall t hm)
theorem card : Rows.JetsamChannelsCardSaid :=
  Claim7.holds_tied_plain_at .later [] _ _ _ _ over (fun _ h => by cases h) (by kernel_rfl) (fun _ h => by cases h) jetsamChannels_row_tie rfl ⟨rfl, rfl⟩ (by kernel_rfl) rfl plain (by kernel_rfl)
end Go.Proofs.YtlfojobligplkaaDoor.RJetsamChannels
namespace Go.Proofs.YtlfojobligplkaaDoor
/-- The card. -/
theorem jetsamChannels_card : Rows.JetsamChannelsCardSaid := RJetsamChannels.card
end Go.Proofs.YtlfojobligplkaaDoor
