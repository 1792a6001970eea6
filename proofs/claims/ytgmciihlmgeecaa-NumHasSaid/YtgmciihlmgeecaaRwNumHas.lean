import Derived.Test.YtgmciihlmgeecaaRows
import Derived.Test.YtgmciihlmgeecaaMtRow2
import Derived.Test.YtgmciihlmgeecaaPF
import Derived.Test.YtgmciihlmgeecaaPuNumHas
import Derived.WalkKit
import Derived.ProofKit
import Derived.OpenShut
import Derived.ShutString
import Derived.ChangeOld
import Derived.Below
import Derived.SizedLaws
import Derived.Carry
/- The statement NumHas, as it is given. No conditions beyond its own. -/
namespace Go.Proofs.Ytgmciihlmgeecaa.RNumHas
open Go Go.ChangeShapes Go.WideShapes Go.ChangeAt Go.RowKit Go.Proofs Go.Proofs.Ytgmciihlmgeecaa.Mt Go.Proofs.Ytgmciihlmgeecaa.Fn
set_option linter.unusedVariables false
set_option linter.unusedSimpArgs false
theorem own : ownKnob Try.prog.godebug = none := by kernel_rfl
theorem laidOut : laidOutB Try.prog = true := by kernel_rfl
theorem closed : closedT Try.prog [3,21,53,72,80] = true := by kernel_rfl
set_option maxRecDepth 100000 in
theorem lifted (os : Os) (started : os.Started) (H : Type) (enc : TypeId × Value → H) :
    ReturnsInHanded {} Try.checked os 12 .any (Rows.numHasSpec.pre6 enc Try.prog Try.f12 Rows.numHasRow.domain false) (Rows.numHasSpec.post enc Try.prog Try.f12 false true false false) := by
  refine returnsInHanded_of_change_sized (C := Try.checked) own started (by kernel_rfl) Try.func12
    (ChangeSpec.witness6 (enc := enc) (C := Try.checked) false ⟨#[], #[.agg #[.int .i32 0, .int .i32 0, .int .i32 0, .int .i32 0], .slice none 0 0], []⟩ 8 (by kernel_rfl) (by kernel_rfl) (by kernel_rfl) (by kernel_rfl)) ?_
  intro W base args ds gs before hval0 hW hcnd hsz0 _
  have hval : ∀ (j : Nat) t v, Try.f12.params[j]? = some t → args[j]? = some v → Value.okWide Try.prog W .any base t v := hval0
  have hW' := hW
  obtain ⟨p, q, hA0, hV, rfl, hfz, hnd⟩ := hW
  have hA : DataW.TrodAll enc Try.prog W 0 (fun _ => true) true Try.f12.params.toList args.toList ds p := hA0
  rw [Try.params12] at hA hval
  obtain ⟨v0, vs0, d0, ds0, p0, q0, hargs, rfl, rfl, h0, r0⟩ := trodAll_cons hA
  obtain ⟨v1, vs1, d1, ds1, p1, q1, rfl, rfl, rfl, h1, r1⟩ := trodAll_cons r0
  obtain ⟨rfl, rfl, rfl⟩ := trodAll_nil r1
  obtain rfl : args = #[v0, v1] := by cases args; simp_all
  obtain ⟨rfl, rfl⟩ := trodVars_none hV
  have k0 := h0
  have lt0 : ∀ x ∈ p0, x.block < W.heap.size := by obtain ⟨m, hm⟩ := k0; exact DataW.trod_lt m _ _ _ hm
  obtain ⟨xs0, rfl, kw0_0⟩ := open_flat (ks := [some .i32, some .i32, some .i32, some .i32]) (by kernel_rfl) (by kernel_rfl) (by kernel_rfl) (hval 0 78 v0 rfl rfl) h0
  obtain ⟨a0_0, y0_0, rfl, w0_0, kw0_1⟩ := kw0_0.int
  obtain ⟨a0_1, y0_1, rfl, w0_1, kw0_2⟩ := kw0_1.int
  obtain ⟨a0_2, y0_2, rfl, w0_2, kw0_3⟩ := kw0_2.int
  obtain ⟨a0_3, y0_3, rfl, w0_3, kw0_4⟩ := kw0_3.int
  obtain rfl := kw0_4.end'
  have k1 := h1
  have lt1 : ∀ x ∈ p1, x.block < W.heap.size := by obtain ⟨m, hm⟩ := k1; exact DataW.trod_lt m _ _ _ hm
  obtain ⟨a1n, a1, D1, rel1, ty1⟩ := open_rowT closed (by decide) Try.underlying72 (hval 1 72 v1 rfl rfl) h1
  have hs := f12_sound a0_0 a0_1 a0_2 a0_3 a1n a1 cx12_ok (f12_true a0_0 a0_1 a0_2 a0_3 a1n a1 w0_0 w0_1 w0_2 w0_3 ty1)
  refine (law_calls (w := W) hs (args_cons (arg_agg (xs := [.int .i32 a0_0, .int .i32 a0_1, .int .i32 a0_2, .int .i32 a0_3]) (by simp [Value.oneCell'])) (args_cons rel1 args_nil))).mono fun e W' ⟨he, bel⟩ => ?_
  subst he
  exact ⟨_, rfl, _, _, _, [], _, [], hW', trodAll_mk1 (shut_bool Try.underlying4 _), (trodAll_cons_mk (Below.trod laidOut (by kernel_rfl) (of_decide_eq_true (by kernel_rfl)) k0 bel lt0) (trodAll_cons_mk (Below.trod laidOut (by kernel_rfl) (of_decide_eq_true (by kernel_rfl)) k1 bel lt1) trodAll_mk0)), rfl, bel.frame _, fun h => by cases h⟩
set_option maxRecDepth 100000 in
theorem cf0 : (Rows.numHasRow.wf (OpenSpec.ofChange Rows.numHasSpec) && laidOutB Try.prog && mapsRowed Try.prog && Try.f12.params.all (Try.prog.readableRec ·) && namedTie Try.prog Rows.numHasRow.named Rows.numHasSpec.vars && (Rows.numHasRow.stops == []) && (Try.prog.stops == []) && (Rows.numHasRow.knobs == []) && (Try.prog.stopKnobs == [])) = true := by kernel_rfl
set_option maxRecDepth 100000 in
theorem cf1 : (Rows.numHasRow.inPlace == Try.prog.inPlace 12) = true := by kernel_rfl
set_option maxRecDepth 100000 in
theorem cf2 : (Rows.numHasRow.unfollowed == Try.prog.unfollowed 12) = true := by kernel_rfl
set_option maxRecDepth 100000 in
theorem cf3 : (Rows.numHasRow.recurses == Try.prog.recurses 12) = true := by kernel_rfl
set_option maxRecDepth 100000 in
theorem cf4 : (Rows.numHasRow.named == Try.prog.varsNamed 12) = true := by kernel_rfl
set_option maxRecDepth 100000 in
theorem cf5 : (Rows.numHasRow.maps == (Try.f12.params.toList ++ Rows.numHasSpec.plain.varTypes Try.prog).any (Try.prog.mapsRec ·)) = true := by kernel_rfl
set_option maxRecDepth 100000 in
theorem cf6 : (Rows.numHasRow.ifaces == (Try.f12.params.toList ++ Rows.numHasSpec.plain.varTypes Try.prog).any (Try.prog.ifacesRec ·)) = true := by kernel_rfl
set_option maxRecDepth 100000 in
theorem cf7 : (Rows.numHasRow.mapsOut == Try.prog.mapsAmong Try.f12.resultTypes.toList) = true := by kernel_rfl
set_option maxRecDepth 100000 in
theorem cf8 : (Rows.numHasRow.loops == (Try.f12.params.toList ++ Rows.numHasSpec.plain.varTypes Try.prog).any (Try.prog.loopsFrom ·)) = true := by kernel_rfl
set_option maxRecDepth 100000 in
theorem cf9 : (Rows.numHasRow.wideKeys == (Try.f12.params.toList ++ Rows.numHasSpec.plain.varTypes Try.prog ++ Try.f12.resultTypes.toList).any (Try.prog.wideKeysFrom ·)) = true := by kernel_rfl
set_option maxRecDepth 100000 in
theorem cf10 : (Rows.numHasSpec.vars.all (Try.prog.varReadable ·)) = true := by kernel_rfl
set_option maxRecDepth 100000 in
theorem cf11 : (Try.f12.resultTypes.all (fun t => Try.prog.readableRec t && decide (t < Try.prog.types.size))) = true := by kernel_rfl
set_option maxRecDepth 100000 in
theorem cf12 : (Rows.numHasRow.ifacesOut == Try.f12.resultTypes.toList.any (Try.prog.ifacesRec ·)) = true := by kernel_rfl
set_option maxRecDepth 100000 in
theorem cf13 : (Rows.numHasRow.loopsOut == Try.f12.resultTypes.toList.any (Try.prog.loopsFrom ·)) = true := by kernel_rfl
set_option maxRecDepth 100000 in
theorem cf14 : (Rows.numHasRow.plainKeys == Try.prog.plainKeys) = true := by kernel_rfl
set_option maxRecDepth 100000 in
theorem cf15 : (Rows.numHasRow.shortTexts.isNone) = true := by kernel_rfl
set_option maxRecDepth 100000 in
theorem cf16 : (Try.prog.stopsHeard) = true := by kernel_rfl
set_option maxRecDepth 100000 in
theorem cf17 : (Try.prog.mayEnter) = true := by exact PF.enter
set_option maxRecDepth 100000 in
theorem cf18 : (Rows.numHasRow.lifted == Try.prog.liftsFinal) = true := by rw [PF.lifts]; rfl
set_option maxRecDepth 100000 in
theorem cf19 : (Try.prog.make == some Rows.numHasRow.make) = true := by rw [PF.make]; rfl
set_option maxRecDepth 100000 in
theorem cf20 : (Rows.numHasRow.kinds == (if Rows.numHasRow.domain.isEmpty then [] else Try.f12.params.toList.map fun t => match Try.prog.underlying t with | some (.int k) => some k | _ => none)) = true := by kernel_rfl
set_option maxRecDepth 100000 in
theorem cf21 : (Rows.numHasRow.pinned == Rows.numHasRow.pinnedBy) = true := by kernel_rfl
set_option maxRecDepth 100000 in
theorem cf22 : (Rows.numHasRow.veiled == (Try.f12.params.toList ++ Rows.numHasSpec.plain.varTypes Try.prog ++ Try.f12.resultTypes.toList).any (Try.prog.veiledRec ·)) = true := by kernel_rfl
set_option maxRecDepth 100000 in
theorem cf23 : (Rows.numHasRow.veiledFits Try.prog Try.f12.params.toList (Try.f12.params.toList ++ Rows.numHasSpec.plain.varTypes Try.prog ++ Try.f12.resultTypes.toList)) = true := by kernel_rfl
set_option maxRecDepth 100000 in
theorem closedF : joinedFacts Try.prog 12 Try.f12 Rows.numHasSpec Rows.numHasRow = true := by
  unfold joinedFacts
  exact (PF.and_i (PF.and_i (PF.and_i (PF.and_i (PF.and_i (PF.and_i (PF.and_i (PF.and_i (PF.and_i (PF.and_i (PF.and_i (PF.and_i (PF.and_i (PF.and_i (PF.and_i (PF.and_i (PF.and_i (PF.and_i (PF.and_i (PF.and_i (PF.and_i (PF.and_i (PF.and_i cf0 cf1) cf2) cf3) cf4) cf5) cf6) cf7) cf8) cf9) cf10) cf11) cf12) cf13) cf14) cf15) cf16) cf17) cf18) cf19) cf20) cf21) cf22) cf23)
set_option maxRecDepth 100000 in
theorem over : Rows.numHasRow.holds Try.pinned (OpenSpec.ofChange Rows.numHasSpec) :=
  OpenClaim.holds_of_wide 12 Try.f12 rfl rfl rfl rfl rfl rfl rfl ⟨rfl, rfl, rfl, rfl, rfl⟩ rfl rfl rfl rfl rfl (by kernel_rfl) Try.func12 closedF
    (of_decide_eq_true (by kernel_rfl)) (by unfold Func.isWrapper; first | (rw [if_pos (by decide +kernel)]; kernel_rfl) | (rw [if_neg (by decide +kernel)]; exact ⟨rfl, rfl⟩))
    (fun os started H enc _ => lifted os started H enc)
end Go.Proofs.Ytgmciihlmgeecaa.RNumHas
namespace Go.Proofs.Ytgmciihlmgeecaa
/-- The statement. -/
theorem numHas_holds : Rows.NumHasSaid := RNumHas.over
end Go.Proofs.Ytgmciihlmgeecaa

