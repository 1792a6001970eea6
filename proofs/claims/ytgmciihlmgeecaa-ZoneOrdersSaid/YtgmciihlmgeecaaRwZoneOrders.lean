import Derived.Test.YtgmciihlmgeecaaRows
import Derived.Test.YtgmciihlmgeecaaMtRow2
import Derived.Test.YtgmciihlmgeecaaPF
import Derived.Test.YtgmciihlmgeecaaPuOrders
import Derived.WalkKit
import Derived.ProofKit
import Derived.OpenShut
import Derived.ShutString
import Derived.ChangeOld
import Derived.Below
import Derived.SizedLaws
import Derived.Carry
/- The statement ZoneOrders, as it is given. No conditions beyond its own. -/
namespace Go.Proofs.Ytgmciihlmgeecaa.RZoneOrders
open Go Go.ChangeShapes Go.WideShapes Go.ChangeAt Go.RowKit Go.Proofs Go.Proofs.Ytgmciihlmgeecaa.Mt Go.Proofs.Ytgmciihlmgeecaa.Fn
set_option linter.unusedVariables false
set_option linter.unusedSimpArgs false
theorem own : ownKnob Try.prog.godebug = none := by kernel_rfl
theorem laidOut : laidOutB Try.prog = true := by kernel_rfl
theorem closed : closedT Try.prog [3,48] = true := by kernel_rfl
set_option maxRecDepth 100000 in
theorem lifted (os : Os) (started : os.Started) (H : Type) (enc : TypeId × Value → H) :
    ReturnsInHanded {} Try.checked os 8 .any (Rows.zoneOrdersSpec.pre6 enc Try.prog Try.f8 Rows.zoneOrdersRow.domain false) (Rows.zoneOrdersSpec.post enc Try.prog Try.f8 false true false false) := by
  refine returnsInHanded_of_change_sized (C := Try.checked) own started (by kernel_rfl) Try.func8
    (ChangeSpec.witness6 (enc := enc) (C := Try.checked) false ⟨#[], #[.agg #[.int .i64 0, .int .i64 0, .int .i64 0, .int .i64 0], .agg #[.int .i64 0, .int .i64 0, .int .i64 0, .int .i64 0], .agg #[.int .i64 0, .int .i64 0, .int .i64 0, .int .i64 0]], []⟩ 8 (by kernel_rfl) (by kernel_rfl) (by kernel_rfl) (by kernel_rfl)) ?_
  intro W base args ds gs before hval0 hW hcnd hsz0 _
  have hval : ∀ (j : Nat) t v, Try.f8.params[j]? = some t → args[j]? = some v → Value.okWide Try.prog W .any base t v := hval0
  have hW' := hW
  obtain ⟨p, q, hA0, hV, rfl, hfz, hnd⟩ := hW
  have hA : DataW.TrodAll enc Try.prog W 0 (fun _ => true) true Try.f8.params.toList args.toList ds p := hA0
  rw [Try.params8] at hA hval
  obtain ⟨v0, vs0, d0, ds0, p0, q0, hargs, rfl, rfl, h0, r0⟩ := trodAll_cons hA
  obtain ⟨v1, vs1, d1, ds1, p1, q1, rfl, rfl, rfl, h1, r1⟩ := trodAll_cons r0
  obtain ⟨v2, vs2, d2, ds2, p2, q2, rfl, rfl, rfl, h2, r2⟩ := trodAll_cons r1
  obtain ⟨rfl, rfl, rfl⟩ := trodAll_nil r2
  obtain rfl : args = #[v0, v1, v2] := by cases args; simp_all
  obtain ⟨rfl, rfl⟩ := trodVars_none hV
  have k0 := h0
  have lt0 : ∀ x ∈ p0, x.block < W.heap.size := by obtain ⟨m, hm⟩ := k0; exact DataW.trod_lt m _ _ _ hm
  obtain ⟨xs0, rfl, kw0_0⟩ := open_flat (ks := [some .i64, some .i64, some .i64, some .i64]) (by kernel_rfl) (by kernel_rfl) (by kernel_rfl) (hval 0 48 v0 rfl rfl) h0
  obtain ⟨a0_0, y0_0, rfl, w0_0, kw0_1⟩ := kw0_0.int
  obtain ⟨a0_1, y0_1, rfl, w0_1, kw0_2⟩ := kw0_1.int
  obtain ⟨a0_2, y0_2, rfl, w0_2, kw0_3⟩ := kw0_2.int
  obtain ⟨a0_3, y0_3, rfl, w0_3, kw0_4⟩ := kw0_3.int
  obtain rfl := kw0_4.end'
  have k1 := h1
  have lt1 : ∀ x ∈ p1, x.block < W.heap.size := by obtain ⟨m, hm⟩ := k1; exact DataW.trod_lt m _ _ _ hm
  obtain ⟨xs1, rfl, kw1_0⟩ := open_flat (ks := [some .i64, some .i64, some .i64, some .i64]) (by kernel_rfl) (by kernel_rfl) (by kernel_rfl) (hval 1 48 v1 rfl rfl) h1
  obtain ⟨a1_0, y1_0, rfl, w1_0, kw1_1⟩ := kw1_0.int
  obtain ⟨a1_1, y1_1, rfl, w1_1, kw1_2⟩ := kw1_1.int
  obtain ⟨a1_2, y1_2, rfl, w1_2, kw1_3⟩ := kw1_2.int
  obtain ⟨a1_3, y1_3, rfl, w1_3, kw1_4⟩ := kw1_3.int
  obtain rfl := kw1_4.end'
  have k2 := h2
  have lt2 : ∀ x ∈ p2, x.block < W.heap.size := by obtain ⟨m, hm⟩ := k2; exact DataW.trod_lt m _ _ _ hm
  obtain ⟨xs2, rfl, kw2_0⟩ := open_flat (ks := [some .i64, some .i64, some .i64, some .i64]) (by kernel_rfl) (by kernel_rfl) (by kernel_rfl) (hval 2 48 v2 rfl rfl) h2
  obtain ⟨a2_0, y2_0, rfl, w2_0, kw2_1⟩ := kw2_0.int
  obtain ⟨a2_1, y2_1, rfl, w2_1, kw2_2⟩ := kw2_1.int
  obtain ⟨a2_2, y2_2, rfl, w2_2, kw2_3⟩ := kw2_2.int
  obtain ⟨a2_3, y2_3, rfl, w2_3, kw2_4⟩ := kw2_3.int
  obtain rfl := kw2_4.end'
  have hs := f8_sound a0_0 a0_1 a0_2 a0_3 a1_0 a1_1 a1_2 a1_3 a2_0 a2_1 a2_2 a2_3 cx8_ok (f8_true a0_0 a0_1 a0_2 a0_3 a1_0 a1_1 a1_2 a1_3 a2_0 a2_1 a2_2 a2_3 w0_0 w0_1 w0_2 w0_3 w1_0 w1_1 w1_2 w1_3 w2_0 w2_1 w2_2 w2_3)
  refine (law_calls (w := W) hs (args_cons (arg_agg (xs := [.int .i64 a0_0, .int .i64 a0_1, .int .i64 a0_2, .int .i64 a0_3]) (by simp [Value.oneCell'])) (args_cons (arg_agg (xs := [.int .i64 a1_0, .int .i64 a1_1, .int .i64 a1_2, .int .i64 a1_3]) (by simp [Value.oneCell'])) (args_cons (arg_agg (xs := [.int .i64 a2_0, .int .i64 a2_1, .int .i64 a2_2, .int .i64 a2_3]) (by simp [Value.oneCell'])) args_nil)))).mono fun e W' ⟨he, bel⟩ => ?_
  subst he
  exact ⟨_, rfl, _, _, _, [], _, [], hW', trodAll_mk1 (shut_bool Try.underlying4 _), (trodAll_cons_mk (Below.trod laidOut (by kernel_rfl) (of_decide_eq_true (by kernel_rfl)) k0 bel lt0) (trodAll_cons_mk (Below.trod laidOut (by kernel_rfl) (of_decide_eq_true (by kernel_rfl)) k1 bel lt1) (trodAll_cons_mk (Below.trod laidOut (by kernel_rfl) (of_decide_eq_true (by kernel_rfl)) k2 bel lt2) trodAll_mk0))), rfl, bel.frame _, fun h => by cases h⟩
set_option maxRecDepth 100000 in
theorem cf0 : (Rows.zoneOrdersRow.wf (OpenSpec.ofChange Rows.zoneOrdersSpec) && laidOutB Try.prog && mapsRowed Try.prog && Try.f8.params.all (Try.prog.readableRec ·) && namedTie Try.prog Rows.zoneOrdersRow.named Rows.zoneOrdersSpec.vars && (Rows.zoneOrdersRow.stops == []) && (Try.prog.stops == []) && (Rows.zoneOrdersRow.knobs == []) && (Try.prog.stopKnobs == [])) = true := by kernel_rfl
set_option maxRecDepth 100000 in
theorem cf1 : (Rows.zoneOrdersRow.inPlace == Try.prog.inPlace 8) = true := by kernel_rfl
set_option maxRecDepth 100000 in
theorem cf2 : (Rows.zoneOrdersRow.unfollowed == Try.prog.unfollowed 8) = true := by kernel_rfl
set_option maxRecDepth 100000 in
theorem cf3 : (Rows.zoneOrdersRow.recurses == Try.prog.recurses 8) = true := by kernel_rfl
set_option maxRecDepth 100000 in
theorem cf4 : (Rows.zoneOrdersRow.named == Try.prog.varsNamed 8) = true := by kernel_rfl
set_option maxRecDepth 100000 in
theorem cf5 : (Rows.zoneOrdersRow.maps == (Try.f8.params.toList ++ Rows.zoneOrdersSpec.plain.varTypes Try.prog).any (Try.prog.mapsRec ·)) = true := by kernel_rfl
set_option maxRecDepth 100000 in
theorem cf6 : (Rows.zoneOrdersRow.ifaces == (Try.f8.params.toList ++ Rows.zoneOrdersSpec.plain.varTypes Try.prog).any (Try.prog.ifacesRec ·)) = true := by kernel_rfl
set_option maxRecDepth 100000 in
theorem cf7 : (Rows.zoneOrdersRow.mapsOut == Try.prog.mapsAmong Try.f8.resultTypes.toList) = true := by kernel_rfl
set_option maxRecDepth 100000 in
theorem cf8 : (Rows.zoneOrdersRow.loops == (Try.f8.params.toList ++ Rows.zoneOrdersSpec.plain.varTypes Try.prog).any (Try.prog.loopsFrom ·)) = true := by kernel_rfl
set_option maxRecDepth 100000 in
theorem cf9 : (Rows.zoneOrdersRow.wideKeys == (Try.f8.params.toList ++ Rows.zoneOrdersSpec.plain.varTypes Try.prog ++ Try.f8.resultTypes.toList).any (Try.prog.wideKeysFrom ·)) = true := by kernel_rfl
set_option maxRecDepth 100000 in
theorem cf10 : (Rows.zoneOrdersSpec.vars.all (Try.prog.varReadable ·)) = true := by kernel_rfl
set_option maxRecDepth 100000 in
theorem cf11 : (Try.f8.resultTypes.all (fun t => Try.prog.readableRec t && decide (t < Try.prog.types.size))) = true := by kernel_rfl
set_option maxRecDepth 100000 in
theorem cf12 : (Rows.zoneOrdersRow.ifacesOut == Try.f8.resultTypes.toList.any (Try.prog.ifacesRec ·)) = true := by kernel_rfl
set_option maxRecDepth 100000 in
theorem cf13 : (Rows.zoneOrdersRow.loopsOut == Try.f8.resultTypes.toList.any (Try.prog.loopsFrom ·)) = true := by kernel_rfl
set_option maxRecDepth 100000 in
theorem cf14 : (Rows.zoneOrdersRow.plainKeys == Try.prog.plainKeys) = true := by kernel_rfl
set_option maxRecDepth 100000 in
theorem cf15 : (Rows.zoneOrdersRow.shortTexts.isNone) = true := by kernel_rfl
set_option maxRecDepth 100000 in
theorem cf16 : (Try.prog.stopsHeard) = true := by kernel_rfl
set_option maxRecDepth 100000 in
theorem cf17 : (Try.prog.mayEnter) = true := by exact PF.enter
set_option maxRecDepth 100000 in
theorem cf18 : (Rows.zoneOrdersRow.lifted == Try.prog.liftsFinal) = true := by rw [PF.lifts]; rfl
set_option maxRecDepth 100000 in
theorem cf19 : (Try.prog.make == some Rows.zoneOrdersRow.make) = true := by rw [PF.make]; rfl
set_option maxRecDepth 100000 in
theorem cf20 : (Rows.zoneOrdersRow.kinds == (if Rows.zoneOrdersRow.domain.isEmpty then [] else Try.f8.params.toList.map fun t => match Try.prog.underlying t with | some (.int k) => some k | _ => none)) = true := by kernel_rfl
set_option maxRecDepth 100000 in
theorem cf21 : (Rows.zoneOrdersRow.pinned == Rows.zoneOrdersRow.pinnedBy) = true := by kernel_rfl
set_option maxRecDepth 100000 in
theorem cf22 : (Rows.zoneOrdersRow.veiled == (Try.f8.params.toList ++ Rows.zoneOrdersSpec.plain.varTypes Try.prog ++ Try.f8.resultTypes.toList).any (Try.prog.veiledRec ·)) = true := by kernel_rfl
set_option maxRecDepth 100000 in
theorem cf23 : (Rows.zoneOrdersRow.veiledFits Try.prog Try.f8.params.toList (Try.f8.params.toList ++ Rows.zoneOrdersSpec.plain.varTypes Try.prog ++ Try.f8.resultTypes.toList)) = true := by kernel_rfl
set_option maxRecDepth 100000 in
theorem closedF : joinedFacts Try.prog 8 Try.f8 Rows.zoneOrdersSpec Rows.zoneOrdersRow = true := by
  unfold joinedFacts
  exact (PF.and_i (PF.and_i (PF.and_i (PF.and_i (PF.and_i (PF.and_i (PF.and_i (PF.and_i (PF.and_i (PF.and_i (PF.and_i (PF.and_i (PF.and_i (PF.and_i (PF.and_i (PF.and_i (PF.and_i (PF.and_i (PF.and_i (PF.and_i (PF.and_i (PF.and_i (PF.and_i cf0 cf1) cf2) cf3) cf4) cf5) cf6) cf7) cf8) cf9) cf10) cf11) cf12) cf13) cf14) cf15) cf16) cf17) cf18) cf19) cf20) cf21) cf22) cf23)
set_option maxRecDepth 100000 in
theorem over : Rows.zoneOrdersRow.holds Try.pinned (OpenSpec.ofChange Rows.zoneOrdersSpec) :=
  OpenClaim.holds_of_wide 8 Try.f8 rfl rfl rfl rfl rfl rfl rfl ⟨rfl, rfl, rfl, rfl, rfl⟩ rfl rfl rfl rfl rfl (by kernel_rfl) Try.func8 closedF
    (of_decide_eq_true (by kernel_rfl)) (by unfold Func.isWrapper; first | (rw [if_pos (by decide +kernel)]; kernel_rfl) | (rw [if_neg (by decide +kernel)]; exact ⟨rfl, rfl⟩))
    (fun os started H enc _ => lifted os started H enc)
end Go.Proofs.Ytgmciihlmgeecaa.RZoneOrders
namespace Go.Proofs.Ytgmciihlmgeecaa
/-- The statement. -/
theorem zoneOrders_holds : Rows.ZoneOrdersSaid := RZoneOrders.over
end Go.Proofs.Ytgmciihlmgeecaa

