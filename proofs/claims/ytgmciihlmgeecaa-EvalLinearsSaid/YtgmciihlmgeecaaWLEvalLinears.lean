import Derived.Test.YtgmciihlmgeecaaWE

import Derived.Test.YtgmciihlmgeecaaSpE2

/- The law EvalLinears, walked. No conditions beyond those named. -/

namespace Go.Proofs.Ytgmciihlmgeecaa.Fn

open Go Go.RowKit Go.Proofs Go.Proofs.Ytgmciihlmgeecaa.Mt Go.Proofs.Ytgmciihlmgeecaa.Zm

set_option linter.unusedVariables false

set_option linter.unusedSimpArgs false

def cx17 (DD : Nat) : CtxW := ⟨⟨[(67, sum67 DD), (69, sum69 DD), (68, sum68 DD), (70, sum70 DD), (71, sum71)], []⟩, 16, []⟩


def F17 : SFn := ⟨40, [(.tmp 2)], (.seq (.reg [(o1 1 (.box (.t 0))), (o1 2 (.mv (.c (.bool .false))))]) (.seq (.reg [(o1 9 (.load .false .true 4 [] (.t 1))), (o1 10 (.call .false .false (.f 67) [(.t 9), (.c (.int .i64 20)), (.c (.int .i64 3))])), (oN (.store .false 4 (.t 1) (.t 10)))]) (.seq (.reg [(o1 12 (.load .false .true 4 [] (.t 1))), (o1 13 (.call .false .false (.f 69) [(.t 12)])), (o1 14 (.call .false .false (.f 68) [(.t 13)])), (o1 11 (.mv (.t 14))), (o1 15 (.ext 0 (.t 11))), (o1 16 (.ext 1 (.t 11))), (o1 17 (.ext 2 (.t 11))), (o1 3 (.mv (.t 15))), (o1 4 (.mv (.t 16))), (o1 5 (.mv (.t 17)))]) (.seq (.reg [(o1 19 (.load .false .true 4 [] (.t 1))), (o1 20 (.call .false .false (.f 70) [(.t 19)])), (o1 18 (.mv (.t 20))), (o1 21 (.ext 0 (.t 18))), (o1 22 (.ext 1 (.t 18))), (o1 23 (.ext 2 (.t 18))), (o1 6 (.mv (.t 21))), (o1 7 (.mv (.t 22))), (o1 8 (.mv (.t 23)))]) (.seq (.reg [(o1 24 (.call .false .false (.f 71) [])), (o1 25 (.mv (.t 24))), (oS 26 (.mv (.t 3)) (.some (25, .true))), (oS 27 (.mv (.t 6)) (.some (25, .true))), (oS 28 (.bin .eql (.t 26) (.t 27)) (.some (25, .true))), (o1 29 (.pick (.t 25) (.t 28) (.c (.bool .false)))), (o1 30 (.mv (.t 29))), (oS 31 (.mv (.t 4)) (.some (30, .true))), (oS 32 (.mv (.t 7)) (.some (30, .true))), (oS 33 (.bin .eql (.t 31) (.t 32)) (.some (30, .true))), (o1 34 (.pick (.t 30) (.t 33) (.c (.bool .false)))), (o1 35 (.mv (.t 34))), (oS 36 (.mv (.t 5)) (.some (35, .true))), (oS 37 (.mv (.t 8)) (.some (35, .true))), (oS 38 (.binB .false (.t 36) (.t 37)) (.some (35, .true))), (o1 39 (.pick (.t 35) (.t 38) (.c (.bool .false)))), (o1 2 (.mv (.t 39)))]) .ret)))))⟩

theorem F17_ok : sfn Try.prog hintsN 17 [] = some F17 := by kernel_rfl

theorem E17 (DD : Nat) (a0_0 : Int) (a0_1 : Int) (a0_2 : Int) (a0_3n : Nat) (a0_3 : List Cell) (R : Ret → Prop) : wpFO (cx17 DD) F17 (.n 2 (.b true (.n 1 (.b true (.n 1 .e))))) [(.agg [(.v (.int .i64 a0_0)), (.v (.int .i64 a0_1)), (.v (.int .i64 a0_2)), (.sl a0_3n a0_3)])] R = (letV (tameC DD 20 3 [Cell.v (Value.int .i64 a0_0), Cell.v (Value.int .i64 a0_1), Cell.v (Value.int .i64 a0_2), Cell.sl a0_3n a0_3]) (fun (u1 : List Cell) => bif okE DD [Cell.v (Value.int .i64 a0_0), Cell.v (Value.int .i64 a0_1), Cell.v (Value.int .i64 a0_2), Cell.sl a0_3n a0_3] && true && true && true && true && true && true && true && true && true && true then (bif okE DD [Cell.v (Value.int .i64 (kK u1)), Cell.v (Value.int .i64 (kV u1)), Cell.v (Value.int .i64 (kX u1)), Cell.sl (kN u1) (kL u1)] && okB DD [Cell.v (Value.int .i64 (kK u1)), Cell.v (Value.int .i64 (kV u1)), Cell.v (Value.int .i64 (kX u1)), Cell.sl (kN u1) (kL u1)] && true && true && true && true && true then (letV (lin3 (linC DD [Cell.v (Value.int .i64 (kK u1)), Cell.v (Value.int .i64 (kV u1)), Cell.v (Value.int .i64 (kX u1)), Cell.sl (kN u1) (kL u1)])) (fun (u4 : (Int × Int) × Bool) => bif okE DD [Cell.v (Value.int .i64 (kK u1)), Cell.v (Value.int .i64 (kV u1)), Cell.v (Value.int .i64 (kX u1)), Cell.sl (kN u1) (kL u1)] && true && true && true && true && true then (letV (refC DD [Cell.v (Value.int .i64 (kK u1)), Cell.v (Value.int .i64 (kV u1)), Cell.v (Value.int .i64 (kX u1)), Cell.sl (kN u1) (kL u1)]) (fun (u6 : (Int × Int) × Bool) => bif okE DD [Cell.v (Value.int .i64 (kK u1)), Cell.v (Value.int .i64 (kV u1)), Cell.v (Value.int .i64 (kX u1)), Cell.sl (kN u1) (kL u1)] && true && true && true && true && true then ((u4.1.1 == u6.1.1) = true ∧ ((u4.1.2 == u6.1.2) = true ∧ (R (Ret.mk (.one (.v (.bool (u4.2 == u6.2)))) [])))) else False)) else False)) else False) else False)) := by kernel_rfl

def f17_wp (DD : Nat) (a0_0 : Int) (a0_1 : Int) (a0_2 : Int) (a0_3n : Nat) (a0_3 : List Cell) (R : Ret → Prop) : Prop := letV (tameC DD 20 3 [Cell.v (Value.int .i64 a0_0), Cell.v (Value.int .i64 a0_1), Cell.v (Value.int .i64 a0_2), Cell.sl a0_3n a0_3]) (fun (u1 : List Cell) => bif okE DD [Cell.v (Value.int .i64 a0_0), Cell.v (Value.int .i64 a0_1), Cell.v (Value.int .i64 a0_2), Cell.sl a0_3n a0_3] && true && true && true && true && true && true && true && true && true && true then (bif okE DD [Cell.v (Value.int .i64 (kK u1)), Cell.v (Value.int .i64 (kV u1)), Cell.v (Value.int .i64 (kX u1)), Cell.sl (kN u1) (kL u1)] && okB DD [Cell.v (Value.int .i64 (kK u1)), Cell.v (Value.int .i64 (kV u1)), Cell.v (Value.int .i64 (kX u1)), Cell.sl (kN u1) (kL u1)] && true && true && true && true && true then (letV (lin3 (linC DD [Cell.v (Value.int .i64 (kK u1)), Cell.v (Value.int .i64 (kV u1)), Cell.v (Value.int .i64 (kX u1)), Cell.sl (kN u1) (kL u1)])) (fun (u4 : (Int × Int) × Bool) => bif okE DD [Cell.v (Value.int .i64 (kK u1)), Cell.v (Value.int .i64 (kV u1)), Cell.v (Value.int .i64 (kX u1)), Cell.sl (kN u1) (kL u1)] && true && true && true && true && true then (letV (refC DD [Cell.v (Value.int .i64 (kK u1)), Cell.v (Value.int .i64 (kV u1)), Cell.v (Value.int .i64 (kX u1)), Cell.sl (kN u1) (kL u1)]) (fun (u6 : (Int × Int) × Bool) => (u4.1.1 == u6.1.1) = true ∧ ((u4.1.2 == u6.1.2) = true ∧ (R (Ret.mk (.one (.v (.bool (u4.2 == u6.2)))) []))))) else False)) else False) else False)

set_option maxRecDepth 100000 in
theorem f17_sound (DD : Nat) (a0_0 : Int) (a0_1 : Int) (a0_2 : Int) (a0_3n : Nat) (a0_3 : List Cell) (hC : CtxOk Try.prog (cx17 DD).q.ctx) {r : Ret} (h : f17_wp DD a0_0 a0_1 a0_2 a0_3n a0_3 (fun r' => r' = r)) : SoundAt Try.prog 17 [(.agg [(.v (.int .i64 a0_0)), (.v (.int .i64 a0_1)), (.v (.int .i64 a0_2)), (.sl a0_3n a0_3)])] r := by
  refine soundAtO (C := (cx17 DD)) (oc := (.n 2 (.b true (.n 1 (.b true (.n 1 .e)))))) mixed hC F17_ok ?_
  rewrite [E17 DD a0_0 a0_1 a0_2 a0_3n a0_3]
  unfold f17_wp at h
  refine letV_mapE h (fun u1 h => ck_mapE h (fun q2 h => ck_mapE h (fun q3 h => letV_mapE h (fun u4 h => ck_mapE h (fun q5 h => letV_mapE h (fun u6 h => ck_i q5 (and_mapE h (fun q7 h => and_mapE h (fun q8 h => ?_)))))))))
  exact h


end Go.Proofs.Ytgmciihlmgeecaa.Fn
