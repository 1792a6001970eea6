import Derived.Test.YtgmciihlmgeecaaWNA

/- Functions of two Nums, walked. No conditions beyond those named. -/

namespace Go.Proofs.Ytgmciihlmgeecaa.Fn

open Go Go.RowKit Go.Proofs Go.Proofs.Ytgmciihlmgeecaa.Mt Go.Proofs.Ytgmciihlmgeecaa.Zm

set_option linter.unusedVariables false

set_option linter.unusedSimpArgs false

def cx73 : CtxW := ⟨⟨[(61, sum61), (93, sum93)], []⟩, 2, []⟩


def F73 : SFn := ⟨11, [(.cell 4 .true 53)], (.seq (.reg [(o1 2 (.box (.t 0))), (o1 3 (.box (.t 1))), (o1 4 (.alloc [(.bool .false), (.slice .none 0 0), (.int .i64 0), (.bool .false), (.int .i64 0), (.int .i64 0), (.int .i64 0), (.int .i64 0), (.int .i64 0), (.int .i64 0), (.int .i64 0), (.int .i64 0), (.int .i64 0), (.int .i64 0), (.int .i64 0), (.int .i64 0), (.int .i64 0), (.int .i64 0), (.int .i64 0), (.int .i64 0), (.int .i64 0), (.int .i64 0), (.int .i64 0), (.int .i64 0), (.int .i64 0), (.int .i64 0), (.int .i64 0), (.int .i64 0), (.int .i64 0), (.int .i64 0), (.int .i64 0), (.int .i64 0), (.int .i64 0), (.int .i64 0), (.int .i64 0), (.int .i64 0), (.int .i64 0), (.int .i64 0), (.int .i64 0), (.int .i64 0), (.int .i64 0), (.int .i64 0), (.int .i64 0), (.int .i64 0), (.int .i64 0), (.int .i64 0), (.int .i64 0), (.int .i64 0), (.int .i64 0), (.int .i64 0), (.int .i64 0), (.int .i64 0), (.int .i64 0)]))]) (.seq (.reg [(o1 5 (.fld 2 (.t 2))), (o1 6 (.load .false .true 51 K51 (.t 5))), (o1 7 (.fld 2 (.t 3))), (o1 8 (.load .false .true 51 K51 (.t 7))), (o1 9 (.call .false .false (.f 61) [(.t 6), (.t 8)])), (o1 10 (.call .false .false (.f 93) [(.t 9)])), (oN (.store .false 53 (.t 4) (.t 10)))]) .ret))⟩

theorem F73_ok : sfn Try.prog hintsN 73 [] = some F73 := by kernel_rfl

theorem E73 (a0_0 : Bool) (a0_1n : Nat) (a0_1 : List Cell) (a0_2 : Int) (a0_3 : Bool) (a0_4 : List Cell) (a1_0 : Bool) (a1_1n : Nat) (a1_1 : List Cell) (a1_2 : Int) (a1_3 : Bool) (a1_4 : List Cell) (R : Ret → Prop) : wpFO cx73 F73 .e [(.agg ((.v (.bool a0_0)) :: (.sl a0_1n a0_1) :: (.v (.int .i64 a0_2)) :: (.v (.bool a0_3)) :: a0_4)), (.agg ((.v (.bool a1_0)) :: (.sl a1_1n a1_1) :: (.v (.int .i64 a1_2)) :: (.v (.bool a1_3)) :: a1_4))] R = (bif decide (53 ≤ a0_4.length + 4) then (bif decide (53 ≤ a1_4.length + 4) then (letV (joinZ (a0_2, a0_3, List.map intC (List.take 49 a0_4)) (a1_2, a1_3, List.map intC (List.take 49 a1_4))) (fun (u3 : Zo) => bif (List.take 49 a0_4).all plainC && ((List.take 49 a1_4).all plainC && true) && ((List.take 49 a0_4).all (isInt .i64) && (List.take 49 a0_4).length == 49 && ((List.take 49 a1_4).all (isInt .i64) && (List.take 49 a1_4).length == 49)) && (ic .i64 u3.2.2).all (okC 0) && true && true && true && true then (bif (ic .i64 u3.2.2).all plainC && true && ((ic .i64 u3.2.2).all (isInt .i64) && (ic .i64 u3.2.2).length == 49) && (ic .i64 (List.map intC (ic .i64 u3.2.2))).all (okC 0) && true && true && true && true then (bif (ic .i64 (List.map intC (ic .i64 u3.2.2))).length + 4 == 53 && true && true then (bif (ic .i64 (List.map intC (ic .i64 u3.2.2))).length + 4 == 53 && true then (bif (ic .i64 (List.map intC (ic .i64 u3.2.2))).all plainC then (R (Ret.mk (.agg ((.v (.bool (u3.2.1))) :: (.sl ((capN u3.1).toNat) (ic .i64 (itvsZ (u3.1, u3.2.1, List.map intC (ic .i64 u3.2.2)) (capN u3.1).toNat))) :: (.v (.int .i64 (u3.1))) :: (.v (.bool (u3.2.1))) :: (ic .i64 (List.map intC (ic .i64 u3.2.2))))) [])) else False) else False) else False) else False) else False)) else False) else False) := by kernel_rfl

def f73_wp (a0_0 : Bool) (a0_1n : Nat) (a0_1 : List Cell) (a0_2 : Int) (a0_3 : Bool) (a0_4 : List Cell) (a1_0 : Bool) (a1_1n : Nat) (a1_1 : List Cell) (a1_2 : Int) (a1_3 : Bool) (a1_4 : List Cell) (R : Ret → Prop) : Prop := bif decide (53 ≤ a0_4.length + 4) then (bif decide (53 ≤ a1_4.length + 4) then (letV (joinZ (a0_2, a0_3, List.map intC (List.take 49 a0_4)) (a1_2, a1_3, List.map intC (List.take 49 a1_4))) (fun (u3 : Zo) => bif (List.take 49 a0_4).all plainC && ((List.take 49 a1_4).all plainC && true) && ((List.take 49 a0_4).all (isInt .i64) && (List.take 49 a0_4).length == 49 && ((List.take 49 a1_4).all (isInt .i64) && (List.take 49 a1_4).length == 49)) && (ic .i64 u3.2.2).all (okC 0) && true && true && true && true then (bif (ic .i64 u3.2.2).all plainC && true && ((ic .i64 u3.2.2).all (isInt .i64) && (ic .i64 u3.2.2).length == 49) && (ic .i64 (List.map intC (ic .i64 u3.2.2))).all (okC 0) && true && true && true && true then (bif (ic .i64 (List.map intC (ic .i64 u3.2.2))).length + 4 == 53 && true && true then (bif (ic .i64 (List.map intC (ic .i64 u3.2.2))).length + 4 == 53 && true then (bif (ic .i64 (List.map intC (ic .i64 u3.2.2))).all plainC then (R (Ret.mk (.agg ((.v (.bool (u3.2.1))) :: (.sl ((capN u3.1).toNat) (ic .i64 (itvsZ (u3.1, u3.2.1, List.map intC (ic .i64 u3.2.2)) (capN u3.1).toNat))) :: (.v (.int .i64 (u3.1))) :: (.v (.bool (u3.2.1))) :: (ic .i64 (List.map intC (ic .i64 u3.2.2))))) [])) else False) else False) else False) else False) else False)) else False) else False

set_option maxRecDepth 100000 in
theorem f73_sound (a0_0 : Bool) (a0_1n : Nat) (a0_1 : List Cell) (a0_2 : Int) (a0_3 : Bool) (a0_4 : List Cell) (a1_0 : Bool) (a1_1n : Nat) (a1_1 : List Cell) (a1_2 : Int) (a1_3 : Bool) (a1_4 : List Cell) (hC : CtxOk Try.prog cx73.q.ctx) {r : Ret} (h : f73_wp a0_0 a0_1n a0_1 a0_2 a0_3 a0_4 a1_0 a1_1n a1_1 a1_2 a1_3 a1_4 (fun r' => r' = r)) : SoundAt Try.prog 73 [(.agg ((.v (.bool a0_0)) :: (.sl a0_1n a0_1) :: (.v (.int .i64 a0_2)) :: (.v (.bool a0_3)) :: a0_4)), (.agg ((.v (.bool a1_0)) :: (.sl a1_1n a1_1) :: (.v (.int .i64 a1_2)) :: (.v (.bool a1_3)) :: a1_4))] r := by
  refine soundAtO (C := cx73) (oc := .e) mixed hC F73_ok ?_
  rewrite [E73 a0_0 a0_1n a0_1 a0_2 a0_3 a0_4 a1_0 a1_1n a1_1 a1_2 a1_3 a1_4]
  unfold f73_wp at h
  refine ck_mapE h (fun q1 h => ck_mapE h (fun q2 h => letV_mapE h (fun u3 h => ck_mapE h (fun q4 h => ck_mapE h (fun q5 h => ck_mapE h (fun q6 h => ck_mapE h (fun q8 h => ck_mapE h (fun q7 h => ?_))))))))
  exact h


end Go.Proofs.Ytgmciihlmgeecaa.Fn
