import Derived.Test.YtgmciihlmgeecaaDoorWZA

/- Functions of two zones, walked. No conditions beyond those named. -/

namespace Go.Proofs.YtgmciihlmgeecaaDoor.Fn

open Go Go.RowKit Go.Proofs Go.Proofs.YtgmciihlmgeecaaDoor.Mt Go.Proofs.YtgmciihlmgeecaaDoor.Zm

set_option linter.unusedVariables false

set_option linter.unusedSimpArgs false

def cx96 : CtxW := ⟨⟨[(36, sum91)], []⟩, 2, []⟩


def F96 : SFn := ⟨15, [(.tmp 4)], (.seq (.reg [(o1 2 (.box (.t 0))), (o1 3 (.box (.t 1))), (o1 4 (.mv (.c (.bool .false))))]) (.seq (.reg [(o1 5 (.fld 0 (.t 2))), (o1 6 (.load .false .false 1 [(.some .i64)] (.t 5))), (o1 7 (.fld 0 (.t 3))), (o1 8 (.load .false .false 1 [(.some .i64)] (.t 7))), (o1 9 (.bin .eql (.t 6) (.t 8))), (o1 10 (.mv (.t 9))), (oS 11 (.fld 0 (.t 2)) (.some (10, .true))), (oS 12 (.load .false .false 1 [(.some .i64)] (.t 11)) (.some (10, .true))), (oS 13 (.call .false .false (.f 36) [(.t 12)]) (.some (10, .true))), (o1 14 (.pick (.t 10) (.t 13) (.c (.bool .false)))), (o1 4 (.mv (.t 14)))]) .ret))⟩

theorem F96_ok : sfn Tryd.prog hints 37 [] = some F96 := by kernel_rfl

theorem E96 (a0_0 : Int) (a0_1 : Bool) (a0_2 : List Cell) (a1_0 : Int) (a1_1 : Bool) (a1_2 : List Cell) (R : Ret → Prop) : wpFO cx96 F96 (.two (.n 1 .e) (.n 1 .e)) [(.agg ((.v (.int .i64 a0_0)) :: (.v (.bool a0_1)) :: a0_2)), (.agg ((.v (.int .i64 a1_0)) :: (.v (.bool a1_1)) :: a1_2))] R = (bif a0_0 == a1_0 then (R (Ret.mk (.one (.v (.bool (okN a0_0)))) [])) else (R (Ret.mk (.one (.v (.bool .false))) []))) := by kernel_rfl

def f96_wp (a0_0 : Int) (a0_1 : Bool) (a0_2 : List Cell) (a1_0 : Int) (a1_1 : Bool) (a1_2 : List Cell) (R : Ret → Prop) : Prop := bif a0_0 == a1_0 then (R (Ret.mk (.one (.v (.bool (okN a0_0)))) [])) else (R (Ret.mk (.one (.v (.bool .false))) []))

set_option maxRecDepth 100000 in
theorem f96_sound (a0_0 : Int) (a0_1 : Bool) (a0_2 : List Cell) (a1_0 : Int) (a1_1 : Bool) (a1_2 : List Cell) (hC : CtxOk Tryd.prog cx96.q.ctx) {r : Ret} (h : f96_wp a0_0 a0_1 a0_2 a1_0 a1_1 a1_2 (fun r' => r' = r)) : SoundAt Tryd.prog 37 [(.agg ((.v (.int .i64 a0_0)) :: (.v (.bool a0_1)) :: a0_2)), (.agg ((.v (.int .i64 a1_0)) :: (.v (.bool a1_1)) :: a1_2))] r := by
  refine soundAtO (C := cx96) (oc := (.two (.n 1 .e) (.n 1 .e))) mixed hC F96_ok ?_
  rewrite [E96 a0_0 a0_1 a0_2 a1_0 a1_1 a1_2]
  unfold f96_wp at h
  refine cond_mapE h (fun q1 h => ?_) (fun q1 h => ?_)
  · skip
    exact h
  · skip
    exact h


def cx47 : CtxW := ⟨⟨[(37, sum96)], []⟩, 2, []⟩


def F47_b1 : SC := (.seq (.reg [(o1 28 (.bin .lss (.t 27) (.c (.int .i64 7))))]) (.seq (.cond (.t 28) .skip (.exit 3)) (.seq (.blk 4 (.seq (.reg [(o1 29 (.mv (.t 27))), (o1 30 (.ixV .false 7 1 [(.some .i64)] (.t 26) (.t 27))), (o1 7 (.mv (.t 29))), (o1 8 (.mv (.t 30)))]) (.seq (.reg [(o1 31 (.mv (.t 8))), (o1 32 (.mv (.t 5))), (o1 33 (.mv (.t 7))), (o1 34 (.fld 2 (.t 3))), (o1 35 (.ixA 7 7 (.t 34) (.t 32))), (o1 36 (.ixA 7 1 (.t 35) (.t 33))), (o1 37 (.load .false .false 1 [(.some .i64)] (.t 36))), (o1 38 (.bin .gtr (.t 31) (.t 37)))]) (.cond (.t 38) (.seq (.reg [(o1 4 (.mv (.c (.bool .false))))]) .ret) .skip)))) (.reg [(o1 39 (.bin .add (.t 27) (.c (.int .i64 1)))), (o1 27 (.mv (.t 39)))]))))

def F47_c2 : SC := (.reg [(o1 40 (.bin .add (.t 22) (.c (.int .i64 1)))), (o1 22 (.mv (.t 40)))])

def F47_b0 : SC := (.seq (.reg [(o1 23 (.bin .lss (.t 22) (.c (.int .i64 7))))]) (.seq (.cond (.t 23) .skip (.exit 1)) (.seq (.blk 2 (.seq (.reg [(o1 24 (.mv (.t 22))), (o1 25 (.ixV .true 7 7 [(.some .i64), (.some .i64), (.some .i64), (.some .i64), (.some .i64), (.some .i64), (.some .i64)] (.t 21) (.t 22))), (o1 6 (.alloc [(.int .i64 0), (.int .i64 0), (.int .i64 0), (.int .i64 0), (.int .i64 0), (.int .i64 0), (.int .i64 0)])), (o1 5 (.mv (.t 24))), (oN (.store .false 7 (.t 6) (.t 25)))]) (.seq (.reg [(o1 26 (.load .false .true 7 [(.some .i64), (.some .i64), (.some .i64), (.some .i64), (.some .i64), (.some .i64), (.some .i64)] (.t 6))), (o1 27 (.mv (.c (.int .i64 0))))]) (.blk 3 (.loop [3, 5, 21, 22, 26, 27] [3] [] F47_b1))))) F47_c2)))

def F47_c3 : SC := (.seq (.reg [(o1 4 (.mv (.c (.bool .true))))]) .ret)

def F47 : SFn := ⟨41, [(.tmp 4)], (.seq (.reg [(o1 2 (.box (.t 0))), (o1 3 (.box (.t 1))), (o1 4 (.mv (.c (.bool .false))))]) (.seq (.blk 0 (.seq (.reg [(o1 10 (.load .false .true 51 K51 (.t 2))), (o1 11 (.load .false .true 51 K51 (.t 3))), (o1 12 (.call .false .false (.f 37) [(.t 10), (.t 11)])), (o1 13 (.un .not (.t 12))), (o1 9 (.mv (.t 13)))]) (.cond (.t 9) (.seq (.reg [(o1 4 (.mv (.c (.bool .false))))]) .ret) (.seq (.reg [(o1 15 (.fld 1 (.t 2))), (o1 16 (.load .false .false 1 [.none] (.t 15))), (o1 14 (.mv (.t 16)))]) (.cond (.t 14) (.seq (.reg [(o1 4 (.mv (.c (.bool .true))))]) .ret) (.seq (.reg [(o1 18 (.fld 1 (.t 3))), (o1 19 (.load .false .false 1 [.none] (.t 18))), (o1 17 (.mv (.t 19)))]) (.cond (.t 17) (.seq (.reg [(o1 4 (.mv (.c (.bool .false))))]) .ret) .skip))))))) (.seq (.seq (.reg [(o1 20 (.fld 2 (.t 2))), (o1 21 (.load .false .true 49 K49 (.t 20))), (o1 22 (.mv (.c (.int .i64 0))))]) (.blk 1 (.loop [3, 21, 22] [3] [] F47_b0))) F47_c3)))⟩

theorem F47_ok : sfn Tryd.prog hints 26 [([3, 21, 22], ([3], [])), ([3, 5, 21, 22, 26, 27], ([3], []))] = some F47 := by kernel_rfl

abbrev X47_0 (a0_2 : List Cell) (y0_0 : Int) (y3_0 : Int) := ([Cell.v (Value.int .i64 (intC ((List.take 49 a0_2).getD (y0_0.toNat * 7) .dead))), Cell.v (Value.int .i64 (intC ((List.take 49 a0_2).getD (y0_0.toNat * 7 + 1) .dead))), Cell.v (Value.int .i64 (intC ((List.take 49 a0_2).getD (y0_0.toNat * 7 + 2) .dead))), Cell.v (Value.int .i64 (intC ((List.take 49 a0_2).getD (y0_0.toNat * 7 + 3) .dead))), Cell.v (Value.int .i64 (intC ((List.take 49 a0_2).getD (y0_0.toNat * 7 + 4) .dead))), Cell.v (Value.int .i64 (intC ((List.take 49 a0_2).getD (y0_0.toNat * 7 + 5) .dead))), Cell.v (Value.int .i64 (intC ((List.take 49 a0_2).getD (y0_0.toNat * 7 + 6) .dead)))].getD (y3_0.toNat * 1) .dead)

def I47_0_0 (a0_0 : Int) (a0_1 : Bool) (a0_2 : List Cell) (a1_0 : Int) (a1_1 : Bool) (a1_2 : List Cell) (y0_0 : Int) : St := (.mk (.no :: (.no :: (.no :: ((.box 3 0 0) :: (n10 (.no :: (.no :: (.no :: (.no :: (.no :: (.no :: (.no :: ((.agg (List.take 49 a0_2)) :: ((.one (vi y0_0)) :: (n10 (.no :: (.no :: (.no :: (.no :: (.no :: (.no :: (.no :: (.no :: []))))))))))))))))))))))) ([] :: ([] :: ([] :: ([((vi a1_0) :: (vb a1_1) :: (a1_2))] :: (e10 (e10 (e10 ([] :: ([] :: ([] :: ([] :: ([] :: ([] :: ([] :: [])))))))))))))) (e10 (e10 (e10 (e10 ([] :: []))))))

def I47_3_0 (a0_0 : Int) (a0_1 : Bool) (a0_2 : List Cell) (a1_0 : Int) (a1_1 : Bool) (a1_2 : List Cell) (y0_0 : Int) (y3_0 : Int) : St := (.mk (.no :: (.no :: (.no :: ((.box 3 0 0) :: (.no :: ((.one (vi y0_0)) :: (n10 (.no :: (.no :: (.no :: (.no :: (.no :: ((.agg (List.take 49 a0_2)) :: ((.one (vi y0_0)) :: (.no :: (.no :: (.no :: ((.agg [(.v (.int .i64 (intC ((List.take 49 a0_2).getD (y0_0.toNat * 7) .dead)))), (.v (.int .i64 (intC ((List.take 49 a0_2).getD (y0_0.toNat * 7 + 1) .dead)))), (.v (.int .i64 (intC ((List.take 49 a0_2).getD (y0_0.toNat * 7 + 2) .dead)))), (.v (.int .i64 (intC ((List.take 49 a0_2).getD (y0_0.toNat * 7 + 3) .dead)))), (.v (.int .i64 (intC ((List.take 49 a0_2).getD (y0_0.toNat * 7 + 4) .dead)))), (.v (.int .i64 (intC ((List.take 49 a0_2).getD (y0_0.toNat * 7 + 5) .dead)))), (.v (.int .i64 (intC ((List.take 49 a0_2).getD (y0_0.toNat * 7 + 6) .dead))))]) :: ((.one (vi y3_0)) :: (n10 (.no :: (.no :: (.no :: []))))))))))))))))))))))) ([] :: ([] :: ([] :: ([((vi a1_0) :: (vb a1_1) :: (a1_2))] :: (e10 (e10 (e10 ([] :: ([] :: ([] :: ([] :: ([] :: ([] :: ([] :: [])))))))))))))) (e10 (e10 (e10 (e10 ([] :: []))))))

theorem E47_0_0 (a0_0 : Int) (a0_1 : Bool) (a0_2 : List Cell) (a1_0 : Int) (a1_1 : Bool) (a1_2 : List Cell) (y0_0 : Int) (N0 : Bool × St → Prop) (R : Ret → Prop) : wpO cx47 F47_b0 (.two .e .e) (I47_0_0 a0_0 a0_1 a0_2 a1_0 a1_1 a1_2 y0_0) (kLp (headW cx47.m [3, 21, 22] [3] []) N0 (kBlk 1 (kSeq cx47 F47_c3 (endO cx47.m F47.rs R)))) = (bif decide (y0_0 < 7) then (bif decide (0 ≤ y0_0) && decide (y0_0 < 7) && (decide (y0_0.toNat * 7 + 7 ≤ (List.take 49 a0_2).length) && (okK (some .i64) ((List.take 49 a0_2).getD (y0_0.toNat * 7) .dead) && (okK (some .i64) ((List.take 49 a0_2).getD (y0_0.toNat * 7 + 1) .dead) && (okK (some .i64) ((List.take 49 a0_2).getD (y0_0.toNat * 7 + 2) .dead) && (okK (some .i64) ((List.take 49 a0_2).getD (y0_0.toNat * 7 + 3) .dead) && (okK (some .i64) ((List.take 49 a0_2).getD (y0_0.toNat * 7 + 4) .dead) && (okK (some .i64) ((List.take 49 a0_2).getD (y0_0.toNat * 7 + 5) .dead) && (okK (some .i64) ((List.take 49 a0_2).getD (y0_0.toNat * 7 + 6) .dead) && true)))))))) then (LoopO (bodyX cx47 F47_b1) (headW cx47.m [3, 5, 21, 22, 26, 27] [3] []) (kBlk 3 (kBlk 2 (kSeq cx47 F47_c2 (kLp (headW cx47.m [3, 21, 22] [3] []) N0 (kBlk 1 (kSeq cx47 F47_c3 (endO cx47.m F47.rs R))))))) ((List.take 49 a0_2).all plainC && true && (a1_2.all plainC && true && true), (I47_3_0 a0_0 a0_1 a0_2 a1_0 a1_1 a1_2 y0_0 0))) else False) else (R (Ret.mk (.one (.v (.bool .true))) []))) := by kernel_rfl

theorem E47_3_0 (a0_0 : Int) (a0_1 : Bool) (a0_2 : List Cell) (a1_0 : Int) (a1_1 : Bool) (a1_2 : List Cell) (y0_0 : Int) (y3_0 : Int) (N0 : Bool × St → Prop) (N3 : Bool × St → Prop) (R : Ret → Prop) : wpO cx47 F47_b1 (.two (.two .e .e) .e) (I47_3_0 a0_0 a0_1 a0_2 a1_0 a1_1 a1_2 y0_0 y3_0) (kLp (headW cx47.m [3, 5, 21, 22, 26, 27] [3] []) N3 (kBlk 3 (kBlk 2 (kSeq cx47 F47_c2 (kLp (headW cx47.m [3, 21, 22] [3] []) N0 (kBlk 1 (kSeq cx47 F47_c3 (endO cx47.m F47.rs R)))))))) = (bif decide (y3_0 < 7) then (bif decide (0 ≤ y3_0) && decide (y3_0 < 7) && (decide (y3_0.toNat * 1 + 1 ≤ 7) && okK (some .i64) (X47_0 a0_2 y0_0 y3_0)) then (bif decide (0 ≤ y0_0) && decide (y0_0 < 7) then (bif decide (0 ≤ y3_0) && decide (y3_0 < 7) then (bif decide (y3_0.toNat * 1 + y0_0.toNat * 7 + 3 ≤ a1_2.length + 2) && okK (some .i64) (a1_2.getD (y3_0.toNat * 1 + y0_0.toNat * 7) .dead) then (bif decide (intC (X47_0 a0_2 y0_0 y3_0) > intC (a1_2.getD (y3_0.toNat * 1 + y0_0.toNat * 7) .dead)) then (R (Ret.mk (.one (.v (.bool .false))) [])) else (N3 ((List.take 49 a0_2).all plainC && true && (a1_2.all plainC && true && true), (I47_3_0 a0_0 a0_1 a0_2 a1_0 a1_1 a1_2 y0_0 (IntKind.i64.wrap (y3_0 + 1)))))) else False) else False) else False) else False) else (N0 ((List.take 49 a0_2).all plainC && true && (a1_2.all plainC && true && true), (I47_0_0 a0_0 a0_1 a0_2 a1_0 a1_1 a1_2 (IntKind.i64.wrap (y0_0 + 1)))))) := by kernel_rfl

theorem E47 (a0_0 : Int) (a0_1 : Bool) (a0_2 : List Cell) (a1_0 : Int) (a1_1 : Bool) (a1_2 : List Cell) (R : Ret → Prop) : wpFO cx47 F47 (.two .e (.two .e (.two .e .e))) [(.agg ((.v (.int .i64 a0_0)) :: (.v (.bool a0_1)) :: a0_2)), (.agg ((.v (.int .i64 a1_0)) :: (.v (.bool a1_1)) :: a1_2))] R = (bif a0_2.length + 2 == 51 then (bif a1_2.length + 2 == 51 then (bif a0_2.all plainC && (a1_2.all plainC && true) && (a0_2.all (isInt .i64) && a0_2.length == 49 && (a1_2.all (isInt .i64) && a1_2.length == 49)) && true && true && true && true && true then (bif !alikeZ (a0_0, a0_1, List.map intC a0_2) (a1_0, a1_1, List.map intC a1_2) then (R (Ret.mk (.one (.v (.bool .false))) [])) else (bif a0_1 then (R (Ret.mk (.one (.v (.bool .true))) [])) else (bif a1_1 then (R (Ret.mk (.one (.v (.bool .false))) [])) else (bif decide (51 ≤ a0_2.length + 2) then (LoopO (bodyX cx47 F47_b0) (headW cx47.m [3, 21, 22] [3] []) (kBlk 1 (kSeq cx47 F47_c3 (endO cx47.m F47.rs R))) ((List.take 49 a0_2).all plainC && true && (a1_2.all plainC && true && true), (I47_0_0 a0_0 a0_1 a0_2 a1_0 a1_1 a1_2 0))) else False)))) else False) else False) else False) := by kernel_rfl

def f47_wp (a0_0 : Int) (a0_1 : Bool) (a0_2 : List Cell) (a1_0 : Int) (a1_1 : Bool) (a1_2 : List Cell) (R : Ret → Prop) : Prop := bif a0_2.length + 2 == 51 then (bif a1_2.length + 2 == 51 then (bif a0_2.all plainC && (a1_2.all plainC && true) && (a0_2.all (isInt .i64) && a0_2.length == 49 && (a1_2.all (isInt .i64) && a1_2.length == 49)) && true && true && true && true && true then (bif !alikeZ (a0_0, a0_1, List.map intC a0_2) (a1_0, a1_1, List.map intC a1_2) then (R (Ret.mk (.one (.v (.bool .false))) [])) else (bif a0_1 then (R (Ret.mk (.one (.v (.bool .true))) [])) else (bif a1_1 then (R (Ret.mk (.one (.v (.bool .false))) [])) else (bif decide (51 ≤ a0_2.length + 2) then (((List.take 49 a0_2).all plainC && true && (a1_2.all plainC && true && true)) = true ∧ LoopP (fun (z0 : (Int)) (k0 : (Int) → Prop) => (fun (z : Int) => (fun (y0_0 : Int) => bif decide (y0_0 < 7) then (bif decide (0 ≤ y0_0) && decide (y0_0 < 7) && (decide (y0_0.toNat * 7 + 7 ≤ (List.take 49 a0_2).length) && (okK (some .i64) ((List.take 49 a0_2).getD (y0_0.toNat * 7) .dead) && (okK (some .i64) ((List.take 49 a0_2).getD (y0_0.toNat * 7 + 1) .dead) && (okK (some .i64) ((List.take 49 a0_2).getD (y0_0.toNat * 7 + 2) .dead) && (okK (some .i64) ((List.take 49 a0_2).getD (y0_0.toNat * 7 + 3) .dead) && (okK (some .i64) ((List.take 49 a0_2).getD (y0_0.toNat * 7 + 4) .dead) && (okK (some .i64) ((List.take 49 a0_2).getD (y0_0.toNat * 7 + 5) .dead) && (okK (some .i64) ((List.take 49 a0_2).getD (y0_0.toNat * 7 + 6) .dead) && true)))))))) then (((List.take 49 a0_2).all plainC && true && (a1_2.all plainC && true && true)) = true ∧ LoopP (fun (z3 : (Int)) (k3 : (Int) → Prop) => (fun (z : Int) => (fun (y3_0 : Int) => bif decide (y3_0 < 7) then (bif decide (0 ≤ y3_0) && decide (y3_0 < 7) && (decide (y3_0.toNat * 1 + 1 ≤ 7) && okK (some .i64) (X47_0 a0_2 y0_0 y3_0)) then (bif decide (0 ≤ y0_0) && decide (y0_0 < 7) then (bif decide (0 ≤ y3_0) && decide (y3_0 < 7) then (bif decide (y3_0.toNat * 1 + y0_0.toNat * 7 + 3 ≤ a1_2.length + 2) && okK (some .i64) (a1_2.getD (y3_0.toNat * 1 + y0_0.toNat * 7) .dead) then (bif decide (intC (X47_0 a0_2 y0_0 y3_0) > intC (a1_2.getD (y3_0.toNat * 1 + y0_0.toNat * 7) .dead)) then (R (Ret.mk (.one (.v (.bool .false))) [])) else (((List.take 49 a0_2).all plainC && true && (a1_2.all plainC && true && true)) = true ∧ k3 (IntKind.i64.wrap (y3_0 + 1)))) else False) else False) else False) else False) else (((List.take 49 a0_2).all plainC && true && (a1_2.all plainC && true && true)) = true ∧ k0 (IntKind.i64.wrap (y0_0 + 1)))) z) z3) 0) else False) else (R (Ret.mk (.one (.v (.bool .true))) []))) z) z0) 0) else False)))) else False) else False) else False

set_option maxRecDepth 100000 in
theorem f47_sound (a0_0 : Int) (a0_1 : Bool) (a0_2 : List Cell) (a1_0 : Int) (a1_1 : Bool) (a1_2 : List Cell) (hC : CtxOk Tryd.prog cx47.q.ctx) {r : Ret} (h : f47_wp a0_0 a0_1 a0_2 a1_0 a1_1 a1_2 (fun r' => r' = r)) : SoundAt Tryd.prog 26 [(.agg ((.v (.int .i64 a0_0)) :: (.v (.bool a0_1)) :: a0_2)), (.agg ((.v (.int .i64 a1_0)) :: (.v (.bool a1_1)) :: a1_2))] r := by
  refine soundAtO (C := cx47) (oc := (.two .e (.two .e (.two .e .e)))) mixed hC F47_ok ?_
  rewrite [E47 a0_0 a0_1 a0_2 a1_0 a1_1 a1_2]
  unfold f47_wp at h
  refine ck_mapE h (fun q1 h => ck_mapE h (fun q2 h => ck_mapE h (fun q3 h => ?_)))
  refine cond_mapE h (fun q4 h => ?_) (fun q4 h => ?_)
  · skip
    exact h
  · skip
    refine cond_mapE h (fun q5 h => ?_) (fun q5 h => ?_)
    · skip
      exact h
    · skip
      refine cond_mapE h (fun q6 h => ?_) (fun q6 h => ?_)
      · skip
        exact h
      · skip
        refine ck_mapE h (fun q7 h => ?_)
        obtain ⟨q62, h⟩ := h
        refine loop_of (I := (fun (z : Int) => (I47_0_0 a0_0 a0_1 a0_2 a1_0 a1_1 a1_2 z))) (fun z k0 h => ?_) h q62 rfl
        obtain ⟨y0_0, rfl⟩ : ∃ y, y = z := ⟨z, rfl⟩
        try dsimp only [sumE_l, sumE_r] at h
        refine bodyX_i (ob := (.two .e .e)) ?_
        rewrite [E47_0_0 a0_0 a0_1 a0_2 a1_0 a1_1 a1_2 y0_0]
        refine cond_mapE h (fun q42 h => ?_) (fun q42 h => ?_)
        · skip
          refine ck_mapE h (fun q43 h => ?_)
          obtain ⟨q61, h⟩ := h
          refine loop_of (I := (fun (z : Int) => (I47_3_0 a0_0 a0_1 a0_2 a1_0 a1_1 a1_2 y0_0 z))) (fun z k3 h => ?_) h q61 rfl
          obtain ⟨y3_0, rfl⟩ : ∃ y, y = z := ⟨z, rfl⟩
          try dsimp only [sumE_l, sumE_r] at h
          refine bodyX_i (ob := (.two (.two .e .e) .e)) ?_
          rewrite [E47_3_0 a0_0 a0_1 a0_2 a1_0 a1_1 a1_2 y0_0 y3_0]
          refine cond_mapE h (fun q53 h => ?_) (fun q53 h => ?_)
          · skip
            refine ck_mapE h (fun q54 h => ck_mapE h (fun q55 h => ck_mapE h (fun q56 h => ck_mapE h (fun q57 h => ?_))))
            refine cond_mapE h (fun q58 h => ?_) (fun q58 h => ?_)
            · skip
              exact h
            · skip
              obtain ⟨q59, h⟩ := h
              exact again_i (y := (IntKind.i64.wrap (y3_0 + 1))) q59 h
          · skip
            obtain ⟨q60, h⟩ := h
            exact again_i (y := (IntKind.i64.wrap (y0_0 + 1))) q60 h
        · skip
          exact h


end Go.Proofs.YtgmciihlmgeecaaDoor.Fn
