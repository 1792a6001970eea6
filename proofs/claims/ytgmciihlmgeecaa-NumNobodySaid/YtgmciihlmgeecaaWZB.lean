import Derived.Test.YtgmciihlmgeecaaWZA

/- Functions of two zones, walked. No conditions beyond those named. -/

namespace Go.Proofs.Ytgmciihlmgeecaa.Fn

open Go Go.RowKit Go.Proofs Go.Proofs.Ytgmciihlmgeecaa.Mt Go.Proofs.Ytgmciihlmgeecaa.Zm

set_option linter.unusedVariables false

set_option linter.unusedSimpArgs false

def cx96 : CtxW := ⟨⟨[(91, sum91)], []⟩, 2, []⟩


def F96 : SFn := ⟨15, [(.tmp 4)], (.seq (.reg [(o1 2 (.box (.t 0))), (o1 3 (.box (.t 1))), (o1 4 (.mv (.c (.bool .false))))]) (.seq (.reg [(o1 5 (.fld 0 (.t 2))), (o1 6 (.load .false .false 1 [(.some .i64)] (.t 5))), (o1 7 (.fld 0 (.t 3))), (o1 8 (.load .false .false 1 [(.some .i64)] (.t 7))), (o1 9 (.bin .eql (.t 6) (.t 8))), (o1 10 (.mv (.t 9))), (oS 11 (.fld 0 (.t 2)) (.some (10, .true))), (oS 12 (.load .false .false 1 [(.some .i64)] (.t 11)) (.some (10, .true))), (oS 13 (.call .false .false (.f 91) [(.t 12)]) (.some (10, .true))), (o1 14 (.pick (.t 10) (.t 13) (.c (.bool .false)))), (o1 4 (.mv (.t 14)))]) .ret))⟩

theorem F96_ok : sfn Try.prog hints 96 [] = some F96 := by kernel_rfl

theorem E96 (a0_0 : Int) (a0_1 : Bool) (a0_2 : List Cell) (a1_0 : Int) (a1_1 : Bool) (a1_2 : List Cell) (R : Ret → Prop) : wpFO cx96 F96 (.two (.n 1 .e) (.n 1 .e)) [(.agg ((.v (.int .i64 a0_0)) :: (.v (.bool a0_1)) :: a0_2)), (.agg ((.v (.int .i64 a1_0)) :: (.v (.bool a1_1)) :: a1_2))] R = (bif a0_0 == a1_0 then (R (Ret.mk (.one (.v (.bool (okN a0_0)))) [])) else (R (Ret.mk (.one (.v (.bool .false))) []))) := by kernel_rfl

def f96_wp (a0_0 : Int) (a0_1 : Bool) (a0_2 : List Cell) (a1_0 : Int) (a1_1 : Bool) (a1_2 : List Cell) (R : Ret → Prop) : Prop := bif a0_0 == a1_0 then (R (Ret.mk (.one (.v (.bool (okN a0_0)))) [])) else (R (Ret.mk (.one (.v (.bool .false))) []))

set_option maxRecDepth 100000 in
theorem f96_sound (a0_0 : Int) (a0_1 : Bool) (a0_2 : List Cell) (a1_0 : Int) (a1_1 : Bool) (a1_2 : List Cell) (hC : CtxOk Try.prog cx96.q.ctx) {r : Ret} (h : f96_wp a0_0 a0_1 a0_2 a1_0 a1_1 a1_2 (fun r' => r' = r)) : SoundAt Try.prog 96 [(.agg ((.v (.int .i64 a0_0)) :: (.v (.bool a0_1)) :: a0_2)), (.agg ((.v (.int .i64 a1_0)) :: (.v (.bool a1_1)) :: a1_2))] r := by
  refine soundAtO (C := cx96) (oc := (.two (.n 1 .e) (.n 1 .e))) mixed hC F96_ok ?_
  rewrite [E96 a0_0 a0_1 a0_2 a1_0 a1_1 a1_2]
  unfold f96_wp at h
  refine cond_mapE h (fun q1 h => ?_) (fun q1 h => ?_)
  · skip
    exact h
  · skip
    exact h


def cx101 : CtxW := ⟨⟨[], []⟩, 16, []⟩


def F101 : SFn := ⟨8, [(.tmp 4)], (.seq (.reg [(o1 4 (.mv (.c (.int .i64 0))))]) (.seq (.reg [(o1 5 (.mv (.t 0))), (o1 6 (.mv (.t 1))), (o1 7 (.mm .true [(.t 5), (.t 6)])), (o1 4 (.mv (.t 7)))]) .ret))⟩

theorem F101_ok : sfn Try.prog hints 101 [] = some F101 := by kernel_rfl

theorem E101 (a0 : Int) (a1 : Int) (R : Ret → Prop) : wpFO cx101 F101 .e [(.one (.v (.int .i64 a0))), (.one (.v (.int .i64 a1)))] R = (R (Ret.mk (.one (.v (.int .i64 (if a1 > a0 then a1 else a0)))) [])) := by kernel_rfl

def f101_wp (a0 : Int) (a1 : Int) (R : Ret → Prop) : Prop := R (Ret.mk (.one (.v (.int .i64 (if a1 > a0 then a1 else a0)))) [])

set_option maxRecDepth 100000 in
theorem f101_sound (a0 : Int) (a1 : Int) (hC : CtxOk Try.prog cx101.q.ctx) {r : Ret} (h : f101_wp a0 a1 (fun r' => r' = r)) : SoundAt Try.prog 101 [(.one (.v (.int .i64 a0))), (.one (.v (.int .i64 a1)))] r := by
  refine soundAtO (C := cx101) (oc := .e) mixed hC F101_ok ?_
  rewrite [E101 a0 a1]
  unfold f101_wp at h
  exact h


def cx102 : CtxW := ⟨⟨[], []⟩, 16, []⟩


def F102 : SFn := ⟨9, [(.tmp 4)], (.seq (.reg [(o1 4 (.mv (.c (.int .i64 0))))]) (.seq (.seq (.reg [(o1 5 (.mv (.t 1))), (o1 6 (.mv (.t 0))), (o1 7 (.bin .gtr (.t 5) (.t 6)))]) (.cond (.t 7) (.seq (.reg [(o1 4 (.mv (.c (.int .i64 1099511627776))))]) .ret) .skip)) (.seq (.reg [(o1 8 (.mv (.t 0))), (o1 4 (.mv (.t 8)))]) .ret)))⟩

theorem F102_ok : sfn Try.prog hints 102 [] = some F102 := by kernel_rfl

theorem E102 (a0 : Int) (a1 : Int) (R : Ret → Prop) : wpFO cx102 F102 (.two .e .e) [(.one (.v (.int .i64 a0))), (.one (.v (.int .i64 a1)))] R = (bif decide (a1 > a0) then (R (Ret.mk (.one (.v (.int .i64 1099511627776))) [])) else (R (Ret.mk (.one (.v (.int .i64 (a0)))) []))) := by kernel_rfl

def f102_wp (a0 : Int) (a1 : Int) (R : Ret → Prop) : Prop := bif decide (a1 > a0) then (R (Ret.mk (.one (.v (.int .i64 1099511627776))) [])) else (R (Ret.mk (.one (.v (.int .i64 (a0)))) []))

set_option maxRecDepth 100000 in
theorem f102_sound (a0 : Int) (a1 : Int) (hC : CtxOk Try.prog cx102.q.ctx) {r : Ret} (h : f102_wp a0 a1 (fun r' => r' = r)) : SoundAt Try.prog 102 [(.one (.v (.int .i64 a0))), (.one (.v (.int .i64 a1)))] r := by
  refine soundAtO (C := cx102) (oc := (.two .e .e)) mixed hC F102_ok ?_
  rewrite [E102 a0 a1]
  unfold f102_wp at h
  refine cond_mapE h (fun q1 h => ?_) (fun q1 h => ?_)
  · skip
    exact h
  · skip
    exact h


def cx47 : CtxW := ⟨⟨[(96, sum96)], []⟩, 2, []⟩


def F47_b1 : SC := (.seq (.reg [(o1 28 (.bin .lss (.t 27) (.c (.int .i64 7))))]) (.seq (.cond (.t 28) .skip (.exit 3)) (.seq (.blk 4 (.seq (.reg [(o1 29 (.mv (.t 27))), (o1 30 (.ixV .false 7 1 [(.some .i64)] (.t 26) (.t 27))), (o1 7 (.mv (.t 29))), (o1 8 (.mv (.t 30)))]) (.seq (.reg [(o1 31 (.mv (.t 8))), (o1 32 (.mv (.t 5))), (o1 33 (.mv (.t 7))), (o1 34 (.fld 2 (.t 3))), (o1 35 (.ixA 7 7 (.t 34) (.t 32))), (o1 36 (.ixA 7 1 (.t 35) (.t 33))), (o1 37 (.load .false .false 1 [(.some .i64)] (.t 36))), (o1 38 (.bin .gtr (.t 31) (.t 37)))]) (.cond (.t 38) (.seq (.reg [(o1 4 (.mv (.c (.bool .false))))]) .ret) .skip)))) (.reg [(o1 39 (.bin .add (.t 27) (.c (.int .i64 1)))), (o1 27 (.mv (.t 39)))]))))

def F47_c2 : SC := (.reg [(o1 40 (.bin .add (.t 22) (.c (.int .i64 1)))), (o1 22 (.mv (.t 40)))])

def F47_b0 : SC := (.seq (.reg [(o1 23 (.bin .lss (.t 22) (.c (.int .i64 7))))]) (.seq (.cond (.t 23) .skip (.exit 1)) (.seq (.blk 2 (.seq (.reg [(o1 24 (.mv (.t 22))), (o1 25 (.ixV .true 7 7 [(.some .i64), (.some .i64), (.some .i64), (.some .i64), (.some .i64), (.some .i64), (.some .i64)] (.t 21) (.t 22))), (o1 6 (.alloc [(.int .i64 0), (.int .i64 0), (.int .i64 0), (.int .i64 0), (.int .i64 0), (.int .i64 0), (.int .i64 0)])), (o1 5 (.mv (.t 24))), (oN (.store .false 7 (.t 6) (.t 25)))]) (.seq (.reg [(o1 26 (.load .false .true 7 [(.some .i64), (.some .i64), (.some .i64), (.some .i64), (.some .i64), (.some .i64), (.some .i64)] (.t 6))), (o1 27 (.mv (.c (.int .i64 0))))]) (.blk 3 (.loop [3, 5, 21, 22, 26, 27] [3] [] F47_b1))))) F47_c2)))

def F47_c3 : SC := (.seq (.reg [(o1 4 (.mv (.c (.bool .true))))]) .ret)

def F47 : SFn := ⟨41, [(.tmp 4)], (.seq (.reg [(o1 2 (.box (.t 0))), (o1 3 (.box (.t 1))), (o1 4 (.mv (.c (.bool .false))))]) (.seq (.blk 0 (.seq (.reg [(o1 10 (.load .false .true 51 K51 (.t 2))), (o1 11 (.load .false .true 51 K51 (.t 3))), (o1 12 (.call .false .false (.f 96) [(.t 10), (.t 11)])), (o1 13 (.un .not (.t 12))), (o1 9 (.mv (.t 13)))]) (.cond (.t 9) (.seq (.reg [(o1 4 (.mv (.c (.bool .false))))]) .ret) (.seq (.reg [(o1 15 (.fld 1 (.t 2))), (o1 16 (.load .false .false 1 [.none] (.t 15))), (o1 14 (.mv (.t 16)))]) (.cond (.t 14) (.seq (.reg [(o1 4 (.mv (.c (.bool .true))))]) .ret) (.seq (.reg [(o1 18 (.fld 1 (.t 3))), (o1 19 (.load .false .false 1 [.none] (.t 18))), (o1 17 (.mv (.t 19)))]) (.cond (.t 17) (.seq (.reg [(o1 4 (.mv (.c (.bool .false))))]) .ret) .skip))))))) (.seq (.seq (.reg [(o1 20 (.fld 2 (.t 2))), (o1 21 (.load .false .true 49 K49 (.t 20))), (o1 22 (.mv (.c (.int .i64 0))))]) (.blk 1 (.loop [3, 21, 22] [3] [] F47_b0))) F47_c3)))⟩

theorem F47_ok : sfn Try.prog hints 47 [([3, 21, 22], ([3], [])), ([3, 5, 21, 22, 26, 27], ([3], []))] = some F47 := by kernel_rfl

abbrev X47_0 (a0_2 : List Cell) (y0_0 : Int) (y3_0 : Int) := ([Cell.v (Value.int .i64 (intC ((List.take 49 a0_2).getD (y0_0.toNat * 7) .dead))), Cell.v (Value.int .i64 (intC ((List.take 49 a0_2).getD (y0_0.toNat * 7 + 1) .dead))), Cell.v (Value.int .i64 (intC ((List.take 49 a0_2).getD (y0_0.toNat * 7 + 2) .dead))), Cell.v (Value.int .i64 (intC ((List.take 49 a0_2).getD (y0_0.toNat * 7 + 3) .dead))), Cell.v (Value.int .i64 (intC ((List.take 49 a0_2).getD (y0_0.toNat * 7 + 4) .dead))), Cell.v (Value.int .i64 (intC ((List.take 49 a0_2).getD (y0_0.toNat * 7 + 5) .dead))), Cell.v (Value.int .i64 (intC ((List.take 49 a0_2).getD (y0_0.toNat * 7 + 6) .dead)))].getD (y3_0.toNat * 1) .dead)

def I47_0_0 (a0_0 : Int) (a0_1 : Bool) (a0_2 : List Cell) (a1_0 : Int) (a1_1 : Bool) (a1_2 : List Cell) (y0_0 : Int) : St := (.mk (.no :: (.no :: (.no :: ((.box 3 0 0) :: (n10 (.no :: (.no :: (.no :: (.no :: (.no :: (.no :: (.no :: ((.agg (List.take 49 a0_2)) :: ((.one (vi y0_0)) :: (n10 (.no :: (.no :: (.no :: (.no :: (.no :: (.no :: (.no :: (.no :: []))))))))))))))))))))))) ([] :: ([] :: ([] :: ([((vi a1_0) :: (vb a1_1) :: (a1_2))] :: (e10 (e10 (e10 ([] :: ([] :: ([] :: ([] :: ([] :: ([] :: ([] :: [])))))))))))))) (e10 (e10 (e10 (e10 ([] :: []))))))

def I47_3_0 (a0_0 : Int) (a0_1 : Bool) (a0_2 : List Cell) (a1_0 : Int) (a1_1 : Bool) (a1_2 : List Cell) (y0_0 : Int) (y3_0 : Int) : St := (.mk (.no :: (.no :: (.no :: ((.box 3 0 0) :: (.no :: ((.one (vi y0_0)) :: (n10 (.no :: (.no :: (.no :: (.no :: (.no :: ((.agg (List.take 49 a0_2)) :: ((.one (vi y0_0)) :: (.no :: (.no :: (.no :: ((.agg [(.v (.int .i64 (intC ((List.take 49 a0_2).getD (y0_0.toNat * 7) .dead)))), (.v (.int .i64 (intC ((List.take 49 a0_2).getD (y0_0.toNat * 7 + 1) .dead)))), (.v (.int .i64 (intC ((List.take 49 a0_2).getD (y0_0.toNat * 7 + 2) .dead)))), (.v (.int .i64 (intC ((List.take 49 a0_2).getD (y0_0.toNat * 7 + 3) .dead)))), (.v (.int .i64 (intC ((List.take 49 a0_2).getD (y0_0.toNat * 7 + 4) .dead)))), (.v (.int .i64 (intC ((List.take 49 a0_2).getD (y0_0.toNat * 7 + 5) .dead)))), (.v (.int .i64 (intC ((List.take 49 a0_2).getD (y0_0.toNat * 7 + 6) .dead))))]) :: ((.one (vi y3_0)) :: (n10 (.no :: (.no :: (.no :: []))))))))))))))))))))))) ([] :: ([] :: ([] :: ([((vi a1_0) :: (vb a1_1) :: (a1_2))] :: (e10 (e10 (e10 ([] :: ([] :: ([] :: ([] :: ([] :: ([] :: ([] :: [])))))))))))))) (e10 (e10 (e10 (e10 ([] :: []))))))

theorem E47_0_0 (a0_0 : Int) (a0_1 : Bool) (a0_2 : List Cell) (a1_0 : Int) (a1_1 : Bool) (a1_2 : List Cell) (y0_0 : Int) (N0 : Bool × St → Prop) (R : Ret → Prop) : wpO cx47 F47_b0 (.two .e .e) (I47_0_0 a0_0 a0_1 a0_2 a1_0 a1_1 a1_2 y0_0) (kLp (headW cx47.m [3, 21, 22] [3] []) N0 (kBlk 1 (kSeq cx47 F47_c3 (endO cx47.m F47.rs R)))) = (bif decide (y0_0 < 7) then (bif decide (0 ≤ y0_0) && decide (y0_0 < 7) && (decide (y0_0.toNat * 7 + 7 ≤ (List.take 49 a0_2).length) && (okK (some .i64) ((List.take 49 a0_2).getD (y0_0.toNat * 7) .dead) && (okK (some .i64) ((List.take 49 a0_2).getD (y0_0.toNat * 7 + 1) .dead) && (okK (some .i64) ((List.take 49 a0_2).getD (y0_0.toNat * 7 + 2) .dead) && (okK (some .i64) ((List.take 49 a0_2).getD (y0_0.toNat * 7 + 3) .dead) && (okK (some .i64) ((List.take 49 a0_2).getD (y0_0.toNat * 7 + 4) .dead) && (okK (some .i64) ((List.take 49 a0_2).getD (y0_0.toNat * 7 + 5) .dead) && (okK (some .i64) ((List.take 49 a0_2).getD (y0_0.toNat * 7 + 6) .dead) && true)))))))) then (LoopO (bodyX cx47 F47_b1) (headW cx47.m [3, 5, 21, 22, 26, 27] [3] []) (kBlk 3 (kBlk 2 (kSeq cx47 F47_c2 (kLp (headW cx47.m [3, 21, 22] [3] []) N0 (kBlk 1 (kSeq cx47 F47_c3 (endO cx47.m F47.rs R))))))) ((List.take 49 a0_2).all plainC && true && (a1_2.all plainC && true && true), (I47_3_0 a0_0 a0_1 a0_2 a1_0 a1_1 a1_2 y0_0 0))) else False) else (R (Ret.mk (.one (.v (.bool .true))) []))) := by kernel_rfl

theorem E47_3_0 (a0_0 : Int) (a0_1 : Bool) (a0_2 : List Cell) (a1_0 : Int) (a1_1 : Bool) (a1_2 : List Cell) (y0_0 : Int) (y3_0 : Int) (N0 : Bool × St → Prop) (N3 : Bool × St → Prop) (R : Ret → Prop) : wpO cx47 F47_b1 (.two (.two .e .e) .e) (I47_3_0 a0_0 a0_1 a0_2 a1_0 a1_1 a1_2 y0_0 y3_0) (kLp (headW cx47.m [3, 5, 21, 22, 26, 27] [3] []) N3 (kBlk 3 (kBlk 2 (kSeq cx47 F47_c2 (kLp (headW cx47.m [3, 21, 22] [3] []) N0 (kBlk 1 (kSeq cx47 F47_c3 (endO cx47.m F47.rs R)))))))) = (bif decide (y3_0 < 7) then (bif decide (0 ≤ y3_0) && decide (y3_0 < 7) && (decide (y3_0.toNat * 1 + 1 ≤ 7) && okK (some .i64) (X47_0 a0_2 y0_0 y3_0)) then (bif decide (0 ≤ y0_0) && decide (y0_0 < 7) then (bif decide (0 ≤ y3_0) && decide (y3_0 < 7) then (bif decide (y3_0.toNat * 1 + y0_0.toNat * 7 + 3 ≤ a1_2.length + 2) && okK (some .i64) (a1_2.getD (y3_0.toNat * 1 + y0_0.toNat * 7) .dead) then (bif decide (intC (X47_0 a0_2 y0_0 y3_0) > intC (a1_2.getD (y3_0.toNat * 1 + y0_0.toNat * 7) .dead)) then (R (Ret.mk (.one (.v (.bool .false))) [])) else (N3 ((List.take 49 a0_2).all plainC && true && (a1_2.all plainC && true && true), (I47_3_0 a0_0 a0_1 a0_2 a1_0 a1_1 a1_2 y0_0 (IntKind.i64.wrap (y3_0 + 1)))))) else False) else False) else False) else False) else (N0 ((List.take 49 a0_2).all plainC && true && (a1_2.all plainC && true && true), (I47_0_0 a0_0 a0_1 a0_2 a1_0 a1_1 a1_2 (IntKind.i64.wrap (y0_0 + 1)))))) := by kernel_rfl

theorem E47 (a0_0 : Int) (a0_1 : Bool) (a0_2 : List Cell) (a1_0 : Int) (a1_1 : Bool) (a1_2 : List Cell) (R : Ret → Prop) : wpFO cx47 F47 (.two .e (.two .e (.two .e .e))) [(.agg ((.v (.int .i64 a0_0)) :: (.v (.bool a0_1)) :: a0_2)), (.agg ((.v (.int .i64 a1_0)) :: (.v (.bool a1_1)) :: a1_2))] R = (bif a0_2.length + 2 == 51 then (bif a1_2.length + 2 == 51 then (bif a0_2.all plainC && (a1_2.all plainC && true) && (a0_2.all (isInt .i64) && a0_2.length == 49 && (a1_2.all (isInt .i64) && a1_2.length == 49)) && true && true && true && true && true then (bif !alikeZ (a0_0, a0_1, List.map intC a0_2) (a1_0, a1_1, List.map intC a1_2) then (R (Ret.mk (.one (.v (.bool .false))) [])) else (bif a0_1 then (R (Ret.mk (.one (.v (.bool .true))) [])) else (bif a1_1 then (R (Ret.mk (.one (.v (.bool .false))) [])) else (bif decide (51 ≤ a0_2.length + 2) then (LoopO (bodyX cx47 F47_b0) (headW cx47.m [3, 21, 22] [3] []) (kBlk 1 (kSeq cx47 F47_c3 (endO cx47.m F47.rs R))) ((List.take 49 a0_2).all plainC && true && (a1_2.all plainC && true && true), (I47_0_0 a0_0 a0_1 a0_2 a1_0 a1_1 a1_2 0))) else False)))) else False) else False) else False) := by kernel_rfl

def f47_wp (a0_0 : Int) (a0_1 : Bool) (a0_2 : List Cell) (a1_0 : Int) (a1_1 : Bool) (a1_2 : List Cell) (R : Ret → Prop) : Prop := bif a0_2.length + 2 == 51 then (bif a1_2.length + 2 == 51 then (bif a0_2.all plainC && (a1_2.all plainC && true) && (a0_2.all (isInt .i64) && a0_2.length == 49 && (a1_2.all (isInt .i64) && a1_2.length == 49)) && true && true && true && true && true then (bif !alikeZ (a0_0, a0_1, List.map intC a0_2) (a1_0, a1_1, List.map intC a1_2) then (R (Ret.mk (.one (.v (.bool .false))) [])) else (bif a0_1 then (R (Ret.mk (.one (.v (.bool .true))) [])) else (bif a1_1 then (R (Ret.mk (.one (.v (.bool .false))) [])) else (bif decide (51 ≤ a0_2.length + 2) then (((List.take 49 a0_2).all plainC && true && (a1_2.all plainC && true && true)) = true ∧ LoopP (fun (z0 : (Int)) (k0 : (Int) → Prop) => (fun (z : Int) => (fun (y0_0 : Int) => bif decide (y0_0 < 7) then (bif decide (0 ≤ y0_0) && decide (y0_0 < 7) && (decide (y0_0.toNat * 7 + 7 ≤ (List.take 49 a0_2).length) && (okK (some .i64) ((List.take 49 a0_2).getD (y0_0.toNat * 7) .dead) && (okK (some .i64) ((List.take 49 a0_2).getD (y0_0.toNat * 7 + 1) .dead) && (okK (some .i64) ((List.take 49 a0_2).getD (y0_0.toNat * 7 + 2) .dead) && (okK (some .i64) ((List.take 49 a0_2).getD (y0_0.toNat * 7 + 3) .dead) && (okK (some .i64) ((List.take 49 a0_2).getD (y0_0.toNat * 7 + 4) .dead) && (okK (some .i64) ((List.take 49 a0_2).getD (y0_0.toNat * 7 + 5) .dead) && (okK (some .i64) ((List.take 49 a0_2).getD (y0_0.toNat * 7 + 6) .dead) && true)))))))) then (((List.take 49 a0_2).all plainC && true && (a1_2.all plainC && true && true)) = true ∧ LoopP (fun (z3 : (Int)) (k3 : (Int) → Prop) => (fun (z : Int) => (fun (y3_0 : Int) => bif decide (y3_0 < 7) then (bif decide (0 ≤ y3_0) && decide (y3_0 < 7) && (decide (y3_0.toNat * 1 + 1 ≤ 7) && okK (some .i64) (X47_0 a0_2 y0_0 y3_0)) then (bif decide (0 ≤ y0_0) && decide (y0_0 < 7) then (bif decide (0 ≤ y3_0) && decide (y3_0 < 7) then (bif decide (y3_0.toNat * 1 + y0_0.toNat * 7 + 3 ≤ a1_2.length + 2) && okK (some .i64) (a1_2.getD (y3_0.toNat * 1 + y0_0.toNat * 7) .dead) then (bif decide (intC (X47_0 a0_2 y0_0 y3_0) > intC (a1_2.getD (y3_0.toNat * 1 + y0_0.toNat * 7) .dead)) then (R (Ret.mk (.one (.v (.bool .false))) [])) else (((List.take 49 a0_2).all plainC && true && (a1_2.all plainC && true && true)) = true ∧ k3 (IntKind.i64.wrap (y3_0 + 1)))) else False) else False) else False) else False) else (((List.take 49 a0_2).all plainC && true && (a1_2.all plainC && true && true)) = true ∧ k0 (IntKind.i64.wrap (y0_0 + 1)))) z) z3) 0) else False) else (R (Ret.mk (.one (.v (.bool .true))) []))) z) z0) 0) else False)))) else False) else False) else False

set_option maxRecDepth 100000 in
theorem f47_sound (a0_0 : Int) (a0_1 : Bool) (a0_2 : List Cell) (a1_0 : Int) (a1_1 : Bool) (a1_2 : List Cell) (hC : CtxOk Try.prog cx47.q.ctx) {r : Ret} (h : f47_wp a0_0 a0_1 a0_2 a1_0 a1_1 a1_2 (fun r' => r' = r)) : SoundAt Try.prog 47 [(.agg ((.v (.int .i64 a0_0)) :: (.v (.bool a0_1)) :: a0_2)), (.agg ((.v (.int .i64 a1_0)) :: (.v (.bool a1_1)) :: a1_2))] r := by
  refine soundAtO (C := cx47) (oc := (.two .e (.two .e (.two .e .e)))) mixed hC F47_ok ?_
  rewrite [E47 a0_0 a0_1 a0_2 a1_0 a1_1 a1_2]
  unfold f47_wp at h
  refine ck_mapE h (fun q1 h => ck_mapE h (fun q2 h => ck_mapE h (fun q3 h => ?_)))
  refine cond_mapE h (fun q4 h => ?_) (fun q4 h => ?_)
  · skip
    exact h
  · skip
    refine cond_mapE h (fun q5 h => ?_) (fun q5 h => ?_)
    · skip
      exact h
    · skip
      refine cond_mapE h (fun q6 h => ?_) (fun q6 h => ?_)
      · skip
        exact h
      · skip
        refine ck_mapE h (fun q7 h => ?_)
        obtain ⟨q62, h⟩ := h
        refine loop_of (I := (fun (z : Int) => (I47_0_0 a0_0 a0_1 a0_2 a1_0 a1_1 a1_2 z))) (fun z k0 h => ?_) h q62 rfl
        obtain ⟨y0_0, rfl⟩ : ∃ y, y = z := ⟨z, rfl⟩
        try dsimp only [sumE_l, sumE_r] at h
        refine bodyX_i (ob := (.two .e .e)) ?_
        rewrite [E47_0_0 a0_0 a0_1 a0_2 a1_0 a1_1 a1_2 y0_0]
        refine cond_mapE h (fun q42 h => ?_) (fun q42 h => ?_)
        · skip
          refine ck_mapE h (fun q43 h => ?_)
          obtain ⟨q61, h⟩ := h
          refine loop_of (I := (fun (z : Int) => (I47_3_0 a0_0 a0_1 a0_2 a1_0 a1_1 a1_2 y0_0 z))) (fun z k3 h => ?_) h q61 rfl
          obtain ⟨y3_0, rfl⟩ : ∃ y, y = z := ⟨z, rfl⟩
          try dsimp only [sumE_l, sumE_r] at h
          refine bodyX_i (ob := (.two (.two .e .e) .e)) ?_
          rewrite [E47_3_0 a0_0 a0_1 a0_2 a1_0 a1_1 a1_2 y0_0 y3_0]
          refine cond_mapE h (fun q53 h => ?_) (fun q53 h => ?_)
          · skip
            refine ck_mapE h (fun q54 h => ck_mapE h (fun q55 h => ck_mapE h (fun q56 h => ck_mapE h (fun q57 h => ?_))))
            refine cond_mapE h (fun q58 h => ?_) (fun q58 h => ?_)
            · skip
              exact h
            · skip
              obtain ⟨q59, h⟩ := h
              exact again_i (y := (IntKind.i64.wrap (y3_0 + 1))) q59 h
          · skip
            obtain ⟨q60, h⟩ := h
            exact again_i (y := (IntKind.i64.wrap (y0_0 + 1))) q60 h
        · skip
          exact h


def cx100 : CtxW := ⟨⟨[(96, sum96), (101, sum101)], []⟩, 2, []⟩


def F100_b1 : SC := (.seq (.reg [(o1 33 (.bin .lss (.t 32) (.c (.int .i64 7))))]) (.seq (.cond (.t 33) .skip (.exit 3)) (.seq (.blk 4 (.seq (.reg [(o1 34 (.mv (.t 32))), (o1 35 (.ixV .false 7 1 [(.some .i64)] (.t 31) (.t 32))), (o1 9 (.mv (.t 34))), (o1 10 (.mv (.t 35)))]) (.reg [(o1 36 (.mv (.t 7))), (o1 37 (.mv (.t 9))), (o1 38 (.mv (.t 2))), (o1 39 (.mv (.t 10))), (o1 40 (.mv (.t 7))), (o1 41 (.mv (.t 9))), (o1 42 (.fld 2 (.t 4))), (o1 43 (.ixA 7 7 (.t 42) (.t 40))), (o1 44 (.ixA 7 1 (.t 43) (.t 41))), (o1 45 (.load .false .false 1 [(.some .i64)] (.t 44))), (o1 46 (.call .false .false (.t 38) [(.t 39), (.t 45)])), (o1 47 (.fld 2 (.t 3))), (o1 48 (.ixA 7 7 (.t 47) (.t 36))), (o1 49 (.ixA 7 1 (.t 48) (.t 37))), (oN (.store .false 1 (.t 49) (.t 46)))]))) (.reg [(o1 50 (.bin .add (.t 32) (.c (.int .i64 1)))), (o1 32 (.mv (.t 50)))]))))

def F100_c2 : SC := (.reg [(o1 51 (.bin .add (.t 27) (.c (.int .i64 1)))), (o1 27 (.mv (.t 51)))])

def F100_b0 : SC := (.seq (.reg [(o1 28 (.bin .lss (.t 27) (.c (.int .i64 7))))]) (.seq (.cond (.t 28) .skip (.exit 1)) (.seq (.blk 2 (.seq (.reg [(o1 29 (.mv (.t 27))), (o1 30 (.ixV .true 7 7 [(.some .i64), (.some .i64), (.some .i64), (.some .i64), (.some .i64), (.some .i64), (.some .i64)] (.t 26) (.t 27))), (o1 8 (.alloc [(.int .i64 0), (.int .i64 0), (.int .i64 0), (.int .i64 0), (.int .i64 0), (.int .i64 0), (.int .i64 0)])), (o1 7 (.mv (.t 29))), (oN (.store .false 7 (.t 8) (.t 30)))]) (.seq (.reg [(o1 31 (.load .false .true 7 [(.some .i64), (.some .i64), (.some .i64), (.some .i64), (.some .i64), (.some .i64), (.some .i64)] (.t 8))), (o1 32 (.mv (.c (.int .i64 0))))]) (.blk 3 (.loop [2, 3, 4, 6, 7, 26, 27, 31, 32] [3, 4, 6] [] F100_b1))))) F100_c2)))

def F100_c3 : SC := (.seq (.reg [(o1 52 (.load .false .true 51 K51 (.t 3))), (oN (.store .false 51 (.t 6) (.t 52)))]) .ret)

def F100 : SFn := ⟨53, [(.cell 6 .true 51)], (.seq (.reg [(o1 3 (.box (.t 0))), (o1 4 (.box (.t 1))), (o1 6 (.alloc [(.int .i64 0), (.bool .false), (.int .i64 0), (.int .i64 0), (.int .i64 0), (.int .i64 0), (.int .i64 0), (.int .i64 0), (.int .i64 0), (.int .i64 0), (.int .i64 0), (.int .i64 0), (.int .i64 0), (.int .i64 0), (.int .i64 0), (.int .i64 0), (.int .i64 0), (.int .i64 0), (.int .i64 0), (.int .i64 0), (.int .i64 0), (.int .i64 0), (.int .i64 0), (.int .i64 0), (.int .i64 0), (.int .i64 0), (.int .i64 0), (.int .i64 0), (.int .i64 0), (.int .i64 0), (.int .i64 0), (.int .i64 0), (.int .i64 0), (.int .i64 0), (.int .i64 0), (.int .i64 0), (.int .i64 0), (.int .i64 0), (.int .i64 0), (.int .i64 0), (.int .i64 0), (.int .i64 0), (.int .i64 0), (.int .i64 0), (.int .i64 0), (.int .i64 0), (.int .i64 0), (.int .i64 0), (.int .i64 0), (.int .i64 0), (.int .i64 0)]))]) (.seq (.blk 0 (.seq (.reg [(o1 12 (.load .false .true 51 K51 (.t 3))), (o1 13 (.load .false .true 51 K51 (.t 4))), (o1 14 (.call .false .false (.f 96) [(.t 12), (.t 13)])), (o1 15 (.un .not (.t 14))), (o1 16 (.mv (.t 15))), (oS 17 (.fld 1 (.t 4)) (.some (16, .false))), (oS 18 (.load .false .false 1 [.none] (.t 17)) (.some (16, .false))), (o1 19 (.pick (.t 16) (.c (.bool .true)) (.t 18))), (o1 11 (.mv (.t 19)))]) (.cond (.t 11) (.seq (.reg [(o1 20 (.load .false .true 51 K51 (.t 3))), (oN (.store .false 51 (.t 6) (.t 20)))]) .ret) (.seq (.reg [(o1 22 (.fld 1 (.t 3))), (o1 23 (.load .false .false 1 [.none] (.t 22))), (o1 21 (.mv (.t 23)))]) (.cond (.t 21) (.seq (.reg [(o1 24 (.load .false .true 51 K51 (.t 4))), (oN (.store .false 51 (.t 6) (.t 24)))]) .ret) .skip))))) (.seq (.seq (.reg [(o1 25 (.fld 2 (.t 3))), (o1 26 (.load .false .true 49 K49 (.t 25))), (o1 27 (.mv (.c (.int .i64 0))))]) (.blk 1 (.loop [2, 3, 4, 6, 26, 27] [3, 4, 6] [] F100_b0))) F100_c3)))⟩

theorem F100_ok : sfn Try.prog hints 100 [([2, 3, 4, 6, 26, 27], ([3, 4, 6], [])), ([2, 3, 4, 6, 7, 26, 27, 31, 32], ([3, 4, 6], []))] = some F100 := by kernel_rfl

abbrev X100_0 (ds : List Cell) (y0_0 : Int) (y3_0 : Int) := ([Cell.v (Value.int .i64 (intC ((List.take 49 ds).getD (y0_0.toNat * 7) .dead))), Cell.v (Value.int .i64 (intC ((List.take 49 ds).getD (y0_0.toNat * 7 + 1) .dead))), Cell.v (Value.int .i64 (intC ((List.take 49 ds).getD (y0_0.toNat * 7 + 2) .dead))), Cell.v (Value.int .i64 (intC ((List.take 49 ds).getD (y0_0.toNat * 7 + 3) .dead))), Cell.v (Value.int .i64 (intC ((List.take 49 ds).getD (y0_0.toNat * 7 + 4) .dead))), Cell.v (Value.int .i64 (intC ((List.take 49 ds).getD (y0_0.toNat * 7 + 5) .dead))), Cell.v (Value.int .i64 (intC ((List.take 49 ds).getD (y0_0.toNat * 7 + 6) .dead)))].getD (y3_0.toNat * 1) .dead)
abbrev X100_1 (ds : List Cell) (ds2 : List Cell) (y0_0 : Int) (y3_0 : Int) (y3_1 : List Cell) := (y3_1.set (y3_0.toNat * 1 + y0_0.toNat * 7) (Cell.v (Value.int .i64 (Max.max (intC (X100_0 ds y0_0 y3_0)) (intC (ds2.getD (y3_0.toNat * 1 + y0_0.toNat * 7) .dead))))))

def I100_0_0 (n : Int) (b : Bool) (ds : List Cell) (n2 : Int) (b2 : Bool) (ds2 : List Cell) (y0_0 : Int) (y0_1 : List Cell) : St := (.mk (.no :: (.no :: ((.one (.v (.func (.func 101) (.mk []) (.mk [])))) :: ((.box 3 0 0) :: ((.box 4 0 0) :: (.no :: ((.box 6 0 0) :: (n10 (.no :: (.no :: (.no :: (.no :: (.no :: (.no :: (.no :: (.no :: (.no :: ((.agg (List.take 49 ds)) :: ((.one (vi y0_0)) :: (n10 (n10 (.no :: (.no :: (.no :: (.no :: (.no :: [])))))))))))))))))))))))))) ([] :: ([] :: ([] :: ([((vi n) :: (vb b) :: (y0_1))] :: ([((vi n2) :: (vb b2) :: (ds2))] :: ([] :: ([((.v (.int .i64 0)) :: (.v (.bool .false)) :: (List.replicate 49 (Cell.v (Value.int .i64 0))))] :: (e10 (e10 (e10 (e10 ([] :: ([] :: ([] :: ([] :: ([] :: ([] :: []))))))))))))))))) (e10 (e10 (e10 (e10 (e10 ([] :: ([] :: ([] :: [])))))))))

def I100_3_0 (n : Int) (b : Bool) (ds : List Cell) (n2 : Int) (b2 : Bool) (ds2 : List Cell) (y0_0 : Int) (y0_1 : List Cell) (y3_0 : Int) (y3_1 : List Cell) : St := (.mk (.no :: (.no :: ((.one (.v (.func (.func 101) (.mk []) (.mk [])))) :: ((.box 3 0 0) :: ((.box 4 0 0) :: (.no :: ((.box 6 0 0) :: ((.one (vi y0_0)) :: (n10 (.no :: (.no :: (.no :: (.no :: (.no :: (.no :: (.no :: (.no :: ((.agg (List.take 49 ds)) :: ((.one (vi y0_0)) :: (.no :: (.no :: (.no :: ((.agg [(.v (.int .i64 (intC ((List.take 49 ds).getD (y0_0.toNat * 7) .dead)))), (.v (.int .i64 (intC ((List.take 49 ds).getD (y0_0.toNat * 7 + 1) .dead)))), (.v (.int .i64 (intC ((List.take 49 ds).getD (y0_0.toNat * 7 + 2) .dead)))), (.v (.int .i64 (intC ((List.take 49 ds).getD (y0_0.toNat * 7 + 3) .dead)))), (.v (.int .i64 (intC ((List.take 49 ds).getD (y0_0.toNat * 7 + 4) .dead)))), (.v (.int .i64 (intC ((List.take 49 ds).getD (y0_0.toNat * 7 + 5) .dead)))), (.v (.int .i64 (intC ((List.take 49 ds).getD (y0_0.toNat * 7 + 6) .dead))))]) :: ((.one (vi y3_0)) :: (n10 (n10 [])))))))))))))))))))))))))) ([] :: ([] :: ([] :: ([((vi n) :: (vb b) :: (y3_1))] :: ([((vi n2) :: (vb b2) :: (ds2))] :: ([] :: ([((.v (.int .i64 0)) :: (.v (.bool .false)) :: (List.replicate 49 (Cell.v (Value.int .i64 0))))] :: (e10 (e10 (e10 (e10 ([] :: ([] :: ([] :: ([] :: ([] :: ([] :: []))))))))))))))))) (e10 (e10 (e10 (e10 (e10 ([] :: ([] :: ([] :: [])))))))))

theorem E100_0_0 (n : Int) (b : Bool) (ds : List Cell) (n2 : Int) (b2 : Bool) (ds2 : List Cell) (y0_0 : Int) (y0_1 : List Cell) (N0 : Bool × St → Prop) (R : Ret → Prop) : wpO cx100 F100_b0 (.two .e .e) (I100_0_0 n b ds n2 b2 ds2 y0_0 y0_1) (kLp (headW cx100.m [2, 3, 4, 6, 26, 27] [3, 4, 6] []) N0 (kBlk 1 (kSeq cx100 F100_c3 (endO cx100.m F100.rs R)))) = (bif decide (y0_0 < 7) then (bif decide (0 ≤ y0_0) && decide (y0_0 < 7) && (decide (y0_0.toNat * 7 + 7 ≤ (List.take 49 ds).length) && (okK (some .i64) ((List.take 49 ds).getD (y0_0.toNat * 7) .dead) && (okK (some .i64) ((List.take 49 ds).getD (y0_0.toNat * 7 + 1) .dead) && (okK (some .i64) ((List.take 49 ds).getD (y0_0.toNat * 7 + 2) .dead) && (okK (some .i64) ((List.take 49 ds).getD (y0_0.toNat * 7 + 3) .dead) && (okK (some .i64) ((List.take 49 ds).getD (y0_0.toNat * 7 + 4) .dead) && (okK (some .i64) ((List.take 49 ds).getD (y0_0.toNat * 7 + 5) .dead) && (okK (some .i64) ((List.take 49 ds).getD (y0_0.toNat * 7 + 6) .dead) && true)))))))) then (LoopO (bodyX cx100 F100_b1) (headW cx100.m [2, 3, 4, 6, 7, 26, 27, 31, 32] [3, 4, 6] []) (kBlk 3 (kBlk 2 (kSeq cx100 F100_c2 (kLp (headW cx100.m [2, 3, 4, 6, 26, 27] [3, 4, 6] []) N0 (kBlk 1 (kSeq cx100 F100_c3 (endO cx100.m F100.rs R))))))) ((List.take 49 ds).all plainC && true && (y0_1.all plainC && true && (ds2.all plainC && true && true)), (I100_3_0 n b ds n2 b2 ds2 y0_0 y0_1 0 (y0_1)))) else False) else (bif y0_1.length + 2 == 51 then (bif y0_1.length + 2 == 51 && true && true then (bif y0_1.length + 2 == 51 && true then (bif y0_1.all plainC then (R (Ret.mk (.agg ((.v (.int .i64 (n))) :: (.v (.bool (b))) :: (y0_1))) [])) else False) else False) else False) else False)) := by kernel_rfl

theorem E100_3_0 (n : Int) (b : Bool) (ds : List Cell) (n2 : Int) (b2 : Bool) (ds2 : List Cell) (y0_0 : Int) (y0_1 : List Cell) (y3_0 : Int) (y3_1 : List Cell) (N0 : Bool × St → Prop) (N3 : Bool × St → Prop) (R : Ret → Prop) : wpO cx100 F100_b1 (.two .e .e) (I100_3_0 n b ds n2 b2 ds2 y0_0 y0_1 y3_0 y3_1) (kLp (headW cx100.m [2, 3, 4, 6, 7, 26, 27, 31, 32] [3, 4, 6] []) N3 (kBlk 3 (kBlk 2 (kSeq cx100 F100_c2 (kLp (headW cx100.m [2, 3, 4, 6, 26, 27] [3, 4, 6] []) N0 (kBlk 1 (kSeq cx100 F100_c3 (endO cx100.m F100.rs R)))))))) = (bif decide (y3_0 < 7) then (bif decide (0 ≤ y3_0) && decide (y3_0 < 7) && (decide (y3_0.toNat * 1 + 1 ≤ 7) && okK (some .i64) (X100_0 ds y0_0 y3_0)) then (bif decide (0 ≤ y0_0) && decide (y0_0 < 7) then (bif decide (0 ≤ y3_0) && decide (y3_0 < 7) then (bif decide (y3_0.toNat * 1 + y0_0.toNat * 7 + 3 ≤ ds2.length + 2) && okK (some .i64) (ds2.getD (y3_0.toNat * 1 + y0_0.toNat * 7) .dead) then (bif decide (0 ≤ y0_0) && decide (y0_0 < 7) then (bif decide (0 ≤ y3_0) && decide (y3_0 < 7) then (bif decide (y3_0.toNat * 1 + y0_0.toNat * 7 + 3 ≤ y3_1.length + 2) then (N3 ((List.take 49 ds).all plainC && true && ((X100_1 ds ds2 y0_0 y3_0 y3_1).all plainC && true && (ds2.all plainC && true && true)), (I100_3_0 n b ds n2 b2 ds2 y0_0 y0_1 (IntKind.i64.wrap (y3_0 + 1)) (X100_1 ds ds2 y0_0 y3_0 y3_1)))) else False) else False) else False) else False) else False) else False) else False) else (N0 ((List.take 49 ds).all plainC && true && (y3_1.all plainC && true && (ds2.all plainC && true && true)), (I100_0_0 n b ds n2 b2 ds2 (IntKind.i64.wrap (y0_0 + 1)) (y3_1))))) := by kernel_rfl

theorem E100 (n : Int) (b : Bool) (ds : List Cell) (n2 : Int) (b2 : Bool) (ds2 : List Cell) (R : Ret → Prop) : wpFO cx100 F100 (.two (.n 1 .e) (.n 0 (.two .e (.two .e .e)))) [(.agg (.v (.int .i64 n) :: .v (.bool b) :: ds)), (.agg (.v (.int .i64 n2) :: .v (.bool b2) :: ds2)), (.one (.v (.func (.func 101) #[] #[])))] R = (bif ds.length + 2 == 51 then (bif ds2.length + 2 == 51 then (bif ds.all plainC && (ds2.all plainC && true) && (ds.all (isInt .i64) && ds.length == 49 && (ds2.all (isInt .i64) && ds2.length == 49)) && true && true && true && true && true then (bif !alikeZ (n, b, List.map intC ds) (n2, b2, List.map intC ds2) then (bif ds.length + 2 == 51 then (bif ds.length + 2 == 51 && true && true then (bif ds.length + 2 == 51 && true then (bif ds.all plainC then (R (Ret.mk (.agg ((.v (.int .i64 (n))) :: (.v (.bool (b))) :: (ds))) [])) else False) else False) else False) else False) else (bif b2 then (bif ds.length + 2 == 51 then (bif ds.length + 2 == 51 && true && true then (bif ds.length + 2 == 51 && true then (bif ds.all plainC then (R (Ret.mk (.agg ((.v (.int .i64 (n))) :: (.v (.bool (b))) :: (ds))) [])) else False) else False) else False) else False) else (bif b then (bif ds2.length + 2 == 51 then (bif ds2.length + 2 == 51 && true && true then (bif ds2.length + 2 == 51 && true then (bif ds2.all plainC then (R (Ret.mk (.agg ((.v (.int .i64 (n2))) :: (.v (.bool (b2))) :: (ds2))) [])) else False) else False) else False) else False) else (bif decide (51 ≤ ds.length + 2) then (LoopO (bodyX cx100 F100_b0) (headW cx100.m [2, 3, 4, 6, 26, 27] [3, 4, 6] []) (kBlk 1 (kSeq cx100 F100_c3 (endO cx100.m F100.rs R))) ((List.take 49 ds).all plainC && true && (ds.all plainC && true && (ds2.all plainC && true && true)), (I100_0_0 n b ds n2 b2 ds2 0 (ds)))) else False)))) else False) else False) else False) := by kernel_rfl

def f100_wp (n : Int) (b : Bool) (ds : List Cell) (n2 : Int) (b2 : Bool) (ds2 : List Cell) (R : Ret → Prop) : Prop := bif ds.length + 2 == 51 then (bif ds2.length + 2 == 51 then (bif ds.all plainC && (ds2.all plainC && true) && (ds.all (isInt .i64) && ds.length == 49 && (ds2.all (isInt .i64) && ds2.length == 49)) && true && true && true && true && true then (bif !alikeZ (n, b, List.map intC ds) (n2, b2, List.map intC ds2) then (bif ds.length + 2 == 51 && true && true then (bif ds.length + 2 == 51 && true then (bif ds.all plainC then (R (Ret.mk (.agg ((.v (.int .i64 (n))) :: (.v (.bool (b))) :: (ds))) [])) else False) else False) else False) else (bif b2 then (bif ds.length + 2 == 51 && true && true then (bif ds.length + 2 == 51 && true then (bif ds.all plainC then (R (Ret.mk (.agg ((.v (.int .i64 (n))) :: (.v (.bool (b))) :: (ds))) [])) else False) else False) else False) else (bif b then (bif ds2.length + 2 == 51 && true && true then (bif ds2.length + 2 == 51 && true then (bif ds2.all plainC then (R (Ret.mk (.agg ((.v (.int .i64 (n2))) :: (.v (.bool (b2))) :: (ds2))) [])) else False) else False) else False) else (bif decide (51 ≤ ds.length + 2) then (((List.take 49 ds).all plainC && true && (ds.all plainC && true && (ds2.all plainC && true && true))) = true ∧ LoopP (fun (z0 : (Int × (List Cell))) (k0 : (Int × (List Cell)) → Prop) => (fun (z : Int × (List Cell)) => (fun (y0_0 : Int) (y0_1 : List Cell) => bif decide (y0_0 < 7) then (bif decide (0 ≤ y0_0) && decide (y0_0 < 7) && (decide (y0_0.toNat * 7 + 7 ≤ (List.take 49 ds).length) && (okK (some .i64) ((List.take 49 ds).getD (y0_0.toNat * 7) .dead) && (okK (some .i64) ((List.take 49 ds).getD (y0_0.toNat * 7 + 1) .dead) && (okK (some .i64) ((List.take 49 ds).getD (y0_0.toNat * 7 + 2) .dead) && (okK (some .i64) ((List.take 49 ds).getD (y0_0.toNat * 7 + 3) .dead) && (okK (some .i64) ((List.take 49 ds).getD (y0_0.toNat * 7 + 4) .dead) && (okK (some .i64) ((List.take 49 ds).getD (y0_0.toNat * 7 + 5) .dead) && (okK (some .i64) ((List.take 49 ds).getD (y0_0.toNat * 7 + 6) .dead) && true)))))))) then (((List.take 49 ds).all plainC && true && (y0_1.all plainC && true && (ds2.all plainC && true && true))) = true ∧ LoopP (fun (z3 : (Int × (List Cell))) (k3 : (Int × (List Cell)) → Prop) => (fun (z : Int × (List Cell)) => (fun (y3_0 : Int) (y3_1 : List Cell) => bif decide (y3_0 < 7) then (bif decide (0 ≤ y3_0) && decide (y3_0 < 7) && (decide (y3_0.toNat * 1 + 1 ≤ 7) && okK (some .i64) (X100_0 ds y0_0 y3_0)) then (bif decide (0 ≤ y0_0) && decide (y0_0 < 7) then (bif decide (0 ≤ y3_0) && decide (y3_0 < 7) then (bif decide (y3_0.toNat * 1 + y0_0.toNat * 7 + 3 ≤ ds2.length + 2) && okK (some .i64) (ds2.getD (y3_0.toNat * 1 + y0_0.toNat * 7) .dead) then (bif decide (y3_0.toNat * 1 + y0_0.toNat * 7 + 3 ≤ y3_1.length + 2) then (((List.take 49 ds).all plainC && true && ((X100_1 ds ds2 y0_0 y3_0 y3_1).all plainC && true && (ds2.all plainC && true && true))) = true ∧ k3 ((IntKind.i64.wrap (y3_0 + 1)), (X100_1 ds ds2 y0_0 y3_0 y3_1))) else False) else False) else False) else False) else False) else (((List.take 49 ds).all plainC && true && (y3_1.all plainC && true && (ds2.all plainC && true && true))) = true ∧ k0 ((IntKind.i64.wrap (y0_0 + 1)), (y3_1)))) z.1 z.2) z3) (0, (y0_1))) else False) else (bif y0_1.length + 2 == 51 then (bif y0_1.length + 2 == 51 && true && true then (bif y0_1.length + 2 == 51 && true then (bif y0_1.all plainC then (R (Ret.mk (.agg ((.v (.int .i64 (n))) :: (.v (.bool (b))) :: (y0_1))) [])) else False) else False) else False) else False)) z.1 z.2) z0) (0, (ds))) else False)))) else False) else False) else False

set_option maxRecDepth 100000 in
theorem f100_sound (n : Int) (b : Bool) (ds : List Cell) (n2 : Int) (b2 : Bool) (ds2 : List Cell) (hC : CtxOk Try.prog cx100.q.ctx) {r : Ret} (h : f100_wp n b ds n2 b2 ds2 (fun r' => r' = r)) : SoundAt Try.prog 100 [(.agg (.v (.int .i64 n) :: .v (.bool b) :: ds)), (.agg (.v (.int .i64 n2) :: .v (.bool b2) :: ds2)), (.one (.v (.func (.func 101) #[] #[])))] r := by
  refine soundAtO (C := cx100) (oc := (.two (.n 1 .e) (.n 0 (.two .e (.two .e .e))))) mixed hC F100_ok ?_
  rewrite [E100 n b ds n2 b2 ds2]
  unfold f100_wp at h
  refine ck_mapE h (fun q1 h => ck_mapE h (fun q2 h => ck_mapE h (fun q3 h => ?_)))
  refine cond_mapE h (fun q4 h => ?_) (fun q4 h => ?_)
  · skip
    refine ck_i q1 (ck_mapE h (fun q5 h => ck_mapE h (fun q7 h => ck_mapE h (fun q6 h => ?_))))
    exact h
  · skip
    refine cond_mapE h (fun q8 h => ?_) (fun q8 h => ?_)
    · skip
      refine ck_i q1 (ck_mapE h (fun q9 h => ck_mapE h (fun q11 h => ck_mapE h (fun q10 h => ?_))))
      exact h
    · skip
      refine cond_mapE h (fun q12 h => ?_) (fun q12 h => ?_)
      · skip
        refine ck_i q2 (ck_mapE h (fun q13 h => ck_mapE h (fun q15 h => ck_mapE h (fun q14 h => ?_))))
        exact h
      · skip
        refine ck_mapE h (fun q16 h => ?_)
        obtain ⟨q75, h⟩ := h
        refine loop_of (I := (fun (z : Int × (List Cell)) => (I100_0_0 n b ds n2 b2 ds2 z.1 z.2))) (fun z k0 h => ?_) h q75 rfl
        obtain ⟨y0_0, y0_1⟩ := z
        try dsimp only [sumE_l, sumE_r] at h
        refine bodyX_i (ob := (.two .e .e)) ?_
        rewrite [E100_0_0 n b ds n2 b2 ds2 y0_0 y0_1]
        refine cond_mapE h (fun q51 h => ?_) (fun q51 h => ?_)
        · skip
          refine ck_mapE h (fun q52 h => ?_)
          obtain ⟨q70, h⟩ := h
          refine loop_of (I := (fun (z : Int × (List Cell)) => (I100_3_0 n b ds n2 b2 ds2 y0_0 y0_1 z.1 z.2))) (fun z k3 h => ?_) h q70 rfl
          obtain ⟨y3_0, y3_1⟩ := z
          try dsimp only [sumE_l, sumE_r] at h
          refine bodyX_i (ob := (.two .e .e)) ?_
          rewrite [E100_3_0 n b ds n2 b2 ds2 y0_0 y0_1 y3_0 y3_1]
          refine cond_mapE h (fun q62 h => ?_) (fun q62 h => ?_)
          · skip
            refine ck_mapE h (fun q63 h => ck_mapE h (fun q64 h => ck_mapE h (fun q65 h => ck_mapE h (fun q66 h => ck_i q64 (ck_i q65 (ck_mapE h (fun q67 h => ?_)))))))
            obtain ⟨q68, h⟩ := h
            exact again_i (y := ((IntKind.i64.wrap (y3_0 + 1)), (X100_1 ds ds2 y0_0 y3_0 y3_1))) q68 h
          · skip
            obtain ⟨q69, h⟩ := h
            exact again_i (y := ((IntKind.i64.wrap (y0_0 + 1)), (y3_1))) q69 h
        · skip
          refine ck_mapE h (fun q71 h => ck_mapE h (fun q72 h => ck_mapE h (fun q74 h => ck_mapE h (fun q73 h => ?_))))
          exact h


def cx61 : CtxW := ⟨⟨[(100, sum100)], []⟩, 2, []⟩


def F61 : SFn := ⟨8, [(.cell 4 .true 51)], (.seq (.reg [(o1 2 (.box (.t 0))), (o1 3 (.box (.t 1))), (o1 4 (.alloc [(.int .i64 0), (.bool .false), (.int .i64 0), (.int .i64 0), (.int .i64 0), (.int .i64 0), (.int .i64 0), (.int .i64 0), (.int .i64 0), (.int .i64 0), (.int .i64 0), (.int .i64 0), (.int .i64 0), (.int .i64 0), (.int .i64 0), (.int .i64 0), (.int .i64 0), (.int .i64 0), (.int .i64 0), (.int .i64 0), (.int .i64 0), (.int .i64 0), (.int .i64 0), (.int .i64 0), (.int .i64 0), (.int .i64 0), (.int .i64 0), (.int .i64 0), (.int .i64 0), (.int .i64 0), (.int .i64 0), (.int .i64 0), (.int .i64 0), (.int .i64 0), (.int .i64 0), (.int .i64 0), (.int .i64 0), (.int .i64 0), (.int .i64 0), (.int .i64 0), (.int .i64 0), (.int .i64 0), (.int .i64 0), (.int .i64 0), (.int .i64 0), (.int .i64 0), (.int .i64 0), (.int .i64 0), (.int .i64 0), (.int .i64 0), (.int .i64 0)]))]) (.seq (.reg [(o1 5 (.load .false .true 51 K51 (.t 2))), (o1 6 (.load .false .true 51 K51 (.t 3))), (o1 7 (.call .false .false (.f 100) [(.t 5), (.t 6), (.f 101)])), (oN (.store .false 51 (.t 4) (.t 7)))]) .ret))⟩

theorem F61_ok : sfn Try.prog hints 61 [] = some F61 := by kernel_rfl

abbrev X61_0 (a0_0 : Int) (a0_1 : Bool) (a0_2 : List Cell) (a1_0 : Int) (a1_1 : Bool) (a1_2 : List Cell) := (ic .i64 (joinZ (a0_0, a0_1, List.map intC a0_2) (a1_0, a1_1, List.map intC a1_2)).2.2)

theorem E61 (a0_0 : Int) (a0_1 : Bool) (a0_2 : List Cell) (a1_0 : Int) (a1_1 : Bool) (a1_2 : List Cell) (R : Ret → Prop) : wpFO cx61 F61 .e [(.agg ((.v (.int .i64 a0_0)) :: (.v (.bool a0_1)) :: a0_2)), (.agg ((.v (.int .i64 a1_0)) :: (.v (.bool a1_1)) :: a1_2))] R = (bif a0_2.length + 2 == 51 then (bif a1_2.length + 2 == 51 then (bif a0_2.all plainC && (a1_2.all plainC && true) && (a0_2.all (isInt .i64) && a0_2.length == 49 && (a1_2.all (isInt .i64) && a1_2.length == 49)) && (X61_0 a0_0 a0_1 a0_2 a1_0 a1_1 a1_2).all (okC 0) && true && true && true && true then (bif (X61_0 a0_0 a0_1 a0_2 a1_0 a1_1 a1_2).length + 2 == 51 && true && true then (bif (X61_0 a0_0 a0_1 a0_2 a1_0 a1_1 a1_2).length + 2 == 51 && true then (bif (X61_0 a0_0 a0_1 a0_2 a1_0 a1_1 a1_2).all plainC then (R (Ret.mk (.agg ((.v (.int .i64 ((joinZ (a0_0, a0_1, List.map intC a0_2) (a1_0, a1_1, List.map intC a1_2)).1))) :: (.v (.bool ((joinZ (a0_0, a0_1, List.map intC a0_2) (a1_0, a1_1, List.map intC a1_2)).2.1))) :: (X61_0 a0_0 a0_1 a0_2 a1_0 a1_1 a1_2))) [])) else False) else False) else False) else False) else False) else False) := by kernel_rfl

def f61_wp (a0_0 : Int) (a0_1 : Bool) (a0_2 : List Cell) (a1_0 : Int) (a1_1 : Bool) (a1_2 : List Cell) (R : Ret → Prop) : Prop := bif a0_2.length + 2 == 51 then (bif a1_2.length + 2 == 51 then (bif a0_2.all plainC && (a1_2.all plainC && true) && (a0_2.all (isInt .i64) && a0_2.length == 49 && (a1_2.all (isInt .i64) && a1_2.length == 49)) && (X61_0 a0_0 a0_1 a0_2 a1_0 a1_1 a1_2).all (okC 0) && true && true && true && true then (bif (X61_0 a0_0 a0_1 a0_2 a1_0 a1_1 a1_2).length + 2 == 51 && true && true then (bif (X61_0 a0_0 a0_1 a0_2 a1_0 a1_1 a1_2).length + 2 == 51 && true then (bif (X61_0 a0_0 a0_1 a0_2 a1_0 a1_1 a1_2).all plainC then (R (Ret.mk (.agg ((.v (.int .i64 ((joinZ (a0_0, a0_1, List.map intC a0_2) (a1_0, a1_1, List.map intC a1_2)).1))) :: (.v (.bool ((joinZ (a0_0, a0_1, List.map intC a0_2) (a1_0, a1_1, List.map intC a1_2)).2.1))) :: (X61_0 a0_0 a0_1 a0_2 a1_0 a1_1 a1_2))) [])) else False) else False) else False) else False) else False) else False

set_option maxRecDepth 100000 in
theorem f61_sound (a0_0 : Int) (a0_1 : Bool) (a0_2 : List Cell) (a1_0 : Int) (a1_1 : Bool) (a1_2 : List Cell) (hC : CtxOk Try.prog cx61.q.ctx) {r : Ret} (h : f61_wp a0_0 a0_1 a0_2 a1_0 a1_1 a1_2 (fun r' => r' = r)) : SoundAt Try.prog 61 [(.agg ((.v (.int .i64 a0_0)) :: (.v (.bool a0_1)) :: a0_2)), (.agg ((.v (.int .i64 a1_0)) :: (.v (.bool a1_1)) :: a1_2))] r := by
  refine soundAtO (C := cx61) (oc := .e) mixed hC F61_ok ?_
  rewrite [E61 a0_0 a0_1 a0_2 a1_0 a1_1 a1_2]
  unfold f61_wp at h
  refine ck_mapE h (fun q1 h => ck_mapE h (fun q2 h => ck_mapE h (fun q3 h => ck_mapE h (fun q4 h => ck_mapE h (fun q6 h => ck_mapE h (fun q5 h => ?_))))))
  exact h


def cx62 : CtxW := ⟨⟨[(96, sum96), (47, sum47), (25, sum25), (102, sum102), (83, sum83)], []⟩, 2, []⟩


def F62_b1 : SC := (.seq (.seq (.reg [(o1 62 (.mv (.t 7))), (o1 63 (.fld 0 (.t 2))), (o1 64 (.load .false .false 1 [(.some .i64)] (.t 63))), (o1 65 (.bin .leq (.t 62) (.t 64)))]) (.cond (.t 65) .skip (.exit 3))) (.seq (.blk 4 (.seq (.reg [(o1 68 (.mv (.t 6))), (o1 69 (.mv (.t 7))), (o1 70 (.bin .neq (.t 68) (.t 69)))]) (.cond (.t 70) (.reg [(o1 71 (.mv (.t 6))), (o1 72 (.mv (.t 7))), (o1 73 (.fld 2 (.t 5))), (o1 74 (.ixA 7 7 (.t 73) (.t 71))), (o1 75 (.ixA 7 1 (.t 74) (.t 72))), (.mk .none (.store .false 1 (.t 75) (.c (.int .i64 1099511627776))) .none)]) .skip))) (.reg [(o1 66 (.mv (.t 7))), (o1 67 (.bin .add (.t 66) (.c (.int .i64 1)))), (o1 7 (.mv (.t 67)))])))

def F62_c2 : SC := (.reg [(o1 30 (.mv (.t 6))), (o1 31 (.bin .add (.t 30) (.c (.int .i64 1)))), (o1 6 (.mv (.t 31)))])

def F62_b0 : SC := (.seq (.seq (.reg [(o1 26 (.mv (.t 6))), (o1 27 (.fld 0 (.t 2))), (o1 28 (.load .false .false 1 [(.some .i64)] (.t 27))), (o1 29 (.bin .leq (.t 26) (.t 28)))]) (.cond (.t 29) .skip (.exit 1))) (.seq (.blk 2 (.seq (.reg [(o1 32 (.mv (.t 6))), (o1 33 (.mv (.t 6))), (o1 34 (.mv (.t 6))), (o1 35 (.fld 2 (.t 2))), (o1 36 (.ixA 7 7 (.t 35) (.t 34))), (o1 37 (.ixA 7 1 (.t 36) (.c (.int .i64 0)))), (o1 38 (.load .false .false 1 [(.some .i64)] (.t 37))), (o1 39 (.mv (.t 6))), (o1 40 (.fld 2 (.t 3))), (o1 41 (.ixA 7 7 (.t 40) (.t 39))), (o1 42 (.ixA 7 1 (.t 41) (.c (.int .i64 0)))), (o1 43 (.load .false .false 1 [(.some .i64)] (.t 42))), (o1 44 (.call .false .false (.f 102) [(.t 38), (.t 43)])), (o1 45 (.mv (.t 6))), (o1 46 (.fld 2 (.t 2))), (o1 47 (.ixA 7 7 (.t 46) (.c (.int .i64 0)))), (o1 48 (.ixA 7 1 (.t 47) (.t 45))), (o1 49 (.load .false .false 1 [(.some .i64)] (.t 48))), (o1 50 (.mv (.t 6))), (o1 51 (.fld 2 (.t 3))), (o1 52 (.ixA 7 7 (.t 51) (.c (.int .i64 0)))), (o1 53 (.ixA 7 1 (.t 52) (.t 50))), (o1 54 (.load .false .false 1 [(.some .i64)] (.t 53))), (o1 55 (.call .false .false (.f 102) [(.t 49), (.t 54)])), (o1 56 (.fld 2 (.t 5))), (o1 57 (.ixA 7 7 (.t 56) (.t 32))), (o1 58 (.ixA 7 1 (.t 57) (.c (.int .i64 0)))), (oN (.store .false 1 (.t 58) (.t 44))), (o1 59 (.fld 2 (.t 5))), (o1 60 (.ixA 7 7 (.t 59) (.c (.int .i64 0)))), (o1 61 (.ixA 7 1 (.t 60) (.t 33))), (oN (.store .false 1 (.t 61) (.t 55)))]) (.seq (.reg [(o1 7 (.mv (.c (.int .i64 1))))]) (.blk 3 (.loop [2, 3, 4, 5, 6, 7] [2, 3, 4, 5] [] F62_b1))))) F62_c2))

def F62_c3 : SC := (.seq (.reg [(o1 76 (.load .false .true 51 K51 (.t 5))), (o1 77 (.call .false .false (.f 83) [(.t 76)])), (oN (.store .false 51 (.t 4) (.t 77)))]) .ret)

def F62 : SFn := ⟨78, [(.cell 4 .true 51)], (.seq (.reg [(o1 2 (.box (.t 0))), (o1 3 (.box (.t 1))), (o1 4 (.alloc [(.int .i64 0), (.bool .false), (.int .i64 0), (.int .i64 0), (.int .i64 0), (.int .i64 0), (.int .i64 0), (.int .i64 0), (.int .i64 0), (.int .i64 0), (.int .i64 0), (.int .i64 0), (.int .i64 0), (.int .i64 0), (.int .i64 0), (.int .i64 0), (.int .i64 0), (.int .i64 0), (.int .i64 0), (.int .i64 0), (.int .i64 0), (.int .i64 0), (.int .i64 0), (.int .i64 0), (.int .i64 0), (.int .i64 0), (.int .i64 0), (.int .i64 0), (.int .i64 0), (.int .i64 0), (.int .i64 0), (.int .i64 0), (.int .i64 0), (.int .i64 0), (.int .i64 0), (.int .i64 0), (.int .i64 0), (.int .i64 0), (.int .i64 0), (.int .i64 0), (.int .i64 0), (.int .i64 0), (.int .i64 0), (.int .i64 0), (.int .i64 0), (.int .i64 0), (.int .i64 0), (.int .i64 0), (.int .i64 0), (.int .i64 0), (.int .i64 0)]))]) (.seq (.blk 0 (.seq (.reg [(o1 9 (.load .false .true 51 K51 (.t 2))), (o1 10 (.load .false .true 51 K51 (.t 3))), (o1 11 (.call .false .false (.f 96) [(.t 9), (.t 10)])), (o1 12 (.un .not (.t 11))), (o1 13 (.mv (.t 12))), (oS 14 (.load .false .true 51 K51 (.t 3)) (.some (13, .false))), (oS 15 (.load .false .true 51 K51 (.t 2)) (.some (13, .false))), (oS 16 (.call .false .false (.f 47) [(.t 14), (.t 15)]) (.some (13, .false))), (o1 17 (.pick (.t 13) (.c (.bool .true)) (.t 16))), (o1 8 (.mv (.t 17)))]) (.cond (.t 8) (.seq (.reg [(o1 18 (.load .false .true 51 K51 (.t 2))), (oN (.store .false 51 (.t 4) (.t 18)))]) .ret) (.seq (.reg [(o1 20 (.fld 1 (.t 2))), (o1 21 (.load .false .false 1 [.none] (.t 20))), (o1 19 (.mv (.t 21)))]) (.cond (.t 19) (.seq (.reg [(o1 22 (.load .false .true 51 K51 (.t 3))), (oN (.store .false 51 (.t 4) (.t 22)))]) .ret) .skip))))) (.seq (.reg [(o1 23 (.fld 0 (.t 2))), (o1 24 (.load .false .false 1 [(.some .i64)] (.t 23))), (o1 25 (.call .false .false (.f 25) [(.t 24)])), (o1 5 (.alloc [(.int .i64 0), (.bool .false), (.int .i64 0), (.int .i64 0), (.int .i64 0), (.int .i64 0), (.int .i64 0), (.int .i64 0), (.int .i64 0), (.int .i64 0), (.int .i64 0), (.int .i64 0), (.int .i64 0), (.int .i64 0), (.int .i64 0), (.int .i64 0), (.int .i64 0), (.int .i64 0), (.int .i64 0), (.int .i64 0), (.int .i64 0), (.int .i64 0), (.int .i64 0), (.int .i64 0), (.int .i64 0), (.int .i64 0), (.int .i64 0), (.int .i64 0), (.int .i64 0), (.int .i64 0), (.int .i64 0), (.int .i64 0), (.int .i64 0), (.int .i64 0), (.int .i64 0), (.int .i64 0), (.int .i64 0), (.int .i64 0), (.int .i64 0), (.int .i64 0), (.int .i64 0), (.int .i64 0), (.int .i64 0), (.int .i64 0), (.int .i64 0), (.int .i64 0), (.int .i64 0), (.int .i64 0), (.int .i64 0), (.int .i64 0), (.int .i64 0)])), (oN (.store .false 51 (.t 5) (.t 25)))]) (.seq (.seq (.reg [(o1 6 (.mv (.c (.int .i64 1))))]) (.blk 1 (.loop [2, 3, 4, 5, 6] [2, 3, 4, 5] [] F62_b0))) F62_c3))))⟩

theorem F62_ok : sfn Try.prog hints 62 [([2, 3, 4, 5, 6], ([2, 3, 4, 5], [])), ([2, 3, 4, 5, 6, 7], ([2, 3, 4, 5], []))] = some F62 := by kernel_rfl

abbrev X62_0 (a0_2 : List Cell) (a1_2 : List Cell) (y0_0 : Int) (y0_1 : List Cell) := ((y0_1.set (0 + y0_0.toNat * 7) (Cell.v (Value.int .i64 (keptP (intC (a0_2.getD (0 + y0_0.toNat * 7) .dead)) (intC (a1_2.getD (0 + y0_0.toNat * 7) .dead)))))).set (y0_0.toNat * 1) (Cell.v (Value.int .i64 (keptP (intC (a0_2.getD (y0_0.toNat * 1) .dead)) (intC (a1_2.getD (y0_0.toNat * 1) .dead))))))
abbrev X62_1 (a0_0 : Int) (y0_1 : List Cell) := (ic .i64 (closeZ ((topZ a0_0).1, (topZ a0_0).2.1, List.map intC y0_1)).2.2)

def I62_0_0 (a0_0 : Int) (a0_1 : Bool) (a0_2 : List Cell) (a1_0 : Int) (a1_1 : Bool) (a1_2 : List Cell) (y0_0 : Int) (y0_1 : List Cell) : St := (.mk (.no :: (.no :: ((.box 2 0 0) :: ((.box 3 0 0) :: ((.box 4 0 0) :: ((.box 5 0 0) :: ((.one (vi y0_0)) :: (n10 (n10 (n10 (n10 (n10 (n10 (n10 (.no :: []))))))))))))))) ([] :: ([] :: ([((vi a0_0) :: (vb a0_1) :: (a0_2))] :: ([((vi a1_0) :: (vb a1_1) :: (a1_2))] :: ([((.v (.int .i64 0)) :: (.v (.bool .false)) :: (List.replicate 49 (Cell.v (Value.int .i64 0))))] :: ([((.v (.int .i64 ((topZ a0_0).1))) :: (.v (.bool ((topZ a0_0).2.1))) :: (y0_1))] :: (e10 (e10 (e10 (e10 (e10 (e10 (e10 ([] :: ([] :: []))))))))))))))) (e10 (e10 (e10 (e10 (e10 (e10 (e10 ([] :: ([] :: ([] :: ([] :: ([] :: ([] :: ([] :: ([] :: []))))))))))))))))

def I62_3_0 (a0_0 : Int) (a0_1 : Bool) (a0_2 : List Cell) (a1_0 : Int) (a1_1 : Bool) (a1_2 : List Cell) (y0_0 : Int) (y0_1 : List Cell) (y3_0 : Int) (y3_1 : List Cell) : St := (.mk (.no :: (.no :: ((.box 2 0 0) :: ((.box 3 0 0) :: ((.box 4 0 0) :: ((.box 5 0 0) :: ((.one (vi y0_0)) :: ((.one (vi y3_0)) :: (n10 (n10 (n10 (n10 (n10 (n10 (n10 []))))))))))))))) ([] :: ([] :: ([((vi a0_0) :: (vb a0_1) :: (a0_2))] :: ([((vi a1_0) :: (vb a1_1) :: (a1_2))] :: ([((.v (.int .i64 0)) :: (.v (.bool .false)) :: (List.replicate 49 (Cell.v (Value.int .i64 0))))] :: ([((.v (.int .i64 ((topZ a0_0).1))) :: (.v (.bool ((topZ a0_0).2.1))) :: (y3_1))] :: (e10 (e10 (e10 (e10 (e10 (e10 (e10 ([] :: ([] :: []))))))))))))))) (e10 (e10 (e10 (e10 (e10 (e10 (e10 ([] :: ([] :: ([] :: ([] :: ([] :: ([] :: ([] :: ([] :: []))))))))))))))))

theorem E62_0_0 (a0_0 : Int) (a0_1 : Bool) (a0_2 : List Cell) (a1_0 : Int) (a1_1 : Bool) (a1_2 : List Cell) (y0_0 : Int) (y0_1 : List Cell) (N0 : Bool × St → Prop) (R : Ret → Prop) : wpO cx62 F62_b0 (.two .e .e) (I62_0_0 a0_0 a0_1 a0_2 a1_0 a1_1 a1_2 y0_0 y0_1) (kLp (headW cx62.m [2, 3, 4, 5, 6] [2, 3, 4, 5] []) N0 (kBlk 1 (kSeq cx62 F62_c3 (endO cx62.m F62.rs R)))) = (bif decide (y0_0 ≤ a0_0) then (bif decide (0 ≤ y0_0) && decide (y0_0 < 7) then (bif decide (0 + y0_0.toNat * 7 + 3 ≤ a0_2.length + 2) && okK (some .i64) (a0_2.getD (0 + y0_0.toNat * 7) .dead) then (bif decide (0 ≤ y0_0) && decide (y0_0 < 7) then (bif decide (0 + y0_0.toNat * 7 + 3 ≤ a1_2.length + 2) && okK (some .i64) (a1_2.getD (0 + y0_0.toNat * 7) .dead) then (bif decide (0 ≤ y0_0) && decide (y0_0 < 7) then (bif decide (y0_0.toNat * 1 + 3 ≤ a0_2.length + 2) && okK (some .i64) (a0_2.getD (y0_0.toNat * 1) .dead) then (bif decide (0 ≤ y0_0) && decide (y0_0 < 7) then (bif decide (y0_0.toNat * 1 + 3 ≤ a1_2.length + 2) && okK (some .i64) (a1_2.getD (y0_0.toNat * 1) .dead) then (bif decide (0 ≤ y0_0) && decide (y0_0 < 7) then (bif decide (0 + y0_0.toNat * 7 + 3 ≤ y0_1.length + 2) then (bif decide (0 ≤ y0_0) && decide (y0_0 < 7) then (bif decide (y0_0.toNat * 1 + 3 ≤ (y0_1.set (0 + y0_0.toNat * 7) (Cell.v (Value.int .i64 (keptP (intC (a0_2.getD (0 + y0_0.toNat * 7) .dead)) (intC (a1_2.getD (0 + y0_0.toNat * 7) .dead)))))).length + 2) then (LoopO (bodyX cx62 F62_b1) (headW cx62.m [2, 3, 4, 5, 6, 7] [2, 3, 4, 5] []) (kBlk 3 (kBlk 2 (kSeq cx62 F62_c2 (kLp (headW cx62.m [2, 3, 4, 5, 6] [2, 3, 4, 5] []) N0 (kBlk 1 (kSeq cx62 F62_c3 (endO cx62.m F62.rs R))))))) (a0_2.all plainC && true && (a1_2.all plainC && true && ((X62_0 a0_2 a1_2 y0_0 y0_1).all plainC && true && true)), (I62_3_0 a0_0 a0_1 a0_2 a1_0 a1_1 a1_2 y0_0 y0_1 1 (X62_0 a0_2 a1_2 y0_0 y0_1)))) else False) else False) else False) else False) else False) else False) else False) else False) else False) else False) else False) else False) else (bif y0_1.length + 2 == 51 then (bif y0_1.all plainC && true && (y0_1.all (isInt .i64) && y0_1.length == 49) && (X62_1 a0_0 y0_1).all (okC 0) && true && true && true && true then (bif (X62_1 a0_0 y0_1).length + 2 == 51 && true && true then (bif (X62_1 a0_0 y0_1).length + 2 == 51 && true then (bif (X62_1 a0_0 y0_1).all plainC then (R (Ret.mk (.agg ((.v (.int .i64 ((closeZ ((topZ a0_0).1, (topZ a0_0).2.1, List.map intC y0_1)).1))) :: (.v (.bool ((closeZ ((topZ a0_0).1, (topZ a0_0).2.1, List.map intC y0_1)).2.1))) :: (X62_1 a0_0 y0_1))) [])) else False) else False) else False) else False) else False)) := by kernel_rfl

theorem E62_3_0 (a0_0 : Int) (a0_1 : Bool) (a0_2 : List Cell) (a1_0 : Int) (a1_1 : Bool) (a1_2 : List Cell) (y0_0 : Int) (y0_1 : List Cell) (y3_0 : Int) (y3_1 : List Cell) (N0 : Bool × St → Prop) (N3 : Bool × St → Prop) (R : Ret → Prop) : wpO cx62 F62_b1 (.two (.two .e .e) .e) (I62_3_0 a0_0 a0_1 a0_2 a1_0 a1_1 a1_2 y0_0 y0_1 y3_0 y3_1) (kLp (headW cx62.m [2, 3, 4, 5, 6, 7] [2, 3, 4, 5] []) N3 (kBlk 3 (kBlk 2 (kSeq cx62 F62_c2 (kLp (headW cx62.m [2, 3, 4, 5, 6] [2, 3, 4, 5] []) N0 (kBlk 1 (kSeq cx62 F62_c3 (endO cx62.m F62.rs R)))))))) = (bif decide (y3_0 ≤ a0_0) then (bif y0_0 != y3_0 then (bif decide (0 ≤ y0_0) && decide (y0_0 < 7) then (bif decide (0 ≤ y3_0) && decide (y3_0 < 7) then (bif decide (y3_0.toNat * 1 + y0_0.toNat * 7 + 3 ≤ y3_1.length + 2) then (N3 (a0_2.all plainC && true && (a1_2.all plainC && true && ((y3_1.set (y3_0.toNat * 1 + y0_0.toNat * 7) (Cell.v (Value.int .i64 1099511627776))).all plainC && true && true)), (I62_3_0 a0_0 a0_1 a0_2 a1_0 a1_1 a1_2 y0_0 y0_1 (IntKind.i64.wrap (y3_0 + 1)) (y3_1.set (y3_0.toNat * 1 + y0_0.toNat * 7) (Cell.v (Value.int .i64 1099511627776)))))) else False) else False) else False) else (N3 (a0_2.all plainC && true && (a1_2.all plainC && true && (y3_1.all plainC && true && true)), (I62_3_0 a0_0 a0_1 a0_2 a1_0 a1_1 a1_2 y0_0 y0_1 (IntKind.i64.wrap (y3_0 + 1)) (y3_1))))) else (N0 (a0_2.all plainC && true && (a1_2.all plainC && true && (y3_1.all plainC && true && true)), (I62_0_0 a0_0 a0_1 a0_2 a1_0 a1_1 a1_2 (IntKind.i64.wrap (y0_0 + 1)) (y3_1))))) := by kernel_rfl

theorem E62 (a0_0 : Int) (a0_1 : Bool) (a0_2 : List Cell) (a1_0 : Int) (a1_1 : Bool) (a1_2 : List Cell) (R : Ret → Prop) : wpFO cx62 F62 (.two (.n 2 .e) (.n 1 (.two .e (.two .e .e)))) [(.agg ((.v (.int .i64 a0_0)) :: (.v (.bool a0_1)) :: a0_2)), (.agg ((.v (.int .i64 a1_0)) :: (.v (.bool a1_1)) :: a1_2))] R = (bif a0_2.length + 2 == 51 then (bif a1_2.length + 2 == 51 then (bif a0_2.all plainC && (a1_2.all plainC && true) && (a0_2.all (isInt .i64) && a0_2.length == 49 && (a1_2.all (isInt .i64) && a1_2.length == 49)) && true && true && true && true && true then (bif !alikeZ (a0_0, a0_1, List.map intC a0_2) (a1_0, a1_1, List.map intC a1_2) then (bif a0_2.length + 2 == 51 then (bif a0_2.length + 2 == 51 && true && true then (bif a0_2.length + 2 == 51 && true then (bif a0_2.all plainC then (R (Ret.mk (.agg ((.v (.int .i64 (a0_0))) :: (.v (.bool (a0_1))) :: (a0_2))) [])) else False) else False) else False) else False) else (bif a1_2.length + 2 == 51 then (bif a0_2.length + 2 == 51 then (bif a1_2.all plainC && (a0_2.all plainC && true) && (a1_2.all (isInt .i64) && a1_2.length == 49 && (a0_2.all (isInt .i64) && a0_2.length == 49)) && true && true && true && true && true then (bif withinZ (a1_0, a1_1, List.map intC a1_2) (a0_0, a0_1, List.map intC a0_2) then (bif a0_2.length + 2 == 51 then (bif a0_2.length + 2 == 51 && true && true then (bif a0_2.length + 2 == 51 && true then (bif a0_2.all plainC then (R (Ret.mk (.agg ((.v (.int .i64 (a0_0))) :: (.v (.bool (a0_1))) :: (a0_2))) [])) else False) else False) else False) else False) else (bif a0_1 then (bif a1_2.length + 2 == 51 then (bif a1_2.length + 2 == 51 && true && true then (bif a1_2.length + 2 == 51 && true then (bif a1_2.all plainC then (R (Ret.mk (.agg ((.v (.int .i64 (a1_0))) :: (.v (.bool (a1_1))) :: (a1_2))) [])) else False) else False) else False) else False) else (bif (ic .i64 (topZ a0_0).2.2).all (okC 0) && true && true && true && true then (bif (ic .i64 (topZ a0_0).2.2).length + 2 == 51 && true && true then (LoopO (bodyX cx62 F62_b0) (headW cx62.m [2, 3, 4, 5, 6] [2, 3, 4, 5] []) (kBlk 1 (kSeq cx62 F62_c3 (endO cx62.m F62.rs R))) (a0_2.all plainC && true && (a1_2.all plainC && true && ((ic .i64 (topZ a0_0).2.2).all plainC && true && true)), (I62_0_0 a0_0 a0_1 a0_2 a1_0 a1_1 a1_2 1 (ic .i64 (topZ a0_0).2.2)))) else False) else False))) else False) else False) else False)) else False) else False) else False) := by kernel_rfl

def f62_wp (a0_0 : Int) (a0_1 : Bool) (a0_2 : List Cell) (a1_0 : Int) (a1_1 : Bool) (a1_2 : List Cell) (R : Ret → Prop) : Prop := bif a0_2.length + 2 == 51 then (bif a1_2.length + 2 == 51 then (bif a0_2.all plainC && (a1_2.all plainC && true) && (a0_2.all (isInt .i64) && a0_2.length == 49 && (a1_2.all (isInt .i64) && a1_2.length == 49)) && true && true && true && true && true then (bif !alikeZ (a0_0, a0_1, List.map intC a0_2) (a1_0, a1_1, List.map intC a1_2) then (bif a0_2.length + 2 == 51 && true && true then (bif a0_2.length + 2 == 51 && true then (bif a0_2.all plainC then (R (Ret.mk (.agg ((.v (.int .i64 (a0_0))) :: (.v (.bool (a0_1))) :: (a0_2))) [])) else False) else False) else False) else (bif a1_2.all plainC && (a0_2.all plainC && true) && (a1_2.all (isInt .i64) && a1_2.length == 49 && (a0_2.all (isInt .i64) && a0_2.length == 49)) && true && true && true && true && true then (bif withinZ (a1_0, a1_1, List.map intC a1_2) (a0_0, a0_1, List.map intC a0_2) then (bif a0_2.length + 2 == 51 && true && true then (bif a0_2.length + 2 == 51 && true then (bif a0_2.all plainC then (R (Ret.mk (.agg ((.v (.int .i64 (a0_0))) :: (.v (.bool (a0_1))) :: (a0_2))) [])) else False) else False) else False) else (bif a0_1 then (bif a1_2.length + 2 == 51 && true && true then (bif a1_2.length + 2 == 51 && true then (bif a1_2.all plainC then (R (Ret.mk (.agg ((.v (.int .i64 (a1_0))) :: (.v (.bool (a1_1))) :: (a1_2))) [])) else False) else False) else False) else (bif (ic .i64 (topZ a0_0).2.2).all (okC 0) && true && true && true && true then (bif (ic .i64 (topZ a0_0).2.2).length + 2 == 51 && true && true then ((a0_2.all plainC && true && (a1_2.all plainC && true && ((ic .i64 (topZ a0_0).2.2).all plainC && true && true))) = true ∧ LoopP (fun (z0 : (Int × (List Cell))) (k0 : (Int × (List Cell)) → Prop) => (fun (z : Int × (List Cell)) => (fun (y0_0 : Int) (y0_1 : List Cell) => bif decide (y0_0 ≤ a0_0) then (bif decide (0 ≤ y0_0) && decide (y0_0 < 7) then (bif decide (0 + y0_0.toNat * 7 + 3 ≤ a0_2.length + 2) && okK (some .i64) (a0_2.getD (0 + y0_0.toNat * 7) .dead) then (bif decide (0 + y0_0.toNat * 7 + 3 ≤ a1_2.length + 2) && okK (some .i64) (a1_2.getD (0 + y0_0.toNat * 7) .dead) then (bif decide (y0_0.toNat * 1 + 3 ≤ a0_2.length + 2) && okK (some .i64) (a0_2.getD (y0_0.toNat * 1) .dead) then (bif decide (y0_0.toNat * 1 + 3 ≤ a1_2.length + 2) && okK (some .i64) (a1_2.getD (y0_0.toNat * 1) .dead) then (bif decide (0 + y0_0.toNat * 7 + 3 ≤ y0_1.length + 2) then (bif decide (y0_0.toNat * 1 + 3 ≤ (y0_1.set (0 + y0_0.toNat * 7) (Cell.v (Value.int .i64 (keptP (intC (a0_2.getD (0 + y0_0.toNat * 7) .dead)) (intC (a1_2.getD (0 + y0_0.toNat * 7) .dead)))))).length + 2) then ((a0_2.all plainC && true && (a1_2.all plainC && true && ((X62_0 a0_2 a1_2 y0_0 y0_1).all plainC && true && true))) = true ∧ LoopP (fun (z3 : (Int × (List Cell))) (k3 : (Int × (List Cell)) → Prop) => (fun (z : Int × (List Cell)) => (fun (y3_0 : Int) (y3_1 : List Cell) => bif decide (y3_0 ≤ a0_0) then (bif y0_0 != y3_0 then (bif decide (0 ≤ y3_0) && decide (y3_0 < 7) then (bif decide (y3_0.toNat * 1 + y0_0.toNat * 7 + 3 ≤ y3_1.length + 2) then ((a0_2.all plainC && true && (a1_2.all plainC && true && ((y3_1.set (y3_0.toNat * 1 + y0_0.toNat * 7) (Cell.v (Value.int .i64 1099511627776))).all plainC && true && true))) = true ∧ k3 ((IntKind.i64.wrap (y3_0 + 1)), (y3_1.set (y3_0.toNat * 1 + y0_0.toNat * 7) (Cell.v (Value.int .i64 1099511627776))))) else False) else False) else ((a0_2.all plainC && true && (a1_2.all plainC && true && (y3_1.all plainC && true && true))) = true ∧ k3 ((IntKind.i64.wrap (y3_0 + 1)), (y3_1)))) else ((a0_2.all plainC && true && (a1_2.all plainC && true && (y3_1.all plainC && true && true))) = true ∧ k0 ((IntKind.i64.wrap (y0_0 + 1)), (y3_1)))) z.1 z.2) z3) (1, (X62_0 a0_2 a1_2 y0_0 y0_1))) else False) else False) else False) else False) else False) else False) else False) else (bif y0_1.length + 2 == 51 then (bif y0_1.all plainC && true && (y0_1.all (isInt .i64) && y0_1.length == 49) && (X62_1 a0_0 y0_1).all (okC 0) && true && true && true && true then (bif (X62_1 a0_0 y0_1).length + 2 == 51 && true && true then (bif (X62_1 a0_0 y0_1).length + 2 == 51 && true then (bif (X62_1 a0_0 y0_1).all plainC then (R (Ret.mk (.agg ((.v (.int .i64 ((closeZ ((topZ a0_0).1, (topZ a0_0).2.1, List.map intC y0_1)).1))) :: (.v (.bool ((closeZ ((topZ a0_0).1, (topZ a0_0).2.1, List.map intC y0_1)).2.1))) :: (X62_1 a0_0 y0_1))) [])) else False) else False) else False) else False) else False)) z.1 z.2) z0) (1, (ic .i64 (topZ a0_0).2.2))) else False) else False))) else False)) else False) else False) else False

set_option maxRecDepth 100000 in
theorem f62_sound (a0_0 : Int) (a0_1 : Bool) (a0_2 : List Cell) (a1_0 : Int) (a1_1 : Bool) (a1_2 : List Cell) (hC : CtxOk Try.prog cx62.q.ctx) {r : Ret} (h : f62_wp a0_0 a0_1 a0_2 a1_0 a1_1 a1_2 (fun r' => r' = r)) : SoundAt Try.prog 62 [(.agg ((.v (.int .i64 a0_0)) :: (.v (.bool a0_1)) :: a0_2)), (.agg ((.v (.int .i64 a1_0)) :: (.v (.bool a1_1)) :: a1_2))] r := by
  refine soundAtO (C := cx62) (oc := (.two (.n 2 .e) (.n 1 (.two .e (.two .e .e))))) mixed hC F62_ok ?_
  rewrite [E62 a0_0 a0_1 a0_2 a1_0 a1_1 a1_2]
  unfold f62_wp at h
  refine ck_mapE h (fun q1 h => ck_mapE h (fun q2 h => ck_mapE h (fun q3 h => ?_)))
  refine cond_mapE h (fun q4 h => ?_) (fun q4 h => ?_)
  · skip
    refine ck_i q1 (ck_mapE h (fun q5 h => ck_mapE h (fun q7 h => ck_mapE h (fun q6 h => ?_))))
    exact h
  · skip
    refine ck_i q2 (ck_i q1 (ck_mapE h (fun q8 h => ?_)))
    refine cond_mapE h (fun q9 h => ?_) (fun q9 h => ?_)
    · skip
      refine ck_i q1 (ck_mapE h (fun q10 h => ck_mapE h (fun q12 h => ck_mapE h (fun q11 h => ?_))))
      exact h
    · skip
      refine cond_mapE h (fun q13 h => ?_) (fun q13 h => ?_)
      · skip
        refine ck_i q2 (ck_mapE h (fun q14 h => ck_mapE h (fun q16 h => ck_mapE h (fun q15 h => ?_))))
        exact h
      · skip
        refine ck_mapE h (fun q17 h => ck_mapE h (fun q18 h => ?_))
        obtain ⟨q91, h⟩ := h
        refine loop_of (I := (fun (z : Int × (List Cell)) => (I62_0_0 a0_0 a0_1 a0_2 a1_0 a1_1 a1_2 z.1 z.2))) (fun z k0 h => ?_) h q91 rfl
        obtain ⟨y0_0, y0_1⟩ := z
        try dsimp only [sumE_l, sumE_r] at h
        refine bodyX_i (ob := (.two .e .e)) ?_
        rewrite [E62_0_0 a0_0 a0_1 a0_2 a1_0 a1_1 a1_2 y0_0 y0_1]
        refine cond_mapE h (fun q63 h => ?_) (fun q63 h => ?_)
        · skip
          refine ck_mapE h (fun q64 h => ck_mapE h (fun q65 h => ck_i q64 (ck_mapE h (fun q66 h => ck_i q64 (ck_mapE h (fun q67 h => ck_i q64 (ck_mapE h (fun q68 h => ck_i q64 (ck_mapE h (fun q69 h => ck_i q64 (ck_mapE h (fun q70 h => ?_))))))))))))
          obtain ⟨q85, h⟩ := h
          refine loop_of (I := (fun (z : Int × (List Cell)) => (I62_3_0 a0_0 a0_1 a0_2 a1_0 a1_1 a1_2 y0_0 y0_1 z.1 z.2))) (fun z k3 h => ?_) h q85 rfl
          obtain ⟨y3_0, y3_1⟩ := z
          try dsimp only [sumE_l, sumE_r] at h
          refine bodyX_i (ob := (.two (.two .e .e) .e)) ?_
          rewrite [E62_3_0 a0_0 a0_1 a0_2 a1_0 a1_1 a1_2 y0_0 y0_1 y3_0 y3_1]
          refine cond_mapE h (fun q78 h => ?_) (fun q78 h => ?_)
          · skip
            refine cond_mapE h (fun q79 h => ?_) (fun q79 h => ?_)
            · skip
              refine ck_i q64 (ck_mapE h (fun q80 h => ck_mapE h (fun q81 h => ?_)))
              obtain ⟨q82, h⟩ := h
              exact again_i (y := ((IntKind.i64.wrap (y3_0 + 1)), (y3_1.set (y3_0.toNat * 1 + y0_0.toNat * 7) (Cell.v (Value.int .i64 1099511627776))))) q82 h
            · skip
              obtain ⟨q83, h⟩ := h
              exact again_i (y := ((IntKind.i64.wrap (y3_0 + 1)), (y3_1))) q83 h
          · skip
            obtain ⟨q84, h⟩ := h
            exact again_i (y := ((IntKind.i64.wrap (y0_0 + 1)), (y3_1))) q84 h
        · skip
          refine ck_mapE h (fun q86 h => ck_mapE h (fun q87 h => ck_mapE h (fun q88 h => ck_mapE h (fun q90 h => ck_mapE h (fun q89 h => ?_)))))
          exact h


def cx46 : CtxW := ⟨⟨[(26, sum26)], []⟩, 2, []⟩


def F46 : SFn := ⟨30, [(.cell 4 .true 51)], (.seq (.reg [(o1 2 (.box (.t 0))), (o1 3 (.box (.t 1))), (o1 4 (.alloc [(.int .i64 0), (.bool .false), (.int .i64 0), (.int .i64 0), (.int .i64 0), (.int .i64 0), (.int .i64 0), (.int .i64 0), (.int .i64 0), (.int .i64 0), (.int .i64 0), (.int .i64 0), (.int .i64 0), (.int .i64 0), (.int .i64 0), (.int .i64 0), (.int .i64 0), (.int .i64 0), (.int .i64 0), (.int .i64 0), (.int .i64 0), (.int .i64 0), (.int .i64 0), (.int .i64 0), (.int .i64 0), (.int .i64 0), (.int .i64 0), (.int .i64 0), (.int .i64 0), (.int .i64 0), (.int .i64 0), (.int .i64 0), (.int .i64 0), (.int .i64 0), (.int .i64 0), (.int .i64 0), (.int .i64 0), (.int .i64 0), (.int .i64 0), (.int .i64 0), (.int .i64 0), (.int .i64 0), (.int .i64 0), (.int .i64 0), (.int .i64 0), (.int .i64 0), (.int .i64 0), (.int .i64 0), (.int .i64 0), (.int .i64 0), (.int .i64 0)]))]) (.seq (.reg [(o1 7 (.fld 1 (.t 3))), (o1 8 (.load .false .false 1 [(.some .i64)] (.t 7))), (o1 9 (.conv .u64 (.t 8))), (o1 10 (.bin .rem (.t 9) (.c (.int .u64 4)))), (o1 11 (.conv .i64 (.t 10))), (o1 12 (.fld 2 (.t 3))), (o1 13 (.load .false .false 1 [(.some .i64)] (.t 12))), (o1 14 (.conv .u64 (.t 13))), (o1 15 (.bin .rem (.t 14) (.c (.int .u64 5)))), (o1 16 (.conv .i64 (.t 15))), (o1 17 (.bin .sub (.t 16) (.c (.int .i64 1)))), (o1 5 (.mv (.t 11))), (o1 6 (.mv (.t 17)))]) (.seq (.seq (.reg [(o1 18 (.mv (.t 5))), (o1 19 (.mv (.t 6))), (o1 20 (.bin .eql (.t 18) (.t 19)))]) (.cond (.t 20) (.seq (.reg [(o1 21 (.load .false .true 51 K51 (.t 2))), (oN (.store .false 51 (.t 4) (.t 21)))]) .ret) .skip)) (.seq (.reg [(o1 22 (.load .false .true 51 K51 (.t 2))), (o1 23 (.mv (.t 5))), (o1 24 (.mv (.t 6))), (o1 25 (.fld 3 (.t 3))), (o1 26 (.load .false .false 1 [(.some .i64)] (.t 25))), (o1 27 (.conv .i32 (.t 26))), (o1 28 (.conv .i64 (.t 27))), (o1 29 (.call .false .false (.f 26) [(.t 22), (.t 23), (.t 24), (.t 28)])), (oN (.store .false 51 (.t 4) (.t 29)))]) .ret))))⟩

theorem F46_ok : sfn Try.prog hints 46 [] = some F46 := by kernel_rfl

abbrev X46_0 (a0_0 : Int) (a0_1 : Bool) (a0_2 : List Cell) (a1_1 : Int) (a1_2 : Int) (a1_3 : Int) := (boundZ (a0_0, a0_1, List.map intC a0_2) (IntKind.i64.wrap ((IntKind.u64.wrap a1_1).tmod 4)) (IntKind.i64.wrap (IntKind.i64.wrap ((IntKind.u64.wrap a1_2).tmod 5) - 1)) (IntKind.i64.wrap (IntKind.i32.wrap a1_3)))

theorem E46 (a0_0 : Int) (a0_1 : Bool) (a0_2 : List Cell) (a1_0 : Int) (a1_1 : Int) (a1_2 : Int) (a1_3 : Int) (R : Ret → Prop) : wpFO cx46 F46 (.two .e .e) [(.agg ((.v (.int .i64 a0_0)) :: (.v (.bool a0_1)) :: a0_2)), (.agg [(.v (.int .i64 a1_0)), (.v (.int .i64 a1_1)), (.v (.int .i64 a1_2)), (.v (.int .i64 a1_3))])] R = (bif IntKind.i64.wrap ((IntKind.u64.wrap a1_1).tmod 4) == IntKind.i64.wrap (IntKind.i64.wrap ((IntKind.u64.wrap a1_2).tmod 5) - 1) then (bif a0_2.length + 2 == 51 then (bif a0_2.length + 2 == 51 && true && true then (bif a0_2.length + 2 == 51 && true then (bif a0_2.all plainC then (R (Ret.mk (.agg ((.v (.int .i64 (a0_0))) :: (.v (.bool (a0_1))) :: (a0_2))) [])) else False) else False) else False) else False) else (bif a0_2.length + 2 == 51 then (bif a0_2.all plainC && true && (a0_2.all (isInt .i64) && a0_2.length == 49 && true && true && true) && (ic .i64 (X46_0 a0_0 a0_1 a0_2 a1_1 a1_2 a1_3).2.2).all (okC 0) && true && true && true && true then (bif (ic .i64 (X46_0 a0_0 a0_1 a0_2 a1_1 a1_2 a1_3).2.2).length + 2 == 51 && true && true then (bif (ic .i64 (X46_0 a0_0 a0_1 a0_2 a1_1 a1_2 a1_3).2.2).length + 2 == 51 && true then (bif (ic .i64 (X46_0 a0_0 a0_1 a0_2 a1_1 a1_2 a1_3).2.2).all plainC then (R (Ret.mk (.agg ((.v (.int .i64 ((X46_0 a0_0 a0_1 a0_2 a1_1 a1_2 a1_3).1))) :: (.v (.bool ((X46_0 a0_0 a0_1 a0_2 a1_1 a1_2 a1_3).2.1))) :: (ic .i64 (X46_0 a0_0 a0_1 a0_2 a1_1 a1_2 a1_3).2.2))) [])) else False) else False) else False) else False) else False)) := by kernel_rfl

def f46_wp (a0_0 : Int) (a0_1 : Bool) (a0_2 : List Cell) (a1_0 : Int) (a1_1 : Int) (a1_2 : Int) (a1_3 : Int) (R : Ret → Prop) : Prop := bif IntKind.i64.wrap ((IntKind.u64.wrap a1_1).tmod 4) == IntKind.i64.wrap (IntKind.i64.wrap ((IntKind.u64.wrap a1_2).tmod 5) - 1) then (bif a0_2.length + 2 == 51 then (bif a0_2.length + 2 == 51 && true && true then (bif a0_2.length + 2 == 51 && true then (bif a0_2.all plainC then (R (Ret.mk (.agg ((.v (.int .i64 (a0_0))) :: (.v (.bool (a0_1))) :: (a0_2))) [])) else False) else False) else False) else False) else (bif a0_2.length + 2 == 51 then (bif a0_2.all plainC && true && (a0_2.all (isInt .i64) && a0_2.length == 49 && true && true && true) && (ic .i64 (X46_0 a0_0 a0_1 a0_2 a1_1 a1_2 a1_3).2.2).all (okC 0) && true && true && true && true then (bif (ic .i64 (X46_0 a0_0 a0_1 a0_2 a1_1 a1_2 a1_3).2.2).length + 2 == 51 && true && true then (bif (ic .i64 (X46_0 a0_0 a0_1 a0_2 a1_1 a1_2 a1_3).2.2).length + 2 == 51 && true then (bif (ic .i64 (X46_0 a0_0 a0_1 a0_2 a1_1 a1_2 a1_3).2.2).all plainC then (R (Ret.mk (.agg ((.v (.int .i64 ((X46_0 a0_0 a0_1 a0_2 a1_1 a1_2 a1_3).1))) :: (.v (.bool ((X46_0 a0_0 a0_1 a0_2 a1_1 a1_2 a1_3).2.1))) :: (ic .i64 (X46_0 a0_0 a0_1 a0_2 a1_1 a1_2 a1_3).2.2))) [])) else False) else False) else False) else False) else False)

set_option maxRecDepth 100000 in
theorem f46_sound (a0_0 : Int) (a0_1 : Bool) (a0_2 : List Cell) (a1_0 : Int) (a1_1 : Int) (a1_2 : Int) (a1_3 : Int) (hC : CtxOk Try.prog cx46.q.ctx) {r : Ret} (h : f46_wp a0_0 a0_1 a0_2 a1_0 a1_1 a1_2 a1_3 (fun r' => r' = r)) : SoundAt Try.prog 46 [(.agg ((.v (.int .i64 a0_0)) :: (.v (.bool a0_1)) :: a0_2)), (.agg [(.v (.int .i64 a1_0)), (.v (.int .i64 a1_1)), (.v (.int .i64 a1_2)), (.v (.int .i64 a1_3))])] r := by
  refine soundAtO (C := cx46) (oc := (.two .e .e)) mixed hC F46_ok ?_
  rewrite [E46 a0_0 a0_1 a0_2 a1_0 a1_1 a1_2 a1_3]
  unfold f46_wp at h
  refine cond_mapE h (fun q1 h => ?_) (fun q1 h => ?_)
  · skip
    refine ck_mapE h (fun q2 h => ck_mapE h (fun q3 h => ck_mapE h (fun q5 h => ck_mapE h (fun q4 h => ?_))))
    exact h
  · skip
    refine ck_mapE h (fun q6 h => ck_mapE h (fun q7 h => ck_mapE h (fun q8 h => ck_mapE h (fun q10 h => ck_mapE h (fun q9 h => ?_)))))
    exact h


end Go.Proofs.Ytgmciihlmgeecaa.Fn
