import Derived.Test.YtgmciihlmgeecaaWZA

/- Functions of two zones, walked. No conditions beyond those named. -/

namespace Go.Proofs.Ytgmciihlmgeecaa.Fn

open Go Go.RowKit Go.Proofs Go.Proofs.Ytgmciihlmgeecaa.Mt Go.Proofs.Ytgmciihlmgeecaa.Zm

set_option linter.unusedVariables false

set_option linter.unusedSimpArgs false

def cx96 : CtxW := ⟨⟨[(91, sum91)], []⟩, 2, []⟩


def F96 : SFn := ⟨15, [(.tmp 4)], (.seq (.reg [(o1 2 (.box (.t 0))), (o1 3 (.box (.t 1))), (o1 4 (.mv (.c (.bool .false))))]) (.seq (.reg [(o1 5 (.fld 0 (.t 2))), (o1 6 (.load .false .false 1 [(.some .i64)] (.t 5))), (o1 7 (.fld 0 (.t 3))), (o1 8 (.load .false .false 1 [(.some .i64)] (.t 7))), (o1 9 (.bin .eql (.t 6) (.t 8))), (o1 10 (.mv (.t 9))), (oS 11 (.fld 0 (.t 2)) (.some (10, .true))), (oS 12 (.load .false .false 1 [(.some .i64)] (.t 11)) (.some (10, .true))), (oS 13 (.call .false .false (.f 91) [(.t 12)]) (.some (10, .true))), (o1 14 (.pick (.t 10) (.t 13) (.c (.bool .false)))), (o1 4 (.mv (.t 14)))]) .ret))⟩

theorem F96_ok : sfn Try.prog hints 96 [] = some F96 := by kernel_rfl

theorem E96 (a0_0 : Int) (a0_1 : Bool) (a0_2 : List Cell) (a1_0 : Int) (a1_1 : Bool) (a1_2 : List Cell) (R : Ret → Prop) : wpFO cx96 F96 (.two (.n 1 .e) (.n 1 .e)) [(.agg ((.v (.int .i64 a0_0)) :: (.v (.bool a0_1)) :: a0_2)), (.agg ((.v (.int .i64 a1_0)) :: (.v (.bool a1_1)) :: a1_2))] R = (bif a0_0 == a1_0 then (R (Ret.mk (.one (.v (.bool (okN a0_0)))) [])) else (R (Ret.mk (.one (.v (.bool .false))) []))) := by kernel_rfl

def f96_wp (a0_0 : Int) (a0_1 : Bool) (a0_2 : List Cell) (a1_0 : Int) (a1_1 : Bool) (a1_2 : List Cell) (R : Ret → Prop) : Prop := bif a0_0 == a1_0 then (R (Ret.mk (.one (.v (.bool (okN a0_0)))) [])) else (R (Ret.mk (.one (.v (.bool .false))) []))

set_option maxRecDepth 100000 in
theorem f96_sound (a0_0 : Int) (a0_1 : Bool) (a0_2 : List Cell) (a1_0 : Int) (a1_1 : Bool) (a1_2 : List Cell) (hC : CtxOk Try.prog cx96.q.ctx) {r : Ret} (h : f96_wp a0_0 a0_1 a0_2 a1_0 a1_1 a1_2 (fun r' => r' = r)) : SoundAt Try.prog 96 [(.agg ((.v (.int .i64 a0_0)) :: (.v (.bool a0_1)) :: a0_2)), (.agg ((.v (.int .i64 a1_0)) :: (.v (.bool a1_1)) :: a1_2))] r := by
  refine soundAtO (C := cx96) (oc := (.two (.n 1 .e) (.n 1 .e))) mixed hC F96_ok ?_
  rewrite [E96 a0_0 a0_1 a0_2 a1_0 a1_1 a1_2]
  unfold f96_wp at h
  refine cond_mapE h (fun q1 h => ?_) (fun q1 h => ?_)
  · skip
    exact h
  · skip
    exact h


def cx101 : CtxW := ⟨⟨[], []⟩, 16, []⟩


def F101 : SFn := ⟨8, [(.tmp 4)], (.seq (.reg [(o1 4 (.mv (.c (.int .i64 0))))]) (.seq (.reg [(o1 5 (.mv (.t 0))), (o1 6 (.mv (.t 1))), (o1 7 (.mm .true [(.t 5), (.t 6)])), (o1 4 (.mv (.t 7)))]) .ret))⟩

theorem F101_ok : sfn Try.prog hints 101 [] = some F101 := by kernel_rfl

theorem E101 (a0 : Int) (a1 : Int) (R : Ret → Prop) : wpFO cx101 F101 .e [(.one (.v (.int .i64 a0))), (.one (.v (.int .i64 a1)))] R = (R (Ret.mk (.one (.v (.int .i64 (if a1 > a0 then a1 else a0)))) [])) := by kernel_rfl

def f101_wp (a0 : Int) (a1 : Int) (R : Ret → Prop) : Prop := R (Ret.mk (.one (.v (.int .i64 (if a1 > a0 then a1 else a0)))) [])

set_option maxRecDepth 100000 in
theorem f101_sound (a0 : Int) (a1 : Int) (hC : CtxOk Try.prog cx101.q.ctx) {r : Ret} (h : f101_wp a0 a1 (fun r' => r' = r)) : SoundAt Try.prog 101 [(.one (.v (.int .i64 a0))), (.one (.v (.int .i64 a1)))] r := by
  refine soundAtO (C := cx101) (oc := .e) mixed hC F101_ok ?_
  rewrite [E101 a0 a1]
  unfold f101_wp at h
  exact h


def cx100 : CtxW := ⟨⟨[(96, sum96), (101, sum101)], []⟩, 2, []⟩


def F100_b1 : SC := (.seq (.reg [(o1 33 (.bin .lss (.t 32) (.c (.int .i64 7))))]) (.seq (.cond (.t 33) .skip (.exit 3)) (.seq (.blk 4 (.seq (.reg [(o1 34 (.mv (.t 32))), (o1 35 (.ixV .false 7 1 [(.some .i64)] (.t 31) (.t 32))), (o1 9 (.mv (.t 34))), (o1 10 (.mv (.t 35)))]) (.reg [(o1 36 (.mv (.t 7))), (o1 37 (.mv (.t 9))), (o1 38 (.mv (.t 2))), (o1 39 (.mv (.t 10))), (o1 40 (.mv (.t 7))), (o1 41 (.mv (.t 9))), (o1 42 (.fld 2 (.t 4))), (o1 43 (.ixA 7 7 (.t 42) (.t 40))), (o1 44 (.ixA 7 1 (.t 43) (.t 41))), (o1 45 (.load .false .false 1 [(.some .i64)] (.t 44))), (o1 46 (.call .false .false (.t 38) [(.t 39), (.t 45)])), (o1 47 (.fld 2 (.t 3))), (o1 48 (.ixA 7 7 (.t 47) (.t 36))), (o1 49 (.ixA 7 1 (.t 48) (.t 37))), (oN (.store .false 1 (.t 49) (.t 46)))]))) (.reg [(o1 50 (.bin .add (.t 32) (.c (.int .i64 1)))), (o1 32 (.mv (.t 50)))]))))

def F100_c2 : SC := (.reg [(o1 51 (.bin .add (.t 27) (.c (.int .i64 1)))), (o1 27 (.mv (.t 51)))])

def F100_b0 : SC := (.seq (.reg [(o1 28 (.bin .lss (.t 27) (.c (.int .i64 7))))]) (.seq (.cond (.t 28) .skip (.exit 1)) (.seq (.blk 2 (.seq (.reg [(o1 29 (.mv (.t 27))), (o1 30 (.ixV .true 7 7 [(.some .i64), (.some .i64), (.some .i64), (.some .i64), (.some .i64), (.some .i64), (.some .i64)] (.t 26) (.t 27))), (o1 8 (.alloc [(.int .i64 0), (.int .i64 0), (.int .i64 0), (.int .i64 0), (.int .i64 0), (.int .i64 0), (.int .i64 0)])), (o1 7 (.mv (.t 29))), (oN (.store .false 7 (.t 8) (.t 30)))]) (.seq (.reg [(o1 31 (.load .false .true 7 [(.some .i64), (.some .i64), (.some .i64), (.some .i64), (.some .i64), (.some .i64), (.some .i64)] (.t 8))), (o1 32 (.mv (.c (.int .i64 0))))]) (.blk 3 (.loop [2, 3, 4, 6, 7, 26, 27, 31, 32] [3, 4, 6] [] F100_b1))))) F100_c2)))

def F100_c3 : SC := (.seq (.reg [(o1 52 (.load .false .true 51 K51 (.t 3))), (oN (.store .false 51 (.t 6) (.t 52)))]) .ret)

def F100 : SFn := ⟨53, [(.cell 6 .true 51)], (.seq (.reg [(o1 3 (.box (.t 0))), (o1 4 (.box (.t 1))), (o1 6 (.alloc [(.int .i64 0), (.bool .false), (.int .i64 0), (.int .i64 0), (.int .i64 0), (.int .i64 0), (.int .i64 0), (.int .i64 0), (.int .i64 0), (.int .i64 0), (.int .i64 0), (.int .i64 0), (.int .i64 0), (.int .i64 0), (.int .i64 0), (.int .i64 0), (.int .i64 0), (.int .i64 0), (.int .i64 0), (.int .i64 0), (.int .i64 0), (.int .i64 0), (.int .i64 0), (.int .i64 0), (.int .i64 0), (.int .i64 0), (.int .i64 0), (.int .i64 0), (.int .i64 0), (.int .i64 0), (.int .i64 0), (.int .i64 0), (.int .i64 0), (.int .i64 0), (.int .i64 0), (.int .i64 0), (.int .i64 0), (.int .i64 0), (.int .i64 0), (.int .i64 0), (.int .i64 0), (.int .i64 0), (.int .i64 0), (.int .i64 0), (.int .i64 0), (.int .i64 0), (.int .i64 0), (.int .i64 0), (.int .i64 0), (.int .i64 0), (.int .i64 0)]))]) (.seq (.blk 0 (.seq (.reg [(o1 12 (.load .false .true 51 K51 (.t 3))), (o1 13 (.load .false .true 51 K51 (.t 4))), (o1 14 (.call .false .false (.f 96) [(.t 12), (.t 13)])), (o1 15 (.un .not (.t 14))), (o1 16 (.mv (.t 15))), (oS 17 (.fld 1 (.t 4)) (.some (16, .false))), (oS 18 (.load .false .false 1 [.none] (.t 17)) (.some (16, .false))), (o1 19 (.pick (.t 16) (.c (.bool .true)) (.t 18))), (o1 11 (.mv (.t 19)))]) (.cond (.t 11) (.seq (.reg [(o1 20 (.load .false .true 51 K51 (.t 3))), (oN (.store .false 51 (.t 6) (.t 20)))]) .ret) (.seq (.reg [(o1 22 (.fld 1 (.t 3))), (o1 23 (.load .false .false 1 [.none] (.t 22))), (o1 21 (.mv (.t 23)))]) (.cond (.t 21) (.seq (.reg [(o1 24 (.load .false .true 51 K51 (.t 4))), (oN (.store .false 51 (.t 6) (.t 24)))]) .ret) .skip))))) (.seq (.seq (.reg [(o1 25 (.fld 2 (.t 3))), (o1 26 (.load .false .true 49 K49 (.t 25))), (o1 27 (.mv (.c (.int .i64 0))))]) (.blk 1 (.loop [2, 3, 4, 6, 26, 27] [3, 4, 6] [] F100_b0))) F100_c3)))⟩

theorem F100_ok : sfn Try.prog hints 100 [([2, 3, 4, 6, 26, 27], ([3, 4, 6], [])), ([2, 3, 4, 6, 7, 26, 27, 31, 32], ([3, 4, 6], []))] = some F100 := by kernel_rfl

abbrev X100_0 (ds : List Cell) (y0_0 : Int) (y3_0 : Int) := ([Cell.v (Value.int .i64 (intC ((List.take 49 ds).getD (y0_0.toNat * 7) .dead))), Cell.v (Value.int .i64 (intC ((List.take 49 ds).getD (y0_0.toNat * 7 + 1) .dead))), Cell.v (Value.int .i64 (intC ((List.take 49 ds).getD (y0_0.toNat * 7 + 2) .dead))), Cell.v (Value.int .i64 (intC ((List.take 49 ds).getD (y0_0.toNat * 7 + 3) .dead))), Cell.v (Value.int .i64 (intC ((List.take 49 ds).getD (y0_0.toNat * 7 + 4) .dead))), Cell.v (Value.int .i64 (intC ((List.take 49 ds).getD (y0_0.toNat * 7 + 5) .dead))), Cell.v (Value.int .i64 (intC ((List.take 49 ds).getD (y0_0.toNat * 7 + 6) .dead)))].getD (y3_0.toNat * 1) .dead)
abbrev X100_1 (ds : List Cell) (ds2 : List Cell) (y0_0 : Int) (y3_0 : Int) (y3_1 : List Cell) := (y3_1.set (y3_0.toNat * 1 + y0_0.toNat * 7) (Cell.v (Value.int .i64 (Max.max (intC (X100_0 ds y0_0 y3_0)) (intC (ds2.getD (y3_0.toNat * 1 + y0_0.toNat * 7) .dead))))))

def I100_0_0 (n : Int) (b : Bool) (ds : List Cell) (n2 : Int) (b2 : Bool) (ds2 : List Cell) (y0_0 : Int) (y0_1 : List Cell) : St := (.mk (.no :: (.no :: ((.one (.v (.func (.func 101) (.mk []) (.mk [])))) :: ((.box 3 0 0) :: ((.box 4 0 0) :: (.no :: ((.box 6 0 0) :: (n10 (.no :: (.no :: (.no :: (.no :: (.no :: (.no :: (.no :: (.no :: (.no :: ((.agg (List.take 49 ds)) :: ((.one (vi y0_0)) :: (n10 (n10 (.no :: (.no :: (.no :: (.no :: (.no :: [])))))))))))))))))))))))))) ([] :: ([] :: ([] :: ([((vi n) :: (vb b) :: (y0_1))] :: ([((vi n2) :: (vb b2) :: (ds2))] :: ([] :: ([((.v (.int .i64 0)) :: (.v (.bool .false)) :: (List.replicate 49 (Cell.v (Value.int .i64 0))))] :: (e10 (e10 (e10 (e10 ([] :: ([] :: ([] :: ([] :: ([] :: ([] :: []))))))))))))))))) (e10 (e10 (e10 (e10 (e10 ([] :: ([] :: ([] :: [])))))))))

def I100_3_0 (n : Int) (b : Bool) (ds : List Cell) (n2 : Int) (b2 : Bool) (ds2 : List Cell) (y0_0 : Int) (y0_1 : List Cell) (y3_0 : Int) (y3_1 : List Cell) : St := (.mk (.no :: (.no :: ((.one (.v (.func (.func 101) (.mk []) (.mk [])))) :: ((.box 3 0 0) :: ((.box 4 0 0) :: (.no :: ((.box 6 0 0) :: ((.one (vi y0_0)) :: (n10 (.no :: (.no :: (.no :: (.no :: (.no :: (.no :: (.no :: (.no :: ((.agg (List.take 49 ds)) :: ((.one (vi y0_0)) :: (.no :: (.no :: (.no :: ((.agg [(.v (.int .i64 (intC ((List.take 49 ds).getD (y0_0.toNat * 7) .dead)))), (.v (.int .i64 (intC ((List.take 49 ds).getD (y0_0.toNat * 7 + 1) .dead)))), (.v (.int .i64 (intC ((List.take 49 ds).getD (y0_0.toNat * 7 + 2) .dead)))), (.v (.int .i64 (intC ((List.take 49 ds).getD (y0_0.toNat * 7 + 3) .dead)))), (.v (.int .i64 (intC ((List.take 49 ds).getD (y0_0.toNat * 7 + 4) .dead)))), (.v (.int .i64 (intC ((List.take 49 ds).getD (y0_0.toNat * 7 + 5) .dead)))), (.v (.int .i64 (intC ((List.take 49 ds).getD (y0_0.toNat * 7 + 6) .dead))))]) :: ((.one (vi y3_0)) :: (n10 (n10 [])))))))))))))))))))))))))) ([] :: ([] :: ([] :: ([((vi n) :: (vb b) :: (y3_1))] :: ([((vi n2) :: (vb b2) :: (ds2))] :: ([] :: ([((.v (.int .i64 0)) :: (.v (.bool .false)) :: (List.replicate 49 (Cell.v (Value.int .i64 0))))] :: (e10 (e10 (e10 (e10 ([] :: ([] :: ([] :: ([] :: ([] :: ([] :: []))))))))))))))))) (e10 (e10 (e10 (e10 (e10 ([] :: ([] :: ([] :: [])))))))))

theorem E100_0_0 (n : Int) (b : Bool) (ds : List Cell) (n2 : Int) (b2 : Bool) (ds2 : List Cell) (y0_0 : Int) (y0_1 : List Cell) (N0 : Bool × St → Prop) (R : Ret → Prop) : wpO cx100 F100_b0 (.two .e .e) (I100_0_0 n b ds n2 b2 ds2 y0_0 y0_1) (kLp (headW cx100.m [2, 3, 4, 6, 26, 27] [3, 4, 6] []) N0 (kBlk 1 (kSeq cx100 F100_c3 (endO cx100.m F100.rs R)))) = (bif decide (y0_0 < 7) then (bif decide (0 ≤ y0_0) && decide (y0_0 < 7) && (decide (y0_0.toNat * 7 + 7 ≤ (List.take 49 ds).length) && (okK (some .i64) ((List.take 49 ds).getD (y0_0.toNat * 7) .dead) && (okK (some .i64) ((List.take 49 ds).getD (y0_0.toNat * 7 + 1) .dead) && (okK (some .i64) ((List.take 49 ds).getD (y0_0.toNat * 7 + 2) .dead) && (okK (some .i64) ((List.take 49 ds).getD (y0_0.toNat * 7 + 3) .dead) && (okK (some .i64) ((List.take 49 ds).getD (y0_0.toNat * 7 + 4) .dead) && (okK (some .i64) ((List.take 49 ds).getD (y0_0.toNat * 7 + 5) .dead) && (okK (some .i64) ((List.take 49 ds).getD (y0_0.toNat * 7 + 6) .dead) && true)))))))) then (LoopO (bodyX cx100 F100_b1) (headW cx100.m [2, 3, 4, 6, 7, 26, 27, 31, 32] [3, 4, 6] []) (kBlk 3 (kBlk 2 (kSeq cx100 F100_c2 (kLp (headW cx100.m [2, 3, 4, 6, 26, 27] [3, 4, 6] []) N0 (kBlk 1 (kSeq cx100 F100_c3 (endO cx100.m F100.rs R))))))) ((List.take 49 ds).all plainC && true && (y0_1.all plainC && true && (ds2.all plainC && true && true)), (I100_3_0 n b ds n2 b2 ds2 y0_0 y0_1 0 (y0_1)))) else False) else (bif y0_1.length + 2 == 51 then (bif y0_1.length + 2 == 51 && true && true then (bif y0_1.length + 2 == 51 && true then (bif y0_1.all plainC then (R (Ret.mk (.agg ((.v (.int .i64 (n))) :: (.v (.bool (b))) :: (y0_1))) [])) else False) else False) else False) else False)) := by kernel_rfl

theorem E100_3_0 (n : Int) (b : Bool) (ds : List Cell) (n2 : Int) (b2 : Bool) (ds2 : List Cell) (y0_0 : Int) (y0_1 : List Cell) (y3_0 : Int) (y3_1 : List Cell) (N0 : Bool × St → Prop) (N3 : Bool × St → Prop) (R : Ret → Prop) : wpO cx100 F100_b1 (.two .e .e) (I100_3_0 n b ds n2 b2 ds2 y0_0 y0_1 y3_0 y3_1) (kLp (headW cx100.m [2, 3, 4, 6, 7, 26, 27, 31, 32] [3, 4, 6] []) N3 (kBlk 3 (kBlk 2 (kSeq cx100 F100_c2 (kLp (headW cx100.m [2, 3, 4, 6, 26, 27] [3, 4, 6] []) N0 (kBlk 1 (kSeq cx100 F100_c3 (endO cx100.m F100.rs R)))))))) = (bif decide (y3_0 < 7) then (bif decide (0 ≤ y3_0) && decide (y3_0 < 7) && (decide (y3_0.toNat * 1 + 1 ≤ 7) && okK (some .i64) (X100_0 ds y0_0 y3_0)) then (bif decide (0 ≤ y0_0) && decide (y0_0 < 7) then (bif decide (0 ≤ y3_0) && decide (y3_0 < 7) then (bif decide (y3_0.toNat * 1 + y0_0.toNat * 7 + 3 ≤ ds2.length + 2) && okK (some .i64) (ds2.getD (y3_0.toNat * 1 + y0_0.toNat * 7) .dead) then (bif decide (0 ≤ y0_0) && decide (y0_0 < 7) then (bif decide (0 ≤ y3_0) && decide (y3_0 < 7) then (bif decide (y3_0.toNat * 1 + y0_0.toNat * 7 + 3 ≤ y3_1.length + 2) then (N3 ((List.take 49 ds).all plainC && true && ((X100_1 ds ds2 y0_0 y3_0 y3_1).all plainC && true && (ds2.all plainC && true && true)), (I100_3_0 n b ds n2 b2 ds2 y0_0 y0_1 (IntKind.i64.wrap (y3_0 + 1)) (X100_1 ds ds2 y0_0 y3_0 y3_1)))) else False) else False) else False) else False) else False) else False) else False) else (N0 ((List.take 49 ds).all plainC && true && (y3_1.all plainC && true && (ds2.all plainC && true && true)), (I100_0_0 n b ds n2 b2 ds2 (IntKind.i64.wrap (y0_0 + 1)) (y3_1))))) := by kernel_rfl

theorem E100 (n : Int) (b : Bool) (ds : List Cell) (n2 : Int) (b2 : Bool) (ds2 : List Cell) (R : Ret → Prop) : wpFO cx100 F100 (.two (.n 1 .e) (.n 0 (.two .e (.two .e .e)))) [(.agg (.v (.int .i64 n) :: .v (.bool b) :: ds)), (.agg (.v (.int .i64 n2) :: .v (.bool b2) :: ds2)), (.one (.v (.func (.func 101) #[] #[])))] R = (bif ds.length + 2 == 51 then (bif ds2.length + 2 == 51 then (bif ds.all plainC && (ds2.all plainC && true) && (ds.all (isInt .i64) && ds.length == 49 && (ds2.all (isInt .i64) && ds2.length == 49)) && true && true && true && true && true then (bif !alikeZ (n, b, List.map intC ds) (n2, b2, List.map intC ds2) then (bif ds.length + 2 == 51 then (bif ds.length + 2 == 51 && true && true then (bif ds.length + 2 == 51 && true then (bif ds.all plainC then (R (Ret.mk (.agg ((.v (.int .i64 (n))) :: (.v (.bool (b))) :: (ds))) [])) else False) else False) else False) else False) else (bif b2 then (bif ds.length + 2 == 51 then (bif ds.length + 2 == 51 && true && true then (bif ds.length + 2 == 51 && true then (bif ds.all plainC then (R (Ret.mk (.agg ((.v (.int .i64 (n))) :: (.v (.bool (b))) :: (ds))) [])) else False) else False) else False) else False) else (bif b then (bif ds2.length + 2 == 51 then (bif ds2.length + 2 == 51 && true && true then (bif ds2.length + 2 == 51 && true then (bif ds2.all plainC then (R (Ret.mk (.agg ((.v (.int .i64 (n2))) :: (.v (.bool (b2))) :: (ds2))) [])) else False) else False) else False) else False) else (bif decide (51 ≤ ds.length + 2) then (LoopO (bodyX cx100 F100_b0) (headW cx100.m [2, 3, 4, 6, 26, 27] [3, 4, 6] []) (kBlk 1 (kSeq cx100 F100_c3 (endO cx100.m F100.rs R))) ((List.take 49 ds).all plainC && true && (ds.all plainC && true && (ds2.all plainC && true && true)), (I100_0_0 n b ds n2 b2 ds2 0 (ds)))) else False)))) else False) else False) else False) := by kernel_rfl

def f100_wp (n : Int) (b : Bool) (ds : List Cell) (n2 : Int) (b2 : Bool) (ds2 : List Cell) (R : Ret → Prop) : Prop := bif ds.length + 2 == 51 then (bif ds2.length + 2 == 51 then (bif ds.all plainC && (ds2.all plainC && true) && (ds.all (isInt .i64) && ds.length == 49 && (ds2.all (isInt .i64) && ds2.length == 49)) && true && true && true && true && true then (bif !alikeZ (n, b, List.map intC ds) (n2, b2, List.map intC ds2) then (bif ds.length + 2 == 51 && true && true then (bif ds.length + 2 == 51 && true then (bif ds.all plainC then (R (Ret.mk (.agg ((.v (.int .i64 (n))) :: (.v (.bool (b))) :: (ds))) [])) else False) else False) else False) else (bif b2 then (bif ds.length + 2 == 51 && true && true then (bif ds.length + 2 == 51 && true then (bif ds.all plainC then (R (Ret.mk (.agg ((.v (.int .i64 (n))) :: (.v (.bool (b))) :: (ds))) [])) else False) else False) else False) else (bif b then (bif ds2.length + 2 == 51 && true && true then (bif ds2.length + 2 == 51 && true then (bif ds2.all plainC then (R (Ret.mk (.agg ((.v (.int .i64 (n2))) :: (.v (.bool (b2))) :: (ds2))) [])) else False) else False) else False) else (bif decide (51 ≤ ds.length + 2) then (((List.take 49 ds).all plainC && true && (ds.all plainC && true && (ds2.all plainC && true && true))) = true ∧ LoopP (fun (z0 : (Int × (List Cell))) (k0 : (Int × (List Cell)) → Prop) => (fun (z : Int × (List Cell)) => (fun (y0_0 : Int) (y0_1 : List Cell) => bif decide (y0_0 < 7) then (bif decide (0 ≤ y0_0) && decide (y0_0 < 7) && (decide (y0_0.toNat * 7 + 7 ≤ (List.take 49 ds).length) && (okK (some .i64) ((List.take 49 ds).getD (y0_0.toNat * 7) .dead) && (okK (some .i64) ((List.take 49 ds).getD (y0_0.toNat * 7 + 1) .dead) && (okK (some .i64) ((List.take 49 ds).getD (y0_0.toNat * 7 + 2) .dead) && (okK (some .i64) ((List.take 49 ds).getD (y0_0.toNat * 7 + 3) .dead) && (okK (some .i64) ((List.take 49 ds).getD (y0_0.toNat * 7 + 4) .dead) && (okK (some .i64) ((List.take 49 ds).getD (y0_0.toNat * 7 + 5) .dead) && (okK (some .i64) ((List.take 49 ds).getD (y0_0.toNat * 7 + 6) .dead) && true)))))))) then (((List.take 49 ds).all plainC && true && (y0_1.all plainC && true && (ds2.all plainC && true && true))) = true ∧ LoopP (fun (z3 : (Int × (List Cell))) (k3 : (Int × (List Cell)) → Prop) => (fun (z : Int × (List Cell)) => (fun (y3_0 : Int) (y3_1 : List Cell) => bif decide (y3_0 < 7) then (bif decide (0 ≤ y3_0) && decide (y3_0 < 7) && (decide (y3_0.toNat * 1 + 1 ≤ 7) && okK (some .i64) (X100_0 ds y0_0 y3_0)) then (bif decide (0 ≤ y0_0) && decide (y0_0 < 7) then (bif decide (0 ≤ y3_0) && decide (y3_0 < 7) then (bif decide (y3_0.toNat * 1 + y0_0.toNat * 7 + 3 ≤ ds2.length + 2) && okK (some .i64) (ds2.getD (y3_0.toNat * 1 + y0_0.toNat * 7) .dead) then (bif decide (y3_0.toNat * 1 + y0_0.toNat * 7 + 3 ≤ y3_1.length + 2) then (((List.take 49 ds).all plainC && true && ((X100_1 ds ds2 y0_0 y3_0 y3_1).all plainC && true && (ds2.all plainC && true && true))) = true ∧ k3 ((IntKind.i64.wrap (y3_0 + 1)), (X100_1 ds ds2 y0_0 y3_0 y3_1))) else False) else False) else False) else False) else False) else (((List.take 49 ds).all plainC && true && (y3_1.all plainC && true && (ds2.all plainC && true && true))) = true ∧ k0 ((IntKind.i64.wrap (y0_0 + 1)), (y3_1)))) z.1 z.2) z3) (0, (y0_1))) else False) else (bif y0_1.length + 2 == 51 then (bif y0_1.length + 2 == 51 && true && true then (bif y0_1.length + 2 == 51 && true then (bif y0_1.all plainC then (R (Ret.mk (.agg ((.v (.int .i64 (n))) :: (.v (.bool (b))) :: (y0_1))) [])) else False) else False) else False) else False)) z.1 z.2) z0) (0, (ds))) else False)))) else False) else False) else False

set_option maxRecDepth 100000 in
theorem f100_sound (n : Int) (b : Bool) (ds : List Cell) (n2 : Int) (b2 : Bool) (ds2 : List Cell) (hC : CtxOk Try.prog cx100.q.ctx) {r : Ret} (h : f100_wp n b ds n2 b2 ds2 (fun r' => r' = r)) : SoundAt Try.prog 100 [(.agg (.v (.int .i64 n) :: .v (.bool b) :: ds)), (.agg (.v (.int .i64 n2) :: .v (.bool b2) :: ds2)), (.one (.v (.func (.func 101) #[] #[])))] r := by
  refine soundAtO (C := cx100) (oc := (.two (.n 1 .e) (.n 0 (.two .e (.two .e .e))))) mixed hC F100_ok ?_
  rewrite [E100 n b ds n2 b2 ds2]
  unfold f100_wp at h
  refine ck_mapE h (fun q1 h => ck_mapE h (fun q2 h => ck_mapE h (fun q3 h => ?_)))
  refine cond_mapE h (fun q4 h => ?_) (fun q4 h => ?_)
  · skip
    refine ck_i q1 (ck_mapE h (fun q5 h => ck_mapE h (fun q7 h => ck_mapE h (fun q6 h => ?_))))
    exact h
  · skip
    refine cond_mapE h (fun q8 h => ?_) (fun q8 h => ?_)
    · skip
      refine ck_i q1 (ck_mapE h (fun q9 h => ck_mapE h (fun q11 h => ck_mapE h (fun q10 h => ?_))))
      exact h
    · skip
      refine cond_mapE h (fun q12 h => ?_) (fun q12 h => ?_)
      · skip
        refine ck_i q2 (ck_mapE h (fun q13 h => ck_mapE h (fun q15 h => ck_mapE h (fun q14 h => ?_))))
        exact h
      · skip
        refine ck_mapE h (fun q16 h => ?_)
        obtain ⟨q75, h⟩ := h
        refine loop_of (I := (fun (z : Int × (List Cell)) => (I100_0_0 n b ds n2 b2 ds2 z.1 z.2))) (fun z k0 h => ?_) h q75 rfl
        obtain ⟨y0_0, y0_1⟩ := z
        try dsimp only [sumE_l, sumE_r] at h
        refine bodyX_i (ob := (.two .e .e)) ?_
        rewrite [E100_0_0 n b ds n2 b2 ds2 y0_0 y0_1]
        refine cond_mapE h (fun q51 h => ?_) (fun q51 h => ?_)
        · skip
          refine ck_mapE h (fun q52 h => ?_)
          obtain ⟨q70, h⟩ := h
          refine loop_of (I := (fun (z : Int × (List Cell)) => (I100_3_0 n b ds n2 b2 ds2 y0_0 y0_1 z.1 z.2))) (fun z k3 h => ?_) h q70 rfl
          obtain ⟨y3_0, y3_1⟩ := z
          try dsimp only [sumE_l, sumE_r] at h
          refine bodyX_i (ob := (.two .e .e)) ?_
          rewrite [E100_3_0 n b ds n2 b2 ds2 y0_0 y0_1 y3_0 y3_1]
          refine cond_mapE h (fun q62 h => ?_) (fun q62 h => ?_)
          · skip
            refine ck_mapE h (fun q63 h => ck_mapE h (fun q64 h => ck_mapE h (fun q65 h => ck_mapE h (fun q66 h => ck_i q64 (ck_i q65 (ck_mapE h (fun q67 h => ?_)))))))
            obtain ⟨q68, h⟩ := h
            exact again_i (y := ((IntKind.i64.wrap (y3_0 + 1)), (X100_1 ds ds2 y0_0 y3_0 y3_1))) q68 h
          · skip
            obtain ⟨q69, h⟩ := h
            exact again_i (y := ((IntKind.i64.wrap (y0_0 + 1)), (y3_1))) q69 h
        · skip
          refine ck_mapE h (fun q71 h => ck_mapE h (fun q72 h => ck_mapE h (fun q74 h => ck_mapE h (fun q73 h => ?_))))
          exact h


def cx61 : CtxW := ⟨⟨[(100, sum100)], []⟩, 2, []⟩


def F61 : SFn := ⟨8, [(.cell 4 .true 51)], (.seq (.reg [(o1 2 (.box (.t 0))), (o1 3 (.box (.t 1))), (o1 4 (.alloc [(.int .i64 0), (.bool .false), (.int .i64 0), (.int .i64 0), (.int .i64 0), (.int .i64 0), (.int .i64 0), (.int .i64 0), (.int .i64 0), (.int .i64 0), (.int .i64 0), (.int .i64 0), (.int .i64 0), (.int .i64 0), (.int .i64 0), (.int .i64 0), (.int .i64 0), (.int .i64 0), (.int .i64 0), (.int .i64 0), (.int .i64 0), (.int .i64 0), (.int .i64 0), (.int .i64 0), (.int .i64 0), (.int .i64 0), (.int .i64 0), (.int .i64 0), (.int .i64 0), (.int .i64 0), (.int .i64 0), (.int .i64 0), (.int .i64 0), (.int .i64 0), (.int .i64 0), (.int .i64 0), (.int .i64 0), (.int .i64 0), (.int .i64 0), (.int .i64 0), (.int .i64 0), (.int .i64 0), (.int .i64 0), (.int .i64 0), (.int .i64 0), (.int .i64 0), (.int .i64 0), (.int .i64 0), (.int .i64 0), (.int .i64 0), (.int .i64 0)]))]) (.seq (.reg [(o1 5 (.load .false .true 51 K51 (.t 2))), (o1 6 (.load .false .true 51 K51 (.t 3))), (o1 7 (.call .false .false (.f 100) [(.t 5), (.t 6), (.f 101)])), (oN (.store .false 51 (.t 4) (.t 7)))]) .ret))⟩

theorem F61_ok : sfn Try.prog hints 61 [] = some F61 := by kernel_rfl

abbrev X61_0 (a0_0 : Int) (a0_1 : Bool) (a0_2 : List Cell) (a1_0 : Int) (a1_1 : Bool) (a1_2 : List Cell) := (ic .i64 (joinZ (a0_0, a0_1, List.map intC a0_2) (a1_0, a1_1, List.map intC a1_2)).2.2)

theorem E61 (a0_0 : Int) (a0_1 : Bool) (a0_2 : List Cell) (a1_0 : Int) (a1_1 : Bool) (a1_2 : List Cell) (R : Ret → Prop) : wpFO cx61 F61 .e [(.agg ((.v (.int .i64 a0_0)) :: (.v (.bool a0_1)) :: a0_2)), (.agg ((.v (.int .i64 a1_0)) :: (.v (.bool a1_1)) :: a1_2))] R = (bif a0_2.length + 2 == 51 then (bif a1_2.length + 2 == 51 then (bif a0_2.all plainC && (a1_2.all plainC && true) && (a0_2.all (isInt .i64) && a0_2.length == 49 && (a1_2.all (isInt .i64) && a1_2.length == 49)) && (X61_0 a0_0 a0_1 a0_2 a1_0 a1_1 a1_2).all (okC 0) && true && true && true && true then (bif (X61_0 a0_0 a0_1 a0_2 a1_0 a1_1 a1_2).length + 2 == 51 && true && true then (bif (X61_0 a0_0 a0_1 a0_2 a1_0 a1_1 a1_2).length + 2 == 51 && true then (bif (X61_0 a0_0 a0_1 a0_2 a1_0 a1_1 a1_2).all plainC then (R (Ret.mk (.agg ((.v (.int .i64 ((joinZ (a0_0, a0_1, List.map intC a0_2) (a1_0, a1_1, List.map intC a1_2)).1))) :: (.v (.bool ((joinZ (a0_0, a0_1, List.map intC a0_2) (a1_0, a1_1, List.map intC a1_2)).2.1))) :: (X61_0 a0_0 a0_1 a0_2 a1_0 a1_1 a1_2))) [])) else False) else False) else False) else False) else False) else False) := by kernel_rfl

def f61_wp (a0_0 : Int) (a0_1 : Bool) (a0_2 : List Cell) (a1_0 : Int) (a1_1 : Bool) (a1_2 : List Cell) (R : Ret → Prop) : Prop := bif a0_2.length + 2 == 51 then (bif a1_2.length + 2 == 51 then (bif a0_2.all plainC && (a1_2.all plainC && true) && (a0_2.all (isInt .i64) && a0_2.length == 49 && (a1_2.all (isInt .i64) && a1_2.length == 49)) && (X61_0 a0_0 a0_1 a0_2 a1_0 a1_1 a1_2).all (okC 0) && true && true && true && true then (bif (X61_0 a0_0 a0_1 a0_2 a1_0 a1_1 a1_2).length + 2 == 51 && true && true then (bif (X61_0 a0_0 a0_1 a0_2 a1_0 a1_1 a1_2).length + 2 == 51 && true then (bif (X61_0 a0_0 a0_1 a0_2 a1_0 a1_1 a1_2).all plainC then (R (Ret.mk (.agg ((.v (.int .i64 ((joinZ (a0_0, a0_1, List.map intC a0_2) (a1_0, a1_1, List.map intC a1_2)).1))) :: (.v (.bool ((joinZ (a0_0, a0_1, List.map intC a0_2) (a1_0, a1_1, List.map intC a1_2)).2.1))) :: (X61_0 a0_0 a0_1 a0_2 a1_0 a1_1 a1_2))) [])) else False) else False) else False) else False) else False) else False

set_option maxRecDepth 100000 in
theorem f61_sound (a0_0 : Int) (a0_1 : Bool) (a0_2 : List Cell) (a1_0 : Int) (a1_1 : Bool) (a1_2 : List Cell) (hC : CtxOk Try.prog cx61.q.ctx) {r : Ret} (h : f61_wp a0_0 a0_1 a0_2 a1_0 a1_1 a1_2 (fun r' => r' = r)) : SoundAt Try.prog 61 [(.agg ((.v (.int .i64 a0_0)) :: (.v (.bool a0_1)) :: a0_2)), (.agg ((.v (.int .i64 a1_0)) :: (.v (.bool a1_1)) :: a1_2))] r := by
  refine soundAtO (C := cx61) (oc := .e) mixed hC F61_ok ?_
  rewrite [E61 a0_0 a0_1 a0_2 a1_0 a1_1 a1_2]
  unfold f61_wp at h
  refine ck_mapE h (fun q1 h => ck_mapE h (fun q2 h => ck_mapE h (fun q3 h => ck_mapE h (fun q4 h => ck_mapE h (fun q6 h => ck_mapE h (fun q5 h => ?_))))))
  exact h


end Go.Proofs.Ytgmciihlmgeecaa.Fn
