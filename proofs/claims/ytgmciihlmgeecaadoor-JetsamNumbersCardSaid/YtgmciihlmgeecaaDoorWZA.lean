import Derived.Test.YtgmciihlmgeecaaDoorFnBase

import Derived.Test.YtgmciihlmgeecaaDoorSpZ

import Derived.Test.YtgmciihlmgeecaaDoorSpZ2

import Derived.Test.YtgmciihlmgeecaaDoorMtO2

/- Functions of one zone, walked. No conditions beyond those named. -/

namespace Go.Proofs.YtgmciihlmgeecaaDoor.Fn

open Go Go.RowKit Go.Proofs Go.Proofs.YtgmciihlmgeecaaDoor.Mt Go.Proofs.YtgmciihlmgeecaaDoor.Zm

set_option linter.unusedVariables false

set_option linter.unusedSimpArgs false

def cx91 : CtxW := ⟨⟨[], []⟩, 16, []⟩


def F91 : SFn := ⟨9, [(.tmp 2)], (.seq (.reg [(o1 2 (.mv (.c (.bool .false))))]) (.seq (.reg [(o1 3 (.mv (.t 0))), (o1 4 (.bin .geq (.t 3) (.c (.int .i64 0)))), (o1 5 (.mv (.t 4))), (oS 6 (.mv (.t 0)) (.some (5, .true))), (oS 7 (.bin .leq (.t 6) (.c (.int .i64 6))) (.some (5, .true))), (o1 8 (.pick (.t 5) (.t 7) (.c (.bool .false)))), (o1 2 (.mv (.t 8)))]) .ret))⟩

theorem F91_ok : sfn Tryd.prog hints 36 [] = some F91 := by kernel_rfl

theorem E91 (a0 : Int) (R : Ret → Prop) : wpFO cx91 F91 (.two (.n 0 .e) (.n 0 .e)) [(.one (.v (.int .i64 a0)))] R = (bif decide (a0 ≥ 0) then (R (Ret.mk (.one (.v (.bool (decide (a0 ≤ 6))))) [])) else (R (Ret.mk (.one (.v (.bool .false))) []))) := by kernel_rfl

def f91_wp (a0 : Int) (R : Ret → Prop) : Prop := bif decide (a0 ≥ 0) then (R (Ret.mk (.one (.v (.bool (decide (a0 ≤ 6))))) [])) else (R (Ret.mk (.one (.v (.bool .false))) []))

set_option maxRecDepth 100000 in
theorem f91_sound (a0 : Int) (hC : CtxOk Tryd.prog cx91.q.ctx) {r : Ret} (h : f91_wp a0 (fun r' => r' = r)) : SoundAt Tryd.prog 36 [(.one (.v (.int .i64 a0)))] r := by
  refine soundAtO (C := cx91) (oc := (.two (.n 0 .e) (.n 0 .e))) mixed hC F91_ok ?_
  rewrite [E91 a0]
  unfold f91_wp at h
  refine cond_mapE h (fun q1 h => ?_) (fun q1 h => ?_)
  · skip
    exact h
  · skip
    exact h


def cx112 : CtxW := ⟨⟨[], []⟩, 2, []⟩


def F112 : SFn := ⟨5, [(.cell 2 .true 51)], (.seq (.reg [(o1 2 (.alloc [(.int .i64 0), (.bool .false), (.int .i64 0), (.int .i64 0), (.int .i64 0), (.int .i64 0), (.int .i64 0), (.int .i64 0), (.int .i64 0), (.int .i64 0), (.int .i64 0), (.int .i64 0), (.int .i64 0), (.int .i64 0), (.int .i64 0), (.int .i64 0), (.int .i64 0), (.int .i64 0), (.int .i64 0), (.int .i64 0), (.int .i64 0), (.int .i64 0), (.int .i64 0), (.int .i64 0), (.int .i64 0), (.int .i64 0), (.int .i64 0), (.int .i64 0), (.int .i64 0), (.int .i64 0), (.int .i64 0), (.int .i64 0), (.int .i64 0), (.int .i64 0), (.int .i64 0), (.int .i64 0), (.int .i64 0), (.int .i64 0), (.int .i64 0), (.int .i64 0), (.int .i64 0), (.int .i64 0), (.int .i64 0), (.int .i64 0), (.int .i64 0), (.int .i64 0), (.int .i64 0), (.int .i64 0), (.int .i64 0), (.int .i64 0), (.int .i64 0)]))]) (.seq (.reg [(o1 3 (.mv (.t 0))), (o1 4 (.build [(.int .i64 0), (.bool .false), (.int .i64 0), (.int .i64 0), (.int .i64 0), (.int .i64 0), (.int .i64 0), (.int .i64 0), (.int .i64 0), (.int .i64 0), (.int .i64 0), (.int .i64 0), (.int .i64 0), (.int .i64 0), (.int .i64 0), (.int .i64 0), (.int .i64 0), (.int .i64 0), (.int .i64 0), (.int .i64 0), (.int .i64 0), (.int .i64 0), (.int .i64 0), (.int .i64 0), (.int .i64 0), (.int .i64 0), (.int .i64 0), (.int .i64 0), (.int .i64 0), (.int .i64 0), (.int .i64 0), (.int .i64 0), (.int .i64 0), (.int .i64 0), (.int .i64 0), (.int .i64 0), (.int .i64 0), (.int .i64 0), (.int .i64 0), (.int .i64 0), (.int .i64 0), (.int .i64 0), (.int .i64 0), (.int .i64 0), (.int .i64 0), (.int .i64 0), (.int .i64 0), (.int .i64 0), (.int .i64 0), (.int .i64 0), (.int .i64 0)] [(0, (1, (.t 3))), (1, (1, (.c (.bool .true))))])), (oN (.store .false 51 (.t 2) (.t 4)))]) .ret))⟩

theorem F112_ok : sfn Tryd.prog hints 40 [] = some F112 := by kernel_rfl

theorem E112 (a0 : Int) (R : Ret → Prop) : wpFO cx112 F112 .e [(.one (.v (.int .i64 a0)))] R = (R (Ret.mk (.agg ((.v (.int .i64 (a0))) :: (.v (.bool .true)) :: (List.replicate 49 (Cell.v (Value.int .i64 0))))) [])) := by kernel_rfl

def f112_wp (a0 : Int) (R : Ret → Prop) : Prop := R (Ret.mk (.agg ((.v (.int .i64 (a0))) :: (.v (.bool .true)) :: (List.replicate 49 (Cell.v (Value.int .i64 0))))) [])

set_option maxRecDepth 100000 in
theorem f112_sound (a0 : Int) (hC : CtxOk Tryd.prog cx112.q.ctx) {r : Ret} (h : f112_wp a0 (fun r' => r' = r)) : SoundAt Tryd.prog 40 [(.one (.v (.int .i64 a0)))] r := by
  refine soundAtO (C := cx112) (oc := .e) mixed hC F112_ok ?_
  rewrite [E112 a0]
  unfold f112_wp at h
  exact h


def cx85 : CtxW := ⟨⟨[(36, sum91)], []⟩, 2, []⟩


def F85 : SFn := ⟨23, [(.tmp 4)], (.seq (.reg [(o1 2 (.box (.t 0))), (o1 4 (.mv (.c (.bool .false))))]) (.seq (.reg [(o1 5 (.fld 0 (.t 2))), (o1 6 (.load .false .false 1 [(.some .i64)] (.t 5))), (o1 7 (.call .false .false (.f 36) [(.t 6)])), (o1 8 (.mv (.t 7))), (oS 9 (.fld 1 (.t 2)) (.some (8, .true))), (oS 10 (.load .false .false 1 [.none] (.t 9)) (.some (8, .true))), (oS 11 (.un .not (.t 10)) (.some (8, .true))), (o1 12 (.pick (.t 8) (.t 11) (.c (.bool .false)))), (o1 13 (.mv (.t 12))), (oS 14 (.mv (.t 1)) (.some (13, .true))), (oS 15 (.bin .geq (.t 14) (.c (.int .i64 0))) (.some (13, .true))), (o1 16 (.pick (.t 13) (.t 15) (.c (.bool .false)))), (o1 17 (.mv (.t 16))), (oS 18 (.mv (.t 1)) (.some (17, .true))), (oS 19 (.fld 0 (.t 2)) (.some (17, .true))), (oS 20 (.load .false .false 1 [(.some .i64)] (.t 19)) (.some (17, .true))), (oS 21 (.bin .lss (.t 18) (.t 20)) (.some (17, .true))), (o1 22 (.pick (.t 17) (.t 21) (.c (.bool .false)))), (o1 4 (.mv (.t 22)))]) .ret))⟩

theorem F85_ok : sfn Tryd.prog hints 24 [] = some F85 := by kernel_rfl

theorem E85 (a0_0 : Int) (a0_1 : Bool) (a0_2 : List Cell) (a1 : Int) (R : Ret → Prop) : wpFO cx85 F85 (.two (.n 1 (.two (.n 0 (.two (.n 2 .e) (.n 2 .e))) (.n 4 .e))) (.n 7 .e)) [(.agg ((.v (.int .i64 a0_0)) :: (.v (.bool a0_1)) :: a0_2)), (.one (.v (.int .i64 a1)))] R = (bif okN a0_0 then (bif !a0_1 then (bif decide (a1 ≥ 0) then (R (Ret.mk (.one (.v (.bool (decide (a1 < a0_0))))) [])) else (R (Ret.mk (.one (.v (.bool .false))) []))) else (R (Ret.mk (.one (.v (.bool .false))) []))) else (R (Ret.mk (.one (.v (.bool .false))) []))) := by kernel_rfl

def f85_wp (a0_0 : Int) (a0_1 : Bool) (a0_2 : List Cell) (a1 : Int) (R : Ret → Prop) : Prop := bif okN a0_0 then (bif !a0_1 then (bif decide (a1 ≥ 0) then (R (Ret.mk (.one (.v (.bool (decide (a1 < a0_0))))) [])) else (R (Ret.mk (.one (.v (.bool .false))) []))) else (R (Ret.mk (.one (.v (.bool .false))) []))) else (R (Ret.mk (.one (.v (.bool .false))) []))

set_option maxRecDepth 100000 in
theorem f85_sound (a0_0 : Int) (a0_1 : Bool) (a0_2 : List Cell) (a1 : Int) (hC : CtxOk Tryd.prog cx85.q.ctx) {r : Ret} (h : f85_wp a0_0 a0_1 a0_2 a1 (fun r' => r' = r)) : SoundAt Tryd.prog 24 [(.agg ((.v (.int .i64 a0_0)) :: (.v (.bool a0_1)) :: a0_2)), (.one (.v (.int .i64 a1)))] r := by
  refine soundAtO (C := cx85) (oc := (.two (.n 1 (.two (.n 0 (.two (.n 2 .e) (.n 2 .e))) (.n 4 .e))) (.n 7 .e))) mixed hC F85_ok ?_
  rewrite [E85 a0_0 a0_1 a0_2 a1]
  unfold f85_wp at h
  refine cond_mapE h (fun q1 h => ?_) (fun q1 h => ?_)
  · skip
    refine cond_mapE h (fun q2 h => ?_) (fun q2 h => ?_)
    · skip
      refine cond_mapE h (fun q3 h => ?_) (fun q3 h => ?_)
      · skip
        exact h
      · skip
        exact h
    · skip
      exact h
  · skip
    exact h


def cx84 : CtxW := ⟨⟨[(36, sum91), (24, sum85)], []⟩, 2, []⟩


def F84 : SFn := ⟨22, [(.tmp 4)], (.seq (.reg [(o1 2 (.box (.t 0))), (o1 4 (.mv (.c (.bool .false))))]) (.seq (.reg [(o1 5 (.mv (.t 1))), (o1 6 (.bin .eql (.t 5) (.c (.int .i64 (-1))))), (o1 7 (.mv (.t 6))), (oS 8 (.fld 0 (.t 2)) (.some (7, .true))), (oS 9 (.load .false .false 1 [(.some .i64)] (.t 8)) (.some (7, .true))), (oS 10 (.call .false .false (.f 36) [(.t 9)]) (.some (7, .true))), (o1 11 (.pick (.t 7) (.t 10) (.c (.bool .false)))), (o1 12 (.mv (.t 11))), (oS 13 (.fld 1 (.t 2)) (.some (12, .true))), (oS 14 (.load .false .false 1 [.none] (.t 13)) (.some (12, .true))), (oS 15 (.un .not (.t 14)) (.some (12, .true))), (o1 16 (.pick (.t 12) (.t 15) (.c (.bool .false)))), (o1 17 (.mv (.t 16))), (oS 18 (.load .false .true 51 K51 (.t 2)) (.some (17, .false))), (oS 19 (.mv (.t 1)) (.some (17, .false))), (oS 20 (.call .false .false (.f 24) [(.t 18), (.t 19)]) (.some (17, .false))), (o1 21 (.pick (.t 17) (.c (.bool .true)) (.t 20))), (o1 4 (.mv (.t 21)))]) .ret))⟩

theorem F84_ok : sfn Tryd.prog hints 33 [] = some F84 := by kernel_rfl

theorem E84 (a0_0 : Int) (a0_1 : Bool) (a0_2 : List Cell) (a1 : Int) (R : Ret → Prop) : wpFO cx84 F84 (.two (.n 1 (.two (.n 1 (.two (.n 1 .e) (.n 1 .e))) (.n 4 .e))) (.n 7 .e)) [(.agg ((.v (.int .i64 a0_0)) :: (.v (.bool a0_1)) :: a0_2)), (.one (.v (.int .i64 a1)))] R = (bif a1 == -1 then (bif okN a0_0 then (bif !a0_1 then (R (Ret.mk (.one (.v (.bool .true))) [])) else (bif a0_2.length + 2 == 51 then (bif a0_2.all plainC && true && (a0_2.all (isInt .i64) && a0_2.length == 49 && true) && true && true && true && true && true then (R (Ret.mk (.one (.v (.bool (varP a0_0 a0_1 a1)))) [])) else False) else False)) else (bif a0_2.length + 2 == 51 then (bif a0_2.all plainC && true && (a0_2.all (isInt .i64) && a0_2.length == 49 && true) && true && true && true && true && true then (R (Ret.mk (.one (.v (.bool (varP a0_0 a0_1 a1)))) [])) else False) else False)) else (bif a0_2.length + 2 == 51 then (bif a0_2.all plainC && true && (a0_2.all (isInt .i64) && a0_2.length == 49 && true) && true && true && true && true && true then (R (Ret.mk (.one (.v (.bool (varP a0_0 a0_1 a1)))) [])) else False) else False)) := by kernel_rfl

def f84_wp (a0_0 : Int) (a0_1 : Bool) (a0_2 : List Cell) (a1 : Int) (R : Ret → Prop) : Prop := bif a1 == -1 then (bif okN a0_0 then (bif !a0_1 then (R (Ret.mk (.one (.v (.bool .true))) [])) else (bif a0_2.length + 2 == 51 then (bif a0_2.all plainC && true && (a0_2.all (isInt .i64) && a0_2.length == 49 && true) && true && true && true && true && true then (R (Ret.mk (.one (.v (.bool (varP a0_0 a0_1 a1)))) [])) else False) else False)) else (bif a0_2.length + 2 == 51 then (bif a0_2.all plainC && true && (a0_2.all (isInt .i64) && a0_2.length == 49 && true) && true && true && true && true && true then (R (Ret.mk (.one (.v (.bool (varP a0_0 a0_1 a1)))) [])) else False) else False)) else (bif a0_2.length + 2 == 51 then (bif a0_2.all plainC && true && (a0_2.all (isInt .i64) && a0_2.length == 49 && true) && true && true && true && true && true then (R (Ret.mk (.one (.v (.bool (varP a0_0 a0_1 a1)))) [])) else False) else False)

set_option maxRecDepth 100000 in
theorem f84_sound (a0_0 : Int) (a0_1 : Bool) (a0_2 : List Cell) (a1 : Int) (hC : CtxOk Tryd.prog cx84.q.ctx) {r : Ret} (h : f84_wp a0_0 a0_1 a0_2 a1 (fun r' => r' = r)) : SoundAt Tryd.prog 33 [(.agg ((.v (.int .i64 a0_0)) :: (.v (.bool a0_1)) :: a0_2)), (.one (.v (.int .i64 a1)))] r := by
  refine soundAtO (C := cx84) (oc := (.two (.n 1 (.two (.n 1 (.two (.n 1 .e) (.n 1 .e))) (.n 4 .e))) (.n 7 .e))) mixed hC F84_ok ?_
  rewrite [E84 a0_0 a0_1 a0_2 a1]
  unfold f84_wp at h
  refine cond_mapE h (fun q1 h => ?_) (fun q1 h => ?_)
  · skip
    refine cond_mapE h (fun q2 h => ?_) (fun q2 h => ?_)
    · skip
      refine cond_mapE h (fun q3 h => ?_) (fun q3 h => ?_)
      · skip
        exact h
      · skip
        refine ck_mapE h (fun q4 h => ck_mapE h (fun q5 h => ?_))
        exact h
    · skip
      refine ck_mapE h (fun q6 h => ck_mapE h (fun q7 h => ?_))
      exact h
  · skip
    refine ck_mapE h (fun q8 h => ck_mapE h (fun q9 h => ?_))
    exact h


def cx111 : CtxW := ⟨⟨[], []⟩, 2, []⟩


def F111_b0 : SC := (.seq (.seq (.reg [(o1 3 (.mv (.t 2))), (o1 4 (.mv (.t 0))), (o1 5 (.nilc (.t 4))), (o1 6 (.fld 0 (.t 5))), (o1 7 (.load .false .false 1 [(.some .i64)] (.t 6))), (o1 8 (.bin .leq (.t 3) (.t 7)))]) (.cond (.t 8) .skip (.exit 0))) (.seq (.blk 1 (.seq (.reg [(o1 11 (.mv (.t 0))), (o1 12 (.mv (.t 2))), (o1 13 (.mv (.t 0))), (o1 14 (.mv (.t 2))), (o1 15 (.nilc (.t 13))), (o1 16 (.fld 2 (.t 15))), (o1 17 (.ixA 7 7 (.t 16) (.t 14))), (o1 18 (.ixA 7 1 (.t 17) (.c (.int .i64 0)))), (o1 19 (.load .false .false 1 [(.some .i64)] (.t 18))), (o1 20 (.mm .false [(.t 19), (.c (.int .i64 2147483647))])), (o1 21 (.nilc (.t 11))), (o1 22 (.fld 2 (.t 21))), (o1 23 (.ixA 7 7 (.t 22) (.t 12))), (o1 24 (.ixA 7 1 (.t 23) (.c (.int .i64 0)))), (oN (.store .false 1 (.t 24) (.t 20)))]) (.reg [(o1 25 (.mv (.t 0))), (o1 26 (.mv (.t 2))), (o1 27 (.mv (.t 0))), (o1 28 (.mv (.t 2))), (o1 29 (.nilc (.t 27))), (o1 30 (.fld 2 (.t 29))), (o1 31 (.ixA 7 7 (.t 30) (.c (.int .i64 0)))), (o1 32 (.ixA 7 1 (.t 31) (.t 28))), (o1 33 (.load .false .false 1 [(.some .i64)] (.t 32))), (o1 34 (.mm .false [(.t 33), (.c (.int .i64 2147483648))])), (o1 35 (.nilc (.t 25))), (o1 36 (.fld 2 (.t 35))), (o1 37 (.ixA 7 7 (.t 36) (.c (.int .i64 0)))), (o1 38 (.ixA 7 1 (.t 37) (.t 26))), (oN (.store .false 1 (.t 38) (.t 34)))]))) (.reg [(o1 9 (.mv (.t 2))), (o1 10 (.bin .add (.t 9) (.c (.int .i64 1)))), (o1 2 (.mv (.t 10)))])))

def F111 : SFn := ⟨39, [], (.seq (.reg [(o1 2 (.mv (.c (.int .i64 1))))]) (.blk 0 (.loop [0, 2] [0] [] F111_b0)))⟩

theorem F111_ok : sfn Tryd.prog hints 39 [([0, 2], ([0], []))] = some F111 := by kernel_rfl

def I111_0_0 (n : Int) (b : Bool) (ds : List Cell) (y0_0 : Int) (y0_1 : List Cell) : St := (.mk ((.box 0 0 0) :: (.no :: ((.one (vi y0_0)) :: (n10 (n10 (n10 (.no :: (.no :: (.no :: (.no :: (.no :: (.no :: [])))))))))))) ([((vi n) :: (vb b) :: (y0_1))] :: (e10 (e10 (e10 ([] :: ([] :: ([] :: ([] :: ([] :: ([] :: ([] :: ([] :: [])))))))))))) (e10 (e10 (e10 ([] :: ([] :: ([] :: ([] :: ([] :: ([] :: ([] :: ([] :: ([] :: [])))))))))))))

theorem E111_0_0 (n : Int) (b : Bool) (ds : List Cell) (y0_0 : Int) (y0_1 : List Cell) (N0 : Bool × St → Prop) (R : List Cell → Prop) : wpO cx111 F111_b0 (.two .e .e) (I111_0_0 n b ds y0_0 y0_1) (kLp (headW cx111.m [0, 2] [0] []) N0 (kBlk 0 (endPO R))) = (bif decide (y0_0 ≤ n) then (bif decide (0 ≤ y0_0) && decide (y0_0 < 7) then (bif decide (0 + y0_0.toNat * 7 + 3 ≤ y0_1.length + 2) && okK (some .i64) (y0_1.getD (0 + y0_0.toNat * 7) .dead) then (bif decide (0 ≤ y0_0) && decide (y0_0 < 7) then (bif decide (0 + y0_0.toNat * 7 + 3 ≤ y0_1.length + 2) then (bif decide (0 ≤ y0_0) && decide (y0_0 < 7) then (bif decide (y0_0.toNat * 1 + 3 ≤ (y0_1.set (0 + y0_0.toNat * 7) (Cell.v (Value.int .i64 (if 2147483647 < intC (y0_1.getD (0 + y0_0.toNat * 7) .dead) then 2147483647 else intC (y0_1.getD (0 + y0_0.toNat * 7) .dead))))).length + 2) && okK (some .i64) ((y0_1.set (0 + y0_0.toNat * 7) (Cell.v (Value.int .i64 (if 2147483647 < intC (y0_1.getD (0 + y0_0.toNat * 7) .dead) then 2147483647 else intC (y0_1.getD (0 + y0_0.toNat * 7) .dead))))).getD (y0_0.toNat * 1) .dead) then (bif decide (0 ≤ y0_0) && decide (y0_0 < 7) then (bif decide (y0_0.toNat * 1 + 3 ≤ (y0_1.set (0 + y0_0.toNat * 7) (Cell.v (Value.int .i64 (if 2147483647 < intC (y0_1.getD (0 + y0_0.toNat * 7) .dead) then 2147483647 else intC (y0_1.getD (0 + y0_0.toNat * 7) .dead))))).length + 2) then (N0 (((y0_1.set (0 + y0_0.toNat * 7) (Cell.v (Value.int .i64 (if 2147483647 < intC (y0_1.getD (0 + y0_0.toNat * 7) .dead) then 2147483647 else intC (y0_1.getD (0 + y0_0.toNat * 7) .dead))))).set (y0_0.toNat * 1) (Cell.v (Value.int .i64 (if 2147483648 < intC ((y0_1.set (0 + y0_0.toNat * 7) (Cell.v (Value.int .i64 (if 2147483647 < intC (y0_1.getD (0 + y0_0.toNat * 7) .dead) then 2147483647 else intC (y0_1.getD (0 + y0_0.toNat * 7) .dead))))).getD (y0_0.toNat * 1) .dead) then 2147483648 else intC ((y0_1.set (0 + y0_0.toNat * 7) (Cell.v (Value.int .i64 (if 2147483647 < intC (y0_1.getD (0 + y0_0.toNat * 7) .dead) then 2147483647 else intC (y0_1.getD (0 + y0_0.toNat * 7) .dead))))).getD (y0_0.toNat * 1) .dead))))).all plainC && true && true, (I111_0_0 n b ds (IntKind.i64.wrap (y0_0 + 1)) ((y0_1.set (0 + y0_0.toNat * 7) (Cell.v (Value.int .i64 (if 2147483647 < intC (y0_1.getD (0 + y0_0.toNat * 7) .dead) then 2147483647 else intC (y0_1.getD (0 + y0_0.toNat * 7) .dead))))).set (y0_0.toNat * 1) (Cell.v (Value.int .i64 (if 2147483648 < intC ((y0_1.set (0 + y0_0.toNat * 7) (Cell.v (Value.int .i64 (if 2147483647 < intC (y0_1.getD (0 + y0_0.toNat * 7) .dead) then 2147483647 else intC (y0_1.getD (0 + y0_0.toNat * 7) .dead))))).getD (y0_0.toNat * 1) .dead) then 2147483648 else intC ((y0_1.set (0 + y0_0.toNat * 7) (Cell.v (Value.int .i64 (if 2147483647 < intC (y0_1.getD (0 + y0_0.toNat * 7) .dead) then 2147483647 else intC (y0_1.getD (0 + y0_0.toNat * 7) .dead))))).getD (y0_0.toNat * 1) .dead)))))))) else False) else False) else False) else False) else False) else False) else False) else False) else (R ((.v (.int .i64 (n))) :: (.v (.bool (b))) :: (y0_1)))) := by kernel_rfl

theorem E111 (n : Int) (b : Bool) (ds : List Cell) (R : List Cell → Prop) : wpPO cx111 F111 .e (((.v (.int .i64 n) :: .v (.bool b) :: ds), []) : List Cell × List CV).1 (((.v (.int .i64 n) :: .v (.bool b) :: ds), []) : List Cell × List CV).2 R = (LoopO (bodyX cx111 F111_b0) (headW cx111.m [0, 2] [0] []) (kBlk 0 (endPO R)) (ds.all plainC && true && true, (I111_0_0 n b ds 1 (ds)))) := by kernel_rfl

def f111_wp (n : Int) (b : Bool) (ds : List Cell) (R : List Cell → Prop) : Prop := (ds.all plainC && true && true) = true ∧ LoopP (fun (z0 : (Int × (List Cell))) (k0 : (Int × (List Cell)) → Prop) => (fun (z : Int × (List Cell)) => (fun (y0_0 : Int) (y0_1 : List Cell) => bif decide (y0_0 ≤ n) then (bif decide (0 ≤ y0_0) && decide (y0_0 < 7) then (bif decide (0 + y0_0.toNat * 7 + 3 ≤ y0_1.length + 2) && okK (some .i64) (y0_1.getD (0 + y0_0.toNat * 7) .dead) then (bif decide (0 + y0_0.toNat * 7 + 3 ≤ y0_1.length + 2) then (bif decide (y0_0.toNat * 1 + 3 ≤ (y0_1.set (0 + y0_0.toNat * 7) (Cell.v (Value.int .i64 (if 2147483647 < intC (y0_1.getD (0 + y0_0.toNat * 7) .dead) then 2147483647 else intC (y0_1.getD (0 + y0_0.toNat * 7) .dead))))).length + 2) && okK (some .i64) ((y0_1.set (0 + y0_0.toNat * 7) (Cell.v (Value.int .i64 (if 2147483647 < intC (y0_1.getD (0 + y0_0.toNat * 7) .dead) then 2147483647 else intC (y0_1.getD (0 + y0_0.toNat * 7) .dead))))).getD (y0_0.toNat * 1) .dead) then (bif decide (y0_0.toNat * 1 + 3 ≤ (y0_1.set (0 + y0_0.toNat * 7) (Cell.v (Value.int .i64 (if 2147483647 < intC (y0_1.getD (0 + y0_0.toNat * 7) .dead) then 2147483647 else intC (y0_1.getD (0 + y0_0.toNat * 7) .dead))))).length + 2) then ((((y0_1.set (0 + y0_0.toNat * 7) (Cell.v (Value.int .i64 (if 2147483647 < intC (y0_1.getD (0 + y0_0.toNat * 7) .dead) then 2147483647 else intC (y0_1.getD (0 + y0_0.toNat * 7) .dead))))).set (y0_0.toNat * 1) (Cell.v (Value.int .i64 (if 2147483648 < intC ((y0_1.set (0 + y0_0.toNat * 7) (Cell.v (Value.int .i64 (if 2147483647 < intC (y0_1.getD (0 + y0_0.toNat * 7) .dead) then 2147483647 else intC (y0_1.getD (0 + y0_0.toNat * 7) .dead))))).getD (y0_0.toNat * 1) .dead) then 2147483648 else intC ((y0_1.set (0 + y0_0.toNat * 7) (Cell.v (Value.int .i64 (if 2147483647 < intC (y0_1.getD (0 + y0_0.toNat * 7) .dead) then 2147483647 else intC (y0_1.getD (0 + y0_0.toNat * 7) .dead))))).getD (y0_0.toNat * 1) .dead))))).all plainC && true && true) = true ∧ k0 ((IntKind.i64.wrap (y0_0 + 1)), ((y0_1.set (0 + y0_0.toNat * 7) (Cell.v (Value.int .i64 (if 2147483647 < intC (y0_1.getD (0 + y0_0.toNat * 7) .dead) then 2147483647 else intC (y0_1.getD (0 + y0_0.toNat * 7) .dead))))).set (y0_0.toNat * 1) (Cell.v (Value.int .i64 (if 2147483648 < intC ((y0_1.set (0 + y0_0.toNat * 7) (Cell.v (Value.int .i64 (if 2147483647 < intC (y0_1.getD (0 + y0_0.toNat * 7) .dead) then 2147483647 else intC (y0_1.getD (0 + y0_0.toNat * 7) .dead))))).getD (y0_0.toNat * 1) .dead) then 2147483648 else intC ((y0_1.set (0 + y0_0.toNat * 7) (Cell.v (Value.int .i64 (if 2147483647 < intC (y0_1.getD (0 + y0_0.toNat * 7) .dead) then 2147483647 else intC (y0_1.getD (0 + y0_0.toNat * 7) .dead))))).getD (y0_0.toNat * 1) .dead))))))) else False) else False) else False) else False) else False) else (R ((.v (.int .i64 (n))) :: (.v (.bool (b))) :: (y0_1)))) z.1 z.2) z0) (1, (ds))

set_option maxRecDepth 100000 in
theorem f111_sound (n : Int) (b : Bool) (ds : List Cell) (hC : CtxOk Tryd.prog cx111.q.ctx) {r : List Cell} (hfl : ((((.v (.int .i64 n) :: .v (.bool b) :: ds), []) : List Cell × List CV).1).all flatC = true) (hfl' : r.all flatC = true) (h : f111_wp n b ds (fun r' => r' = r)) : PSoundAt Tryd.prog 39 (((.v (.int .i64 n) :: .v (.bool b) :: ds), []) : List Cell × List CV).1 (((.v (.int .i64 n) :: .v (.bool b) :: ds), []) : List Cell × List CV).2 r := by
  refine psoundAtO (C := cx111) (oc := .e) mixed hC F111_ok (by kernel_rfl) rfl (fun code hcode => ?_) hfl hfl' ?_
  · have e : ((Tryd.prog.funcs[39]?).bind (·.body)).map (fun code => lookA (aliases Tryd.prog hints code []) 0) = some none := by kernel_rfl
    rw [hcode] at e
    simpa using e
  rewrite [E111 n b ds]
  unfold f111_wp at h
  obtain ⟨q19, h⟩ := h
  refine loop_of (I := (fun (z : Int × (List Cell)) => (I111_0_0 n b ds z.1 z.2))) (fun z k0 h => ?_) h q19 rfl
  obtain ⟨y0_0, y0_1⟩ := z
  try dsimp only [sumE_l, sumE_r] at h
  refine bodyX_i (ob := (.two .e .e)) ?_
  rewrite [E111_0_0 n b ds y0_0 y0_1]
  refine cond_mapE h (fun q12 h => ?_) (fun q12 h => ?_)
  · skip
    refine ck_mapE h (fun q13 h => ck_mapE h (fun q14 h => ck_i q13 (ck_mapE h (fun q15 h => ck_i q13 (ck_mapE h (fun q16 h => ck_i q13 (ck_mapE h (fun q17 h => ?_))))))))
    obtain ⟨q18, h⟩ := h
    exact again_i (y := ((IntKind.i64.wrap (y0_0 + 1)), ((y0_1.set (0 + y0_0.toNat * 7) (Cell.v (Value.int .i64 (if 2147483647 < intC (y0_1.getD (0 + y0_0.toNat * 7) .dead) then 2147483647 else intC (y0_1.getD (0 + y0_0.toNat * 7) .dead))))).set (y0_0.toNat * 1) (Cell.v (Value.int .i64 (if 2147483648 < intC ((y0_1.set (0 + y0_0.toNat * 7) (Cell.v (Value.int .i64 (if 2147483647 < intC (y0_1.getD (0 + y0_0.toNat * 7) .dead) then 2147483647 else intC (y0_1.getD (0 + y0_0.toNat * 7) .dead))))).getD (y0_0.toNat * 1) .dead) then 2147483648 else intC ((y0_1.set (0 + y0_0.toNat * 7) (Cell.v (Value.int .i64 (if 2147483647 < intC (y0_1.getD (0 + y0_0.toNat * 7) .dead) then 2147483647 else intC (y0_1.getD (0 + y0_0.toNat * 7) .dead))))).getD (y0_0.toNat * 1) .dead))))))) q18 h
  · skip
    exact h


def cx87 : CtxW := ⟨⟨[], []⟩, 2, []⟩


def F87_b0 : SC := (.seq (.seq (.reg [(o1 5 (.mv (.t 4))), (o1 6 (.mv (.t 0))), (o1 7 (.nilc (.t 6))), (o1 8 (.fld 0 (.t 7))), (o1 9 (.load .false .false 1 [(.some .i64)] (.t 8))), (o1 10 (.bin .leq (.t 5) (.t 9)))]) (.cond (.t 10) .skip (.exit 0))) (.seq (.blk 1 (.seq (.reg [(o1 13 (.mv (.t 4))), (o1 14 (.mv (.t 1))), (o1 15 (.bin .neq (.t 13) (.t 14)))]) (.cond (.t 15) (.reg [(o1 16 (.mv (.t 0))), (o1 17 (.mv (.t 4))), (o1 18 (.mv (.t 1))), (o1 19 (.mv (.t 0))), (o1 20 (.mv (.t 1))), (o1 21 (.mv (.t 4))), (o1 22 (.nilc (.t 16))), (o1 23 (.fld 2 (.t 22))), (o1 24 (.ixA 7 7 (.t 23) (.t 17))), (o1 25 (.ixA 7 1 (.t 24) (.t 18))), (.mk .none (.store .false 1 (.t 25) (.c (.int .i64 1099511627776))) .none), (o1 26 (.nilc (.t 19))), (o1 27 (.fld 2 (.t 26))), (o1 28 (.ixA 7 7 (.t 27) (.t 20))), (o1 29 (.ixA 7 1 (.t 28) (.t 21))), (.mk .none (.store .false 1 (.t 29) (.c (.int .i64 1099511627776))) .none)]) .skip))) (.reg [(o1 11 (.mv (.t 4))), (o1 12 (.bin .add (.t 11) (.c (.int .i64 1)))), (o1 4 (.mv (.t 12)))])))

def F87 : SFn := ⟨30, [], (.seq (.reg [(o1 4 (.mv (.c (.int .i64 0))))]) (.blk 0 (.loop [0, 1, 4] [0] [] F87_b0)))⟩

theorem F87_ok : sfn Tryd.prog hints 31 [([0, 1, 4], ([0], []))] = some F87 := by kernel_rfl

def I87_0_0 (n : Int) (b : Bool) (ds : List Cell) (c : Int) (y0_0 : Int) (y0_1 : List Cell) : St := (.mk ((.box 0 0 0) :: ((.one (vi c)) :: (.no :: (.no :: ((.one (vi y0_0)) :: (n10 (n10 (.no :: (.no :: (.no :: (.no :: (.no :: [])))))))))))) ([((vi n) :: (vb b) :: (y0_1))] :: (e10 (e10 ([] :: ([] :: ([] :: ([] :: ([] :: ([] :: ([] :: ([] :: ([] :: [])))))))))))) (e10 (e10 (e10 []))))

theorem E87_0_0 (n : Int) (b : Bool) (ds : List Cell) (c : Int) (y0_0 : Int) (y0_1 : List Cell) (N0 : Bool × St → Prop) (R : List Cell → Prop) : wpO cx87 F87_b0 (.two (.two .e .e) .e) (I87_0_0 n b ds c y0_0 y0_1) (kLp (headW cx87.m [0, 1, 4] [0] []) N0 (kBlk 0 (endPO R))) = (bif decide (y0_0 ≤ n) then (bif y0_0 != c then (bif decide (0 ≤ y0_0) && decide (y0_0 < 7) then (bif decide (0 ≤ c) && decide (c < 7) then (bif decide (c.toNat * 1 + y0_0.toNat * 7 + 3 ≤ y0_1.length + 2) then (bif decide (0 ≤ c) && decide (c < 7) then (bif decide (0 ≤ y0_0) && decide (y0_0 < 7) then (bif decide (y0_0.toNat * 1 + c.toNat * 7 + 3 ≤ (y0_1.set (c.toNat * 1 + y0_0.toNat * 7) (Cell.v (Value.int .i64 1099511627776))).length + 2) then (N0 (((y0_1.set (c.toNat * 1 + y0_0.toNat * 7) (Cell.v (Value.int .i64 1099511627776))).set (y0_0.toNat * 1 + c.toNat * 7) (Cell.v (Value.int .i64 1099511627776))).all plainC && true && true, (I87_0_0 n b ds c (IntKind.i64.wrap (y0_0 + 1)) ((y0_1.set (c.toNat * 1 + y0_0.toNat * 7) (Cell.v (Value.int .i64 1099511627776))).set (y0_0.toNat * 1 + c.toNat * 7) (Cell.v (Value.int .i64 1099511627776)))))) else False) else False) else False) else False) else False) else False) else (N0 (y0_1.all plainC && true && true, (I87_0_0 n b ds c (IntKind.i64.wrap (y0_0 + 1)) (y0_1))))) else (R ((.v (.int .i64 (n))) :: (.v (.bool (b))) :: (y0_1)))) := by kernel_rfl

theorem E87 (n : Int) (b : Bool) (ds : List Cell) (c : Int) (R : List Cell → Prop) : wpPO cx87 F87 .e (((.v (.int .i64 n) :: .v (.bool b) :: ds), [(.one (.v (.int .i64 c)))]) : List Cell × List CV).1 (((.v (.int .i64 n) :: .v (.bool b) :: ds), [(.one (.v (.int .i64 c)))]) : List Cell × List CV).2 R = (LoopO (bodyX cx87 F87_b0) (headW cx87.m [0, 1, 4] [0] []) (kBlk 0 (endPO R)) (ds.all plainC && true && true, (I87_0_0 n b ds c 0 (ds)))) := by kernel_rfl

def f87_wp (n : Int) (b : Bool) (ds : List Cell) (c : Int) (R : List Cell → Prop) : Prop := (ds.all plainC && true && true) = true ∧ LoopP (fun (z0 : (Int × (List Cell))) (k0 : (Int × (List Cell)) → Prop) => (fun (z : Int × (List Cell)) => (fun (y0_0 : Int) (y0_1 : List Cell) => bif decide (y0_0 ≤ n) then (bif y0_0 != c then (bif decide (0 ≤ y0_0) && decide (y0_0 < 7) then (bif decide (0 ≤ c) && decide (c < 7) then (bif decide (c.toNat * 1 + y0_0.toNat * 7 + 3 ≤ y0_1.length + 2) then (bif decide (y0_0.toNat * 1 + c.toNat * 7 + 3 ≤ (y0_1.set (c.toNat * 1 + y0_0.toNat * 7) (Cell.v (Value.int .i64 1099511627776))).length + 2) then ((((y0_1.set (c.toNat * 1 + y0_0.toNat * 7) (Cell.v (Value.int .i64 1099511627776))).set (y0_0.toNat * 1 + c.toNat * 7) (Cell.v (Value.int .i64 1099511627776))).all plainC && true && true) = true ∧ k0 ((IntKind.i64.wrap (y0_0 + 1)), ((y0_1.set (c.toNat * 1 + y0_0.toNat * 7) (Cell.v (Value.int .i64 1099511627776))).set (y0_0.toNat * 1 + c.toNat * 7) (Cell.v (Value.int .i64 1099511627776))))) else False) else False) else False) else False) else ((y0_1.all plainC && true && true) = true ∧ k0 ((IntKind.i64.wrap (y0_0 + 1)), (y0_1)))) else (R ((.v (.int .i64 (n))) :: (.v (.bool (b))) :: (y0_1)))) z.1 z.2) z0) (0, (ds))

set_option maxRecDepth 100000 in
theorem f87_sound (n : Int) (b : Bool) (ds : List Cell) (c : Int) (hC : CtxOk Tryd.prog cx87.q.ctx) {r : List Cell} (hfl : ((((.v (.int .i64 n) :: .v (.bool b) :: ds), [(.one (.v (.int .i64 c)))]) : List Cell × List CV).1).all flatC = true) (hfl' : r.all flatC = true) (h : f87_wp n b ds c (fun r' => r' = r)) : PSoundAt Tryd.prog 31 (((.v (.int .i64 n) :: .v (.bool b) :: ds), [(.one (.v (.int .i64 c)))]) : List Cell × List CV).1 (((.v (.int .i64 n) :: .v (.bool b) :: ds), [(.one (.v (.int .i64 c)))]) : List Cell × List CV).2 r := by
  refine psoundAtO (C := cx87) (oc := .e) mixed hC F87_ok (by kernel_rfl) rfl (fun code hcode => ?_) hfl hfl' ?_
  · have e : ((Tryd.prog.funcs[31]?).bind (·.body)).map (fun code => lookA (aliases Tryd.prog hints code []) 0) = some none := by kernel_rfl
    rw [hcode] at e
    simpa using e
  rewrite [E87 n b ds c]
  unfold f87_wp at h
  obtain ⟨q20, h⟩ := h
  refine loop_of (I := (fun (z : Int × (List Cell)) => (I87_0_0 n b ds c z.1 z.2))) (fun z k0 h => ?_) h q20 rfl
  obtain ⟨y0_0, y0_1⟩ := z
  try dsimp only [sumE_l, sumE_r] at h
  refine bodyX_i (ob := (.two (.two .e .e) .e)) ?_
  rewrite [E87_0_0 n b ds c y0_0 y0_1]
  refine cond_mapE h (fun q12 h => ?_) (fun q12 h => ?_)
  · skip
    refine cond_mapE h (fun q13 h => ?_) (fun q13 h => ?_)
    · skip
      refine ck_mapE h (fun q14 h => ck_mapE h (fun q15 h => ck_mapE h (fun q16 h => ck_i q15 (ck_i q14 (ck_mapE h (fun q17 h => ?_))))))
      obtain ⟨q18, h⟩ := h
      exact again_i (y := ((IntKind.i64.wrap (y0_0 + 1)), ((y0_1.set (c.toNat * 1 + y0_0.toNat * 7) (Cell.v (Value.int .i64 1099511627776))).set (y0_0.toNat * 1 + c.toNat * 7) (Cell.v (Value.int .i64 1099511627776))))) q18 h
    · skip
      obtain ⟨q19, h⟩ := h
      exact again_i (y := ((IntKind.i64.wrap (y0_0 + 1)), (y0_1))) q19 h
  · skip
    exact h


def cx83 : CtxW := ⟨⟨[(36, sum91), (40, sum112)], [(39, psum111)]⟩, 2, []⟩


def F83_b2 : SC := (.seq (.seq (.reg [(o1 29 (.mv (.t 5))), (o1 30 (.fld 0 (.t 1))), (o1 31 (.load .false .false 1 [(.some .i64)] (.t 30))), (o1 32 (.bin .leq (.t 29) (.t 31)))]) (.cond (.t 32) .skip (.exit 4))) (.seq (.blk 5 (.reg [(o1 35 (.mv (.t 4))), (o1 36 (.mv (.t 5))), (o1 37 (.mv (.t 4))), (o1 38 (.mv (.t 5))), (o1 39 (.fld 2 (.t 1))), (o1 40 (.ixA 7 7 (.t 39) (.t 37))), (o1 41 (.ixA 7 1 (.t 40) (.t 38))), (o1 42 (.load .false .false 1 [(.some .i64)] (.t 41))), (o1 43 (.mv (.t 4))), (o1 44 (.mv (.t 3))), (o1 45 (.fld 2 (.t 1))), (o1 46 (.ixA 7 7 (.t 45) (.t 43))), (o1 47 (.ixA 7 1 (.t 46) (.t 44))), (o1 48 (.load .false .false 1 [(.some .i64)] (.t 47))), (o1 49 (.mv (.t 3))), (o1 50 (.mv (.t 5))), (o1 51 (.fld 2 (.t 1))), (o1 52 (.ixA 7 7 (.t 51) (.t 49))), (o1 53 (.ixA 7 1 (.t 52) (.t 50))), (o1 54 (.load .false .false 1 [(.some .i64)] (.t 53))), (o1 55 (.bin .add (.t 48) (.t 54))), (o1 56 (.mm .false [(.t 42), (.t 55)])), (o1 57 (.fld 2 (.t 1))), (o1 58 (.ixA 7 7 (.t 57) (.t 35))), (o1 59 (.ixA 7 1 (.t 58) (.t 36))), (oN (.store .false 1 (.t 59) (.t 56)))])) (.reg [(o1 33 (.mv (.t 5))), (o1 34 (.bin .add (.t 33) (.c (.int .i64 1)))), (o1 5 (.mv (.t 34)))])))

def F83_c3 : SC := (.reg [(o1 27 (.mv (.t 4))), (o1 28 (.bin .add (.t 27) (.c (.int .i64 1)))), (o1 4 (.mv (.t 28)))])

def F83_b1 : SC := (.seq (.seq (.reg [(o1 23 (.mv (.t 4))), (o1 24 (.fld 0 (.t 1))), (o1 25 (.load .false .false 1 [(.some .i64)] (.t 24))), (o1 26 (.bin .leq (.t 23) (.t 25)))]) (.cond (.t 26) .skip (.exit 2))) (.seq (.blk 3 (.seq (.reg [(o1 5 (.mv (.c (.int .i64 0))))]) (.blk 4 (.loop [1, 2, 3, 4, 5] [1, 2] [] F83_b2)))) F83_c3))

def F83_c4 : SC := (.reg [(o1 21 (.mv (.t 3))), (o1 22 (.bin .add (.t 21) (.c (.int .i64 1)))), (o1 3 (.mv (.t 22)))])

def F83_b0 : SC := (.seq (.seq (.reg [(o1 17 (.mv (.t 3))), (o1 18 (.fld 0 (.t 1))), (o1 19 (.load .false .false 1 [(.some .i64)] (.t 18))), (o1 20 (.bin .leq (.t 17) (.t 19)))]) (.cond (.t 20) .skip (.exit 0))) (.seq (.blk 1 (.seq (.reg [(o1 4 (.mv (.c (.int .i64 0))))]) (.blk 2 (.loop [1, 2, 3, 4] [1, 2] [] F83_b1)))) F83_c4))

def F83_b6 : SC := (.seq (.seq (.reg [(o1 60 (.mv (.t 6))), (o1 61 (.fld 0 (.t 1))), (o1 62 (.load .false .false 1 [(.some .i64)] (.t 61))), (o1 63 (.bin .leq (.t 60) (.t 62)))]) (.cond (.t 63) .skip (.exit 6))) (.seq (.blk 7 (.seq (.reg [(o1 66 (.mv (.t 6))), (o1 67 (.mv (.t 6))), (o1 68 (.fld 2 (.t 1))), (o1 69 (.ixA 7 7 (.t 68) (.t 66))), (o1 70 (.ixA 7 1 (.t 69) (.t 67))), (o1 71 (.load .false .false 1 [(.some .i64)] (.t 70))), (o1 72 (.bin .lss (.t 71) (.c (.int .i64 0))))]) (.cond (.t 72) (.seq (.reg [(o1 73 (.fld 0 (.t 1))), (o1 74 (.load .false .false 1 [(.some .i64)] (.t 73))), (o1 75 (.call .false .false (.f 40) [(.t 74)])), (oN (.store .false 51 (.t 2) (.t 75)))]) .ret) .skip))) (.reg [(o1 64 (.mv (.t 6))), (o1 65 (.bin .add (.t 64) (.c (.int .i64 1)))), (o1 6 (.mv (.t 65)))])))

def F83_c7 : SC := (.seq (.reg [(o1 76 (.load .false .true 51 K51 (.t 1))), (oN (.store .false 51 (.t 2) (.t 76)))]) .ret)

def F83_c5 : SC := (.seq (.seq (.reg [(o1 6 (.mv (.c (.int .i64 0))))]) (.blk 6 (.loop [1, 2, 6] [1, 2] [] F83_b6))) F83_c7)

def F83 : SFn := ⟨77, [(.cell 2 .true 51)], (.seq (.reg [(o1 1 (.box (.t 0))), (o1 2 (.alloc [(.int .i64 0), (.bool .false), (.int .i64 0), (.int .i64 0), (.int .i64 0), (.int .i64 0), (.int .i64 0), (.int .i64 0), (.int .i64 0), (.int .i64 0), (.int .i64 0), (.int .i64 0), (.int .i64 0), (.int .i64 0), (.int .i64 0), (.int .i64 0), (.int .i64 0), (.int .i64 0), (.int .i64 0), (.int .i64 0), (.int .i64 0), (.int .i64 0), (.int .i64 0), (.int .i64 0), (.int .i64 0), (.int .i64 0), (.int .i64 0), (.int .i64 0), (.int .i64 0), (.int .i64 0), (.int .i64 0), (.int .i64 0), (.int .i64 0), (.int .i64 0), (.int .i64 0), (.int .i64 0), (.int .i64 0), (.int .i64 0), (.int .i64 0), (.int .i64 0), (.int .i64 0), (.int .i64 0), (.int .i64 0), (.int .i64 0), (.int .i64 0), (.int .i64 0), (.int .i64 0), (.int .i64 0), (.int .i64 0), (.int .i64 0), (.int .i64 0)]))]) (.seq (.seq (.reg [(o1 7 (.fld 1 (.t 1))), (o1 8 (.load .false .false 1 [.none] (.t 7))), (o1 9 (.mv (.t 8))), (oS 10 (.fld 0 (.t 1)) (.some (9, .false))), (oS 11 (.load .false .false 1 [(.some .i64)] (.t 10)) (.some (9, .false))), (oS 12 (.call .false .false (.f 36) [(.t 11)]) (.some (9, .false))), (oS 13 (.un .not (.t 12)) (.some (9, .false))), (o1 14 (.pick (.t 9) (.c (.bool .true)) (.t 13)))]) (.cond (.t 14) (.seq (.reg [(o1 15 (.load .false .true 51 K51 (.t 1))), (oN (.store .false 51 (.t 2) (.t 15)))]) .ret) .skip)) (.seq (.reg [(o1 16 (.pcall 39 (.t 1) []))]) (.seq (.seq (.reg [(o1 3 (.mv (.c (.int .i64 0))))]) (.blk 0 (.loop [1, 2, 3] [1, 2] [] F83_b0))) F83_c5))))⟩

theorem F83_ok : sfn Tryd.prog hints 32 [([1, 2, 3], ([1, 2], [])), ([1, 2, 3, 4], ([1, 2], [])), ([1, 2, 3, 4, 5], ([1, 2], [])), ([1, 2, 6], ([1, 2], []))] = some F83 := by kernel_rfl

abbrev X83_0 (y0_0 : Int) (y9_0 : Int) (y12_0 : Int) (y12_1 : List Cell) := (y12_1.set (y12_0.toNat * 1 + y9_0.toNat * 7) (Cell.v (Value.int .i64 (if IntKind.i64.wrap (intC (y12_1.getD (y0_0.toNat * 1 + y9_0.toNat * 7) .dead) + intC (y12_1.getD (y12_0.toNat * 1 + y0_0.toNat * 7) .dead)) < intC (y12_1.getD (y12_0.toNat * 1 + y9_0.toNat * 7) .dead) then IntKind.i64.wrap (intC (y12_1.getD (y0_0.toNat * 1 + y9_0.toNat * 7) .dead) + intC (y12_1.getD (y12_0.toNat * 1 + y0_0.toNat * 7) .dead)) else intC (y12_1.getD (y12_0.toNat * 1 + y9_0.toNat * 7) .dead)))))

def I83_0_0 (a0_0 : Int) (a0_1 : Bool) (a0_2 : List Cell) (y0_0 : Int) (y0_1 : List Cell) : St := (.mk (.no :: ((.box 1 0 0) :: ((.box 2 0 0) :: ((.one (vi y0_0)) :: (n10 (n10 (n10 (n10 (n10 (n10 (n10 (.no :: (.no :: (.no :: [])))))))))))))) ([] :: ([((vi a0_0) :: (vb a0_1) :: (y0_1))] :: ([((.v (.int .i64 0)) :: (.v (.bool .false)) :: (List.replicate 49 (Cell.v (Value.int .i64 0))))] :: (e10 (e10 (e10 (e10 (e10 (e10 (e10 ([] :: ([] :: ([] :: ([] :: [])))))))))))))) (e10 (e10 (e10 (e10 (e10 (e10 (e10 ([] :: ([] :: ([] :: ([] :: ([] :: ([] :: ([] :: [])))))))))))))))

def I83_9_0 (a0_0 : Int) (a0_1 : Bool) (a0_2 : List Cell) (y0_0 : Int) (y0_1 : List Cell) (y9_0 : Int) (y9_1 : List Cell) : St := (.mk (.no :: ((.box 1 0 0) :: ((.box 2 0 0) :: ((.one (vi y0_0)) :: ((.one (vi y9_0)) :: (n10 (n10 (n10 (n10 (n10 (n10 (n10 (.no :: (.no :: [])))))))))))))) ([] :: ([((vi a0_0) :: (vb a0_1) :: (y9_1))] :: ([((.v (.int .i64 0)) :: (.v (.bool .false)) :: (List.replicate 49 (Cell.v (Value.int .i64 0))))] :: (e10 (e10 (e10 (e10 (e10 (e10 (e10 ([] :: ([] :: ([] :: ([] :: [])))))))))))))) (e10 (e10 (e10 (e10 (e10 (e10 (e10 ([] :: ([] :: ([] :: ([] :: ([] :: ([] :: ([] :: [])))))))))))))))

def I83_12_0 (a0_0 : Int) (a0_1 : Bool) (a0_2 : List Cell) (y0_0 : Int) (y0_1 : List Cell) (y9_0 : Int) (y9_1 : List Cell) (y12_0 : Int) (y12_1 : List Cell) : St := (.mk (.no :: ((.box 1 0 0) :: ((.box 2 0 0) :: ((.one (vi y0_0)) :: ((.one (vi y9_0)) :: ((.one (vi y12_0)) :: (n10 (n10 (n10 (n10 (n10 (n10 (n10 (.no :: [])))))))))))))) ([] :: ([((vi a0_0) :: (vb a0_1) :: (y12_1))] :: ([((.v (.int .i64 0)) :: (.v (.bool .false)) :: (List.replicate 49 (Cell.v (Value.int .i64 0))))] :: (e10 (e10 (e10 (e10 (e10 (e10 (e10 ([] :: ([] :: ([] :: ([] :: [])))))))))))))) (e10 (e10 (e10 (e10 (e10 (e10 (e10 ([] :: ([] :: ([] :: ([] :: ([] :: ([] :: ([] :: [])))))))))))))))

def I83_13_0 (a0_0 : Int) (a0_1 : Bool) (a0_2 : List Cell) (y0_0 : Int) (y0_1 : List Cell) (y13_0 : Int) : St := (.mk (.no :: ((.box 1 0 0) :: ((.box 2 0 0) :: (.no :: (.no :: (.no :: ((.one (vi y13_0)) :: (n10 (n10 (n10 (n10 (n10 (n10 (n10 [])))))))))))))) ([] :: ([((vi a0_0) :: (vb a0_1) :: (y0_1))] :: ([((.v (.int .i64 0)) :: (.v (.bool .false)) :: (List.replicate 49 (Cell.v (Value.int .i64 0))))] :: (e10 (e10 (e10 (e10 (e10 (e10 (e10 ([] :: ([] :: ([] :: ([] :: [])))))))))))))) (e10 (e10 (e10 (e10 (e10 (e10 (e10 ([] :: ([] :: ([] :: ([] :: ([] :: ([] :: ([] :: [])))))))))))))))

theorem E83_0_0 (a0_0 : Int) (a0_1 : Bool) (a0_2 : List Cell) (y0_0 : Int) (y0_1 : List Cell) (N0 : Bool × St → Prop) (R : Ret → Prop) : wpO cx83 F83_b0 (.two .e .e) (I83_0_0 a0_0 a0_1 a0_2 y0_0 y0_1) (kLp (headW cx83.m [1, 2, 3] [1, 2] []) N0 (kBlk 0 (kSeq cx83 F83_c5 (endO cx83.m F83.rs R)))) = (bif decide (y0_0 ≤ a0_0) then (LoopO (bodyX cx83 F83_b1) (headW cx83.m [1, 2, 3, 4] [1, 2] []) (kBlk 2 (kBlk 1 (kSeq cx83 F83_c4 (kLp (headW cx83.m [1, 2, 3] [1, 2] []) N0 (kBlk 0 (kSeq cx83 F83_c5 (endO cx83.m F83.rs R))))))) (y0_1.all plainC && true && true, (I83_9_0 a0_0 a0_1 a0_2 y0_0 y0_1 0 (y0_1)))) else (LoopO (bodyX cx83 F83_b6) (headW cx83.m [1, 2, 6] [1, 2] []) (kBlk 6 (kSeq cx83 F83_c7 (endO cx83.m F83.rs R))) (y0_1.all plainC && true && true, (I83_13_0 a0_0 a0_1 a0_2 y0_0 y0_1 0)))) := by kernel_rfl

theorem E83_9_0 (a0_0 : Int) (a0_1 : Bool) (a0_2 : List Cell) (y0_0 : Int) (y0_1 : List Cell) (y9_0 : Int) (y9_1 : List Cell) (N0 : Bool × St → Prop) (N9 : Bool × St → Prop) (R : Ret → Prop) : wpO cx83 F83_b1 (.two .e .e) (I83_9_0 a0_0 a0_1 a0_2 y0_0 y0_1 y9_0 y9_1) (kLp (headW cx83.m [1, 2, 3, 4] [1, 2] []) N9 (kBlk 2 (kBlk 1 (kSeq cx83 F83_c4 (kLp (headW cx83.m [1, 2, 3] [1, 2] []) N0 (kBlk 0 (kSeq cx83 F83_c5 (endO cx83.m F83.rs R)))))))) = (bif decide (y9_0 ≤ a0_0) then (LoopO (bodyX cx83 F83_b2) (headW cx83.m [1, 2, 3, 4, 5] [1, 2] []) (kBlk 4 (kBlk 3 (kSeq cx83 F83_c3 (kLp (headW cx83.m [1, 2, 3, 4] [1, 2] []) N9 (kBlk 2 (kBlk 1 (kSeq cx83 F83_c4 (kLp (headW cx83.m [1, 2, 3] [1, 2] []) N0 (kBlk 0 (kSeq cx83 F83_c5 (endO cx83.m F83.rs R))))))))))) (y9_1.all plainC && true && true, (I83_12_0 a0_0 a0_1 a0_2 y0_0 y0_1 y9_0 y9_1 0 (y9_1)))) else (N0 (y9_1.all plainC && true && true, (I83_0_0 a0_0 a0_1 a0_2 (IntKind.i64.wrap (y0_0 + 1)) (y9_1))))) := by kernel_rfl

theorem E83_12_0 (a0_0 : Int) (a0_1 : Bool) (a0_2 : List Cell) (y0_0 : Int) (y0_1 : List Cell) (y9_0 : Int) (y9_1 : List Cell) (y12_0 : Int) (y12_1 : List Cell) (N9 : Bool × St → Prop) (N0 : Bool × St → Prop) (N12 : Bool × St → Prop) (R : Ret → Prop) : wpO cx83 F83_b2 (.two .e .e) (I83_12_0 a0_0 a0_1 a0_2 y0_0 y0_1 y9_0 y9_1 y12_0 y12_1) (kLp (headW cx83.m [1, 2, 3, 4, 5] [1, 2] []) N12 (kBlk 4 (kBlk 3 (kSeq cx83 F83_c3 (kLp (headW cx83.m [1, 2, 3, 4] [1, 2] []) N9 (kBlk 2 (kBlk 1 (kSeq cx83 F83_c4 (kLp (headW cx83.m [1, 2, 3] [1, 2] []) N0 (kBlk 0 (kSeq cx83 F83_c5 (endO cx83.m F83.rs R)))))))))))) = (bif decide (y12_0 ≤ a0_0) then (bif decide (0 ≤ y9_0) && decide (y9_0 < 7) then (bif decide (0 ≤ y12_0) && decide (y12_0 < 7) then (bif decide (y12_0.toNat * 1 + y9_0.toNat * 7 + 3 ≤ y12_1.length + 2) && okK (some .i64) (y12_1.getD (y12_0.toNat * 1 + y9_0.toNat * 7) .dead) then (bif decide (0 ≤ y9_0) && decide (y9_0 < 7) then (bif decide (0 ≤ y0_0) && decide (y0_0 < 7) then (bif decide (y0_0.toNat * 1 + y9_0.toNat * 7 + 3 ≤ y12_1.length + 2) && okK (some .i64) (y12_1.getD (y0_0.toNat * 1 + y9_0.toNat * 7) .dead) then (bif decide (0 ≤ y0_0) && decide (y0_0 < 7) then (bif decide (0 ≤ y12_0) && decide (y12_0 < 7) then (bif decide (y12_0.toNat * 1 + y0_0.toNat * 7 + 3 ≤ y12_1.length + 2) && okK (some .i64) (y12_1.getD (y12_0.toNat * 1 + y0_0.toNat * 7) .dead) then (bif decide (0 ≤ y9_0) && decide (y9_0 < 7) then (bif decide (0 ≤ y12_0) && decide (y12_0 < 7) then (bif decide (y12_0.toNat * 1 + y9_0.toNat * 7 + 3 ≤ y12_1.length + 2) then (N12 ((X83_0 y0_0 y9_0 y12_0 y12_1).all plainC && true && true, (I83_12_0 a0_0 a0_1 a0_2 y0_0 y0_1 y9_0 y9_1 (IntKind.i64.wrap (y12_0 + 1)) (X83_0 y0_0 y9_0 y12_0 y12_1)))) else False) else False) else False) else False) else False) else False) else False) else False) else False) else False) else False) else False) else (N9 (y12_1.all plainC && true && true, (I83_9_0 a0_0 a0_1 a0_2 y0_0 y0_1 (IntKind.i64.wrap (y9_0 + 1)) (y12_1))))) := by kernel_rfl

theorem E83_13_0 (a0_0 : Int) (a0_1 : Bool) (a0_2 : List Cell) (y0_0 : Int) (y0_1 : List Cell) (y13_0 : Int) (N13 : Bool × St → Prop) (R : Ret → Prop) : wpO cx83 F83_b6 (.two (.two .e .e) .e) (I83_13_0 a0_0 a0_1 a0_2 y0_0 y0_1 y13_0) (kLp (headW cx83.m [1, 2, 6] [1, 2] []) N13 (kBlk 6 (kSeq cx83 F83_c7 (endO cx83.m F83.rs R)))) = (bif decide (y13_0 ≤ a0_0) then (bif decide (0 ≤ y13_0) && decide (y13_0 < 7) then (bif decide (0 ≤ y13_0) && decide (y13_0 < 7) then (bif decide (y13_0.toNat * 1 + y13_0.toNat * 7 + 3 ≤ y0_1.length + 2) && okK (some .i64) (y0_1.getD (y13_0.toNat * 1 + y13_0.toNat * 7) .dead) then (bif decide (intC (y0_1.getD (y13_0.toNat * 1 + y13_0.toNat * 7) .dead) < 0) then (R (Ret.mk (.agg ((.v (.int .i64 (a0_0))) :: (.v (.bool .true)) :: (List.replicate 49 (Cell.v (Value.int .i64 0))))) [])) else (N13 (y0_1.all plainC && true && true, (I83_13_0 a0_0 a0_1 a0_2 y0_0 y0_1 (IntKind.i64.wrap (y13_0 + 1)))))) else False) else False) else False) else (bif y0_1.length + 2 == 51 then (bif y0_1.length + 2 == 51 && true && true then (bif y0_1.length + 2 == 51 && true then (bif y0_1.all plainC then (R (Ret.mk (.agg ((.v (.int .i64 (a0_0))) :: (.v (.bool (a0_1))) :: (y0_1))) [])) else False) else False) else False) else False)) := by kernel_rfl

theorem E83 (a0_0 : Int) (a0_1 : Bool) (a0_2 : List Cell) (R : Ret → Prop) : wpFO cx83 F83 (.two (.n 3 .e) (.n 2 (.two .e .e))) [(.agg ((.v (.int .i64 a0_0)) :: (.v (.bool a0_1)) :: a0_2))] R = (bif a0_1 then (bif a0_2.length + 2 == 51 then (bif a0_2.length + 2 == 51 && true && true then (bif a0_2.length + 2 == 51 && true then (bif a0_2.all plainC then (R (Ret.mk (.agg ((.v (.int .i64 (a0_0))) :: (.v (.bool (a0_1))) :: (a0_2))) [])) else False) else False) else False) else False) else (bif !okN a0_0 then (bif a0_2.length + 2 == 51 then (bif a0_2.length + 2 == 51 && true && true then (bif a0_2.length + 2 == 51 && true then (bif a0_2.all plainC then (R (Ret.mk (.agg ((.v (.int .i64 (a0_0))) :: (.v (.bool (a0_1))) :: (a0_2))) [])) else False) else False) else False) else False) else (bif a0_2.all (isInt .i64) && a0_2.length == 49 && okN a0_0 && (ic .i64 (ownT a0_0.toNat (List.map intC a0_2))).length + 2 == a0_2.length + 2 && a0_2.all flatC && (ic .i64 (ownT a0_0.toNat (List.map intC a0_2))).all flatC then (LoopO (bodyX cx83 F83_b0) (headW cx83.m [1, 2, 3] [1, 2] []) (kBlk 0 (kSeq cx83 F83_c5 (endO cx83.m F83.rs R))) ((ic .i64 (ownT a0_0.toNat (List.map intC a0_2))).all plainC && true && true, (I83_0_0 a0_0 a0_1 a0_2 0 (ic .i64 (ownT a0_0.toNat (List.map intC a0_2)))))) else False))) := by kernel_rfl

def f83_wp (a0_0 : Int) (a0_1 : Bool) (a0_2 : List Cell) (R : Ret → Prop) : Prop := bif a0_1 then (bif a0_2.length + 2 == 51 then (bif a0_2.length + 2 == 51 && true && true then (bif a0_2.length + 2 == 51 && true then (bif a0_2.all plainC then (R (Ret.mk (.agg ((.v (.int .i64 (a0_0))) :: (.v (.bool (a0_1))) :: (a0_2))) [])) else False) else False) else False) else False) else (bif !okN a0_0 then (bif a0_2.length + 2 == 51 then (bif a0_2.length + 2 == 51 && true && true then (bif a0_2.length + 2 == 51 && true then (bif a0_2.all plainC then (R (Ret.mk (.agg ((.v (.int .i64 (a0_0))) :: (.v (.bool (a0_1))) :: (a0_2))) [])) else False) else False) else False) else False) else (bif a0_2.all (isInt .i64) && a0_2.length == 49 && okN a0_0 && (ic .i64 (ownT a0_0.toNat (List.map intC a0_2))).length + 2 == a0_2.length + 2 && a0_2.all flatC && (ic .i64 (ownT a0_0.toNat (List.map intC a0_2))).all flatC then (((ic .i64 (ownT a0_0.toNat (List.map intC a0_2))).all plainC && true && true) = true ∧ LoopP (fun (z0 : (Int × (List Cell))) (k0 : (Int × (List Cell)) → Prop) => (fun (z : Int × (List Cell)) => (fun (y0_0 : Int) (y0_1 : List Cell) => bif decide (y0_0 ≤ a0_0) then ((y0_1.all plainC && true && true) = true ∧ LoopP (fun (z9 : (Int × (List Cell))) (k9 : (Int × (List Cell)) → Prop) => (fun (z : Int × (List Cell)) => (fun (y9_0 : Int) (y9_1 : List Cell) => bif decide (y9_0 ≤ a0_0) then ((y9_1.all plainC && true && true) = true ∧ LoopP (fun (z12 : (Int × (List Cell))) (k12 : (Int × (List Cell)) → Prop) => (fun (z : Int × (List Cell)) => (fun (y12_0 : Int) (y12_1 : List Cell) => bif decide (y12_0 ≤ a0_0) then (bif decide (0 ≤ y9_0) && decide (y9_0 < 7) then (bif decide (0 ≤ y12_0) && decide (y12_0 < 7) then (bif decide (y12_0.toNat * 1 + y9_0.toNat * 7 + 3 ≤ y12_1.length + 2) && okK (some .i64) (y12_1.getD (y12_0.toNat * 1 + y9_0.toNat * 7) .dead) then (bif decide (0 ≤ y0_0) && decide (y0_0 < 7) then (bif decide (y0_0.toNat * 1 + y9_0.toNat * 7 + 3 ≤ y12_1.length + 2) && okK (some .i64) (y12_1.getD (y0_0.toNat * 1 + y9_0.toNat * 7) .dead) then (bif decide (y12_0.toNat * 1 + y0_0.toNat * 7 + 3 ≤ y12_1.length + 2) && okK (some .i64) (y12_1.getD (y12_0.toNat * 1 + y0_0.toNat * 7) .dead) then (bif decide (y12_0.toNat * 1 + y9_0.toNat * 7 + 3 ≤ y12_1.length + 2) then (((X83_0 y0_0 y9_0 y12_0 y12_1).all plainC && true && true) = true ∧ k12 ((IntKind.i64.wrap (y12_0 + 1)), (X83_0 y0_0 y9_0 y12_0 y12_1))) else False) else False) else False) else False) else False) else False) else False) else ((y12_1.all plainC && true && true) = true ∧ k9 ((IntKind.i64.wrap (y9_0 + 1)), (y12_1)))) z.1 z.2) z12) (0, (y9_1))) else ((y9_1.all plainC && true && true) = true ∧ k0 ((IntKind.i64.wrap (y0_0 + 1)), (y9_1)))) z.1 z.2) z9) (0, (y0_1))) else ((y0_1.all plainC && true && true) = true ∧ LoopP (fun (z13 : (Int)) (k13 : (Int) → Prop) => (fun (z : Int) => (fun (y13_0 : Int) => bif decide (y13_0 ≤ a0_0) then (bif decide (0 ≤ y13_0) && decide (y13_0 < 7) then (bif decide (y13_0.toNat * 1 + y13_0.toNat * 7 + 3 ≤ y0_1.length + 2) && okK (some .i64) (y0_1.getD (y13_0.toNat * 1 + y13_0.toNat * 7) .dead) then (bif decide (intC (y0_1.getD (y13_0.toNat * 1 + y13_0.toNat * 7) .dead) < 0) then (R (Ret.mk (.agg ((.v (.int .i64 (a0_0))) :: (.v (.bool .true)) :: (List.replicate 49 (Cell.v (Value.int .i64 0))))) [])) else ((y0_1.all plainC && true && true) = true ∧ k13 (IntKind.i64.wrap (y13_0 + 1)))) else False) else False) else (bif y0_1.length + 2 == 51 then (bif y0_1.length + 2 == 51 && true && true then (bif y0_1.length + 2 == 51 && true then (bif y0_1.all plainC then (R (Ret.mk (.agg ((.v (.int .i64 (a0_0))) :: (.v (.bool (a0_1))) :: (y0_1))) [])) else False) else False) else False) else False)) z) z13) 0)) z.1 z.2) z0) (0, (ic .i64 (ownT a0_0.toNat (List.map intC a0_2))))) else False))

set_option maxRecDepth 100000 in
theorem f83_sound (a0_0 : Int) (a0_1 : Bool) (a0_2 : List Cell) (hC : CtxOk Tryd.prog cx83.q.ctx) {r : Ret} (h : f83_wp a0_0 a0_1 a0_2 (fun r' => r' = r)) : SoundAt Tryd.prog 32 [(.agg ((.v (.int .i64 a0_0)) :: (.v (.bool a0_1)) :: a0_2))] r := by
  refine soundAtO (C := cx83) (oc := (.two (.n 3 .e) (.n 2 (.two .e .e)))) mixed hC F83_ok ?_
  rewrite [E83 a0_0 a0_1 a0_2]
  unfold f83_wp at h
  refine cond_mapE h (fun q1 h => ?_) (fun q1 h => ?_)
  · skip
    refine ck_mapE h (fun q2 h => ck_mapE h (fun q3 h => ck_mapE h (fun q5 h => ck_mapE h (fun q4 h => ?_))))
    exact h
  · skip
    refine cond_mapE h (fun q6 h => ?_) (fun q6 h => ?_)
    · skip
      refine ck_mapE h (fun q7 h => ck_mapE h (fun q8 h => ck_mapE h (fun q10 h => ck_mapE h (fun q9 h => ?_))))
      exact h
    · skip
      refine ck_mapE h (fun q11 h => ?_)
      obtain ⟨q243, h⟩ := h
      refine loop_of (I := (fun (z : Int × (List Cell)) => (I83_0_0 a0_0 a0_1 a0_2 z.1 z.2))) (fun z k0 h => ?_) h q243 rfl
      obtain ⟨y0_0, y0_1⟩ := z
      try dsimp only [sumE_l, sumE_r] at h
      refine bodyX_i (ob := (.two .e .e)) ?_
      rewrite [E83_0_0 a0_0 a0_1 a0_2 y0_0 y0_1]
      refine cond_mapE h (fun q148 h => ?_) (fun q148 h => ?_)
      · skip
        obtain ⟨q225, h⟩ := h
        refine loop_of (I := (fun (z : Int × (List Cell)) => (I83_9_0 a0_0 a0_1 a0_2 y0_0 y0_1 z.1 z.2))) (fun z k9 h => ?_) h q225 rfl
        obtain ⟨y9_0, y9_1⟩ := z
        try dsimp only [sumE_l, sumE_r] at h
        refine bodyX_i (ob := (.two .e .e)) ?_
        rewrite [E83_9_0 a0_0 a0_1 a0_2 y0_0 y0_1 y9_0 y9_1]
        refine cond_mapE h (fun q197 h => ?_) (fun q197 h => ?_)
        · skip
          obtain ⟨q223, h⟩ := h
          refine loop_of (I := (fun (z : Int × (List Cell)) => (I83_12_0 a0_0 a0_1 a0_2 y0_0 y0_1 y9_0 y9_1 z.1 z.2))) (fun z k12 h => ?_) h q223 rfl
          obtain ⟨y12_0, y12_1⟩ := z
          try dsimp only [sumE_l, sumE_r] at h
          refine bodyX_i (ob := (.two .e .e)) ?_
          rewrite [E83_12_0 a0_0 a0_1 a0_2 y0_0 y0_1 y9_0 y9_1 y12_0 y12_1]
          refine cond_mapE h (fun q213 h => ?_) (fun q213 h => ?_)
          · skip
            refine ck_mapE h (fun q214 h => ck_mapE h (fun q215 h => ck_mapE h (fun q216 h => ck_i q214 (ck_mapE h (fun q217 h => ck_mapE h (fun q218 h => ck_i q217 (ck_i q215 (ck_mapE h (fun q219 h => ck_i q214 (ck_i q215 (ck_mapE h (fun q220 h => ?_))))))))))))
            obtain ⟨q221, h⟩ := h
            exact again_i (y := ((IntKind.i64.wrap (y12_0 + 1)), (X83_0 y0_0 y9_0 y12_0 y12_1))) q221 h
          · skip
            obtain ⟨q222, h⟩ := h
            exact again_i (y := ((IntKind.i64.wrap (y9_0 + 1)), (y12_1))) q222 h
        · skip
          obtain ⟨q224, h⟩ := h
          exact again_i (y := ((IntKind.i64.wrap (y0_0 + 1)), (y9_1))) q224 h
      · skip
        obtain ⟨q242, h⟩ := h
        refine loop_of (I := (fun (z : Int) => (I83_13_0 a0_0 a0_1 a0_2 y0_0 y0_1 z))) (fun z k13 h => ?_) h q242 rfl
        obtain ⟨y13_0, rfl⟩ : ∃ y, y = z := ⟨z, rfl⟩
        try dsimp only [sumE_l, sumE_r] at h
        refine bodyX_i (ob := (.two (.two .e .e) .e)) ?_
        rewrite [E83_13_0 a0_0 a0_1 a0_2 y0_0 y0_1 y13_0]
        refine cond_mapE h (fun q233 h => ?_) (fun q233 h => ?_)
        · skip
          refine ck_mapE h (fun q234 h => ck_i q234 (ck_mapE h (fun q235 h => ?_)))
          refine cond_mapE h (fun q236 h => ?_) (fun q236 h => ?_)
          · skip
            exact h
          · skip
            obtain ⟨q237, h⟩ := h
            exact again_i (y := (IntKind.i64.wrap (y13_0 + 1))) q237 h
        · skip
          refine ck_mapE h (fun q238 h => ck_mapE h (fun q239 h => ck_mapE h (fun q241 h => ck_mapE h (fun q240 h => ?_))))
          exact h


def cx25 : CtxW := ⟨⟨[(32, sum83)], []⟩, 2, []⟩


def F25_b1 : SC := (.seq (.seq (.reg [(o1 16 (.mv (.t 5))), (o1 17 (.fld 0 (.t 3))), (o1 18 (.load .false .false 1 [(.some .i64)] (.t 17))), (o1 19 (.bin .leq (.t 16) (.t 18)))]) (.cond (.t 19) .skip (.exit 2))) (.seq (.blk 3 (.seq (.reg [(o1 22 (.mv (.t 4))), (o1 23 (.mv (.t 5))), (o1 24 (.bin .neq (.t 22) (.t 23)))]) (.cond (.t 24) (.reg [(o1 25 (.mv (.t 4))), (o1 26 (.mv (.t 5))), (o1 27 (.fld 2 (.t 3))), (o1 28 (.ixA 7 7 (.t 27) (.t 25))), (o1 29 (.ixA 7 1 (.t 28) (.t 26))), (.mk .none (.store .false 1 (.t 29) (.c (.int .i64 1099511627776))) .none)]) .skip))) (.reg [(o1 20 (.mv (.t 5))), (o1 21 (.bin .add (.t 20) (.c (.int .i64 1)))), (o1 5 (.mv (.t 21)))])))

def F25_c2 : SC := (.reg [(o1 14 (.mv (.t 4))), (o1 15 (.bin .add (.t 14) (.c (.int .i64 1)))), (o1 4 (.mv (.t 15)))])

def F25_b0 : SC := (.seq (.seq (.reg [(o1 10 (.mv (.t 4))), (o1 11 (.fld 0 (.t 3))), (o1 12 (.load .false .false 1 [(.some .i64)] (.t 11))), (o1 13 (.bin .leq (.t 10) (.t 12)))]) (.cond (.t 13) .skip (.exit 0))) (.seq (.blk 1 (.seq (.reg [(o1 5 (.mv (.c (.int .i64 0))))]) (.blk 2 (.loop [2, 3, 4, 5] [2, 3] [] F25_b1)))) F25_c2))

def F25_c3 : SC := (.seq (.reg [(o1 30 (.load .false .true 51 K51 (.t 3))), (o1 31 (.call .false .false (.f 32) [(.t 30)])), (oN (.store .false 51 (.t 2) (.t 31)))]) .ret)

def F25 : SFn := ⟨32, [(.cell 2 .true 51)], (.seq (.reg [(o1 2 (.alloc [(.int .i64 0), (.bool .false), (.int .i64 0), (.int .i64 0), (.int .i64 0), (.int .i64 0), (.int .i64 0), (.int .i64 0), (.int .i64 0), (.int .i64 0), (.int .i64 0), (.int .i64 0), (.int .i64 0), (.int .i64 0), (.int .i64 0), (.int .i64 0), (.int .i64 0), (.int .i64 0), (.int .i64 0), (.int .i64 0), (.int .i64 0), (.int .i64 0), (.int .i64 0), (.int .i64 0), (.int .i64 0), (.int .i64 0), (.int .i64 0), (.int .i64 0), (.int .i64 0), (.int .i64 0), (.int .i64 0), (.int .i64 0), (.int .i64 0), (.int .i64 0), (.int .i64 0), (.int .i64 0), (.int .i64 0), (.int .i64 0), (.int .i64 0), (.int .i64 0), (.int .i64 0), (.int .i64 0), (.int .i64 0), (.int .i64 0), (.int .i64 0), (.int .i64 0), (.int .i64 0), (.int .i64 0), (.int .i64 0), (.int .i64 0), (.int .i64 0)]))]) (.seq (.reg [(o1 6 (.mv (.t 0))), (o1 7 (.mm .true [(.t 6), (.c (.int .i64 0))])), (o1 8 (.mm .false [(.t 7), (.c (.int .i64 6))])), (o1 9 (.build [(.int .i64 0), (.bool .false), (.int .i64 0), (.int .i64 0), (.int .i64 0), (.int .i64 0), (.int .i64 0), (.int .i64 0), (.int .i64 0), (.int .i64 0), (.int .i64 0), (.int .i64 0), (.int .i64 0), (.int .i64 0), (.int .i64 0), (.int .i64 0), (.int .i64 0), (.int .i64 0), (.int .i64 0), (.int .i64 0), (.int .i64 0), (.int .i64 0), (.int .i64 0), (.int .i64 0), (.int .i64 0), (.int .i64 0), (.int .i64 0), (.int .i64 0), (.int .i64 0), (.int .i64 0), (.int .i64 0), (.int .i64 0), (.int .i64 0), (.int .i64 0), (.int .i64 0), (.int .i64 0), (.int .i64 0), (.int .i64 0), (.int .i64 0), (.int .i64 0), (.int .i64 0), (.int .i64 0), (.int .i64 0), (.int .i64 0), (.int .i64 0), (.int .i64 0), (.int .i64 0), (.int .i64 0), (.int .i64 0), (.int .i64 0), (.int .i64 0)] [(0, (1, (.t 8)))])), (o1 3 (.alloc [(.int .i64 0), (.bool .false), (.int .i64 0), (.int .i64 0), (.int .i64 0), (.int .i64 0), (.int .i64 0), (.int .i64 0), (.int .i64 0), (.int .i64 0), (.int .i64 0), (.int .i64 0), (.int .i64 0), (.int .i64 0), (.int .i64 0), (.int .i64 0), (.int .i64 0), (.int .i64 0), (.int .i64 0), (.int .i64 0), (.int .i64 0), (.int .i64 0), (.int .i64 0), (.int .i64 0), (.int .i64 0), (.int .i64 0), (.int .i64 0), (.int .i64 0), (.int .i64 0), (.int .i64 0), (.int .i64 0), (.int .i64 0), (.int .i64 0), (.int .i64 0), (.int .i64 0), (.int .i64 0), (.int .i64 0), (.int .i64 0), (.int .i64 0), (.int .i64 0), (.int .i64 0), (.int .i64 0), (.int .i64 0), (.int .i64 0), (.int .i64 0), (.int .i64 0), (.int .i64 0), (.int .i64 0), (.int .i64 0), (.int .i64 0), (.int .i64 0)])), (oN (.store .false 51 (.t 3) (.t 9)))]) (.seq (.seq (.reg [(o1 4 (.mv (.c (.int .i64 0))))]) (.blk 0 (.loop [2, 3, 4] [2, 3] [] F25_b0))) F25_c3)))⟩

theorem F25_ok : sfn Tryd.prog hints 18 [([2, 3, 4], ([2, 3], [])), ([2, 3, 4, 5], ([2, 3], []))] = some F25 := by kernel_rfl

abbrev X25_0 (a0 : Int) (y0_1 : List Cell) := (closeZ (if 6 < if 0 > a0 then 0 else a0 then 6 else if 0 > a0 then 0 else a0, false, List.map intC y0_1))

def I25_0_0 (a0 : Int) (y0_0 : Int) (y0_1 : List Cell) : St := (.mk (.no :: (.no :: ((.box 2 0 0) :: ((.box 3 0 0) :: ((.one (vi y0_0)) :: (n10 (n10 (.no :: (.no :: (.no :: (.no :: (.no :: (.no :: (.no :: [])))))))))))))) ([] :: ([] :: ([((.v (.int .i64 0)) :: (.v (.bool .false)) :: (List.replicate 49 (Cell.v (Value.int .i64 0))))] :: ([((.v (.int .i64 (if 6 < if 0 > a0 then 0 else a0 then 6 else if 0 > a0 then 0 else a0))) :: (.v (.bool .false)) :: (y0_1))] :: (e10 (e10 ([] :: ([] :: ([] :: ([] :: ([] :: ([] :: ([] :: ([] :: [])))))))))))))) (e10 (e10 (e10 ([] :: ([] :: []))))))

def I25_3_0 (a0 : Int) (y0_0 : Int) (y0_1 : List Cell) (y3_0 : Int) (y3_1 : List Cell) : St := (.mk (.no :: (.no :: ((.box 2 0 0) :: ((.box 3 0 0) :: ((.one (vi y0_0)) :: ((.one (vi y3_0)) :: (n10 (n10 (.no :: (.no :: (.no :: (.no :: (.no :: (.no :: [])))))))))))))) ([] :: ([] :: ([((.v (.int .i64 0)) :: (.v (.bool .false)) :: (List.replicate 49 (Cell.v (Value.int .i64 0))))] :: ([((.v (.int .i64 (if 6 < if 0 > a0 then 0 else a0 then 6 else if 0 > a0 then 0 else a0))) :: (.v (.bool .false)) :: (y3_1))] :: (e10 (e10 ([] :: ([] :: ([] :: ([] :: ([] :: ([] :: ([] :: ([] :: [])))))))))))))) (e10 (e10 (e10 ([] :: ([] :: []))))))

theorem E25_0_0 (a0 : Int) (y0_0 : Int) (y0_1 : List Cell) (N0 : Bool × St → Prop) (R : Ret → Prop) : wpO cx25 F25_b0 (.two .e .e) (I25_0_0 a0 y0_0 y0_1) (kLp (headW cx25.m [2, 3, 4] [2, 3] []) N0 (kBlk 0 (kSeq cx25 F25_c3 (endO cx25.m F25.rs R)))) = (bif decide (y0_0 ≤ if 6 < if 0 > a0 then 0 else a0 then 6 else if 0 > a0 then 0 else a0) then (LoopO (bodyX cx25 F25_b1) (headW cx25.m [2, 3, 4, 5] [2, 3] []) (kBlk 2 (kBlk 1 (kSeq cx25 F25_c2 (kLp (headW cx25.m [2, 3, 4] [2, 3] []) N0 (kBlk 0 (kSeq cx25 F25_c3 (endO cx25.m F25.rs R))))))) (y0_1.all plainC && true && true, (I25_3_0 a0 y0_0 y0_1 0 (y0_1)))) else (bif y0_1.length + 2 == 51 then (bif y0_1.all plainC && true && (y0_1.all (isInt .i64) && y0_1.length == 49) && (ic .i64 (X25_0 a0 y0_1).2.2).all (okC 0) && true && true && true && true then (bif (ic .i64 (X25_0 a0 y0_1).2.2).length + 2 == 51 && true && true then (bif (ic .i64 (X25_0 a0 y0_1).2.2).length + 2 == 51 && true then (bif (ic .i64 (X25_0 a0 y0_1).2.2).all plainC then (R (Ret.mk (.agg ((.v (.int .i64 ((X25_0 a0 y0_1).1))) :: (.v (.bool ((X25_0 a0 y0_1).2.1))) :: (ic .i64 (X25_0 a0 y0_1).2.2))) [])) else False) else False) else False) else False) else False)) := by kernel_rfl

theorem E25_3_0 (a0 : Int) (y0_0 : Int) (y0_1 : List Cell) (y3_0 : Int) (y3_1 : List Cell) (N0 : Bool × St → Prop) (N3 : Bool × St → Prop) (R : Ret → Prop) : wpO cx25 F25_b1 (.two (.two .e .e) .e) (I25_3_0 a0 y0_0 y0_1 y3_0 y3_1) (kLp (headW cx25.m [2, 3, 4, 5] [2, 3] []) N3 (kBlk 2 (kBlk 1 (kSeq cx25 F25_c2 (kLp (headW cx25.m [2, 3, 4] [2, 3] []) N0 (kBlk 0 (kSeq cx25 F25_c3 (endO cx25.m F25.rs R)))))))) = (bif decide (y3_0 ≤ if 6 < if 0 > a0 then 0 else a0 then 6 else if 0 > a0 then 0 else a0) then (bif y0_0 != y3_0 then (bif decide (0 ≤ y0_0) && decide (y0_0 < 7) then (bif decide (0 ≤ y3_0) && decide (y3_0 < 7) then (bif decide (y3_0.toNat * 1 + y0_0.toNat * 7 + 3 ≤ y3_1.length + 2) then (N3 ((y3_1.set (y3_0.toNat * 1 + y0_0.toNat * 7) (Cell.v (Value.int .i64 1099511627776))).all plainC && true && true, (I25_3_0 a0 y0_0 y0_1 (IntKind.i64.wrap (y3_0 + 1)) (y3_1.set (y3_0.toNat * 1 + y0_0.toNat * 7) (Cell.v (Value.int .i64 1099511627776)))))) else False) else False) else False) else (N3 (y3_1.all plainC && true && true, (I25_3_0 a0 y0_0 y0_1 (IntKind.i64.wrap (y3_0 + 1)) (y3_1))))) else (N0 (y3_1.all plainC && true && true, (I25_0_0 a0 (IntKind.i64.wrap (y0_0 + 1)) (y3_1))))) := by kernel_rfl

theorem E25 (a0 : Int) (R : Ret → Prop) : wpFO cx25 F25 .e [(.one (.v (.int .i64 a0)))] R = (LoopO (bodyX cx25 F25_b0) (headW cx25.m [2, 3, 4] [2, 3] []) (kBlk 0 (kSeq cx25 F25_c3 (endO cx25.m F25.rs R))) (true, (I25_0_0 a0 0 (List.replicate 49 (Cell.v (Value.int .i64 0)))))) := by kernel_rfl

def f25_wp (a0 : Int) (R : Ret → Prop) : Prop := LoopP (fun (z0 : (Int × (List Cell))) (k0 : (Int × (List Cell)) → Prop) => (fun (z : Int × (List Cell)) => (fun (y0_0 : Int) (y0_1 : List Cell) => bif decide (y0_0 ≤ if 6 < if 0 > a0 then 0 else a0 then 6 else if 0 > a0 then 0 else a0) then ((y0_1.all plainC && true && true) = true ∧ LoopP (fun (z3 : (Int × (List Cell))) (k3 : (Int × (List Cell)) → Prop) => (fun (z : Int × (List Cell)) => (fun (y3_0 : Int) (y3_1 : List Cell) => bif decide (y3_0 ≤ if 6 < if 0 > a0 then 0 else a0 then 6 else if 0 > a0 then 0 else a0) then (bif y0_0 != y3_0 then (bif decide (0 ≤ y0_0) && decide (y0_0 < 7) then (bif decide (0 ≤ y3_0) && decide (y3_0 < 7) then (bif decide (y3_0.toNat * 1 + y0_0.toNat * 7 + 3 ≤ y3_1.length + 2) then (((y3_1.set (y3_0.toNat * 1 + y0_0.toNat * 7) (Cell.v (Value.int .i64 1099511627776))).all plainC && true && true) = true ∧ k3 ((IntKind.i64.wrap (y3_0 + 1)), (y3_1.set (y3_0.toNat * 1 + y0_0.toNat * 7) (Cell.v (Value.int .i64 1099511627776))))) else False) else False) else False) else ((y3_1.all plainC && true && true) = true ∧ k3 ((IntKind.i64.wrap (y3_0 + 1)), (y3_1)))) else ((y3_1.all plainC && true && true) = true ∧ k0 ((IntKind.i64.wrap (y0_0 + 1)), (y3_1)))) z.1 z.2) z3) (0, (y0_1))) else (bif y0_1.length + 2 == 51 then (bif y0_1.all plainC && true && (y0_1.all (isInt .i64) && y0_1.length == 49) && (ic .i64 (X25_0 a0 y0_1).2.2).all (okC 0) && true && true && true && true then (bif (ic .i64 (X25_0 a0 y0_1).2.2).length + 2 == 51 && true && true then (bif (ic .i64 (X25_0 a0 y0_1).2.2).length + 2 == 51 && true then (bif (ic .i64 (X25_0 a0 y0_1).2.2).all plainC then (R (Ret.mk (.agg ((.v (.int .i64 ((X25_0 a0 y0_1).1))) :: (.v (.bool ((X25_0 a0 y0_1).2.1))) :: (ic .i64 (X25_0 a0 y0_1).2.2))) [])) else False) else False) else False) else False) else False)) z.1 z.2) z0) (0, (List.replicate 49 (Cell.v (Value.int .i64 0))))

set_option maxRecDepth 100000 in
theorem f25_sound (a0 : Int) (hC : CtxOk Tryd.prog cx25.q.ctx) {r : Ret} (h : f25_wp a0 (fun r' => r' = r)) : SoundAt Tryd.prog 18 [(.one (.v (.int .i64 a0)))] r := by
  refine soundAtO (C := cx25) (oc := .e) mixed hC F25_ok ?_
  rewrite [E25 a0]
  unfold f25_wp at h
  refine loop_of (I := (fun (z : Int × (List Cell)) => (I25_0_0 a0 z.1 z.2))) (fun z k0 h => ?_) h rfl rfl
  obtain ⟨y0_0, y0_1⟩ := z
  try dsimp only [sumE_l, sumE_r] at h
  refine bodyX_i (ob := (.two .e .e)) ?_
  rewrite [E25_0_0 a0 y0_0 y0_1]
  refine cond_mapE h (fun q34 h => ?_) (fun q34 h => ?_)
  · skip
    obtain ⟨q52, h⟩ := h
    refine loop_of (I := (fun (z : Int × (List Cell)) => (I25_3_0 a0 y0_0 y0_1 z.1 z.2))) (fun z k3 h => ?_) h q52 rfl
    obtain ⟨y3_0, y3_1⟩ := z
    try dsimp only [sumE_l, sumE_r] at h
    refine bodyX_i (ob := (.two (.two .e .e) .e)) ?_
    rewrite [E25_3_0 a0 y0_0 y0_1 y3_0 y3_1]
    refine cond_mapE h (fun q44 h => ?_) (fun q44 h => ?_)
    · skip
      refine cond_mapE h (fun q45 h => ?_) (fun q45 h => ?_)
      · skip
        refine ck_mapE h (fun q46 h => ck_mapE h (fun q47 h => ck_mapE h (fun q48 h => ?_)))
        obtain ⟨q49, h⟩ := h
        exact again_i (y := ((IntKind.i64.wrap (y3_0 + 1)), (y3_1.set (y3_0.toNat * 1 + y0_0.toNat * 7) (Cell.v (Value.int .i64 1099511627776))))) q49 h
      · skip
        obtain ⟨q50, h⟩ := h
        exact again_i (y := ((IntKind.i64.wrap (y3_0 + 1)), (y3_1))) q50 h
    · skip
      obtain ⟨q51, h⟩ := h
      exact again_i (y := ((IntKind.i64.wrap (y0_0 + 1)), (y3_1))) q51 h
  · skip
    refine ck_mapE h (fun q53 h => ck_mapE h (fun q54 h => ck_mapE h (fun q55 h => ck_mapE h (fun q57 h => ck_mapE h (fun q56 h => ?_)))))
    exact h


def cx26 : CtxW := ⟨⟨[(33, sum84), (32, sum83)], []⟩, 2, []⟩


def F26 : SFn := ⟨40, [(.cell 8 .true 51)], (.seq (.reg [(o1 4 (.box (.t 0))), (o1 8 (.alloc [(.int .i64 0), (.bool .false), (.int .i64 0), (.int .i64 0), (.int .i64 0), (.int .i64 0), (.int .i64 0), (.int .i64 0), (.int .i64 0), (.int .i64 0), (.int .i64 0), (.int .i64 0), (.int .i64 0), (.int .i64 0), (.int .i64 0), (.int .i64 0), (.int .i64 0), (.int .i64 0), (.int .i64 0), (.int .i64 0), (.int .i64 0), (.int .i64 0), (.int .i64 0), (.int .i64 0), (.int .i64 0), (.int .i64 0), (.int .i64 0), (.int .i64 0), (.int .i64 0), (.int .i64 0), (.int .i64 0), (.int .i64 0), (.int .i64 0), (.int .i64 0), (.int .i64 0), (.int .i64 0), (.int .i64 0), (.int .i64 0), (.int .i64 0), (.int .i64 0), (.int .i64 0), (.int .i64 0), (.int .i64 0), (.int .i64 0), (.int .i64 0), (.int .i64 0), (.int .i64 0), (.int .i64 0), (.int .i64 0), (.int .i64 0), (.int .i64 0)]))]) (.seq (.seq (.reg [(o1 9 (.load .false .true 51 K51 (.t 4))), (o1 10 (.mv (.t 1))), (o1 11 (.call .false .false (.f 33) [(.t 9), (.t 10)])), (o1 12 (.un .not (.t 11))), (o1 13 (.mv (.t 12))), (oS 14 (.load .false .true 51 K51 (.t 4)) (.some (13, .false))), (oS 15 (.mv (.t 2)) (.some (13, .false))), (oS 16 (.call .false .false (.f 33) [(.t 14), (.t 15)]) (.some (13, .false))), (oS 17 (.un .not (.t 16)) (.some (13, .false))), (o1 18 (.pick (.t 13) (.c (.bool .true)) (.t 17)))]) (.cond (.t 18) (.seq (.reg [(o1 19 (.load .false .true 51 K51 (.t 4))), (oN (.store .false 51 (.t 8) (.t 19)))]) .ret) .skip)) (.seq (.reg [(o1 20 (.mv (.t 1))), (o1 21 (.bin .add (.t 20) (.c (.int .i64 1)))), (o1 22 (.mv (.t 2))), (o1 23 (.bin .add (.t 22) (.c (.int .i64 1)))), (o1 24 (.mv (.t 1))), (o1 25 (.bin .add (.t 24) (.c (.int .i64 1)))), (o1 26 (.mv (.t 2))), (o1 27 (.bin .add (.t 26) (.c (.int .i64 1)))), (o1 28 (.fld 2 (.t 4))), (o1 29 (.ixA 7 7 (.t 28) (.t 25))), (o1 30 (.ixA 7 1 (.t 29) (.t 27))), (o1 31 (.load .false .false 1 [(.some .i64)] (.t 30))), (o1 32 (.mv (.t 3))), (o1 33 (.mm .true [(.t 32), (.c (.int .i64 (-1099511627776)))])), (o1 34 (.mm .false [(.t 31), (.t 33)])), (o1 35 (.fld 2 (.t 4))), (o1 36 (.ixA 7 7 (.t 35) (.t 21))), (o1 37 (.ixA 7 1 (.t 36) (.t 23))), (oN (.store .false 1 (.t 37) (.t 34)))]) (.seq (.reg [(o1 38 (.load .false .true 51 K51 (.t 4))), (o1 39 (.call .false .false (.f 32) [(.t 38)])), (oN (.store .false 51 (.t 8) (.t 39)))]) .ret))))⟩

theorem F26_ok : sfn Tryd.prog hints 30 [] = some F26 := by kernel_rfl

abbrev X26_0 (a0_2 : List Cell) (a1 : Int) (a2 : Int) (a3 : Int) := (a0_2.set ((IntKind.i64.wrap (a2 + 1)).toNat * 1 + (IntKind.i64.wrap (a1 + 1)).toNat * 7) (Cell.v (Value.int .i64 (if (if -1099511627776 > a3 then -1099511627776 else a3) < intC (a0_2.getD ((IntKind.i64.wrap (a2 + 1)).toNat * 1 + (IntKind.i64.wrap (a1 + 1)).toNat * 7) .dead) then if -1099511627776 > a3 then -1099511627776 else a3 else intC (a0_2.getD ((IntKind.i64.wrap (a2 + 1)).toNat * 1 + (IntKind.i64.wrap (a1 + 1)).toNat * 7) .dead)))))
abbrev X26_1 (a0_0 : Int) (a0_1 : Bool) (a0_2 : List Cell) (a1 : Int) (a2 : Int) (a3 : Int) := (ic .i64 (closeZ (a0_0, a0_1, List.map intC (X26_0 a0_2 a1 a2 a3))).2.2)

theorem E26 (a0_0 : Int) (a0_1 : Bool) (a0_2 : List Cell) (a1 : Int) (a2 : Int) (a3 : Int) (R : Ret → Prop) : wpFO cx26 F26 (.two (.n 3 .e) (.n 2 (.two .e .e))) [(.agg ((.v (.int .i64 a0_0)) :: (.v (.bool a0_1)) :: a0_2)), (.one (.v (.int .i64 a1))), (.one (.v (.int .i64 a2))), (.one (.v (.int .i64 a3)))] R = (bif a0_2.length + 2 == 51 then (bif a0_2.all plainC && true && (a0_2.all (isInt .i64) && a0_2.length == 49 && true) && true && true && true && true && true then (bif !norP a0_0 a0_1 a1 then (bif a0_2.length + 2 == 51 then (bif a0_2.length + 2 == 51 && true && true then (bif a0_2.length + 2 == 51 && true then (bif a0_2.all plainC then (R (Ret.mk (.agg ((.v (.int .i64 (a0_0))) :: (.v (.bool (a0_1))) :: (a0_2))) [])) else False) else False) else False) else False) else (bif a0_2.length + 2 == 51 then (bif a0_2.all plainC && true && (a0_2.all (isInt .i64) && a0_2.length == 49 && true) && true && true && true && true && true then (bif !norP a0_0 a0_1 a2 then (bif a0_2.length + 2 == 51 then (bif a0_2.length + 2 == 51 && true && true then (bif a0_2.length + 2 == 51 && true then (bif a0_2.all plainC then (R (Ret.mk (.agg ((.v (.int .i64 (a0_0))) :: (.v (.bool (a0_1))) :: (a0_2))) [])) else False) else False) else False) else False) else (bif decide (0 ≤ IntKind.i64.wrap (a1 + 1)) && decide (IntKind.i64.wrap (a1 + 1) < 7) then (bif decide (0 ≤ IntKind.i64.wrap (a2 + 1)) && decide (IntKind.i64.wrap (a2 + 1) < 7) then (bif decide ((IntKind.i64.wrap (a2 + 1)).toNat * 1 + (IntKind.i64.wrap (a1 + 1)).toNat * 7 + 3 ≤ a0_2.length + 2) && okK (some .i64) (a0_2.getD ((IntKind.i64.wrap (a2 + 1)).toNat * 1 + (IntKind.i64.wrap (a1 + 1)).toNat * 7) .dead) then (bif decide (0 ≤ IntKind.i64.wrap (a1 + 1)) && decide (IntKind.i64.wrap (a1 + 1) < 7) then (bif decide (0 ≤ IntKind.i64.wrap (a2 + 1)) && decide (IntKind.i64.wrap (a2 + 1) < 7) then (bif decide ((IntKind.i64.wrap (a2 + 1)).toNat * 1 + (IntKind.i64.wrap (a1 + 1)).toNat * 7 + 3 ≤ a0_2.length + 2) then (bif (X26_0 a0_2 a1 a2 a3).length + 2 == 51 then (bif (X26_0 a0_2 a1 a2 a3).all plainC && true && ((X26_0 a0_2 a1 a2 a3).all (isInt .i64) && (X26_0 a0_2 a1 a2 a3).length == 49) && (X26_1 a0_0 a0_1 a0_2 a1 a2 a3).all (okC 0) && true && true && true && true then (bif (X26_1 a0_0 a0_1 a0_2 a1 a2 a3).length + 2 == 51 && true && true then (bif (X26_1 a0_0 a0_1 a0_2 a1 a2 a3).length + 2 == 51 && true then (bif (X26_1 a0_0 a0_1 a0_2 a1 a2 a3).all plainC then (R (Ret.mk (.agg ((.v (.int .i64 ((closeZ (a0_0, a0_1, List.map intC (X26_0 a0_2 a1 a2 a3))).1))) :: (.v (.bool ((closeZ (a0_0, a0_1, List.map intC (X26_0 a0_2 a1 a2 a3))).2.1))) :: (X26_1 a0_0 a0_1 a0_2 a1 a2 a3))) [])) else False) else False) else False) else False) else False) else False) else False) else False) else False) else False) else False)) else False) else False)) else False) else False) := by kernel_rfl

def f26_wp (a0_0 : Int) (a0_1 : Bool) (a0_2 : List Cell) (a1 : Int) (a2 : Int) (a3 : Int) (R : Ret → Prop) : Prop := bif a0_2.length + 2 == 51 then (bif a0_2.all plainC && true && (a0_2.all (isInt .i64) && a0_2.length == 49 && true) && true && true && true && true && true then (bif !norP a0_0 a0_1 a1 then (bif a0_2.length + 2 == 51 && true && true then (bif a0_2.length + 2 == 51 && true then (bif a0_2.all plainC then (R (Ret.mk (.agg ((.v (.int .i64 (a0_0))) :: (.v (.bool (a0_1))) :: (a0_2))) [])) else False) else False) else False) else (bif !norP a0_0 a0_1 a2 then (bif a0_2.length + 2 == 51 && true && true then (bif a0_2.length + 2 == 51 && true then (bif a0_2.all plainC then (R (Ret.mk (.agg ((.v (.int .i64 (a0_0))) :: (.v (.bool (a0_1))) :: (a0_2))) [])) else False) else False) else False) else (bif decide (0 ≤ IntKind.i64.wrap (a1 + 1)) && decide (IntKind.i64.wrap (a1 + 1) < 7) then (bif decide (0 ≤ IntKind.i64.wrap (a2 + 1)) && decide (IntKind.i64.wrap (a2 + 1) < 7) then (bif decide ((IntKind.i64.wrap (a2 + 1)).toNat * 1 + (IntKind.i64.wrap (a1 + 1)).toNat * 7 + 3 ≤ a0_2.length + 2) && okK (some .i64) (a0_2.getD ((IntKind.i64.wrap (a2 + 1)).toNat * 1 + (IntKind.i64.wrap (a1 + 1)).toNat * 7) .dead) then (bif decide ((IntKind.i64.wrap (a2 + 1)).toNat * 1 + (IntKind.i64.wrap (a1 + 1)).toNat * 7 + 3 ≤ a0_2.length + 2) then (bif (X26_0 a0_2 a1 a2 a3).length + 2 == 51 then (bif (X26_0 a0_2 a1 a2 a3).all plainC && true && ((X26_0 a0_2 a1 a2 a3).all (isInt .i64) && (X26_0 a0_2 a1 a2 a3).length == 49) && (X26_1 a0_0 a0_1 a0_2 a1 a2 a3).all (okC 0) && true && true && true && true then (bif (X26_1 a0_0 a0_1 a0_2 a1 a2 a3).length + 2 == 51 && true && true then (bif (X26_1 a0_0 a0_1 a0_2 a1 a2 a3).length + 2 == 51 && true then (bif (X26_1 a0_0 a0_1 a0_2 a1 a2 a3).all plainC then (R (Ret.mk (.agg ((.v (.int .i64 ((closeZ (a0_0, a0_1, List.map intC (X26_0 a0_2 a1 a2 a3))).1))) :: (.v (.bool ((closeZ (a0_0, a0_1, List.map intC (X26_0 a0_2 a1 a2 a3))).2.1))) :: (X26_1 a0_0 a0_1 a0_2 a1 a2 a3))) [])) else False) else False) else False) else False) else False) else False) else False) else False) else False))) else False) else False

set_option maxRecDepth 100000 in
theorem f26_sound (a0_0 : Int) (a0_1 : Bool) (a0_2 : List Cell) (a1 : Int) (a2 : Int) (a3 : Int) (hC : CtxOk Tryd.prog cx26.q.ctx) {r : Ret} (h : f26_wp a0_0 a0_1 a0_2 a1 a2 a3 (fun r' => r' = r)) : SoundAt Tryd.prog 30 [(.agg ((.v (.int .i64 a0_0)) :: (.v (.bool a0_1)) :: a0_2)), (.one (.v (.int .i64 a1))), (.one (.v (.int .i64 a2))), (.one (.v (.int .i64 a3)))] r := by
  refine soundAtO (C := cx26) (oc := (.two (.n 3 .e) (.n 2 (.two .e .e)))) mixed hC F26_ok ?_
  rewrite [E26 a0_0 a0_1 a0_2 a1 a2 a3]
  unfold f26_wp at h
  refine ck_mapE h (fun q1 h => ck_mapE h (fun q2 h => ?_))
  refine cond_mapE h (fun q3 h => ?_) (fun q3 h => ?_)
  · skip
    refine ck_i q1 (ck_mapE h (fun q4 h => ck_mapE h (fun q6 h => ck_mapE h (fun q5 h => ?_))))
    exact h
  · skip
    refine ck_i q1 (ck_i q2 (?_))
    refine cond_mapE h (fun q7 h => ?_) (fun q7 h => ?_)
    · skip
      refine ck_i q1 (ck_mapE h (fun q8 h => ck_mapE h (fun q10 h => ck_mapE h (fun q9 h => ?_))))
      exact h
    · skip
      refine ck_mapE h (fun q11 h => ck_mapE h (fun q12 h => ck_mapE h (fun q13 h => ck_i q11 (ck_i q12 (ck_mapE h (fun q14 h => ck_mapE h (fun q15 h => ck_mapE h (fun q16 h => ck_mapE h (fun q17 h => ck_mapE h (fun q19 h => ck_mapE h (fun q18 h => ?_)))))))))))
      exact h


def cx37 : CtxW := ⟨⟨[(24, sum85), (32, sum83)], [(31, psum87)]⟩, 2, []⟩


def F37 : SFn := ⟨15, [(.cell 4 .true 51)], (.seq (.reg [(o1 2 (.box (.t 0))), (o1 4 (.alloc [(.int .i64 0), (.bool .false), (.int .i64 0), (.int .i64 0), (.int .i64 0), (.int .i64 0), (.int .i64 0), (.int .i64 0), (.int .i64 0), (.int .i64 0), (.int .i64 0), (.int .i64 0), (.int .i64 0), (.int .i64 0), (.int .i64 0), (.int .i64 0), (.int .i64 0), (.int .i64 0), (.int .i64 0), (.int .i64 0), (.int .i64 0), (.int .i64 0), (.int .i64 0), (.int .i64 0), (.int .i64 0), (.int .i64 0), (.int .i64 0), (.int .i64 0), (.int .i64 0), (.int .i64 0), (.int .i64 0), (.int .i64 0), (.int .i64 0), (.int .i64 0), (.int .i64 0), (.int .i64 0), (.int .i64 0), (.int .i64 0), (.int .i64 0), (.int .i64 0), (.int .i64 0), (.int .i64 0), (.int .i64 0), (.int .i64 0), (.int .i64 0), (.int .i64 0), (.int .i64 0), (.int .i64 0), (.int .i64 0), (.int .i64 0), (.int .i64 0)]))]) (.seq (.seq (.reg [(o1 5 (.load .false .true 51 K51 (.t 2))), (o1 6 (.mv (.t 1))), (o1 7 (.call .false .false (.f 24) [(.t 5), (.t 6)])), (o1 8 (.un .not (.t 7)))]) (.cond (.t 8) (.seq (.reg [(o1 9 (.load .false .true 51 K51 (.t 2))), (oN (.store .false 51 (.t 4) (.t 9)))]) .ret) .skip)) (.seq (.reg [(o1 10 (.mv (.t 1))), (o1 11 (.bin .add (.t 10) (.c (.int .i64 1)))), (o1 12 (.pcall 31 (.t 2) [(.t 11)]))]) (.seq (.reg [(o1 13 (.load .false .true 51 K51 (.t 2))), (o1 14 (.call .false .false (.f 32) [(.t 13)])), (oN (.store .false 51 (.t 4) (.t 14)))]) .ret))))⟩

theorem F37_ok : sfn Tryd.prog hints 17 [] = some F37 := by kernel_rfl

abbrev X37_0 (a0_0 : Int) (a0_2 : List Cell) (a1 : Int) := (ic .i64 (forT (IntKind.i64.wrap (a1 + 1)).toNat (a0_0.toNat + 1) (List.map intC a0_2)))
abbrev X37_1 (a0_0 : Int) (a0_1 : Bool) (a0_2 : List Cell) (a1 : Int) := (ic .i64 (closeZ (a0_0, a0_1, List.map intC (X37_0 a0_0 a0_2 a1))).2.2)

theorem E37 (a0_0 : Int) (a0_1 : Bool) (a0_2 : List Cell) (a1 : Int) (R : Ret → Prop) : wpFO cx37 F37 (.two .e .e) [(.agg ((.v (.int .i64 a0_0)) :: (.v (.bool a0_1)) :: a0_2)), (.one (.v (.int .i64 a1)))] R = (bif a0_2.length + 2 == 51 then (bif a0_2.all plainC && true && (a0_2.all (isInt .i64) && a0_2.length == 49 && true) && true && true && true && true && true then (bif !varP a0_0 a0_1 a1 then (bif a0_2.length + 2 == 51 then (bif a0_2.length + 2 == 51 && true && true then (bif a0_2.length + 2 == 51 && true then (bif a0_2.all plainC then (R (Ret.mk (.agg ((.v (.int .i64 (a0_0))) :: (.v (.bool (a0_1))) :: (a0_2))) [])) else False) else False) else False) else False) else (bif a0_2.all (isInt .i64) && a0_2.length == 49 && okN a0_0 && true && decide (0 ≤ IntKind.i64.wrap (a1 + 1)) && decide (IntKind.i64.wrap (a1 + 1) ≤ 6) && (X37_0 a0_0 a0_2 a1).length + 2 == a0_2.length + 2 && a0_2.all flatC && (X37_0 a0_0 a0_2 a1).all flatC then (bif (X37_0 a0_0 a0_2 a1).length + 2 == 51 then (bif (X37_0 a0_0 a0_2 a1).all plainC && true && ((X37_0 a0_0 a0_2 a1).all (isInt .i64) && (X37_0 a0_0 a0_2 a1).length == 49) && (X37_1 a0_0 a0_1 a0_2 a1).all (okC 0) && true && true && true && true then (bif (X37_1 a0_0 a0_1 a0_2 a1).length + 2 == 51 && true && true then (bif (X37_1 a0_0 a0_1 a0_2 a1).length + 2 == 51 && true then (bif (X37_1 a0_0 a0_1 a0_2 a1).all plainC then (R (Ret.mk (.agg ((.v (.int .i64 ((closeZ (a0_0, a0_1, List.map intC (X37_0 a0_0 a0_2 a1))).1))) :: (.v (.bool ((closeZ (a0_0, a0_1, List.map intC (X37_0 a0_0 a0_2 a1))).2.1))) :: (X37_1 a0_0 a0_1 a0_2 a1))) [])) else False) else False) else False) else False) else False) else False)) else False) else False) := by kernel_rfl

def f37_wp (a0_0 : Int) (a0_1 : Bool) (a0_2 : List Cell) (a1 : Int) (R : Ret → Prop) : Prop := bif a0_2.length + 2 == 51 then (bif a0_2.all plainC && true && (a0_2.all (isInt .i64) && a0_2.length == 49 && true) && true && true && true && true && true then (bif !varP a0_0 a0_1 a1 then (bif a0_2.length + 2 == 51 && true && true then (bif a0_2.length + 2 == 51 && true then (bif a0_2.all plainC then (R (Ret.mk (.agg ((.v (.int .i64 (a0_0))) :: (.v (.bool (a0_1))) :: (a0_2))) [])) else False) else False) else False) else (bif a0_2.all (isInt .i64) && a0_2.length == 49 && okN a0_0 && true && decide (0 ≤ IntKind.i64.wrap (a1 + 1)) && decide (IntKind.i64.wrap (a1 + 1) ≤ 6) && (X37_0 a0_0 a0_2 a1).length + 2 == a0_2.length + 2 && a0_2.all flatC && (X37_0 a0_0 a0_2 a1).all flatC then (bif (X37_0 a0_0 a0_2 a1).length + 2 == 51 then (bif (X37_0 a0_0 a0_2 a1).all plainC && true && ((X37_0 a0_0 a0_2 a1).all (isInt .i64) && (X37_0 a0_0 a0_2 a1).length == 49) && (X37_1 a0_0 a0_1 a0_2 a1).all (okC 0) && true && true && true && true then (bif (X37_1 a0_0 a0_1 a0_2 a1).length + 2 == 51 && true && true then (bif (X37_1 a0_0 a0_1 a0_2 a1).length + 2 == 51 && true then (bif (X37_1 a0_0 a0_1 a0_2 a1).all plainC then (R (Ret.mk (.agg ((.v (.int .i64 ((closeZ (a0_0, a0_1, List.map intC (X37_0 a0_0 a0_2 a1))).1))) :: (.v (.bool ((closeZ (a0_0, a0_1, List.map intC (X37_0 a0_0 a0_2 a1))).2.1))) :: (X37_1 a0_0 a0_1 a0_2 a1))) [])) else False) else False) else False) else False) else False) else False)) else False) else False

set_option maxRecDepth 100000 in
theorem f37_sound (a0_0 : Int) (a0_1 : Bool) (a0_2 : List Cell) (a1 : Int) (hC : CtxOk Tryd.prog cx37.q.ctx) {r : Ret} (h : f37_wp a0_0 a0_1 a0_2 a1 (fun r' => r' = r)) : SoundAt Tryd.prog 17 [(.agg ((.v (.int .i64 a0_0)) :: (.v (.bool a0_1)) :: a0_2)), (.one (.v (.int .i64 a1)))] r := by
  refine soundAtO (C := cx37) (oc := (.two .e .e)) mixed hC F37_ok ?_
  rewrite [E37 a0_0 a0_1 a0_2 a1]
  unfold f37_wp at h
  refine ck_mapE h (fun q1 h => ck_mapE h (fun q2 h => ?_))
  refine cond_mapE h (fun q3 h => ?_) (fun q3 h => ?_)
  · skip
    refine ck_i q1 (ck_mapE h (fun q4 h => ck_mapE h (fun q6 h => ck_mapE h (fun q5 h => ?_))))
    exact h
  · skip
    refine ck_mapE h (fun q7 h => ck_mapE h (fun q8 h => ck_mapE h (fun q9 h => ck_mapE h (fun q10 h => ck_mapE h (fun q12 h => ck_mapE h (fun q11 h => ?_))))))
    exact h


def cx86 : CtxW := ⟨⟨[(32, sum83)], []⟩, 2, []⟩


def F86_b0 : SC := (.seq (.seq (.reg [(o1 8 (.mv (.t 7))), (o1 9 (.fld 0 (.t 3))), (o1 10 (.load .false .false 1 [(.some .i64)] (.t 9))), (o1 11 (.bin .leq (.t 8) (.t 10)))]) (.cond (.t 11) .skip (.exit 0))) (.seq (.blk 1 (.seq (.reg [(o1 14 (.mv (.t 7))), (o1 15 (.mv (.t 1))), (o1 16 (.bin .neq (.t 14) (.t 15)))]) (.cond (.t 16) (.seq (.reg [(o1 17 (.mv (.t 1))), (o1 18 (.mv (.t 7))), (o1 19 (.fld 2 (.t 3))), (o1 20 (.ixA 7 7 (.t 19) (.t 17))), (o1 21 (.ixA 7 1 (.t 20) (.t 18))), (o1 22 (.load .false .false 1 [(.some .i64)] (.t 21))), (o1 23 (.mv (.t 2))), (o1 24 (.bin .add (.t 22) (.t 23))), (o1 25 (.fld 2 (.t 3))), (o1 26 (.ixA 7 7 (.t 25) (.t 17))), (o1 27 (.ixA 7 1 (.t 26) (.t 18))), (oN (.store .false 1 (.t 27) (.t 24)))]) (.reg [(o1 28 (.mv (.t 7))), (o1 29 (.mv (.t 1))), (o1 30 (.fld 2 (.t 3))), (o1 31 (.ixA 7 7 (.t 30) (.t 28))), (o1 32 (.ixA 7 1 (.t 31) (.t 29))), (o1 33 (.load .false .false 1 [(.some .i64)] (.t 32))), (o1 34 (.mv (.t 2))), (o1 35 (.bin .sub (.t 33) (.t 34))), (o1 36 (.fld 2 (.t 3))), (o1 37 (.ixA 7 7 (.t 36) (.t 28))), (o1 38 (.ixA 7 1 (.t 37) (.t 29))), (oN (.store .false 1 (.t 38) (.t 35)))])) .skip))) (.reg [(o1 12 (.mv (.t 7))), (o1 13 (.bin .add (.t 12) (.c (.int .i64 1)))), (o1 7 (.mv (.t 13)))])))

def F86_c1 : SC := (.seq (.reg [(o1 39 (.load .false .true 51 K51 (.t 3))), (o1 40 (.call .false .false (.f 32) [(.t 39)])), (oN (.store .false 51 (.t 6) (.t 40)))]) .ret)

def F86 : SFn := ⟨41, [(.cell 6 .true 51)], (.seq (.reg [(o1 3 (.box (.t 0))), (o1 6 (.alloc [(.int .i64 0), (.bool .false), (.int .i64 0), (.int .i64 0), (.int .i64 0), (.int .i64 0), (.int .i64 0), (.int .i64 0), (.int .i64 0), (.int .i64 0), (.int .i64 0), (.int .i64 0), (.int .i64 0), (.int .i64 0), (.int .i64 0), (.int .i64 0), (.int .i64 0), (.int .i64 0), (.int .i64 0), (.int .i64 0), (.int .i64 0), (.int .i64 0), (.int .i64 0), (.int .i64 0), (.int .i64 0), (.int .i64 0), (.int .i64 0), (.int .i64 0), (.int .i64 0), (.int .i64 0), (.int .i64 0), (.int .i64 0), (.int .i64 0), (.int .i64 0), (.int .i64 0), (.int .i64 0), (.int .i64 0), (.int .i64 0), (.int .i64 0), (.int .i64 0), (.int .i64 0), (.int .i64 0), (.int .i64 0), (.int .i64 0), (.int .i64 0), (.int .i64 0), (.int .i64 0), (.int .i64 0), (.int .i64 0), (.int .i64 0), (.int .i64 0)]))]) (.seq (.seq (.reg [(o1 7 (.mv (.c (.int .i64 0))))]) (.blk 0 (.loop [1, 2, 3, 6, 7] [3, 6] [] F86_b0))) F86_c1))⟩

theorem F86_ok : sfn Tryd.prog hints 34 [([1, 2, 3, 6, 7], ([3, 6], []))] = some F86 := by kernel_rfl

abbrev X86_0 (a1 : Int) (a2 : Int) (y0_0 : Int) (y0_1 : List Cell) := (y0_1.set (y0_0.toNat * 1 + a1.toNat * 7) (Cell.v (Value.int .i64 (IntKind.i64.wrap (intC (y0_1.getD (y0_0.toNat * 1 + a1.toNat * 7) .dead) + a2)))))
abbrev X86_1 (a1 : Int) (a2 : Int) (y0_0 : Int) (y0_1 : List Cell) := ((X86_0 a1 a2 y0_0 y0_1).set (a1.toNat * 1 + y0_0.toNat * 7) (Cell.v (Value.int .i64 (IntKind.i64.wrap (intC ((X86_0 a1 a2 y0_0 y0_1).getD (a1.toNat * 1 + y0_0.toNat * 7) .dead) - a2)))))
abbrev X86_2 (a0_0 : Int) (a0_1 : Bool) (y0_1 : List Cell) := (ic .i64 (closeZ (a0_0, a0_1, List.map intC y0_1)).2.2)

def I86_0_0 (a0_0 : Int) (a0_1 : Bool) (a0_2 : List Cell) (a1 : Int) (a2 : Int) (y0_0 : Int) (y0_1 : List Cell) : St := (.mk (.no :: ((.one (vi a1)) :: ((.one (vi a2)) :: ((.box 3 0 0) :: (.no :: (.no :: ((.box 6 0 0) :: ((.one (vi y0_0)) :: (n10 (n10 (n10 (.no :: (.no :: (.no :: [])))))))))))))) ([] :: ([] :: ([] :: ([((vi a0_0) :: (vb a0_1) :: (y0_1))] :: ([] :: ([] :: ([((.v (.int .i64 0)) :: (.v (.bool .false)) :: (List.replicate 49 (Cell.v (Value.int .i64 0))))] :: (e10 (e10 (e10 ([] :: ([] :: ([] :: ([] :: [])))))))))))))) (e10 (e10 (e10 (e10 ([] :: []))))))

theorem E86_0_0 (a0_0 : Int) (a0_1 : Bool) (a0_2 : List Cell) (a1 : Int) (a2 : Int) (y0_0 : Int) (y0_1 : List Cell) (N0 : Bool × St → Prop) (R : Ret → Prop) : wpO cx86 F86_b0 (.two (.two .e .e) .e) (I86_0_0 a0_0 a0_1 a0_2 a1 a2 y0_0 y0_1) (kLp (headW cx86.m [1, 2, 3, 6, 7] [3, 6] []) N0 (kBlk 0 (kSeq cx86 F86_c1 (endO cx86.m F86.rs R)))) = (bif decide (y0_0 ≤ a0_0) then (bif y0_0 != a1 then (bif decide (0 ≤ a1) && decide (a1 < 7) then (bif decide (0 ≤ y0_0) && decide (y0_0 < 7) then (bif decide (y0_0.toNat * 1 + a1.toNat * 7 + 3 ≤ y0_1.length + 2) && okK (some .i64) (y0_1.getD (y0_0.toNat * 1 + a1.toNat * 7) .dead) then (bif decide (0 ≤ a1) && decide (a1 < 7) then (bif decide (0 ≤ y0_0) && decide (y0_0 < 7) then (bif decide (y0_0.toNat * 1 + a1.toNat * 7 + 3 ≤ y0_1.length + 2) then (bif decide (0 ≤ y0_0) && decide (y0_0 < 7) then (bif decide (0 ≤ a1) && decide (a1 < 7) then (bif decide (a1.toNat * 1 + y0_0.toNat * 7 + 3 ≤ (X86_0 a1 a2 y0_0 y0_1).length + 2) && okK (some .i64) ((X86_0 a1 a2 y0_0 y0_1).getD (a1.toNat * 1 + y0_0.toNat * 7) .dead) then (bif decide (0 ≤ y0_0) && decide (y0_0 < 7) then (bif decide (0 ≤ a1) && decide (a1 < 7) then (bif decide (a1.toNat * 1 + y0_0.toNat * 7 + 3 ≤ (X86_0 a1 a2 y0_0 y0_1).length + 2) then (N0 ((X86_1 a1 a2 y0_0 y0_1).all plainC && true && true, (I86_0_0 a0_0 a0_1 a0_2 a1 a2 (IntKind.i64.wrap (y0_0 + 1)) (X86_1 a1 a2 y0_0 y0_1)))) else False) else False) else False) else False) else False) else False) else False) else False) else False) else False) else False) else False) else (N0 (y0_1.all plainC && true && true, (I86_0_0 a0_0 a0_1 a0_2 a1 a2 (IntKind.i64.wrap (y0_0 + 1)) (y0_1))))) else (bif y0_1.length + 2 == 51 then (bif y0_1.all plainC && true && (y0_1.all (isInt .i64) && y0_1.length == 49) && (X86_2 a0_0 a0_1 y0_1).all (okC 0) && true && true && true && true then (bif (X86_2 a0_0 a0_1 y0_1).length + 2 == 51 && true && true then (bif (X86_2 a0_0 a0_1 y0_1).length + 2 == 51 && true then (bif (X86_2 a0_0 a0_1 y0_1).all plainC then (R (Ret.mk (.agg ((.v (.int .i64 ((closeZ (a0_0, a0_1, List.map intC y0_1)).1))) :: (.v (.bool ((closeZ (a0_0, a0_1, List.map intC y0_1)).2.1))) :: (X86_2 a0_0 a0_1 y0_1))) [])) else False) else False) else False) else False) else False)) := by kernel_rfl

theorem E86 (a0_0 : Int) (a0_1 : Bool) (a0_2 : List Cell) (a1 : Int) (a2 : Int) (R : Ret → Prop) : wpFO cx86 F86 .e [(.agg ((.v (.int .i64 a0_0)) :: (.v (.bool a0_1)) :: a0_2)), (.one (.v (.int .i64 a1))), (.one (.v (.int .i64 a2)))] R = (LoopO (bodyX cx86 F86_b0) (headW cx86.m [1, 2, 3, 6, 7] [3, 6] []) (kBlk 0 (kSeq cx86 F86_c1 (endO cx86.m F86.rs R))) (a0_2.all plainC && true && true, (I86_0_0 a0_0 a0_1 a0_2 a1 a2 0 (a0_2)))) := by kernel_rfl

def f86_wp (a0_0 : Int) (a0_1 : Bool) (a0_2 : List Cell) (a1 : Int) (a2 : Int) (R : Ret → Prop) : Prop := (a0_2.all plainC && true && true) = true ∧ LoopP (fun (z0 : (Int × (List Cell))) (k0 : (Int × (List Cell)) → Prop) => (fun (z : Int × (List Cell)) => (fun (y0_0 : Int) (y0_1 : List Cell) => bif decide (y0_0 ≤ a0_0) then (bif y0_0 != a1 then (bif decide (0 ≤ a1) && decide (a1 < 7) then (bif decide (0 ≤ y0_0) && decide (y0_0 < 7) then (bif decide (y0_0.toNat * 1 + a1.toNat * 7 + 3 ≤ y0_1.length + 2) && okK (some .i64) (y0_1.getD (y0_0.toNat * 1 + a1.toNat * 7) .dead) then (bif decide (y0_0.toNat * 1 + a1.toNat * 7 + 3 ≤ y0_1.length + 2) then (bif decide (a1.toNat * 1 + y0_0.toNat * 7 + 3 ≤ (X86_0 a1 a2 y0_0 y0_1).length + 2) && okK (some .i64) ((X86_0 a1 a2 y0_0 y0_1).getD (a1.toNat * 1 + y0_0.toNat * 7) .dead) then (bif decide (a1.toNat * 1 + y0_0.toNat * 7 + 3 ≤ (X86_0 a1 a2 y0_0 y0_1).length + 2) then (((X86_1 a1 a2 y0_0 y0_1).all plainC && true && true) = true ∧ k0 ((IntKind.i64.wrap (y0_0 + 1)), (X86_1 a1 a2 y0_0 y0_1))) else False) else False) else False) else False) else False) else False) else ((y0_1.all plainC && true && true) = true ∧ k0 ((IntKind.i64.wrap (y0_0 + 1)), (y0_1)))) else (bif y0_1.length + 2 == 51 then (bif y0_1.all plainC && true && (y0_1.all (isInt .i64) && y0_1.length == 49) && (X86_2 a0_0 a0_1 y0_1).all (okC 0) && true && true && true && true then (bif (X86_2 a0_0 a0_1 y0_1).length + 2 == 51 && true && true then (bif (X86_2 a0_0 a0_1 y0_1).length + 2 == 51 && true then (bif (X86_2 a0_0 a0_1 y0_1).all plainC then (R (Ret.mk (.agg ((.v (.int .i64 ((closeZ (a0_0, a0_1, List.map intC y0_1)).1))) :: (.v (.bool ((closeZ (a0_0, a0_1, List.map intC y0_1)).2.1))) :: (X86_2 a0_0 a0_1 y0_1))) [])) else False) else False) else False) else False) else False)) z.1 z.2) z0) (0, (a0_2))

set_option maxRecDepth 100000 in
theorem f86_sound (a0_0 : Int) (a0_1 : Bool) (a0_2 : List Cell) (a1 : Int) (a2 : Int) (hC : CtxOk Tryd.prog cx86.q.ctx) {r : Ret} (h : f86_wp a0_0 a0_1 a0_2 a1 a2 (fun r' => r' = r)) : SoundAt Tryd.prog 34 [(.agg ((.v (.int .i64 a0_0)) :: (.v (.bool a0_1)) :: a0_2)), (.one (.v (.int .i64 a1))), (.one (.v (.int .i64 a2)))] r := by
  refine soundAtO (C := cx86) (oc := .e) mixed hC F86_ok ?_
  rewrite [E86 a0_0 a0_1 a0_2 a1 a2]
  unfold f86_wp at h
  obtain ⟨q31, h⟩ := h
  refine loop_of (I := (fun (z : Int × (List Cell)) => (I86_0_0 a0_0 a0_1 a0_2 a1 a2 z.1 z.2))) (fun z k0 h => ?_) h q31 rfl
  obtain ⟨y0_0, y0_1⟩ := z
  try dsimp only [sumE_l, sumE_r] at h
  refine bodyX_i (ob := (.two (.two .e .e) .e)) ?_
  rewrite [E86_0_0 a0_0 a0_1 a0_2 a1 a2 y0_0 y0_1]
  refine cond_mapE h (fun q16 h => ?_) (fun q16 h => ?_)
  · skip
    refine cond_mapE h (fun q17 h => ?_) (fun q17 h => ?_)
    · skip
      refine ck_mapE h (fun q18 h => ck_mapE h (fun q19 h => ck_mapE h (fun q20 h => ck_i q18 (ck_i q19 (ck_mapE h (fun q21 h => ck_i q19 (ck_i q18 (ck_mapE h (fun q22 h => ck_i q19 (ck_i q18 (ck_mapE h (fun q23 h => ?_))))))))))))
      obtain ⟨q24, h⟩ := h
      exact again_i (y := ((IntKind.i64.wrap (y0_0 + 1)), (X86_1 a1 a2 y0_0 y0_1))) q24 h
    · skip
      obtain ⟨q25, h⟩ := h
      exact again_i (y := ((IntKind.i64.wrap (y0_0 + 1)), (y0_1))) q25 h
  · skip
    refine ck_mapE h (fun q26 h => ck_mapE h (fun q27 h => ck_mapE h (fun q28 h => ck_mapE h (fun q30 h => ck_mapE h (fun q29 h => ?_)))))
    exact h


def cx27 : CtxW := ⟨⟨[(24, sum85), (33, sum84), (34, sum86), (32, sum83)], [(31, psum87)]⟩, 2, []⟩


def F27 : SFn := ⟨55, [(.cell 8 .true 51)], (.seq (.reg [(o1 4 (.box (.t 0))), (o1 8 (.alloc [(.int .i64 0), (.bool .false), (.int .i64 0), (.int .i64 0), (.int .i64 0), (.int .i64 0), (.int .i64 0), (.int .i64 0), (.int .i64 0), (.int .i64 0), (.int .i64 0), (.int .i64 0), (.int .i64 0), (.int .i64 0), (.int .i64 0), (.int .i64 0), (.int .i64 0), (.int .i64 0), (.int .i64 0), (.int .i64 0), (.int .i64 0), (.int .i64 0), (.int .i64 0), (.int .i64 0), (.int .i64 0), (.int .i64 0), (.int .i64 0), (.int .i64 0), (.int .i64 0), (.int .i64 0), (.int .i64 0), (.int .i64 0), (.int .i64 0), (.int .i64 0), (.int .i64 0), (.int .i64 0), (.int .i64 0), (.int .i64 0), (.int .i64 0), (.int .i64 0), (.int .i64 0), (.int .i64 0), (.int .i64 0), (.int .i64 0), (.int .i64 0), (.int .i64 0), (.int .i64 0), (.int .i64 0), (.int .i64 0), (.int .i64 0), (.int .i64 0)]))]) (.seq (.seq (.reg [(o1 9 (.load .false .true 51 K51 (.t 4))), (o1 10 (.mv (.t 1))), (o1 11 (.call .false .false (.f 24) [(.t 9), (.t 10)])), (o1 12 (.un .not (.t 11))), (o1 13 (.mv (.t 12))), (oS 14 (.load .false .true 51 K51 (.t 4)) (.some (13, .false))), (oS 15 (.mv (.t 2)) (.some (13, .false))), (oS 16 (.call .false .false (.f 33) [(.t 14), (.t 15)]) (.some (13, .false))), (oS 17 (.un .not (.t 16)) (.some (13, .false))), (o1 18 (.pick (.t 13) (.c (.bool .true)) (.t 17)))]) (.cond (.t 18) (.seq (.reg [(o1 19 (.load .false .true 51 K51 (.t 4))), (oN (.store .false 51 (.t 8) (.t 19)))]) .ret) .skip)) (.seq (.reg [(o1 20 (.mv (.t 3))), (o1 21 (.mm .true [(.t 20), (.c (.int .i64 (-1099511627776)))])), (o1 22 (.mm .false [(.t 21), (.c (.int .i64 1099511627776))])), (o1 3 (.mv (.t 22)))]) (.seq (.seq (.reg [(o1 23 (.mv (.t 1))), (o1 24 (.mv (.t 2))), (o1 25 (.bin .eql (.t 23) (.t 24)))]) (.cond (.t 25) (.seq (.reg [(o1 26 (.load .false .true 51 K51 (.t 4))), (o1 27 (.mv (.t 1))), (o1 28 (.bin .add (.t 27) (.c (.int .i64 1)))), (o1 29 (.mv (.t 3))), (o1 30 (.call .false .false (.f 34) [(.t 26), (.t 28), (.t 29)])), (oN (.store .false 51 (.t 8) (.t 30)))]) .ret) .skip)) (.seq (.reg [(o1 31 (.mv (.t 1))), (o1 32 (.bin .add (.t 31) (.c (.int .i64 1)))), (o1 33 (.pcall 31 (.t 4) [(.t 32)]))]) (.seq (.reg [(o1 34 (.load .false .true 51 K51 (.t 4))), (o1 35 (.call .false .false (.f 32) [(.t 34)])), (oN (.store .false 51 (.t 4) (.t 35)))]) (.seq (.reg [(o1 36 (.mv (.t 1))), (o1 37 (.bin .add (.t 36) (.c (.int .i64 1)))), (o1 38 (.mv (.t 2))), (o1 39 (.bin .add (.t 38) (.c (.int .i64 1)))), (o1 40 (.mv (.t 2))), (o1 41 (.bin .add (.t 40) (.c (.int .i64 1)))), (o1 42 (.mv (.t 1))), (o1 43 (.bin .add (.t 42) (.c (.int .i64 1)))), (o1 44 (.mv (.t 3))), (o1 45 (.mv (.t 3))), (o1 46 (.un .neg (.t 45))), (o1 47 (.fld 2 (.t 4))), (o1 48 (.ixA 7 7 (.t 47) (.t 37))), (o1 49 (.ixA 7 1 (.t 48) (.t 39))), (oN (.store .false 1 (.t 49) (.t 44))), (o1 50 (.fld 2 (.t 4))), (o1 51 (.ixA 7 7 (.t 50) (.t 41))), (o1 52 (.ixA 7 1 (.t 51) (.t 43))), (oN (.store .false 1 (.t 52) (.t 46)))]) (.seq (.reg [(o1 53 (.load .false .true 51 K51 (.t 4))), (o1 54 (.call .false .false (.f 32) [(.t 53)])), (oN (.store .false 51 (.t 8) (.t 54)))]) .ret))))))))⟩

theorem F27_ok : sfn Tryd.prog hints 20 [] = some F27 := by kernel_rfl

abbrev X27_2 (a0_0 : Int) (a0_1 : Bool) (a0_2 : List Cell) (a1 : Int) (a3 : Int) := (movZ (a0_0, a0_1, List.map intC a0_2) (IntKind.i64.wrap (a1 + 1)) (if 1099511627776 < if -1099511627776 > a3 then -1099511627776 else a3 then 1099511627776 else if -1099511627776 > a3 then -1099511627776 else a3))
abbrev X27_3 (a0_0 : Int) (a0_2 : List Cell) (a1 : Int) := (ic .i64 (forT (IntKind.i64.wrap (a1 + 1)).toNat (a0_0.toNat + 1) (List.map intC a0_2)))
abbrev X27_4 (a0_0 : Int) (a0_1 : Bool) (a0_2 : List Cell) (a1 : Int) := (ic .i64 (closeZ (a0_0, a0_1, List.map intC (X27_3 a0_0 a0_2 a1))).2.2)
abbrev X27_0 (a0_0 : Int) (a0_1 : Bool) (a0_2 : List Cell) (a1 : Int) (a2 : Int) (a3 : Int) := (((X27_4 a0_0 a0_1 a0_2 a1).set ((IntKind.i64.wrap (a2 + 1)).toNat * 1 + (IntKind.i64.wrap (a1 + 1)).toNat * 7) (Cell.v (Value.int .i64 (if 1099511627776 < if -1099511627776 > a3 then -1099511627776 else a3 then 1099511627776 else if -1099511627776 > a3 then -1099511627776 else a3)))).set ((IntKind.i64.wrap (a1 + 1)).toNat * 1 + (IntKind.i64.wrap (a2 + 1)).toNat * 7) (Cell.v (Value.int .i64 (IntKind.i64.wrap (0 - if 1099511627776 < if -1099511627776 > a3 then -1099511627776 else a3 then 1099511627776 else if -1099511627776 > a3 then -1099511627776 else a3)))))
abbrev X27_1 (a0_0 : Int) (a0_1 : Bool) (a0_2 : List Cell) (a1 : Int) (a2 : Int) (a3 : Int) := (closeZ ((closeZ (a0_0, a0_1, List.map intC (X27_3 a0_0 a0_2 a1))).1, (closeZ (a0_0, a0_1, List.map intC (X27_3 a0_0 a0_2 a1))).2.1, List.map intC (X27_0 a0_0 a0_1 a0_2 a1 a2 a3)))

theorem E27 (a0_0 : Int) (a0_1 : Bool) (a0_2 : List Cell) (a1 : Int) (a2 : Int) (a3 : Int) (R : Ret → Prop) : wpFO cx27 F27 (.two (.n 3 .e) (.n 2 (.two .e (.two .e .e)))) [(.agg ((.v (.int .i64 a0_0)) :: (.v (.bool a0_1)) :: a0_2)), (.one (.v (.int .i64 a1))), (.one (.v (.int .i64 a2))), (.one (.v (.int .i64 a3)))] R = (bif a0_2.length + 2 == 51 then (bif a0_2.all plainC && true && (a0_2.all (isInt .i64) && a0_2.length == 49 && true) && true && true && true && true && true then (bif !varP a0_0 a0_1 a1 then (bif a0_2.length + 2 == 51 then (bif a0_2.length + 2 == 51 && true && true then (bif a0_2.length + 2 == 51 && true then (bif a0_2.all plainC then (R (Ret.mk (.agg ((.v (.int .i64 (a0_0))) :: (.v (.bool (a0_1))) :: (a0_2))) [])) else False) else False) else False) else False) else (bif a0_2.length + 2 == 51 then (bif a0_2.all plainC && true && (a0_2.all (isInt .i64) && a0_2.length == 49 && true) && true && true && true && true && true then (bif !norP a0_0 a0_1 a2 then (bif a0_2.length + 2 == 51 then (bif a0_2.length + 2 == 51 && true && true then (bif a0_2.length + 2 == 51 && true then (bif a0_2.all plainC then (R (Ret.mk (.agg ((.v (.int .i64 (a0_0))) :: (.v (.bool (a0_1))) :: (a0_2))) [])) else False) else False) else False) else False) else (bif a1 == a2 then (bif a0_2.length + 2 == 51 then (bif a0_2.all plainC && true && (a0_2.all (isInt .i64) && a0_2.length == 49 && okN a0_0 && true && true && decide (0 ≤ IntKind.i64.wrap (a1 + 1)) && decide (IntKind.i64.wrap (a1 + 1) ≤ 6)) && (ic .i64 (X27_2 a0_0 a0_1 a0_2 a1 a3).2.2).all (okC 0) && true && true && true && true then (bif (ic .i64 (X27_2 a0_0 a0_1 a0_2 a1 a3).2.2).length + 2 == 51 && true && true then (bif (ic .i64 (X27_2 a0_0 a0_1 a0_2 a1 a3).2.2).length + 2 == 51 && true then (bif (ic .i64 (X27_2 a0_0 a0_1 a0_2 a1 a3).2.2).all plainC then (R (Ret.mk (.agg ((.v (.int .i64 ((X27_2 a0_0 a0_1 a0_2 a1 a3).1))) :: (.v (.bool ((X27_2 a0_0 a0_1 a0_2 a1 a3).2.1))) :: (ic .i64 (X27_2 a0_0 a0_1 a0_2 a1 a3).2.2))) [])) else False) else False) else False) else False) else False) else (bif a0_2.all (isInt .i64) && a0_2.length == 49 && okN a0_0 && true && decide (0 ≤ IntKind.i64.wrap (a1 + 1)) && decide (IntKind.i64.wrap (a1 + 1) ≤ 6) && (X27_3 a0_0 a0_2 a1).length + 2 == a0_2.length + 2 && a0_2.all flatC && (X27_3 a0_0 a0_2 a1).all flatC then (bif (X27_3 a0_0 a0_2 a1).length + 2 == 51 then (bif (X27_3 a0_0 a0_2 a1).all plainC && true && ((X27_3 a0_0 a0_2 a1).all (isInt .i64) && (X27_3 a0_0 a0_2 a1).length == 49) && (X27_4 a0_0 a0_1 a0_2 a1).all (okC 0) && true && true && true && true then (bif (X27_4 a0_0 a0_1 a0_2 a1).length + 2 == 51 && (X27_3 a0_0 a0_2 a1).length + 2 == 51 && true then (bif decide (0 ≤ IntKind.i64.wrap (a1 + 1)) && decide (IntKind.i64.wrap (a1 + 1) < 7) then (bif decide (0 ≤ IntKind.i64.wrap (a2 + 1)) && decide (IntKind.i64.wrap (a2 + 1) < 7) then (bif decide ((IntKind.i64.wrap (a2 + 1)).toNat * 1 + (IntKind.i64.wrap (a1 + 1)).toNat * 7 + 3 ≤ (X27_4 a0_0 a0_1 a0_2 a1).length + 2) then (bif decide (0 ≤ IntKind.i64.wrap (a2 + 1)) && decide (IntKind.i64.wrap (a2 + 1) < 7) then (bif decide (0 ≤ IntKind.i64.wrap (a1 + 1)) && decide (IntKind.i64.wrap (a1 + 1) < 7) then (bif decide ((IntKind.i64.wrap (a1 + 1)).toNat * 1 + (IntKind.i64.wrap (a2 + 1)).toNat * 7 + 3 ≤ ((X27_4 a0_0 a0_1 a0_2 a1).set ((IntKind.i64.wrap (a2 + 1)).toNat * 1 + (IntKind.i64.wrap (a1 + 1)).toNat * 7) (Cell.v (Value.int .i64 (if 1099511627776 < if -1099511627776 > a3 then -1099511627776 else a3 then 1099511627776 else if -1099511627776 > a3 then -1099511627776 else a3)))).length + 2) then (bif (X27_0 a0_0 a0_1 a0_2 a1 a2 a3).length + 2 == 51 then (bif (X27_0 a0_0 a0_1 a0_2 a1 a2 a3).all plainC && true && ((X27_0 a0_0 a0_1 a0_2 a1 a2 a3).all (isInt .i64) && (X27_0 a0_0 a0_1 a0_2 a1 a2 a3).length == 49) && (ic .i64 (X27_1 a0_0 a0_1 a0_2 a1 a2 a3).2.2).all (okC 0) && true && true && true && true then (bif (ic .i64 (X27_1 a0_0 a0_1 a0_2 a1 a2 a3).2.2).length + 2 == 51 && true && true then (bif (ic .i64 (X27_1 a0_0 a0_1 a0_2 a1 a2 a3).2.2).length + 2 == 51 && true then (bif (ic .i64 (X27_1 a0_0 a0_1 a0_2 a1 a2 a3).2.2).all plainC then (R (Ret.mk (.agg ((.v (.int .i64 ((X27_1 a0_0 a0_1 a0_2 a1 a2 a3).1))) :: (.v (.bool ((X27_1 a0_0 a0_1 a0_2 a1 a2 a3).2.1))) :: (ic .i64 (X27_1 a0_0 a0_1 a0_2 a1 a2 a3).2.2))) [])) else False) else False) else False) else False) else False) else False) else False) else False) else False) else False) else False) else False) else False) else False) else False))) else False) else False)) else False) else False) := by kernel_rfl

def f27_wp (a0_0 : Int) (a0_1 : Bool) (a0_2 : List Cell) (a1 : Int) (a2 : Int) (a3 : Int) (R : Ret → Prop) : Prop := bif a0_2.length + 2 == 51 then (bif a0_2.all plainC && true && (a0_2.all (isInt .i64) && a0_2.length == 49 && true) && true && true && true && true && true then (bif !varP a0_0 a0_1 a1 then (bif a0_2.length + 2 == 51 && true && true then (bif a0_2.length + 2 == 51 && true then (bif a0_2.all plainC then (R (Ret.mk (.agg ((.v (.int .i64 (a0_0))) :: (.v (.bool (a0_1))) :: (a0_2))) [])) else False) else False) else False) else (bif !norP a0_0 a0_1 a2 then (bif a0_2.length + 2 == 51 && true && true then (bif a0_2.length + 2 == 51 && true then (bif a0_2.all plainC then (R (Ret.mk (.agg ((.v (.int .i64 (a0_0))) :: (.v (.bool (a0_1))) :: (a0_2))) [])) else False) else False) else False) else (bif a1 == a2 then (bif a0_2.all plainC && true && (a0_2.all (isInt .i64) && a0_2.length == 49 && okN a0_0 && true && true && decide (0 ≤ IntKind.i64.wrap (a1 + 1)) && decide (IntKind.i64.wrap (a1 + 1) ≤ 6)) && (ic .i64 (X27_2 a0_0 a0_1 a0_2 a1 a3).2.2).all (okC 0) && true && true && true && true then (bif (ic .i64 (X27_2 a0_0 a0_1 a0_2 a1 a3).2.2).length + 2 == 51 && true && true then (bif (ic .i64 (X27_2 a0_0 a0_1 a0_2 a1 a3).2.2).length + 2 == 51 && true then (bif (ic .i64 (X27_2 a0_0 a0_1 a0_2 a1 a3).2.2).all plainC then (R (Ret.mk (.agg ((.v (.int .i64 ((X27_2 a0_0 a0_1 a0_2 a1 a3).1))) :: (.v (.bool ((X27_2 a0_0 a0_1 a0_2 a1 a3).2.1))) :: (ic .i64 (X27_2 a0_0 a0_1 a0_2 a1 a3).2.2))) [])) else False) else False) else False) else False) else (bif a0_2.all (isInt .i64) && a0_2.length == 49 && okN a0_0 && true && decide (0 ≤ IntKind.i64.wrap (a1 + 1)) && decide (IntKind.i64.wrap (a1 + 1) ≤ 6) && (X27_3 a0_0 a0_2 a1).length + 2 == a0_2.length + 2 && a0_2.all flatC && (X27_3 a0_0 a0_2 a1).all flatC then (bif (X27_3 a0_0 a0_2 a1).length + 2 == 51 then (bif (X27_3 a0_0 a0_2 a1).all plainC && true && ((X27_3 a0_0 a0_2 a1).all (isInt .i64) && (X27_3 a0_0 a0_2 a1).length == 49) && (X27_4 a0_0 a0_1 a0_2 a1).all (okC 0) && true && true && true && true then (bif (X27_4 a0_0 a0_1 a0_2 a1).length + 2 == 51 && (X27_3 a0_0 a0_2 a1).length + 2 == 51 && true then (bif decide (0 ≤ IntKind.i64.wrap (a1 + 1)) && decide (IntKind.i64.wrap (a1 + 1) < 7) then (bif decide (0 ≤ IntKind.i64.wrap (a2 + 1)) && decide (IntKind.i64.wrap (a2 + 1) < 7) then (bif decide ((IntKind.i64.wrap (a2 + 1)).toNat * 1 + (IntKind.i64.wrap (a1 + 1)).toNat * 7 + 3 ≤ (X27_4 a0_0 a0_1 a0_2 a1).length + 2) then (bif decide ((IntKind.i64.wrap (a1 + 1)).toNat * 1 + (IntKind.i64.wrap (a2 + 1)).toNat * 7 + 3 ≤ ((X27_4 a0_0 a0_1 a0_2 a1).set ((IntKind.i64.wrap (a2 + 1)).toNat * 1 + (IntKind.i64.wrap (a1 + 1)).toNat * 7) (Cell.v (Value.int .i64 (if 1099511627776 < if -1099511627776 > a3 then -1099511627776 else a3 then 1099511627776 else if -1099511627776 > a3 then -1099511627776 else a3)))).length + 2) then (bif (X27_0 a0_0 a0_1 a0_2 a1 a2 a3).length + 2 == 51 then (bif (X27_0 a0_0 a0_1 a0_2 a1 a2 a3).all plainC && true && ((X27_0 a0_0 a0_1 a0_2 a1 a2 a3).all (isInt .i64) && (X27_0 a0_0 a0_1 a0_2 a1 a2 a3).length == 49) && (ic .i64 (X27_1 a0_0 a0_1 a0_2 a1 a2 a3).2.2).all (okC 0) && true && true && true && true then (bif (ic .i64 (X27_1 a0_0 a0_1 a0_2 a1 a2 a3).2.2).length + 2 == 51 && true && true then (bif (ic .i64 (X27_1 a0_0 a0_1 a0_2 a1 a2 a3).2.2).length + 2 == 51 && true then (bif (ic .i64 (X27_1 a0_0 a0_1 a0_2 a1 a2 a3).2.2).all plainC then (R (Ret.mk (.agg ((.v (.int .i64 ((X27_1 a0_0 a0_1 a0_2 a1 a2 a3).1))) :: (.v (.bool ((X27_1 a0_0 a0_1 a0_2 a1 a2 a3).2.1))) :: (ic .i64 (X27_1 a0_0 a0_1 a0_2 a1 a2 a3).2.2))) [])) else False) else False) else False) else False) else False) else False) else False) else False) else False) else False) else False) else False) else False)))) else False) else False

set_option maxRecDepth 100000 in
theorem f27_sound (a0_0 : Int) (a0_1 : Bool) (a0_2 : List Cell) (a1 : Int) (a2 : Int) (a3 : Int) (hC : CtxOk Tryd.prog cx27.q.ctx) {r : Ret} (h : f27_wp a0_0 a0_1 a0_2 a1 a2 a3 (fun r' => r' = r)) : SoundAt Tryd.prog 20 [(.agg ((.v (.int .i64 a0_0)) :: (.v (.bool a0_1)) :: a0_2)), (.one (.v (.int .i64 a1))), (.one (.v (.int .i64 a2))), (.one (.v (.int .i64 a3)))] r := by
  refine soundAtO (C := cx27) (oc := (.two (.n 3 .e) (.n 2 (.two .e (.two .e .e))))) mixed hC F27_ok ?_
  rewrite [E27 a0_0 a0_1 a0_2 a1 a2 a3]
  unfold f27_wp at h
  refine ck_mapE h (fun q1 h => ck_mapE h (fun q2 h => ?_))
  refine cond_mapE h (fun q3 h => ?_) (fun q3 h => ?_)
  · skip
    refine ck_i q1 (ck_mapE h (fun q4 h => ck_mapE h (fun q6 h => ck_mapE h (fun q5 h => ?_))))
    exact h
  · skip
    refine ck_i q1 (ck_i q2 (?_))
    refine cond_mapE h (fun q7 h => ?_) (fun q7 h => ?_)
    · skip
      refine ck_i q1 (ck_mapE h (fun q8 h => ck_mapE h (fun q10 h => ck_mapE h (fun q9 h => ?_))))
      exact h
    · skip
      refine cond_mapE h (fun q11 h => ?_) (fun q11 h => ?_)
      · skip
        refine ck_i q1 (ck_mapE h (fun q12 h => ck_mapE h (fun q13 h => ck_mapE h (fun q15 h => ck_mapE h (fun q14 h => ?_)))))
        exact h
      · skip
        refine ck_mapE h (fun q16 h => ck_mapE h (fun q17 h => ck_mapE h (fun q18 h => ck_mapE h (fun q19 h => ck_mapE h (fun q20 h => ck_mapE h (fun q21 h => ck_mapE h (fun q22 h => ck_i q21 (ck_i q20 (ck_mapE h (fun q23 h => ck_mapE h (fun q24 h => ck_mapE h (fun q25 h => ?_))))))))))))
        refine ck_mapE h (fun q26 h => ck_mapE h (fun q28 h => ck_mapE h (fun q27 h => ?_)))
        exact h


def cx36 : CtxW := ⟨⟨[], []⟩, 16, []⟩


def F36 : SFn := ⟨2, [(.cell 0 .true 2)], (.seq (.reg [(o1 0 (.alloc [(.int .i64 0), (.int .i64 0)]))]) (.seq (.reg [(o1 1 (.build [(.int .i64 0), (.int .i64 0)] [(0, (1, (.c (.int .i64 1)))), (1, (1, (.c (.int .i64 0))))])), (oN (.store .false 2 (.t 0) (.t 1)))]) .ret))⟩

theorem F36_ok : sfn Tryd.prog hints 25 [] = some F36 := by kernel_rfl

theorem E36  (R : Ret → Prop) : wpFO cx36 F36 .e [] R = (R (Ret.mk (.agg [(.v (.int .i64 1)), (.v (.int .i64 0))]) [])) := by kernel_rfl

def f36_wp  (R : Ret → Prop) : Prop := R (Ret.mk (.agg [(.v (.int .i64 1)), (.v (.int .i64 0))]) [])

set_option maxRecDepth 100000 in
theorem f36_sound  (hC : CtxOk Tryd.prog cx36.q.ctx) {r : Ret} (h : f36_wp  (fun r' => r' = r)) : SoundAt Tryd.prog 25 [] r := by
  refine soundAtO (C := cx36) (oc := .e) mixed hC F36_ok ?_
  rewrite [E36 ]
  unfold f36_wp at h
  exact h


def cx44 : CtxW := ⟨⟨[], []⟩, 16, []⟩


def F44 : SFn := ⟨8, [(.tmp 2)], (.seq (.reg [(o1 1 (.box (.t 0))), (o1 2 (.mv (.c (.bool .false))))]) (.seq (.reg [(o1 3 (.fld 0 (.t 1))), (o1 4 (.load .false .false 1 [(.some .i64)] (.t 3))), (o1 5 (.fld 1 (.t 1))), (o1 6 (.load .false .false 1 [(.some .i64)] (.t 5))), (o1 7 (.bin .gtr (.t 4) (.t 6))), (o1 2 (.mv (.t 7)))]) .ret))⟩

theorem F44_ok : sfn Tryd.prog hints 28 [] = some F44 := by kernel_rfl

theorem E44 (a0_0 : Int) (a0_1 : Int) (R : Ret → Prop) : wpFO cx44 F44 .e [(.agg [(.v (.int .i64 a0_0)), (.v (.int .i64 a0_1))])] R = (R (Ret.mk (.one (.v (.bool (decide (a0_0 > a0_1))))) [])) := by kernel_rfl

def f44_wp (a0_0 : Int) (a0_1 : Int) (R : Ret → Prop) : Prop := R (Ret.mk (.one (.v (.bool (decide (a0_0 > a0_1))))) [])

set_option maxRecDepth 100000 in
theorem f44_sound (a0_0 : Int) (a0_1 : Int) (hC : CtxOk Tryd.prog cx44.q.ctx) {r : Ret} (h : f44_wp a0_0 a0_1 (fun r' => r' = r)) : SoundAt Tryd.prog 28 [(.agg [(.v (.int .i64 a0_0)), (.v (.int .i64 a0_1))])] r := by
  refine soundAtO (C := cx44) (oc := .e) mixed hC F44_ok ?_
  rewrite [E44 a0_0 a0_1]
  unfold f44_wp at h
  exact h


def cx97 : CtxW := ⟨⟨[(28, sum44), (25, sum36)], []⟩, 16, []⟩


def F97 : SFn := ⟨7, [(.cell 2 .true 2)], (.seq (.reg [(o1 1 (.box (.t 0))), (o1 2 (.alloc [(.int .i64 0), (.int .i64 0)]))]) (.seq (.seq (.reg [(o1 3 (.load .false .true 2 [(.some .i64), (.some .i64)] (.t 1))), (o1 4 (.call .false .false (.f 28) [(.t 3)]))]) (.cond (.t 4) (.seq (.reg [(o1 5 (.call .false .false (.f 25) [])), (oN (.store .false 2 (.t 2) (.t 5)))]) .ret) .skip)) (.seq (.reg [(o1 6 (.load .false .true 2 [(.some .i64), (.some .i64)] (.t 1))), (oN (.store .false 2 (.t 2) (.t 6)))]) .ret)))⟩

theorem F97_ok : sfn Tryd.prog hints 19 [] = some F97 := by kernel_rfl

theorem E97 (a0_0 : Int) (a0_1 : Int) (R : Ret → Prop) : wpFO cx97 F97 (.two .e .e) [(.agg [(.v (.int .i64 a0_0)), (.v (.int .i64 a0_1))])] R = (bif emptyP a0_0 a0_1 then (R (Ret.mk (.agg [(.v (.int .i64 1)), (.v (.int .i64 0))]) [])) else (R (Ret.mk (.agg [(.v (.int .i64 (a0_0))), (.v (.int .i64 (a0_1)))]) []))) := by kernel_rfl

def f97_wp (a0_0 : Int) (a0_1 : Int) (R : Ret → Prop) : Prop := bif emptyP a0_0 a0_1 then (R (Ret.mk (.agg [(.v (.int .i64 1)), (.v (.int .i64 0))]) [])) else (R (Ret.mk (.agg [(.v (.int .i64 (a0_0))), (.v (.int .i64 (a0_1)))]) []))

set_option maxRecDepth 100000 in
theorem f97_sound (a0_0 : Int) (a0_1 : Int) (hC : CtxOk Tryd.prog cx97.q.ctx) {r : Ret} (h : f97_wp a0_0 a0_1 (fun r' => r' = r)) : SoundAt Tryd.prog 19 [(.agg [(.v (.int .i64 a0_0)), (.v (.int .i64 a0_1))])] r := by
  refine soundAtO (C := cx97) (oc := (.two .e .e)) mixed hC F97_ok ?_
  rewrite [E97 a0_0 a0_1]
  unfold f97_wp at h
  refine cond_mapE h (fun q1 h => ?_) (fun q1 h => ?_)
  · skip
    exact h
  · skip
    exact h


def cx53 : CtxW := ⟨⟨[(19, sum97)], []⟩, 16, []⟩


def F53 : SFn := ⟨11, [(.cell 4 .true 2)], (.seq (.reg [(o1 4 (.alloc [(.int .i64 0), (.int .i64 0)]))]) (.seq (.reg [(o1 5 (.mv (.t 0))), (o1 6 (.mm .true [(.t 5), (.c (.int .i64 (-2147483648)))])), (o1 7 (.mv (.t 1))), (o1 8 (.mm .false [(.t 7), (.c (.int .i64 2147483647))])), (o1 9 (.build [(.int .i64 0), (.int .i64 0)] [(0, (1, (.t 6))), (1, (1, (.t 8)))])), (o1 10 (.call .false .false (.f 19) [(.t 9)])), (oN (.store .false 2 (.t 4) (.t 10)))]) .ret))⟩

theorem F53_ok : sfn Tryd.prog hints 6 [] = some F53 := by kernel_rfl

theorem E53 (a0 : Int) (a1 : Int) (R : Ret → Prop) : wpFO cx53 F53 .e [(.one (.v (.int .i64 a0))), (.one (.v (.int .i64 a1)))] R = (R (Ret.mk (.agg [(.v (.int .i64 ((normP (if -2147483648 > a0 then -2147483648 else a0) (if 2147483647 < a1 then 2147483647 else a1)).1))), (.v (.int .i64 ((normP (if -2147483648 > a0 then -2147483648 else a0) (if 2147483647 < a1 then 2147483647 else a1)).2)))]) [])) := by kernel_rfl

def f53_wp (a0 : Int) (a1 : Int) (R : Ret → Prop) : Prop := R (Ret.mk (.agg [(.v (.int .i64 ((normP (if -2147483648 > a0 then -2147483648 else a0) (if 2147483647 < a1 then 2147483647 else a1)).1))), (.v (.int .i64 ((normP (if -2147483648 > a0 then -2147483648 else a0) (if 2147483647 < a1 then 2147483647 else a1)).2)))]) [])

set_option maxRecDepth 100000 in
theorem f53_sound (a0 : Int) (a1 : Int) (hC : CtxOk Tryd.prog cx53.q.ctx) {r : Ret} (h : f53_wp a0 a1 (fun r' => r' = r)) : SoundAt Tryd.prog 6 [(.one (.v (.int .i64 a0))), (.one (.v (.int .i64 a1)))] r := by
  refine soundAtO (C := cx53) (oc := .e) mixed hC F53_ok ?_
  rewrite [E53 a0 a1]
  unfold f53_wp at h
  exact h


def cx30 : CtxW := ⟨⟨[(6, sum53)], []⟩, 16, []⟩


def F30 : SFn := ⟨6, [(.cell 2 .true 2)], (.seq (.reg [(o1 2 (.alloc [(.int .i64 0), (.int .i64 0)]))]) (.seq (.reg [(o1 3 (.mv (.t 0))), (o1 4 (.mv (.t 0))), (o1 5 (.call .false .false (.f 6) [(.t 3), (.t 4)])), (oN (.store .false 2 (.t 2) (.t 5)))]) .ret))⟩

theorem F30_ok : sfn Tryd.prog hints 12 [] = some F30 := by kernel_rfl

theorem E30 (a0 : Int) (R : Ret → Prop) : wpFO cx30 F30 .e [(.one (.v (.int .i64 a0)))] R = (R (Ret.mk (.agg [(.v (.int .i64 ((ofP a0 a0).1))), (.v (.int .i64 ((ofP a0 a0).2)))]) [])) := by kernel_rfl

def f30_wp (a0 : Int) (R : Ret → Prop) : Prop := R (Ret.mk (.agg [(.v (.int .i64 ((ofP a0 a0).1))), (.v (.int .i64 ((ofP a0 a0).2)))]) [])

set_option maxRecDepth 100000 in
theorem f30_sound (a0 : Int) (hC : CtxOk Tryd.prog cx30.q.ctx) {r : Ret} (h : f30_wp a0 (fun r' => r' = r)) : SoundAt Tryd.prog 12 [(.one (.v (.int .i64 a0)))] r := by
  refine soundAtO (C := cx30) (oc := .e) mixed hC F30_ok ?_
  rewrite [E30 a0]
  unfold f30_wp at h
  exact h


def cx29 : CtxW := ⟨⟨[(24, sum85), (25, sum36), (6, sum53)], []⟩, 2, []⟩


def F29 : SFn := ⟨24, [(.cell 4 .true 2)], (.seq (.reg [(o1 2 (.box (.t 0))), (o1 4 (.alloc [(.int .i64 0), (.int .i64 0)]))]) (.seq (.seq (.reg [(o1 5 (.load .false .true 51 K51 (.t 2))), (o1 6 (.mv (.t 1))), (o1 7 (.call .false .false (.f 24) [(.t 5), (.t 6)])), (o1 8 (.un .not (.t 7)))]) (.cond (.t 8) (.seq (.reg [(o1 9 (.call .false .false (.f 25) [])), (oN (.store .false 2 (.t 4) (.t 9)))]) .ret) .skip)) (.seq (.reg [(o1 10 (.mv (.t 1))), (o1 11 (.bin .add (.t 10) (.c (.int .i64 1)))), (o1 12 (.fld 2 (.t 2))), (o1 13 (.ixA 7 7 (.t 12) (.c (.int .i64 0)))), (o1 14 (.ixA 7 1 (.t 13) (.t 11))), (o1 15 (.load .false .false 1 [(.some .i64)] (.t 14))), (o1 16 (.un .neg (.t 15))), (o1 17 (.mv (.t 1))), (o1 18 (.bin .add (.t 17) (.c (.int .i64 1)))), (o1 19 (.fld 2 (.t 2))), (o1 20 (.ixA 7 7 (.t 19) (.t 18))), (o1 21 (.ixA 7 1 (.t 20) (.c (.int .i64 0)))), (o1 22 (.load .false .false 1 [(.some .i64)] (.t 21))), (o1 23 (.call .false .false (.f 6) [(.t 16), (.t 22)])), (oN (.store .false 2 (.t 4) (.t 23)))]) .ret)))⟩

theorem F29_ok : sfn Tryd.prog hints 11 [] = some F29 := by kernel_rfl

abbrev X29_0 (a0_2 : List Cell) (a1 : Int) := (ofP (IntKind.i64.wrap (0 - intC (a0_2.getD ((IntKind.i64.wrap (a1 + 1)).toNat * 1) .dead))) (intC (a0_2.getD (0 + (IntKind.i64.wrap (a1 + 1)).toNat * 7) .dead)))

theorem E29 (a0_0 : Int) (a0_1 : Bool) (a0_2 : List Cell) (a1 : Int) (R : Ret → Prop) : wpFO cx29 F29 (.two .e .e) [(.agg ((.v (.int .i64 a0_0)) :: (.v (.bool a0_1)) :: a0_2)), (.one (.v (.int .i64 a1)))] R = (bif a0_2.length + 2 == 51 then (bif a0_2.all plainC && true && (a0_2.all (isInt .i64) && a0_2.length == 49 && true) && true && true && true && true && true then (bif !varP a0_0 a0_1 a1 then (R (Ret.mk (.agg [(.v (.int .i64 1)), (.v (.int .i64 0))]) [])) else (bif decide (0 ≤ IntKind.i64.wrap (a1 + 1)) && decide (IntKind.i64.wrap (a1 + 1) < 7) then (bif decide ((IntKind.i64.wrap (a1 + 1)).toNat * 1 + 3 ≤ a0_2.length + 2) && okK (some .i64) (a0_2.getD ((IntKind.i64.wrap (a1 + 1)).toNat * 1) .dead) then (bif decide (0 ≤ IntKind.i64.wrap (a1 + 1)) && decide (IntKind.i64.wrap (a1 + 1) < 7) then (bif decide (0 + (IntKind.i64.wrap (a1 + 1)).toNat * 7 + 3 ≤ a0_2.length + 2) && okK (some .i64) (a0_2.getD (0 + (IntKind.i64.wrap (a1 + 1)).toNat * 7) .dead) then (R (Ret.mk (.agg [(.v (.int .i64 ((X29_0 a0_2 a1).1))), (.v (.int .i64 ((X29_0 a0_2 a1).2)))]) [])) else False) else False) else False) else False)) else False) else False) := by kernel_rfl

def f29_wp (a0_0 : Int) (a0_1 : Bool) (a0_2 : List Cell) (a1 : Int) (R : Ret → Prop) : Prop := bif a0_2.length + 2 == 51 then (bif a0_2.all plainC && true && (a0_2.all (isInt .i64) && a0_2.length == 49 && true) && true && true && true && true && true then (bif !varP a0_0 a0_1 a1 then (R (Ret.mk (.agg [(.v (.int .i64 1)), (.v (.int .i64 0))]) [])) else (bif decide (0 ≤ IntKind.i64.wrap (a1 + 1)) && decide (IntKind.i64.wrap (a1 + 1) < 7) then (bif decide ((IntKind.i64.wrap (a1 + 1)).toNat * 1 + 3 ≤ a0_2.length + 2) && okK (some .i64) (a0_2.getD ((IntKind.i64.wrap (a1 + 1)).toNat * 1) .dead) then (bif decide (0 + (IntKind.i64.wrap (a1 + 1)).toNat * 7 + 3 ≤ a0_2.length + 2) && okK (some .i64) (a0_2.getD (0 + (IntKind.i64.wrap (a1 + 1)).toNat * 7) .dead) then (R (Ret.mk (.agg [(.v (.int .i64 ((X29_0 a0_2 a1).1))), (.v (.int .i64 ((X29_0 a0_2 a1).2)))]) [])) else False) else False) else False)) else False) else False

set_option maxRecDepth 100000 in
theorem f29_sound (a0_0 : Int) (a0_1 : Bool) (a0_2 : List Cell) (a1 : Int) (hC : CtxOk Tryd.prog cx29.q.ctx) {r : Ret} (h : f29_wp a0_0 a0_1 a0_2 a1 (fun r' => r' = r)) : SoundAt Tryd.prog 11 [(.agg ((.v (.int .i64 a0_0)) :: (.v (.bool a0_1)) :: a0_2)), (.one (.v (.int .i64 a1)))] r := by
  refine soundAtO (C := cx29) (oc := (.two .e .e)) mixed hC F29_ok ?_
  rewrite [E29 a0_0 a0_1 a0_2 a1]
  unfold f29_wp at h
  refine ck_mapE h (fun q1 h => ck_mapE h (fun q2 h => ?_))
  refine cond_mapE h (fun q3 h => ?_) (fun q3 h => ?_)
  · skip
    exact h
  · skip
    refine ck_mapE h (fun q4 h => ck_mapE h (fun q5 h => ck_i q4 (ck_mapE h (fun q6 h => ?_))))
    exact h


def cx92 : CtxW := ⟨⟨[], []⟩, 16, []⟩


def F92 : SFn := ⟨12, [(.tmp 4)], (.seq (.reg [(o1 4 (.mv (.c (.int .i64 0))))]) (.seq (.seq (.reg [(o1 5 (.mv (.t 1))), (o1 6 (.bin .eql (.t 5) (.c (.int .i64 0))))]) (.cond (.t 6) (.seq (.reg [(o1 4 (.mv (.c (.int .i64 0))))]) .ret) .skip)) (.seq (.reg [(o1 7 (.mv (.t 0))), (o1 8 (.mv (.t 1))), (o1 9 (.bin .sub (.t 8) (.c (.int .i64 1)))), (o1 10 (.ixS 1 (.t 7) (.t 9))), (o1 11 (.load .true .false 1 [(.some .i64)] (.t 10))), (o1 4 (.mv (.t 11)))]) .ret)))⟩

theorem F92_ok : sfn Tryd.prog hints 38 [] = some F92 := by kernel_rfl

theorem E92 (a0n : Nat) (a0 : List Cell) (a1 : Int) (R : Ret → Prop) : wpFO cx92 F92 (.two .e .e) [(.one (.sl a0n a0)), (.one (.v (.int .i64 a1)))] R = (bif a1 == 0 then (R (Ret.mk (.one (.v (.int .i64 0))) [])) else (bif decide (0 ≤ IntKind.i64.wrap (a1 - 1)) && decide (IntKind.i64.wrap (a1 - 1) < (↑a0n : Int)) && decide ((IntKind.i64.wrap (a1 - 1)).toNat * 1 < a0.length) then (bif decide ((IntKind.i64.wrap (a1 - 1)).toNat * 1 + 1 ≤ a0.length) && okK (some .i64) (a0.getD ((IntKind.i64.wrap (a1 - 1)).toNat * 1) .dead) then (R (Ret.mk (.one (.v (.int .i64 (intC (a0.getD ((IntKind.i64.wrap (a1 - 1)).toNat * 1) .dead))))) [])) else False) else False)) := by kernel_rfl

def f92_wp (a0n : Nat) (a0 : List Cell) (a1 : Int) (R : Ret → Prop) : Prop := bif a1 == 0 then (R (Ret.mk (.one (.v (.int .i64 0))) [])) else (bif decide (0 ≤ IntKind.i64.wrap (a1 - 1)) && decide (IntKind.i64.wrap (a1 - 1) < (↑a0n : Int)) && decide ((IntKind.i64.wrap (a1 - 1)).toNat * 1 < a0.length) then (bif decide ((IntKind.i64.wrap (a1 - 1)).toNat * 1 + 1 ≤ a0.length) && okK (some .i64) (a0.getD ((IntKind.i64.wrap (a1 - 1)).toNat * 1) .dead) then (R (Ret.mk (.one (.v (.int .i64 (intC (a0.getD ((IntKind.i64.wrap (a1 - 1)).toNat * 1) .dead))))) [])) else False) else False)

set_option maxRecDepth 100000 in
theorem f92_sound (a0n : Nat) (a0 : List Cell) (a1 : Int) (hC : CtxOk Tryd.prog cx92.q.ctx) {r : Ret} (h : f92_wp a0n a0 a1 (fun r' => r' = r)) : SoundAt Tryd.prog 38 [(.one (.sl a0n a0)), (.one (.v (.int .i64 a1)))] r := by
  refine soundAtO (C := cx92) (oc := (.two .e .e)) mixed hC F92_ok ?_
  rewrite [E92 a0n a0 a1]
  unfold f92_wp at h
  refine cond_mapE h (fun q1 h => ?_) (fun q1 h => ?_)
  · skip
    exact h
  · skip
    refine ck_mapE h (fun q2 h => ck_mapE h (fun q3 h => ?_))
    exact h


def cx38 : CtxW := ⟨⟨[(36, sum91), (38, sum92)], []⟩, 2, []⟩


def F38_b1 : SC := (.seq (.seq (.reg [(o1 39 (.mv (.t 7))), (o1 40 (.fld 0 (.t 2))), (o1 41 (.load .false .false 1 [(.some .i64)] (.t 40))), (o1 42 (.bin .leq (.t 39) (.t 41)))]) (.cond (.t 42) .skip (.exit 2))) (.seq (.blk 3 (.seq (.reg [(o1 45 (.mv (.t 1))), (o1 46 (.mv (.t 7))), (o1 47 (.call .false .false (.f 38) [(.t 45), (.t 46)])), (o1 8 (.mv (.t 47)))]) (.seq (.reg [(o1 48 (.mv (.t 8))), (o1 49 (.bin .lss (.t 48) (.c (.int .i64 (-2147483648))))), (o1 50 (.mv (.t 49))), (oS 51 (.mv (.t 8)) (.some (50, .false))), (oS 52 (.bin .gtr (.t 51) (.c (.int .i64 2147483647))) (.some (50, .false))), (o1 53 (.pick (.t 50) (.c (.bool .true)) (.t 52))), (o1 54 (.mv (.t 53))), (oS 55 (.mv (.t 6)) (.some (54, .false))), (oS 56 (.mv (.t 8)) (.some (54, .false))), (oS 57 (.bin .sub (.t 55) (.t 56)) (.some (54, .false))), (oS 58 (.mv (.t 5)) (.some (54, .false))), (oS 59 (.mv (.t 7)) (.some (54, .false))), (oS 60 (.fld 2 (.t 2)) (.some (54, .false))), (oS 61 (.ixA 7 7 (.t 60) (.t 58)) (.some (54, .false))), (oS 62 (.ixA 7 1 (.t 61) (.t 59)) (.some (54, .false))), (oS 63 (.load .false .false 1 [(.some .i64)] (.t 62)) (.some (54, .false))), (oS 64 (.bin .gtr (.t 57) (.t 63)) (.some (54, .false))), (o1 65 (.pick (.t 54) (.c (.bool .true)) (.t 64)))]) (.cond (.t 65) (.seq (.reg [(o1 4 (.mv (.c (.bool .false))))]) .ret) .skip)))) (.reg [(o1 43 (.mv (.t 7))), (o1 44 (.bin .add (.t 43) (.c (.int .i64 1)))), (o1 7 (.mv (.t 44)))])))

def F38_c2 : SC := (.reg [(o1 28 (.mv (.t 5))), (o1 29 (.bin .add (.t 28) (.c (.int .i64 1)))), (o1 5 (.mv (.t 29)))])

def F38_b0 : SC := (.seq (.seq (.reg [(o1 24 (.mv (.t 5))), (o1 25 (.fld 0 (.t 2))), (o1 26 (.load .false .false 1 [(.some .i64)] (.t 25))), (o1 27 (.bin .leq (.t 24) (.t 26)))]) (.cond (.t 27) .skip (.exit 0))) (.seq (.blk 1 (.seq (.reg [(o1 30 (.mv (.t 1))), (o1 31 (.mv (.t 5))), (o1 32 (.call .false .false (.f 38) [(.t 30), (.t 31)])), (o1 6 (.mv (.t 32)))]) (.seq (.seq (.reg [(o1 33 (.mv (.t 6))), (o1 34 (.bin .lss (.t 33) (.c (.int .i64 (-2147483648))))), (o1 35 (.mv (.t 34))), (oS 36 (.mv (.t 6)) (.some (35, .false))), (oS 37 (.bin .gtr (.t 36) (.c (.int .i64 2147483647))) (.some (35, .false))), (o1 38 (.pick (.t 35) (.c (.bool .true)) (.t 37)))]) (.cond (.t 38) (.seq (.reg [(o1 4 (.mv (.c (.bool .false))))]) .ret) .skip)) (.seq (.reg [(o1 7 (.mv (.c (.int .i64 0))))]) (.blk 2 (.loop [1, 2, 5, 6, 7] [2] [] F38_b1)))))) F38_c2))

def F38_c3 : SC := (.seq (.reg [(o1 4 (.mv (.c (.bool .true))))]) .ret)

def F38 : SFn := ⟨66, [(.tmp 4)], (.seq (.reg [(o1 2 (.box (.t 0))), (o1 4 (.mv (.c (.bool .false))))]) (.seq (.seq (.reg [(o1 9 (.fld 1 (.t 2))), (o1 10 (.load .false .false 1 [.none] (.t 9))), (o1 11 (.mv (.t 10))), (oS 12 (.fld 0 (.t 2)) (.some (11, .false))), (oS 13 (.load .false .false 1 [(.some .i64)] (.t 12)) (.some (11, .false))), (oS 14 (.call .false .false (.f 36) [(.t 13)]) (.some (11, .false))), (oS 15 (.un .not (.t 14)) (.some (11, .false))), (o1 16 (.pick (.t 11) (.c (.bool .true)) (.t 15))), (o1 17 (.mv (.t 16))), (oS 18 (.mv (.t 1)) (.some (17, .false))), (oS 19 (.len (.t 18)) (.some (17, .false))), (oS 20 (.fld 0 (.t 2)) (.some (17, .false))), (oS 21 (.load .false .false 1 [(.some .i64)] (.t 20)) (.some (17, .false))), (oS 22 (.bin .neq (.t 19) (.t 21)) (.some (17, .false))), (o1 23 (.pick (.t 17) (.c (.bool .true)) (.t 22)))]) (.cond (.t 23) (.seq (.reg [(o1 4 (.mv (.c (.bool .false))))]) .ret) .skip)) (.seq (.seq (.reg [(o1 5 (.mv (.c (.int .i64 0))))]) (.blk 0 (.loop [1, 2, 5] [2] [] F38_b0))) F38_c3)))⟩

theorem F38_ok : sfn Tryd.prog hints 27 [([1, 2, 5], ([2], [])), ([1, 2, 5, 6, 7], ([2], []))] = some F38 := by kernel_rfl

def I38_0_0 (a0_0 : Int) (a0_1 : Bool) (a0_2 : List Cell) (a1n : Nat) (a1 : List Cell) (y0_0 : Int) : St := (.mk (.no :: ((.one (.sl (a1n) (a1))) :: ((.box 2 0 0) :: (.no :: (.no :: ((.one (vi y0_0)) :: (n10 (n10 (n10 (n10 (n10 (n10 [])))))))))))) ([] :: ([] :: ([((vi a0_0) :: (vb a0_1) :: (a0_2))] :: (e10 (e10 (e10 (e10 (e10 (e10 ([] :: ([] :: ([] :: [])))))))))))) (e10 (e10 (e10 (e10 (e10 (e10 ([] :: ([] :: ([] :: ([] :: ([] :: ([] :: [])))))))))))))

def I38_3_0 (a0_0 : Int) (a0_1 : Bool) (a0_2 : List Cell) (a1n : Nat) (a1 : List Cell) (y0_0 : Int) (y3_0 : Int) : St := (.mk (.no :: ((.one (.sl (a1n) (a1))) :: ((.box 2 0 0) :: (.no :: (.no :: ((.one (vi y0_0)) :: ((.one (.v (.int .i64 (atP (List.map intC a1) y0_0)))) :: ((.one (vi y3_0)) :: (n10 (n10 (n10 (n10 (n10 (.no :: (.no :: (.no :: (.no :: (.no :: (.no :: (.no :: (.no :: []))))))))))))))))))))) ([] :: ([] :: ([((vi a0_0) :: (vb a0_1) :: (a0_2))] :: (e10 (e10 (e10 (e10 (e10 (e10 ([] :: ([] :: ([] :: [])))))))))))) (e10 (e10 (e10 (e10 (e10 (e10 ([] :: ([] :: ([] :: ([] :: ([] :: ([] :: [])))))))))))))

theorem E38_0_0 (a0_0 : Int) (a0_1 : Bool) (a0_2 : List Cell) (a1n : Nat) (a1 : List Cell) (y0_0 : Int) (N0 : Bool × St → Prop) (R : Ret → Prop) : wpO cx38 F38_b0 (.two (.two (.n 1 .e) (.n 0 (.two .e .e))) .e) (I38_0_0 a0_0 a0_1 a0_2 a1n a1 y0_0) (kLp (headW cx38.m [1, 2, 5] [2] []) N0 (kBlk 0 (kSeq cx38 F38_c3 (endO cx38.m F38.rs R)))) = (bif decide (y0_0 ≤ a0_0) then (bif okRowU 1 (.sl a1n a1) && true && decide (0 ≤ y0_0) && decide (y0_0 ≤ (↑a1n : Int)) && decide (y0_0 ≤ 6) && true && true && true && true && true then (bif decide (atP (List.map intC a1) y0_0 < -2147483648) then (R (Ret.mk (.one (.v (.bool .false))) [])) else (bif decide (atP (List.map intC a1) y0_0 > 2147483647) then (R (Ret.mk (.one (.v (.bool .false))) [])) else (LoopO (bodyX cx38 F38_b1) (headW cx38.m [1, 2, 5, 6, 7] [2] []) (kBlk 2 (kBlk 1 (kSeq cx38 F38_c2 (kLp (headW cx38.m [1, 2, 5] [2] []) N0 (kBlk 0 (kSeq cx38 F38_c3 (endO cx38.m F38.rs R))))))) (a0_2.all plainC && true && true, (I38_3_0 a0_0 a0_1 a0_2 a1n a1 y0_0 0))))) else False) else (R (Ret.mk (.one (.v (.bool .true))) []))) := by kernel_rfl

theorem E38_3_0 (a0_0 : Int) (a0_1 : Bool) (a0_2 : List Cell) (a1n : Nat) (a1 : List Cell) (y0_0 : Int) (y3_0 : Int) (N0 : Bool × St → Prop) (N3 : Bool × St → Prop) (R : Ret → Prop) : wpO cx38 F38_b1 (.two (.two (.n 11 .e) (.n 0 (.two (.n 9 .e) (.n 8 (.two .e .e))))) .e) (I38_3_0 a0_0 a0_1 a0_2 a1n a1 y0_0 y3_0) (kLp (headW cx38.m [1, 2, 5, 6, 7] [2] []) N3 (kBlk 2 (kBlk 1 (kSeq cx38 F38_c2 (kLp (headW cx38.m [1, 2, 5] [2] []) N0 (kBlk 0 (kSeq cx38 F38_c3 (endO cx38.m F38.rs R)))))))) = (bif decide (y3_0 ≤ a0_0) then (bif okRowU 1 (.sl a1n a1) && true && decide (0 ≤ y3_0) && decide (y3_0 ≤ (↑a1n : Int)) && decide (y3_0 ≤ 6) && true && true && true && true && true then (bif decide (atP (List.map intC a1) y3_0 < -2147483648) then (R (Ret.mk (.one (.v (.bool .false))) [])) else (bif decide (atP (List.map intC a1) y3_0 > 2147483647) then (R (Ret.mk (.one (.v (.bool .false))) [])) else (bif decide (0 ≤ y0_0) && decide (y0_0 < 7) then (bif decide (0 ≤ y3_0) && decide (y3_0 < 7) then (bif decide (y3_0.toNat * 1 + y0_0.toNat * 7 + 3 ≤ a0_2.length + 2) && okK (some .i64) (a0_2.getD (y3_0.toNat * 1 + y0_0.toNat * 7) .dead) then (bif decide (IntKind.i64.wrap (atP (List.map intC a1) y0_0 - atP (List.map intC a1) y3_0) > intC (a0_2.getD (y3_0.toNat * 1 + y0_0.toNat * 7) .dead)) then (R (Ret.mk (.one (.v (.bool .false))) [])) else (N3 (a0_2.all plainC && true && true, (I38_3_0 a0_0 a0_1 a0_2 a1n a1 y0_0 (IntKind.i64.wrap (y3_0 + 1)))))) else False) else False) else False))) else False) else (N0 (a0_2.all plainC && true && true, (I38_0_0 a0_0 a0_1 a0_2 a1n a1 (IntKind.i64.wrap (y0_0 + 1)))))) := by kernel_rfl

theorem E38 (a0_0 : Int) (a0_1 : Bool) (a0_2 : List Cell) (a1n : Nat) (a1 : List Cell) (R : Ret → Prop) : wpFO cx38 F38 (.two (.n 8 .e) (.n 2 (.two (.n 4 .e) (.n 3 (.two .e .e))))) [(.agg ((.v (.int .i64 a0_0)) :: (.v (.bool a0_1)) :: a0_2)), (.one (.sl a1n a1))] R = (bif a0_1 then (R (Ret.mk (.one (.v (.bool .false))) [])) else (bif !okN a0_0 then (R (Ret.mk (.one (.v (.bool .false))) [])) else (bif (↑a1n : Int) != a0_0 then (R (Ret.mk (.one (.v (.bool .false))) [])) else (LoopO (bodyX cx38 F38_b0) (headW cx38.m [1, 2, 5] [2] []) (kBlk 0 (kSeq cx38 F38_c3 (endO cx38.m F38.rs R))) (a0_2.all plainC && true && true, (I38_0_0 a0_0 a0_1 a0_2 a1n a1 0)))))) := by kernel_rfl

def f38_wp (a0_0 : Int) (a0_1 : Bool) (a0_2 : List Cell) (a1n : Nat) (a1 : List Cell) (R : Ret → Prop) : Prop := bif a0_1 then (R (Ret.mk (.one (.v (.bool .false))) [])) else (bif !okN a0_0 then (R (Ret.mk (.one (.v (.bool .false))) [])) else (bif (↑a1n : Int) != a0_0 then (R (Ret.mk (.one (.v (.bool .false))) [])) else ((a0_2.all plainC && true && true) = true ∧ LoopP (fun (z0 : (Int)) (k0 : (Int) → Prop) => (fun (z : Int) => (fun (y0_0 : Int) => bif decide (y0_0 ≤ a0_0) then (bif okRowU 1 (.sl a1n a1) && true && decide (0 ≤ y0_0) && decide (y0_0 ≤ (↑a1n : Int)) && decide (y0_0 ≤ 6) && true && true && true && true && true then (bif decide (atP (List.map intC a1) y0_0 < -2147483648) then (R (Ret.mk (.one (.v (.bool .false))) [])) else (bif decide (atP (List.map intC a1) y0_0 > 2147483647) then (R (Ret.mk (.one (.v (.bool .false))) [])) else ((a0_2.all plainC && true && true) = true ∧ LoopP (fun (z3 : (Int)) (k3 : (Int) → Prop) => (fun (z : Int) => (fun (y3_0 : Int) => bif decide (y3_0 ≤ a0_0) then (bif okRowU 1 (.sl a1n a1) && true && decide (0 ≤ y3_0) && decide (y3_0 ≤ (↑a1n : Int)) && decide (y3_0 ≤ 6) && true && true && true && true && true then (bif decide (atP (List.map intC a1) y3_0 < -2147483648) then (R (Ret.mk (.one (.v (.bool .false))) [])) else (bif decide (atP (List.map intC a1) y3_0 > 2147483647) then (R (Ret.mk (.one (.v (.bool .false))) [])) else (bif decide (0 ≤ y0_0) && decide (y0_0 < 7) then (bif decide (0 ≤ y3_0) && decide (y3_0 < 7) then (bif decide (y3_0.toNat * 1 + y0_0.toNat * 7 + 3 ≤ a0_2.length + 2) && okK (some .i64) (a0_2.getD (y3_0.toNat * 1 + y0_0.toNat * 7) .dead) then (bif decide (IntKind.i64.wrap (atP (List.map intC a1) y0_0 - atP (List.map intC a1) y3_0) > intC (a0_2.getD (y3_0.toNat * 1 + y0_0.toNat * 7) .dead)) then (R (Ret.mk (.one (.v (.bool .false))) [])) else ((a0_2.all plainC && true && true) = true ∧ k3 (IntKind.i64.wrap (y3_0 + 1)))) else False) else False) else False))) else False) else ((a0_2.all plainC && true && true) = true ∧ k0 (IntKind.i64.wrap (y0_0 + 1)))) z) z3) 0))) else False) else (R (Ret.mk (.one (.v (.bool .true))) []))) z) z0) 0)))

set_option maxRecDepth 100000 in
theorem f38_sound (a0_0 : Int) (a0_1 : Bool) (a0_2 : List Cell) (a1n : Nat) (a1 : List Cell) (hC : CtxOk Tryd.prog cx38.q.ctx) {r : Ret} (h : f38_wp a0_0 a0_1 a0_2 a1n a1 (fun r' => r' = r)) : SoundAt Tryd.prog 27 [(.agg ((.v (.int .i64 a0_0)) :: (.v (.bool a0_1)) :: a0_2)), (.one (.sl a1n a1))] r := by
  refine soundAtO (C := cx38) (oc := (.two (.n 8 .e) (.n 2 (.two (.n 4 .e) (.n 3 (.two .e .e)))))) mixed hC F38_ok ?_
  rewrite [E38 a0_0 a0_1 a0_2 a1n a1]
  unfold f38_wp at h
  refine cond_mapE h (fun q1 h => ?_) (fun q1 h => ?_)
  · skip
    exact h
  · skip
    refine cond_mapE h (fun q2 h => ?_) (fun q2 h => ?_)
    · skip
      exact h
    · skip
      refine cond_mapE h (fun q3 h => ?_) (fun q3 h => ?_)
      · skip
        exact h
      · skip
        obtain ⟨q79, h⟩ := h
        refine loop_of (I := (fun (z : Int) => (I38_0_0 a0_0 a0_1 a0_2 a1n a1 z))) (fun z k0 h => ?_) h q79 rfl
        obtain ⟨y0_0, rfl⟩ : ∃ y, y = z := ⟨z, rfl⟩
        try dsimp only [sumE_l, sumE_r] at h
        refine bodyX_i (ob := (.two (.two (.n 1 .e) (.n 0 (.two .e .e))) .e)) ?_
        rewrite [E38_0_0 a0_0 a0_1 a0_2 a1n a1 y0_0]
        refine cond_mapE h (fun q51 h => ?_) (fun q51 h => ?_)
        · skip
          refine ck_mapE h (fun q52 h => ?_)
          refine cond_mapE h (fun q53 h => ?_) (fun q53 h => ?_)
          · skip
            exact h
          · skip
            refine cond_mapE h (fun q54 h => ?_) (fun q54 h => ?_)
            · skip
              exact h
            · skip
              obtain ⟨q78, h⟩ := h
              refine loop_of (I := (fun (z : Int) => (I38_3_0 a0_0 a0_1 a0_2 a1n a1 y0_0 z))) (fun z k3 h => ?_) h q78 rfl
              obtain ⟨y3_0, rfl⟩ : ∃ y, y = z := ⟨z, rfl⟩
              try dsimp only [sumE_l, sumE_r] at h
              refine bodyX_i (ob := (.two (.two (.n 11 .e) (.n 0 (.two (.n 9 .e) (.n 8 (.two .e .e))))) .e)) ?_
              rewrite [E38_3_0 a0_0 a0_1 a0_2 a1n a1 y0_0 y3_0]
              refine cond_mapE h (fun q68 h => ?_) (fun q68 h => ?_)
              · skip
                refine ck_mapE h (fun q69 h => ?_)
                refine cond_mapE h (fun q70 h => ?_) (fun q70 h => ?_)
                · skip
                  exact h
                · skip
                  refine cond_mapE h (fun q71 h => ?_) (fun q71 h => ?_)
                  · skip
                    exact h
                  · skip
                    refine ck_mapE h (fun q72 h => ck_mapE h (fun q73 h => ck_mapE h (fun q74 h => ?_)))
                    refine cond_mapE h (fun q75 h => ?_) (fun q75 h => ?_)
                    · skip
                      exact h
                    · skip
                      obtain ⟨q76, h⟩ := h
                      exact again_i (y := (IntKind.i64.wrap (y3_0 + 1))) q76 h
              · skip
                obtain ⟨q77, h⟩ := h
                exact again_i (y := (IntKind.i64.wrap (y0_0 + 1))) q77 h
        · skip
          exact h


def cx48 : CtxW := ⟨⟨[(36, sum91), (32, sum83)], []⟩, 2, []⟩


def F48_b1 : SC := (.seq (.reg [(o1 19 (.bin .lss (.t 18) (.c (.int .i64 7))))]) (.seq (.cond (.t 19) .skip (.exit 2)) (.seq (.blk 3 (.seq (.reg [(o1 20 (.mv (.t 18))), (o1 21 (.ixV .false 7 1 [(.some .i64)] (.t 17) (.t 18))), (o1 5 (.mv (.t 20))), (o1 6 (.mv (.t 21)))]) (.seq (.reg [(o1 22 (.fld 1 (.t 1))), (o1 23 (.load .false .false 1 [.none] (.t 22))), (o1 24 (.mv (.t 23))), (oS 25 (.mv (.t 3)) (.some (24, .false))), (oS 26 (.fld 0 (.t 1)) (.some (24, .false))), (oS 27 (.load .false .false 1 [(.some .i64)] (.t 26)) (.some (24, .false))), (oS 28 (.bin .gtr (.t 25) (.t 27)) (.some (24, .false))), (o1 29 (.pick (.t 24) (.c (.bool .true)) (.t 28))), (o1 30 (.mv (.t 29))), (oS 31 (.mv (.t 5)) (.some (30, .false))), (oS 32 (.fld 0 (.t 1)) (.some (30, .false))), (oS 33 (.load .false .false 1 [(.some .i64)] (.t 32)) (.some (30, .false))), (oS 34 (.bin .gtr (.t 31) (.t 33)) (.some (30, .false))), (o1 35 (.pick (.t 30) (.c (.bool .true)) (.t 34))), (o1 36 (.mv (.t 35))), (oS 37 (.mv (.t 6)) (.some (36, .true))), (oS 38 (.bin .neq (.t 37) (.c (.int .i64 0))) (.some (36, .true))), (o1 39 (.pick (.t 36) (.t 38) (.c (.bool .false)))), (o1 40 (.mv (.t 39))), (oS 41 (.mv (.t 6)) (.some (40, .false))), (oS 42 (.bin .gtr (.t 41) (.c (.int .i64 1099511627776))) (.some (40, .false))), (o1 43 (.pick (.t 40) (.c (.bool .true)) (.t 42))), (o1 44 (.mv (.t 43))), (oS 45 (.mv (.t 6)) (.some (44, .false))), (oS 46 (.bin .lss (.t 45) (.c (.int .i64 (-1099511627776)))) (.some (44, .false))), (o1 47 (.pick (.t 44) (.c (.bool .true)) (.t 46)))]) (.cond (.t 47) (.seq (.reg [(o1 2 (.mv (.c (.bool .false))))]) .ret) .skip)))) (.reg [(o1 48 (.bin .add (.t 18) (.c (.int .i64 1)))), (o1 18 (.mv (.t 48)))]))))

def F48_c2 : SC := (.reg [(o1 49 (.bin .add (.t 13) (.c (.int .i64 1)))), (o1 13 (.mv (.t 49)))])

def F48_b0 : SC := (.seq (.reg [(o1 14 (.bin .lss (.t 13) (.c (.int .i64 7))))]) (.seq (.cond (.t 14) .skip (.exit 0)) (.seq (.blk 1 (.seq (.reg [(o1 15 (.mv (.t 13))), (o1 16 (.ixV .true 7 7 [(.some .i64), (.some .i64), (.some .i64), (.some .i64), (.some .i64), (.some .i64), (.some .i64)] (.t 12) (.t 13))), (o1 4 (.alloc [(.int .i64 0), (.int .i64 0), (.int .i64 0), (.int .i64 0), (.int .i64 0), (.int .i64 0), (.int .i64 0)])), (o1 3 (.mv (.t 15))), (oN (.store .false 7 (.t 4) (.t 16)))]) (.seq (.reg [(o1 17 (.load .false .true 7 [(.some .i64), (.some .i64), (.some .i64), (.some .i64), (.some .i64), (.some .i64), (.some .i64)] (.t 4))), (o1 18 (.mv (.c (.int .i64 0))))]) (.blk 2 (.loop [1, 3, 12, 13, 17, 18] [1] [] F48_b1))))) F48_c2)))

def F48_c3 : SC := (.seq (.reg [(o1 50 (.load .false .true 51 K51 (.t 1))), (o1 51 (.call .false .false (.f 32) [(.t 50)])), (o1 52 (.load .false .true 51 K51 (.t 1))), (o1 53 (.eqA .false K51 (.t 51) (.t 52))), (o1 2 (.mv (.t 53)))]) .ret)

def F48 : SFn := ⟨54, [(.tmp 2)], (.seq (.reg [(o1 1 (.box (.t 0))), (o1 2 (.mv (.c (.bool .false))))]) (.seq (.seq (.reg [(o1 7 (.fld 0 (.t 1))), (o1 8 (.load .false .false 1 [(.some .i64)] (.t 7))), (o1 9 (.call .false .false (.f 36) [(.t 8)])), (o1 10 (.un .not (.t 9)))]) (.cond (.t 10) (.seq (.reg [(o1 2 (.mv (.c (.bool .false))))]) .ret) .skip)) (.seq (.seq (.reg [(o1 11 (.fld 2 (.t 1))), (o1 12 (.load .false .true 49 K49 (.t 11))), (o1 13 (.mv (.c (.int .i64 0))))]) (.blk 0 (.loop [1, 12, 13] [1] [] F48_b0))) F48_c3)))⟩

theorem F48_ok : sfn Tryd.prog hints 22 [([1, 12, 13], ([1], [])), ([1, 3, 12, 13, 17, 18], ([1], []))] = some F48 := by kernel_rfl

abbrev X48_0 (a0_2 : List Cell) (y0_0 : Int) (y3_0 : Int) := ([Cell.v (Value.int .i64 (intC ((List.take 49 a0_2).getD (y0_0.toNat * 7) .dead))), Cell.v (Value.int .i64 (intC ((List.take 49 a0_2).getD (y0_0.toNat * 7 + 1) .dead))), Cell.v (Value.int .i64 (intC ((List.take 49 a0_2).getD (y0_0.toNat * 7 + 2) .dead))), Cell.v (Value.int .i64 (intC ((List.take 49 a0_2).getD (y0_0.toNat * 7 + 3) .dead))), Cell.v (Value.int .i64 (intC ((List.take 49 a0_2).getD (y0_0.toNat * 7 + 4) .dead))), Cell.v (Value.int .i64 (intC ((List.take 49 a0_2).getD (y0_0.toNat * 7 + 5) .dead))), Cell.v (Value.int .i64 (intC ((List.take 49 a0_2).getD (y0_0.toNat * 7 + 6) .dead)))].getD (y3_0.toNat * 1) .dead)
abbrev X48_1 (a0_2 : List Cell) := ((List.take 49 a0_2).all plainC && true && (a0_2.all plainC && true && true))

def I48_0_0 (a0_0 : Int) (a0_1 : Bool) (a0_2 : List Cell) (y0_0 : Int) : St := (.mk (.no :: ((.box 1 0 0) :: (n10 ((.agg (List.take 49 a0_2)) :: ((.one (vi y0_0)) :: (n10 (n10 (n10 (n10 []))))))))) ([] :: ([((vi a0_0) :: (vb a0_1) :: (a0_2))] :: (e10 (e10 (e10 (e10 (e10 ([] :: ([] :: []))))))))) (e10 (e10 (e10 (e10 (e10 ([] :: ([] :: ([] :: ([] :: []))))))))))

def I48_3_0 (a0_0 : Int) (a0_1 : Bool) (a0_2 : List Cell) (y0_0 : Int) (y3_0 : Int) : St := (.mk (.no :: ((.box 1 0 0) :: (.no :: ((.one (vi y0_0)) :: (.no :: (.no :: (.no :: (.no :: (.no :: (.no :: (.no :: (.no :: ((.agg (List.take 49 a0_2)) :: ((.one (vi y0_0)) :: (.no :: (.no :: (.no :: ((.agg [(.v (.int .i64 (intC ((List.take 49 a0_2).getD (y0_0.toNat * 7) .dead)))), (.v (.int .i64 (intC ((List.take 49 a0_2).getD (y0_0.toNat * 7 + 1) .dead)))), (.v (.int .i64 (intC ((List.take 49 a0_2).getD (y0_0.toNat * 7 + 2) .dead)))), (.v (.int .i64 (intC ((List.take 49 a0_2).getD (y0_0.toNat * 7 + 3) .dead)))), (.v (.int .i64 (intC ((List.take 49 a0_2).getD (y0_0.toNat * 7 + 4) .dead)))), (.v (.int .i64 (intC ((List.take 49 a0_2).getD (y0_0.toNat * 7 + 5) .dead)))), (.v (.int .i64 (intC ((List.take 49 a0_2).getD (y0_0.toNat * 7 + 6) .dead))))]) :: ((.one (vi y3_0)) :: (n10 (n10 (n10 (.no :: (.no :: (.no :: (.no :: (.no :: []))))))))))))))))))))))))))) ([] :: ([((vi a0_0) :: (vb a0_1) :: (a0_2))] :: (e10 (e10 (e10 (e10 (e10 ([] :: ([] :: []))))))))) (e10 (e10 (e10 (e10 (e10 ([] :: ([] :: ([] :: ([] :: []))))))))))

theorem E48_0_0 (a0_0 : Int) (a0_1 : Bool) (a0_2 : List Cell) (y0_0 : Int) (N0 : Bool × St → Prop) (R : Ret → Prop) : wpO cx48 F48_b0 (.two .e .e) (I48_0_0 a0_0 a0_1 a0_2 y0_0) (kLp (headW cx48.m [1, 12, 13] [1] []) N0 (kBlk 0 (kSeq cx48 F48_c3 (endO cx48.m F48.rs R)))) = (bif decide (y0_0 < 7) then (bif decide (0 ≤ y0_0) && decide (y0_0 < 7) && (decide (y0_0.toNat * 7 + 7 ≤ (List.take 49 a0_2).length) && (okK (some .i64) ((List.take 49 a0_2).getD (y0_0.toNat * 7) .dead) && (okK (some .i64) ((List.take 49 a0_2).getD (y0_0.toNat * 7 + 1) .dead) && (okK (some .i64) ((List.take 49 a0_2).getD (y0_0.toNat * 7 + 2) .dead) && (okK (some .i64) ((List.take 49 a0_2).getD (y0_0.toNat * 7 + 3) .dead) && (okK (some .i64) ((List.take 49 a0_2).getD (y0_0.toNat * 7 + 4) .dead) && (okK (some .i64) ((List.take 49 a0_2).getD (y0_0.toNat * 7 + 5) .dead) && (okK (some .i64) ((List.take 49 a0_2).getD (y0_0.toNat * 7 + 6) .dead) && true)))))))) then (LoopO (bodyX cx48 F48_b1) (headW cx48.m [1, 3, 12, 13, 17, 18] [1] []) (kBlk 2 (kBlk 1 (kSeq cx48 F48_c2 (kLp (headW cx48.m [1, 12, 13] [1] []) N0 (kBlk 0 (kSeq cx48 F48_c3 (endO cx48.m F48.rs R))))))) ((List.take 49 a0_2).all plainC && true && (a0_2.all plainC && true && true), (I48_3_0 a0_0 a0_1 a0_2 y0_0 0))) else False) else (bif a0_2.length + 2 == 51 then (bif a0_2.all plainC && true && (a0_2.all (isInt .i64) && a0_2.length == 49) && (ic .i64 (closeZ (a0_0, a0_1, List.map intC a0_2)).2.2).all (okC 0) && true && true && true && true then (bif a0_2.length + 2 == 51 then (bif okL K49 (ic .i64 (closeZ (a0_0, a0_1, List.map intC a0_2)).2.2) && okL K49 a0_2 then (R (Ret.mk (.one (.v (.bool ((closeZ (a0_0, a0_1, List.map intC a0_2)).1 == a0_0 && ((closeZ (a0_0, a0_1, List.map intC a0_2)).2.1 == a0_1 && eqW K49 (ic .i64 (closeZ (a0_0, a0_1, List.map intC a0_2)).2.2) a0_2))))) [])) else False) else False) else False) else False)) := by kernel_rfl

theorem E48_3_0 (a0_0 : Int) (a0_1 : Bool) (a0_2 : List Cell) (y0_0 : Int) (y3_0 : Int) (N0 : Bool × St → Prop) (N3 : Bool × St → Prop) (R : Ret → Prop) : wpO cx48 F48_b1 (.two (.two (.n 8 (.two (.n 3 .e) (.n 0 (.two (.n 1 .e) (.n 0 (.two .e .e)))))) (.n 2 (.two (.n 4 (.two (.n 3 .e) (.n 0 (.two (.n 1 .e) (.n 0 (.two .e .e)))))) (.n 2 (.two (.n 0 (.two (.n 3 .e) (.n 0 (.two (.n 1 .e) (.n 0 (.two .e .e)))))) (.n 2 (.two (.n 1 .e) (.n 0 (.two .e .e))))))))) .e) (I48_3_0 a0_0 a0_1 a0_2 y0_0 y3_0) (kLp (headW cx48.m [1, 3, 12, 13, 17, 18] [1] []) N3 (kBlk 2 (kBlk 1 (kSeq cx48 F48_c2 (kLp (headW cx48.m [1, 12, 13] [1] []) N0 (kBlk 0 (kSeq cx48 F48_c3 (endO cx48.m F48.rs R)))))))) = (bif decide (y3_0 < 7) then (bif decide (0 ≤ y3_0) && decide (y3_0 < 7) && (decide (y3_0.toNat * 1 + 1 ≤ 7) && okK (some .i64) (X48_0 a0_2 y0_0 y3_0)) then (bif a0_1 then (bif intC (X48_0 a0_2 y0_0 y3_0) != 0 then (R (Ret.mk (.one (.v (.bool .false))) [])) else (bif decide (intC (X48_0 a0_2 y0_0 y3_0) > 1099511627776) then (R (Ret.mk (.one (.v (.bool .false))) [])) else (bif decide (intC (X48_0 a0_2 y0_0 y3_0) < -1099511627776) then (R (Ret.mk (.one (.v (.bool .false))) [])) else (N3 ((List.take 49 a0_2).all plainC && true && (a0_2.all plainC && true && true), (I48_3_0 a0_0 a0_1 a0_2 y0_0 (IntKind.i64.wrap (y3_0 + 1)))))))) else (bif decide (y0_0 > a0_0) then (bif intC (X48_0 a0_2 y0_0 y3_0) != 0 then (R (Ret.mk (.one (.v (.bool .false))) [])) else (bif decide (intC (X48_0 a0_2 y0_0 y3_0) > 1099511627776) then (R (Ret.mk (.one (.v (.bool .false))) [])) else (bif decide (intC (X48_0 a0_2 y0_0 y3_0) < -1099511627776) then (R (Ret.mk (.one (.v (.bool .false))) [])) else (N3 ((List.take 49 a0_2).all plainC && true && (a0_2.all plainC && true && true), (I48_3_0 a0_0 a0_1 a0_2 y0_0 (IntKind.i64.wrap (y3_0 + 1)))))))) else (bif decide (y3_0 > a0_0) then (bif intC (X48_0 a0_2 y0_0 y3_0) != 0 then (R (Ret.mk (.one (.v (.bool .false))) [])) else (bif decide (intC (X48_0 a0_2 y0_0 y3_0) > 1099511627776) then (R (Ret.mk (.one (.v (.bool .false))) [])) else (bif decide (intC (X48_0 a0_2 y0_0 y3_0) < -1099511627776) then (R (Ret.mk (.one (.v (.bool .false))) [])) else (N3 ((List.take 49 a0_2).all plainC && true && (a0_2.all plainC && true && true), (I48_3_0 a0_0 a0_1 a0_2 y0_0 (IntKind.i64.wrap (y3_0 + 1)))))))) else (bif decide (intC (X48_0 a0_2 y0_0 y3_0) > 1099511627776) then (R (Ret.mk (.one (.v (.bool .false))) [])) else (bif decide (intC (X48_0 a0_2 y0_0 y3_0) < -1099511627776) then (R (Ret.mk (.one (.v (.bool .false))) [])) else (N3 ((List.take 49 a0_2).all plainC && true && (a0_2.all plainC && true && true), (I48_3_0 a0_0 a0_1 a0_2 y0_0 (IntKind.i64.wrap (y3_0 + 1)))))))))) else False) else (N0 ((List.take 49 a0_2).all plainC && true && (a0_2.all plainC && true && true), (I48_0_0 a0_0 a0_1 a0_2 (IntKind.i64.wrap (y0_0 + 1)))))) := by kernel_rfl

theorem E48 (a0_0 : Int) (a0_1 : Bool) (a0_2 : List Cell) (R : Ret → Prop) : wpFO cx48 F48 (.two .e .e) [(.agg ((.v (.int .i64 a0_0)) :: (.v (.bool a0_1)) :: a0_2))] R = (bif !okN a0_0 then (R (Ret.mk (.one (.v (.bool .false))) [])) else (bif decide (51 ≤ a0_2.length + 2) then (LoopO (bodyX cx48 F48_b0) (headW cx48.m [1, 12, 13] [1] []) (kBlk 0 (kSeq cx48 F48_c3 (endO cx48.m F48.rs R))) ((List.take 49 a0_2).all plainC && true && (a0_2.all plainC && true && true), (I48_0_0 a0_0 a0_1 a0_2 0))) else False)) := by kernel_rfl

def f48_wp (a0_0 : Int) (a0_1 : Bool) (a0_2 : List Cell) (R : Ret → Prop) : Prop := bif !okN a0_0 then (R (Ret.mk (.one (.v (.bool .false))) [])) else (bif decide (51 ≤ a0_2.length + 2) then ((X48_1 a0_2) = true ∧ LoopP (fun (z0 : (Int)) (k0 : (Int) → Prop) => (fun (z : Int) => (fun (y0_0 : Int) => bif decide (y0_0 < 7) then (bif decide (0 ≤ y0_0) && decide (y0_0 < 7) && (decide (y0_0.toNat * 7 + 7 ≤ (List.take 49 a0_2).length) && (okK (some .i64) ((List.take 49 a0_2).getD (y0_0.toNat * 7) .dead) && (okK (some .i64) ((List.take 49 a0_2).getD (y0_0.toNat * 7 + 1) .dead) && (okK (some .i64) ((List.take 49 a0_2).getD (y0_0.toNat * 7 + 2) .dead) && (okK (some .i64) ((List.take 49 a0_2).getD (y0_0.toNat * 7 + 3) .dead) && (okK (some .i64) ((List.take 49 a0_2).getD (y0_0.toNat * 7 + 4) .dead) && (okK (some .i64) ((List.take 49 a0_2).getD (y0_0.toNat * 7 + 5) .dead) && (okK (some .i64) ((List.take 49 a0_2).getD (y0_0.toNat * 7 + 6) .dead) && true)))))))) then ((X48_1 a0_2) = true ∧ LoopP (fun (z3 : (Int)) (k3 : (Int) → Prop) => (fun (z : Int) => (fun (y3_0 : Int) => bif decide (y3_0 < 7) then (bif decide (0 ≤ y3_0) && decide (y3_0 < 7) && (decide (y3_0.toNat * 1 + 1 ≤ 7) && okK (some .i64) (X48_0 a0_2 y0_0 y3_0)) then (bif a0_1 then (bif intC (X48_0 a0_2 y0_0 y3_0) != 0 then (R (Ret.mk (.one (.v (.bool .false))) [])) else (bif decide (intC (X48_0 a0_2 y0_0 y3_0) > 1099511627776) then (R (Ret.mk (.one (.v (.bool .false))) [])) else (bif decide (intC (X48_0 a0_2 y0_0 y3_0) < -1099511627776) then (R (Ret.mk (.one (.v (.bool .false))) [])) else ((X48_1 a0_2) = true ∧ k3 (IntKind.i64.wrap (y3_0 + 1)))))) else (bif decide (y0_0 > a0_0) then (bif intC (X48_0 a0_2 y0_0 y3_0) != 0 then (R (Ret.mk (.one (.v (.bool .false))) [])) else (bif decide (intC (X48_0 a0_2 y0_0 y3_0) > 1099511627776) then (R (Ret.mk (.one (.v (.bool .false))) [])) else (bif decide (intC (X48_0 a0_2 y0_0 y3_0) < -1099511627776) then (R (Ret.mk (.one (.v (.bool .false))) [])) else ((X48_1 a0_2) = true ∧ k3 (IntKind.i64.wrap (y3_0 + 1)))))) else (bif decide (y3_0 > a0_0) then (bif intC (X48_0 a0_2 y0_0 y3_0) != 0 then (R (Ret.mk (.one (.v (.bool .false))) [])) else (bif decide (intC (X48_0 a0_2 y0_0 y3_0) > 1099511627776) then (R (Ret.mk (.one (.v (.bool .false))) [])) else (bif decide (intC (X48_0 a0_2 y0_0 y3_0) < -1099511627776) then (R (Ret.mk (.one (.v (.bool .false))) [])) else ((X48_1 a0_2) = true ∧ k3 (IntKind.i64.wrap (y3_0 + 1)))))) else (bif decide (intC (X48_0 a0_2 y0_0 y3_0) > 1099511627776) then (R (Ret.mk (.one (.v (.bool .false))) [])) else (bif decide (intC (X48_0 a0_2 y0_0 y3_0) < -1099511627776) then (R (Ret.mk (.one (.v (.bool .false))) [])) else ((X48_1 a0_2) = true ∧ k3 (IntKind.i64.wrap (y3_0 + 1)))))))) else False) else ((X48_1 a0_2) = true ∧ k0 (IntKind.i64.wrap (y0_0 + 1)))) z) z3) 0) else False) else (bif a0_2.length + 2 == 51 then (bif a0_2.all plainC && true && (a0_2.all (isInt .i64) && a0_2.length == 49) && (ic .i64 (closeZ (a0_0, a0_1, List.map intC a0_2)).2.2).all (okC 0) && true && true && true && true then (bif okL K49 (ic .i64 (closeZ (a0_0, a0_1, List.map intC a0_2)).2.2) && okL K49 a0_2 then (R (Ret.mk (.one (.v (.bool ((closeZ (a0_0, a0_1, List.map intC a0_2)).1 == a0_0 && ((closeZ (a0_0, a0_1, List.map intC a0_2)).2.1 == a0_1 && eqW K49 (ic .i64 (closeZ (a0_0, a0_1, List.map intC a0_2)).2.2) a0_2))))) [])) else False) else False) else False)) z) z0) 0) else False)

set_option maxRecDepth 100000 in
theorem f48_sound (a0_0 : Int) (a0_1 : Bool) (a0_2 : List Cell) (hC : CtxOk Tryd.prog cx48.q.ctx) {r : Ret} (h : f48_wp a0_0 a0_1 a0_2 (fun r' => r' = r)) : SoundAt Tryd.prog 22 [(.agg ((.v (.int .i64 a0_0)) :: (.v (.bool a0_1)) :: a0_2))] r := by
  refine soundAtO (C := cx48) (oc := (.two .e .e)) mixed hC F48_ok ?_
  rewrite [E48 a0_0 a0_1 a0_2]
  unfold f48_wp at h
  refine cond_mapE h (fun q1 h => ?_) (fun q1 h => ?_)
  · skip
    exact h
  · skip
    refine ck_mapE h (fun q2 h => ?_)
    obtain ⟨q161, h⟩ := h
    refine loop_of (I := (fun (z : Int) => (I48_0_0 a0_0 a0_1 a0_2 z))) (fun z k0 h => ?_) h q161 rfl
    obtain ⟨y0_0, rfl⟩ : ∃ y, y = z := ⟨z, rfl⟩
    try dsimp only [sumE_l, sumE_r] at h
    refine bodyX_i (ob := (.two .e .e)) ?_
    rewrite [E48_0_0 a0_0 a0_1 a0_2 y0_0]
    refine cond_mapE h (fun q104 h => ?_) (fun q104 h => ?_)
    · skip
      refine ck_mapE h (fun q105 h => ?_)
      obtain ⟨q157, h⟩ := h
      refine loop_of (I := (fun (z : Int) => (I48_3_0 a0_0 a0_1 a0_2 y0_0 z))) (fun z k3 h => ?_) h q157 rfl
      obtain ⟨y3_0, rfl⟩ : ∃ y, y = z := ⟨z, rfl⟩
      try dsimp only [sumE_l, sumE_r] at h
      refine bodyX_i (ob := (.two (.two (.n 8 (.two (.n 3 .e) (.n 0 (.two (.n 1 .e) (.n 0 (.two .e .e)))))) (.n 2 (.two (.n 4 (.two (.n 3 .e) (.n 0 (.two (.n 1 .e) (.n 0 (.two .e .e)))))) (.n 2 (.two (.n 0 (.two (.n 3 .e) (.n 0 (.two (.n 1 .e) (.n 0 (.two .e .e)))))) (.n 2 (.two (.n 1 .e) (.n 0 (.two .e .e))))))))) .e)) ?_
      rewrite [E48_3_0 a0_0 a0_1 a0_2 y0_0 y3_0]
      refine cond_mapE h (fun q136 h => ?_) (fun q136 h => ?_)
      · skip
        refine ck_mapE h (fun q137 h => ?_)
        refine cond_mapE h (fun q138 h => ?_) (fun q138 h => ?_)
        · skip
          refine cond_mapE h (fun q139 h => ?_) (fun q139 h => ?_)
          · skip
            exact h
          · skip
            refine cond_mapE h (fun q140 h => ?_) (fun q140 h => ?_)
            · skip
              exact h
            · skip
              refine cond_mapE h (fun q141 h => ?_) (fun q141 h => ?_)
              · skip
                exact h
              · skip
                obtain ⟨q142, h⟩ := h
                exact again_i (y := (IntKind.i64.wrap (y3_0 + 1))) q142 h
        · skip
          refine cond_mapE h (fun q143 h => ?_) (fun q143 h => ?_)
          · skip
            refine cond_mapE h (fun q144 h => ?_) (fun q144 h => ?_)
            · skip
              exact h
            · skip
              refine cond_mapE h (fun q145 h => ?_) (fun q145 h => ?_)
              · skip
                exact h
              · skip
                refine cond_mapE h (fun q146 h => ?_) (fun q146 h => ?_)
                · skip
                  exact h
                · skip
                  obtain ⟨q147, h⟩ := h
                  exact again_i (y := (IntKind.i64.wrap (y3_0 + 1))) q147 h
          · skip
            refine cond_mapE h (fun q148 h => ?_) (fun q148 h => ?_)
            · skip
              refine cond_mapE h (fun q149 h => ?_) (fun q149 h => ?_)
              · skip
                exact h
              · skip
                refine cond_mapE h (fun q150 h => ?_) (fun q150 h => ?_)
                · skip
                  exact h
                · skip
                  refine cond_mapE h (fun q151 h => ?_) (fun q151 h => ?_)
                  · skip
                    exact h
                  · skip
                    obtain ⟨q152, h⟩ := h
                    exact again_i (y := (IntKind.i64.wrap (y3_0 + 1))) q152 h
            · skip
              refine cond_mapE h (fun q153 h => ?_) (fun q153 h => ?_)
              · skip
                exact h
              · skip
                refine cond_mapE h (fun q154 h => ?_) (fun q154 h => ?_)
                · skip
                  exact h
                · skip
                  obtain ⟨q155, h⟩ := h
                  exact again_i (y := (IntKind.i64.wrap (y3_0 + 1))) q155 h
      · skip
        obtain ⟨q156, h⟩ := h
        exact again_i (y := (IntKind.i64.wrap (y0_0 + 1))) q156 h
    · skip
      refine ck_mapE h (fun q158 h => ck_mapE h (fun q159 h => ck_i q158 (ck_mapE h (fun q160 h => ?_))))
      exact h


end Go.Proofs.YtgmciihlmgeecaaDoor.Fn
