import Derived.Test.YtgmciihlmgeecaaFnBase

import Derived.Test.YtgmciihlmgeecaaSpZ

import Derived.Test.YtgmciihlmgeecaaMtO2

/- Functions of zones, walked. No conditions beyond those named. -/

namespace Go.Proofs.Ytgmciihlmgeecaa.Fn

open Go Go.RowKit Go.Proofs Go.Proofs.Ytgmciihlmgeecaa.Mt Go.Proofs.Ytgmciihlmgeecaa.Zm

set_option linter.unusedVariables false

set_option linter.unusedSimpArgs false

def cx91 : CtxW := ⟨⟨[], []⟩, 16, []⟩


def F91 : SFn := ⟨9, [(.tmp (2))], (.seq (.reg [(.mk (.some (2)) (.mv (.c (.bool .false))) .none)]) (.seq (.reg [(.mk (.some (3)) (.mv (.t (0))) .none), (.mk (.some (4)) (.bin .geq (.t (3)) (.c (.int .i64 (0)))) .none), (.mk (.some (5)) (.mv (.t (4))) .none), (.mk (.some (6)) (.mv (.t (0))) (.some ((5), .true))), (.mk (.some (7)) (.bin .leq (.t (6)) (.c (.int .i64 (6)))) (.some ((5), .true))), (.mk (.some (8)) (.pick (.t (5)) (.t (7)) (.c (.bool .false))) .none), (.mk (.some (2)) (.mv (.t (8))) .none)]) .ret))⟩

theorem F91_ok : sfn Try.prog hints 91 [] = some F91 := by kernel_rfl

theorem E91 (a0 : Int) (R : Ret → Prop) : wpFO cx91 F91 (.two (.n 0 .e) (.n 0 .e)) [(.one (.v (.int .i64 a0)))] R = (bif decide (a0 ≥ 0) then (R (Ret.mk (.one (.v (.bool (decide (a0 ≤ 6))))) [])) else (R (Ret.mk (.one (.v (.bool .false))) []))) := by kernel_rfl

def f91_wp (a0 : Int) (R : Ret → Prop) : Prop := bif decide (a0 ≥ 0) then (R (Ret.mk (.one (.v (.bool (decide (a0 ≤ 6))))) [])) else (R (Ret.mk (.one (.v (.bool .false))) []))

set_option maxRecDepth 100000 in
theorem f91_sound (a0 : Int) (hC : CtxOk Try.prog cx91.q.ctx) {r : Ret} (h : f91_wp a0 (fun r' => r' = r)) : SoundAt Try.prog 91 [(.one (.v (.int .i64 a0)))] r := by
  refine soundAtO (C := cx91) (oc := (.two (.n 0 .e) (.n 0 .e))) mixed hC F91_ok ?_
  rewrite [E91 a0]
  unfold f91_wp at h
  refine cond_mapE h (fun q1 h => ?_) (fun q1 h => ?_)
  · skip
    exact h
  · skip
    exact h


def cx112 : CtxW := ⟨⟨[], []⟩, 2, []⟩


def F112 : SFn := ⟨5, [(.cell (2) .true (51))], (.seq (.reg [(.mk (.some (2)) (.alloc [(.int .i64 (0)), (.bool .false), (.int .i64 (0)), (.int .i64 (0)), (.int .i64 (0)), (.int .i64 (0)), (.int .i64 (0)), (.int .i64 (0)), (.int .i64 (0)), (.int .i64 (0)), (.int .i64 (0)), (.int .i64 (0)), (.int .i64 (0)), (.int .i64 (0)), (.int .i64 (0)), (.int .i64 (0)), (.int .i64 (0)), (.int .i64 (0)), (.int .i64 (0)), (.int .i64 (0)), (.int .i64 (0)), (.int .i64 (0)), (.int .i64 (0)), (.int .i64 (0)), (.int .i64 (0)), (.int .i64 (0)), (.int .i64 (0)), (.int .i64 (0)), (.int .i64 (0)), (.int .i64 (0)), (.int .i64 (0)), (.int .i64 (0)), (.int .i64 (0)), (.int .i64 (0)), (.int .i64 (0)), (.int .i64 (0)), (.int .i64 (0)), (.int .i64 (0)), (.int .i64 (0)), (.int .i64 (0)), (.int .i64 (0)), (.int .i64 (0)), (.int .i64 (0)), (.int .i64 (0)), (.int .i64 (0)), (.int .i64 (0)), (.int .i64 (0)), (.int .i64 (0)), (.int .i64 (0)), (.int .i64 (0)), (.int .i64 (0))]) .none)]) (.seq (.reg [(.mk (.some (3)) (.mv (.t (0))) .none), (.mk (.some (4)) (.build [(.int .i64 (0)), (.bool .false), (.int .i64 (0)), (.int .i64 (0)), (.int .i64 (0)), (.int .i64 (0)), (.int .i64 (0)), (.int .i64 (0)), (.int .i64 (0)), (.int .i64 (0)), (.int .i64 (0)), (.int .i64 (0)), (.int .i64 (0)), (.int .i64 (0)), (.int .i64 (0)), (.int .i64 (0)), (.int .i64 (0)), (.int .i64 (0)), (.int .i64 (0)), (.int .i64 (0)), (.int .i64 (0)), (.int .i64 (0)), (.int .i64 (0)), (.int .i64 (0)), (.int .i64 (0)), (.int .i64 (0)), (.int .i64 (0)), (.int .i64 (0)), (.int .i64 (0)), (.int .i64 (0)), (.int .i64 (0)), (.int .i64 (0)), (.int .i64 (0)), (.int .i64 (0)), (.int .i64 (0)), (.int .i64 (0)), (.int .i64 (0)), (.int .i64 (0)), (.int .i64 (0)), (.int .i64 (0)), (.int .i64 (0)), (.int .i64 (0)), (.int .i64 (0)), (.int .i64 (0)), (.int .i64 (0)), (.int .i64 (0)), (.int .i64 (0)), (.int .i64 (0)), (.int .i64 (0)), (.int .i64 (0)), (.int .i64 (0))] [((0), ((1), (.t (3)))), ((1), ((1), (.c (.bool .true))))]) .none), (.mk .none (.store .false (51) (.t (2)) (.t (4))) .none)]) .ret))⟩

theorem F112_ok : sfn Try.prog hints 112 [] = some F112 := by kernel_rfl

theorem E112 (a0 : Int) (R : Ret → Prop) : wpFO cx112 F112 .e [(.one (.v (.int .i64 a0)))] R = (R (Ret.mk (.agg ((.v (.int .i64 (a0))) :: (.v (.bool .true)) :: (List.replicate (49) (Cell.v (Value.int IntKind.i64 0))))) [])) := by kernel_rfl

def f112_wp (a0 : Int) (R : Ret → Prop) : Prop := R (Ret.mk (.agg ((.v (.int .i64 (a0))) :: (.v (.bool .true)) :: (List.replicate (49) (Cell.v (Value.int IntKind.i64 0))))) [])

set_option maxRecDepth 100000 in
theorem f112_sound (a0 : Int) (hC : CtxOk Try.prog cx112.q.ctx) {r : Ret} (h : f112_wp a0 (fun r' => r' = r)) : SoundAt Try.prog 112 [(.one (.v (.int .i64 a0)))] r := by
  refine soundAtO (C := cx112) (oc := .e) mixed hC F112_ok ?_
  rewrite [E112 a0]
  unfold f112_wp at h
  exact h


def cx85 : CtxW := ⟨⟨[(91, sum91)], []⟩, 2, []⟩


def F85 : SFn := ⟨23, [(.tmp (4))], (.seq (.reg [(.mk (.some (2)) (.box (.t (0))) .none), (.mk (.some (4)) (.mv (.c (.bool .false))) .none)]) (.seq (.reg [(.mk (.some (5)) (.fld (0) (.t (2))) .none), (.mk (.some (6)) (.load .false .false (1) [(.some .i64)] (.t (5))) .none), (.mk (.some (7)) (.call .false .false (.f (91)) [(.t (6))]) .none), (.mk (.some (8)) (.mv (.t (7))) .none), (.mk (.some (9)) (.fld (1) (.t (2))) (.some ((8), .true))), (.mk (.some (10)) (.load .false .false (1) [.none] (.t (9))) (.some ((8), .true))), (.mk (.some (11)) (.un .not (.t (10))) (.some ((8), .true))), (.mk (.some (12)) (.pick (.t (8)) (.t (11)) (.c (.bool .false))) .none), (.mk (.some (13)) (.mv (.t (12))) .none), (.mk (.some (14)) (.mv (.t (1))) (.some ((13), .true))), (.mk (.some (15)) (.bin .geq (.t (14)) (.c (.int .i64 (0)))) (.some ((13), .true))), (.mk (.some (16)) (.pick (.t (13)) (.t (15)) (.c (.bool .false))) .none), (.mk (.some (17)) (.mv (.t (16))) .none), (.mk (.some (18)) (.mv (.t (1))) (.some ((17), .true))), (.mk (.some (19)) (.fld (0) (.t (2))) (.some ((17), .true))), (.mk (.some (20)) (.load .false .false (1) [(.some .i64)] (.t (19))) (.some ((17), .true))), (.mk (.some (21)) (.bin .lss (.t (18)) (.t (20))) (.some ((17), .true))), (.mk (.some (22)) (.pick (.t (17)) (.t (21)) (.c (.bool .false))) .none), (.mk (.some (4)) (.mv (.t (22))) .none)]) .ret))⟩

theorem F85_ok : sfn Try.prog hints 85 [] = some F85 := by kernel_rfl

theorem E85 (a0_0 : Int) (a0_1 : Bool) (a0_2 : List Cell) (a1 : Int) (R : Ret → Prop) : wpFO cx85 F85 (.two (.n 1 (.two (.n 0 (.two (.n 2 .e) (.n 2 .e))) (.n 4 .e))) (.n 7 .e)) [(.agg ((.v (.int .i64 a0_0)) :: (.v (.bool a0_1)) :: a0_2)), (.one (.v (.int .i64 a1)))] R = (bif okN a0_0 then (bif !a0_1 then (bif decide (a1 ≥ 0) then (R (Ret.mk (.one (.v (.bool (decide (a1 < a0_0))))) [])) else (R (Ret.mk (.one (.v (.bool .false))) []))) else (R (Ret.mk (.one (.v (.bool .false))) []))) else (R (Ret.mk (.one (.v (.bool .false))) []))) := by kernel_rfl

def f85_wp (a0_0 : Int) (a0_1 : Bool) (a0_2 : List Cell) (a1 : Int) (R : Ret → Prop) : Prop := bif okN a0_0 then (bif !a0_1 then (bif decide (a1 ≥ 0) then (R (Ret.mk (.one (.v (.bool (decide (a1 < a0_0))))) [])) else (R (Ret.mk (.one (.v (.bool .false))) []))) else (R (Ret.mk (.one (.v (.bool .false))) []))) else (R (Ret.mk (.one (.v (.bool .false))) []))

set_option maxRecDepth 100000 in
theorem f85_sound (a0_0 : Int) (a0_1 : Bool) (a0_2 : List Cell) (a1 : Int) (hC : CtxOk Try.prog cx85.q.ctx) {r : Ret} (h : f85_wp a0_0 a0_1 a0_2 a1 (fun r' => r' = r)) : SoundAt Try.prog 85 [(.agg ((.v (.int .i64 a0_0)) :: (.v (.bool a0_1)) :: a0_2)), (.one (.v (.int .i64 a1)))] r := by
  refine soundAtO (C := cx85) (oc := (.two (.n 1 (.two (.n 0 (.two (.n 2 .e) (.n 2 .e))) (.n 4 .e))) (.n 7 .e))) mixed hC F85_ok ?_
  rewrite [E85 a0_0 a0_1 a0_2 a1]
  unfold f85_wp at h
  refine cond_mapE h (fun q1 h => ?_) (fun q1 h => ?_)
  · skip
    refine cond_mapE h (fun q2 h => ?_) (fun q2 h => ?_)
    · skip
      refine cond_mapE h (fun q3 h => ?_) (fun q3 h => ?_)
      · skip
        exact h
      · skip
        exact h
    · skip
      exact h
  · skip
    exact h


def cx84 : CtxW := ⟨⟨[(91, sum91), (85, sum85)], []⟩, 2, []⟩


def F84 : SFn := ⟨22, [(.tmp (4))], (.seq (.reg [(.mk (.some (2)) (.box (.t (0))) .none), (.mk (.some (4)) (.mv (.c (.bool .false))) .none)]) (.seq (.reg [(.mk (.some (5)) (.mv (.t (1))) .none), (.mk (.some (6)) (.bin .eql (.t (5)) (.c (.int .i64 (-1)))) .none), (.mk (.some (7)) (.mv (.t (6))) .none), (.mk (.some (8)) (.fld (0) (.t (2))) (.some ((7), .true))), (.mk (.some (9)) (.load .false .false (1) [(.some .i64)] (.t (8))) (.some ((7), .true))), (.mk (.some (10)) (.call .false .false (.f (91)) [(.t (9))]) (.some ((7), .true))), (.mk (.some (11)) (.pick (.t (7)) (.t (10)) (.c (.bool .false))) .none), (.mk (.some (12)) (.mv (.t (11))) .none), (.mk (.some (13)) (.fld (1) (.t (2))) (.some ((12), .true))), (.mk (.some (14)) (.load .false .false (1) [.none] (.t (13))) (.some ((12), .true))), (.mk (.some (15)) (.un .not (.t (14))) (.some ((12), .true))), (.mk (.some (16)) (.pick (.t (12)) (.t (15)) (.c (.bool .false))) .none), (.mk (.some (17)) (.mv (.t (16))) .none), (.mk (.some (18)) (.load .false .true (51) [(.some .i64), .none, (.some .i64), (.some .i64), (.some .i64), (.some .i64), (.some .i64), (.some .i64), (.some .i64), (.some .i64), (.some .i64), (.some .i64), (.some .i64), (.some .i64), (.some .i64), (.some .i64), (.some .i64), (.some .i64), (.some .i64), (.some .i64), (.some .i64), (.some .i64), (.some .i64), (.some .i64), (.some .i64), (.some .i64), (.some .i64), (.some .i64), (.some .i64), (.some .i64), (.some .i64), (.some .i64), (.some .i64), (.some .i64), (.some .i64), (.some .i64), (.some .i64), (.some .i64), (.some .i64), (.some .i64), (.some .i64), (.some .i64), (.some .i64), (.some .i64), (.some .i64), (.some .i64), (.some .i64), (.some .i64), (.some .i64), (.some .i64), (.some .i64)] (.t (2))) (.some ((17), .false))), (.mk (.some (19)) (.mv (.t (1))) (.some ((17), .false))), (.mk (.some (20)) (.call .false .false (.f (85)) [(.t (18)), (.t (19))]) (.some ((17), .false))), (.mk (.some (21)) (.pick (.t (17)) (.c (.bool .true)) (.t (20))) .none), (.mk (.some (4)) (.mv (.t (21))) .none)]) .ret))⟩

theorem F84_ok : sfn Try.prog hints 84 [] = some F84 := by kernel_rfl

theorem E84 (a0_0 : Int) (a0_1 : Bool) (a0_2 : List Cell) (a1 : Int) (R : Ret → Prop) : wpFO cx84 F84 (.two (.n 1 (.two (.n 1 (.two (.n 1 .e) (.n 1 .e))) (.n 4 .e))) (.n 7 .e)) [(.agg ((.v (.int .i64 a0_0)) :: (.v (.bool a0_1)) :: a0_2)), (.one (.v (.int .i64 a1)))] R = (bif a1 == -1 then (bif okN a0_0 then (bif !a0_1 then (R (Ret.mk (.one (.v (.bool .true))) [])) else (bif a0_2.length + 2 == 51 then (bif a0_2.all plainC && true && (a0_2.all (isInt IntKind.i64) && a0_2.length == 49 && true) && true && true && true && true && true then (R (Ret.mk (.one (.v (.bool (varP a0_0 a0_1 a1)))) [])) else False) else False)) else (bif a0_2.length + 2 == 51 then (bif a0_2.all plainC && true && (a0_2.all (isInt IntKind.i64) && a0_2.length == 49 && true) && true && true && true && true && true then (R (Ret.mk (.one (.v (.bool (varP a0_0 a0_1 a1)))) [])) else False) else False)) else (bif a0_2.length + 2 == 51 then (bif a0_2.all plainC && true && (a0_2.all (isInt IntKind.i64) && a0_2.length == 49 && true) && true && true && true && true && true then (R (Ret.mk (.one (.v (.bool (varP a0_0 a0_1 a1)))) [])) else False) else False)) := by kernel_rfl

def f84_wp (a0_0 : Int) (a0_1 : Bool) (a0_2 : List Cell) (a1 : Int) (R : Ret → Prop) : Prop := bif a1 == -1 then (bif okN a0_0 then (bif !a0_1 then (R (Ret.mk (.one (.v (.bool .true))) [])) else (bif a0_2.length + 2 == 51 then (bif a0_2.all plainC && true && (a0_2.all (isInt IntKind.i64) && a0_2.length == 49 && true) && true && true && true && true && true then (R (Ret.mk (.one (.v (.bool (varP a0_0 a0_1 a1)))) [])) else False) else False)) else (bif a0_2.length + 2 == 51 then (bif a0_2.all plainC && true && (a0_2.all (isInt IntKind.i64) && a0_2.length == 49 && true) && true && true && true && true && true then (R (Ret.mk (.one (.v (.bool (varP a0_0 a0_1 a1)))) [])) else False) else False)) else (bif a0_2.length + 2 == 51 then (bif a0_2.all plainC && true && (a0_2.all (isInt IntKind.i64) && a0_2.length == 49 && true) && true && true && true && true && true then (R (Ret.mk (.one (.v (.bool (varP a0_0 a0_1 a1)))) [])) else False) else False)

set_option maxRecDepth 100000 in
theorem f84_sound (a0_0 : Int) (a0_1 : Bool) (a0_2 : List Cell) (a1 : Int) (hC : CtxOk Try.prog cx84.q.ctx) {r : Ret} (h : f84_wp a0_0 a0_1 a0_2 a1 (fun r' => r' = r)) : SoundAt Try.prog 84 [(.agg ((.v (.int .i64 a0_0)) :: (.v (.bool a0_1)) :: a0_2)), (.one (.v (.int .i64 a1)))] r := by
  refine soundAtO (C := cx84) (oc := (.two (.n 1 (.two (.n 1 (.two (.n 1 .e) (.n 1 .e))) (.n 4 .e))) (.n 7 .e))) mixed hC F84_ok ?_
  rewrite [E84 a0_0 a0_1 a0_2 a1]
  unfold f84_wp at h
  refine cond_mapE h (fun q1 h => ?_) (fun q1 h => ?_)
  · skip
    refine cond_mapE h (fun q2 h => ?_) (fun q2 h => ?_)
    · skip
      refine cond_mapE h (fun q3 h => ?_) (fun q3 h => ?_)
      · skip
        exact h
      · skip
        refine ck_mapE h (fun q4 h => ?_)
        refine ck_mapE h (fun q5 h => ?_)
        exact h
    · skip
      refine ck_mapE h (fun q6 h => ?_)
      refine ck_mapE h (fun q7 h => ?_)
      exact h
  · skip
    refine ck_mapE h (fun q8 h => ?_)
    refine ck_mapE h (fun q9 h => ?_)
    exact h


def cx111 : CtxW := ⟨⟨[], []⟩, 2, []⟩


def F111_b0 : SC := (.seq (.seq (.reg [(.mk (.some (3)) (.mv (.t (2))) .none), (.mk (.some (4)) (.mv (.t (0))) .none), (.mk (.some (5)) (.nilc (.t (4))) .none), (.mk (.some (6)) (.fld (0) (.t (5))) .none), (.mk (.some (7)) (.load .false .false (1) [(.some .i64)] (.t (6))) .none), (.mk (.some (8)) (.bin .leq (.t (3)) (.t (7))) .none)]) (.cond (.t (8)) .skip (.exit (0)))) (.seq (.blk 1 (.seq (.reg [(.mk (.some (11)) (.mv (.t (0))) .none), (.mk (.some (12)) (.mv (.t (2))) .none), (.mk (.some (13)) (.mv (.t (0))) .none), (.mk (.some (14)) (.mv (.t (2))) .none), (.mk (.some (15)) (.nilc (.t (13))) .none), (.mk (.some (16)) (.fld (2) (.t (15))) .none), (.mk (.some (17)) (.ixA (7) (7) (.t (16)) (.t (14))) .none), (.mk (.some (18)) (.ixA (7) (1) (.t (17)) (.c (.int .i64 (0)))) .none), (.mk (.some (19)) (.load .false .false (1) [(.some .i64)] (.t (18))) .none), (.mk (.some (20)) (.mm .false [(.t (19)), (.c (.int .i64 (2147483647)))]) .none), (.mk (.some (21)) (.nilc (.t (11))) .none), (.mk (.some (22)) (.fld (2) (.t (21))) .none), (.mk (.some (23)) (.ixA (7) (7) (.t (22)) (.t (12))) .none), (.mk (.some (24)) (.ixA (7) (1) (.t (23)) (.c (.int .i64 (0)))) .none), (.mk .none (.store .false (1) (.t (24)) (.t (20))) .none)]) (.reg [(.mk (.some (25)) (.mv (.t (0))) .none), (.mk (.some (26)) (.mv (.t (2))) .none), (.mk (.some (27)) (.mv (.t (0))) .none), (.mk (.some (28)) (.mv (.t (2))) .none), (.mk (.some (29)) (.nilc (.t (27))) .none), (.mk (.some (30)) (.fld (2) (.t (29))) .none), (.mk (.some (31)) (.ixA (7) (7) (.t (30)) (.c (.int .i64 (0)))) .none), (.mk (.some (32)) (.ixA (7) (1) (.t (31)) (.t (28))) .none), (.mk (.some (33)) (.load .false .false (1) [(.some .i64)] (.t (32))) .none), (.mk (.some (34)) (.mm .false [(.t (33)), (.c (.int .i64 (2147483648)))]) .none), (.mk (.some (35)) (.nilc (.t (25))) .none), (.mk (.some (36)) (.fld (2) (.t (35))) .none), (.mk (.some (37)) (.ixA (7) (7) (.t (36)) (.c (.int .i64 (0)))) .none), (.mk (.some (38)) (.ixA (7) (1) (.t (37)) (.t (26))) .none), (.mk .none (.store .false (1) (.t (38)) (.t (34))) .none)]))) (.reg [(.mk (.some (9)) (.mv (.t (2))) .none), (.mk (.some (10)) (.bin .add (.t (9)) (.c (.int .i64 (1)))) .none), (.mk (.some (2)) (.mv (.t (10))) .none)])))

def F111 : SFn := ⟨39, [], (.seq (.reg [(.mk (.some (2)) (.mv (.c (.int .i64 (1)))) .none)]) (.blk 0 (.loop [0, 2] [0] [] F111_b0)))⟩

theorem F111_ok : sfn Try.prog hints 111 [([0, 2], ([0], []))] = some F111 := by kernel_rfl

def I111_0_0 (n : Int) (b : Bool) (ds : List Cell) (y0_0 : Int) (y0_1 : List Cell) : St := (.mk [(.box (0) (0) (0)), .no, (.one (.v (.int .i64 (y0_0)))), .no, .no, .no, .no, .no, .no, .no, .no, .no, .no, .no, .no, .no, .no, .no, .no, .no, .no, .no, .no, .no, .no, .no, .no, .no, .no, .no, .no, .no, .no, .no, .no, .no, .no, .no, .no] [[((.v (.int .i64 (n))) :: (.v (.bool (b))) :: (y0_1))], [], [], [], [], [], [], [], [], [], [], [], [], [], [], [], [], [], [], [], [], [], [], [], [], [], [], [], [], [], [], [], [], [], [], [], [], [], []] [[], [], [], [], [], [], [], [], [], [], [], [], [], [], [], [], [], [], [], [], [], [], [], [], [], [], [], [], [], [], [], [], [], [], [], [], [], [], []])

theorem E111_0_0 (n : Int) (b : Bool) (ds : List Cell) (y0_0 : Int) (y0_1 : List Cell) (N0 : Bool × St → Prop) (R : List Cell → Prop) : wpO cx111 F111_b0 (.two .e .e) (I111_0_0 n b ds y0_0 y0_1) (kLp (headW cx111.m [0, 2] [0] []) N0 (kBlk 0 (endPO R))) = (bif decide (y0_0 ≤ n) then (bif decide (0 ≤ y0_0) && decide (y0_0 < 7) then (bif decide (0 + y0_0.toNat * 7 + 3 ≤ y0_1.length + 2) && okK (some IntKind.i64) (y0_1.getD (0 + y0_0.toNat * 7) Cell.dead) then (bif decide (0 ≤ y0_0) && decide (y0_0 < 7) then (bif decide (0 + y0_0.toNat * 7 + 3 ≤ y0_1.length + 2) then (bif decide (0 ≤ y0_0) && decide (y0_0 < 7) then (bif decide (y0_0.toNat * 1 + 3 ≤ (y0_1.set (0 + y0_0.toNat * 7) (Cell.v (Value.int IntKind.i64 (if 2147483647 < intC (y0_1.getD (0 + y0_0.toNat * 7) Cell.dead) then 2147483647 else intC (y0_1.getD (0 + y0_0.toNat * 7) Cell.dead))))).length + 2) && okK (some IntKind.i64) ((y0_1.set (0 + y0_0.toNat * 7) (Cell.v (Value.int IntKind.i64 (if 2147483647 < intC (y0_1.getD (0 + y0_0.toNat * 7) Cell.dead) then 2147483647 else intC (y0_1.getD (0 + y0_0.toNat * 7) Cell.dead))))).getD (y0_0.toNat * 1) Cell.dead) then (bif decide (0 ≤ y0_0) && decide (y0_0 < 7) then (bif decide (y0_0.toNat * 1 + 3 ≤ (y0_1.set (0 + y0_0.toNat * 7) (Cell.v (Value.int IntKind.i64 (if 2147483647 < intC (y0_1.getD (0 + y0_0.toNat * 7) Cell.dead) then 2147483647 else intC (y0_1.getD (0 + y0_0.toNat * 7) Cell.dead))))).length + 2) then (N0 (((y0_1.set (0 + y0_0.toNat * 7) (Cell.v (Value.int IntKind.i64 (if 2147483647 < intC (y0_1.getD (0 + y0_0.toNat * 7) Cell.dead) then 2147483647 else intC (y0_1.getD (0 + y0_0.toNat * 7) Cell.dead))))).set (y0_0.toNat * 1) (Cell.v (Value.int IntKind.i64 (if 2147483648 < intC ((y0_1.set (0 + y0_0.toNat * 7) (Cell.v (Value.int IntKind.i64 (if 2147483647 < intC (y0_1.getD (0 + y0_0.toNat * 7) Cell.dead) then 2147483647 else intC (y0_1.getD (0 + y0_0.toNat * 7) Cell.dead))))).getD (y0_0.toNat * 1) Cell.dead) then 2147483648 else intC ((y0_1.set (0 + y0_0.toNat * 7) (Cell.v (Value.int IntKind.i64 (if 2147483647 < intC (y0_1.getD (0 + y0_0.toNat * 7) Cell.dead) then 2147483647 else intC (y0_1.getD (0 + y0_0.toNat * 7) Cell.dead))))).getD (y0_0.toNat * 1) Cell.dead))))).all plainC && true && true, (I111_0_0 n b ds (IntKind.i64.wrap (y0_0 + 1)) ((y0_1.set (0 + y0_0.toNat * 7) (Cell.v (Value.int IntKind.i64 (if 2147483647 < intC (y0_1.getD (0 + y0_0.toNat * 7) Cell.dead) then 2147483647 else intC (y0_1.getD (0 + y0_0.toNat * 7) Cell.dead))))).set (y0_0.toNat * 1) (Cell.v (Value.int IntKind.i64 (if 2147483648 < intC ((y0_1.set (0 + y0_0.toNat * 7) (Cell.v (Value.int IntKind.i64 (if 2147483647 < intC (y0_1.getD (0 + y0_0.toNat * 7) Cell.dead) then 2147483647 else intC (y0_1.getD (0 + y0_0.toNat * 7) Cell.dead))))).getD (y0_0.toNat * 1) Cell.dead) then 2147483648 else intC ((y0_1.set (0 + y0_0.toNat * 7) (Cell.v (Value.int IntKind.i64 (if 2147483647 < intC (y0_1.getD (0 + y0_0.toNat * 7) Cell.dead) then 2147483647 else intC (y0_1.getD (0 + y0_0.toNat * 7) Cell.dead))))).getD (y0_0.toNat * 1) Cell.dead)))))))) else False) else False) else False) else False) else False) else False) else False) else False) else (R ((.v (.int .i64 (n))) :: (.v (.bool (b))) :: (y0_1)))) := by kernel_rfl

theorem E111 (n : Int) (b : Bool) (ds : List Cell) (R : List Cell → Prop) : wpPO cx111 F111 .e (((.v (.int .i64 n) :: .v (.bool b) :: ds), []) : List Cell × List CV).1 (((.v (.int .i64 n) :: .v (.bool b) :: ds), []) : List Cell × List CV).2 R = (LoopO (bodyX cx111 F111_b0) (headW cx111.m [0, 2] [0] []) (kBlk 0 (endPO R)) (ds.all plainC && true && true, (I111_0_0 n b ds (1) (ds)))) := by kernel_rfl

def f111_wp (n : Int) (b : Bool) (ds : List Cell) (R : List Cell → Prop) : Prop := (ds.all plainC && true && true) = true ∧ LoopP (fun (z0 : (Int × (List Cell))) (k0 : (Int × (List Cell)) → Prop) => (fun (z : Int × (List Cell)) => (fun (y0_0 : Int) (y0_1 : List Cell) => bif decide (y0_0 ≤ n) then (bif decide (0 ≤ y0_0) && decide (y0_0 < 7) then (bif decide (0 + y0_0.toNat * 7 + 3 ≤ y0_1.length + 2) && okK (some IntKind.i64) (y0_1.getD (0 + y0_0.toNat * 7) Cell.dead) then (bif decide (0 + y0_0.toNat * 7 + 3 ≤ y0_1.length + 2) then (bif decide (y0_0.toNat * 1 + 3 ≤ (y0_1.set (0 + y0_0.toNat * 7) (Cell.v (Value.int IntKind.i64 (if 2147483647 < intC (y0_1.getD (0 + y0_0.toNat * 7) Cell.dead) then 2147483647 else intC (y0_1.getD (0 + y0_0.toNat * 7) Cell.dead))))).length + 2) && okK (some IntKind.i64) ((y0_1.set (0 + y0_0.toNat * 7) (Cell.v (Value.int IntKind.i64 (if 2147483647 < intC (y0_1.getD (0 + y0_0.toNat * 7) Cell.dead) then 2147483647 else intC (y0_1.getD (0 + y0_0.toNat * 7) Cell.dead))))).getD (y0_0.toNat * 1) Cell.dead) then (bif decide (y0_0.toNat * 1 + 3 ≤ (y0_1.set (0 + y0_0.toNat * 7) (Cell.v (Value.int IntKind.i64 (if 2147483647 < intC (y0_1.getD (0 + y0_0.toNat * 7) Cell.dead) then 2147483647 else intC (y0_1.getD (0 + y0_0.toNat * 7) Cell.dead))))).length + 2) then ((((y0_1.set (0 + y0_0.toNat * 7) (Cell.v (Value.int IntKind.i64 (if 2147483647 < intC (y0_1.getD (0 + y0_0.toNat * 7) Cell.dead) then 2147483647 else intC (y0_1.getD (0 + y0_0.toNat * 7) Cell.dead))))).set (y0_0.toNat * 1) (Cell.v (Value.int IntKind.i64 (if 2147483648 < intC ((y0_1.set (0 + y0_0.toNat * 7) (Cell.v (Value.int IntKind.i64 (if 2147483647 < intC (y0_1.getD (0 + y0_0.toNat * 7) Cell.dead) then 2147483647 else intC (y0_1.getD (0 + y0_0.toNat * 7) Cell.dead))))).getD (y0_0.toNat * 1) Cell.dead) then 2147483648 else intC ((y0_1.set (0 + y0_0.toNat * 7) (Cell.v (Value.int IntKind.i64 (if 2147483647 < intC (y0_1.getD (0 + y0_0.toNat * 7) Cell.dead) then 2147483647 else intC (y0_1.getD (0 + y0_0.toNat * 7) Cell.dead))))).getD (y0_0.toNat * 1) Cell.dead))))).all plainC && true && true) = true ∧ k0 ((IntKind.i64.wrap (y0_0 + 1)), ((y0_1.set (0 + y0_0.toNat * 7) (Cell.v (Value.int IntKind.i64 (if 2147483647 < intC (y0_1.getD (0 + y0_0.toNat * 7) Cell.dead) then 2147483647 else intC (y0_1.getD (0 + y0_0.toNat * 7) Cell.dead))))).set (y0_0.toNat * 1) (Cell.v (Value.int IntKind.i64 (if 2147483648 < intC ((y0_1.set (0 + y0_0.toNat * 7) (Cell.v (Value.int IntKind.i64 (if 2147483647 < intC (y0_1.getD (0 + y0_0.toNat * 7) Cell.dead) then 2147483647 else intC (y0_1.getD (0 + y0_0.toNat * 7) Cell.dead))))).getD (y0_0.toNat * 1) Cell.dead) then 2147483648 else intC ((y0_1.set (0 + y0_0.toNat * 7) (Cell.v (Value.int IntKind.i64 (if 2147483647 < intC (y0_1.getD (0 + y0_0.toNat * 7) Cell.dead) then 2147483647 else intC (y0_1.getD (0 + y0_0.toNat * 7) Cell.dead))))).getD (y0_0.toNat * 1) Cell.dead))))))) else False) else False) else False) else False) else False) else (R ((.v (.int .i64 (n))) :: (.v (.bool (b))) :: (y0_1)))) z.1 z.2) z0) ((1), (ds))

set_option maxRecDepth 100000 in
theorem f111_sound (n : Int) (b : Bool) (ds : List Cell) (hC : CtxOk Try.prog cx111.q.ctx) {r : List Cell} (hfl : ((((.v (.int .i64 n) :: .v (.bool b) :: ds), []) : List Cell × List CV).1).all flatC = true) (hfl' : r.all flatC = true) (h : f111_wp n b ds (fun r' => r' = r)) : PSoundAt Try.prog 111 (((.v (.int .i64 n) :: .v (.bool b) :: ds), []) : List Cell × List CV).1 (((.v (.int .i64 n) :: .v (.bool b) :: ds), []) : List Cell × List CV).2 r := by
  refine psoundAtO (C := cx111) (oc := .e) mixed hC F111_ok (by kernel_rfl) rfl (fun code hcode => ?_) hfl hfl' ?_
  · have e : ((Try.prog.funcs[111]?).bind (·.body)).map (fun code => lookA (aliases Try.prog hints code []) 0) = some none := by kernel_rfl
    rw [hcode] at e
    simpa using e
  rewrite [E111 n b ds]
  unfold f111_wp at h
  obtain ⟨q19, h⟩ := h
  refine loop_of (I := (fun (z : Int × (List Cell)) => (I111_0_0 n b ds z.1 z.2))) (fun z k0 h => ?_) h q19 rfl
  obtain ⟨y0_0, y0_1⟩ := z
  try dsimp only [sumE_l, sumE_r] at h
  refine bodyX_i (ob := (.two .e .e)) ?_
  rewrite [E111_0_0 n b ds y0_0 y0_1]
  refine cond_mapE h (fun q12 h => ?_) (fun q12 h => ?_)
  · skip
    refine ck_mapE h (fun q13 h => ?_)
    refine ck_mapE h (fun q14 h => ?_)
    refine ck_i q13 ?_
    refine ck_mapE h (fun q15 h => ?_)
    refine ck_i q13 ?_
    refine ck_mapE h (fun q16 h => ?_)
    refine ck_i q13 ?_
    refine ck_mapE h (fun q17 h => ?_)
    obtain ⟨q18, h⟩ := h
    exact again_i (y := ((IntKind.i64.wrap (y0_0 + 1)), ((y0_1.set (0 + y0_0.toNat * 7) (Cell.v (Value.int IntKind.i64 (if 2147483647 < intC (y0_1.getD (0 + y0_0.toNat * 7) Cell.dead) then 2147483647 else intC (y0_1.getD (0 + y0_0.toNat * 7) Cell.dead))))).set (y0_0.toNat * 1) (Cell.v (Value.int IntKind.i64 (if 2147483648 < intC ((y0_1.set (0 + y0_0.toNat * 7) (Cell.v (Value.int IntKind.i64 (if 2147483647 < intC (y0_1.getD (0 + y0_0.toNat * 7) Cell.dead) then 2147483647 else intC (y0_1.getD (0 + y0_0.toNat * 7) Cell.dead))))).getD (y0_0.toNat * 1) Cell.dead) then 2147483648 else intC ((y0_1.set (0 + y0_0.toNat * 7) (Cell.v (Value.int IntKind.i64 (if 2147483647 < intC (y0_1.getD (0 + y0_0.toNat * 7) Cell.dead) then 2147483647 else intC (y0_1.getD (0 + y0_0.toNat * 7) Cell.dead))))).getD (y0_0.toNat * 1) Cell.dead))))))) q18 h
  · skip
    exact h


def cx87 : CtxW := ⟨⟨[], []⟩, 2, []⟩


def F87_b0 : SC := (.seq (.seq (.reg [(.mk (.some (5)) (.mv (.t (4))) .none), (.mk (.some (6)) (.mv (.t (0))) .none), (.mk (.some (7)) (.nilc (.t (6))) .none), (.mk (.some (8)) (.fld (0) (.t (7))) .none), (.mk (.some (9)) (.load .false .false (1) [(.some .i64)] (.t (8))) .none), (.mk (.some (10)) (.bin .leq (.t (5)) (.t (9))) .none)]) (.cond (.t (10)) .skip (.exit (0)))) (.seq (.blk 1 (.seq (.reg [(.mk (.some (13)) (.mv (.t (4))) .none), (.mk (.some (14)) (.mv (.t (1))) .none), (.mk (.some (15)) (.bin .neq (.t (13)) (.t (14))) .none)]) (.cond (.t (15)) (.reg [(.mk (.some (16)) (.mv (.t (0))) .none), (.mk (.some (17)) (.mv (.t (4))) .none), (.mk (.some (18)) (.mv (.t (1))) .none), (.mk (.some (19)) (.mv (.t (0))) .none), (.mk (.some (20)) (.mv (.t (1))) .none), (.mk (.some (21)) (.mv (.t (4))) .none), (.mk (.some (22)) (.nilc (.t (16))) .none), (.mk (.some (23)) (.fld (2) (.t (22))) .none), (.mk (.some (24)) (.ixA (7) (7) (.t (23)) (.t (17))) .none), (.mk (.some (25)) (.ixA (7) (1) (.t (24)) (.t (18))) .none), (.mk .none (.store .false (1) (.t (25)) (.c (.int .i64 (1099511627776)))) .none), (.mk (.some (26)) (.nilc (.t (19))) .none), (.mk (.some (27)) (.fld (2) (.t (26))) .none), (.mk (.some (28)) (.ixA (7) (7) (.t (27)) (.t (20))) .none), (.mk (.some (29)) (.ixA (7) (1) (.t (28)) (.t (21))) .none), (.mk .none (.store .false (1) (.t (29)) (.c (.int .i64 (1099511627776)))) .none)]) .skip))) (.reg [(.mk (.some (11)) (.mv (.t (4))) .none), (.mk (.some (12)) (.bin .add (.t (11)) (.c (.int .i64 (1)))) .none), (.mk (.some (4)) (.mv (.t (12))) .none)])))

def F87 : SFn := ⟨30, [], (.seq (.reg [(.mk (.some (4)) (.mv (.c (.int .i64 (0)))) .none)]) (.blk 0 (.loop [0, 1, 4] [0] [] F87_b0)))⟩

theorem F87_ok : sfn Try.prog hints 87 [([0, 1, 4], ([0], []))] = some F87 := by kernel_rfl

def I87_0_0 (n : Int) (b : Bool) (ds : List Cell) (c : Int) (y0_0 : Int) (y0_1 : List Cell) : St := (.mk [(.box (0) (0) (0)), (.one (.v (.int .i64 (c)))), .no, .no, (.one (.v (.int .i64 (y0_0)))), .no, .no, .no, .no, .no, .no, .no, .no, .no, .no, .no, .no, .no, .no, .no, .no, .no, .no, .no, .no, .no, .no, .no, .no, .no] [[((.v (.int .i64 (n))) :: (.v (.bool (b))) :: (y0_1))], [], [], [], [], [], [], [], [], [], [], [], [], [], [], [], [], [], [], [], [], [], [], [], [], [], [], [], [], []] [[], [], [], [], [], [], [], [], [], [], [], [], [], [], [], [], [], [], [], [], [], [], [], [], [], [], [], [], [], []])

theorem E87_0_0 (n : Int) (b : Bool) (ds : List Cell) (c : Int) (y0_0 : Int) (y0_1 : List Cell) (N0 : Bool × St → Prop) (R : List Cell → Prop) : wpO cx87 F87_b0 (.two (.two .e .e) .e) (I87_0_0 n b ds c y0_0 y0_1) (kLp (headW cx87.m [0, 1, 4] [0] []) N0 (kBlk 0 (endPO R))) = (bif decide (y0_0 ≤ n) then (bif y0_0 != c then (bif decide (0 ≤ y0_0) && decide (y0_0 < 7) then (bif decide (0 ≤ c) && decide (c < 7) then (bif decide (c.toNat * 1 + y0_0.toNat * 7 + 3 ≤ y0_1.length + 2) then (bif decide (0 ≤ c) && decide (c < 7) then (bif decide (0 ≤ y0_0) && decide (y0_0 < 7) then (bif decide (y0_0.toNat * 1 + c.toNat * 7 + 3 ≤ (y0_1.set (c.toNat * 1 + y0_0.toNat * 7) (Cell.v (Value.int IntKind.i64 1099511627776))).length + 2) then (N0 (((y0_1.set (c.toNat * 1 + y0_0.toNat * 7) (Cell.v (Value.int IntKind.i64 1099511627776))).set (y0_0.toNat * 1 + c.toNat * 7) (Cell.v (Value.int IntKind.i64 1099511627776))).all plainC && true && true, (I87_0_0 n b ds c (IntKind.i64.wrap (y0_0 + 1)) ((y0_1.set (c.toNat * 1 + y0_0.toNat * 7) (Cell.v (Value.int IntKind.i64 1099511627776))).set (y0_0.toNat * 1 + c.toNat * 7) (Cell.v (Value.int IntKind.i64 1099511627776)))))) else False) else False) else False) else False) else False) else False) else (N0 (y0_1.all plainC && true && true, (I87_0_0 n b ds c (IntKind.i64.wrap (y0_0 + 1)) (y0_1))))) else (R ((.v (.int .i64 (n))) :: (.v (.bool (b))) :: (y0_1)))) := by kernel_rfl

theorem E87 (n : Int) (b : Bool) (ds : List Cell) (c : Int) (R : List Cell → Prop) : wpPO cx87 F87 .e (((.v (.int .i64 n) :: .v (.bool b) :: ds), [(.one (.v (.int .i64 c)))]) : List Cell × List CV).1 (((.v (.int .i64 n) :: .v (.bool b) :: ds), [(.one (.v (.int .i64 c)))]) : List Cell × List CV).2 R = (LoopO (bodyX cx87 F87_b0) (headW cx87.m [0, 1, 4] [0] []) (kBlk 0 (endPO R)) (ds.all plainC && true && true, (I87_0_0 n b ds c (0) (ds)))) := by kernel_rfl

def f87_wp (n : Int) (b : Bool) (ds : List Cell) (c : Int) (R : List Cell → Prop) : Prop := (ds.all plainC && true && true) = true ∧ LoopP (fun (z0 : (Int × (List Cell))) (k0 : (Int × (List Cell)) → Prop) => (fun (z : Int × (List Cell)) => (fun (y0_0 : Int) (y0_1 : List Cell) => bif decide (y0_0 ≤ n) then (bif y0_0 != c then (bif decide (0 ≤ y0_0) && decide (y0_0 < 7) then (bif decide (0 ≤ c) && decide (c < 7) then (bif decide (c.toNat * 1 + y0_0.toNat * 7 + 3 ≤ y0_1.length + 2) then (bif decide (y0_0.toNat * 1 + c.toNat * 7 + 3 ≤ (y0_1.set (c.toNat * 1 + y0_0.toNat * 7) (Cell.v (Value.int IntKind.i64 1099511627776))).length + 2) then ((((y0_1.set (c.toNat * 1 + y0_0.toNat * 7) (Cell.v (Value.int IntKind.i64 1099511627776))).set (y0_0.toNat * 1 + c.toNat * 7) (Cell.v (Value.int IntKind.i64 1099511627776))).all plainC && true && true) = true ∧ k0 ((IntKind.i64.wrap (y0_0 + 1)), ((y0_1.set (c.toNat * 1 + y0_0.toNat * 7) (Cell.v (Value.int IntKind.i64 1099511627776))).set (y0_0.toNat * 1 + c.toNat * 7) (Cell.v (Value.int IntKind.i64 1099511627776))))) else False) else False) else False) else False) else ((y0_1.all plainC && true && true) = true ∧ k0 ((IntKind.i64.wrap (y0_0 + 1)), (y0_1)))) else (R ((.v (.int .i64 (n))) :: (.v (.bool (b))) :: (y0_1)))) z.1 z.2) z0) ((0), (ds))

set_option maxRecDepth 100000 in
theorem f87_sound (n : Int) (b : Bool) (ds : List Cell) (c : Int) (hC : CtxOk Try.prog cx87.q.ctx) {r : List Cell} (hfl : ((((.v (.int .i64 n) :: .v (.bool b) :: ds), [(.one (.v (.int .i64 c)))]) : List Cell × List CV).1).all flatC = true) (hfl' : r.all flatC = true) (h : f87_wp n b ds c (fun r' => r' = r)) : PSoundAt Try.prog 87 (((.v (.int .i64 n) :: .v (.bool b) :: ds), [(.one (.v (.int .i64 c)))]) : List Cell × List CV).1 (((.v (.int .i64 n) :: .v (.bool b) :: ds), [(.one (.v (.int .i64 c)))]) : List Cell × List CV).2 r := by
  refine psoundAtO (C := cx87) (oc := .e) mixed hC F87_ok (by kernel_rfl) rfl (fun code hcode => ?_) hfl hfl' ?_
  · have e : ((Try.prog.funcs[87]?).bind (·.body)).map (fun code => lookA (aliases Try.prog hints code []) 0) = some none := by kernel_rfl
    rw [hcode] at e
    simpa using e
  rewrite [E87 n b ds c]
  unfold f87_wp at h
  obtain ⟨q20, h⟩ := h
  refine loop_of (I := (fun (z : Int × (List Cell)) => (I87_0_0 n b ds c z.1 z.2))) (fun z k0 h => ?_) h q20 rfl
  obtain ⟨y0_0, y0_1⟩ := z
  try dsimp only [sumE_l, sumE_r] at h
  refine bodyX_i (ob := (.two (.two .e .e) .e)) ?_
  rewrite [E87_0_0 n b ds c y0_0 y0_1]
  refine cond_mapE h (fun q12 h => ?_) (fun q12 h => ?_)
  · skip
    refine cond_mapE h (fun q13 h => ?_) (fun q13 h => ?_)
    · skip
      refine ck_mapE h (fun q14 h => ?_)
      refine ck_mapE h (fun q15 h => ?_)
      refine ck_mapE h (fun q16 h => ?_)
      refine ck_i q15 ?_
      refine ck_i q14 ?_
      refine ck_mapE h (fun q17 h => ?_)
      obtain ⟨q18, h⟩ := h
      exact again_i (y := ((IntKind.i64.wrap (y0_0 + 1)), ((y0_1.set (c.toNat * 1 + y0_0.toNat * 7) (Cell.v (Value.int IntKind.i64 1099511627776))).set (y0_0.toNat * 1 + c.toNat * 7) (Cell.v (Value.int IntKind.i64 1099511627776))))) q18 h
    · skip
      obtain ⟨q19, h⟩ := h
      exact again_i (y := ((IntKind.i64.wrap (y0_0 + 1)), (y0_1))) q19 h
  · skip
    exact h


def cx83 : CtxW := ⟨⟨[(91, sum91), (112, sum112)], [(111, psum111)]⟩, 2, []⟩


def F83_b2 : SC := (.seq (.seq (.reg [(.mk (.some (29)) (.mv (.t (5))) .none), (.mk (.some (30)) (.fld (0) (.t (1))) .none), (.mk (.some (31)) (.load .false .false (1) [(.some .i64)] (.t (30))) .none), (.mk (.some (32)) (.bin .leq (.t (29)) (.t (31))) .none)]) (.cond (.t (32)) .skip (.exit (4)))) (.seq (.blk 5 (.reg [(.mk (.some (35)) (.mv (.t (4))) .none), (.mk (.some (36)) (.mv (.t (5))) .none), (.mk (.some (37)) (.mv (.t (4))) .none), (.mk (.some (38)) (.mv (.t (5))) .none), (.mk (.some (39)) (.fld (2) (.t (1))) .none), (.mk (.some (40)) (.ixA (7) (7) (.t (39)) (.t (37))) .none), (.mk (.some (41)) (.ixA (7) (1) (.t (40)) (.t (38))) .none), (.mk (.some (42)) (.load .false .false (1) [(.some .i64)] (.t (41))) .none), (.mk (.some (43)) (.mv (.t (4))) .none), (.mk (.some (44)) (.mv (.t (3))) .none), (.mk (.some (45)) (.fld (2) (.t (1))) .none), (.mk (.some (46)) (.ixA (7) (7) (.t (45)) (.t (43))) .none), (.mk (.some (47)) (.ixA (7) (1) (.t (46)) (.t (44))) .none), (.mk (.some (48)) (.load .false .false (1) [(.some .i64)] (.t (47))) .none), (.mk (.some (49)) (.mv (.t (3))) .none), (.mk (.some (50)) (.mv (.t (5))) .none), (.mk (.some (51)) (.fld (2) (.t (1))) .none), (.mk (.some (52)) (.ixA (7) (7) (.t (51)) (.t (49))) .none), (.mk (.some (53)) (.ixA (7) (1) (.t (52)) (.t (50))) .none), (.mk (.some (54)) (.load .false .false (1) [(.some .i64)] (.t (53))) .none), (.mk (.some (55)) (.bin .add (.t (48)) (.t (54))) .none), (.mk (.some (56)) (.mm .false [(.t (42)), (.t (55))]) .none), (.mk (.some (57)) (.fld (2) (.t (1))) .none), (.mk (.some (58)) (.ixA (7) (7) (.t (57)) (.t (35))) .none), (.mk (.some (59)) (.ixA (7) (1) (.t (58)) (.t (36))) .none), (.mk .none (.store .false (1) (.t (59)) (.t (56))) .none)])) (.reg [(.mk (.some (33)) (.mv (.t (5))) .none), (.mk (.some (34)) (.bin .add (.t (33)) (.c (.int .i64 (1)))) .none), (.mk (.some (5)) (.mv (.t (34))) .none)])))

def F83_c3 : SC := (.reg [(.mk (.some (27)) (.mv (.t (4))) .none), (.mk (.some (28)) (.bin .add (.t (27)) (.c (.int .i64 (1)))) .none), (.mk (.some (4)) (.mv (.t (28))) .none)])

def F83_b1 : SC := (.seq (.seq (.reg [(.mk (.some (23)) (.mv (.t (4))) .none), (.mk (.some (24)) (.fld (0) (.t (1))) .none), (.mk (.some (25)) (.load .false .false (1) [(.some .i64)] (.t (24))) .none), (.mk (.some (26)) (.bin .leq (.t (23)) (.t (25))) .none)]) (.cond (.t (26)) .skip (.exit (2)))) (.seq (.blk 3 (.seq (.reg [(.mk (.some (5)) (.mv (.c (.int .i64 (0)))) .none)]) (.blk 4 (.loop [1, 2, 3, 4, 5] [1, 2] [] F83_b2)))) F83_c3))

def F83_c4 : SC := (.reg [(.mk (.some (21)) (.mv (.t (3))) .none), (.mk (.some (22)) (.bin .add (.t (21)) (.c (.int .i64 (1)))) .none), (.mk (.some (3)) (.mv (.t (22))) .none)])

def F83_b0 : SC := (.seq (.seq (.reg [(.mk (.some (17)) (.mv (.t (3))) .none), (.mk (.some (18)) (.fld (0) (.t (1))) .none), (.mk (.some (19)) (.load .false .false (1) [(.some .i64)] (.t (18))) .none), (.mk (.some (20)) (.bin .leq (.t (17)) (.t (19))) .none)]) (.cond (.t (20)) .skip (.exit (0)))) (.seq (.blk 1 (.seq (.reg [(.mk (.some (4)) (.mv (.c (.int .i64 (0)))) .none)]) (.blk 2 (.loop [1, 2, 3, 4] [1, 2] [] F83_b1)))) F83_c4))

def F83_b6 : SC := (.seq (.seq (.reg [(.mk (.some (60)) (.mv (.t (6))) .none), (.mk (.some (61)) (.fld (0) (.t (1))) .none), (.mk (.some (62)) (.load .false .false (1) [(.some .i64)] (.t (61))) .none), (.mk (.some (63)) (.bin .leq (.t (60)) (.t (62))) .none)]) (.cond (.t (63)) .skip (.exit (6)))) (.seq (.blk 7 (.seq (.reg [(.mk (.some (66)) (.mv (.t (6))) .none), (.mk (.some (67)) (.mv (.t (6))) .none), (.mk (.some (68)) (.fld (2) (.t (1))) .none), (.mk (.some (69)) (.ixA (7) (7) (.t (68)) (.t (66))) .none), (.mk (.some (70)) (.ixA (7) (1) (.t (69)) (.t (67))) .none), (.mk (.some (71)) (.load .false .false (1) [(.some .i64)] (.t (70))) .none), (.mk (.some (72)) (.bin .lss (.t (71)) (.c (.int .i64 (0)))) .none)]) (.cond (.t (72)) (.seq (.reg [(.mk (.some (73)) (.fld (0) (.t (1))) .none), (.mk (.some (74)) (.load .false .false (1) [(.some .i64)] (.t (73))) .none), (.mk (.some (75)) (.call .false .false (.f (112)) [(.t (74))]) .none), (.mk .none (.store .false (51) (.t (2)) (.t (75))) .none)]) .ret) .skip))) (.reg [(.mk (.some (64)) (.mv (.t (6))) .none), (.mk (.some (65)) (.bin .add (.t (64)) (.c (.int .i64 (1)))) .none), (.mk (.some (6)) (.mv (.t (65))) .none)])))

def F83_c7 : SC := (.seq (.reg [(.mk (.some (76)) (.load .false .true (51) [(.some .i64), .none, (.some .i64), (.some .i64), (.some .i64), (.some .i64), (.some .i64), (.some .i64), (.some .i64), (.some .i64), (.some .i64), (.some .i64), (.some .i64), (.some .i64), (.some .i64), (.some .i64), (.some .i64), (.some .i64), (.some .i64), (.some .i64), (.some .i64), (.some .i64), (.some .i64), (.some .i64), (.some .i64), (.some .i64), (.some .i64), (.some .i64), (.some .i64), (.some .i64), (.some .i64), (.some .i64), (.some .i64), (.some .i64), (.some .i64), (.some .i64), (.some .i64), (.some .i64), (.some .i64), (.some .i64), (.some .i64), (.some .i64), (.some .i64), (.some .i64), (.some .i64), (.some .i64), (.some .i64), (.some .i64), (.some .i64), (.some .i64), (.some .i64)] (.t (1))) .none), (.mk .none (.store .false (51) (.t (2)) (.t (76))) .none)]) .ret)

def F83_c5 : SC := (.seq (.seq (.reg [(.mk (.some (6)) (.mv (.c (.int .i64 (0)))) .none)]) (.blk 6 (.loop [1, 2, 6] [1, 2] [] F83_b6))) F83_c7)

def F83 : SFn := ⟨77, [(.cell (2) .true (51))], (.seq (.reg [(.mk (.some (1)) (.box (.t (0))) .none), (.mk (.some (2)) (.alloc [(.int .i64 (0)), (.bool .false), (.int .i64 (0)), (.int .i64 (0)), (.int .i64 (0)), (.int .i64 (0)), (.int .i64 (0)), (.int .i64 (0)), (.int .i64 (0)), (.int .i64 (0)), (.int .i64 (0)), (.int .i64 (0)), (.int .i64 (0)), (.int .i64 (0)), (.int .i64 (0)), (.int .i64 (0)), (.int .i64 (0)), (.int .i64 (0)), (.int .i64 (0)), (.int .i64 (0)), (.int .i64 (0)), (.int .i64 (0)), (.int .i64 (0)), (.int .i64 (0)), (.int .i64 (0)), (.int .i64 (0)), (.int .i64 (0)), (.int .i64 (0)), (.int .i64 (0)), (.int .i64 (0)), (.int .i64 (0)), (.int .i64 (0)), (.int .i64 (0)), (.int .i64 (0)), (.int .i64 (0)), (.int .i64 (0)), (.int .i64 (0)), (.int .i64 (0)), (.int .i64 (0)), (.int .i64 (0)), (.int .i64 (0)), (.int .i64 (0)), (.int .i64 (0)), (.int .i64 (0)), (.int .i64 (0)), (.int .i64 (0)), (.int .i64 (0)), (.int .i64 (0)), (.int .i64 (0)), (.int .i64 (0)), (.int .i64 (0))]) .none)]) (.seq (.seq (.reg [(.mk (.some (7)) (.fld (1) (.t (1))) .none), (.mk (.some (8)) (.load .false .false (1) [.none] (.t (7))) .none), (.mk (.some (9)) (.mv (.t (8))) .none), (.mk (.some (10)) (.fld (0) (.t (1))) (.some ((9), .false))), (.mk (.some (11)) (.load .false .false (1) [(.some .i64)] (.t (10))) (.some ((9), .false))), (.mk (.some (12)) (.call .false .false (.f (91)) [(.t (11))]) (.some ((9), .false))), (.mk (.some (13)) (.un .not (.t (12))) (.some ((9), .false))), (.mk (.some (14)) (.pick (.t (9)) (.c (.bool .true)) (.t (13))) .none)]) (.cond (.t (14)) (.seq (.reg [(.mk (.some (15)) (.load .false .true (51) [(.some .i64), .none, (.some .i64), (.some .i64), (.some .i64), (.some .i64), (.some .i64), (.some .i64), (.some .i64), (.some .i64), (.some .i64), (.some .i64), (.some .i64), (.some .i64), (.some .i64), (.some .i64), (.some .i64), (.some .i64), (.some .i64), (.some .i64), (.some .i64), (.some .i64), (.some .i64), (.some .i64), (.some .i64), (.some .i64), (.some .i64), (.some .i64), (.some .i64), (.some .i64), (.some .i64), (.some .i64), (.some .i64), (.some .i64), (.some .i64), (.some .i64), (.some .i64), (.some .i64), (.some .i64), (.some .i64), (.some .i64), (.some .i64), (.some .i64), (.some .i64), (.some .i64), (.some .i64), (.some .i64), (.some .i64), (.some .i64), (.some .i64), (.some .i64)] (.t (1))) .none), (.mk .none (.store .false (51) (.t (2)) (.t (15))) .none)]) .ret) .skip)) (.seq (.reg [(.mk (.some (16)) (.pcall (111) (.t (1)) []) .none)]) (.seq (.seq (.reg [(.mk (.some (3)) (.mv (.c (.int .i64 (0)))) .none)]) (.blk 0 (.loop [1, 2, 3] [1, 2] [] F83_b0))) F83_c5))))⟩

theorem F83_ok : sfn Try.prog hints 83 [([1, 2, 3], ([1, 2], [])), ([1, 2, 3, 4], ([1, 2], [])), ([1, 2, 3, 4, 5], ([1, 2], [])), ([1, 2, 6], ([1, 2], []))] = some F83 := by kernel_rfl

abbrev X83_0 (y0_0 : Int) (y9_0 : Int) (y12_0 : Int) (y12_1 : List Cell) := (y12_1.set (y12_0.toNat * 1 + y9_0.toNat * 7) (Cell.v (Value.int IntKind.i64 (if IntKind.i64.wrap (intC (y12_1.getD (y0_0.toNat * 1 + y9_0.toNat * 7) Cell.dead) + intC (y12_1.getD (y12_0.toNat * 1 + y0_0.toNat * 7) Cell.dead)) < intC (y12_1.getD (y12_0.toNat * 1 + y9_0.toNat * 7) Cell.dead) then IntKind.i64.wrap (intC (y12_1.getD (y0_0.toNat * 1 + y9_0.toNat * 7) Cell.dead) + intC (y12_1.getD (y12_0.toNat * 1 + y0_0.toNat * 7) Cell.dead)) else intC (y12_1.getD (y12_0.toNat * 1 + y9_0.toNat * 7) Cell.dead)))))

def I83_0_0 (a0_0 : Int) (a0_1 : Bool) (a0_2 : List Cell) (y0_0 : Int) (y0_1 : List Cell) : St := (.mk [.no, (.box (1) (0) (0)), (.box (2) (0) (0)), (.one (.v (.int .i64 (y0_0)))), .no, .no, .no, .no, .no, .no, .no, .no, .no, .no, .no, .no, .no, .no, .no, .no, .no, .no, .no, .no, .no, .no, .no, .no, .no, .no, .no, .no, .no, .no, .no, .no, .no, .no, .no, .no, .no, .no, .no, .no, .no, .no, .no, .no, .no, .no, .no, .no, .no, .no, .no, .no, .no, .no, .no, .no, .no, .no, .no, .no, .no, .no, .no, .no, .no, .no, .no, .no, .no, .no, .no, .no, .no] [[], [((.v (.int .i64 (a0_0))) :: (.v (.bool (a0_1))) :: (y0_1))], [((.v (.int .i64 (0))) :: (.v (.bool .false)) :: (List.replicate (49) (Cell.v (Value.int IntKind.i64 0))))], [], [], [], [], [], [], [], [], [], [], [], [], [], [], [], [], [], [], [], [], [], [], [], [], [], [], [], [], [], [], [], [], [], [], [], [], [], [], [], [], [], [], [], [], [], [], [], [], [], [], [], [], [], [], [], [], [], [], [], [], [], [], [], [], [], [], [], [], [], [], [], [], [], []] [[], [], [], [], [], [], [], [], [], [], [], [], [], [], [], [], [], [], [], [], [], [], [], [], [], [], [], [], [], [], [], [], [], [], [], [], [], [], [], [], [], [], [], [], [], [], [], [], [], [], [], [], [], [], [], [], [], [], [], [], [], [], [], [], [], [], [], [], [], [], [], [], [], [], [], [], []])

def I83_9_0 (a0_0 : Int) (a0_1 : Bool) (a0_2 : List Cell) (y0_0 : Int) (y0_1 : List Cell) (y9_0 : Int) (y9_1 : List Cell) : St := (.mk [.no, (.box (1) (0) (0)), (.box (2) (0) (0)), (.one (.v (.int .i64 (y0_0)))), (.one (.v (.int .i64 (y9_0)))), .no, .no, .no, .no, .no, .no, .no, .no, .no, .no, .no, .no, .no, .no, .no, .no, .no, .no, .no, .no, .no, .no, .no, .no, .no, .no, .no, .no, .no, .no, .no, .no, .no, .no, .no, .no, .no, .no, .no, .no, .no, .no, .no, .no, .no, .no, .no, .no, .no, .no, .no, .no, .no, .no, .no, .no, .no, .no, .no, .no, .no, .no, .no, .no, .no, .no, .no, .no, .no, .no, .no, .no] [[], [((.v (.int .i64 (a0_0))) :: (.v (.bool (a0_1))) :: (y9_1))], [((.v (.int .i64 (0))) :: (.v (.bool .false)) :: (List.replicate (49) (Cell.v (Value.int IntKind.i64 0))))], [], [], [], [], [], [], [], [], [], [], [], [], [], [], [], [], [], [], [], [], [], [], [], [], [], [], [], [], [], [], [], [], [], [], [], [], [], [], [], [], [], [], [], [], [], [], [], [], [], [], [], [], [], [], [], [], [], [], [], [], [], [], [], [], [], [], [], [], [], [], [], [], [], []] [[], [], [], [], [], [], [], [], [], [], [], [], [], [], [], [], [], [], [], [], [], [], [], [], [], [], [], [], [], [], [], [], [], [], [], [], [], [], [], [], [], [], [], [], [], [], [], [], [], [], [], [], [], [], [], [], [], [], [], [], [], [], [], [], [], [], [], [], [], [], [], [], [], [], [], [], []])

def I83_12_0 (a0_0 : Int) (a0_1 : Bool) (a0_2 : List Cell) (y0_0 : Int) (y0_1 : List Cell) (y9_0 : Int) (y9_1 : List Cell) (y12_0 : Int) (y12_1 : List Cell) : St := (.mk [.no, (.box (1) (0) (0)), (.box (2) (0) (0)), (.one (.v (.int .i64 (y0_0)))), (.one (.v (.int .i64 (y9_0)))), (.one (.v (.int .i64 (y12_0)))), .no, .no, .no, .no, .no, .no, .no, .no, .no, .no, .no, .no, .no, .no, .no, .no, .no, .no, .no, .no, .no, .no, .no, .no, .no, .no, .no, .no, .no, .no, .no, .no, .no, .no, .no, .no, .no, .no, .no, .no, .no, .no, .no, .no, .no, .no, .no, .no, .no, .no, .no, .no, .no, .no, .no, .no, .no, .no, .no, .no, .no, .no, .no, .no, .no, .no, .no, .no, .no, .no, .no] [[], [((.v (.int .i64 (a0_0))) :: (.v (.bool (a0_1))) :: (y12_1))], [((.v (.int .i64 (0))) :: (.v (.bool .false)) :: (List.replicate (49) (Cell.v (Value.int IntKind.i64 0))))], [], [], [], [], [], [], [], [], [], [], [], [], [], [], [], [], [], [], [], [], [], [], [], [], [], [], [], [], [], [], [], [], [], [], [], [], [], [], [], [], [], [], [], [], [], [], [], [], [], [], [], [], [], [], [], [], [], [], [], [], [], [], [], [], [], [], [], [], [], [], [], [], [], []] [[], [], [], [], [], [], [], [], [], [], [], [], [], [], [], [], [], [], [], [], [], [], [], [], [], [], [], [], [], [], [], [], [], [], [], [], [], [], [], [], [], [], [], [], [], [], [], [], [], [], [], [], [], [], [], [], [], [], [], [], [], [], [], [], [], [], [], [], [], [], [], [], [], [], [], [], []])

def I83_13_0 (a0_0 : Int) (a0_1 : Bool) (a0_2 : List Cell) (y0_0 : Int) (y0_1 : List Cell) (y13_0 : Int) : St := (.mk [.no, (.box (1) (0) (0)), (.box (2) (0) (0)), .no, .no, .no, (.one (.v (.int .i64 (y13_0)))), .no, .no, .no, .no, .no, .no, .no, .no, .no, .no, .no, .no, .no, .no, .no, .no, .no, .no, .no, .no, .no, .no, .no, .no, .no, .no, .no, .no, .no, .no, .no, .no, .no, .no, .no, .no, .no, .no, .no, .no, .no, .no, .no, .no, .no, .no, .no, .no, .no, .no, .no, .no, .no, .no, .no, .no, .no, .no, .no, .no, .no, .no, .no, .no, .no, .no, .no, .no, .no, .no] [[], [((.v (.int .i64 (a0_0))) :: (.v (.bool (a0_1))) :: (y0_1))], [((.v (.int .i64 (0))) :: (.v (.bool .false)) :: (List.replicate (49) (Cell.v (Value.int IntKind.i64 0))))], [], [], [], [], [], [], [], [], [], [], [], [], [], [], [], [], [], [], [], [], [], [], [], [], [], [], [], [], [], [], [], [], [], [], [], [], [], [], [], [], [], [], [], [], [], [], [], [], [], [], [], [], [], [], [], [], [], [], [], [], [], [], [], [], [], [], [], [], [], [], [], [], [], []] [[], [], [], [], [], [], [], [], [], [], [], [], [], [], [], [], [], [], [], [], [], [], [], [], [], [], [], [], [], [], [], [], [], [], [], [], [], [], [], [], [], [], [], [], [], [], [], [], [], [], [], [], [], [], [], [], [], [], [], [], [], [], [], [], [], [], [], [], [], [], [], [], [], [], [], [], []])

theorem E83_0_0 (a0_0 : Int) (a0_1 : Bool) (a0_2 : List Cell) (y0_0 : Int) (y0_1 : List Cell) (N0 : Bool × St → Prop) (R : Ret → Prop) : wpO cx83 F83_b0 (.two .e .e) (I83_0_0 a0_0 a0_1 a0_2 y0_0 y0_1) (kLp (headW cx83.m [1, 2, 3] [1, 2] []) N0 (kBlk 0 (kSeq cx83 F83_c5 (endO cx83.m F83.rs R)))) = (bif decide (y0_0 ≤ a0_0) then (LoopO (bodyX cx83 F83_b1) (headW cx83.m [1, 2, 3, 4] [1, 2] []) (kBlk 2 (kBlk 1 (kSeq cx83 F83_c4 (kLp (headW cx83.m [1, 2, 3] [1, 2] []) N0 (kBlk 0 (kSeq cx83 F83_c5 (endO cx83.m F83.rs R))))))) (y0_1.all plainC && true && true, (I83_9_0 a0_0 a0_1 a0_2 y0_0 y0_1 (0) (y0_1)))) else (LoopO (bodyX cx83 F83_b6) (headW cx83.m [1, 2, 6] [1, 2] []) (kBlk 6 (kSeq cx83 F83_c7 (endO cx83.m F83.rs R))) (y0_1.all plainC && true && true, (I83_13_0 a0_0 a0_1 a0_2 y0_0 y0_1 (0))))) := by kernel_rfl

theorem E83_9_0 (a0_0 : Int) (a0_1 : Bool) (a0_2 : List Cell) (y0_0 : Int) (y0_1 : List Cell) (y9_0 : Int) (y9_1 : List Cell) (N0 : Bool × St → Prop) (N9 : Bool × St → Prop) (R : Ret → Prop) : wpO cx83 F83_b1 (.two .e .e) (I83_9_0 a0_0 a0_1 a0_2 y0_0 y0_1 y9_0 y9_1) (kLp (headW cx83.m [1, 2, 3, 4] [1, 2] []) N9 (kBlk 2 (kBlk 1 (kSeq cx83 F83_c4 (kLp (headW cx83.m [1, 2, 3] [1, 2] []) N0 (kBlk 0 (kSeq cx83 F83_c5 (endO cx83.m F83.rs R)))))))) = (bif decide (y9_0 ≤ a0_0) then (LoopO (bodyX cx83 F83_b2) (headW cx83.m [1, 2, 3, 4, 5] [1, 2] []) (kBlk 4 (kBlk 3 (kSeq cx83 F83_c3 (kLp (headW cx83.m [1, 2, 3, 4] [1, 2] []) N9 (kBlk 2 (kBlk 1 (kSeq cx83 F83_c4 (kLp (headW cx83.m [1, 2, 3] [1, 2] []) N0 (kBlk 0 (kSeq cx83 F83_c5 (endO cx83.m F83.rs R))))))))))) (y9_1.all plainC && true && true, (I83_12_0 a0_0 a0_1 a0_2 y0_0 y0_1 y9_0 y9_1 (0) (y9_1)))) else (N0 (y9_1.all plainC && true && true, (I83_0_0 a0_0 a0_1 a0_2 (IntKind.i64.wrap (y0_0 + 1)) (y9_1))))) := by kernel_rfl

theorem E83_12_0 (a0_0 : Int) (a0_1 : Bool) (a0_2 : List Cell) (y0_0 : Int) (y0_1 : List Cell) (y9_0 : Int) (y9_1 : List Cell) (y12_0 : Int) (y12_1 : List Cell) (N9 : Bool × St → Prop) (N0 : Bool × St → Prop) (N12 : Bool × St → Prop) (R : Ret → Prop) : wpO cx83 F83_b2 (.two .e .e) (I83_12_0 a0_0 a0_1 a0_2 y0_0 y0_1 y9_0 y9_1 y12_0 y12_1) (kLp (headW cx83.m [1, 2, 3, 4, 5] [1, 2] []) N12 (kBlk 4 (kBlk 3 (kSeq cx83 F83_c3 (kLp (headW cx83.m [1, 2, 3, 4] [1, 2] []) N9 (kBlk 2 (kBlk 1 (kSeq cx83 F83_c4 (kLp (headW cx83.m [1, 2, 3] [1, 2] []) N0 (kBlk 0 (kSeq cx83 F83_c5 (endO cx83.m F83.rs R)))))))))))) = (bif decide (y12_0 ≤ a0_0) then (bif decide (0 ≤ y9_0) && decide (y9_0 < 7) then (bif decide (0 ≤ y12_0) && decide (y12_0 < 7) then (bif decide (y12_0.toNat * 1 + y9_0.toNat * 7 + 3 ≤ y12_1.length + 2) && okK (some IntKind.i64) (y12_1.getD (y12_0.toNat * 1 + y9_0.toNat * 7) Cell.dead) then (bif decide (0 ≤ y9_0) && decide (y9_0 < 7) then (bif decide (0 ≤ y0_0) && decide (y0_0 < 7) then (bif decide (y0_0.toNat * 1 + y9_0.toNat * 7 + 3 ≤ y12_1.length + 2) && okK (some IntKind.i64) (y12_1.getD (y0_0.toNat * 1 + y9_0.toNat * 7) Cell.dead) then (bif decide (0 ≤ y0_0) && decide (y0_0 < 7) then (bif decide (0 ≤ y12_0) && decide (y12_0 < 7) then (bif decide (y12_0.toNat * 1 + y0_0.toNat * 7 + 3 ≤ y12_1.length + 2) && okK (some IntKind.i64) (y12_1.getD (y12_0.toNat * 1 + y0_0.toNat * 7) Cell.dead) then (bif decide (0 ≤ y9_0) && decide (y9_0 < 7) then (bif decide (0 ≤ y12_0) && decide (y12_0 < 7) then (bif decide (y12_0.toNat * 1 + y9_0.toNat * 7 + 3 ≤ y12_1.length + 2) then (N12 ((X83_0 y0_0 y9_0 y12_0 y12_1).all plainC && true && true, (I83_12_0 a0_0 a0_1 a0_2 y0_0 y0_1 y9_0 y9_1 (IntKind.i64.wrap (y12_0 + 1)) (X83_0 y0_0 y9_0 y12_0 y12_1)))) else False) else False) else False) else False) else False) else False) else False) else False) else False) else False) else False) else False) else (N9 (y12_1.all plainC && true && true, (I83_9_0 a0_0 a0_1 a0_2 y0_0 y0_1 (IntKind.i64.wrap (y9_0 + 1)) (y12_1))))) := by kernel_rfl

theorem E83_13_0 (a0_0 : Int) (a0_1 : Bool) (a0_2 : List Cell) (y0_0 : Int) (y0_1 : List Cell) (y13_0 : Int) (N13 : Bool × St → Prop) (R : Ret → Prop) : wpO cx83 F83_b6 (.two (.two .e .e) .e) (I83_13_0 a0_0 a0_1 a0_2 y0_0 y0_1 y13_0) (kLp (headW cx83.m [1, 2, 6] [1, 2] []) N13 (kBlk 6 (kSeq cx83 F83_c7 (endO cx83.m F83.rs R)))) = (bif decide (y13_0 ≤ a0_0) then (bif decide (0 ≤ y13_0) && decide (y13_0 < 7) then (bif decide (0 ≤ y13_0) && decide (y13_0 < 7) then (bif decide (y13_0.toNat * 1 + y13_0.toNat * 7 + 3 ≤ y0_1.length + 2) && okK (some IntKind.i64) (y0_1.getD (y13_0.toNat * 1 + y13_0.toNat * 7) Cell.dead) then (bif decide (intC (y0_1.getD (y13_0.toNat * 1 + y13_0.toNat * 7) Cell.dead) < 0) then (R (Ret.mk (.agg ((.v (.int .i64 (a0_0))) :: (.v (.bool .true)) :: (List.replicate (49) (Cell.v (Value.int IntKind.i64 0))))) [])) else (N13 (y0_1.all plainC && true && true, (I83_13_0 a0_0 a0_1 a0_2 y0_0 y0_1 (IntKind.i64.wrap (y13_0 + 1)))))) else False) else False) else False) else (bif y0_1.length + 2 == 51 then (bif y0_1.length + 2 == 51 && true && true then (bif y0_1.length + 2 == 51 && true then (bif y0_1.all plainC then (R (Ret.mk (.agg ((.v (.int .i64 (a0_0))) :: (.v (.bool (a0_1))) :: (y0_1))) [])) else False) else False) else False) else False)) := by kernel_rfl

theorem E83 (a0_0 : Int) (a0_1 : Bool) (a0_2 : List Cell) (R : Ret → Prop) : wpFO cx83 F83 (.two (.n 3 .e) (.n 2 (.two .e .e))) [(.agg ((.v (.int .i64 a0_0)) :: (.v (.bool a0_1)) :: a0_2))] R = (bif a0_1 then (bif a0_2.length + 2 == 51 then (bif a0_2.length + 2 == 51 && true && true then (bif a0_2.length + 2 == 51 && true then (bif a0_2.all plainC then (R (Ret.mk (.agg ((.v (.int .i64 (a0_0))) :: (.v (.bool (a0_1))) :: (a0_2))) [])) else False) else False) else False) else False) else (bif !okN a0_0 then (bif a0_2.length + 2 == 51 then (bif a0_2.length + 2 == 51 && true && true then (bif a0_2.length + 2 == 51 && true then (bif a0_2.all plainC then (R (Ret.mk (.agg ((.v (.int .i64 (a0_0))) :: (.v (.bool (a0_1))) :: (a0_2))) [])) else False) else False) else False) else False) else (bif a0_2.all (isInt IntKind.i64) && a0_2.length == 49 && okN a0_0 && (ic IntKind.i64 (ownT a0_0.toNat (List.map intC a0_2))).length + 2 == a0_2.length + 2 && a0_2.all flatC && (ic IntKind.i64 (ownT a0_0.toNat (List.map intC a0_2))).all flatC then (LoopO (bodyX cx83 F83_b0) (headW cx83.m [1, 2, 3] [1, 2] []) (kBlk 0 (kSeq cx83 F83_c5 (endO cx83.m F83.rs R))) ((ic IntKind.i64 (ownT a0_0.toNat (List.map intC a0_2))).all plainC && true && true, (I83_0_0 a0_0 a0_1 a0_2 (0) (ic IntKind.i64 (ownT a0_0.toNat (List.map intC a0_2)))))) else False))) := by kernel_rfl

def f83_wp (a0_0 : Int) (a0_1 : Bool) (a0_2 : List Cell) (R : Ret → Prop) : Prop := bif a0_1 then (bif a0_2.length + 2 == 51 then (bif a0_2.length + 2 == 51 && true && true then (bif a0_2.length + 2 == 51 && true then (bif a0_2.all plainC then (R (Ret.mk (.agg ((.v (.int .i64 (a0_0))) :: (.v (.bool (a0_1))) :: (a0_2))) [])) else False) else False) else False) else False) else (bif !okN a0_0 then (bif a0_2.length + 2 == 51 then (bif a0_2.length + 2 == 51 && true && true then (bif a0_2.length + 2 == 51 && true then (bif a0_2.all plainC then (R (Ret.mk (.agg ((.v (.int .i64 (a0_0))) :: (.v (.bool (a0_1))) :: (a0_2))) [])) else False) else False) else False) else False) else (bif a0_2.all (isInt IntKind.i64) && a0_2.length == 49 && okN a0_0 && (ic IntKind.i64 (ownT a0_0.toNat (List.map intC a0_2))).length + 2 == a0_2.length + 2 && a0_2.all flatC && (ic IntKind.i64 (ownT a0_0.toNat (List.map intC a0_2))).all flatC then (((ic IntKind.i64 (ownT a0_0.toNat (List.map intC a0_2))).all plainC && true && true) = true ∧ LoopP (fun (z0 : (Int × (List Cell))) (k0 : (Int × (List Cell)) → Prop) => (fun (z : Int × (List Cell)) => (fun (y0_0 : Int) (y0_1 : List Cell) => bif decide (y0_0 ≤ a0_0) then ((y0_1.all plainC && true && true) = true ∧ LoopP (fun (z9 : (Int × (List Cell))) (k9 : (Int × (List Cell)) → Prop) => (fun (z : Int × (List Cell)) => (fun (y9_0 : Int) (y9_1 : List Cell) => bif decide (y9_0 ≤ a0_0) then ((y9_1.all plainC && true && true) = true ∧ LoopP (fun (z12 : (Int × (List Cell))) (k12 : (Int × (List Cell)) → Prop) => (fun (z : Int × (List Cell)) => (fun (y12_0 : Int) (y12_1 : List Cell) => bif decide (y12_0 ≤ a0_0) then (bif decide (0 ≤ y9_0) && decide (y9_0 < 7) then (bif decide (0 ≤ y12_0) && decide (y12_0 < 7) then (bif decide (y12_0.toNat * 1 + y9_0.toNat * 7 + 3 ≤ y12_1.length + 2) && okK (some IntKind.i64) (y12_1.getD (y12_0.toNat * 1 + y9_0.toNat * 7) Cell.dead) then (bif decide (0 ≤ y0_0) && decide (y0_0 < 7) then (bif decide (y0_0.toNat * 1 + y9_0.toNat * 7 + 3 ≤ y12_1.length + 2) && okK (some IntKind.i64) (y12_1.getD (y0_0.toNat * 1 + y9_0.toNat * 7) Cell.dead) then (bif decide (y12_0.toNat * 1 + y0_0.toNat * 7 + 3 ≤ y12_1.length + 2) && okK (some IntKind.i64) (y12_1.getD (y12_0.toNat * 1 + y0_0.toNat * 7) Cell.dead) then (bif decide (y12_0.toNat * 1 + y9_0.toNat * 7 + 3 ≤ y12_1.length + 2) then (((X83_0 y0_0 y9_0 y12_0 y12_1).all plainC && true && true) = true ∧ k12 ((IntKind.i64.wrap (y12_0 + 1)), (X83_0 y0_0 y9_0 y12_0 y12_1))) else False) else False) else False) else False) else False) else False) else False) else ((y12_1.all plainC && true && true) = true ∧ k9 ((IntKind.i64.wrap (y9_0 + 1)), (y12_1)))) z.1 z.2) z12) ((0), (y9_1))) else ((y9_1.all plainC && true && true) = true ∧ k0 ((IntKind.i64.wrap (y0_0 + 1)), (y9_1)))) z.1 z.2) z9) ((0), (y0_1))) else ((y0_1.all plainC && true && true) = true ∧ LoopP (fun (z13 : (Int)) (k13 : (Int) → Prop) => (fun (z : Int) => (fun (y13_0 : Int) => bif decide (y13_0 ≤ a0_0) then (bif decide (0 ≤ y13_0) && decide (y13_0 < 7) then (bif decide (y13_0.toNat * 1 + y13_0.toNat * 7 + 3 ≤ y0_1.length + 2) && okK (some IntKind.i64) (y0_1.getD (y13_0.toNat * 1 + y13_0.toNat * 7) Cell.dead) then (bif decide (intC (y0_1.getD (y13_0.toNat * 1 + y13_0.toNat * 7) Cell.dead) < 0) then (R (Ret.mk (.agg ((.v (.int .i64 (a0_0))) :: (.v (.bool .true)) :: (List.replicate (49) (Cell.v (Value.int IntKind.i64 0))))) [])) else ((y0_1.all plainC && true && true) = true ∧ k13 (IntKind.i64.wrap (y13_0 + 1)))) else False) else False) else (bif y0_1.length + 2 == 51 then (bif y0_1.length + 2 == 51 && true && true then (bif y0_1.length + 2 == 51 && true then (bif y0_1.all plainC then (R (Ret.mk (.agg ((.v (.int .i64 (a0_0))) :: (.v (.bool (a0_1))) :: (y0_1))) [])) else False) else False) else False) else False)) z) z13) (0))) z.1 z.2) z0) ((0), (ic IntKind.i64 (ownT a0_0.toNat (List.map intC a0_2))))) else False))

set_option maxRecDepth 100000 in
theorem f83_sound (a0_0 : Int) (a0_1 : Bool) (a0_2 : List Cell) (hC : CtxOk Try.prog cx83.q.ctx) {r : Ret} (h : f83_wp a0_0 a0_1 a0_2 (fun r' => r' = r)) : SoundAt Try.prog 83 [(.agg ((.v (.int .i64 a0_0)) :: (.v (.bool a0_1)) :: a0_2))] r := by
  refine soundAtO (C := cx83) (oc := (.two (.n 3 .e) (.n 2 (.two .e .e)))) mixed hC F83_ok ?_
  rewrite [E83 a0_0 a0_1 a0_2]
  unfold f83_wp at h
  refine cond_mapE h (fun q1 h => ?_) (fun q1 h => ?_)
  · skip
    refine ck_mapE h (fun q2 h => ?_)
    refine ck_mapE h (fun q3 h => ?_)
    refine ck_mapE h (fun q5 h => ?_)
    refine ck_mapE h (fun q4 h => ?_)
    exact h
  · skip
    refine cond_mapE h (fun q6 h => ?_) (fun q6 h => ?_)
    · skip
      refine ck_mapE h (fun q7 h => ?_)
      refine ck_mapE h (fun q8 h => ?_)
      refine ck_mapE h (fun q10 h => ?_)
      refine ck_mapE h (fun q9 h => ?_)
      exact h
    · skip
      refine ck_mapE h (fun q11 h => ?_)
      obtain ⟨q243, h⟩ := h
      refine loop_of (I := (fun (z : Int × (List Cell)) => (I83_0_0 a0_0 a0_1 a0_2 z.1 z.2))) (fun z k0 h => ?_) h q243 rfl
      obtain ⟨y0_0, y0_1⟩ := z
      try dsimp only [sumE_l, sumE_r] at h
      refine bodyX_i (ob := (.two .e .e)) ?_
      rewrite [E83_0_0 a0_0 a0_1 a0_2 y0_0 y0_1]
      refine cond_mapE h (fun q148 h => ?_) (fun q148 h => ?_)
      · skip
        obtain ⟨q225, h⟩ := h
        refine loop_of (I := (fun (z : Int × (List Cell)) => (I83_9_0 a0_0 a0_1 a0_2 y0_0 y0_1 z.1 z.2))) (fun z k9 h => ?_) h q225 rfl
        obtain ⟨y9_0, y9_1⟩ := z
        try dsimp only [sumE_l, sumE_r] at h
        refine bodyX_i (ob := (.two .e .e)) ?_
        rewrite [E83_9_0 a0_0 a0_1 a0_2 y0_0 y0_1 y9_0 y9_1]
        refine cond_mapE h (fun q197 h => ?_) (fun q197 h => ?_)
        · skip
          obtain ⟨q223, h⟩ := h
          refine loop_of (I := (fun (z : Int × (List Cell)) => (I83_12_0 a0_0 a0_1 a0_2 y0_0 y0_1 y9_0 y9_1 z.1 z.2))) (fun z k12 h => ?_) h q223 rfl
          obtain ⟨y12_0, y12_1⟩ := z
          try dsimp only [sumE_l, sumE_r] at h
          refine bodyX_i (ob := (.two .e .e)) ?_
          rewrite [E83_12_0 a0_0 a0_1 a0_2 y0_0 y0_1 y9_0 y9_1 y12_0 y12_1]
          refine cond_mapE h (fun q213 h => ?_) (fun q213 h => ?_)
          · skip
            refine ck_mapE h (fun q214 h => ?_)
            refine ck_mapE h (fun q215 h => ?_)
            refine ck_mapE h (fun q216 h => ?_)
            refine ck_i q214 ?_
            refine ck_mapE h (fun q217 h => ?_)
            refine ck_mapE h (fun q218 h => ?_)
            refine ck_i q217 ?_
            refine ck_i q215 ?_
            refine ck_mapE h (fun q219 h => ?_)
            refine ck_i q214 ?_
            refine ck_i q215 ?_
            refine ck_mapE h (fun q220 h => ?_)
            obtain ⟨q221, h⟩ := h
            exact again_i (y := ((IntKind.i64.wrap (y12_0 + 1)), (X83_0 y0_0 y9_0 y12_0 y12_1))) q221 h
          · skip
            obtain ⟨q222, h⟩ := h
            exact again_i (y := ((IntKind.i64.wrap (y9_0 + 1)), (y12_1))) q222 h
        · skip
          obtain ⟨q224, h⟩ := h
          exact again_i (y := ((IntKind.i64.wrap (y0_0 + 1)), (y9_1))) q224 h
      · skip
        obtain ⟨q242, h⟩ := h
        refine loop_of (I := (fun (z : Int) => (I83_13_0 a0_0 a0_1 a0_2 y0_0 y0_1 z))) (fun z k13 h => ?_) h q242 rfl
        obtain ⟨y13_0, rfl⟩ : ∃ y, y = z := ⟨z, rfl⟩
        try dsimp only [sumE_l, sumE_r] at h
        refine bodyX_i (ob := (.two (.two .e .e) .e)) ?_
        rewrite [E83_13_0 a0_0 a0_1 a0_2 y0_0 y0_1 y13_0]
        refine cond_mapE h (fun q233 h => ?_) (fun q233 h => ?_)
        · skip
          refine ck_mapE h (fun q234 h => ?_)
          refine ck_i q234 ?_
          refine ck_mapE h (fun q235 h => ?_)
          refine cond_mapE h (fun q236 h => ?_) (fun q236 h => ?_)
          · skip
            exact h
          · skip
            obtain ⟨q237, h⟩ := h
            exact again_i (y := (IntKind.i64.wrap (y13_0 + 1))) q237 h
        · skip
          refine ck_mapE h (fun q238 h => ?_)
          refine ck_mapE h (fun q239 h => ?_)
          refine ck_mapE h (fun q241 h => ?_)
          refine ck_mapE h (fun q240 h => ?_)
          exact h


def cx25 : CtxW := ⟨⟨[(83, sum83)], []⟩, 2, []⟩


def F25_b1 : SC := (.seq (.seq (.reg [(.mk (.some (16)) (.mv (.t (5))) .none), (.mk (.some (17)) (.fld (0) (.t (3))) .none), (.mk (.some (18)) (.load .false .false (1) [(.some .i64)] (.t (17))) .none), (.mk (.some (19)) (.bin .leq (.t (16)) (.t (18))) .none)]) (.cond (.t (19)) .skip (.exit (2)))) (.seq (.blk 3 (.seq (.reg [(.mk (.some (22)) (.mv (.t (4))) .none), (.mk (.some (23)) (.mv (.t (5))) .none), (.mk (.some (24)) (.bin .neq (.t (22)) (.t (23))) .none)]) (.cond (.t (24)) (.reg [(.mk (.some (25)) (.mv (.t (4))) .none), (.mk (.some (26)) (.mv (.t (5))) .none), (.mk (.some (27)) (.fld (2) (.t (3))) .none), (.mk (.some (28)) (.ixA (7) (7) (.t (27)) (.t (25))) .none), (.mk (.some (29)) (.ixA (7) (1) (.t (28)) (.t (26))) .none), (.mk .none (.store .false (1) (.t (29)) (.c (.int .i64 (1099511627776)))) .none)]) .skip))) (.reg [(.mk (.some (20)) (.mv (.t (5))) .none), (.mk (.some (21)) (.bin .add (.t (20)) (.c (.int .i64 (1)))) .none), (.mk (.some (5)) (.mv (.t (21))) .none)])))

def F25_c2 : SC := (.reg [(.mk (.some (14)) (.mv (.t (4))) .none), (.mk (.some (15)) (.bin .add (.t (14)) (.c (.int .i64 (1)))) .none), (.mk (.some (4)) (.mv (.t (15))) .none)])

def F25_b0 : SC := (.seq (.seq (.reg [(.mk (.some (10)) (.mv (.t (4))) .none), (.mk (.some (11)) (.fld (0) (.t (3))) .none), (.mk (.some (12)) (.load .false .false (1) [(.some .i64)] (.t (11))) .none), (.mk (.some (13)) (.bin .leq (.t (10)) (.t (12))) .none)]) (.cond (.t (13)) .skip (.exit (0)))) (.seq (.blk 1 (.seq (.reg [(.mk (.some (5)) (.mv (.c (.int .i64 (0)))) .none)]) (.blk 2 (.loop [2, 3, 4, 5] [2, 3] [] F25_b1)))) F25_c2))

def F25_c3 : SC := (.seq (.reg [(.mk (.some (30)) (.load .false .true (51) [(.some .i64), .none, (.some .i64), (.some .i64), (.some .i64), (.some .i64), (.some .i64), (.some .i64), (.some .i64), (.some .i64), (.some .i64), (.some .i64), (.some .i64), (.some .i64), (.some .i64), (.some .i64), (.some .i64), (.some .i64), (.some .i64), (.some .i64), (.some .i64), (.some .i64), (.some .i64), (.some .i64), (.some .i64), (.some .i64), (.some .i64), (.some .i64), (.some .i64), (.some .i64), (.some .i64), (.some .i64), (.some .i64), (.some .i64), (.some .i64), (.some .i64), (.some .i64), (.some .i64), (.some .i64), (.some .i64), (.some .i64), (.some .i64), (.some .i64), (.some .i64), (.some .i64), (.some .i64), (.some .i64), (.some .i64), (.some .i64), (.some .i64), (.some .i64)] (.t (3))) .none), (.mk (.some (31)) (.call .false .false (.f (83)) [(.t (30))]) .none), (.mk .none (.store .false (51) (.t (2)) (.t (31))) .none)]) .ret)

def F25 : SFn := ⟨32, [(.cell (2) .true (51))], (.seq (.reg [(.mk (.some (2)) (.alloc [(.int .i64 (0)), (.bool .false), (.int .i64 (0)), (.int .i64 (0)), (.int .i64 (0)), (.int .i64 (0)), (.int .i64 (0)), (.int .i64 (0)), (.int .i64 (0)), (.int .i64 (0)), (.int .i64 (0)), (.int .i64 (0)), (.int .i64 (0)), (.int .i64 (0)), (.int .i64 (0)), (.int .i64 (0)), (.int .i64 (0)), (.int .i64 (0)), (.int .i64 (0)), (.int .i64 (0)), (.int .i64 (0)), (.int .i64 (0)), (.int .i64 (0)), (.int .i64 (0)), (.int .i64 (0)), (.int .i64 (0)), (.int .i64 (0)), (.int .i64 (0)), (.int .i64 (0)), (.int .i64 (0)), (.int .i64 (0)), (.int .i64 (0)), (.int .i64 (0)), (.int .i64 (0)), (.int .i64 (0)), (.int .i64 (0)), (.int .i64 (0)), (.int .i64 (0)), (.int .i64 (0)), (.int .i64 (0)), (.int .i64 (0)), (.int .i64 (0)), (.int .i64 (0)), (.int .i64 (0)), (.int .i64 (0)), (.int .i64 (0)), (.int .i64 (0)), (.int .i64 (0)), (.int .i64 (0)), (.int .i64 (0)), (.int .i64 (0))]) .none)]) (.seq (.reg [(.mk (.some (6)) (.mv (.t (0))) .none), (.mk (.some (7)) (.mm .true [(.t (6)), (.c (.int .i64 (0)))]) .none), (.mk (.some (8)) (.mm .false [(.t (7)), (.c (.int .i64 (6)))]) .none), (.mk (.some (9)) (.build [(.int .i64 (0)), (.bool .false), (.int .i64 (0)), (.int .i64 (0)), (.int .i64 (0)), (.int .i64 (0)), (.int .i64 (0)), (.int .i64 (0)), (.int .i64 (0)), (.int .i64 (0)), (.int .i64 (0)), (.int .i64 (0)), (.int .i64 (0)), (.int .i64 (0)), (.int .i64 (0)), (.int .i64 (0)), (.int .i64 (0)), (.int .i64 (0)), (.int .i64 (0)), (.int .i64 (0)), (.int .i64 (0)), (.int .i64 (0)), (.int .i64 (0)), (.int .i64 (0)), (.int .i64 (0)), (.int .i64 (0)), (.int .i64 (0)), (.int .i64 (0)), (.int .i64 (0)), (.int .i64 (0)), (.int .i64 (0)), (.int .i64 (0)), (.int .i64 (0)), (.int .i64 (0)), (.int .i64 (0)), (.int .i64 (0)), (.int .i64 (0)), (.int .i64 (0)), (.int .i64 (0)), (.int .i64 (0)), (.int .i64 (0)), (.int .i64 (0)), (.int .i64 (0)), (.int .i64 (0)), (.int .i64 (0)), (.int .i64 (0)), (.int .i64 (0)), (.int .i64 (0)), (.int .i64 (0)), (.int .i64 (0)), (.int .i64 (0))] [((0), ((1), (.t (8))))]) .none), (.mk (.some (3)) (.alloc [(.int .i64 (0)), (.bool .false), (.int .i64 (0)), (.int .i64 (0)), (.int .i64 (0)), (.int .i64 (0)), (.int .i64 (0)), (.int .i64 (0)), (.int .i64 (0)), (.int .i64 (0)), (.int .i64 (0)), (.int .i64 (0)), (.int .i64 (0)), (.int .i64 (0)), (.int .i64 (0)), (.int .i64 (0)), (.int .i64 (0)), (.int .i64 (0)), (.int .i64 (0)), (.int .i64 (0)), (.int .i64 (0)), (.int .i64 (0)), (.int .i64 (0)), (.int .i64 (0)), (.int .i64 (0)), (.int .i64 (0)), (.int .i64 (0)), (.int .i64 (0)), (.int .i64 (0)), (.int .i64 (0)), (.int .i64 (0)), (.int .i64 (0)), (.int .i64 (0)), (.int .i64 (0)), (.int .i64 (0)), (.int .i64 (0)), (.int .i64 (0)), (.int .i64 (0)), (.int .i64 (0)), (.int .i64 (0)), (.int .i64 (0)), (.int .i64 (0)), (.int .i64 (0)), (.int .i64 (0)), (.int .i64 (0)), (.int .i64 (0)), (.int .i64 (0)), (.int .i64 (0)), (.int .i64 (0)), (.int .i64 (0)), (.int .i64 (0))]) .none), (.mk .none (.store .false (51) (.t (3)) (.t (9))) .none)]) (.seq (.seq (.reg [(.mk (.some (4)) (.mv (.c (.int .i64 (0)))) .none)]) (.blk 0 (.loop [2, 3, 4] [2, 3] [] F25_b0))) F25_c3)))⟩

theorem F25_ok : sfn Try.prog hints 25 [([2, 3, 4], ([2, 3], [])), ([2, 3, 4, 5], ([2, 3], []))] = some F25 := by kernel_rfl

abbrev X25_0 (a0 : Int) (y0_1 : List Cell) := (closeZ (if 6 < if 0 > a0 then 0 else a0 then 6 else if 0 > a0 then 0 else a0, false, List.map intC y0_1))

def I25_0_0 (a0 : Int) (y0_0 : Int) (y0_1 : List Cell) : St := (.mk [.no, .no, (.box (2) (0) (0)), (.box (3) (0) (0)), (.one (.v (.int .i64 (y0_0)))), .no, .no, .no, .no, .no, .no, .no, .no, .no, .no, .no, .no, .no, .no, .no, .no, .no, .no, .no, .no, .no, .no, .no, .no, .no, .no, .no] [[], [], [((.v (.int .i64 (0))) :: (.v (.bool .false)) :: (List.replicate (49) (Cell.v (Value.int IntKind.i64 0))))], [((.v (.int .i64 (if 6 < if 0 > a0 then 0 else a0 then 6 else if 0 > a0 then 0 else a0))) :: (.v (.bool .false)) :: (y0_1))], [], [], [], [], [], [], [], [], [], [], [], [], [], [], [], [], [], [], [], [], [], [], [], [], [], [], [], []] [[], [], [], [], [], [], [], [], [], [], [], [], [], [], [], [], [], [], [], [], [], [], [], [], [], [], [], [], [], [], [], []])

def I25_3_0 (a0 : Int) (y0_0 : Int) (y0_1 : List Cell) (y3_0 : Int) (y3_1 : List Cell) : St := (.mk [.no, .no, (.box (2) (0) (0)), (.box (3) (0) (0)), (.one (.v (.int .i64 (y0_0)))), (.one (.v (.int .i64 (y3_0)))), .no, .no, .no, .no, .no, .no, .no, .no, .no, .no, .no, .no, .no, .no, .no, .no, .no, .no, .no, .no, .no, .no, .no, .no, .no, .no] [[], [], [((.v (.int .i64 (0))) :: (.v (.bool .false)) :: (List.replicate (49) (Cell.v (Value.int IntKind.i64 0))))], [((.v (.int .i64 (if 6 < if 0 > a0 then 0 else a0 then 6 else if 0 > a0 then 0 else a0))) :: (.v (.bool .false)) :: (y3_1))], [], [], [], [], [], [], [], [], [], [], [], [], [], [], [], [], [], [], [], [], [], [], [], [], [], [], [], []] [[], [], [], [], [], [], [], [], [], [], [], [], [], [], [], [], [], [], [], [], [], [], [], [], [], [], [], [], [], [], [], []])

theorem E25_0_0 (a0 : Int) (y0_0 : Int) (y0_1 : List Cell) (N0 : Bool × St → Prop) (R : Ret → Prop) : wpO cx25 F25_b0 (.two .e .e) (I25_0_0 a0 y0_0 y0_1) (kLp (headW cx25.m [2, 3, 4] [2, 3] []) N0 (kBlk 0 (kSeq cx25 F25_c3 (endO cx25.m F25.rs R)))) = (bif decide (y0_0 ≤ if 6 < if 0 > a0 then 0 else a0 then 6 else if 0 > a0 then 0 else a0) then (LoopO (bodyX cx25 F25_b1) (headW cx25.m [2, 3, 4, 5] [2, 3] []) (kBlk 2 (kBlk 1 (kSeq cx25 F25_c2 (kLp (headW cx25.m [2, 3, 4] [2, 3] []) N0 (kBlk 0 (kSeq cx25 F25_c3 (endO cx25.m F25.rs R))))))) (y0_1.all plainC && true && true, (I25_3_0 a0 y0_0 y0_1 (0) (y0_1)))) else (bif y0_1.length + 2 == 51 then (bif y0_1.all plainC && true && (y0_1.all (isInt IntKind.i64) && y0_1.length == 49) && (ic IntKind.i64 (X25_0 a0 y0_1).snd.snd).all (okC 0) && true && true && true && true then (bif (ic IntKind.i64 (X25_0 a0 y0_1).snd.snd).length + 2 == 51 && true && true then (bif (ic IntKind.i64 (X25_0 a0 y0_1).snd.snd).length + 2 == 51 && true then (bif (ic IntKind.i64 (X25_0 a0 y0_1).snd.snd).all plainC then (R (Ret.mk (.agg ((.v (.int .i64 ((X25_0 a0 y0_1).fst))) :: (.v (.bool ((X25_0 a0 y0_1).snd.fst))) :: (ic IntKind.i64 (X25_0 a0 y0_1).snd.snd))) [])) else False) else False) else False) else False) else False)) := by kernel_rfl

theorem E25_3_0 (a0 : Int) (y0_0 : Int) (y0_1 : List Cell) (y3_0 : Int) (y3_1 : List Cell) (N0 : Bool × St → Prop) (N3 : Bool × St → Prop) (R : Ret → Prop) : wpO cx25 F25_b1 (.two (.two .e .e) .e) (I25_3_0 a0 y0_0 y0_1 y3_0 y3_1) (kLp (headW cx25.m [2, 3, 4, 5] [2, 3] []) N3 (kBlk 2 (kBlk 1 (kSeq cx25 F25_c2 (kLp (headW cx25.m [2, 3, 4] [2, 3] []) N0 (kBlk 0 (kSeq cx25 F25_c3 (endO cx25.m F25.rs R)))))))) = (bif decide (y3_0 ≤ if 6 < if 0 > a0 then 0 else a0 then 6 else if 0 > a0 then 0 else a0) then (bif y0_0 != y3_0 then (bif decide (0 ≤ y0_0) && decide (y0_0 < 7) then (bif decide (0 ≤ y3_0) && decide (y3_0 < 7) then (bif decide (y3_0.toNat * 1 + y0_0.toNat * 7 + 3 ≤ y3_1.length + 2) then (N3 ((y3_1.set (y3_0.toNat * 1 + y0_0.toNat * 7) (Cell.v (Value.int IntKind.i64 1099511627776))).all plainC && true && true, (I25_3_0 a0 y0_0 y0_1 (IntKind.i64.wrap (y3_0 + 1)) (y3_1.set (y3_0.toNat * 1 + y0_0.toNat * 7) (Cell.v (Value.int IntKind.i64 1099511627776)))))) else False) else False) else False) else (N3 (y3_1.all plainC && true && true, (I25_3_0 a0 y0_0 y0_1 (IntKind.i64.wrap (y3_0 + 1)) (y3_1))))) else (N0 (y3_1.all plainC && true && true, (I25_0_0 a0 (IntKind.i64.wrap (y0_0 + 1)) (y3_1))))) := by kernel_rfl

theorem E25 (a0 : Int) (R : Ret → Prop) : wpFO cx25 F25 .e [(.one (.v (.int .i64 a0)))] R = (LoopO (bodyX cx25 F25_b0) (headW cx25.m [2, 3, 4] [2, 3] []) (kBlk 0 (kSeq cx25 F25_c3 (endO cx25.m F25.rs R))) (true, (I25_0_0 a0 (0) (List.replicate (49) (Cell.v (Value.int IntKind.i64 0)))))) := by kernel_rfl

def f25_wp (a0 : Int) (R : Ret → Prop) : Prop := LoopP (fun (z0 : (Int × (List Cell))) (k0 : (Int × (List Cell)) → Prop) => (fun (z : Int × (List Cell)) => (fun (y0_0 : Int) (y0_1 : List Cell) => bif decide (y0_0 ≤ if 6 < if 0 > a0 then 0 else a0 then 6 else if 0 > a0 then 0 else a0) then ((y0_1.all plainC && true && true) = true ∧ LoopP (fun (z3 : (Int × (List Cell))) (k3 : (Int × (List Cell)) → Prop) => (fun (z : Int × (List Cell)) => (fun (y3_0 : Int) (y3_1 : List Cell) => bif decide (y3_0 ≤ if 6 < if 0 > a0 then 0 else a0 then 6 else if 0 > a0 then 0 else a0) then (bif y0_0 != y3_0 then (bif decide (0 ≤ y0_0) && decide (y0_0 < 7) then (bif decide (0 ≤ y3_0) && decide (y3_0 < 7) then (bif decide (y3_0.toNat * 1 + y0_0.toNat * 7 + 3 ≤ y3_1.length + 2) then (((y3_1.set (y3_0.toNat * 1 + y0_0.toNat * 7) (Cell.v (Value.int IntKind.i64 1099511627776))).all plainC && true && true) = true ∧ k3 ((IntKind.i64.wrap (y3_0 + 1)), (y3_1.set (y3_0.toNat * 1 + y0_0.toNat * 7) (Cell.v (Value.int IntKind.i64 1099511627776))))) else False) else False) else False) else ((y3_1.all plainC && true && true) = true ∧ k3 ((IntKind.i64.wrap (y3_0 + 1)), (y3_1)))) else ((y3_1.all plainC && true && true) = true ∧ k0 ((IntKind.i64.wrap (y0_0 + 1)), (y3_1)))) z.1 z.2) z3) ((0), (y0_1))) else (bif y0_1.length + 2 == 51 then (bif y0_1.all plainC && true && (y0_1.all (isInt IntKind.i64) && y0_1.length == 49) && (ic IntKind.i64 (X25_0 a0 y0_1).snd.snd).all (okC 0) && true && true && true && true then (bif (ic IntKind.i64 (X25_0 a0 y0_1).snd.snd).length + 2 == 51 && true && true then (bif (ic IntKind.i64 (X25_0 a0 y0_1).snd.snd).length + 2 == 51 && true then (bif (ic IntKind.i64 (X25_0 a0 y0_1).snd.snd).all plainC then (R (Ret.mk (.agg ((.v (.int .i64 ((X25_0 a0 y0_1).fst))) :: (.v (.bool ((X25_0 a0 y0_1).snd.fst))) :: (ic IntKind.i64 (X25_0 a0 y0_1).snd.snd))) [])) else False) else False) else False) else False) else False)) z.1 z.2) z0) ((0), (List.replicate (49) (Cell.v (Value.int IntKind.i64 0))))

set_option maxRecDepth 100000 in
theorem f25_sound (a0 : Int) (hC : CtxOk Try.prog cx25.q.ctx) {r : Ret} (h : f25_wp a0 (fun r' => r' = r)) : SoundAt Try.prog 25 [(.one (.v (.int .i64 a0)))] r := by
  refine soundAtO (C := cx25) (oc := .e) mixed hC F25_ok ?_
  rewrite [E25 a0]
  unfold f25_wp at h
  refine loop_of (I := (fun (z : Int × (List Cell)) => (I25_0_0 a0 z.1 z.2))) (fun z k0 h => ?_) h rfl rfl
  obtain ⟨y0_0, y0_1⟩ := z
  try dsimp only [sumE_l, sumE_r] at h
  refine bodyX_i (ob := (.two .e .e)) ?_
  rewrite [E25_0_0 a0 y0_0 y0_1]
  refine cond_mapE h (fun q34 h => ?_) (fun q34 h => ?_)
  · skip
    obtain ⟨q52, h⟩ := h
    refine loop_of (I := (fun (z : Int × (List Cell)) => (I25_3_0 a0 y0_0 y0_1 z.1 z.2))) (fun z k3 h => ?_) h q52 rfl
    obtain ⟨y3_0, y3_1⟩ := z
    try dsimp only [sumE_l, sumE_r] at h
    refine bodyX_i (ob := (.two (.two .e .e) .e)) ?_
    rewrite [E25_3_0 a0 y0_0 y0_1 y3_0 y3_1]
    refine cond_mapE h (fun q44 h => ?_) (fun q44 h => ?_)
    · skip
      refine cond_mapE h (fun q45 h => ?_) (fun q45 h => ?_)
      · skip
        refine ck_mapE h (fun q46 h => ?_)
        refine ck_mapE h (fun q47 h => ?_)
        refine ck_mapE h (fun q48 h => ?_)
        obtain ⟨q49, h⟩ := h
        exact again_i (y := ((IntKind.i64.wrap (y3_0 + 1)), (y3_1.set (y3_0.toNat * 1 + y0_0.toNat * 7) (Cell.v (Value.int IntKind.i64 1099511627776))))) q49 h
      · skip
        obtain ⟨q50, h⟩ := h
        exact again_i (y := ((IntKind.i64.wrap (y3_0 + 1)), (y3_1))) q50 h
    · skip
      obtain ⟨q51, h⟩ := h
      exact again_i (y := ((IntKind.i64.wrap (y0_0 + 1)), (y3_1))) q51 h
  · skip
    refine ck_mapE h (fun q53 h => ?_)
    refine ck_mapE h (fun q54 h => ?_)
    refine ck_mapE h (fun q55 h => ?_)
    refine ck_mapE h (fun q57 h => ?_)
    refine ck_mapE h (fun q56 h => ?_)
    exact h


def cx32 : CtxW := ⟨⟨[], []⟩, 2, []⟩


def F32 : SFn := ⟨7, [(.cell (2) .true (51))], (.seq (.reg [(.mk (.some (2)) (.alloc [(.int .i64 (0)), (.bool .false), (.int .i64 (0)), (.int .i64 (0)), (.int .i64 (0)), (.int .i64 (0)), (.int .i64 (0)), (.int .i64 (0)), (.int .i64 (0)), (.int .i64 (0)), (.int .i64 (0)), (.int .i64 (0)), (.int .i64 (0)), (.int .i64 (0)), (.int .i64 (0)), (.int .i64 (0)), (.int .i64 (0)), (.int .i64 (0)), (.int .i64 (0)), (.int .i64 (0)), (.int .i64 (0)), (.int .i64 (0)), (.int .i64 (0)), (.int .i64 (0)), (.int .i64 (0)), (.int .i64 (0)), (.int .i64 (0)), (.int .i64 (0)), (.int .i64 (0)), (.int .i64 (0)), (.int .i64 (0)), (.int .i64 (0)), (.int .i64 (0)), (.int .i64 (0)), (.int .i64 (0)), (.int .i64 (0)), (.int .i64 (0)), (.int .i64 (0)), (.int .i64 (0)), (.int .i64 (0)), (.int .i64 (0)), (.int .i64 (0)), (.int .i64 (0)), (.int .i64 (0)), (.int .i64 (0)), (.int .i64 (0)), (.int .i64 (0)), (.int .i64 (0)), (.int .i64 (0)), (.int .i64 (0)), (.int .i64 (0))]) .none)]) (.seq (.reg [(.mk (.some (3)) (.mv (.t (0))) .none), (.mk (.some (4)) (.mm .true [(.t (3)), (.c (.int .i64 (0)))]) .none), (.mk (.some (5)) (.mm .false [(.t (4)), (.c (.int .i64 (6)))]) .none), (.mk (.some (6)) (.build [(.int .i64 (0)), (.bool .false), (.int .i64 (0)), (.int .i64 (0)), (.int .i64 (0)), (.int .i64 (0)), (.int .i64 (0)), (.int .i64 (0)), (.int .i64 (0)), (.int .i64 (0)), (.int .i64 (0)), (.int .i64 (0)), (.int .i64 (0)), (.int .i64 (0)), (.int .i64 (0)), (.int .i64 (0)), (.int .i64 (0)), (.int .i64 (0)), (.int .i64 (0)), (.int .i64 (0)), (.int .i64 (0)), (.int .i64 (0)), (.int .i64 (0)), (.int .i64 (0)), (.int .i64 (0)), (.int .i64 (0)), (.int .i64 (0)), (.int .i64 (0)), (.int .i64 (0)), (.int .i64 (0)), (.int .i64 (0)), (.int .i64 (0)), (.int .i64 (0)), (.int .i64 (0)), (.int .i64 (0)), (.int .i64 (0)), (.int .i64 (0)), (.int .i64 (0)), (.int .i64 (0)), (.int .i64 (0)), (.int .i64 (0)), (.int .i64 (0)), (.int .i64 (0)), (.int .i64 (0)), (.int .i64 (0)), (.int .i64 (0)), (.int .i64 (0)), (.int .i64 (0)), (.int .i64 (0)), (.int .i64 (0)), (.int .i64 (0))] [((0), ((1), (.t (5))))]) .none), (.mk .none (.store .false (51) (.t (2)) (.t (6))) .none)]) .ret))⟩

theorem F32_ok : sfn Try.prog hints 32 [] = some F32 := by kernel_rfl

theorem E32 (a0 : Int) (R : Ret → Prop) : wpFO cx32 F32 .e [(.one (.v (.int .i64 a0)))] R = (R (Ret.mk (.agg ((.v (.int .i64 (if 6 < if 0 > a0 then 0 else a0 then 6 else if 0 > a0 then 0 else a0))) :: (.v (.bool .false)) :: (List.replicate (49) (Cell.v (Value.int IntKind.i64 0))))) [])) := by kernel_rfl

def f32_wp (a0 : Int) (R : Ret → Prop) : Prop := R (Ret.mk (.agg ((.v (.int .i64 (if 6 < if 0 > a0 then 0 else a0 then 6 else if 0 > a0 then 0 else a0))) :: (.v (.bool .false)) :: (List.replicate (49) (Cell.v (Value.int IntKind.i64 0))))) [])

set_option maxRecDepth 100000 in
theorem f32_sound (a0 : Int) (hC : CtxOk Try.prog cx32.q.ctx) {r : Ret} (h : f32_wp a0 (fun r' => r' = r)) : SoundAt Try.prog 32 [(.one (.v (.int .i64 a0)))] r := by
  refine soundAtO (C := cx32) (oc := .e) mixed hC F32_ok ?_
  rewrite [E32 a0]
  unfold f32_wp at h
  exact h


def cx88 : CtxW := ⟨⟨[], []⟩, 2, []⟩


def F88_b0 : SC := (.seq (.seq (.reg [(.mk (.some (14)) (.mv (.t (3))) .none), (.mk (.some (15)) (.fld (0) (.t (1))) .none), (.mk (.some (16)) (.load .false .false (1) [(.some .i64)] (.t (15))) .none), (.mk (.some (17)) (.bin .leq (.t (14)) (.t (16))) .none)]) (.cond (.t (17)) .skip (.exit (0)))) (.seq (.blk 1 (.seq (.reg [(.mk (.some (20)) (.mv (.t (3))) .none), (.mk (.some (21)) (.mv (.t (3))) .none), (.mk (.some (22)) (.fld (2) (.t (1))) .none), (.mk (.some (23)) (.ixA (7) (7) (.t (22)) (.t (21))) .none), (.mk (.some (24)) (.ixA (7) (1) (.t (23)) (.c (.int .i64 (0)))) .none), (.mk (.some (25)) (.load .false .false (1) [(.some .i64)] (.t (24))) .none), (.mk (.some (26)) (.mm .false [(.t (25)), (.c (.int .i64 (2147483647)))]) .none), (.mk (.some (27)) (.fld (2) (.t (1))) .none), (.mk (.some (28)) (.ixA (7) (7) (.t (27)) (.t (20))) .none), (.mk (.some (29)) (.ixA (7) (1) (.t (28)) (.c (.int .i64 (0)))) .none), (.mk .none (.store .false (1) (.t (29)) (.t (26))) .none)]) (.reg [(.mk (.some (30)) (.mv (.t (3))) .none), (.mk (.some (31)) (.mv (.t (3))) .none), (.mk (.some (32)) (.fld (2) (.t (1))) .none), (.mk (.some (33)) (.ixA (7) (7) (.t (32)) (.c (.int .i64 (0)))) .none), (.mk (.some (34)) (.ixA (7) (1) (.t (33)) (.t (31))) .none), (.mk (.some (35)) (.load .false .false (1) [(.some .i64)] (.t (34))) .none), (.mk (.some (36)) (.mm .false [(.t (35)), (.c (.int .i64 (2147483648)))]) .none), (.mk (.some (37)) (.fld (2) (.t (1))) .none), (.mk (.some (38)) (.ixA (7) (7) (.t (37)) (.c (.int .i64 (0)))) .none), (.mk (.some (39)) (.ixA (7) (1) (.t (38)) (.t (30))) .none), (.mk .none (.store .false (1) (.t (39)) (.t (36))) .none)]))) (.reg [(.mk (.some (18)) (.mv (.t (3))) .none), (.mk (.some (19)) (.bin .add (.t (18)) (.c (.int .i64 (1)))) .none), (.mk (.some (3)) (.mv (.t (19))) .none)])))

def F88_b5 : SC := (.seq (.seq (.reg [(.mk (.some (59)) (.mv (.t (7))) .none), (.mk (.some (60)) (.fld (0) (.t (1))) .none), (.mk (.some (61)) (.load .false .false (1) [(.some .i64)] (.t (60))) .none), (.mk (.some (62)) (.bin .leq (.t (59)) (.t (61))) .none)]) (.cond (.t (62)) .skip (.exit (8)))) (.seq (.blk 9 (.reg [(.mk (.some (65)) (.mv (.t (5))) .none), (.mk (.some (66)) (.mv (.t (6))) .none), (.mk (.some (67)) (.mv (.t (5))) .none), (.mk (.some (68)) (.mv (.t (6))) .none), (.mk (.some (69)) (.fld (2) (.t (1))) .none), (.mk (.some (70)) (.ixA (7) (7) (.t (69)) (.t (67))) .none), (.mk (.some (71)) (.ixA (7) (1) (.t (70)) (.t (68))) .none), (.mk (.some (72)) (.load .false .false (1) [(.some .i64)] (.t (71))) .none), (.mk (.some (73)) (.mv (.t (5))) .none), (.mk (.some (74)) (.mv (.t (7))) .none), (.mk (.some (75)) (.fld (2) (.t (1))) .none), (.mk (.some (76)) (.ixA (7) (7) (.t (75)) (.t (73))) .none), (.mk (.some (77)) (.ixA (7) (1) (.t (76)) (.t (74))) .none), (.mk (.some (78)) (.load .false .false (1) [(.some .i64)] (.t (77))) .none), (.mk (.some (79)) (.mv (.t (7))) .none), (.mk (.some (80)) (.mv (.t (6))) .none), (.mk (.some (81)) (.fld (2) (.t (1))) .none), (.mk (.some (82)) (.ixA (7) (7) (.t (81)) (.t (79))) .none), (.mk (.some (83)) (.ixA (7) (1) (.t (82)) (.t (80))) .none), (.mk (.some (84)) (.load .false .false (1) [(.some .i64)] (.t (83))) .none), (.mk (.some (85)) (.bin .add (.t (78)) (.t (84))) .none), (.mk (.some (86)) (.mm .false [(.t (72)), (.t (85))]) .none), (.mk (.some (87)) (.mm .true [(.t (86)), (.c (.int .i64 (-35184372088832)))]) .none), (.mk (.some (88)) (.fld (2) (.t (1))) .none), (.mk (.some (89)) (.ixA (7) (7) (.t (88)) (.t (65))) .none), (.mk (.some (90)) (.ixA (7) (1) (.t (89)) (.t (66))) .none), (.mk .none (.store .false (1) (.t (90)) (.t (87))) .none)])) (.reg [(.mk (.some (63)) (.mv (.t (7))) .none), (.mk (.some (64)) (.bin .add (.t (63)) (.c (.int .i64 (1)))) .none), (.mk (.some (7)) (.mv (.t (64))) .none)])))

def F88_c6 : SC := (.reg [(.mk (.some (57)) (.mv (.t (6))) .none), (.mk (.some (58)) (.bin .add (.t (57)) (.c (.int .i64 (1)))) .none), (.mk (.some (6)) (.mv (.t (58))) .none)])

def F88_b4 : SC := (.seq (.seq (.reg [(.mk (.some (53)) (.mv (.t (6))) .none), (.mk (.some (54)) (.fld (0) (.t (1))) .none), (.mk (.some (55)) (.load .false .false (1) [(.some .i64)] (.t (54))) .none), (.mk (.some (56)) (.bin .leq (.t (53)) (.t (55))) .none)]) (.cond (.t (56)) .skip (.exit (6)))) (.seq (.blk 7 (.seq (.reg [(.mk (.some (7)) (.mv (.c (.int .i64 (0)))) .none)]) (.blk 8 (.loop [1, 2, 4, 5, 6, 7] [1, 2] [] F88_b5)))) F88_c6))

def F88_c7 : SC := (.reg [(.mk (.some (51)) (.mv (.t (5))) .none), (.mk (.some (52)) (.bin .add (.t (51)) (.c (.int .i64 (1)))) .none), (.mk (.some (5)) (.mv (.t (52))) .none)])

def F88_b3 : SC := (.seq (.seq (.reg [(.mk (.some (47)) (.mv (.t (5))) .none), (.mk (.some (48)) (.fld (0) (.t (1))) .none), (.mk (.some (49)) (.load .false .false (1) [(.some .i64)] (.t (48))) .none), (.mk (.some (50)) (.bin .leq (.t (47)) (.t (49))) .none)]) (.cond (.t (50)) .skip (.exit (4)))) (.seq (.blk 5 (.seq (.reg [(.mk (.some (6)) (.mv (.c (.int .i64 (0)))) .none)]) (.blk 6 (.loop [1, 2, 4, 5, 6] [1, 2] [] F88_b4)))) F88_c7))

def F88_c8 : SC := (.reg [(.mk (.some (45)) (.mv (.t (4))) .none), (.mk (.some (46)) (.bin .add (.t (45)) (.c (.int .i64 (1)))) .none), (.mk (.some (4)) (.mv (.t (46))) .none)])

def F88_b2 : SC := (.seq (.seq (.reg [(.mk (.some (40)) (.mv (.t (4))) .none), (.mk (.some (41)) (.fld (0) (.t (1))) .none), (.mk (.some (42)) (.load .false .false (1) [(.some .i64)] (.t (41))) .none), (.mk (.some (43)) (.bin .add (.t (42)) (.c (.int .i64 (1)))) .none), (.mk (.some (44)) (.bin .leq (.t (40)) (.t (43))) .none)]) (.cond (.t (44)) .skip (.exit (2)))) (.seq (.blk 3 (.seq (.reg [(.mk (.some (5)) (.mv (.c (.int .i64 (0)))) .none)]) (.blk 4 (.loop [1, 2, 4, 5] [1, 2] [] F88_b3)))) F88_c8))

def F88_b10 : SC := (.seq (.seq (.reg [(.mk (.some (91)) (.mv (.t (8))) .none), (.mk (.some (92)) (.fld (0) (.t (1))) .none), (.mk (.some (93)) (.load .false .false (1) [(.some .i64)] (.t (92))) .none), (.mk (.some (94)) (.bin .leq (.t (91)) (.t (93))) .none)]) (.cond (.t (94)) .skip (.exit (10)))) (.seq (.blk 11 (.seq (.reg [(.mk (.some (97)) (.mv (.t (8))) .none), (.mk (.some (98)) (.mv (.t (8))) .none), (.mk (.some (99)) (.fld (2) (.t (1))) .none), (.mk (.some (100)) (.ixA (7) (7) (.t (99)) (.t (97))) .none), (.mk (.some (101)) (.ixA (7) (1) (.t (100)) (.t (98))) .none), (.mk (.some (102)) (.load .false .false (1) [(.some .i64)] (.t (101))) .none), (.mk (.some (103)) (.bin .lss (.t (102)) (.c (.int .i64 (0)))) .none)]) (.cond (.t (103)) (.seq (.reg [(.mk (.some (104)) (.fld (0) (.t (1))) .none), (.mk (.some (105)) (.load .false .false (1) [(.some .i64)] (.t (104))) .none), (.mk (.some (106)) (.build [(.int .i64 (0)), (.bool .false), (.int .i64 (0)), (.int .i64 (0)), (.int .i64 (0)), (.int .i64 (0)), (.int .i64 (0)), (.int .i64 (0)), (.int .i64 (0)), (.int .i64 (0)), (.int .i64 (0)), (.int .i64 (0)), (.int .i64 (0)), (.int .i64 (0)), (.int .i64 (0)), (.int .i64 (0)), (.int .i64 (0)), (.int .i64 (0)), (.int .i64 (0)), (.int .i64 (0)), (.int .i64 (0)), (.int .i64 (0)), (.int .i64 (0)), (.int .i64 (0)), (.int .i64 (0)), (.int .i64 (0)), (.int .i64 (0)), (.int .i64 (0)), (.int .i64 (0)), (.int .i64 (0)), (.int .i64 (0)), (.int .i64 (0)), (.int .i64 (0)), (.int .i64 (0)), (.int .i64 (0)), (.int .i64 (0)), (.int .i64 (0)), (.int .i64 (0)), (.int .i64 (0)), (.int .i64 (0)), (.int .i64 (0)), (.int .i64 (0)), (.int .i64 (0)), (.int .i64 (0)), (.int .i64 (0)), (.int .i64 (0)), (.int .i64 (0)), (.int .i64 (0)), (.int .i64 (0)), (.int .i64 (0)), (.int .i64 (0))] [((0), ((1), (.t (105)))), ((1), ((1), (.c (.bool .true))))]) .none), (.mk .none (.store .false (51) (.t (2)) (.t (106))) .none)]) .ret) .skip))) (.reg [(.mk (.some (95)) (.mv (.t (8))) .none), (.mk (.some (96)) (.bin .add (.t (95)) (.c (.int .i64 (1)))) .none), (.mk (.some (8)) (.mv (.t (96))) .none)])))

def F88_c11 : SC := (.seq (.reg [(.mk (.some (107)) (.load .false .true (51) [(.some .i64), .none, (.some .i64), (.some .i64), (.some .i64), (.some .i64), (.some .i64), (.some .i64), (.some .i64), (.some .i64), (.some .i64), (.some .i64), (.some .i64), (.some .i64), (.some .i64), (.some .i64), (.some .i64), (.some .i64), (.some .i64), (.some .i64), (.some .i64), (.some .i64), (.some .i64), (.some .i64), (.some .i64), (.some .i64), (.some .i64), (.some .i64), (.some .i64), (.some .i64), (.some .i64), (.some .i64), (.some .i64), (.some .i64), (.some .i64), (.some .i64), (.some .i64), (.some .i64), (.some .i64), (.some .i64), (.some .i64), (.some .i64), (.some .i64), (.some .i64), (.some .i64), (.some .i64), (.some .i64), (.some .i64), (.some .i64), (.some .i64), (.some .i64)] (.t (1))) .none), (.mk .none (.store .false (51) (.t (2)) (.t (107))) .none)]) .ret)

def F88_c9 : SC := (.seq (.seq (.reg [(.mk (.some (8)) (.mv (.c (.int .i64 (0)))) .none)]) (.blk 10 (.loop [1, 2, 8] [1, 2] [] F88_b10))) F88_c11)

def F88_c1 : SC := (.seq (.seq (.reg [(.mk (.some (4)) (.mv (.c (.int .i64 (0)))) .none)]) (.blk 2 (.loop [1, 2, 4] [1, 2] [] F88_b2))) F88_c9)

def F88 : SFn := ⟨108, [(.cell (2) .true (51))], (.seq (.reg [(.mk (.some (1)) (.box (.t (0))) .none), (.mk (.some (2)) (.alloc [(.int .i64 (0)), (.bool .false), (.int .i64 (0)), (.int .i64 (0)), (.int .i64 (0)), (.int .i64 (0)), (.int .i64 (0)), (.int .i64 (0)), (.int .i64 (0)), (.int .i64 (0)), (.int .i64 (0)), (.int .i64 (0)), (.int .i64 (0)), (.int .i64 (0)), (.int .i64 (0)), (.int .i64 (0)), (.int .i64 (0)), (.int .i64 (0)), (.int .i64 (0)), (.int .i64 (0)), (.int .i64 (0)), (.int .i64 (0)), (.int .i64 (0)), (.int .i64 (0)), (.int .i64 (0)), (.int .i64 (0)), (.int .i64 (0)), (.int .i64 (0)), (.int .i64 (0)), (.int .i64 (0)), (.int .i64 (0)), (.int .i64 (0)), (.int .i64 (0)), (.int .i64 (0)), (.int .i64 (0)), (.int .i64 (0)), (.int .i64 (0)), (.int .i64 (0)), (.int .i64 (0)), (.int .i64 (0)), (.int .i64 (0)), (.int .i64 (0)), (.int .i64 (0)), (.int .i64 (0)), (.int .i64 (0)), (.int .i64 (0)), (.int .i64 (0)), (.int .i64 (0)), (.int .i64 (0)), (.int .i64 (0)), (.int .i64 (0))]) .none)]) (.seq (.seq (.reg [(.mk (.some (9)) (.fld (1) (.t (1))) .none), (.mk (.some (10)) (.load .false .false (1) [.none] (.t (9))) .none)]) (.cond (.t (10)) (.seq (.reg [(.mk (.some (11)) (.fld (0) (.t (1))) .none), (.mk (.some (12)) (.load .false .false (1) [(.some .i64)] (.t (11))) .none), (.mk (.some (13)) (.build [(.int .i64 (0)), (.bool .false), (.int .i64 (0)), (.int .i64 (0)), (.int .i64 (0)), (.int .i64 (0)), (.int .i64 (0)), (.int .i64 (0)), (.int .i64 (0)), (.int .i64 (0)), (.int .i64 (0)), (.int .i64 (0)), (.int .i64 (0)), (.int .i64 (0)), (.int .i64 (0)), (.int .i64 (0)), (.int .i64 (0)), (.int .i64 (0)), (.int .i64 (0)), (.int .i64 (0)), (.int .i64 (0)), (.int .i64 (0)), (.int .i64 (0)), (.int .i64 (0)), (.int .i64 (0)), (.int .i64 (0)), (.int .i64 (0)), (.int .i64 (0)), (.int .i64 (0)), (.int .i64 (0)), (.int .i64 (0)), (.int .i64 (0)), (.int .i64 (0)), (.int .i64 (0)), (.int .i64 (0)), (.int .i64 (0)), (.int .i64 (0)), (.int .i64 (0)), (.int .i64 (0)), (.int .i64 (0)), (.int .i64 (0)), (.int .i64 (0)), (.int .i64 (0)), (.int .i64 (0)), (.int .i64 (0)), (.int .i64 (0)), (.int .i64 (0)), (.int .i64 (0)), (.int .i64 (0)), (.int .i64 (0)), (.int .i64 (0))] [((0), ((1), (.t (12)))), ((1), ((1), (.c (.bool .true))))]) .none), (.mk .none (.store .false (51) (.t (2)) (.t (13))) .none)]) .ret) .skip)) (.seq (.seq (.reg [(.mk (.some (3)) (.mv (.c (.int .i64 (1)))) .none)]) (.blk 0 (.loop [1, 2, 3] [1, 2] [] F88_b0))) F88_c1)))⟩

theorem F88_ok : sfn Try.prog hints 88 [([1, 2, 3], ([1, 2], [])), ([1, 2, 4], ([1, 2], [])), ([1, 2, 4, 5], ([1, 2], [])), ([1, 2, 4, 5, 6], ([1, 2], [])), ([1, 2, 4, 5, 6, 7], ([1, 2], [])), ([1, 2, 8], ([1, 2], []))] = some F88 := by kernel_rfl

abbrev X88_0 (y28_0 : Int) (y37_0 : Int) (y40_0 : Int) (y40_1 : List Cell) := (y40_1.set (y37_0.toNat * 1 + y28_0.toNat * 7) (Cell.v (Value.int IntKind.i64 (if -35184372088832 > if IntKind.i64.wrap (intC (y40_1.getD (y40_0.toNat * 1 + y28_0.toNat * 7) Cell.dead) + intC (y40_1.getD (y37_0.toNat * 1 + y40_0.toNat * 7) Cell.dead)) < intC (y40_1.getD (y37_0.toNat * 1 + y28_0.toNat * 7) Cell.dead) then IntKind.i64.wrap (intC (y40_1.getD (y40_0.toNat * 1 + y28_0.toNat * 7) Cell.dead) + intC (y40_1.getD (y37_0.toNat * 1 + y40_0.toNat * 7) Cell.dead)) else intC (y40_1.getD (y37_0.toNat * 1 + y28_0.toNat * 7) Cell.dead) then -35184372088832 else if IntKind.i64.wrap (intC (y40_1.getD (y40_0.toNat * 1 + y28_0.toNat * 7) Cell.dead) + intC (y40_1.getD (y37_0.toNat * 1 + y40_0.toNat * 7) Cell.dead)) < intC (y40_1.getD (y37_0.toNat * 1 + y28_0.toNat * 7) Cell.dead) then IntKind.i64.wrap (intC (y40_1.getD (y40_0.toNat * 1 + y28_0.toNat * 7) Cell.dead) + intC (y40_1.getD (y37_0.toNat * 1 + y40_0.toNat * 7) Cell.dead)) else intC (y40_1.getD (y37_0.toNat * 1 + y28_0.toNat * 7) Cell.dead)))))
abbrev X88_1 (y0_0 : Int) (y0_1 : List Cell) := (y0_1.set (0 + y0_0.toNat * 7) (Cell.v (Value.int IntKind.i64 (if 2147483647 < intC (y0_1.getD (0 + y0_0.toNat * 7) Cell.dead) then 2147483647 else intC (y0_1.getD (0 + y0_0.toNat * 7) Cell.dead)))))
abbrev X88_2 (y0_0 : Int) (y0_1 : List Cell) := ((X88_1 y0_0 y0_1).set (y0_0.toNat * 1) (Cell.v (Value.int IntKind.i64 (if 2147483648 < intC ((X88_1 y0_0 y0_1).getD (y0_0.toNat * 1) Cell.dead) then 2147483648 else intC ((X88_1 y0_0 y0_1).getD (y0_0.toNat * 1) Cell.dead)))))

def I88_0_0 (a0_0 : Int) (a0_1 : Bool) (a0_2 : List Cell) (y0_0 : Int) (y0_1 : List Cell) : St := (.mk [.no, (.box (1) (0) (0)), (.box (2) (0) (0)), (.one (.v (.int .i64 (y0_0)))), .no, .no, .no, .no, .no, .no, .no, .no, .no, .no, .no, .no, .no, .no, .no, .no, .no, .no, .no, .no, .no, .no, .no, .no, .no, .no, .no, .no, .no, .no, .no, .no, .no, .no, .no, .no, .no, .no, .no, .no, .no, .no, .no, .no, .no, .no, .no, .no, .no, .no, .no, .no, .no, .no, .no, .no, .no, .no, .no, .no, .no, .no, .no, .no, .no, .no, .no, .no, .no, .no, .no, .no, .no, .no, .no, .no, .no, .no, .no, .no, .no, .no, .no, .no, .no, .no, .no, .no, .no, .no, .no, .no, .no, .no, .no, .no, .no, .no, .no, .no, .no, .no, .no, .no] [[], [((.v (.int .i64 (a0_0))) :: (.v (.bool (a0_1))) :: (y0_1))], [((.v (.int .i64 (0))) :: (.v (.bool .false)) :: (List.replicate (49) (Cell.v (Value.int IntKind.i64 0))))], [], [], [], [], [], [], [], [], [], [], [], [], [], [], [], [], [], [], [], [], [], [], [], [], [], [], [], [], [], [], [], [], [], [], [], [], [], [], [], [], [], [], [], [], [], [], [], [], [], [], [], [], [], [], [], [], [], [], [], [], [], [], [], [], [], [], [], [], [], [], [], [], [], [], [], [], [], [], [], [], [], [], [], [], [], [], [], [], [], [], [], [], [], [], [], [], [], [], [], [], [], [], [], [], []] [[], [], [], [], [], [], [], [], [], [], [], [], [], [], [], [], [], [], [], [], [], [], [], [], [], [], [], [], [], [], [], [], [], [], [], [], [], [], [], [], [], [], [], [], [], [], [], [], [], [], [], [], [], [], [], [], [], [], [], [], [], [], [], [], [], [], [], [], [], [], [], [], [], [], [], [], [], [], [], [], [], [], [], [], [], [], [], [], [], [], [], [], [], [], [], [], [], [], [], [], [], [], [], [], [], [], [], []])

def I88_1_0 (a0_0 : Int) (a0_1 : Bool) (a0_2 : List Cell) (y0_0 : Int) (y0_1 : List Cell) (y1_0 : Int) (y1_1 : List Cell) : St := (.mk [.no, (.box (1) (0) (0)), (.box (2) (0) (0)), .no, (.one (.v (.int .i64 (y1_0)))), .no, .no, .no, .no, .no, .no, .no, .no, .no, .no, .no, .no, .no, .no, .no, .no, .no, .no, .no, .no, .no, .no, .no, .no, .no, .no, .no, .no, .no, .no, .no, .no, .no, .no, .no, .no, .no, .no, .no, .no, .no, .no, .no, .no, .no, .no, .no, .no, .no, .no, .no, .no, .no, .no, .no, .no, .no, .no, .no, .no, .no, .no, .no, .no, .no, .no, .no, .no, .no, .no, .no, .no, .no, .no, .no, .no, .no, .no, .no, .no, .no, .no, .no, .no, .no, .no, .no, .no, .no, .no, .no, .no, .no, .no, .no, .no, .no, .no, .no, .no, .no, .no, .no] [[], [((.v (.int .i64 (a0_0))) :: (.v (.bool (a0_1))) :: (y1_1))], [((.v (.int .i64 (0))) :: (.v (.bool .false)) :: (List.replicate (49) (Cell.v (Value.int IntKind.i64 0))))], [], [], [], [], [], [], [], [], [], [], [], [], [], [], [], [], [], [], [], [], [], [], [], [], [], [], [], [], [], [], [], [], [], [], [], [], [], [], [], [], [], [], [], [], [], [], [], [], [], [], [], [], [], [], [], [], [], [], [], [], [], [], [], [], [], [], [], [], [], [], [], [], [], [], [], [], [], [], [], [], [], [], [], [], [], [], [], [], [], [], [], [], [], [], [], [], [], [], [], [], [], [], [], [], []] [[], [], [], [], [], [], [], [], [], [], [], [], [], [], [], [], [], [], [], [], [], [], [], [], [], [], [], [], [], [], [], [], [], [], [], [], [], [], [], [], [], [], [], [], [], [], [], [], [], [], [], [], [], [], [], [], [], [], [], [], [], [], [], [], [], [], [], [], [], [], [], [], [], [], [], [], [], [], [], [], [], [], [], [], [], [], [], [], [], [], [], [], [], [], [], [], [], [], [], [], [], [], [], [], [], [], [], []])

def I88_28_0 (a0_0 : Int) (a0_1 : Bool) (a0_2 : List Cell) (y0_0 : Int) (y0_1 : List Cell) (y1_0 : Int) (y1_1 : List Cell) (y28_0 : Int) (y28_1 : List Cell) : St := (.mk [.no, (.box (1) (0) (0)), (.box (2) (0) (0)), .no, (.one (.v (.int .i64 (y1_0)))), (.one (.v (.int .i64 (y28_0)))), .no, .no, .no, .no, .no, .no, .no, .no, .no, .no, .no, .no, .no, .no, .no, .no, .no, .no, .no, .no, .no, .no, .no, .no, .no, .no, .no, .no, .no, .no, .no, .no, .no, .no, .no, .no, .no, .no, .no, .no, .no, .no, .no, .no, .no, .no, .no, .no, .no, .no, .no, .no, .no, .no, .no, .no, .no, .no, .no, .no, .no, .no, .no, .no, .no, .no, .no, .no, .no, .no, .no, .no, .no, .no, .no, .no, .no, .no, .no, .no, .no, .no, .no, .no, .no, .no, .no, .no, .no, .no, .no, .no, .no, .no, .no, .no, .no, .no, .no, .no, .no, .no] [[], [((.v (.int .i64 (a0_0))) :: (.v (.bool (a0_1))) :: (y28_1))], [((.v (.int .i64 (0))) :: (.v (.bool .false)) :: (List.replicate (49) (Cell.v (Value.int IntKind.i64 0))))], [], [], [], [], [], [], [], [], [], [], [], [], [], [], [], [], [], [], [], [], [], [], [], [], [], [], [], [], [], [], [], [], [], [], [], [], [], [], [], [], [], [], [], [], [], [], [], [], [], [], [], [], [], [], [], [], [], [], [], [], [], [], [], [], [], [], [], [], [], [], [], [], [], [], [], [], [], [], [], [], [], [], [], [], [], [], [], [], [], [], [], [], [], [], [], [], [], [], [], [], [], [], [], [], []] [[], [], [], [], [], [], [], [], [], [], [], [], [], [], [], [], [], [], [], [], [], [], [], [], [], [], [], [], [], [], [], [], [], [], [], [], [], [], [], [], [], [], [], [], [], [], [], [], [], [], [], [], [], [], [], [], [], [], [], [], [], [], [], [], [], [], [], [], [], [], [], [], [], [], [], [], [], [], [], [], [], [], [], [], [], [], [], [], [], [], [], [], [], [], [], [], [], [], [], [], [], [], [], [], [], [], [], []])

def I88_37_0 (a0_0 : Int) (a0_1 : Bool) (a0_2 : List Cell) (y0_0 : Int) (y0_1 : List Cell) (y1_0 : Int) (y1_1 : List Cell) (y28_0 : Int) (y28_1 : List Cell) (y37_0 : Int) (y37_1 : List Cell) : St := (.mk [.no, (.box (1) (0) (0)), (.box (2) (0) (0)), .no, (.one (.v (.int .i64 (y1_0)))), (.one (.v (.int .i64 (y28_0)))), (.one (.v (.int .i64 (y37_0)))), .no, .no, .no, .no, .no, .no, .no, .no, .no, .no, .no, .no, .no, .no, .no, .no, .no, .no, .no, .no, .no, .no, .no, .no, .no, .no, .no, .no, .no, .no, .no, .no, .no, .no, .no, .no, .no, .no, .no, .no, .no, .no, .no, .no, .no, .no, .no, .no, .no, .no, .no, .no, .no, .no, .no, .no, .no, .no, .no, .no, .no, .no, .no, .no, .no, .no, .no, .no, .no, .no, .no, .no, .no, .no, .no, .no, .no, .no, .no, .no, .no, .no, .no, .no, .no, .no, .no, .no, .no, .no, .no, .no, .no, .no, .no, .no, .no, .no, .no, .no, .no] [[], [((.v (.int .i64 (a0_0))) :: (.v (.bool (a0_1))) :: (y37_1))], [((.v (.int .i64 (0))) :: (.v (.bool .false)) :: (List.replicate (49) (Cell.v (Value.int IntKind.i64 0))))], [], [], [], [], [], [], [], [], [], [], [], [], [], [], [], [], [], [], [], [], [], [], [], [], [], [], [], [], [], [], [], [], [], [], [], [], [], [], [], [], [], [], [], [], [], [], [], [], [], [], [], [], [], [], [], [], [], [], [], [], [], [], [], [], [], [], [], [], [], [], [], [], [], [], [], [], [], [], [], [], [], [], [], [], [], [], [], [], [], [], [], [], [], [], [], [], [], [], [], [], [], [], [], [], []] [[], [], [], [], [], [], [], [], [], [], [], [], [], [], [], [], [], [], [], [], [], [], [], [], [], [], [], [], [], [], [], [], [], [], [], [], [], [], [], [], [], [], [], [], [], [], [], [], [], [], [], [], [], [], [], [], [], [], [], [], [], [], [], [], [], [], [], [], [], [], [], [], [], [], [], [], [], [], [], [], [], [], [], [], [], [], [], [], [], [], [], [], [], [], [], [], [], [], [], [], [], [], [], [], [], [], [], []])

def I88_40_0 (a0_0 : Int) (a0_1 : Bool) (a0_2 : List Cell) (y0_0 : Int) (y0_1 : List Cell) (y1_0 : Int) (y1_1 : List Cell) (y28_0 : Int) (y28_1 : List Cell) (y37_0 : Int) (y37_1 : List Cell) (y40_0 : Int) (y40_1 : List Cell) : St := (.mk [.no, (.box (1) (0) (0)), (.box (2) (0) (0)), .no, (.one (.v (.int .i64 (y1_0)))), (.one (.v (.int .i64 (y28_0)))), (.one (.v (.int .i64 (y37_0)))), (.one (.v (.int .i64 (y40_0)))), .no, .no, .no, .no, .no, .no, .no, .no, .no, .no, .no, .no, .no, .no, .no, .no, .no, .no, .no, .no, .no, .no, .no, .no, .no, .no, .no, .no, .no, .no, .no, .no, .no, .no, .no, .no, .no, .no, .no, .no, .no, .no, .no, .no, .no, .no, .no, .no, .no, .no, .no, .no, .no, .no, .no, .no, .no, .no, .no, .no, .no, .no, .no, .no, .no, .no, .no, .no, .no, .no, .no, .no, .no, .no, .no, .no, .no, .no, .no, .no, .no, .no, .no, .no, .no, .no, .no, .no, .no, .no, .no, .no, .no, .no, .no, .no, .no, .no, .no, .no] [[], [((.v (.int .i64 (a0_0))) :: (.v (.bool (a0_1))) :: (y40_1))], [((.v (.int .i64 (0))) :: (.v (.bool .false)) :: (List.replicate (49) (Cell.v (Value.int IntKind.i64 0))))], [], [], [], [], [], [], [], [], [], [], [], [], [], [], [], [], [], [], [], [], [], [], [], [], [], [], [], [], [], [], [], [], [], [], [], [], [], [], [], [], [], [], [], [], [], [], [], [], [], [], [], [], [], [], [], [], [], [], [], [], [], [], [], [], [], [], [], [], [], [], [], [], [], [], [], [], [], [], [], [], [], [], [], [], [], [], [], [], [], [], [], [], [], [], [], [], [], [], [], [], [], [], [], [], []] [[], [], [], [], [], [], [], [], [], [], [], [], [], [], [], [], [], [], [], [], [], [], [], [], [], [], [], [], [], [], [], [], [], [], [], [], [], [], [], [], [], [], [], [], [], [], [], [], [], [], [], [], [], [], [], [], [], [], [], [], [], [], [], [], [], [], [], [], [], [], [], [], [], [], [], [], [], [], [], [], [], [], [], [], [], [], [], [], [], [], [], [], [], [], [], [], [], [], [], [], [], [], [], [], [], [], [], []])

def I88_41_0 (a0_0 : Int) (a0_1 : Bool) (a0_2 : List Cell) (y0_0 : Int) (y0_1 : List Cell) (y1_0 : Int) (y1_1 : List Cell) (y41_0 : Int) : St := (.mk [.no, (.box (1) (0) (0)), (.box (2) (0) (0)), .no, .no, .no, .no, .no, (.one (.v (.int .i64 (y41_0)))), .no, .no, .no, .no, .no, .no, .no, .no, .no, .no, .no, .no, .no, .no, .no, .no, .no, .no, .no, .no, .no, .no, .no, .no, .no, .no, .no, .no, .no, .no, .no, .no, .no, .no, .no, .no, .no, .no, .no, .no, .no, .no, .no, .no, .no, .no, .no, .no, .no, .no, .no, .no, .no, .no, .no, .no, .no, .no, .no, .no, .no, .no, .no, .no, .no, .no, .no, .no, .no, .no, .no, .no, .no, .no, .no, .no, .no, .no, .no, .no, .no, .no, .no, .no, .no, .no, .no, .no, .no, .no, .no, .no, .no, .no, .no, .no, .no, .no, .no] [[], [((.v (.int .i64 (a0_0))) :: (.v (.bool (a0_1))) :: (y1_1))], [((.v (.int .i64 (0))) :: (.v (.bool .false)) :: (List.replicate (49) (Cell.v (Value.int IntKind.i64 0))))], [], [], [], [], [], [], [], [], [], [], [], [], [], [], [], [], [], [], [], [], [], [], [], [], [], [], [], [], [], [], [], [], [], [], [], [], [], [], [], [], [], [], [], [], [], [], [], [], [], [], [], [], [], [], [], [], [], [], [], [], [], [], [], [], [], [], [], [], [], [], [], [], [], [], [], [], [], [], [], [], [], [], [], [], [], [], [], [], [], [], [], [], [], [], [], [], [], [], [], [], [], [], [], [], []] [[], [], [], [], [], [], [], [], [], [], [], [], [], [], [], [], [], [], [], [], [], [], [], [], [], [], [], [], [], [], [], [], [], [], [], [], [], [], [], [], [], [], [], [], [], [], [], [], [], [], [], [], [], [], [], [], [], [], [], [], [], [], [], [], [], [], [], [], [], [], [], [], [], [], [], [], [], [], [], [], [], [], [], [], [], [], [], [], [], [], [], [], [], [], [], [], [], [], [], [], [], [], [], [], [], [], [], []])

theorem E88_0_0 (a0_0 : Int) (a0_1 : Bool) (a0_2 : List Cell) (y0_0 : Int) (y0_1 : List Cell) (N0 : Bool × St → Prop) (R : Ret → Prop) : wpO cx88 F88_b0 (.two .e .e) (I88_0_0 a0_0 a0_1 a0_2 y0_0 y0_1) (kLp (headW cx88.m [1, 2, 3] [1, 2] []) N0 (kBlk 0 (kSeq cx88 F88_c1 (endO cx88.m F88.rs R)))) = (bif decide (y0_0 ≤ a0_0) then (bif decide (0 ≤ y0_0) && decide (y0_0 < 7) then (bif decide (0 + y0_0.toNat * 7 + 3 ≤ y0_1.length + 2) && okK (some IntKind.i64) (y0_1.getD (0 + y0_0.toNat * 7) Cell.dead) then (bif decide (0 ≤ y0_0) && decide (y0_0 < 7) then (bif decide (0 + y0_0.toNat * 7 + 3 ≤ y0_1.length + 2) then (bif decide (0 ≤ y0_0) && decide (y0_0 < 7) then (bif decide (y0_0.toNat * 1 + 3 ≤ (X88_1 y0_0 y0_1).length + 2) && okK (some IntKind.i64) ((X88_1 y0_0 y0_1).getD (y0_0.toNat * 1) Cell.dead) then (bif decide (0 ≤ y0_0) && decide (y0_0 < 7) then (bif decide (y0_0.toNat * 1 + 3 ≤ (X88_1 y0_0 y0_1).length + 2) then (N0 ((X88_2 y0_0 y0_1).all plainC && true && true, (I88_0_0 a0_0 a0_1 a0_2 (IntKind.i64.wrap (y0_0 + 1)) (X88_2 y0_0 y0_1)))) else False) else False) else False) else False) else False) else False) else False) else False) else (LoopO (bodyX cx88 F88_b2) (headW cx88.m [1, 2, 4] [1, 2] []) (kBlk 2 (kSeq cx88 F88_c9 (endO cx88.m F88.rs R))) (y0_1.all plainC && true && true, (I88_1_0 a0_0 a0_1 a0_2 y0_0 y0_1 (0) (y0_1))))) := by kernel_rfl

theorem E88_1_0 (a0_0 : Int) (a0_1 : Bool) (a0_2 : List Cell) (y0_0 : Int) (y0_1 : List Cell) (y1_0 : Int) (y1_1 : List Cell) (N1 : Bool × St → Prop) (R : Ret → Prop) : wpO cx88 F88_b2 (.two .e .e) (I88_1_0 a0_0 a0_1 a0_2 y0_0 y0_1 y1_0 y1_1) (kLp (headW cx88.m [1, 2, 4] [1, 2] []) N1 (kBlk 2 (kSeq cx88 F88_c9 (endO cx88.m F88.rs R)))) = (bif decide (y1_0 ≤ IntKind.i64.wrap (a0_0 + 1)) then (LoopO (bodyX cx88 F88_b3) (headW cx88.m [1, 2, 4, 5] [1, 2] []) (kBlk 4 (kBlk 3 (kSeq cx88 F88_c8 (kLp (headW cx88.m [1, 2, 4] [1, 2] []) N1 (kBlk 2 (kSeq cx88 F88_c9 (endO cx88.m F88.rs R))))))) (y1_1.all plainC && true && true, (I88_28_0 a0_0 a0_1 a0_2 y0_0 y0_1 y1_0 y1_1 (0) (y1_1)))) else (LoopO (bodyX cx88 F88_b10) (headW cx88.m [1, 2, 8] [1, 2] []) (kBlk 10 (kSeq cx88 F88_c11 (endO cx88.m F88.rs R))) (y1_1.all plainC && true && true, (I88_41_0 a0_0 a0_1 a0_2 y0_0 y0_1 y1_0 y1_1 (0))))) := by kernel_rfl

theorem E88_28_0 (a0_0 : Int) (a0_1 : Bool) (a0_2 : List Cell) (y0_0 : Int) (y0_1 : List Cell) (y1_0 : Int) (y1_1 : List Cell) (y28_0 : Int) (y28_1 : List Cell) (N1 : Bool × St → Prop) (N28 : Bool × St → Prop) (R : Ret → Prop) : wpO cx88 F88_b3 (.two .e .e) (I88_28_0 a0_0 a0_1 a0_2 y0_0 y0_1 y1_0 y1_1 y28_0 y28_1) (kLp (headW cx88.m [1, 2, 4, 5] [1, 2] []) N28 (kBlk 4 (kBlk 3 (kSeq cx88 F88_c8 (kLp (headW cx88.m [1, 2, 4] [1, 2] []) N1 (kBlk 2 (kSeq cx88 F88_c9 (endO cx88.m F88.rs R)))))))) = (bif decide (y28_0 ≤ a0_0) then (LoopO (bodyX cx88 F88_b4) (headW cx88.m [1, 2, 4, 5, 6] [1, 2] []) (kBlk 6 (kBlk 5 (kSeq cx88 F88_c7 (kLp (headW cx88.m [1, 2, 4, 5] [1, 2] []) N28 (kBlk 4 (kBlk 3 (kSeq cx88 F88_c8 (kLp (headW cx88.m [1, 2, 4] [1, 2] []) N1 (kBlk 2 (kSeq cx88 F88_c9 (endO cx88.m F88.rs R))))))))))) (y28_1.all plainC && true && true, (I88_37_0 a0_0 a0_1 a0_2 y0_0 y0_1 y1_0 y1_1 y28_0 y28_1 (0) (y28_1)))) else (N1 (y28_1.all plainC && true && true, (I88_1_0 a0_0 a0_1 a0_2 y0_0 y0_1 (IntKind.i64.wrap (y1_0 + 1)) (y28_1))))) := by kernel_rfl

theorem E88_37_0 (a0_0 : Int) (a0_1 : Bool) (a0_2 : List Cell) (y0_0 : Int) (y0_1 : List Cell) (y1_0 : Int) (y1_1 : List Cell) (y28_0 : Int) (y28_1 : List Cell) (y37_0 : Int) (y37_1 : List Cell) (N28 : Bool × St → Prop) (N1 : Bool × St → Prop) (N37 : Bool × St → Prop) (R : Ret → Prop) : wpO cx88 F88_b4 (.two .e .e) (I88_37_0 a0_0 a0_1 a0_2 y0_0 y0_1 y1_0 y1_1 y28_0 y28_1 y37_0 y37_1) (kLp (headW cx88.m [1, 2, 4, 5, 6] [1, 2] []) N37 (kBlk 6 (kBlk 5 (kSeq cx88 F88_c7 (kLp (headW cx88.m [1, 2, 4, 5] [1, 2] []) N28 (kBlk 4 (kBlk 3 (kSeq cx88 F88_c8 (kLp (headW cx88.m [1, 2, 4] [1, 2] []) N1 (kBlk 2 (kSeq cx88 F88_c9 (endO cx88.m F88.rs R)))))))))))) = (bif decide (y37_0 ≤ a0_0) then (LoopO (bodyX cx88 F88_b5) (headW cx88.m [1, 2, 4, 5, 6, 7] [1, 2] []) (kBlk 8 (kBlk 7 (kSeq cx88 F88_c6 (kLp (headW cx88.m [1, 2, 4, 5, 6] [1, 2] []) N37 (kBlk 6 (kBlk 5 (kSeq cx88 F88_c7 (kLp (headW cx88.m [1, 2, 4, 5] [1, 2] []) N28 (kBlk 4 (kBlk 3 (kSeq cx88 F88_c8 (kLp (headW cx88.m [1, 2, 4] [1, 2] []) N1 (kBlk 2 (kSeq cx88 F88_c9 (endO cx88.m F88.rs R))))))))))))))) (y37_1.all plainC && true && true, (I88_40_0 a0_0 a0_1 a0_2 y0_0 y0_1 y1_0 y1_1 y28_0 y28_1 y37_0 y37_1 (0) (y37_1)))) else (N28 (y37_1.all plainC && true && true, (I88_28_0 a0_0 a0_1 a0_2 y0_0 y0_1 y1_0 y1_1 (IntKind.i64.wrap (y28_0 + 1)) (y37_1))))) := by kernel_rfl

theorem E88_40_0 (a0_0 : Int) (a0_1 : Bool) (a0_2 : List Cell) (y0_0 : Int) (y0_1 : List Cell) (y1_0 : Int) (y1_1 : List Cell) (y28_0 : Int) (y28_1 : List Cell) (y37_0 : Int) (y37_1 : List Cell) (y40_0 : Int) (y40_1 : List Cell) (N37 : Bool × St → Prop) (N28 : Bool × St → Prop) (N1 : Bool × St → Prop) (N40 : Bool × St → Prop) (R : Ret → Prop) : wpO cx88 F88_b5 (.two .e .e) (I88_40_0 a0_0 a0_1 a0_2 y0_0 y0_1 y1_0 y1_1 y28_0 y28_1 y37_0 y37_1 y40_0 y40_1) (kLp (headW cx88.m [1, 2, 4, 5, 6, 7] [1, 2] []) N40 (kBlk 8 (kBlk 7 (kSeq cx88 F88_c6 (kLp (headW cx88.m [1, 2, 4, 5, 6] [1, 2] []) N37 (kBlk 6 (kBlk 5 (kSeq cx88 F88_c7 (kLp (headW cx88.m [1, 2, 4, 5] [1, 2] []) N28 (kBlk 4 (kBlk 3 (kSeq cx88 F88_c8 (kLp (headW cx88.m [1, 2, 4] [1, 2] []) N1 (kBlk 2 (kSeq cx88 F88_c9 (endO cx88.m F88.rs R)))))))))))))))) = (bif decide (y40_0 ≤ a0_0) then (bif decide (0 ≤ y28_0) && decide (y28_0 < 7) then (bif decide (0 ≤ y37_0) && decide (y37_0 < 7) then (bif decide (y37_0.toNat * 1 + y28_0.toNat * 7 + 3 ≤ y40_1.length + 2) && okK (some IntKind.i64) (y40_1.getD (y37_0.toNat * 1 + y28_0.toNat * 7) Cell.dead) then (bif decide (0 ≤ y28_0) && decide (y28_0 < 7) then (bif decide (0 ≤ y40_0) && decide (y40_0 < 7) then (bif decide (y40_0.toNat * 1 + y28_0.toNat * 7 + 3 ≤ y40_1.length + 2) && okK (some IntKind.i64) (y40_1.getD (y40_0.toNat * 1 + y28_0.toNat * 7) Cell.dead) then (bif decide (0 ≤ y40_0) && decide (y40_0 < 7) then (bif decide (0 ≤ y37_0) && decide (y37_0 < 7) then (bif decide (y37_0.toNat * 1 + y40_0.toNat * 7 + 3 ≤ y40_1.length + 2) && okK (some IntKind.i64) (y40_1.getD (y37_0.toNat * 1 + y40_0.toNat * 7) Cell.dead) then (bif decide (0 ≤ y28_0) && decide (y28_0 < 7) then (bif decide (0 ≤ y37_0) && decide (y37_0 < 7) then (bif decide (y37_0.toNat * 1 + y28_0.toNat * 7 + 3 ≤ y40_1.length + 2) then (N40 ((X88_0 y28_0 y37_0 y40_0 y40_1).all plainC && true && true, (I88_40_0 a0_0 a0_1 a0_2 y0_0 y0_1 y1_0 y1_1 y28_0 y28_1 y37_0 y37_1 (IntKind.i64.wrap (y40_0 + 1)) (X88_0 y28_0 y37_0 y40_0 y40_1)))) else False) else False) else False) else False) else False) else False) else False) else False) else False) else False) else False) else False) else (N37 (y40_1.all plainC && true && true, (I88_37_0 a0_0 a0_1 a0_2 y0_0 y0_1 y1_0 y1_1 y28_0 y28_1 (IntKind.i64.wrap (y37_0 + 1)) (y40_1))))) := by kernel_rfl

theorem E88_41_0 (a0_0 : Int) (a0_1 : Bool) (a0_2 : List Cell) (y0_0 : Int) (y0_1 : List Cell) (y1_0 : Int) (y1_1 : List Cell) (y41_0 : Int) (N41 : Bool × St → Prop) (R : Ret → Prop) : wpO cx88 F88_b10 (.two (.two .e .e) .e) (I88_41_0 a0_0 a0_1 a0_2 y0_0 y0_1 y1_0 y1_1 y41_0) (kLp (headW cx88.m [1, 2, 8] [1, 2] []) N41 (kBlk 10 (kSeq cx88 F88_c11 (endO cx88.m F88.rs R)))) = (bif decide (y41_0 ≤ a0_0) then (bif decide (0 ≤ y41_0) && decide (y41_0 < 7) then (bif decide (0 ≤ y41_0) && decide (y41_0 < 7) then (bif decide (y41_0.toNat * 1 + y41_0.toNat * 7 + 3 ≤ y1_1.length + 2) && okK (some IntKind.i64) (y1_1.getD (y41_0.toNat * 1 + y41_0.toNat * 7) Cell.dead) then (bif decide (intC (y1_1.getD (y41_0.toNat * 1 + y41_0.toNat * 7) Cell.dead) < 0) then (R (Ret.mk (.agg ((.v (.int .i64 (a0_0))) :: (.v (.bool .true)) :: (List.replicate (49) (Cell.v (Value.int IntKind.i64 0))))) [])) else (N41 (y1_1.all plainC && true && true, (I88_41_0 a0_0 a0_1 a0_2 y0_0 y0_1 y1_0 y1_1 (IntKind.i64.wrap (y41_0 + 1)))))) else False) else False) else False) else (bif y1_1.length + 2 == 51 then (bif y1_1.length + 2 == 51 && true && true then (bif y1_1.length + 2 == 51 && true then (bif y1_1.all plainC then (R (Ret.mk (.agg ((.v (.int .i64 (a0_0))) :: (.v (.bool (a0_1))) :: (y1_1))) [])) else False) else False) else False) else False)) := by kernel_rfl

theorem E88 (a0_0 : Int) (a0_1 : Bool) (a0_2 : List Cell) (R : Ret → Prop) : wpFO cx88 F88 (.two .e .e) [(.agg ((.v (.int .i64 a0_0)) :: (.v (.bool a0_1)) :: a0_2))] R = (bif a0_1 then (R (Ret.mk (.agg ((.v (.int .i64 (a0_0))) :: (.v (.bool .true)) :: (List.replicate (49) (Cell.v (Value.int IntKind.i64 0))))) [])) else (LoopO (bodyX cx88 F88_b0) (headW cx88.m [1, 2, 3] [1, 2] []) (kBlk 0 (kSeq cx88 F88_c1 (endO cx88.m F88.rs R))) (a0_2.all plainC && true && true, (I88_0_0 a0_0 a0_1 a0_2 (1) (a0_2))))) := by kernel_rfl

def f88_wp (a0_0 : Int) (a0_1 : Bool) (a0_2 : List Cell) (R : Ret → Prop) : Prop := bif a0_1 then (R (Ret.mk (.agg ((.v (.int .i64 (a0_0))) :: (.v (.bool .true)) :: (List.replicate (49) (Cell.v (Value.int IntKind.i64 0))))) [])) else ((a0_2.all plainC && true && true) = true ∧ LoopP (fun (z0 : (Int × (List Cell))) (k0 : (Int × (List Cell)) → Prop) => (fun (z : Int × (List Cell)) => (fun (y0_0 : Int) (y0_1 : List Cell) => bif decide (y0_0 ≤ a0_0) then (bif decide (0 ≤ y0_0) && decide (y0_0 < 7) then (bif decide (0 + y0_0.toNat * 7 + 3 ≤ y0_1.length + 2) && okK (some IntKind.i64) (y0_1.getD (0 + y0_0.toNat * 7) Cell.dead) then (bif decide (0 + y0_0.toNat * 7 + 3 ≤ y0_1.length + 2) then (bif decide (y0_0.toNat * 1 + 3 ≤ (X88_1 y0_0 y0_1).length + 2) && okK (some IntKind.i64) ((X88_1 y0_0 y0_1).getD (y0_0.toNat * 1) Cell.dead) then (bif decide (y0_0.toNat * 1 + 3 ≤ (X88_1 y0_0 y0_1).length + 2) then (((X88_2 y0_0 y0_1).all plainC && true && true) = true ∧ k0 ((IntKind.i64.wrap (y0_0 + 1)), (X88_2 y0_0 y0_1))) else False) else False) else False) else False) else False) else ((y0_1.all plainC && true && true) = true ∧ LoopP (fun (z1 : (Int × (List Cell))) (k1 : (Int × (List Cell)) → Prop) => (fun (z : Int × (List Cell)) => (fun (y1_0 : Int) (y1_1 : List Cell) => bif decide (y1_0 ≤ IntKind.i64.wrap (a0_0 + 1)) then ((y1_1.all plainC && true && true) = true ∧ LoopP (fun (z28 : (Int × (List Cell))) (k28 : (Int × (List Cell)) → Prop) => (fun (z : Int × (List Cell)) => (fun (y28_0 : Int) (y28_1 : List Cell) => bif decide (y28_0 ≤ a0_0) then ((y28_1.all plainC && true && true) = true ∧ LoopP (fun (z37 : (Int × (List Cell))) (k37 : (Int × (List Cell)) → Prop) => (fun (z : Int × (List Cell)) => (fun (y37_0 : Int) (y37_1 : List Cell) => bif decide (y37_0 ≤ a0_0) then ((y37_1.all plainC && true && true) = true ∧ LoopP (fun (z40 : (Int × (List Cell))) (k40 : (Int × (List Cell)) → Prop) => (fun (z : Int × (List Cell)) => (fun (y40_0 : Int) (y40_1 : List Cell) => bif decide (y40_0 ≤ a0_0) then (bif decide (0 ≤ y28_0) && decide (y28_0 < 7) then (bif decide (0 ≤ y37_0) && decide (y37_0 < 7) then (bif decide (y37_0.toNat * 1 + y28_0.toNat * 7 + 3 ≤ y40_1.length + 2) && okK (some IntKind.i64) (y40_1.getD (y37_0.toNat * 1 + y28_0.toNat * 7) Cell.dead) then (bif decide (0 ≤ y40_0) && decide (y40_0 < 7) then (bif decide (y40_0.toNat * 1 + y28_0.toNat * 7 + 3 ≤ y40_1.length + 2) && okK (some IntKind.i64) (y40_1.getD (y40_0.toNat * 1 + y28_0.toNat * 7) Cell.dead) then (bif decide (y37_0.toNat * 1 + y40_0.toNat * 7 + 3 ≤ y40_1.length + 2) && okK (some IntKind.i64) (y40_1.getD (y37_0.toNat * 1 + y40_0.toNat * 7) Cell.dead) then (bif decide (y37_0.toNat * 1 + y28_0.toNat * 7 + 3 ≤ y40_1.length + 2) then (((X88_0 y28_0 y37_0 y40_0 y40_1).all plainC && true && true) = true ∧ k40 ((IntKind.i64.wrap (y40_0 + 1)), (X88_0 y28_0 y37_0 y40_0 y40_1))) else False) else False) else False) else False) else False) else False) else False) else ((y40_1.all plainC && true && true) = true ∧ k37 ((IntKind.i64.wrap (y37_0 + 1)), (y40_1)))) z.1 z.2) z40) ((0), (y37_1))) else ((y37_1.all plainC && true && true) = true ∧ k28 ((IntKind.i64.wrap (y28_0 + 1)), (y37_1)))) z.1 z.2) z37) ((0), (y28_1))) else ((y28_1.all plainC && true && true) = true ∧ k1 ((IntKind.i64.wrap (y1_0 + 1)), (y28_1)))) z.1 z.2) z28) ((0), (y1_1))) else ((y1_1.all plainC && true && true) = true ∧ LoopP (fun (z41 : (Int)) (k41 : (Int) → Prop) => (fun (z : Int) => (fun (y41_0 : Int) => bif decide (y41_0 ≤ a0_0) then (bif decide (0 ≤ y41_0) && decide (y41_0 < 7) then (bif decide (y41_0.toNat * 1 + y41_0.toNat * 7 + 3 ≤ y1_1.length + 2) && okK (some IntKind.i64) (y1_1.getD (y41_0.toNat * 1 + y41_0.toNat * 7) Cell.dead) then (bif decide (intC (y1_1.getD (y41_0.toNat * 1 + y41_0.toNat * 7) Cell.dead) < 0) then (R (Ret.mk (.agg ((.v (.int .i64 (a0_0))) :: (.v (.bool .true)) :: (List.replicate (49) (Cell.v (Value.int IntKind.i64 0))))) [])) else ((y1_1.all plainC && true && true) = true ∧ k41 (IntKind.i64.wrap (y41_0 + 1)))) else False) else False) else (bif y1_1.length + 2 == 51 then (bif y1_1.length + 2 == 51 && true && true then (bif y1_1.length + 2 == 51 && true then (bif y1_1.all plainC then (R (Ret.mk (.agg ((.v (.int .i64 (a0_0))) :: (.v (.bool (a0_1))) :: (y1_1))) [])) else False) else False) else False) else False)) z) z41) (0))) z.1 z.2) z1) ((0), (y0_1)))) z.1 z.2) z0) ((1), (a0_2)))

set_option maxRecDepth 100000 in
theorem f88_sound (a0_0 : Int) (a0_1 : Bool) (a0_2 : List Cell) (hC : CtxOk Try.prog cx88.q.ctx) {r : Ret} (h : f88_wp a0_0 a0_1 a0_2 (fun r' => r' = r)) : SoundAt Try.prog 88 [(.agg ((.v (.int .i64 a0_0)) :: (.v (.bool a0_1)) :: a0_2))] r := by
  refine soundAtO (C := cx88) (oc := (.two .e .e)) mixed hC F88_ok ?_
  rewrite [E88 a0_0 a0_1 a0_2]
  unfold f88_wp at h
  refine cond_mapE h (fun q1 h => ?_) (fun q1 h => ?_)
  · skip
    exact h
  · skip
    obtain ⟨q687, h⟩ := h
    refine loop_of (I := (fun (z : Int × (List Cell)) => (I88_0_0 a0_0 a0_1 a0_2 z.1 z.2))) (fun z k0 h => ?_) h q687 rfl
    obtain ⟨y0_0, y0_1⟩ := z
    try dsimp only [sumE_l, sumE_r] at h
    refine bodyX_i (ob := (.two .e .e)) ?_
    rewrite [E88_0_0 a0_0 a0_1 a0_2 y0_0 y0_1]
    refine cond_mapE h (fun q13 h => ?_) (fun q13 h => ?_)
    · skip
      refine ck_mapE h (fun q14 h => ?_)
      refine ck_mapE h (fun q15 h => ?_)
      refine ck_i q14 ?_
      refine ck_mapE h (fun q16 h => ?_)
      refine ck_i q14 ?_
      refine ck_mapE h (fun q17 h => ?_)
      refine ck_i q14 ?_
      refine ck_mapE h (fun q18 h => ?_)
      obtain ⟨q19, h⟩ := h
      exact again_i (y := ((IntKind.i64.wrap (y0_0 + 1)), (X88_2 y0_0 y0_1))) q19 h
    · skip
      obtain ⟨q686, h⟩ := h
      refine loop_of (I := (fun (z : Int × (List Cell)) => (I88_1_0 a0_0 a0_1 a0_2 y0_0 y0_1 z.1 z.2))) (fun z k1 h => ?_) h q686 rfl
      obtain ⟨y1_0, y1_1⟩ := z
      try dsimp only [sumE_l, sumE_r] at h
      refine bodyX_i (ob := (.two .e .e)) ?_
      rewrite [E88_1_0 a0_0 a0_1 a0_2 y0_0 y0_1 y1_0 y1_1]
      refine cond_mapE h (fun q452 h => ?_) (fun q452 h => ?_)
      · skip
        obtain ⟨q668, h⟩ := h
        refine loop_of (I := (fun (z : Int × (List Cell)) => (I88_28_0 a0_0 a0_1 a0_2 y0_0 y0_1 y1_0 y1_1 z.1 z.2))) (fun z k28 h => ?_) h q668 rfl
        obtain ⟨y28_0, y28_1⟩ := z
        try dsimp only [sumE_l, sumE_r] at h
        refine bodyX_i (ob := (.two .e .e)) ?_
        rewrite [E88_28_0 a0_0 a0_1 a0_2 y0_0 y0_1 y1_0 y1_1 y28_0 y28_1]
        refine cond_mapE h (fun q590 h => ?_) (fun q590 h => ?_)
        · skip
          obtain ⟨q666, h⟩ := h
          refine loop_of (I := (fun (z : Int × (List Cell)) => (I88_37_0 a0_0 a0_1 a0_2 y0_0 y0_1 y1_0 y1_1 y28_0 y28_1 z.1 z.2))) (fun z k37 h => ?_) h q666 rfl
          obtain ⟨y37_0, y37_1⟩ := z
          try dsimp only [sumE_l, sumE_r] at h
          refine bodyX_i (ob := (.two .e .e)) ?_
          rewrite [E88_37_0 a0_0 a0_1 a0_2 y0_0 y0_1 y1_0 y1_1 y28_0 y28_1 y37_0 y37_1]
          refine cond_mapE h (fun q638 h => ?_) (fun q638 h => ?_)
          · skip
            obtain ⟨q664, h⟩ := h
            refine loop_of (I := (fun (z : Int × (List Cell)) => (I88_40_0 a0_0 a0_1 a0_2 y0_0 y0_1 y1_0 y1_1 y28_0 y28_1 y37_0 y37_1 z.1 z.2))) (fun z k40 h => ?_) h q664 rfl
            obtain ⟨y40_0, y40_1⟩ := z
            try dsimp only [sumE_l, sumE_r] at h
            refine bodyX_i (ob := (.two .e .e)) ?_
            rewrite [E88_40_0 a0_0 a0_1 a0_2 y0_0 y0_1 y1_0 y1_1 y28_0 y28_1 y37_0 y37_1 y40_0 y40_1]
            refine cond_mapE h (fun q654 h => ?_) (fun q654 h => ?_)
            · skip
              refine ck_mapE h (fun q655 h => ?_)
              refine ck_mapE h (fun q656 h => ?_)
              refine ck_mapE h (fun q657 h => ?_)
              refine ck_i q655 ?_
              refine ck_mapE h (fun q658 h => ?_)
              refine ck_mapE h (fun q659 h => ?_)
              refine ck_i q658 ?_
              refine ck_i q656 ?_
              refine ck_mapE h (fun q660 h => ?_)
              refine ck_i q655 ?_
              refine ck_i q656 ?_
              refine ck_mapE h (fun q661 h => ?_)
              obtain ⟨q662, h⟩ := h
              exact again_i (y := ((IntKind.i64.wrap (y40_0 + 1)), (X88_0 y28_0 y37_0 y40_0 y40_1))) q662 h
            · skip
              obtain ⟨q663, h⟩ := h
              exact again_i (y := ((IntKind.i64.wrap (y37_0 + 1)), (y40_1))) q663 h
          · skip
            obtain ⟨q665, h⟩ := h
            exact again_i (y := ((IntKind.i64.wrap (y28_0 + 1)), (y37_1))) q665 h
        · skip
          obtain ⟨q667, h⟩ := h
          exact again_i (y := ((IntKind.i64.wrap (y1_0 + 1)), (y28_1))) q667 h
      · skip
        obtain ⟨q685, h⟩ := h
        refine loop_of (I := (fun (z : Int) => (I88_41_0 a0_0 a0_1 a0_2 y0_0 y0_1 y1_0 y1_1 z))) (fun z k41 h => ?_) h q685 rfl
        obtain ⟨y41_0, rfl⟩ : ∃ y, y = z := ⟨z, rfl⟩
        try dsimp only [sumE_l, sumE_r] at h
        refine bodyX_i (ob := (.two (.two .e .e) .e)) ?_
        rewrite [E88_41_0 a0_0 a0_1 a0_2 y0_0 y0_1 y1_0 y1_1 y41_0]
        refine cond_mapE h (fun q676 h => ?_) (fun q676 h => ?_)
        · skip
          refine ck_mapE h (fun q677 h => ?_)
          refine ck_i q677 ?_
          refine ck_mapE h (fun q678 h => ?_)
          refine cond_mapE h (fun q679 h => ?_) (fun q679 h => ?_)
          · skip
            exact h
          · skip
            obtain ⟨q680, h⟩ := h
            exact again_i (y := (IntKind.i64.wrap (y41_0 + 1))) q680 h
        · skip
          refine ck_mapE h (fun q681 h => ?_)
          refine ck_mapE h (fun q682 h => ?_)
          refine ck_mapE h (fun q684 h => ?_)
          refine ck_mapE h (fun q683 h => ?_)
          exact h


def cx31 : CtxW := ⟨⟨[(88, sum88)], []⟩, 2, []⟩


def F31_b1 : SC := (.seq (.seq (.reg [(.mk (.some (16)) (.mv (.t (5))) .none), (.mk (.some (17)) (.mv (.t (0))) .none), (.mk (.some (18)) (.bin .leq (.t (16)) (.t (17))) .none)]) (.cond (.t (18)) .skip (.exit (2)))) (.seq (.blk 3 (.seq (.reg [(.mk (.some (21)) (.mv (.t (4))) .none), (.mk (.some (22)) (.mv (.t (5))) .none), (.mk (.some (23)) (.bin .neq (.t (21)) (.t (22))) .none)]) (.cond (.t (23)) (.reg [(.mk (.some (24)) (.mv (.t (4))) .none), (.mk (.some (25)) (.mv (.t (5))) .none), (.mk (.some (26)) (.fld (2) (.t (3))) .none), (.mk (.some (27)) (.ixA (7) (7) (.t (26)) (.t (24))) .none), (.mk (.some (28)) (.ixA (7) (1) (.t (27)) (.t (25))) .none), (.mk .none (.store .false (1) (.t (28)) (.c (.int .i64 (1099511627776)))) .none)]) .skip))) (.reg [(.mk (.some (19)) (.mv (.t (5))) .none), (.mk (.some (20)) (.bin .add (.t (19)) (.c (.int .i64 (1)))) .none), (.mk (.some (5)) (.mv (.t (20))) .none)])))

def F31_c2 : SC := (.reg [(.mk (.some (14)) (.mv (.t (4))) .none), (.mk (.some (15)) (.bin .add (.t (14)) (.c (.int .i64 (1)))) .none), (.mk (.some (4)) (.mv (.t (15))) .none)])

def F31_b0 : SC := (.seq (.seq (.reg [(.mk (.some (11)) (.mv (.t (4))) .none), (.mk (.some (12)) (.mv (.t (0))) .none), (.mk (.some (13)) (.bin .leq (.t (11)) (.t (12))) .none)]) (.cond (.t (13)) .skip (.exit (0)))) (.seq (.blk 1 (.seq (.reg [(.mk (.some (5)) (.mv (.c (.int .i64 (0)))) .none)]) (.blk 2 (.loop [0, 2, 3, 4, 5] [2, 3] [] F31_b1)))) F31_c2))

def F31_c3 : SC := (.seq (.reg [(.mk (.some (29)) (.load .false .true (51) [(.some .i64), .none, (.some .i64), (.some .i64), (.some .i64), (.some .i64), (.some .i64), (.some .i64), (.some .i64), (.some .i64), (.some .i64), (.some .i64), (.some .i64), (.some .i64), (.some .i64), (.some .i64), (.some .i64), (.some .i64), (.some .i64), (.some .i64), (.some .i64), (.some .i64), (.some .i64), (.some .i64), (.some .i64), (.some .i64), (.some .i64), (.some .i64), (.some .i64), (.some .i64), (.some .i64), (.some .i64), (.some .i64), (.some .i64), (.some .i64), (.some .i64), (.some .i64), (.some .i64), (.some .i64), (.some .i64), (.some .i64), (.some .i64), (.some .i64), (.some .i64), (.some .i64), (.some .i64), (.some .i64), (.some .i64), (.some .i64), (.some .i64), (.some .i64)] (.t (3))) .none), (.mk (.some (30)) (.call .false .false (.f (88)) [(.t (29))]) .none), (.mk .none (.store .false (51) (.t (2)) (.t (30))) .none)]) .ret)

def F31 : SFn := ⟨31, [(.cell (2) .true (51))], (.seq (.reg [(.mk (.some (2)) (.alloc [(.int .i64 (0)), (.bool .false), (.int .i64 (0)), (.int .i64 (0)), (.int .i64 (0)), (.int .i64 (0)), (.int .i64 (0)), (.int .i64 (0)), (.int .i64 (0)), (.int .i64 (0)), (.int .i64 (0)), (.int .i64 (0)), (.int .i64 (0)), (.int .i64 (0)), (.int .i64 (0)), (.int .i64 (0)), (.int .i64 (0)), (.int .i64 (0)), (.int .i64 (0)), (.int .i64 (0)), (.int .i64 (0)), (.int .i64 (0)), (.int .i64 (0)), (.int .i64 (0)), (.int .i64 (0)), (.int .i64 (0)), (.int .i64 (0)), (.int .i64 (0)), (.int .i64 (0)), (.int .i64 (0)), (.int .i64 (0)), (.int .i64 (0)), (.int .i64 (0)), (.int .i64 (0)), (.int .i64 (0)), (.int .i64 (0)), (.int .i64 (0)), (.int .i64 (0)), (.int .i64 (0)), (.int .i64 (0)), (.int .i64 (0)), (.int .i64 (0)), (.int .i64 (0)), (.int .i64 (0)), (.int .i64 (0)), (.int .i64 (0)), (.int .i64 (0)), (.int .i64 (0)), (.int .i64 (0)), (.int .i64 (0)), (.int .i64 (0))]) .none)]) (.seq (.reg [(.mk (.some (6)) (.mv (.t (0))) .none), (.mk (.some (7)) (.mm .true [(.t (6)), (.c (.int .i64 (0)))]) .none), (.mk (.some (8)) (.mm .false [(.t (7)), (.c (.int .i64 (6)))]) .none), (.mk (.some (0)) (.mv (.t (8))) .none)]) (.seq (.reg [(.mk (.some (9)) (.mv (.t (0))) .none), (.mk (.some (10)) (.build [(.int .i64 (0)), (.bool .false), (.int .i64 (0)), (.int .i64 (0)), (.int .i64 (0)), (.int .i64 (0)), (.int .i64 (0)), (.int .i64 (0)), (.int .i64 (0)), (.int .i64 (0)), (.int .i64 (0)), (.int .i64 (0)), (.int .i64 (0)), (.int .i64 (0)), (.int .i64 (0)), (.int .i64 (0)), (.int .i64 (0)), (.int .i64 (0)), (.int .i64 (0)), (.int .i64 (0)), (.int .i64 (0)), (.int .i64 (0)), (.int .i64 (0)), (.int .i64 (0)), (.int .i64 (0)), (.int .i64 (0)), (.int .i64 (0)), (.int .i64 (0)), (.int .i64 (0)), (.int .i64 (0)), (.int .i64 (0)), (.int .i64 (0)), (.int .i64 (0)), (.int .i64 (0)), (.int .i64 (0)), (.int .i64 (0)), (.int .i64 (0)), (.int .i64 (0)), (.int .i64 (0)), (.int .i64 (0)), (.int .i64 (0)), (.int .i64 (0)), (.int .i64 (0)), (.int .i64 (0)), (.int .i64 (0)), (.int .i64 (0)), (.int .i64 (0)), (.int .i64 (0)), (.int .i64 (0)), (.int .i64 (0)), (.int .i64 (0))] [((0), ((1), (.t (9))))]) .none), (.mk (.some (3)) (.alloc [(.int .i64 (0)), (.bool .false), (.int .i64 (0)), (.int .i64 (0)), (.int .i64 (0)), (.int .i64 (0)), (.int .i64 (0)), (.int .i64 (0)), (.int .i64 (0)), (.int .i64 (0)), (.int .i64 (0)), (.int .i64 (0)), (.int .i64 (0)), (.int .i64 (0)), (.int .i64 (0)), (.int .i64 (0)), (.int .i64 (0)), (.int .i64 (0)), (.int .i64 (0)), (.int .i64 (0)), (.int .i64 (0)), (.int .i64 (0)), (.int .i64 (0)), (.int .i64 (0)), (.int .i64 (0)), (.int .i64 (0)), (.int .i64 (0)), (.int .i64 (0)), (.int .i64 (0)), (.int .i64 (0)), (.int .i64 (0)), (.int .i64 (0)), (.int .i64 (0)), (.int .i64 (0)), (.int .i64 (0)), (.int .i64 (0)), (.int .i64 (0)), (.int .i64 (0)), (.int .i64 (0)), (.int .i64 (0)), (.int .i64 (0)), (.int .i64 (0)), (.int .i64 (0)), (.int .i64 (0)), (.int .i64 (0)), (.int .i64 (0)), (.int .i64 (0)), (.int .i64 (0)), (.int .i64 (0)), (.int .i64 (0)), (.int .i64 (0))]) .none), (.mk .none (.store .false (51) (.t (3)) (.t (10))) .none)]) (.seq (.seq (.reg [(.mk (.some (4)) (.mv (.c (.int .i64 (0)))) .none)]) (.blk 0 (.loop [0, 2, 3, 4] [2, 3] [] F31_b0))) F31_c3))))⟩

theorem F31_ok : sfn Try.prog hints 31 [([0, 2, 3, 4], ([2, 3], [])), ([0, 2, 3, 4, 5], ([2, 3], []))] = some F31 := by kernel_rfl

abbrev X31_0 (a0 : Int) (y0_1 : List Cell) := (closeR (if 6 < if 0 > a0 then 0 else a0 then 6 else if 0 > a0 then 0 else a0, false, List.map intC y0_1))

def I31_0_0 (a0 : Int) (y0_0 : Int) (y0_1 : List Cell) : St := (.mk [(.one (.v (.int .i64 (if 6 < if 0 > a0 then 0 else a0 then 6 else if 0 > a0 then 0 else a0)))), .no, (.box (2) (0) (0)), (.box (3) (0) (0)), (.one (.v (.int .i64 (y0_0)))), .no, .no, .no, .no, .no, .no, .no, .no, .no, .no, .no, .no, .no, .no, .no, .no, .no, .no, .no, .no, .no, .no, .no, .no, .no, .no] [[], [], [((.v (.int .i64 (0))) :: (.v (.bool .false)) :: (List.replicate (49) (Cell.v (Value.int IntKind.i64 0))))], [((.v (.int .i64 (if 6 < if 0 > a0 then 0 else a0 then 6 else if 0 > a0 then 0 else a0))) :: (.v (.bool .false)) :: (y0_1))], [], [], [], [], [], [], [], [], [], [], [], [], [], [], [], [], [], [], [], [], [], [], [], [], [], [], []] [[], [], [], [], [], [], [], [], [], [], [], [], [], [], [], [], [], [], [], [], [], [], [], [], [], [], [], [], [], [], []])

def I31_3_0 (a0 : Int) (y0_0 : Int) (y0_1 : List Cell) (y3_0 : Int) (y3_1 : List Cell) : St := (.mk [(.one (.v (.int .i64 (if 6 < if 0 > a0 then 0 else a0 then 6 else if 0 > a0 then 0 else a0)))), .no, (.box (2) (0) (0)), (.box (3) (0) (0)), (.one (.v (.int .i64 (y0_0)))), (.one (.v (.int .i64 (y3_0)))), .no, .no, .no, .no, .no, .no, .no, .no, .no, .no, .no, .no, .no, .no, .no, .no, .no, .no, .no, .no, .no, .no, .no, .no, .no] [[], [], [((.v (.int .i64 (0))) :: (.v (.bool .false)) :: (List.replicate (49) (Cell.v (Value.int IntKind.i64 0))))], [((.v (.int .i64 (if 6 < if 0 > a0 then 0 else a0 then 6 else if 0 > a0 then 0 else a0))) :: (.v (.bool .false)) :: (y3_1))], [], [], [], [], [], [], [], [], [], [], [], [], [], [], [], [], [], [], [], [], [], [], [], [], [], [], []] [[], [], [], [], [], [], [], [], [], [], [], [], [], [], [], [], [], [], [], [], [], [], [], [], [], [], [], [], [], [], []])

theorem E31_0_0 (a0 : Int) (y0_0 : Int) (y0_1 : List Cell) (N0 : Bool × St → Prop) (R : Ret → Prop) : wpO cx31 F31_b0 (.two .e .e) (I31_0_0 a0 y0_0 y0_1) (kLp (headW cx31.m [0, 2, 3, 4] [2, 3] []) N0 (kBlk 0 (kSeq cx31 F31_c3 (endO cx31.m F31.rs R)))) = (bif decide (y0_0 ≤ if 6 < if 0 > a0 then 0 else a0 then 6 else if 0 > a0 then 0 else a0) then (LoopO (bodyX cx31 F31_b1) (headW cx31.m [0, 2, 3, 4, 5] [2, 3] []) (kBlk 2 (kBlk 1 (kSeq cx31 F31_c2 (kLp (headW cx31.m [0, 2, 3, 4] [2, 3] []) N0 (kBlk 0 (kSeq cx31 F31_c3 (endO cx31.m F31.rs R))))))) (y0_1.all plainC && true && true, (I31_3_0 a0 y0_0 y0_1 (0) (y0_1)))) else (bif y0_1.length + 2 == 51 then (bif y0_1.all plainC && true && (y0_1.all (isInt IntKind.i64) && y0_1.length == 49 && okN (if 6 < if 0 > a0 then 0 else a0 then 6 else if 0 > a0 then 0 else a0)) && (ic IntKind.i64 (X31_0 a0 y0_1).snd.snd).all (okC 0) && true && true && true && true then (bif (ic IntKind.i64 (X31_0 a0 y0_1).snd.snd).length + 2 == 51 && true && true then (bif (ic IntKind.i64 (X31_0 a0 y0_1).snd.snd).length + 2 == 51 && true then (bif (ic IntKind.i64 (X31_0 a0 y0_1).snd.snd).all plainC then (R (Ret.mk (.agg ((.v (.int .i64 ((X31_0 a0 y0_1).fst))) :: (.v (.bool ((X31_0 a0 y0_1).snd.fst))) :: (ic IntKind.i64 (X31_0 a0 y0_1).snd.snd))) [])) else False) else False) else False) else False) else False)) := by kernel_rfl

theorem E31_3_0 (a0 : Int) (y0_0 : Int) (y0_1 : List Cell) (y3_0 : Int) (y3_1 : List Cell) (N0 : Bool × St → Prop) (N3 : Bool × St → Prop) (R : Ret → Prop) : wpO cx31 F31_b1 (.two (.two .e .e) .e) (I31_3_0 a0 y0_0 y0_1 y3_0 y3_1) (kLp (headW cx31.m [0, 2, 3, 4, 5] [2, 3] []) N3 (kBlk 2 (kBlk 1 (kSeq cx31 F31_c2 (kLp (headW cx31.m [0, 2, 3, 4] [2, 3] []) N0 (kBlk 0 (kSeq cx31 F31_c3 (endO cx31.m F31.rs R)))))))) = (bif decide (y3_0 ≤ if 6 < if 0 > a0 then 0 else a0 then 6 else if 0 > a0 then 0 else a0) then (bif y0_0 != y3_0 then (bif decide (0 ≤ y0_0) && decide (y0_0 < 7) then (bif decide (0 ≤ y3_0) && decide (y3_0 < 7) then (bif decide (y3_0.toNat * 1 + y0_0.toNat * 7 + 3 ≤ y3_1.length + 2) then (N3 ((y3_1.set (y3_0.toNat * 1 + y0_0.toNat * 7) (Cell.v (Value.int IntKind.i64 1099511627776))).all plainC && true && true, (I31_3_0 a0 y0_0 y0_1 (IntKind.i64.wrap (y3_0 + 1)) (y3_1.set (y3_0.toNat * 1 + y0_0.toNat * 7) (Cell.v (Value.int IntKind.i64 1099511627776)))))) else False) else False) else False) else (N3 (y3_1.all plainC && true && true, (I31_3_0 a0 y0_0 y0_1 (IntKind.i64.wrap (y3_0 + 1)) (y3_1))))) else (N0 (y3_1.all plainC && true && true, (I31_0_0 a0 (IntKind.i64.wrap (y0_0 + 1)) (y3_1))))) := by kernel_rfl

theorem E31 (a0 : Int) (R : Ret → Prop) : wpFO cx31 F31 .e [(.one (.v (.int .i64 a0)))] R = (LoopO (bodyX cx31 F31_b0) (headW cx31.m [0, 2, 3, 4] [2, 3] []) (kBlk 0 (kSeq cx31 F31_c3 (endO cx31.m F31.rs R))) (true, (I31_0_0 a0 (0) (List.replicate (49) (Cell.v (Value.int IntKind.i64 0)))))) := by kernel_rfl

def f31_wp (a0 : Int) (R : Ret → Prop) : Prop := LoopP (fun (z0 : (Int × (List Cell))) (k0 : (Int × (List Cell)) → Prop) => (fun (z : Int × (List Cell)) => (fun (y0_0 : Int) (y0_1 : List Cell) => bif decide (y0_0 ≤ if 6 < if 0 > a0 then 0 else a0 then 6 else if 0 > a0 then 0 else a0) then ((y0_1.all plainC && true && true) = true ∧ LoopP (fun (z3 : (Int × (List Cell))) (k3 : (Int × (List Cell)) → Prop) => (fun (z : Int × (List Cell)) => (fun (y3_0 : Int) (y3_1 : List Cell) => bif decide (y3_0 ≤ if 6 < if 0 > a0 then 0 else a0 then 6 else if 0 > a0 then 0 else a0) then (bif y0_0 != y3_0 then (bif decide (0 ≤ y0_0) && decide (y0_0 < 7) then (bif decide (0 ≤ y3_0) && decide (y3_0 < 7) then (bif decide (y3_0.toNat * 1 + y0_0.toNat * 7 + 3 ≤ y3_1.length + 2) then (((y3_1.set (y3_0.toNat * 1 + y0_0.toNat * 7) (Cell.v (Value.int IntKind.i64 1099511627776))).all plainC && true && true) = true ∧ k3 ((IntKind.i64.wrap (y3_0 + 1)), (y3_1.set (y3_0.toNat * 1 + y0_0.toNat * 7) (Cell.v (Value.int IntKind.i64 1099511627776))))) else False) else False) else False) else ((y3_1.all plainC && true && true) = true ∧ k3 ((IntKind.i64.wrap (y3_0 + 1)), (y3_1)))) else ((y3_1.all plainC && true && true) = true ∧ k0 ((IntKind.i64.wrap (y0_0 + 1)), (y3_1)))) z.1 z.2) z3) ((0), (y0_1))) else (bif y0_1.length + 2 == 51 then (bif y0_1.all plainC && true && (y0_1.all (isInt IntKind.i64) && y0_1.length == 49 && okN (if 6 < if 0 > a0 then 0 else a0 then 6 else if 0 > a0 then 0 else a0)) && (ic IntKind.i64 (X31_0 a0 y0_1).snd.snd).all (okC 0) && true && true && true && true then (bif (ic IntKind.i64 (X31_0 a0 y0_1).snd.snd).length + 2 == 51 && true && true then (bif (ic IntKind.i64 (X31_0 a0 y0_1).snd.snd).length + 2 == 51 && true then (bif (ic IntKind.i64 (X31_0 a0 y0_1).snd.snd).all plainC then (R (Ret.mk (.agg ((.v (.int .i64 ((X31_0 a0 y0_1).fst))) :: (.v (.bool ((X31_0 a0 y0_1).snd.fst))) :: (ic IntKind.i64 (X31_0 a0 y0_1).snd.snd))) [])) else False) else False) else False) else False) else False)) z.1 z.2) z0) ((0), (List.replicate (49) (Cell.v (Value.int IntKind.i64 0))))

set_option maxRecDepth 100000 in
theorem f31_sound (a0 : Int) (hC : CtxOk Try.prog cx31.q.ctx) {r : Ret} (h : f31_wp a0 (fun r' => r' = r)) : SoundAt Try.prog 31 [(.one (.v (.int .i64 a0)))] r := by
  refine soundAtO (C := cx31) (oc := .e) mixed hC F31_ok ?_
  rewrite [E31 a0]
  unfold f31_wp at h
  refine loop_of (I := (fun (z : Int × (List Cell)) => (I31_0_0 a0 z.1 z.2))) (fun z k0 h => ?_) h rfl rfl
  obtain ⟨y0_0, y0_1⟩ := z
  try dsimp only [sumE_l, sumE_r] at h
  refine bodyX_i (ob := (.two .e .e)) ?_
  rewrite [E31_0_0 a0 y0_0 y0_1]
  refine cond_mapE h (fun q34 h => ?_) (fun q34 h => ?_)
  · skip
    obtain ⟨q52, h⟩ := h
    refine loop_of (I := (fun (z : Int × (List Cell)) => (I31_3_0 a0 y0_0 y0_1 z.1 z.2))) (fun z k3 h => ?_) h q52 rfl
    obtain ⟨y3_0, y3_1⟩ := z
    try dsimp only [sumE_l, sumE_r] at h
    refine bodyX_i (ob := (.two (.two .e .e) .e)) ?_
    rewrite [E31_3_0 a0 y0_0 y0_1 y3_0 y3_1]
    refine cond_mapE h (fun q44 h => ?_) (fun q44 h => ?_)
    · skip
      refine cond_mapE h (fun q45 h => ?_) (fun q45 h => ?_)
      · skip
        refine ck_mapE h (fun q46 h => ?_)
        refine ck_mapE h (fun q47 h => ?_)
        refine ck_mapE h (fun q48 h => ?_)
        obtain ⟨q49, h⟩ := h
        exact again_i (y := ((IntKind.i64.wrap (y3_0 + 1)), (y3_1.set (y3_0.toNat * 1 + y0_0.toNat * 7) (Cell.v (Value.int IntKind.i64 1099511627776))))) q49 h
      · skip
        obtain ⟨q50, h⟩ := h
        exact again_i (y := ((IntKind.i64.wrap (y3_0 + 1)), (y3_1))) q50 h
    · skip
      obtain ⟨q51, h⟩ := h
      exact again_i (y := ((IntKind.i64.wrap (y0_0 + 1)), (y3_1))) q51 h
  · skip
    refine ck_mapE h (fun q53 h => ?_)
    refine ck_mapE h (fun q54 h => ?_)
    refine ck_mapE h (fun q55 h => ?_)
    refine ck_mapE h (fun q57 h => ?_)
    refine ck_mapE h (fun q56 h => ?_)
    exact h


end Go.Proofs.Ytgmciihlmgeecaa.Fn
