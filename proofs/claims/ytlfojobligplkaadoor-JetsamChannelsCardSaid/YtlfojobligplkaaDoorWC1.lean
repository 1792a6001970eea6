import Derived.Test.YtlfojobligplkaaDoorFnBase

import Derived.Test.YtlfojobligplkaaDoorMtO2

import Derived.Test.YtlfojobligplkaaDoorSpC

/- Functions of Itvs, walked. No conditions beyond those named. -/

namespace Go.Proofs.YtlfojobligplkaaDoor.Fn

open Go Go.RowKit Go.Proofs Go.Proofs.YtlfojobligplkaaDoor.Mt 

set_option linter.unusedVariables false

set_option linter.unusedSimpArgs false

def cx16 : CtxW := ⟨⟨[], []⟩, 2, []⟩


def F16 : SFn := ⟨8, [(.tmp 2)], (.seq (.reg [(o1 1 (.box (.t 0))), (o1 2 (.mv (.c (.bool .false))))]) (.seq (.reg [(o1 3 (.fld 0 (.t 1))), (o1 4 (.load .false .false 1 [(.some .i64)] (.t 3))), (o1 5 (.fld 1 (.t 1))), (o1 6 (.load .false .false 1 [(.some .i64)] (.t 5))), (o1 7 (.bin .gtr (.t 4) (.t 6))), (o1 2 (.mv (.t 7)))]) .ret))⟩

theorem F16_ok : sfn Tryd.prog hints 16 [] = some F16 := by kernel_rfl

theorem E16 (a0_0 : Int) (a0_1 : Int) (R : Ret → Prop) : wpFO cx16 F16 .e [(.agg [(.v (.int .i64 a0_0)), (.v (.int .i64 a0_1))])] R = (R (Ret.mk (.one (.v (.bool (decide (a0_0 > a0_1))))) [])) := by kernel_rfl

def f16_wp (a0_0 : Int) (a0_1 : Int) (R : Ret → Prop) : Prop := R (Ret.mk (.one (.v (.bool (decide (a0_0 > a0_1))))) [])

set_option maxRecDepth 100000 in
theorem f16_sound (a0_0 : Int) (a0_1 : Int) (hC : CtxOk Tryd.prog cx16.q.ctx) {r : Ret} (h : f16_wp a0_0 a0_1 (fun r' => r' = r)) : SoundAt Tryd.prog 16 [(.agg [(.v (.int .i64 a0_0)), (.v (.int .i64 a0_1))])] r := by
  refine soundAtO (C := cx16) (oc := .e) mixed hC F16_ok ?_
  rewrite [E16 a0_0 a0_1]
  unfold f16_wp at h
  exact h


def cx14 : CtxW := ⟨⟨[], []⟩, 2, []⟩


def F14 : SFn := ⟨2, [(.cell 0 .true 2)], (.seq (.reg [(o1 0 (.alloc [(.int .i64 0), (.int .i64 0)]))]) (.seq (.reg [(o1 1 (.build [(.int .i64 0), (.int .i64 0)] [(0, (1, (.c (.int .i64 1)))), (1, (1, (.c (.int .i64 0))))])), (oN (.store .false 2 (.t 0) (.t 1)))]) .ret))⟩

theorem F14_ok : sfn Tryd.prog hints 14 [] = some F14 := by kernel_rfl

theorem E14  (R : Ret → Prop) : wpFO cx14 F14 .e [] R = (R (Ret.mk (.agg [(.v (.int .i64 1)), (.v (.int .i64 0))]) [])) := by kernel_rfl

def f14_wp  (R : Ret → Prop) : Prop := R (Ret.mk (.agg [(.v (.int .i64 1)), (.v (.int .i64 0))]) [])

set_option maxRecDepth 100000 in
theorem f14_sound  (hC : CtxOk Tryd.prog cx14.q.ctx) {r : Ret} (h : f14_wp  (fun r' => r' = r)) : SoundAt Tryd.prog 14 [] r := by
  refine soundAtO (C := cx14) (oc := .e) mixed hC F14_ok ?_
  rewrite [E14 ]
  unfold f14_wp at h
  exact h


def cx24 : CtxW := ⟨⟨[(16, sum16), (14, sum14)], []⟩, 2, []⟩


def F24 : SFn := ⟨7, [(.cell 2 .true 2)], (.seq (.reg [(o1 1 (.box (.t 0))), (o1 2 (.alloc [(.int .i64 0), (.int .i64 0)]))]) (.seq (.seq (.reg [(o1 3 (.load .false .true 2 [(.some .i64), (.some .i64)] (.t 1))), (o1 4 (.call .false .false (.f 16) [(.t 3)]))]) (.cond (.t 4) (.seq (.reg [(o1 5 (.call .false .false (.f 14) [])), (oN (.store .false 2 (.t 2) (.t 5)))]) .ret) .skip)) (.seq (.reg [(o1 6 (.load .false .true 2 [(.some .i64), (.some .i64)] (.t 1))), (oN (.store .false 2 (.t 2) (.t 6)))]) .ret)))⟩

theorem F24_ok : sfn Tryd.prog hints 24 [] = some F24 := by kernel_rfl

theorem E24 (a0_0 : Int) (a0_1 : Int) (R : Ret → Prop) : wpFO cx24 F24 (.two .e .e) [(.agg [(.v (.int .i64 a0_0)), (.v (.int .i64 a0_1))])] R = (bif decide (a0_0 > a0_1) then (R (Ret.mk (.agg [(.v (.int .i64 1)), (.v (.int .i64 0))]) [])) else (R (Ret.mk (.agg [(.v (.int .i64 (a0_0))), (.v (.int .i64 (a0_1)))]) []))) := by kernel_rfl

def f24_wp (a0_0 : Int) (a0_1 : Int) (R : Ret → Prop) : Prop := bif decide (a0_0 > a0_1) then (R (Ret.mk (.agg [(.v (.int .i64 1)), (.v (.int .i64 0))]) [])) else (R (Ret.mk (.agg [(.v (.int .i64 (a0_0))), (.v (.int .i64 (a0_1)))]) []))

set_option maxRecDepth 100000 in
theorem f24_sound (a0_0 : Int) (a0_1 : Int) (hC : CtxOk Tryd.prog cx24.q.ctx) {r : Ret} (h : f24_wp a0_0 a0_1 (fun r' => r' = r)) : SoundAt Tryd.prog 24 [(.agg [(.v (.int .i64 a0_0)), (.v (.int .i64 a0_1))])] r := by
  refine soundAtO (C := cx24) (oc := (.two .e .e)) mixed hC F24_ok ?_
  rewrite [E24 a0_0 a0_1]
  unfold f24_wp at h
  refine cond_mapE h (fun q1 h => ?_) (fun q1 h => ?_)
  · skip
    exact h
  · skip
    exact h


def cx18 : CtxW := ⟨⟨[(24, sum24)], []⟩, 2, []⟩


def F18 : SFn := ⟨11, [(.cell 4 .true 2)], (.seq (.reg [(o1 4 (.alloc [(.int .i64 0), (.int .i64 0)]))]) (.seq (.reg [(o1 5 (.mv (.t 0))), (o1 6 (.mm .true [(.t 5), (.c (.int .i64 (-2147483648)))])), (o1 7 (.mv (.t 1))), (o1 8 (.mm .false [(.t 7), (.c (.int .i64 2147483647))])), (o1 9 (.build [(.int .i64 0), (.int .i64 0)] [(0, (1, (.t 6))), (1, (1, (.t 8)))])), (o1 10 (.call .false .false (.f 24) [(.t 9)])), (oN (.store .false 2 (.t 4) (.t 10)))]) .ret))⟩

theorem F18_ok : sfn Tryd.prog hints 18 [] = some F18 := by kernel_rfl

theorem E18 (a0 : Int) (a1 : Int) (R : Ret → Prop) : wpFO cx18 F18 .e [(.one (.v (.int .i64 a0))), (.one (.v (.int .i64 a1)))] R = (letV (nI (if -2147483648 > a0 then -2147483648 else a0) (if 2147483647 < a1 then 2147483647 else a1)) (fun (u1 : Int × Int) => R (Ret.mk (.agg [(.v (.int .i64 (u1.1))), (.v (.int .i64 (u1.2)))]) []))) := by kernel_rfl

def f18_wp (a0 : Int) (a1 : Int) (R : Ret → Prop) : Prop := letV (nI (if -2147483648 > a0 then -2147483648 else a0) (if 2147483647 < a1 then 2147483647 else a1)) (fun (u1 : Int × Int) => R (Ret.mk (.agg [(.v (.int .i64 (u1.1))), (.v (.int .i64 (u1.2)))]) []))

set_option maxRecDepth 100000 in
theorem f18_sound (a0 : Int) (a1 : Int) (hC : CtxOk Tryd.prog cx18.q.ctx) {r : Ret} (h : f18_wp a0 a1 (fun r' => r' = r)) : SoundAt Tryd.prog 18 [(.one (.v (.int .i64 a0))), (.one (.v (.int .i64 a1)))] r := by
  refine soundAtO (C := cx18) (oc := .e) mixed hC F18_ok ?_
  rewrite [E18 a0 a1]
  unfold f18_wp at h
  refine letV_mapE h (fun u1 h => ?_)
  exact h


def cx7 : CtxW := ⟨⟨[(18, sum18)], []⟩, 2, []⟩


def F7 : SFn := ⟨6, [(.cell 2 .true 2)], (.seq (.reg [(o1 2 (.alloc [(.int .i64 0), (.int .i64 0)]))]) (.seq (.reg [(o1 3 (.mv (.t 0))), (o1 4 (.mv (.t 0))), (o1 5 (.call .false .false (.f 18) [(.t 3), (.t 4)])), (oN (.store .false 2 (.t 2) (.t 5)))]) .ret))⟩

theorem F7_ok : sfn Tryd.prog hints 7 [] = some F7 := by kernel_rfl

theorem E7 (a0 : Int) (R : Ret → Prop) : wpFO cx7 F7 .e [(.one (.v (.int .i64 a0)))] R = (letV (ofI a0 a0) (fun (u1 : Int × Int) => R (Ret.mk (.agg [(.v (.int .i64 (u1.1))), (.v (.int .i64 (u1.2)))]) []))) := by kernel_rfl

def f7_wp (a0 : Int) (R : Ret → Prop) : Prop := letV (ofI a0 a0) (fun (u1 : Int × Int) => R (Ret.mk (.agg [(.v (.int .i64 (u1.1))), (.v (.int .i64 (u1.2)))]) []))

set_option maxRecDepth 100000 in
theorem f7_sound (a0 : Int) (hC : CtxOk Tryd.prog cx7.q.ctx) {r : Ret} (h : f7_wp a0 (fun r' => r' = r)) : SoundAt Tryd.prog 7 [(.one (.v (.int .i64 a0)))] r := by
  refine soundAtO (C := cx7) (oc := .e) mixed hC F7_ok ?_
  rewrite [E7 a0]
  unfold f7_wp at h
  refine letV_mapE h (fun u1 h => ?_)
  exact h


def cx17 : CtxW := ⟨⟨[(16, sum16), (24, sum24)], []⟩, 2, []⟩


def F17 : SFn := ⟨25, [(.cell 4 .true 2)], (.seq (.reg [(o1 2 (.box (.t 0))), (o1 3 (.box (.t 1))), (o1 4 (.alloc [(.int .i64 0), (.int .i64 0)]))]) (.seq (.blk 0 (.seq (.reg [(o1 6 (.load .false .true 2 [(.some .i64), (.some .i64)] (.t 2))), (o1 7 (.call .false .false (.f 16) [(.t 6)])), (o1 5 (.mv (.t 7)))]) (.cond (.t 5) (.seq (.reg [(o1 8 (.load .false .true 2 [(.some .i64), (.some .i64)] (.t 3))), (o1 9 (.call .false .false (.f 24) [(.t 8)])), (oN (.store .false 2 (.t 4) (.t 9)))]) .ret) (.seq (.reg [(o1 11 (.load .false .true 2 [(.some .i64), (.some .i64)] (.t 3))), (o1 12 (.call .false .false (.f 16) [(.t 11)])), (o1 10 (.mv (.t 12)))]) (.cond (.t 10) (.seq (.reg [(o1 13 (.load .false .true 2 [(.some .i64), (.some .i64)] (.t 2))), (oN (.store .false 2 (.t 4) (.t 13)))]) .ret) .skip))))) (.seq (.reg [(o1 14 (.fld 0 (.t 2))), (o1 15 (.load .false .false 1 [(.some .i64)] (.t 14))), (o1 16 (.fld 0 (.t 3))), (o1 17 (.load .false .false 1 [(.some .i64)] (.t 16))), (o1 18 (.mm .false [(.t 15), (.t 17)])), (o1 19 (.fld 1 (.t 2))), (o1 20 (.load .false .false 1 [(.some .i64)] (.t 19))), (o1 21 (.fld 1 (.t 3))), (o1 22 (.load .false .false 1 [(.some .i64)] (.t 21))), (o1 23 (.mm .true [(.t 20), (.t 22)])), (o1 24 (.build [(.int .i64 0), (.int .i64 0)] [(0, (1, (.t 18))), (1, (1, (.t 23)))])), (oN (.store .false 2 (.t 4) (.t 24)))]) .ret)))⟩

theorem F17_ok : sfn Tryd.prog hints 17 [] = some F17 := by kernel_rfl

theorem E17 (a0_0 : Int) (a0_1 : Int) (a1_0 : Int) (a1_1 : Int) (R : Ret → Prop) : wpFO cx17 F17 (.two .e (.two .e .e)) [(.agg [(.v (.int .i64 a0_0)), (.v (.int .i64 a0_1))]), (.agg [(.v (.int .i64 a1_0)), (.v (.int .i64 a1_1))])] R = (bif decide (a0_0 > a0_1) then (letV (nI a1_0 a1_1) (fun (u2 : Int × Int) => R (Ret.mk (.agg [(.v (.int .i64 (u2.1))), (.v (.int .i64 (u2.2)))]) []))) else (bif decide (a1_0 > a1_1) then (R (Ret.mk (.agg [(.v (.int .i64 (a0_0))), (.v (.int .i64 (a0_1)))]) [])) else (R (Ret.mk (.agg [(.v (.int .i64 (if a1_0 < a0_0 then a1_0 else a0_0))), (.v (.int .i64 (if a1_1 > a0_1 then a1_1 else a0_1)))]) [])))) := by kernel_rfl

def f17_wp (a0_0 : Int) (a0_1 : Int) (a1_0 : Int) (a1_1 : Int) (R : Ret → Prop) : Prop := bif decide (a0_0 > a0_1) then (letV (nI a1_0 a1_1) (fun (u2 : Int × Int) => R (Ret.mk (.agg [(.v (.int .i64 (u2.1))), (.v (.int .i64 (u2.2)))]) []))) else (bif decide (a1_0 > a1_1) then (R (Ret.mk (.agg [(.v (.int .i64 (a0_0))), (.v (.int .i64 (a0_1)))]) [])) else (R (Ret.mk (.agg [(.v (.int .i64 (if a1_0 < a0_0 then a1_0 else a0_0))), (.v (.int .i64 (if a1_1 > a0_1 then a1_1 else a0_1)))]) [])))

set_option maxRecDepth 100000 in
theorem f17_sound (a0_0 : Int) (a0_1 : Int) (a1_0 : Int) (a1_1 : Int) (hC : CtxOk Tryd.prog cx17.q.ctx) {r : Ret} (h : f17_wp a0_0 a0_1 a1_0 a1_1 (fun r' => r' = r)) : SoundAt Tryd.prog 17 [(.agg [(.v (.int .i64 a0_0)), (.v (.int .i64 a0_1))]), (.agg [(.v (.int .i64 a1_0)), (.v (.int .i64 a1_1))])] r := by
  refine soundAtO (C := cx17) (oc := (.two .e (.two .e .e))) mixed hC F17_ok ?_
  rewrite [E17 a0_0 a0_1 a1_0 a1_1]
  unfold f17_wp at h
  refine cond_mapE h (fun q1 h => ?_) (fun q1 h => ?_)
  · skip
    refine letV_mapE h (fun u2 h => ?_)
    exact h
  · skip
    refine cond_mapE h (fun q3 h => ?_) (fun q3 h => ?_)
    · skip
      exact h
    · skip
      exact h


def cx21 : CtxW := ⟨⟨[], []⟩, 2, []⟩


def F21 : SFn := ⟨15, [(.tmp 4)], (.seq (.reg [(o1 2 (.box (.t 0))), (o1 4 (.mv (.c (.bool .false))))]) (.seq (.reg [(o1 5 (.fld 0 (.t 2))), (o1 6 (.load .false .false 1 [(.some .i64)] (.t 5))), (o1 7 (.mv (.t 1))), (o1 8 (.bin .leq (.t 6) (.t 7))), (o1 9 (.mv (.t 8))), (oS 10 (.mv (.t 1)) (.some (9, .true))), (oS 11 (.fld 1 (.t 2)) (.some (9, .true))), (oS 12 (.load .false .false 1 [(.some .i64)] (.t 11)) (.some (9, .true))), (oS 13 (.bin .leq (.t 10) (.t 12)) (.some (9, .true))), (o1 14 (.pick (.t 9) (.t 13) (.c (.bool .false)))), (o1 4 (.mv (.t 14)))]) .ret))⟩

theorem F21_ok : sfn Tryd.prog hints 21 [] = some F21 := by kernel_rfl

theorem E21 (a0_0 : Int) (a0_1 : Int) (a1 : Int) (R : Ret → Prop) : wpFO cx21 F21 (.two (.n 2 .e) (.n 2 .e)) [(.agg [(.v (.int .i64 a0_0)), (.v (.int .i64 a0_1))]), (.one (.v (.int .i64 a1)))] R = (bif decide (a0_0 ≤ a1) then (R (Ret.mk (.one (.v (.bool (decide (a1 ≤ a0_1))))) [])) else (R (Ret.mk (.one (.v (.bool .false))) []))) := by kernel_rfl

def f21_wp (a0_0 : Int) (a0_1 : Int) (a1 : Int) (R : Ret → Prop) : Prop := bif decide (a0_0 ≤ a1) then (R (Ret.mk (.one (.v (.bool (decide (a1 ≤ a0_1))))) [])) else (R (Ret.mk (.one (.v (.bool .false))) []))

set_option maxRecDepth 100000 in
theorem f21_sound (a0_0 : Int) (a0_1 : Int) (a1 : Int) (hC : CtxOk Tryd.prog cx21.q.ctx) {r : Ret} (h : f21_wp a0_0 a0_1 a1 (fun r' => r' = r)) : SoundAt Tryd.prog 21 [(.agg [(.v (.int .i64 a0_0)), (.v (.int .i64 a0_1))]), (.one (.v (.int .i64 a1)))] r := by
  refine soundAtO (C := cx21) (oc := (.two (.n 2 .e) (.n 2 .e))) mixed hC F21_ok ?_
  rewrite [E21 a0_0 a0_1 a1]
  unfold f21_wp at h
  refine cond_mapE h (fun q1 h => ?_) (fun q1 h => ?_)
  · skip
    exact h
  · skip
    exact h


end Go.Proofs.YtlfojobligplkaaDoor.Fn
