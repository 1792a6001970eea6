import Derived.Test.YtgmciihlmgeecaaWNA

import Derived.Test.YtgmciihlmgeecaaSpN2

/- Functions beside Nums, walked. No conditions beyond those named. -/

namespace Go.Proofs.Ytgmciihlmgeecaa.Fn

open Go Go.RowKit Go.Proofs Go.Proofs.Ytgmciihlmgeecaa.Mt Go.Proofs.Ytgmciihlmgeecaa.Zm

set_option linter.unusedVariables false

set_option linter.unusedSimpArgs false

def cx39 : CtxW := ⟨⟨[], []⟩, 16, []⟩


def F39 : SFn := ⟨10, [(.cell 2 .true 2)], (.seq (.reg [(o1 1 (.box (.t 0))), (o1 2 (.alloc [(.int .i64 0), (.int .i64 0)]))]) (.seq (.seq (.reg [(o1 3 (.fld 0 (.t 1))), (o1 4 (.load .false .false 1 [(.some .i64)] (.t 3))), (o1 5 (.fld 1 (.t 1))), (o1 6 (.load .false .false 1 [(.some .i64)] (.t 5))), (o1 7 (.bin .gtr (.t 4) (.t 6)))]) (.cond (.t 7) (.seq (.reg [(o1 8 (.build [(.int .i64 0), (.int .i64 0)] [(0, (1, (.c (.int .i64 1)))), (1, (1, (.c (.int .i64 0))))])), (oN (.store .false 2 (.t 2) (.t 8)))]) .ret) .skip)) (.seq (.reg [(o1 9 (.load .false .true 2 [(.some .i64), (.some .i64)] (.t 1))), (oN (.store .false 2 (.t 2) (.t 9)))]) .ret)))⟩

theorem F39_ok : sfn Try.prog hints 39 [] = some F39 := by kernel_rfl

theorem E39 (a0_0 : Int) (a0_1 : Int) (R : Ret → Prop) : wpFO cx39 F39 (.two .e .e) [(.agg [(.v (.int .i64 a0_0)), (.v (.int .i64 a0_1))])] R = (bif decide (a0_0 > a0_1) then (R (Ret.mk (.agg [(.v (.int .i64 1)), (.v (.int .i64 0))]) [])) else (R (Ret.mk (.agg [(.v (.int .i64 (a0_0))), (.v (.int .i64 (a0_1)))]) []))) := by kernel_rfl

def f39_wp (a0_0 : Int) (a0_1 : Int) (R : Ret → Prop) : Prop := bif decide (a0_0 > a0_1) then (R (Ret.mk (.agg [(.v (.int .i64 1)), (.v (.int .i64 0))]) [])) else (R (Ret.mk (.agg [(.v (.int .i64 (a0_0))), (.v (.int .i64 (a0_1)))]) []))

set_option maxRecDepth 100000 in
theorem f39_sound (a0_0 : Int) (a0_1 : Int) (hC : CtxOk Try.prog cx39.q.ctx) {r : Ret} (h : f39_wp a0_0 a0_1 (fun r' => r' = r)) : SoundAt Try.prog 39 [(.agg [(.v (.int .i64 a0_0)), (.v (.int .i64 a0_1))])] r := by
  refine soundAtO (C := cx39) (oc := (.two .e .e)) mixed hC F39_ok ?_
  rewrite [E39 a0_0 a0_1]
  unfold f39_wp at h
  refine cond_mapE h (fun q1 h => ?_) (fun q1 h => ?_)
  · skip
    exact h
  · skip
    exact h


def cx40 : CtxW := ⟨⟨[], []⟩, 16, []⟩


def F40 : SFn := ⟨12, [(.cell 2 .true 2)], (.seq (.reg [(o1 1 (.box (.t 0))), (o1 2 (.alloc [(.int .i64 0), (.int .i64 0)]))]) (.seq (.reg [(o1 3 (.fld 0 (.t 1))), (o1 4 (.load .false .false 1 [(.some .i64)] (.t 3))), (o1 5 (.conv .i32 (.t 4))), (o1 6 (.conv .i64 (.t 5))), (o1 7 (.fld 1 (.t 1))), (o1 8 (.load .false .false 1 [(.some .i64)] (.t 7))), (o1 9 (.conv .i32 (.t 8))), (o1 10 (.conv .i64 (.t 9))), (o1 11 (.build [(.int .i64 0), (.int .i64 0)] [(0, (1, (.t 6))), (1, (1, (.t 10)))])), (oN (.store .false 2 (.t 2) (.t 11)))]) .ret))⟩

theorem F40_ok : sfn Try.prog hints 40 [] = some F40 := by kernel_rfl

theorem E40 (a0_0 : Int) (a0_1 : Int) (R : Ret → Prop) : wpFO cx40 F40 .e [(.agg [(.v (.int .i64 a0_0)), (.v (.int .i64 a0_1))])] R = (R (Ret.mk (.agg [(.v (.int .i64 (IntKind.i64.wrap (IntKind.i32.wrap a0_0)))), (.v (.int .i64 (IntKind.i64.wrap (IntKind.i32.wrap a0_1))))]) [])) := by kernel_rfl

def f40_wp (a0_0 : Int) (a0_1 : Int) (R : Ret → Prop) : Prop := R (Ret.mk (.agg [(.v (.int .i64 (IntKind.i64.wrap (IntKind.i32.wrap a0_0)))), (.v (.int .i64 (IntKind.i64.wrap (IntKind.i32.wrap a0_1))))]) [])

set_option maxRecDepth 100000 in
theorem f40_sound (a0_0 : Int) (a0_1 : Int) (hC : CtxOk Try.prog cx40.q.ctx) {r : Ret} (h : f40_wp a0_0 a0_1 (fun r' => r' = r)) : SoundAt Try.prog 40 [(.agg [(.v (.int .i64 a0_0)), (.v (.int .i64 a0_1))])] r := by
  refine soundAtO (C := cx40) (oc := .e) mixed hC F40_ok ?_
  rewrite [E40 a0_0 a0_1]
  unfold f40_wp at h
  exact h


def cx43 : CtxW := ⟨⟨[(42, sum42), (53, sum53), (41, sum41), (52, sum52), (60, sum60), (45, sum45), (57, sum57)], []⟩, 2, []⟩


def F43 : SFn := ⟨38, [(.tmp 0)], (.seq (.reg [(o1 0 (.mv (.c (.bool .false))))]) (.seq (.reg [(o1 2 (.call .false .false (.f 42) [(.c (.int .i64 1))])), (o1 3 (.call .false .false (.f 53) [(.c (.int .i64 2)), (.c (.int .i64 5))])), (o1 4 (.call .false .false (.f 41) [(.t 2), (.c (.int .i64 0)), (.t 3)])), (o1 5 (.call .false .false (.f 53) [(.c (.int .i64 4)), (.c (.int .i64 9))])), (o1 6 (.call .false .false (.f 52) [(.t 4), (.c (.int .i64 0)), (.t 5)])), (o1 1 (.alloc [(.bool .false), (.slice .none 0 0), (.int .i64 0), (.bool .false), (.int .i64 0), (.int .i64 0), (.int .i64 0), (.int .i64 0), (.int .i64 0), (.int .i64 0), (.int .i64 0), (.int .i64 0), (.int .i64 0), (.int .i64 0), (.int .i64 0), (.int .i64 0), (.int .i64 0), (.int .i64 0), (.int .i64 0), (.int .i64 0), (.int .i64 0), (.int .i64 0), (.int .i64 0), (.int .i64 0), (.int .i64 0), (.int .i64 0), (.int .i64 0), (.int .i64 0), (.int .i64 0), (.int .i64 0), (.int .i64 0), (.int .i64 0), (.int .i64 0), (.int .i64 0), (.int .i64 0), (.int .i64 0), (.int .i64 0), (.int .i64 0), (.int .i64 0), (.int .i64 0), (.int .i64 0), (.int .i64 0), (.int .i64 0), (.int .i64 0), (.int .i64 0), (.int .i64 0), (.int .i64 0), (.int .i64 0), (.int .i64 0), (.int .i64 0), (.int .i64 0), (.int .i64 0), (.int .i64 0)])), (oN (.store .false 53 (.t 1) (.t 6)))]) (.seq (.reg [(o1 7 (.fld 1 (.t 1))), (o1 8 (.load .false .false 1 [] (.t 7))), (o1 9 (.len (.t 8))), (o1 10 (.bin .eql (.t 9) (.c (.int .i64 1)))), (o1 11 (.mv (.t 10))), (oS 12 (.fld 1 (.t 1)) (.some (11, .true))), (oS 13 (.load .false .false 1 [] (.t 12)) (.some (11, .true))), (oS 14 (.ixS 2 (.t 13) (.c (.int .i64 0))) (.some (11, .true))), (oS 15 (.load .true .true 2 [(.some .i64), (.some .i64)] (.t 14)) (.some (11, .true))), (oS 16 (.call .false .false (.f 53) [(.c (.int .i64 4)), (.c (.int .i64 5))]) (.some (11, .true))), (oS 17 (.eqA .false [(.some .i64), (.some .i64)] (.t 15) (.t 16)) (.some (11, .true))), (o1 18 (.pick (.t 11) (.t 17) (.c (.bool .false)))), (o1 19 (.mv (.t 18))), (oS 20 (.load .false .true 53 [] (.t 1)) (.some (19, .true))), (oS 21 (.buildS 3 1 1 [(.int .i64 0)] [(0, (.c (.int .i64 4)))]) (.some (19, .true))), (oS 22 (.call .true .false (.f 60) [(.t 20), (.t 21)]) (.some (19, .true))), (o1 23 (.pick (.t 19) (.t 22) (.c (.bool .false)))), (o1 24 (.mv (.t 23))), (oS 25 (.load .false .true 53 [] (.t 1)) (.some (24, .true))), (oS 26 (.buildS 3 1 1 [(.int .i64 0)] [(0, (.c (.int .i64 3)))]) (.some (24, .true))), (oS 27 (.call .true .false (.f 60) [(.t 25), (.t 26)]) (.some (24, .true))), (oS 28 (.un .not (.t 27)) (.some (24, .true))), (o1 29 (.pick (.t 24) (.t 28) (.c (.bool .false)))), (o1 30 (.mv (.t 29))), (oS 31 (.load .false .true 53 [] (.t 1)) (.some (30, .true))), (oS 32 (.call .false .false (.f 45) [(.t 31)]) (.some (30, .true))), (o1 33 (.pick (.t 30) (.t 32) (.c (.bool .false)))), (o1 34 (.mv (.t 33))), (oS 35 (.call .false .false (.f 57) [(.c (.int .i64 2))]) (.some (34, .true))), (oS 36 (.fldV .false 0 1 [.none] (.t 35)) (.some (34, .true))), (o1 37 (.pick (.t 34) (.t 36) (.c (.bool .false)))), (o1 0 (.mv (.t 37)))]) .ret)))⟩

theorem F43_ok : sfn Try.prog hintsN 43 [] = some F43 := by kernel_rfl

theorem E43  (R : Ret → Prop) : wpFO cx43 F43 (.n 16 .e) [] R = (R (Ret.mk (.one (.v (.bool .true))) [])) := by kernel_rfl

def f43_wp  (R : Ret → Prop) : Prop := R (Ret.mk (.one (.v (.bool .true))) [])

set_option maxRecDepth 100000 in
theorem f43_sound  (hC : CtxOk Try.prog cx43.q.ctx) {r : Ret} (h : f43_wp  (fun r' => r' = r)) : SoundAt Try.prog 43 [] r := by
  refine soundAtO (C := cx43) (oc := (.n 16 .e)) mixed hC F43_ok ?_
  rewrite [E43 ]
  unfold f43_wp at h
  exact h


end Go.Proofs.Ytgmciihlmgeecaa.Fn
