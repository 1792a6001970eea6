import Derived.Test.YtgmciihlmgeecaaWZA

import Derived.Test.YtgmciihlmgeecaaSpI

/- Functions of Itvs, walked. No conditions beyond those named. -/

namespace Go.Proofs.Ytgmciihlmgeecaa.Fn

open Go Go.RowKit Go.Proofs Go.Proofs.Ytgmciihlmgeecaa.Mt Go.Proofs.Ytgmciihlmgeecaa.Zm

set_option linter.unusedVariables false

set_option linter.unusedSimpArgs false

def cx115 : CtxW := ⟨⟨[(44, sum44), (36, sum36), (97, sum97)], []⟩, 16, []⟩


def F115 : SFn := ⟨24, [(.cell 4 .true 2)], (.seq (.reg [(o1 2 (.box (.t 0))), (o1 3 (.box (.t 1))), (o1 4 (.alloc [(.int .i64 0), (.int .i64 0)]))]) (.seq (.seq (.reg [(o1 5 (.load .false .true 2 [(.some .i64), (.some .i64)] (.t 2))), (o1 6 (.call .false .false (.f 44) [(.t 5)])), (o1 7 (.mv (.t 6))), (oS 8 (.load .false .true 2 [(.some .i64), (.some .i64)] (.t 3)) (.some (7, .false))), (oS 9 (.call .false .false (.f 44) [(.t 8)]) (.some (7, .false))), (o1 10 (.pick (.t 7) (.c (.bool .true)) (.t 9)))]) (.cond (.t 10) (.seq (.reg [(o1 11 (.call .false .false (.f 36) [])), (oN (.store .false 2 (.t 4) (.t 11)))]) .ret) .skip)) (.seq (.reg [(o1 12 (.fld 0 (.t 2))), (o1 13 (.load .false .false 1 [(.some .i64)] (.t 12))), (o1 14 (.fld 0 (.t 3))), (o1 15 (.load .false .false 1 [(.some .i64)] (.t 14))), (o1 16 (.mm .true [(.t 13), (.t 15)])), (o1 17 (.fld 1 (.t 2))), (o1 18 (.load .false .false 1 [(.some .i64)] (.t 17))), (o1 19 (.fld 1 (.t 3))), (o1 20 (.load .false .false 1 [(.some .i64)] (.t 19))), (o1 21 (.mm .false [(.t 18), (.t 20)])), (o1 22 (.build [(.int .i64 0), (.int .i64 0)] [(0, (1, (.t 16))), (1, (1, (.t 21)))])), (o1 23 (.call .false .false (.f 97) [(.t 22)])), (oN (.store .false 2 (.t 4) (.t 23)))]) .ret)))⟩

theorem F115_ok : sfn Try.prog hints 115 [] = some F115 := by kernel_rfl

theorem E115 (a0_0 : Int) (a0_1 : Int) (a1_0 : Int) (a1_1 : Int) (R : Ret → Prop) : wpFO cx115 F115 (.two (.n 1 .e) (.n 0 (.two .e .e))) [(.agg [(.v (.int .i64 a0_0)), (.v (.int .i64 a0_1))]), (.agg [(.v (.int .i64 a1_0)), (.v (.int .i64 a1_1))])] R = (bif emptyP a0_0 a0_1 then (R (Ret.mk (.agg [(.v (.int .i64 1)), (.v (.int .i64 0))]) [])) else (bif emptyP a1_0 a1_1 then (R (Ret.mk (.agg [(.v (.int .i64 1)), (.v (.int .i64 0))]) [])) else (letV (normP (if a1_0 > a0_0 then a1_0 else a0_0) (if a1_1 < a0_1 then a1_1 else a0_1)) (fun (u3 : Int × Int) => R (Ret.mk (.agg [(.v (.int .i64 (u3.1))), (.v (.int .i64 (u3.2)))]) []))))) := by kernel_rfl

def f115_wp (a0_0 : Int) (a0_1 : Int) (a1_0 : Int) (a1_1 : Int) (R : Ret → Prop) : Prop := bif emptyP a0_0 a0_1 then (R (Ret.mk (.agg [(.v (.int .i64 1)), (.v (.int .i64 0))]) [])) else (bif emptyP a1_0 a1_1 then (R (Ret.mk (.agg [(.v (.int .i64 1)), (.v (.int .i64 0))]) [])) else (letV (normP (if a1_0 > a0_0 then a1_0 else a0_0) (if a1_1 < a0_1 then a1_1 else a0_1)) (fun (u3 : Int × Int) => R (Ret.mk (.agg [(.v (.int .i64 (u3.1))), (.v (.int .i64 (u3.2)))]) []))))

set_option maxRecDepth 100000 in
theorem f115_sound (a0_0 : Int) (a0_1 : Int) (a1_0 : Int) (a1_1 : Int) (hC : CtxOk Try.prog cx115.q.ctx) {r : Ret} (h : f115_wp a0_0 a0_1 a1_0 a1_1 (fun r' => r' = r)) : SoundAt Try.prog 115 [(.agg [(.v (.int .i64 a0_0)), (.v (.int .i64 a0_1))]), (.agg [(.v (.int .i64 a1_0)), (.v (.int .i64 a1_1))])] r := by
  refine soundAtO (C := cx115) (oc := (.two (.n 1 .e) (.n 0 (.two .e .e)))) mixed hC F115_ok ?_
  rewrite [E115 a0_0 a0_1 a1_0 a1_1]
  unfold f115_wp at h
  refine cond_mapE h (fun q1 h => ?_) (fun q1 h => ?_)
  · skip
    exact h
  · skip
    refine cond_mapE h (fun q2 h => ?_) (fun q2 h => ?_)
    · skip
      exact h
    · skip
      refine letV_mapE h (fun u3 h => ?_)
      exact h


def cx128 : CtxW := ⟨⟨[(44, sum44), (97, sum97)], []⟩, 16, []⟩


def F128 : SFn := ⟨25, [(.cell 4 .true 2)], (.seq (.reg [(o1 2 (.box (.t 0))), (o1 3 (.box (.t 1))), (o1 4 (.alloc [(.int .i64 0), (.int .i64 0)]))]) (.seq (.blk 0 (.seq (.reg [(o1 6 (.load .false .true 2 [(.some .i64), (.some .i64)] (.t 2))), (o1 7 (.call .false .false (.f 44) [(.t 6)])), (o1 5 (.mv (.t 7)))]) (.cond (.t 5) (.seq (.reg [(o1 8 (.load .false .true 2 [(.some .i64), (.some .i64)] (.t 3))), (o1 9 (.call .false .false (.f 97) [(.t 8)])), (oN (.store .false 2 (.t 4) (.t 9)))]) .ret) (.seq (.reg [(o1 11 (.load .false .true 2 [(.some .i64), (.some .i64)] (.t 3))), (o1 12 (.call .false .false (.f 44) [(.t 11)])), (o1 10 (.mv (.t 12)))]) (.cond (.t 10) (.seq (.reg [(o1 13 (.load .false .true 2 [(.some .i64), (.some .i64)] (.t 2))), (oN (.store .false 2 (.t 4) (.t 13)))]) .ret) .skip))))) (.seq (.reg [(o1 14 (.fld 0 (.t 2))), (o1 15 (.load .false .false 1 [(.some .i64)] (.t 14))), (o1 16 (.fld 0 (.t 3))), (o1 17 (.load .false .false 1 [(.some .i64)] (.t 16))), (o1 18 (.mm .false [(.t 15), (.t 17)])), (o1 19 (.fld 1 (.t 2))), (o1 20 (.load .false .false 1 [(.some .i64)] (.t 19))), (o1 21 (.fld 1 (.t 3))), (o1 22 (.load .false .false 1 [(.some .i64)] (.t 21))), (o1 23 (.mm .true [(.t 20), (.t 22)])), (o1 24 (.build [(.int .i64 0), (.int .i64 0)] [(0, (1, (.t 18))), (1, (1, (.t 23)))])), (oN (.store .false 2 (.t 4) (.t 24)))]) .ret)))⟩

theorem F128_ok : sfn Try.prog hints 128 [] = some F128 := by kernel_rfl

theorem E128 (a0_0 : Int) (a0_1 : Int) (a1_0 : Int) (a1_1 : Int) (R : Ret → Prop) : wpFO cx128 F128 (.two .e (.two .e .e)) [(.agg [(.v (.int .i64 a0_0)), (.v (.int .i64 a0_1))]), (.agg [(.v (.int .i64 a1_0)), (.v (.int .i64 a1_1))])] R = (bif emptyP a0_0 a0_1 then (letV (normP a1_0 a1_1) (fun (u2 : Int × Int) => R (Ret.mk (.agg [(.v (.int .i64 (u2.1))), (.v (.int .i64 (u2.2)))]) []))) else (bif emptyP a1_0 a1_1 then (R (Ret.mk (.agg [(.v (.int .i64 (a0_0))), (.v (.int .i64 (a0_1)))]) [])) else (R (Ret.mk (.agg [(.v (.int .i64 (if a1_0 < a0_0 then a1_0 else a0_0))), (.v (.int .i64 (if a1_1 > a0_1 then a1_1 else a0_1)))]) [])))) := by kernel_rfl

def f128_wp (a0_0 : Int) (a0_1 : Int) (a1_0 : Int) (a1_1 : Int) (R : Ret → Prop) : Prop := bif emptyP a0_0 a0_1 then (letV (normP a1_0 a1_1) (fun (u2 : Int × Int) => R (Ret.mk (.agg [(.v (.int .i64 (u2.1))), (.v (.int .i64 (u2.2)))]) []))) else (bif emptyP a1_0 a1_1 then (R (Ret.mk (.agg [(.v (.int .i64 (a0_0))), (.v (.int .i64 (a0_1)))]) [])) else (R (Ret.mk (.agg [(.v (.int .i64 (if a1_0 < a0_0 then a1_0 else a0_0))), (.v (.int .i64 (if a1_1 > a0_1 then a1_1 else a0_1)))]) [])))

set_option maxRecDepth 100000 in
theorem f128_sound (a0_0 : Int) (a0_1 : Int) (a1_0 : Int) (a1_1 : Int) (hC : CtxOk Try.prog cx128.q.ctx) {r : Ret} (h : f128_wp a0_0 a0_1 a1_0 a1_1 (fun r' => r' = r)) : SoundAt Try.prog 128 [(.agg [(.v (.int .i64 a0_0)), (.v (.int .i64 a0_1))]), (.agg [(.v (.int .i64 a1_0)), (.v (.int .i64 a1_1))])] r := by
  refine soundAtO (C := cx128) (oc := (.two .e (.two .e .e))) mixed hC F128_ok ?_
  rewrite [E128 a0_0 a0_1 a1_0 a1_1]
  unfold f128_wp at h
  refine cond_mapE h (fun q1 h => ?_) (fun q1 h => ?_)
  · skip
    refine letV_mapE h (fun u2 h => ?_)
    exact h
  · skip
    refine cond_mapE h (fun q3 h => ?_) (fun q3 h => ?_)
    · skip
      exact h
    · skip
      exact h


def cx81 : CtxW := ⟨⟨[], []⟩, 16, []⟩


def F81 : SFn := ⟨15, [(.tmp 4)], (.seq (.reg [(o1 2 (.box (.t 0))), (o1 4 (.mv (.c (.bool .false))))]) (.seq (.reg [(o1 5 (.fld 0 (.t 2))), (o1 6 (.load .false .false 1 [(.some .i64)] (.t 5))), (o1 7 (.mv (.t 1))), (o1 8 (.bin .leq (.t 6) (.t 7))), (o1 9 (.mv (.t 8))), (oS 10 (.mv (.t 1)) (.some (9, .true))), (oS 11 (.fld 1 (.t 2)) (.some (9, .true))), (oS 12 (.load .false .false 1 [(.some .i64)] (.t 11)) (.some (9, .true))), (oS 13 (.bin .leq (.t 10) (.t 12)) (.some (9, .true))), (o1 14 (.pick (.t 9) (.t 13) (.c (.bool .false)))), (o1 4 (.mv (.t 14)))]) .ret))⟩

theorem F81_ok : sfn Try.prog hints 81 [] = some F81 := by kernel_rfl

theorem E81 (a0_0 : Int) (a0_1 : Int) (a1 : Int) (R : Ret → Prop) : wpFO cx81 F81 (.two (.n 2 .e) (.n 2 .e)) [(.agg [(.v (.int .i64 a0_0)), (.v (.int .i64 a0_1))]), (.one (.v (.int .i64 a1)))] R = (bif decide (a0_0 ≤ a1) then (R (Ret.mk (.one (.v (.bool (decide (a1 ≤ a0_1))))) [])) else (R (Ret.mk (.one (.v (.bool .false))) []))) := by kernel_rfl

def f81_wp (a0_0 : Int) (a0_1 : Int) (a1 : Int) (R : Ret → Prop) : Prop := bif decide (a0_0 ≤ a1) then (R (Ret.mk (.one (.v (.bool (decide (a1 ≤ a0_1))))) [])) else (R (Ret.mk (.one (.v (.bool .false))) []))

set_option maxRecDepth 100000 in
theorem f81_sound (a0_0 : Int) (a0_1 : Int) (a1 : Int) (hC : CtxOk Try.prog cx81.q.ctx) {r : Ret} (h : f81_wp a0_0 a0_1 a1 (fun r' => r' = r)) : SoundAt Try.prog 81 [(.agg [(.v (.int .i64 a0_0)), (.v (.int .i64 a0_1))]), (.one (.v (.int .i64 a1)))] r := by
  refine soundAtO (C := cx81) (oc := (.two (.n 2 .e) (.n 2 .e))) mixed hC F81_ok ?_
  rewrite [E81 a0_0 a0_1 a1]
  unfold f81_wp at h
  refine cond_mapE h (fun q1 h => ?_) (fun q1 h => ?_)
  · skip
    exact h
  · skip
    exact h


def cx116 : CtxW := ⟨⟨[(97, sum97)], []⟩, 16, []⟩


def F116 : SFn := ⟨31, [(.cell 4 .true 2)], (.seq (.reg [(o1 2 (.box (.t 0))), (o1 3 (.box (.t 1))), (o1 4 (.alloc [(.int .i64 0), (.int .i64 0)]))]) (.seq (.seq (.reg [(o1 5 (.fld 0 (.t 3))), (o1 6 (.load .false .false 1 [(.some .i64)] (.t 5))), (o1 7 (.fld 1 (.t 3))), (o1 8 (.load .false .false 1 [(.some .i64)] (.t 7))), (o1 9 (.bin .neq (.t 6) (.t 8)))]) (.cond (.t 9) (.seq (.reg [(o1 10 (.load .false .true 2 [(.some .i64), (.some .i64)] (.t 2))), (oN (.store .false 2 (.t 4) (.t 10)))]) .ret) .skip)) (.seq (.seq (.reg [(o1 11 (.fld 0 (.t 2))), (o1 12 (.load .false .false 1 [(.some .i64)] (.t 11))), (o1 13 (.fld 0 (.t 3))), (o1 14 (.load .false .false 1 [(.some .i64)] (.t 13))), (o1 15 (.bin .eql (.t 12) (.t 14)))]) (.cond (.t 15) (.reg [(o1 16 (.fld 0 (.t 2))), (o1 17 (.load .false .false 1 [(.some .i64)] (.t 16))), (o1 18 (.bin .add (.t 17) (.c (.int .i64 1)))), (o1 19 (.fld 0 (.t 2))), (oN (.store .false 1 (.t 19) (.t 18)))]) .skip)) (.seq (.seq (.reg [(o1 20 (.fld 1 (.t 2))), (o1 21 (.load .false .false 1 [(.some .i64)] (.t 20))), (o1 22 (.fld 0 (.t 3))), (o1 23 (.load .false .false 1 [(.some .i64)] (.t 22))), (o1 24 (.bin .eql (.t 21) (.t 23)))]) (.cond (.t 24) (.reg [(o1 25 (.fld 1 (.t 2))), (o1 26 (.load .false .false 1 [(.some .i64)] (.t 25))), (o1 27 (.bin .sub (.t 26) (.c (.int .i64 1)))), (o1 28 (.fld 1 (.t 2))), (oN (.store .false 1 (.t 28) (.t 27)))]) .skip)) (.seq (.reg [(o1 29 (.load .false .true 2 [(.some .i64), (.some .i64)] (.t 2))), (o1 30 (.call .false .false (.f 97) [(.t 29)])), (oN (.store .false 2 (.t 4) (.t 30)))]) .ret)))))⟩

theorem F116_ok : sfn Try.prog hints 116 [] = some F116 := by kernel_rfl

theorem E116 (a0_0 : Int) (a0_1 : Int) (a1_0 : Int) (a1_1 : Int) (R : Ret → Prop) : wpFO cx116 F116 (.two .e (.two (.two .e .e) (.two .e .e))) [(.agg [(.v (.int .i64 a0_0)), (.v (.int .i64 a0_1))]), (.agg [(.v (.int .i64 a1_0)), (.v (.int .i64 a1_1))])] R = (bif a1_0 != a1_1 then (R (Ret.mk (.agg [(.v (.int .i64 (a0_0))), (.v (.int .i64 (a0_1)))]) [])) else (bif a0_0 == a1_0 then (bif a0_1 == a1_0 then (letV (normP (IntKind.i64.wrap (a0_0 + 1)) (IntKind.i64.wrap (a0_1 - 1))) (fun (u4 : Int × Int) => R (Ret.mk (.agg [(.v (.int .i64 (u4.1))), (.v (.int .i64 (u4.2)))]) []))) else (letV (normP (IntKind.i64.wrap (a0_0 + 1)) a0_1) (fun (u5 : Int × Int) => R (Ret.mk (.agg [(.v (.int .i64 (u5.1))), (.v (.int .i64 (u5.2)))]) [])))) else (bif a0_1 == a1_0 then (letV (normP a0_0 (IntKind.i64.wrap (a0_1 - 1))) (fun (u7 : Int × Int) => R (Ret.mk (.agg [(.v (.int .i64 (u7.1))), (.v (.int .i64 (u7.2)))]) []))) else (letV (normP a0_0 a0_1) (fun (u8 : Int × Int) => R (Ret.mk (.agg [(.v (.int .i64 (u8.1))), (.v (.int .i64 (u8.2)))]) [])))))) := by kernel_rfl

def f116_wp (a0_0 : Int) (a0_1 : Int) (a1_0 : Int) (a1_1 : Int) (R : Ret → Prop) : Prop := bif a1_0 != a1_1 then (R (Ret.mk (.agg [(.v (.int .i64 (a0_0))), (.v (.int .i64 (a0_1)))]) [])) else (bif a0_0 == a1_0 then (bif a0_1 == a1_0 then (letV (normP (IntKind.i64.wrap (a0_0 + 1)) (IntKind.i64.wrap (a0_1 - 1))) (fun (u4 : Int × Int) => R (Ret.mk (.agg [(.v (.int .i64 (u4.1))), (.v (.int .i64 (u4.2)))]) []))) else (letV (normP (IntKind.i64.wrap (a0_0 + 1)) a0_1) (fun (u5 : Int × Int) => R (Ret.mk (.agg [(.v (.int .i64 (u5.1))), (.v (.int .i64 (u5.2)))]) [])))) else (bif a0_1 == a1_0 then (letV (normP a0_0 (IntKind.i64.wrap (a0_1 - 1))) (fun (u7 : Int × Int) => R (Ret.mk (.agg [(.v (.int .i64 (u7.1))), (.v (.int .i64 (u7.2)))]) []))) else (letV (normP a0_0 a0_1) (fun (u8 : Int × Int) => R (Ret.mk (.agg [(.v (.int .i64 (u8.1))), (.v (.int .i64 (u8.2)))]) [])))))

set_option maxRecDepth 100000 in
theorem f116_sound (a0_0 : Int) (a0_1 : Int) (a1_0 : Int) (a1_1 : Int) (hC : CtxOk Try.prog cx116.q.ctx) {r : Ret} (h : f116_wp a0_0 a0_1 a1_0 a1_1 (fun r' => r' = r)) : SoundAt Try.prog 116 [(.agg [(.v (.int .i64 a0_0)), (.v (.int .i64 a0_1))]), (.agg [(.v (.int .i64 a1_0)), (.v (.int .i64 a1_1))])] r := by
  refine soundAtO (C := cx116) (oc := (.two .e (.two (.two .e .e) (.two .e .e)))) mixed hC F116_ok ?_
  rewrite [E116 a0_0 a0_1 a1_0 a1_1]
  unfold f116_wp at h
  refine cond_mapE h (fun q1 h => ?_) (fun q1 h => ?_)
  · skip
    exact h
  · skip
    refine cond_mapE h (fun q2 h => ?_) (fun q2 h => ?_)
    · skip
      refine cond_mapE h (fun q3 h => ?_) (fun q3 h => ?_)
      · skip
        refine letV_mapE h (fun u4 h => ?_)
        exact h
      · skip
        refine letV_mapE h (fun u5 h => ?_)
        exact h
    · skip
      refine cond_mapE h (fun q6 h => ?_) (fun q6 h => ?_)
      · skip
        refine letV_mapE h (fun u7 h => ?_)
        exact h
      · skip
        refine letV_mapE h (fun u8 h => ?_)
        exact h


def cx117 : CtxW := ⟨⟨[(53, sum53), (115, sum115)], []⟩, 16, []⟩


def F117 : SFn := ⟨14, [(.cell 6 .true 2)], (.seq (.reg [(o1 3 (.box (.t 0))), (o1 4 (.box (.t 1))), (o1 6 (.alloc [(.int .i64 0), (.int .i64 0)]))]) (.seq (.reg [(o1 7 (.load .false .true 2 [(.some .i64), (.some .i64)] (.t 3))), (o1 8 (.fld 1 (.t 4))), (o1 9 (.load .false .false 1 [(.some .i64)] (.t 8))), (o1 10 (.mv (.t 2))), (o1 11 (.bin .sub (.t 9) (.t 10))), (o1 12 (.call .false .false (.f 53) [(.c (.int .i64 (-2147483648))), (.t 11)])), (o1 13 (.call .false .false (.f 115) [(.t 7), (.t 12)])), (oN (.store .false 2 (.t 6) (.t 13)))]) .ret))⟩

theorem F117_ok : sfn Try.prog hints 117 [] = some F117 := by kernel_rfl

theorem E117 (a0_0 : Int) (a0_1 : Int) (a1_0 : Int) (a1_1 : Int) (a2 : Int) (R : Ret → Prop) : wpFO cx117 F117 .e [(.agg [(.v (.int .i64 a0_0)), (.v (.int .i64 a0_1))]), (.agg [(.v (.int .i64 a1_0)), (.v (.int .i64 a1_1))]), (.one (.v (.int .i64 a2)))] R = (letV (ofP (-2147483648) (IntKind.i64.wrap (a1_1 - a2))) (fun (u1 : Int × Int) => letV (mI (a0_0, a0_1) (u1.1, u1.2)) (fun (u2 : Int × Int) => R (Ret.mk (.agg [(.v (.int .i64 (u2.1))), (.v (.int .i64 (u2.2)))]) [])))) := by kernel_rfl

def f117_wp (a0_0 : Int) (a0_1 : Int) (a1_0 : Int) (a1_1 : Int) (a2 : Int) (R : Ret → Prop) : Prop := letV (ofP (-2147483648) (IntKind.i64.wrap (a1_1 - a2))) (fun (u1 : Int × Int) => letV (mI (a0_0, a0_1) (u1.1, u1.2)) (fun (u2 : Int × Int) => R (Ret.mk (.agg [(.v (.int .i64 (u2.1))), (.v (.int .i64 (u2.2)))]) [])))

set_option maxRecDepth 100000 in
theorem f117_sound (a0_0 : Int) (a0_1 : Int) (a1_0 : Int) (a1_1 : Int) (a2 : Int) (hC : CtxOk Try.prog cx117.q.ctx) {r : Ret} (h : f117_wp a0_0 a0_1 a1_0 a1_1 a2 (fun r' => r' = r)) : SoundAt Try.prog 117 [(.agg [(.v (.int .i64 a0_0)), (.v (.int .i64 a0_1))]), (.agg [(.v (.int .i64 a1_0)), (.v (.int .i64 a1_1))]), (.one (.v (.int .i64 a2)))] r := by
  refine soundAtO (C := cx117) (oc := .e) mixed hC F117_ok ?_
  rewrite [E117 a0_0 a0_1 a1_0 a1_1 a2]
  unfold f117_wp at h
  refine letV_mapE h (fun u1 h => letV_mapE h (fun u2 h => ?_))
  exact h


def cx118 : CtxW := ⟨⟨[(53, sum53), (115, sum115)], []⟩, 16, []⟩


def F118 : SFn := ⟨14, [(.cell 6 .true 2)], (.seq (.reg [(o1 3 (.box (.t 0))), (o1 4 (.box (.t 1))), (o1 6 (.alloc [(.int .i64 0), (.int .i64 0)]))]) (.seq (.reg [(o1 7 (.load .false .true 2 [(.some .i64), (.some .i64)] (.t 3))), (o1 8 (.fld 0 (.t 4))), (o1 9 (.load .false .false 1 [(.some .i64)] (.t 8))), (o1 10 (.mv (.t 2))), (o1 11 (.bin .add (.t 9) (.t 10))), (o1 12 (.call .false .false (.f 53) [(.t 11), (.c (.int .i64 2147483647))])), (o1 13 (.call .false .false (.f 115) [(.t 7), (.t 12)])), (oN (.store .false 2 (.t 6) (.t 13)))]) .ret))⟩

theorem F118_ok : sfn Try.prog hints 118 [] = some F118 := by kernel_rfl

theorem E118 (a0_0 : Int) (a0_1 : Int) (a1_0 : Int) (a1_1 : Int) (a2 : Int) (R : Ret → Prop) : wpFO cx118 F118 .e [(.agg [(.v (.int .i64 a0_0)), (.v (.int .i64 a0_1))]), (.agg [(.v (.int .i64 a1_0)), (.v (.int .i64 a1_1))]), (.one (.v (.int .i64 a2)))] R = (letV (ofP (IntKind.i64.wrap (a1_0 + a2)) 2147483647) (fun (u1 : Int × Int) => letV (mI (a0_0, a0_1) (u1.1, u1.2)) (fun (u2 : Int × Int) => R (Ret.mk (.agg [(.v (.int .i64 (u2.1))), (.v (.int .i64 (u2.2)))]) [])))) := by kernel_rfl

def f118_wp (a0_0 : Int) (a0_1 : Int) (a1_0 : Int) (a1_1 : Int) (a2 : Int) (R : Ret → Prop) : Prop := letV (ofP (IntKind.i64.wrap (a1_0 + a2)) 2147483647) (fun (u1 : Int × Int) => letV (mI (a0_0, a0_1) (u1.1, u1.2)) (fun (u2 : Int × Int) => R (Ret.mk (.agg [(.v (.int .i64 (u2.1))), (.v (.int .i64 (u2.2)))]) [])))

set_option maxRecDepth 100000 in
theorem f118_sound (a0_0 : Int) (a0_1 : Int) (a1_0 : Int) (a1_1 : Int) (a2 : Int) (hC : CtxOk Try.prog cx118.q.ctx) {r : Ret} (h : f118_wp a0_0 a0_1 a1_0 a1_1 a2 (fun r' => r' = r)) : SoundAt Try.prog 118 [(.agg [(.v (.int .i64 a0_0)), (.v (.int .i64 a0_1))]), (.agg [(.v (.int .i64 a1_0)), (.v (.int .i64 a1_1))]), (.one (.v (.int .i64 a2)))] r := by
  refine soundAtO (C := cx118) (oc := .e) mixed hC F118_ok ?_
  rewrite [E118 a0_0 a0_1 a1_0 a1_1 a2]
  unfold f118_wp at h
  refine letV_mapE h (fun u1 h => letV_mapE h (fun u2 h => ?_))
  exact h


def cx108 : CtxW := ⟨⟨[(49, sum49), (115, sum115), (44, sum44), (36, sum36), (116, sum116), (117, sum117), (118, sum118)], []⟩, 16, []⟩


def F108 : SFn := ⟨73, [(.cell 6 .true 2), (.cell 7 .true 2)], (.seq (.reg [(o1 4 (.box (.t 1))), (o1 5 (.box (.t 2))), (o1 6 (.alloc [(.int .i64 0), (.int .i64 0)])), (o1 7 (.alloc [(.int .i64 0), (.int .i64 0)]))]) (.seq (.reg [(o1 9 (.load .false .true 2 [(.some .i64), (.some .i64)] (.t 4))), (o1 10 (.call .false .false (.f 49) [])), (o1 11 (.call .false .false (.f 115) [(.t 9), (.t 10)])), (o1 12 (.load .false .true 2 [(.some .i64), (.some .i64)] (.t 5))), (o1 13 (.call .false .false (.f 49) [])), (o1 14 (.call .false .false (.f 115) [(.t 12), (.t 13)])), (oN (.store .false 2 (.t 4) (.t 11))), (oN (.store .false 2 (.t 5) (.t 14)))]) (.seq (.seq (.reg [(o1 15 (.load .false .true 2 [(.some .i64), (.some .i64)] (.t 4))), (o1 16 (.call .false .false (.f 44) [(.t 15)])), (o1 17 (.mv (.t 16))), (oS 18 (.load .false .true 2 [(.some .i64), (.some .i64)] (.t 5)) (.some (17, .false))), (oS 19 (.call .false .false (.f 44) [(.t 18)]) (.some (17, .false))), (o1 20 (.pick (.t 17) (.c (.bool .true)) (.t 19)))]) (.cond (.t 20) (.seq (.reg [(o1 21 (.call .false .false (.f 36) [])), (o1 22 (.call .false .false (.f 36) [])), (oN (.store .false 2 (.t 6) (.t 21))), (oN (.store .false 2 (.t 7) (.t 22)))]) .ret) .skip)) (.seq (.seq (.reg [(o1 23 (.mv (.t 0)))]) (.blk 0 (.seq (.reg [(o1 25 (.bin .eql (.t 23) (.c (.int .i64 1)))), (o1 24 (.mv (.t 25)))]) (.cond (.t 24) (.seq (.reg [(o1 26 (.load .false .true 2 [(.some .i64), (.some .i64)] (.t 4))), (o1 27 (.load .false .true 2 [(.some .i64), (.some .i64)] (.t 5))), (o1 28 (.call .false .false (.f 115) [(.t 26), (.t 27)])), (o1 8 (.alloc [(.int .i64 0), (.int .i64 0)])), (oN (.store .false 2 (.t 8) (.t 28)))]) (.seq (.reg [(o1 29 (.load .false .true 2 [(.some .i64), (.some .i64)] (.t 8))), (o1 30 (.load .false .true 2 [(.some .i64), (.some .i64)] (.t 8))), (oN (.store .false 2 (.t 6) (.t 29))), (oN (.store .false 2 (.t 7) (.t 30)))]) .ret)) (.seq (.reg [(o1 32 (.bin .eql (.t 23) (.c (.int .i64 2)))), (o1 31 (.mv (.t 32)))]) (.cond (.t 31) (.seq (.reg [(o1 33 (.load .false .true 2 [(.some .i64), (.some .i64)] (.t 4))), (o1 34 (.load .false .true 2 [(.some .i64), (.some .i64)] (.t 5))), (o1 35 (.call .false .false (.f 116) [(.t 33), (.t 34)])), (o1 36 (.load .false .true 2 [(.some .i64), (.some .i64)] (.t 5))), (o1 37 (.load .false .true 2 [(.some .i64), (.some .i64)] (.t 4))), (o1 38 (.call .false .false (.f 116) [(.t 36), (.t 37)])), (oN (.store .false 2 (.t 6) (.t 35))), (oN (.store .false 2 (.t 7) (.t 38)))]) .ret) (.seq (.reg [(o1 40 (.bin .eql (.t 23) (.c (.int .i64 3)))), (o1 39 (.mv (.t 40)))]) (.cond (.t 39) (.seq (.reg [(o1 41 (.load .false .true 2 [(.some .i64), (.some .i64)] (.t 4))), (o1 42 (.load .false .true 2 [(.some .i64), (.some .i64)] (.t 5))), (o1 43 (.call .false .false (.f 117) [(.t 41), (.t 42), (.c (.int .i64 1))])), (o1 44 (.load .false .true 2 [(.some .i64), (.some .i64)] (.t 5))), (o1 45 (.load .false .true 2 [(.some .i64), (.some .i64)] (.t 4))), (o1 46 (.call .false .false (.f 118) [(.t 44), (.t 45), (.c (.int .i64 1))])), (oN (.store .false 2 (.t 6) (.t 43))), (oN (.store .false 2 (.t 7) (.t 46)))]) .ret) (.seq (.reg [(o1 48 (.bin .eql (.t 23) (.c (.int .i64 4)))), (o1 47 (.mv (.t 48)))]) (.cond (.t 47) (.seq (.reg [(o1 49 (.load .false .true 2 [(.some .i64), (.some .i64)] (.t 4))), (o1 50 (.load .false .true 2 [(.some .i64), (.some .i64)] (.t 5))), (o1 51 (.call .false .false (.f 117) [(.t 49), (.t 50), (.c (.int .i64 0))])), (o1 52 (.load .false .true 2 [(.some .i64), (.some .i64)] (.t 5))), (o1 53 (.load .false .true 2 [(.some .i64), (.some .i64)] (.t 4))), (o1 54 (.call .false .false (.f 118) [(.t 52), (.t 53), (.c (.int .i64 0))])), (oN (.store .false 2 (.t 6) (.t 51))), (oN (.store .false 2 (.t 7) (.t 54)))]) .ret) (.seq (.reg [(o1 56 (.bin .eql (.t 23) (.c (.int .i64 5)))), (o1 55 (.mv (.t 56)))]) (.cond (.t 55) (.seq (.reg [(o1 57 (.load .false .true 2 [(.some .i64), (.some .i64)] (.t 4))), (o1 58 (.load .false .true 2 [(.some .i64), (.some .i64)] (.t 5))), (o1 59 (.call .false .false (.f 118) [(.t 57), (.t 58), (.c (.int .i64 1))])), (o1 60 (.load .false .true 2 [(.some .i64), (.some .i64)] (.t 5))), (o1 61 (.load .false .true 2 [(.some .i64), (.some .i64)] (.t 4))), (o1 62 (.call .false .false (.f 117) [(.t 60), (.t 61), (.c (.int .i64 1))])), (oN (.store .false 2 (.t 6) (.t 59))), (oN (.store .false 2 (.t 7) (.t 62)))]) .ret) (.seq (.reg [(o1 64 (.bin .eql (.t 23) (.c (.int .i64 6)))), (o1 63 (.mv (.t 64)))]) (.cond (.t 63) (.seq (.reg [(o1 65 (.load .false .true 2 [(.some .i64), (.some .i64)] (.t 4))), (o1 66 (.load .false .true 2 [(.some .i64), (.some .i64)] (.t 5))), (o1 67 (.call .false .false (.f 118) [(.t 65), (.t 66), (.c (.int .i64 0))])), (o1 68 (.load .false .true 2 [(.some .i64), (.some .i64)] (.t 5))), (o1 69 (.load .false .true 2 [(.some .i64), (.some .i64)] (.t 4))), (o1 70 (.call .false .false (.f 117) [(.t 68), (.t 69), (.c (.int .i64 0))])), (oN (.store .false 2 (.t 6) (.t 67))), (oN (.store .false 2 (.t 7) (.t 70)))]) .ret) .skip)))))))))))))) (.seq (.reg [(o1 71 (.call .false .false (.f 36) [])), (o1 72 (.call .false .false (.f 36) [])), (oN (.store .false 2 (.t 6) (.t 71))), (oN (.store .false 2 (.t 7) (.t 72)))]) .ret)))))⟩

theorem F108_ok : sfn Try.prog hints 108 [] = some F108 := by kernel_rfl

theorem E108 (a0 : Int) (a1_0 : Int) (a1_1 : Int) (a2_0 : Int) (a2_1 : Int) (R : Ret → Prop) : wpFO cx108 F108 (.two (.n 1 .e) (.n 0 (.two .e (.two .e (.two .e (.two .e (.two .e (.two .e (.two .e .e))))))))) [(.one (.v (.int .i64 a0))), (.agg [(.v (.int .i64 a1_0)), (.v (.int .i64 a1_1))]), (.agg [(.v (.int .i64 a2_0)), (.v (.int .i64 a2_1))])] R = (letV (mI (a1_0, a1_1) (-2147483648, 2147483647)) (fun (u1 : Int × Int) => letV (mI (a2_0, a2_1) (-2147483648, 2147483647)) (fun (u2 : Int × Int) => bif emptyP u1.1 u1.2 then (R (Ret.mk (.tup [(.agg [(.v (.int .i64 1)), (.v (.int .i64 0))]), (.agg [(.v (.int .i64 1)), (.v (.int .i64 0))])]) [])) else (bif emptyP u2.1 u2.2 then (R (Ret.mk (.tup [(.agg [(.v (.int .i64 1)), (.v (.int .i64 0))]), (.agg [(.v (.int .i64 1)), (.v (.int .i64 0))])]) [])) else (bif a0 == 1 then (letV (mI (u1.1, u1.2) (u2.1, u2.2)) (fun (u6 : Int × Int) => R (Ret.mk (.tup [(.agg [(.v (.int .i64 (u6.1))), (.v (.int .i64 (u6.2)))]), (.agg [(.v (.int .i64 (u6.1))), (.v (.int .i64 (u6.2)))])]) []))) else (bif a0 == 2 then (letV (unequalP (u1.1, u1.2) (u2.1, u2.2)) (fun (u8 : Int × Int) => bif inP (u1.1, u1.2) && true && true && true && true && true then (letV (unequalP (u2.1, u2.2) (u1.1, u1.2)) (fun (u10 : Int × Int) => bif inP (u2.1, u2.2) && true && true && true && true && true then (R (Ret.mk (.tup [(.agg [(.v (.int .i64 (u8.1))), (.v (.int .i64 (u8.2)))]), (.agg [(.v (.int .i64 (u10.1))), (.v (.int .i64 (u10.2)))])]) [])) else False)) else False)) else (bif a0 == 3 then (letV (belowP (u1.1, u1.2) (u2.1, u2.2) 1) (fun (u13 : Int × Int) => bif inP (u2.1, u2.2) && true && true && true && true && true && true then (letV (aboveP (u2.1, u2.2) (u1.1, u1.2) 1) (fun (u15 : Int × Int) => bif inP (u1.1, u1.2) && true && true && true && true && true && true then (R (Ret.mk (.tup [(.agg [(.v (.int .i64 (u13.1))), (.v (.int .i64 (u13.2)))]), (.agg [(.v (.int .i64 (u15.1))), (.v (.int .i64 (u15.2)))])]) [])) else False)) else False)) else (bif a0 == 4 then (letV (belowP (u1.1, u1.2) (u2.1, u2.2) 0) (fun (u18 : Int × Int) => bif inP (u2.1, u2.2) && true && true && true && true && true && true then (letV (aboveP (u2.1, u2.2) (u1.1, u1.2) 0) (fun (u20 : Int × Int) => bif inP (u1.1, u1.2) && true && true && true && true && true && true then (R (Ret.mk (.tup [(.agg [(.v (.int .i64 (u18.1))), (.v (.int .i64 (u18.2)))]), (.agg [(.v (.int .i64 (u20.1))), (.v (.int .i64 (u20.2)))])]) [])) else False)) else False)) else (bif a0 == 5 then (letV (aboveP (u1.1, u1.2) (u2.1, u2.2) 1) (fun (u23 : Int × Int) => bif inP (u2.1, u2.2) && true && true && true && true && true && true then (letV (belowP (u2.1, u2.2) (u1.1, u1.2) 1) (fun (u25 : Int × Int) => bif inP (u1.1, u1.2) && true && true && true && true && true && true then (R (Ret.mk (.tup [(.agg [(.v (.int .i64 (u23.1))), (.v (.int .i64 (u23.2)))]), (.agg [(.v (.int .i64 (u25.1))), (.v (.int .i64 (u25.2)))])]) [])) else False)) else False)) else (bif a0 == 6 then (letV (aboveP (u1.1, u1.2) (u2.1, u2.2) 0) (fun (u28 : Int × Int) => bif inP (u2.1, u2.2) && true && true && true && true && true && true then (letV (belowP (u2.1, u2.2) (u1.1, u1.2) 0) (fun (u30 : Int × Int) => bif inP (u1.1, u1.2) && true && true && true && true && true && true then (R (Ret.mk (.tup [(.agg [(.v (.int .i64 (u28.1))), (.v (.int .i64 (u28.2)))]), (.agg [(.v (.int .i64 (u30.1))), (.v (.int .i64 (u30.2)))])]) [])) else False)) else False)) else (R (Ret.mk (.tup [(.agg [(.v (.int .i64 1)), (.v (.int .i64 0))]), (.agg [(.v (.int .i64 1)), (.v (.int .i64 0))])]) [])))))))))))) := by kernel_rfl

def f108_wp (a0 : Int) (a1_0 : Int) (a1_1 : Int) (a2_0 : Int) (a2_1 : Int) (R : Ret → Prop) : Prop := letV (mI (a1_0, a1_1) (-2147483648, 2147483647)) (fun (u1 : Int × Int) => letV (mI (a2_0, a2_1) (-2147483648, 2147483647)) (fun (u2 : Int × Int) => bif emptyP u1.1 u1.2 then (R (Ret.mk (.tup [(.agg [(.v (.int .i64 1)), (.v (.int .i64 0))]), (.agg [(.v (.int .i64 1)), (.v (.int .i64 0))])]) [])) else (bif emptyP u2.1 u2.2 then (R (Ret.mk (.tup [(.agg [(.v (.int .i64 1)), (.v (.int .i64 0))]), (.agg [(.v (.int .i64 1)), (.v (.int .i64 0))])]) [])) else (bif a0 == 1 then (letV (mI (u1.1, u1.2) (u2.1, u2.2)) (fun (u6 : Int × Int) => R (Ret.mk (.tup [(.agg [(.v (.int .i64 (u6.1))), (.v (.int .i64 (u6.2)))]), (.agg [(.v (.int .i64 (u6.1))), (.v (.int .i64 (u6.2)))])]) []))) else (bif a0 == 2 then (letV (unequalP (u1.1, u1.2) (u2.1, u2.2)) (fun (u8 : Int × Int) => bif inP (u1.1, u1.2) && true && true && true && true && true then (letV (unequalP (u2.1, u2.2) (u1.1, u1.2)) (fun (u10 : Int × Int) => bif inP (u2.1, u2.2) && true && true && true && true && true then (R (Ret.mk (.tup [(.agg [(.v (.int .i64 (u8.1))), (.v (.int .i64 (u8.2)))]), (.agg [(.v (.int .i64 (u10.1))), (.v (.int .i64 (u10.2)))])]) [])) else False)) else False)) else (bif a0 == 3 then (letV (belowP (u1.1, u1.2) (u2.1, u2.2) 1) (fun (u13 : Int × Int) => bif inP (u2.1, u2.2) && true && true && true && true && true && true then (letV (aboveP (u2.1, u2.2) (u1.1, u1.2) 1) (fun (u15 : Int × Int) => bif inP (u1.1, u1.2) && true && true && true && true && true && true then (R (Ret.mk (.tup [(.agg [(.v (.int .i64 (u13.1))), (.v (.int .i64 (u13.2)))]), (.agg [(.v (.int .i64 (u15.1))), (.v (.int .i64 (u15.2)))])]) [])) else False)) else False)) else (bif a0 == 4 then (letV (belowP (u1.1, u1.2) (u2.1, u2.2) 0) (fun (u18 : Int × Int) => bif inP (u2.1, u2.2) && true && true && true && true && true && true then (letV (aboveP (u2.1, u2.2) (u1.1, u1.2) 0) (fun (u20 : Int × Int) => bif inP (u1.1, u1.2) && true && true && true && true && true && true then (R (Ret.mk (.tup [(.agg [(.v (.int .i64 (u18.1))), (.v (.int .i64 (u18.2)))]), (.agg [(.v (.int .i64 (u20.1))), (.v (.int .i64 (u20.2)))])]) [])) else False)) else False)) else (bif a0 == 5 then (letV (aboveP (u1.1, u1.2) (u2.1, u2.2) 1) (fun (u23 : Int × Int) => bif inP (u2.1, u2.2) && true && true && true && true && true && true then (letV (belowP (u2.1, u2.2) (u1.1, u1.2) 1) (fun (u25 : Int × Int) => bif inP (u1.1, u1.2) && true && true && true && true && true && true then (R (Ret.mk (.tup [(.agg [(.v (.int .i64 (u23.1))), (.v (.int .i64 (u23.2)))]), (.agg [(.v (.int .i64 (u25.1))), (.v (.int .i64 (u25.2)))])]) [])) else False)) else False)) else (bif a0 == 6 then (letV (aboveP (u1.1, u1.2) (u2.1, u2.2) 0) (fun (u28 : Int × Int) => bif inP (u2.1, u2.2) && true && true && true && true && true && true then (letV (belowP (u2.1, u2.2) (u1.1, u1.2) 0) (fun (u30 : Int × Int) => bif inP (u1.1, u1.2) && true && true && true && true && true && true then (R (Ret.mk (.tup [(.agg [(.v (.int .i64 (u28.1))), (.v (.int .i64 (u28.2)))]), (.agg [(.v (.int .i64 (u30.1))), (.v (.int .i64 (u30.2)))])]) [])) else False)) else False)) else (R (Ret.mk (.tup [(.agg [(.v (.int .i64 1)), (.v (.int .i64 0))]), (.agg [(.v (.int .i64 1)), (.v (.int .i64 0))])]) [])))))))))))

set_option maxRecDepth 100000 in
theorem f108_sound (a0 : Int) (a1_0 : Int) (a1_1 : Int) (a2_0 : Int) (a2_1 : Int) (hC : CtxOk Try.prog cx108.q.ctx) {r : Ret} (h : f108_wp a0 a1_0 a1_1 a2_0 a2_1 (fun r' => r' = r)) : SoundAt Try.prog 108 [(.one (.v (.int .i64 a0))), (.agg [(.v (.int .i64 a1_0)), (.v (.int .i64 a1_1))]), (.agg [(.v (.int .i64 a2_0)), (.v (.int .i64 a2_1))])] r := by
  refine soundAtO (C := cx108) (oc := (.two (.n 1 .e) (.n 0 (.two .e (.two .e (.two .e (.two .e (.two .e (.two .e (.two .e .e)))))))))) mixed hC F108_ok ?_
  rewrite [E108 a0 a1_0 a1_1 a2_0 a2_1]
  unfold f108_wp at h
  refine letV_mapE h (fun u1 h => letV_mapE h (fun u2 h => ?_))
  refine cond_mapE h (fun q3 h => ?_) (fun q3 h => ?_)
  · skip
    exact h
  · skip
    refine cond_mapE h (fun q4 h => ?_) (fun q4 h => ?_)
    · skip
      exact h
    · skip
      refine cond_mapE h (fun q5 h => ?_) (fun q5 h => ?_)
      · skip
        refine letV_mapE h (fun u6 h => ?_)
        exact h
      · skip
        refine cond_mapE h (fun q7 h => ?_) (fun q7 h => ?_)
        · skip
          refine letV_mapE h (fun u8 h => ck_mapE h (fun q9 h => letV_mapE h (fun u10 h => ck_mapE h (fun q11 h => ?_))))
          exact h
        · skip
          refine cond_mapE h (fun q12 h => ?_) (fun q12 h => ?_)
          · skip
            refine letV_mapE h (fun u13 h => ck_mapE h (fun q14 h => letV_mapE h (fun u15 h => ck_mapE h (fun q16 h => ?_))))
            exact h
          · skip
            refine cond_mapE h (fun q17 h => ?_) (fun q17 h => ?_)
            · skip
              refine letV_mapE h (fun u18 h => ck_mapE h (fun q19 h => letV_mapE h (fun u20 h => ck_mapE h (fun q21 h => ?_))))
              exact h
            · skip
              refine cond_mapE h (fun q22 h => ?_) (fun q22 h => ?_)
              · skip
                refine letV_mapE h (fun u23 h => ck_mapE h (fun q24 h => letV_mapE h (fun u25 h => ck_mapE h (fun q26 h => ?_))))
                exact h
              · skip
                refine cond_mapE h (fun q27 h => ?_) (fun q27 h => ?_)
                · skip
                  refine letV_mapE h (fun u28 h => ck_mapE h (fun q29 h => letV_mapE h (fun u30 h => ck_mapE h (fun q31 h => ?_))))
                  exact h
                · skip
                  exact h


def cx121 : CtxW := ⟨⟨[(53, sum53)], []⟩, 16, []⟩


def F121 : SFn := ⟨16, [(.cell 4 .true 2), (.cell 5 .true 2)], (.seq (.reg [(o1 4 (.alloc [(.int .i64 0), (.int .i64 0)])), (o1 5 (.alloc [(.bool .false), (.bool .false)]))]) (.seq (.reg [(o1 6 (.mv (.t 0))), (o1 7 (.mv (.t 1))), (o1 8 (.call .false .false (.f 53) [(.t 6), (.t 7)])), (o1 9 (.mv (.t 0))), (o1 10 (.bin .lss (.t 9) (.c (.int .i64 (-2147483648))))), (o1 11 (.mv (.t 10))), (oS 12 (.mv (.t 1)) (.some (11, .false))), (oS 13 (.bin .gtr (.t 12) (.c (.int .i64 2147483647))) (.some (11, .false))), (o1 14 (.pick (.t 11) (.c (.bool .true)) (.t 13))), (o1 15 (.build [(.bool .false), (.bool .false)] [(0, (1, (.t 14)))])), (oN (.store .false 2 (.t 4) (.t 8))), (oN (.store .false 2 (.t 5) (.t 15)))]) .ret))⟩

theorem F121_ok : sfn Try.prog hints 121 [] = some F121 := by kernel_rfl

theorem E121 (a0 : Int) (a1 : Int) (R : Ret → Prop) : wpFO cx121 F121 (.two (.n 0 .e) (.n 0 .e)) [(.one (.v (.int .i64 a0))), (.one (.v (.int .i64 a1)))] R = (letV (ofP a0 a1) (fun (u1 : Int × Int) => bif decide (a0 < -2147483648) then (R (Ret.mk (.tup [(.agg [(.v (.int .i64 (u1.1))), (.v (.int .i64 (u1.2)))]), (.agg [(.v (.bool .true)), (.v (.bool .false))])]) [])) else (R (Ret.mk (.tup [(.agg [(.v (.int .i64 (u1.1))), (.v (.int .i64 (u1.2)))]), (.agg [(.v (.bool (decide (a1 > 2147483647)))), (.v (.bool .false))])]) [])))) := by kernel_rfl

def f121_wp (a0 : Int) (a1 : Int) (R : Ret → Prop) : Prop := letV (ofP a0 a1) (fun (u1 : Int × Int) => bif decide (a0 < -2147483648) then (R (Ret.mk (.tup [(.agg [(.v (.int .i64 (u1.1))), (.v (.int .i64 (u1.2)))]), (.agg [(.v (.bool .true)), (.v (.bool .false))])]) [])) else (R (Ret.mk (.tup [(.agg [(.v (.int .i64 (u1.1))), (.v (.int .i64 (u1.2)))]), (.agg [(.v (.bool (decide (a1 > 2147483647)))), (.v (.bool .false))])]) [])))

set_option maxRecDepth 100000 in
theorem f121_sound (a0 : Int) (a1 : Int) (hC : CtxOk Try.prog cx121.q.ctx) {r : Ret} (h : f121_wp a0 a1 (fun r' => r' = r)) : SoundAt Try.prog 121 [(.one (.v (.int .i64 a0))), (.one (.v (.int .i64 a1)))] r := by
  refine soundAtO (C := cx121) (oc := (.two (.n 0 .e) (.n 0 .e))) mixed hC F121_ok ?_
  rewrite [E121 a0 a1]
  unfold f121_wp at h
  refine letV_mapE h (fun u1 h => ?_)
  refine cond_mapE h (fun q2 h => ?_) (fun q2 h => ?_)
  · skip
    exact h
  · skip
    exact h


def cx123 : CtxW := ⟨⟨[], []⟩, 16, []⟩


def F123 : SFn := ⟨8, [(.tmp 4)], (.seq (.reg [(o1 4 (.mv (.c (.int .i64 0))))]) (.seq (.reg [(o1 5 (.mv (.t 0))), (o1 6 (.mv (.t 1))), (o1 7 (.bin .mul (.t 5) (.t 6))), (o1 4 (.mv (.t 7)))]) .ret))⟩

theorem F123_ok : sfn Try.prog hints 123 [] = some F123 := by kernel_rfl

theorem E123 (a0 : Int) (a1 : Int) (R : Ret → Prop) : wpFO cx123 F123 .e [(.one (.v (.int .i64 a0))), (.one (.v (.int .i64 a1)))] R = (R (Ret.mk (.one (.v (.int .i64 (IntKind.i64.wrap (a0 * a1))))) [])) := by kernel_rfl

def f123_wp (a0 : Int) (a1 : Int) (R : Ret → Prop) : Prop := R (Ret.mk (.one (.v (.int .i64 (IntKind.i64.wrap (a0 * a1))))) [])

set_option maxRecDepth 100000 in
theorem f123_sound (a0 : Int) (a1 : Int) (hC : CtxOk Try.prog cx123.q.ctx) {r : Ret} (h : f123_wp a0 a1 (fun r' => r' = r)) : SoundAt Try.prog 123 [(.one (.v (.int .i64 a0))), (.one (.v (.int .i64 a1)))] r := by
  refine soundAtO (C := cx123) (oc := .e) mixed hC F123_ok ?_
  rewrite [E123 a0 a1]
  unfold f123_wp at h
  exact h


def cx127 : CtxW := ⟨⟨[], []⟩, 16, []⟩


def F127 : SFn := ⟨8, [(.tmp 4)], (.seq (.reg [(o1 4 (.mv (.c (.int .i64 0))))]) (.seq (.reg [(o1 5 (.mv (.t 0))), (o1 6 (.mv (.t 1))), (o1 7 (.bin .quo (.t 5) (.t 6))), (o1 4 (.mv (.t 7)))]) .ret))⟩

theorem F127_ok : sfn Try.prog hints 127 [] = some F127 := by kernel_rfl

theorem E127 (a0 : Int) (a1 : Int) (R : Ret → Prop) : wpFO cx127 F127 .e [(.one (.v (.int .i64 a0))), (.one (.v (.int .i64 a1)))] R = (bif a1 != 0 then (R (Ret.mk (.one (.v (.int .i64 (IntKind.i64.wrap (a0.tdiv a1))))) [])) else False) := by kernel_rfl

def f127_wp (a0 : Int) (a1 : Int) (R : Ret → Prop) : Prop := bif a1 != 0 then (R (Ret.mk (.one (.v (.int .i64 (IntKind.i64.wrap (a0.tdiv a1))))) [])) else False

set_option maxRecDepth 100000 in
theorem f127_sound (a0 : Int) (a1 : Int) (hC : CtxOk Try.prog cx127.q.ctx) {r : Ret} (h : f127_wp a0 a1 (fun r' => r' = r)) : SoundAt Try.prog 127 [(.one (.v (.int .i64 a0))), (.one (.v (.int .i64 a1)))] r := by
  refine soundAtO (C := cx127) (oc := .e) mixed hC F127_ok ?_
  rewrite [E127 a0 a1]
  unfold f127_wp at h
  refine ck_mapE h (fun q1 h => ?_)
  exact h


def cx122m : CtxW := ⟨⟨[(123, sum123)], []⟩, 16, []⟩


def F122m : SFn := ⟨46, [(.tmp 6), (.tmp 7)], (.seq (.reg [(o1 4 (.box (.t 1))), (o1 5 (.box (.t 2))), (o1 6 (.mv (.c (.int .i64 0)))), (o1 7 (.mv (.c (.int .i64 0))))]) (.seq (.reg [(o1 12 (.mv (.t 0))), (o1 13 (.fld 0 (.t 4))), (o1 14 (.load .false .false 1 [(.some .i64)] (.t 13))), (o1 15 (.fld 0 (.t 5))), (o1 16 (.load .false .false 1 [(.some .i64)] (.t 15))), (o1 17 (.call .false .false (.t 12) [(.t 14), (.t 16)])), (o1 18 (.mv (.t 0))), (o1 19 (.fld 0 (.t 4))), (o1 20 (.load .false .false 1 [(.some .i64)] (.t 19))), (o1 21 (.fld 1 (.t 5))), (o1 22 (.load .false .false 1 [(.some .i64)] (.t 21))), (o1 23 (.call .false .false (.t 18) [(.t 20), (.t 22)])), (o1 24 (.mv (.t 0))), (o1 25 (.fld 1 (.t 4))), (o1 26 (.load .false .false 1 [(.some .i64)] (.t 25))), (o1 27 (.fld 0 (.t 5))), (o1 28 (.load .false .false 1 [(.some .i64)] (.t 27))), (o1 29 (.call .false .false (.t 24) [(.t 26), (.t 28)])), (o1 30 (.mv (.t 0))), (o1 31 (.fld 1 (.t 4))), (o1 32 (.load .false .false 1 [(.some .i64)] (.t 31))), (o1 33 (.fld 1 (.t 5))), (o1 34 (.load .false .false 1 [(.some .i64)] (.t 33))), (o1 35 (.call .false .false (.t 30) [(.t 32), (.t 34)])), (o1 8 (.mv (.t 17))), (o1 9 (.mv (.t 23))), (o1 10 (.mv (.t 29))), (o1 11 (.mv (.t 35)))]) (.seq (.reg [(o1 36 (.mv (.t 8))), (o1 37 (.mv (.t 9))), (o1 38 (.mv (.t 10))), (o1 39 (.mv (.t 11))), (o1 40 (.mm .false [(.t 36), (.t 37), (.t 38), (.t 39)])), (o1 41 (.mv (.t 8))), (o1 42 (.mv (.t 9))), (o1 43 (.mv (.t 10))), (o1 44 (.mv (.t 11))), (o1 45 (.mm .true [(.t 41), (.t 42), (.t 43), (.t 44)])), (o1 6 (.mv (.t 40))), (o1 7 (.mv (.t 45)))]) .ret)))⟩

theorem F122m_ok : sfn Try.prog hints 122 [] = some F122m := by kernel_rfl

theorem E122m (a1_0 : Int) (a1_1 : Int) (a2_0 : Int) (a2_1 : Int) (R : Ret → Prop) : wpFO cx122m F122m .e [.one (.v (.func (.func 123) #[] #[])), .agg [.v (.int .i64 a1_0), .v (.int .i64 a1_1)], .agg [.v (.int .i64 a2_0), .v (.int .i64 a2_1)]] R = (bif inB a1_0 && inB a2_0 && true && true && true && true && true then (bif inB a1_0 && inB a2_1 && true && true && true && true && true then (bif inB a1_1 && inB a2_0 && true && true && true && true && true then (bif inB a1_1 && inB a2_1 && true && true && true && true && true then (R (Ret.mk (.tup [(.one (.v (.int .i64 (if a1_1 * a2_1 < if a1_1 * a2_0 < if a1_0 * a2_1 < a1_0 * a2_0 then a1_0 * a2_1 else a1_0 * a2_0 then a1_1 * a2_0 else if a1_0 * a2_1 < a1_0 * a2_0 then a1_0 * a2_1 else a1_0 * a2_0 then a1_1 * a2_1 else if a1_1 * a2_0 < if a1_0 * a2_1 < a1_0 * a2_0 then a1_0 * a2_1 else a1_0 * a2_0 then a1_1 * a2_0 else if a1_0 * a2_1 < a1_0 * a2_0 then a1_0 * a2_1 else a1_0 * a2_0)))), (.one (.v (.int .i64 (if a1_1 * a2_1 > if a1_1 * a2_0 > if a1_0 * a2_1 > a1_0 * a2_0 then a1_0 * a2_1 else a1_0 * a2_0 then a1_1 * a2_0 else if a1_0 * a2_1 > a1_0 * a2_0 then a1_0 * a2_1 else a1_0 * a2_0 then a1_1 * a2_1 else if a1_1 * a2_0 > if a1_0 * a2_1 > a1_0 * a2_0 then a1_0 * a2_1 else a1_0 * a2_0 then a1_1 * a2_0 else if a1_0 * a2_1 > a1_0 * a2_0 then a1_0 * a2_1 else a1_0 * a2_0))))]) [])) else False) else False) else False) else False) := by kernel_rfl

def f122m_wp (a1_0 : Int) (a1_1 : Int) (a2_0 : Int) (a2_1 : Int) (R : Ret → Prop) : Prop := bif inB a1_0 && inB a2_0 && true && true && true && true && true then (bif inB a1_0 && inB a2_1 && true && true && true && true && true then (bif inB a1_1 && inB a2_0 && true && true && true && true && true then (bif inB a1_1 && inB a2_1 && true && true && true && true && true then (R (Ret.mk (.tup [(.one (.v (.int .i64 (if a1_1 * a2_1 < if a1_1 * a2_0 < if a1_0 * a2_1 < a1_0 * a2_0 then a1_0 * a2_1 else a1_0 * a2_0 then a1_1 * a2_0 else if a1_0 * a2_1 < a1_0 * a2_0 then a1_0 * a2_1 else a1_0 * a2_0 then a1_1 * a2_1 else if a1_1 * a2_0 < if a1_0 * a2_1 < a1_0 * a2_0 then a1_0 * a2_1 else a1_0 * a2_0 then a1_1 * a2_0 else if a1_0 * a2_1 < a1_0 * a2_0 then a1_0 * a2_1 else a1_0 * a2_0)))), (.one (.v (.int .i64 (if a1_1 * a2_1 > if a1_1 * a2_0 > if a1_0 * a2_1 > a1_0 * a2_0 then a1_0 * a2_1 else a1_0 * a2_0 then a1_1 * a2_0 else if a1_0 * a2_1 > a1_0 * a2_0 then a1_0 * a2_1 else a1_0 * a2_0 then a1_1 * a2_1 else if a1_1 * a2_0 > if a1_0 * a2_1 > a1_0 * a2_0 then a1_0 * a2_1 else a1_0 * a2_0 then a1_1 * a2_0 else if a1_0 * a2_1 > a1_0 * a2_0 then a1_0 * a2_1 else a1_0 * a2_0))))]) [])) else False) else False) else False) else False

set_option maxRecDepth 100000 in
theorem f122m_sound (a1_0 : Int) (a1_1 : Int) (a2_0 : Int) (a2_1 : Int) (hC : CtxOk Try.prog cx122m.q.ctx) {r : Ret} (h : f122m_wp a1_0 a1_1 a2_0 a2_1 (fun r' => r' = r)) : SoundAt Try.prog 122 [.one (.v (.func (.func 123) #[] #[])), .agg [.v (.int .i64 a1_0), .v (.int .i64 a1_1)], .agg [.v (.int .i64 a2_0), .v (.int .i64 a2_1)]] r := by
  refine soundAtO (C := cx122m) (oc := .e) mixed hC F122m_ok ?_
  rewrite [E122m a1_0 a1_1 a2_0 a2_1]
  unfold f122m_wp at h
  refine ck_mapE h (fun q1 h => ck_mapE h (fun q2 h => ck_mapE h (fun q3 h => ck_mapE h (fun q4 h => ?_))))
  exact h


def cx122d : CtxW := ⟨⟨[(127, sum127)], []⟩, 16, []⟩


def F122d : SFn := ⟨46, [(.tmp 6), (.tmp 7)], (.seq (.reg [(o1 4 (.box (.t 1))), (o1 5 (.box (.t 2))), (o1 6 (.mv (.c (.int .i64 0)))), (o1 7 (.mv (.c (.int .i64 0))))]) (.seq (.reg [(o1 12 (.mv (.t 0))), (o1 13 (.fld 0 (.t 4))), (o1 14 (.load .false .false 1 [(.some .i64)] (.t 13))), (o1 15 (.fld 0 (.t 5))), (o1 16 (.load .false .false 1 [(.some .i64)] (.t 15))), (o1 17 (.call .false .false (.t 12) [(.t 14), (.t 16)])), (o1 18 (.mv (.t 0))), (o1 19 (.fld 0 (.t 4))), (o1 20 (.load .false .false 1 [(.some .i64)] (.t 19))), (o1 21 (.fld 1 (.t 5))), (o1 22 (.load .false .false 1 [(.some .i64)] (.t 21))), (o1 23 (.call .false .false (.t 18) [(.t 20), (.t 22)])), (o1 24 (.mv (.t 0))), (o1 25 (.fld 1 (.t 4))), (o1 26 (.load .false .false 1 [(.some .i64)] (.t 25))), (o1 27 (.fld 0 (.t 5))), (o1 28 (.load .false .false 1 [(.some .i64)] (.t 27))), (o1 29 (.call .false .false (.t 24) [(.t 26), (.t 28)])), (o1 30 (.mv (.t 0))), (o1 31 (.fld 1 (.t 4))), (o1 32 (.load .false .false 1 [(.some .i64)] (.t 31))), (o1 33 (.fld 1 (.t 5))), (o1 34 (.load .false .false 1 [(.some .i64)] (.t 33))), (o1 35 (.call .false .false (.t 30) [(.t 32), (.t 34)])), (o1 8 (.mv (.t 17))), (o1 9 (.mv (.t 23))), (o1 10 (.mv (.t 29))), (o1 11 (.mv (.t 35)))]) (.seq (.reg [(o1 36 (.mv (.t 8))), (o1 37 (.mv (.t 9))), (o1 38 (.mv (.t 10))), (o1 39 (.mv (.t 11))), (o1 40 (.mm .false [(.t 36), (.t 37), (.t 38), (.t 39)])), (o1 41 (.mv (.t 8))), (o1 42 (.mv (.t 9))), (o1 43 (.mv (.t 10))), (o1 44 (.mv (.t 11))), (o1 45 (.mm .true [(.t 41), (.t 42), (.t 43), (.t 44)])), (o1 6 (.mv (.t 40))), (o1 7 (.mv (.t 45)))]) .ret)))⟩

theorem F122d_ok : sfn Try.prog hints 122 [] = some F122d := by kernel_rfl

theorem E122d (a1_0 : Int) (a1_1 : Int) (a2_0 : Int) (a2_1 : Int) (R : Ret → Prop) : wpFO cx122d F122d .e [.one (.v (.func (.func 127) #[] #[])), .agg [.v (.int .i64 a1_0), .v (.int .i64 a1_1)], .agg [.v (.int .i64 a2_0), .v (.int .i64 a2_1)]] R = (bif inB a1_0 && inB a2_0 && a2_0 != 0 && true && true && true && true && true then (bif inB a1_0 && inB a2_1 && a2_1 != 0 && true && true && true && true && true then (bif inB a1_1 && inB a2_0 && a2_0 != 0 && true && true && true && true && true then (bif inB a1_1 && inB a2_1 && a2_1 != 0 && true && true && true && true && true then (R (Ret.mk (.tup [(.one (.v (.int .i64 (if a1_1.tdiv a2_1 < if a1_1.tdiv a2_0 < if a1_0.tdiv a2_1 < a1_0.tdiv a2_0 then a1_0.tdiv a2_1 else a1_0.tdiv a2_0 then a1_1.tdiv a2_0 else if a1_0.tdiv a2_1 < a1_0.tdiv a2_0 then a1_0.tdiv a2_1 else a1_0.tdiv a2_0 then a1_1.tdiv a2_1 else if a1_1.tdiv a2_0 < if a1_0.tdiv a2_1 < a1_0.tdiv a2_0 then a1_0.tdiv a2_1 else a1_0.tdiv a2_0 then a1_1.tdiv a2_0 else if a1_0.tdiv a2_1 < a1_0.tdiv a2_0 then a1_0.tdiv a2_1 else a1_0.tdiv a2_0)))), (.one (.v (.int .i64 (if a1_1.tdiv a2_1 > if a1_1.tdiv a2_0 > if a1_0.tdiv a2_1 > a1_0.tdiv a2_0 then a1_0.tdiv a2_1 else a1_0.tdiv a2_0 then a1_1.tdiv a2_0 else if a1_0.tdiv a2_1 > a1_0.tdiv a2_0 then a1_0.tdiv a2_1 else a1_0.tdiv a2_0 then a1_1.tdiv a2_1 else if a1_1.tdiv a2_0 > if a1_0.tdiv a2_1 > a1_0.tdiv a2_0 then a1_0.tdiv a2_1 else a1_0.tdiv a2_0 then a1_1.tdiv a2_0 else if a1_0.tdiv a2_1 > a1_0.tdiv a2_0 then a1_0.tdiv a2_1 else a1_0.tdiv a2_0))))]) [])) else False) else False) else False) else False) := by kernel_rfl

def f122d_wp (a1_0 : Int) (a1_1 : Int) (a2_0 : Int) (a2_1 : Int) (R : Ret → Prop) : Prop := bif inB a1_0 && inB a2_0 && a2_0 != 0 && true && true && true && true && true then (bif inB a1_0 && inB a2_1 && a2_1 != 0 && true && true && true && true && true then (bif inB a1_1 && inB a2_0 && a2_0 != 0 && true && true && true && true && true then (bif inB a1_1 && inB a2_1 && a2_1 != 0 && true && true && true && true && true then (R (Ret.mk (.tup [(.one (.v (.int .i64 (if a1_1.tdiv a2_1 < if a1_1.tdiv a2_0 < if a1_0.tdiv a2_1 < a1_0.tdiv a2_0 then a1_0.tdiv a2_1 else a1_0.tdiv a2_0 then a1_1.tdiv a2_0 else if a1_0.tdiv a2_1 < a1_0.tdiv a2_0 then a1_0.tdiv a2_1 else a1_0.tdiv a2_0 then a1_1.tdiv a2_1 else if a1_1.tdiv a2_0 < if a1_0.tdiv a2_1 < a1_0.tdiv a2_0 then a1_0.tdiv a2_1 else a1_0.tdiv a2_0 then a1_1.tdiv a2_0 else if a1_0.tdiv a2_1 < a1_0.tdiv a2_0 then a1_0.tdiv a2_1 else a1_0.tdiv a2_0)))), (.one (.v (.int .i64 (if a1_1.tdiv a2_1 > if a1_1.tdiv a2_0 > if a1_0.tdiv a2_1 > a1_0.tdiv a2_0 then a1_0.tdiv a2_1 else a1_0.tdiv a2_0 then a1_1.tdiv a2_0 else if a1_0.tdiv a2_1 > a1_0.tdiv a2_0 then a1_0.tdiv a2_1 else a1_0.tdiv a2_0 then a1_1.tdiv a2_1 else if a1_1.tdiv a2_0 > if a1_0.tdiv a2_1 > a1_0.tdiv a2_0 then a1_0.tdiv a2_1 else a1_0.tdiv a2_0 then a1_1.tdiv a2_0 else if a1_0.tdiv a2_1 > a1_0.tdiv a2_0 then a1_0.tdiv a2_1 else a1_0.tdiv a2_0))))]) [])) else False) else False) else False) else False

set_option maxRecDepth 100000 in
theorem f122d_sound (a1_0 : Int) (a1_1 : Int) (a2_0 : Int) (a2_1 : Int) (hC : CtxOk Try.prog cx122d.q.ctx) {r : Ret} (h : f122d_wp a1_0 a1_1 a2_0 a2_1 (fun r' => r' = r)) : SoundAt Try.prog 122 [.one (.v (.func (.func 127) #[] #[])), .agg [.v (.int .i64 a1_0), .v (.int .i64 a1_1)], .agg [.v (.int .i64 a2_0), .v (.int .i64 a2_1)]] r := by
  refine soundAtO (C := cx122d) (oc := .e) mixed hC F122d_ok ?_
  rewrite [E122d a1_0 a1_1 a2_0 a2_1]
  unfold f122d_wp at h
  refine ck_mapE h (fun q1 h => ck_mapE h (fun q2 h => ck_mapE h (fun q3 h => ck_mapE h (fun q4 h => ?_))))
  exact h


def cx125 : CtxW := ⟨⟨[(30, sum30), (53, sum53)], []⟩, 16, []⟩


def F125 : SFn := ⟨48, [(.cell 4 .true 2)], (.seq (.reg [(o1 2 (.box (.t 0))), (o1 3 (.box (.t 1))), (o1 4 (.alloc [(.int .i64 0), (.int .i64 0)]))]) (.seq (.seq (.reg [(o1 6 (.fld 0 (.t 2))), (o1 7 (.load .false .false 1 [(.some .i64)] (.t 6))), (o1 8 (.fld 1 (.t 2))), (o1 9 (.load .false .false 1 [(.some .i64)] (.t 8))), (o1 10 (.bin .eql (.t 7) (.t 9))), (o1 11 (.mv (.t 10))), (oS 12 (.fld 0 (.t 3)) (.some (11, .true))), (oS 13 (.load .false .false 1 [(.some .i64)] (.t 12)) (.some (11, .true))), (oS 14 (.fld 1 (.t 3)) (.some (11, .true))), (oS 15 (.load .false .false 1 [(.some .i64)] (.t 14)) (.some (11, .true))), (oS 16 (.bin .eql (.t 13) (.t 15)) (.some (11, .true))), (o1 17 (.pick (.t 11) (.t 16) (.c (.bool .false))))]) (.cond (.t 17) (.seq (.reg [(o1 18 (.fld 0 (.t 2))), (o1 19 (.load .false .false 1 [(.some .i64)] (.t 18))), (o1 20 (.fld 0 (.t 3))), (o1 21 (.load .false .false 1 [(.some .i64)] (.t 20))), (o1 22 (.bin .rem (.t 19) (.t 21))), (o1 23 (.call .false .false (.f 30) [(.t 22)])), (oN (.store .false 2 (.t 4) (.t 23)))]) .ret) .skip)) (.seq (.reg [(o1 24 (.fld 0 (.t 3))), (o1 25 (.load .false .false 1 [(.some .i64)] (.t 24))), (o1 26 (.un .neg (.t 25))), (o1 27 (.fld 1 (.t 3))), (o1 28 (.load .false .false 1 [(.some .i64)] (.t 27))), (o1 29 (.fld 0 (.t 3))), (o1 30 (.load .false .false 1 [(.some .i64)] (.t 29))), (o1 31 (.fld 1 (.t 3))), (o1 32 (.load .false .false 1 [(.some .i64)] (.t 31))), (o1 33 (.un .neg (.t 32))), (o1 34 (.mm .true [(.t 26), (.t 28), (.t 30), (.t 33)])), (o1 35 (.bin .sub (.t 34) (.c (.int .i64 1)))), (o1 5 (.mv (.t 35)))]) (.seq (.reg [(o1 36 (.fld 0 (.t 2))), (o1 37 (.load .false .false 1 [(.some .i64)] (.t 36))), (o1 38 (.mm .false [(.t 37), (.c (.int .i64 0))])), (o1 39 (.mv (.t 5))), (o1 40 (.un .neg (.t 39))), (o1 41 (.mm .true [(.t 38), (.t 40)])), (o1 42 (.fld 1 (.t 2))), (o1 43 (.load .false .false 1 [(.some .i64)] (.t 42))), (o1 44 (.mm .true [(.t 43), (.c (.int .i64 0))])), (o1 45 (.mv (.t 5))), (o1 46 (.mm .false [(.t 44), (.t 45)])), (o1 47 (.call .false .false (.f 53) [(.t 41), (.t 46)])), (oN (.store .false 2 (.t 4) (.t 47)))]) .ret))))⟩

theorem F125_ok : sfn Try.prog hints 125 [] = some F125 := by kernel_rfl

theorem E125 (a0_0 : Int) (a0_1 : Int) (a1_0 : Int) (a1_1 : Int) (R : Ret → Prop) : wpFO cx125 F125 (.two (.n 3 (.two .e .e)) (.n 4 .e)) [(.agg [(.v (.int .i64 a0_0)), (.v (.int .i64 a0_1))]), (.agg [(.v (.int .i64 a1_0)), (.v (.int .i64 a1_1))])] R = (bif a0_0 == a0_1 then (bif a1_0 == a1_1 then (bif a1_0 != 0 then (letV (ofP (a0_0.tmod a1_0) (a0_0.tmod a1_0)) (fun (u4 : Int × Int) => R (Ret.mk (.agg [(.v (.int .i64 (u4.1))), (.v (.int .i64 (u4.2)))]) []))) else False) else (letV (ofP (if IntKind.i64.wrap (0 - IntKind.i64.wrap ((if IntKind.i64.wrap (0 - a1_1) > if a1_0 > if a1_1 > IntKind.i64.wrap (0 - a1_0) then a1_1 else IntKind.i64.wrap (0 - a1_0) then a1_0 else if a1_1 > IntKind.i64.wrap (0 - a1_0) then a1_1 else IntKind.i64.wrap (0 - a1_0) then IntKind.i64.wrap (0 - a1_1) else if a1_0 > if a1_1 > IntKind.i64.wrap (0 - a1_0) then a1_1 else IntKind.i64.wrap (0 - a1_0) then a1_0 else if a1_1 > IntKind.i64.wrap (0 - a1_0) then a1_1 else IntKind.i64.wrap (0 - a1_0)) - 1)) > if 0 < a0_0 then 0 else a0_0 then IntKind.i64.wrap (0 - IntKind.i64.wrap ((if IntKind.i64.wrap (0 - a1_1) > if a1_0 > if a1_1 > IntKind.i64.wrap (0 - a1_0) then a1_1 else IntKind.i64.wrap (0 - a1_0) then a1_0 else if a1_1 > IntKind.i64.wrap (0 - a1_0) then a1_1 else IntKind.i64.wrap (0 - a1_0) then IntKind.i64.wrap (0 - a1_1) else if a1_0 > if a1_1 > IntKind.i64.wrap (0 - a1_0) then a1_1 else IntKind.i64.wrap (0 - a1_0) then a1_0 else if a1_1 > IntKind.i64.wrap (0 - a1_0) then a1_1 else IntKind.i64.wrap (0 - a1_0)) - 1)) else if 0 < a0_0 then 0 else a0_0) (if IntKind.i64.wrap ((if IntKind.i64.wrap (0 - a1_1) > if a1_0 > if a1_1 > IntKind.i64.wrap (0 - a1_0) then a1_1 else IntKind.i64.wrap (0 - a1_0) then a1_0 else if a1_1 > IntKind.i64.wrap (0 - a1_0) then a1_1 else IntKind.i64.wrap (0 - a1_0) then IntKind.i64.wrap (0 - a1_1) else if a1_0 > if a1_1 > IntKind.i64.wrap (0 - a1_0) then a1_1 else IntKind.i64.wrap (0 - a1_0) then a1_0 else if a1_1 > IntKind.i64.wrap (0 - a1_0) then a1_1 else IntKind.i64.wrap (0 - a1_0)) - 1) < if 0 > a0_1 then 0 else a0_1 then IntKind.i64.wrap ((if IntKind.i64.wrap (0 - a1_1) > if a1_0 > if a1_1 > IntKind.i64.wrap (0 - a1_0) then a1_1 else IntKind.i64.wrap (0 - a1_0) then a1_0 else if a1_1 > IntKind.i64.wrap (0 - a1_0) then a1_1 else IntKind.i64.wrap (0 - a1_0) then IntKind.i64.wrap (0 - a1_1) else if a1_0 > if a1_1 > IntKind.i64.wrap (0 - a1_0) then a1_1 else IntKind.i64.wrap (0 - a1_0) then a1_0 else if a1_1 > IntKind.i64.wrap (0 - a1_0) then a1_1 else IntKind.i64.wrap (0 - a1_0)) - 1) else if 0 > a0_1 then 0 else a0_1)) (fun (u5 : Int × Int) => R (Ret.mk (.agg [(.v (.int .i64 (u5.1))), (.v (.int .i64 (u5.2)))]) [])))) else (letV (ofP (if IntKind.i64.wrap (0 - IntKind.i64.wrap ((if IntKind.i64.wrap (0 - a1_1) > if a1_0 > if a1_1 > IntKind.i64.wrap (0 - a1_0) then a1_1 else IntKind.i64.wrap (0 - a1_0) then a1_0 else if a1_1 > IntKind.i64.wrap (0 - a1_0) then a1_1 else IntKind.i64.wrap (0 - a1_0) then IntKind.i64.wrap (0 - a1_1) else if a1_0 > if a1_1 > IntKind.i64.wrap (0 - a1_0) then a1_1 else IntKind.i64.wrap (0 - a1_0) then a1_0 else if a1_1 > IntKind.i64.wrap (0 - a1_0) then a1_1 else IntKind.i64.wrap (0 - a1_0)) - 1)) > if 0 < a0_0 then 0 else a0_0 then IntKind.i64.wrap (0 - IntKind.i64.wrap ((if IntKind.i64.wrap (0 - a1_1) > if a1_0 > if a1_1 > IntKind.i64.wrap (0 - a1_0) then a1_1 else IntKind.i64.wrap (0 - a1_0) then a1_0 else if a1_1 > IntKind.i64.wrap (0 - a1_0) then a1_1 else IntKind.i64.wrap (0 - a1_0) then IntKind.i64.wrap (0 - a1_1) else if a1_0 > if a1_1 > IntKind.i64.wrap (0 - a1_0) then a1_1 else IntKind.i64.wrap (0 - a1_0) then a1_0 else if a1_1 > IntKind.i64.wrap (0 - a1_0) then a1_1 else IntKind.i64.wrap (0 - a1_0)) - 1)) else if 0 < a0_0 then 0 else a0_0) (if IntKind.i64.wrap ((if IntKind.i64.wrap (0 - a1_1) > if a1_0 > if a1_1 > IntKind.i64.wrap (0 - a1_0) then a1_1 else IntKind.i64.wrap (0 - a1_0) then a1_0 else if a1_1 > IntKind.i64.wrap (0 - a1_0) then a1_1 else IntKind.i64.wrap (0 - a1_0) then IntKind.i64.wrap (0 - a1_1) else if a1_0 > if a1_1 > IntKind.i64.wrap (0 - a1_0) then a1_1 else IntKind.i64.wrap (0 - a1_0) then a1_0 else if a1_1 > IntKind.i64.wrap (0 - a1_0) then a1_1 else IntKind.i64.wrap (0 - a1_0)) - 1) < if 0 > a0_1 then 0 else a0_1 then IntKind.i64.wrap ((if IntKind.i64.wrap (0 - a1_1) > if a1_0 > if a1_1 > IntKind.i64.wrap (0 - a1_0) then a1_1 else IntKind.i64.wrap (0 - a1_0) then a1_0 else if a1_1 > IntKind.i64.wrap (0 - a1_0) then a1_1 else IntKind.i64.wrap (0 - a1_0) then IntKind.i64.wrap (0 - a1_1) else if a1_0 > if a1_1 > IntKind.i64.wrap (0 - a1_0) then a1_1 else IntKind.i64.wrap (0 - a1_0) then a1_0 else if a1_1 > IntKind.i64.wrap (0 - a1_0) then a1_1 else IntKind.i64.wrap (0 - a1_0)) - 1) else if 0 > a0_1 then 0 else a0_1)) (fun (u6 : Int × Int) => R (Ret.mk (.agg [(.v (.int .i64 (u6.1))), (.v (.int .i64 (u6.2)))]) [])))) := by kernel_rfl

def f125_wp (a0_0 : Int) (a0_1 : Int) (a1_0 : Int) (a1_1 : Int) (R : Ret → Prop) : Prop := bif a0_0 == a0_1 then (bif a1_0 == a1_1 then (bif a1_0 != 0 then (letV (ofP (a0_0.tmod a1_0) (a0_0.tmod a1_0)) (fun (u4 : Int × Int) => R (Ret.mk (.agg [(.v (.int .i64 (u4.1))), (.v (.int .i64 (u4.2)))]) []))) else False) else (letV (ofP (if IntKind.i64.wrap (0 - IntKind.i64.wrap ((if IntKind.i64.wrap (0 - a1_1) > if a1_0 > if a1_1 > IntKind.i64.wrap (0 - a1_0) then a1_1 else IntKind.i64.wrap (0 - a1_0) then a1_0 else if a1_1 > IntKind.i64.wrap (0 - a1_0) then a1_1 else IntKind.i64.wrap (0 - a1_0) then IntKind.i64.wrap (0 - a1_1) else if a1_0 > if a1_1 > IntKind.i64.wrap (0 - a1_0) then a1_1 else IntKind.i64.wrap (0 - a1_0) then a1_0 else if a1_1 > IntKind.i64.wrap (0 - a1_0) then a1_1 else IntKind.i64.wrap (0 - a1_0)) - 1)) > if 0 < a0_0 then 0 else a0_0 then IntKind.i64.wrap (0 - IntKind.i64.wrap ((if IntKind.i64.wrap (0 - a1_1) > if a1_0 > if a1_1 > IntKind.i64.wrap (0 - a1_0) then a1_1 else IntKind.i64.wrap (0 - a1_0) then a1_0 else if a1_1 > IntKind.i64.wrap (0 - a1_0) then a1_1 else IntKind.i64.wrap (0 - a1_0) then IntKind.i64.wrap (0 - a1_1) else if a1_0 > if a1_1 > IntKind.i64.wrap (0 - a1_0) then a1_1 else IntKind.i64.wrap (0 - a1_0) then a1_0 else if a1_1 > IntKind.i64.wrap (0 - a1_0) then a1_1 else IntKind.i64.wrap (0 - a1_0)) - 1)) else if 0 < a0_0 then 0 else a0_0) (if IntKind.i64.wrap ((if IntKind.i64.wrap (0 - a1_1) > if a1_0 > if a1_1 > IntKind.i64.wrap (0 - a1_0) then a1_1 else IntKind.i64.wrap (0 - a1_0) then a1_0 else if a1_1 > IntKind.i64.wrap (0 - a1_0) then a1_1 else IntKind.i64.wrap (0 - a1_0) then IntKind.i64.wrap (0 - a1_1) else if a1_0 > if a1_1 > IntKind.i64.wrap (0 - a1_0) then a1_1 else IntKind.i64.wrap (0 - a1_0) then a1_0 else if a1_1 > IntKind.i64.wrap (0 - a1_0) then a1_1 else IntKind.i64.wrap (0 - a1_0)) - 1) < if 0 > a0_1 then 0 else a0_1 then IntKind.i64.wrap ((if IntKind.i64.wrap (0 - a1_1) > if a1_0 > if a1_1 > IntKind.i64.wrap (0 - a1_0) then a1_1 else IntKind.i64.wrap (0 - a1_0) then a1_0 else if a1_1 > IntKind.i64.wrap (0 - a1_0) then a1_1 else IntKind.i64.wrap (0 - a1_0) then IntKind.i64.wrap (0 - a1_1) else if a1_0 > if a1_1 > IntKind.i64.wrap (0 - a1_0) then a1_1 else IntKind.i64.wrap (0 - a1_0) then a1_0 else if a1_1 > IntKind.i64.wrap (0 - a1_0) then a1_1 else IntKind.i64.wrap (0 - a1_0)) - 1) else if 0 > a0_1 then 0 else a0_1)) (fun (u5 : Int × Int) => R (Ret.mk (.agg [(.v (.int .i64 (u5.1))), (.v (.int .i64 (u5.2)))]) [])))) else (letV (ofP (if IntKind.i64.wrap (0 - IntKind.i64.wrap ((if IntKind.i64.wrap (0 - a1_1) > if a1_0 > if a1_1 > IntKind.i64.wrap (0 - a1_0) then a1_1 else IntKind.i64.wrap (0 - a1_0) then a1_0 else if a1_1 > IntKind.i64.wrap (0 - a1_0) then a1_1 else IntKind.i64.wrap (0 - a1_0) then IntKind.i64.wrap (0 - a1_1) else if a1_0 > if a1_1 > IntKind.i64.wrap (0 - a1_0) then a1_1 else IntKind.i64.wrap (0 - a1_0) then a1_0 else if a1_1 > IntKind.i64.wrap (0 - a1_0) then a1_1 else IntKind.i64.wrap (0 - a1_0)) - 1)) > if 0 < a0_0 then 0 else a0_0 then IntKind.i64.wrap (0 - IntKind.i64.wrap ((if IntKind.i64.wrap (0 - a1_1) > if a1_0 > if a1_1 > IntKind.i64.wrap (0 - a1_0) then a1_1 else IntKind.i64.wrap (0 - a1_0) then a1_0 else if a1_1 > IntKind.i64.wrap (0 - a1_0) then a1_1 else IntKind.i64.wrap (0 - a1_0) then IntKind.i64.wrap (0 - a1_1) else if a1_0 > if a1_1 > IntKind.i64.wrap (0 - a1_0) then a1_1 else IntKind.i64.wrap (0 - a1_0) then a1_0 else if a1_1 > IntKind.i64.wrap (0 - a1_0) then a1_1 else IntKind.i64.wrap (0 - a1_0)) - 1)) else if 0 < a0_0 then 0 else a0_0) (if IntKind.i64.wrap ((if IntKind.i64.wrap (0 - a1_1) > if a1_0 > if a1_1 > IntKind.i64.wrap (0 - a1_0) then a1_1 else IntKind.i64.wrap (0 - a1_0) then a1_0 else if a1_1 > IntKind.i64.wrap (0 - a1_0) then a1_1 else IntKind.i64.wrap (0 - a1_0) then IntKind.i64.wrap (0 - a1_1) else if a1_0 > if a1_1 > IntKind.i64.wrap (0 - a1_0) then a1_1 else IntKind.i64.wrap (0 - a1_0) then a1_0 else if a1_1 > IntKind.i64.wrap (0 - a1_0) then a1_1 else IntKind.i64.wrap (0 - a1_0)) - 1) < if 0 > a0_1 then 0 else a0_1 then IntKind.i64.wrap ((if IntKind.i64.wrap (0 - a1_1) > if a1_0 > if a1_1 > IntKind.i64.wrap (0 - a1_0) then a1_1 else IntKind.i64.wrap (0 - a1_0) then a1_0 else if a1_1 > IntKind.i64.wrap (0 - a1_0) then a1_1 else IntKind.i64.wrap (0 - a1_0) then IntKind.i64.wrap (0 - a1_1) else if a1_0 > if a1_1 > IntKind.i64.wrap (0 - a1_0) then a1_1 else IntKind.i64.wrap (0 - a1_0) then a1_0 else if a1_1 > IntKind.i64.wrap (0 - a1_0) then a1_1 else IntKind.i64.wrap (0 - a1_0)) - 1) else if 0 > a0_1 then 0 else a0_1)) (fun (u6 : Int × Int) => R (Ret.mk (.agg [(.v (.int .i64 (u6.1))), (.v (.int .i64 (u6.2)))]) [])))

set_option maxRecDepth 100000 in
theorem f125_sound (a0_0 : Int) (a0_1 : Int) (a1_0 : Int) (a1_1 : Int) (hC : CtxOk Try.prog cx125.q.ctx) {r : Ret} (h : f125_wp a0_0 a0_1 a1_0 a1_1 (fun r' => r' = r)) : SoundAt Try.prog 125 [(.agg [(.v (.int .i64 a0_0)), (.v (.int .i64 a0_1))]), (.agg [(.v (.int .i64 a1_0)), (.v (.int .i64 a1_1))])] r := by
  refine soundAtO (C := cx125) (oc := (.two (.n 3 (.two .e .e)) (.n 4 .e))) mixed hC F125_ok ?_
  rewrite [E125 a0_0 a0_1 a1_0 a1_1]
  unfold f125_wp at h
  refine cond_mapE h (fun q1 h => ?_) (fun q1 h => ?_)
  · skip
    refine cond_mapE h (fun q2 h => ?_) (fun q2 h => ?_)
    · skip
      refine ck_mapE h (fun q3 h => letV_mapE h (fun u4 h => ?_))
      exact h
    · skip
      refine letV_mapE h (fun u5 h => ?_)
      exact h
  · skip
    refine letV_mapE h (fun u6 h => ?_)
    exact h


def cx126 : CtxW := ⟨⟨[(36, sum36), (53, sum53), (115, sum115), (44, sum44), (122, sum122), (121, sum121), (128, sum128)], []⟩, 16, []⟩


def F126_b0 : SC := (.seq (.reg [(o1 24 (.bin .lss (.t 23) (.t 22)))]) (.seq (.cond (.t 24) .skip (.exit 0)) (.seq (.blk 1 (.seq (.reg [(o1 25 (.ixS 2 (.t 21) (.t 23))), (o1 26 (.load .true .true 2 [(.some .i64), (.some .i64)] (.t 25))), (o1 9 (.alloc [(.int .i64 0), (.int .i64 0)])), (oN (.store .false 2 (.t 9) (.t 26)))]) (.seq (.seq (.reg [(o1 27 (.load .false .true 2 [(.some .i64), (.some .i64)] (.t 9))), (o1 28 (.call .false .false (.f 44) [(.t 27)]))]) (.cond (.t 28) (.exit 1) .skip)) (.seq (.reg [(o1 30 (.load .false .true 2 [(.some .i64), (.some .i64)] (.t 2))), (o1 31 (.load .false .true 2 [(.some .i64), (.some .i64)] (.t 9))), (o1 32 (.call .false .false (.f 122) [(.f 127), (.t 30), (.t 31)])), (o1 29 (.mv (.t 32))), (o1 33 (.ext 0 (.t 29))), (o1 34 (.ext 1 (.t 29))), (o1 10 (.mv (.t 33))), (o1 11 (.mv (.t 34)))]) (.seq (.reg [(o1 36 (.mv (.t 10))), (o1 37 (.mv (.t 11))), (o1 38 (.call .false .false (.f 121) [(.t 36), (.t 37)])), (o1 35 (.mv (.t 38))), (o1 39 (.ext 0 (.t 35))), (o1 40 (.ext 1 (.t 35))), (o1 12 (.alloc [(.int .i64 0), (.int .i64 0)])), (o1 13 (.alloc [(.bool .false), (.bool .false)])), (oN (.store .false 2 (.t 12) (.t 39))), (oN (.store .false 2 (.t 13) (.t 40)))]) (.reg [(o1 41 (.load .false .true 2 [(.some .i64), (.some .i64)] (.t 6))), (o1 42 (.load .false .true 2 [(.some .i64), (.some .i64)] (.t 12))), (o1 43 (.call .false .false (.f 128) [(.t 41), (.t 42)])), (o1 44 (.mv (.t 7))), (o1 45 (.mv (.t 44))), (oS 46 (.fld 0 (.t 13)) (.some (45, .false))), (oS 47 (.load .false .false 1 [.none] (.t 46)) (.some (45, .false))), (o1 48 (.pick (.t 45) (.c (.bool .true)) (.t 47))), (oN (.store .false 2 (.t 6) (.t 43))), (o1 7 (.mv (.t 48)))])))))) (.reg [(o1 49 (.bin .add (.t 23) (.c (.int .i64 1)))), (o1 23 (.mv (.t 49)))]))))

def F126_c1 : SC := (.seq (.reg [(o1 50 (.load .false .true 2 [(.some .i64), (.some .i64)] (.t 6))), (o1 51 (.mv (.t 7))), (o1 52 (.build [(.bool .false), (.bool .false)] [(0, (1, (.t 51)))])), (oN (.store .false 2 (.t 4) (.t 50))), (oN (.store .false 2 (.t 5) (.t 52)))]) .ret)

def F126 : SFn := ⟨53, [(.cell 4 .true 2), (.cell 5 .true 2)], (.seq (.reg [(o1 2 (.box (.t 0))), (o1 3 (.box (.t 1))), (o1 4 (.alloc [(.int .i64 0), (.int .i64 0)])), (o1 5 (.alloc [(.bool .false), (.bool .false)]))]) (.seq (.reg [(o1 14 (.call .false .false (.f 36) [])), (o1 6 (.alloc [(.int .i64 0), (.int .i64 0)])), (oN (.store .false 2 (.t 6) (.t 14))), (o1 7 (.mv (.c (.bool .false))))]) (.seq (.seq (.reg [(o1 15 (.load .false .true 2 [(.some .i64), (.some .i64)] (.t 3))), (o1 16 (.call .false .false (.f 53) [(.c (.int .i64 (-2147483648))), (.c (.int .i64 (-1)))])), (o1 17 (.call .false .false (.f 115) [(.t 15), (.t 16)])), (o1 18 (.load .false .true 2 [(.some .i64), (.some .i64)] (.t 3))), (o1 19 (.call .false .false (.f 53) [(.c (.int .i64 1)), (.c (.int .i64 2147483647))])), (o1 20 (.call .false .false (.f 115) [(.t 18), (.t 19)])), (o1 21 (.buildS 32 2 2 [(.int .i64 0), (.int .i64 0), (.int .i64 0), (.int .i64 0)] [(0, (.t 17)), (1, (.t 20))])), (o1 22 (.len (.t 21))), (o1 23 (.mv (.c (.int .i64 0))))]) (.blk 0 (.loop [2, 4, 5, 6, 7, 21, 22, 23] [2, 4, 5, 6] [21] F126_b0))) F126_c1)))⟩

theorem F126_ok : sfn Try.prog hints 126 [([2, 4, 5, 6, 7, 21, 22, 23], ([2, 4, 5, 6], [21]))] = some F126 := by kernel_rfl

def I126_0_0 (a0_0 : Int) (a0_1 : Int) (a1_0 : Int) (a1_1 : Int) (u1 : Int × Int) (u2 : Int × Int) (u3 : Int × Int) (u4 : Int × Int) (y0_0 : Bool) (y0_1 : Int) (y0_2 : Int) (y0_3 : Int) : St := (.mk (.no :: (.no :: ((.box 2 0 0) :: (.no :: ((.box 4 0 0) :: ((.box 5 0 0) :: ((.box 6 0 0) :: ((.one (vb y0_0)) :: (n10 (.no :: (.no :: (.no :: ((.one (.own 21 0)) :: ((.one (.v (.int .i64 2))) :: ((.one (vi y0_1)) :: (n10 (n10 (.no :: (.no :: (.no :: (.no :: (.no :: (.no :: (.no :: (.no :: (.no :: [])))))))))))))))))))))))))) ([] :: ([] :: ([[(vi a0_0), (vi a0_1)]] :: ([] :: ([[(.v (.int .i64 0)), (.v (.int .i64 0))]] :: ([[(.v (.bool .false)), (.v (.bool .false))]] :: ([[(vi y0_2), (vi y0_3)]] :: (e10 (e10 (e10 (e10 ([] :: ([] :: ([] :: ([] :: ([] :: ([] :: []))))))))))))))))) (e10 (e10 ([] :: ([(Tok.mk 32 2 2 [(vi (u2.1)), (vi (u2.2)), (vi (u4.1)), (vi (u4.2))] .true)] :: (e10 (e10 (e10 ([] :: [])))))))))

theorem E126_0_0 (a0_0 : Int) (a0_1 : Int) (a1_0 : Int) (a1_1 : Int) (u1 : Int × Int) (u2 : Int × Int) (u3 : Int × Int) (u4 : Int × Int) (y0_0 : Bool) (y0_1 : Int) (y0_2 : Int) (y0_3 : Int) (N0 : Bool × St → Prop) (R : Ret → Prop) : wpO cx126 F126_b0 (.two (.two .e (.two (.n 0 .e) (.n 0 .e))) .e) (I126_0_0 a0_0 a0_1 a1_0 a1_1 u1 u2 u3 u4 y0_0 y0_1 y0_2 y0_3) (kLp (headW cx126.m [2, 4, 5, 6, 7, 21, 22, 23] [2, 4, 5, 6] [21]) N0 (kBlk 0 (kSeq cx126 F126_c1 (endO cx126.m F126.rs R)))) = (bif decide (y0_1 < 2) then (bif decide (0 ≤ y0_1) && decide (y0_1 < (↑2 : Int)) then (bif decide (y0_1.toNat * 2 + 2 ≤ 4) && (okK (some .i64) ([Cell.v (Value.int .i64 u2.1), Cell.v (Value.int .i64 u2.2), Cell.v (Value.int .i64 u4.1), Cell.v (Value.int .i64 u4.2)].getD (y0_1.toNat * 2) .dead) && (okK (some .i64) ([Cell.v (Value.int .i64 u2.2), Cell.v (Value.int .i64 u4.1), Cell.v (Value.int .i64 u4.2)].getD (y0_1.toNat * 2) .dead) && true)) then (bif emptyP (intC ([Cell.v (Value.int .i64 u2.1), Cell.v (Value.int .i64 u2.2), Cell.v (Value.int .i64 u4.1), Cell.v (Value.int .i64 u4.2)].getD (y0_1.toNat * 2) .dead)) (intC ([Cell.v (Value.int .i64 u2.2), Cell.v (Value.int .i64 u4.1), Cell.v (Value.int .i64 u4.2)].getD (y0_1.toNat * 2) .dead)) then (N0 (true, (I126_0_0 a0_0 a0_1 a1_0 a1_1 u1 u2 u3 u4 (y0_0) (IntKind.i64.wrap (y0_1 + 1)) (y0_2) (y0_3)))) else (letV (corD (a0_0, a0_1) (intC ([Cell.v (Value.int .i64 u2.1), Cell.v (Value.int .i64 u2.2), Cell.v (Value.int .i64 u4.1), Cell.v (Value.int .i64 u4.2)].getD (y0_1.toNat * 2) .dead), intC ([Cell.v (Value.int .i64 u2.2), Cell.v (Value.int .i64 u4.1), Cell.v (Value.int .i64 u4.2)].getD (y0_1.toNat * 2) .dead))) (fun (u23 : Int × Int) => bif inP (a0_0, a0_1) && inP (intC ([Cell.v (Value.int .i64 u2.1), Cell.v (Value.int .i64 u2.2), Cell.v (Value.int .i64 u4.1), Cell.v (Value.int .i64 u4.2)].getD (y0_1.toNat * 2) .dead), intC ([Cell.v (Value.int .i64 u2.2), Cell.v (Value.int .i64 u4.1), Cell.v (Value.int .i64 u4.2)].getD (y0_1.toNat * 2) .dead)) && intC ([Cell.v (Value.int .i64 u2.1), Cell.v (Value.int .i64 u2.2), Cell.v (Value.int .i64 u4.1), Cell.v (Value.int .i64 u4.2)].getD (y0_1.toNat * 2) .dead) != 0 && intC ([Cell.v (Value.int .i64 u2.2), Cell.v (Value.int .i64 u4.1), Cell.v (Value.int .i64 u4.2)].getD (y0_1.toNat * 2) .dead) != 0 && true && true && true && true && true then (letV (cutP u23.1 u23.2) (fun (u25 : (Int × Int) × Bool × Bool) => letV (joinI (y0_2, y0_3) (u25.1.1, u25.1.2)) (fun (u26 : Int × Int) => bif y0_0 then (N0 (true, (I126_0_0 a0_0 a0_1 a1_0 a1_1 u1 u2 u3 u4 (true) (IntKind.i64.wrap (y0_1 + 1)) (u26.1) (u26.2)))) else (N0 (true, (I126_0_0 a0_0 a0_1 a1_0 a1_1 u1 u2 u3 u4 (u25.2.1) (IntKind.i64.wrap (y0_1 + 1)) (u26.1) (u26.2))))))) else False))) else False) else False) else (R (Ret.mk (.tup [(.agg [(.v (.int .i64 (y0_2))), (.v (.int .i64 (y0_3)))]), (.agg [(.v (.bool (y0_0))), (.v (.bool .false))])]) []))) := by kernel_rfl

theorem E126 (a0_0 : Int) (a0_1 : Int) (a1_0 : Int) (a1_1 : Int) (R : Ret → Prop) : wpFO cx126 F126 .e [(.agg [(.v (.int .i64 a0_0)), (.v (.int .i64 a0_1))]), (.agg [(.v (.int .i64 a1_0)), (.v (.int .i64 a1_1))])] R = (letV (ofP (-2147483648) (-1)) (fun (u1 : Int × Int) => letV (mI (a1_0, a1_1) (u1.1, u1.2)) (fun (u2 : Int × Int) => letV (ofP 1 2147483647) (fun (u3 : Int × Int) => letV (mI (a1_0, a1_1) (u3.1, u3.2)) (fun (u4 : Int × Int) => LoopO (bodyX cx126 F126_b0) (headW cx126.m [2, 4, 5, 6, 7, 21, 22, 23] [2, 4, 5, 6] [21]) (kBlk 0 (kSeq cx126 F126_c1 (endO cx126.m F126.rs R))) (true, (I126_0_0 a0_0 a0_1 a1_0 a1_1 u1 u2 u3 u4 (false) 0 1 0))))))) := by kernel_rfl

def f126_wp (a0_0 : Int) (a0_1 : Int) (a1_0 : Int) (a1_1 : Int) (R : Ret → Prop) : Prop := letV (ofP (-2147483648) (-1)) (fun (u1 : Int × Int) => letV (mI (a1_0, a1_1) (u1.1, u1.2)) (fun (u2 : Int × Int) => letV (ofP 1 2147483647) (fun (u3 : Int × Int) => letV (mI (a1_0, a1_1) (u3.1, u3.2)) (fun (u4 : Int × Int) => LoopP (fun (z0 : (Bool × Int × Int × Int)) (k0 : (Bool × Int × Int × Int) → Prop) => (fun (z : Bool × Int × Int × Int) => (fun (y0_0 : Bool) (y0_1 : Int) (y0_2 : Int) (y0_3 : Int) => bif decide (y0_1 < 2) then (bif decide (0 ≤ y0_1) && decide (y0_1 < (↑2 : Int)) then (bif decide (y0_1.toNat * 2 + 2 ≤ 4) && (okK (some .i64) ([Cell.v (Value.int .i64 u2.1), Cell.v (Value.int .i64 u2.2), Cell.v (Value.int .i64 u4.1), Cell.v (Value.int .i64 u4.2)].getD (y0_1.toNat * 2) .dead) && (okK (some .i64) ([Cell.v (Value.int .i64 u2.2), Cell.v (Value.int .i64 u4.1), Cell.v (Value.int .i64 u4.2)].getD (y0_1.toNat * 2) .dead) && true)) then (bif emptyP (intC ([Cell.v (Value.int .i64 u2.1), Cell.v (Value.int .i64 u2.2), Cell.v (Value.int .i64 u4.1), Cell.v (Value.int .i64 u4.2)].getD (y0_1.toNat * 2) .dead)) (intC ([Cell.v (Value.int .i64 u2.2), Cell.v (Value.int .i64 u4.1), Cell.v (Value.int .i64 u4.2)].getD (y0_1.toNat * 2) .dead)) then (k0 ((y0_0), (IntKind.i64.wrap (y0_1 + 1)), (y0_2), (y0_3))) else (letV (corD (a0_0, a0_1) (intC ([Cell.v (Value.int .i64 u2.1), Cell.v (Value.int .i64 u2.2), Cell.v (Value.int .i64 u4.1), Cell.v (Value.int .i64 u4.2)].getD (y0_1.toNat * 2) .dead), intC ([Cell.v (Value.int .i64 u2.2), Cell.v (Value.int .i64 u4.1), Cell.v (Value.int .i64 u4.2)].getD (y0_1.toNat * 2) .dead))) (fun (u23 : Int × Int) => bif inP (a0_0, a0_1) && inP (intC ([Cell.v (Value.int .i64 u2.1), Cell.v (Value.int .i64 u2.2), Cell.v (Value.int .i64 u4.1), Cell.v (Value.int .i64 u4.2)].getD (y0_1.toNat * 2) .dead), intC ([Cell.v (Value.int .i64 u2.2), Cell.v (Value.int .i64 u4.1), Cell.v (Value.int .i64 u4.2)].getD (y0_1.toNat * 2) .dead)) && intC ([Cell.v (Value.int .i64 u2.1), Cell.v (Value.int .i64 u2.2), Cell.v (Value.int .i64 u4.1), Cell.v (Value.int .i64 u4.2)].getD (y0_1.toNat * 2) .dead) != 0 && intC ([Cell.v (Value.int .i64 u2.2), Cell.v (Value.int .i64 u4.1), Cell.v (Value.int .i64 u4.2)].getD (y0_1.toNat * 2) .dead) != 0 && true && true && true && true && true then (letV (cutP u23.1 u23.2) (fun (u25 : (Int × Int) × Bool × Bool) => letV (joinI (y0_2, y0_3) (u25.1.1, u25.1.2)) (fun (u26 : Int × Int) => bif y0_0 then (k0 ((true), (IntKind.i64.wrap (y0_1 + 1)), (u26.1), (u26.2))) else (k0 ((u25.2.1), (IntKind.i64.wrap (y0_1 + 1)), (u26.1), (u26.2)))))) else False))) else False) else False) else (R (Ret.mk (.tup [(.agg [(.v (.int .i64 (y0_2))), (.v (.int .i64 (y0_3)))]), (.agg [(.v (.bool (y0_0))), (.v (.bool .false))])]) []))) z.1 z.2.1 z.2.2.1 z.2.2.2) z0) ((false), 0, 1, 0)))))

set_option maxRecDepth 100000 in
theorem f126_sound (a0_0 : Int) (a0_1 : Int) (a1_0 : Int) (a1_1 : Int) (hC : CtxOk Try.prog cx126.q.ctx) {r : Ret} (h : f126_wp a0_0 a0_1 a1_0 a1_1 (fun r' => r' = r)) : SoundAt Try.prog 126 [(.agg [(.v (.int .i64 a0_0)), (.v (.int .i64 a0_1))]), (.agg [(.v (.int .i64 a1_0)), (.v (.int .i64 a1_1))])] r := by
  refine soundAtO (C := cx126) (oc := .e) mixed hC F126_ok ?_
  rewrite [E126 a0_0 a0_1 a1_0 a1_1]
  unfold f126_wp at h
  refine letV_mapE h (fun u1 h => letV_mapE h (fun u2 h => letV_mapE h (fun u3 h => letV_mapE h (fun u4 h => ?_))))
  refine loop_of (I := (fun (z : Bool × Int × Int × Int) => (I126_0_0 a0_0 a0_1 a1_0 a1_1 u1 u2 u3 u4 z.1 z.2.1 z.2.2.1 z.2.2.2))) (fun z k0 h => ?_) h rfl rfl
  obtain ⟨y0_0, y0_1, y0_2, y0_3⟩ := z
  try dsimp only [sumE_l, sumE_r] at h
  refine bodyX_i (ob := (.two (.two .e (.two (.n 0 .e) (.n 0 .e))) .e)) ?_
  rewrite [E126_0_0 a0_0 a0_1 a1_0 a1_1 u1 u2 u3 u4 y0_0 y0_1 y0_2 y0_3]
  refine cond_mapE h (fun q19 h => ?_) (fun q19 h => ?_)
  · skip
    refine ck_mapE h (fun q20 h => ck_mapE h (fun q21 h => ?_))
    refine cond_mapE h (fun q22 h => ?_) (fun q22 h => ?_)
    · skip
      exact again_i (y := ((y0_0), (IntKind.i64.wrap (y0_1 + 1)), (y0_2), (y0_3))) rfl h
    · skip
      refine letV_mapE h (fun u23 h => ck_mapE h (fun q24 h => letV_mapE h (fun u25 h => letV_mapE h (fun u26 h => ?_))))
      refine cond_mapE h (fun q27 h => ?_) (fun q27 h => ?_)
      · skip
        exact again_i (y := ((true), (IntKind.i64.wrap (y0_1 + 1)), (u26.1), (u26.2))) rfl h
      · skip
        exact again_i (y := ((u25.2.1), (IntKind.i64.wrap (y0_1 + 1)), (u26.1), (u26.2))) rfl h
  · skip
    exact h


def cx124 : CtxW := ⟨⟨[(81, sum81), (30, sum30), (36, sum36), (125, sum125), (126, sum126)], []⟩, 16, []⟩


def F124 : SFn := ⟨35, [(.cell 6 .true 2), (.cell 7 .true 2)], (.seq (.reg [(o1 4 (.box (.t 1))), (o1 5 (.box (.t 2))), (o1 6 (.alloc [(.int .i64 0), (.int .i64 0)])), (o1 7 (.alloc [(.bool .false), (.bool .false)]))]) (.seq (.reg [(o1 11 (.load .false .true 2 [(.some .i64), (.some .i64)] (.t 5))), (o1 12 (.call .false .false (.f 81) [(.t 11), (.c (.int .i64 0))])), (o1 8 (.mv (.t 12)))]) (.seq (.seq (.reg [(o1 13 (.load .false .true 2 [(.some .i64), (.some .i64)] (.t 5))), (o1 14 (.call .false .false (.f 30) [(.c (.int .i64 0))])), (o1 15 (.eqA .false [(.some .i64), (.some .i64)] (.t 13) (.t 14)))]) (.cond (.t 15) (.seq (.reg [(o1 16 (.call .false .false (.f 36) [])), (o1 17 (.build [(.bool .false), (.bool .false)] [(1, (1, (.c (.bool .true))))])), (oN (.store .false 2 (.t 6) (.t 16))), (oN (.store .false 2 (.t 7) (.t 17)))]) .ret) .skip)) (.seq (.seq (.reg [(o1 18 (.mv (.t 0))), (o1 19 (.bin .eql (.t 18) (.c (.int .i64 8))))]) (.cond (.t 19) (.seq (.reg [(o1 20 (.load .false .true 2 [(.some .i64), (.some .i64)] (.t 4))), (o1 21 (.load .false .true 2 [(.some .i64), (.some .i64)] (.t 5))), (o1 22 (.call .false .false (.f 125) [(.t 20), (.t 21)])), (o1 23 (.mv (.t 8))), (o1 24 (.build [(.bool .false), (.bool .false)] [(1, (1, (.t 23)))])), (oN (.store .false 2 (.t 6) (.t 22))), (oN (.store .false 2 (.t 7) (.t 24)))]) .ret) .skip)) (.seq (.reg [(o1 26 (.load .false .true 2 [(.some .i64), (.some .i64)] (.t 4))), (o1 27 (.load .false .true 2 [(.some .i64), (.some .i64)] (.t 5))), (o1 28 (.call .false .false (.f 126) [(.t 26), (.t 27)])), (o1 25 (.mv (.t 28))), (o1 29 (.ext 0 (.t 25))), (o1 30 (.ext 1 (.t 25))), (o1 9 (.alloc [(.int .i64 0), (.int .i64 0)])), (o1 10 (.alloc [(.bool .false), (.bool .false)])), (oN (.store .false 2 (.t 9) (.t 29))), (oN (.store .false 2 (.t 10) (.t 30)))]) (.seq (.reg [(o1 31 (.mv (.t 8))), (o1 32 (.fld 1 (.t 10))), (oN (.store .false 1 (.t 32) (.t 31)))]) (.seq (.reg [(o1 33 (.load .false .true 2 [(.some .i64), (.some .i64)] (.t 9))), (o1 34 (.load .false .true 2 [.none, .none] (.t 10))), (oN (.store .false 2 (.t 6) (.t 33))), (oN (.store .false 2 (.t 7) (.t 34)))]) .ret)))))))⟩

theorem F124_ok : sfn Try.prog hints 124 [] = some F124 := by kernel_rfl

theorem E124 (a0 : Int) (a1_0 : Int) (a1_1 : Int) (a2_0 : Int) (a2_1 : Int) (R : Ret → Prop) : wpFO cx124 F124 (.two .e (.two .e .e)) [(.one (.v (.int .i64 a0))), (.agg [(.v (.int .i64 a1_0)), (.v (.int .i64 a1_1))]), (.agg [(.v (.int .i64 a2_0)), (.v (.int .i64 a2_1))])] R = (letV (ofP 0 0) (fun (u1 : Int × Int) => bif a2_0 == u1.1 && (a2_1 == u1.2 && true) then (R (Ret.mk (.tup [(.agg [(.v (.int .i64 1)), (.v (.int .i64 0))]), (.agg [(.v (.bool .false)), (.v (.bool .true))])]) [])) else (bif a0 == 8 then (letV (restP (a1_0, a1_1) (a2_0, a2_1)) (fun (u4 : Int × Int) => bif inP (a1_0, a1_1) && inP (a2_0, a2_1) && (a2_0 != 0 || a2_1 != 0) && true && true && true && true && true then (R (Ret.mk (.tup [(.agg [(.v (.int .i64 (u4.1))), (.v (.int .i64 (u4.2)))]), (.agg [(.v (.bool .false)), (.v (.bool (decide (a2_0 ≤ 0) && decide (0 ≤ a2_1))))])]) [])) else False)) else (letV (quoP (a1_0, a1_1) (a2_0, a2_1)) (fun (u6 : (Int × Int) × Bool × Bool) => bif inP (a1_0, a1_1) && inP (a2_0, a2_1) && true && true && true && true && true then (R (Ret.mk (.tup [(.agg [(.v (.int .i64 (u6.1.1))), (.v (.int .i64 (u6.1.2)))]), (.agg [(.v (.bool (u6.2.1))), (.v (.bool (decide (a2_0 ≤ 0) && decide (0 ≤ a2_1))))])]) [])) else False))))) := by kernel_rfl

def f124_wp (a0 : Int) (a1_0 : Int) (a1_1 : Int) (a2_0 : Int) (a2_1 : Int) (R : Ret → Prop) : Prop := letV (ofP 0 0) (fun (u1 : Int × Int) => bif a2_0 == u1.1 && (a2_1 == u1.2 && true) then (R (Ret.mk (.tup [(.agg [(.v (.int .i64 1)), (.v (.int .i64 0))]), (.agg [(.v (.bool .false)), (.v (.bool .true))])]) [])) else (bif a0 == 8 then (letV (restP (a1_0, a1_1) (a2_0, a2_1)) (fun (u4 : Int × Int) => bif inP (a1_0, a1_1) && inP (a2_0, a2_1) && (a2_0 != 0 || a2_1 != 0) && true && true && true && true && true then (R (Ret.mk (.tup [(.agg [(.v (.int .i64 (u4.1))), (.v (.int .i64 (u4.2)))]), (.agg [(.v (.bool .false)), (.v (.bool (decide (a2_0 ≤ 0) && decide (0 ≤ a2_1))))])]) [])) else False)) else (letV (quoP (a1_0, a1_1) (a2_0, a2_1)) (fun (u6 : (Int × Int) × Bool × Bool) => bif inP (a1_0, a1_1) && inP (a2_0, a2_1) && true && true && true && true && true then (R (Ret.mk (.tup [(.agg [(.v (.int .i64 (u6.1.1))), (.v (.int .i64 (u6.1.2)))]), (.agg [(.v (.bool (u6.2.1))), (.v (.bool (decide (a2_0 ≤ 0) && decide (0 ≤ a2_1))))])]) [])) else False))))

set_option maxRecDepth 100000 in
theorem f124_sound (a0 : Int) (a1_0 : Int) (a1_1 : Int) (a2_0 : Int) (a2_1 : Int) (hC : CtxOk Try.prog cx124.q.ctx) {r : Ret} (h : f124_wp a0 a1_0 a1_1 a2_0 a2_1 (fun r' => r' = r)) : SoundAt Try.prog 124 [(.one (.v (.int .i64 a0))), (.agg [(.v (.int .i64 a1_0)), (.v (.int .i64 a1_1))]), (.agg [(.v (.int .i64 a2_0)), (.v (.int .i64 a2_1))])] r := by
  refine soundAtO (C := cx124) (oc := (.two .e (.two .e .e))) mixed hC F124_ok ?_
  rewrite [E124 a0 a1_0 a1_1 a2_0 a2_1]
  unfold f124_wp at h
  refine letV_mapE h (fun u1 h => ?_)
  refine cond_mapE h (fun q2 h => ?_) (fun q2 h => ?_)
  · skip
    exact h
  · skip
    refine cond_mapE h (fun q3 h => ?_) (fun q3 h => ?_)
    · skip
      refine letV_mapE h (fun u4 h => ck_mapE h (fun q5 h => ?_))
      exact h
    · skip
      refine letV_mapE h (fun u6 h => ck_mapE h (fun q7 h => ?_))
      exact h


def cx114 : CtxW := ⟨⟨[(44, sum44), (36, sum36), (49, sum49), (115, sum115), (121, sum121), (122, sum122), (124, sum124)], []⟩, 16, []⟩


def F114 : SFn := ⟨82, [(.cell 6 .true 2), (.cell 7 .true 2)], (.seq (.reg [(o1 4 (.box (.t 1))), (o1 5 (.box (.t 2))), (o1 6 (.alloc [(.int .i64 0), (.int .i64 0)])), (o1 7 (.alloc [(.bool .false), (.bool .false)]))]) (.seq (.seq (.reg [(o1 8 (.load .false .true 2 [(.some .i64), (.some .i64)] (.t 4))), (o1 9 (.call .false .false (.f 44) [(.t 8)])), (o1 10 (.mv (.t 9))), (oS 11 (.load .false .true 2 [(.some .i64), (.some .i64)] (.t 5)) (.some (10, .false))), (oS 12 (.call .false .false (.f 44) [(.t 11)]) (.some (10, .false))), (o1 13 (.pick (.t 10) (.c (.bool .true)) (.t 12)))]) (.cond (.t 13) (.seq (.reg [(o1 14 (.call .false .false (.f 36) [])), (o1 15 (.build [(.bool .false), (.bool .false)] [])), (oN (.store .false 2 (.t 6) (.t 14))), (oN (.store .false 2 (.t 7) (.t 15)))]) .ret) .skip)) (.seq (.reg [(o1 16 (.load .false .true 2 [(.some .i64), (.some .i64)] (.t 4))), (o1 17 (.call .false .false (.f 49) [])), (o1 18 (.call .false .false (.f 115) [(.t 16), (.t 17)])), (o1 19 (.load .false .true 2 [(.some .i64), (.some .i64)] (.t 5))), (o1 20 (.call .false .false (.f 49) [])), (o1 21 (.call .false .false (.f 115) [(.t 19), (.t 20)])), (oN (.store .false 2 (.t 4) (.t 18))), (oN (.store .false 2 (.t 5) (.t 21)))]) (.seq (.seq (.reg [(o1 22 (.load .false .true 2 [(.some .i64), (.some .i64)] (.t 4))), (o1 23 (.call .false .false (.f 44) [(.t 22)])), (o1 24 (.mv (.t 23))), (oS 25 (.load .false .true 2 [(.some .i64), (.some .i64)] (.t 5)) (.some (24, .false))), (oS 26 (.call .false .false (.f 44) [(.t 25)]) (.some (24, .false))), (o1 27 (.pick (.t 24) (.c (.bool .true)) (.t 26)))]) (.cond (.t 27) (.seq (.reg [(o1 28 (.call .false .false (.f 36) [])), (o1 29 (.build [(.bool .false), (.bool .false)] [])), (oN (.store .false 2 (.t 6) (.t 28))), (oN (.store .false 2 (.t 7) (.t 29)))]) .ret) .skip)) (.seq (.seq (.reg [(o1 30 (.mv (.t 0)))]) (.blk 0 (.seq (.reg [(o1 32 (.bin .eql (.t 30) (.c (.int .i64 4)))), (o1 31 (.mv (.t 32)))]) (.cond (.t 31) (.seq (.reg [(o1 33 (.fld 0 (.t 4))), (o1 34 (.load .false .false 1 [(.some .i64)] (.t 33))), (o1 35 (.fld 0 (.t 5))), (o1 36 (.load .false .false 1 [(.some .i64)] (.t 35))), (o1 37 (.bin .add (.t 34) (.t 36))), (o1 38 (.fld 1 (.t 4))), (o1 39 (.load .false .false 1 [(.some .i64)] (.t 38))), (o1 40 (.fld 1 (.t 5))), (o1 41 (.load .false .false 1 [(.some .i64)] (.t 40))), (o1 42 (.bin .add (.t 39) (.t 41))), (o1 43 (.call .false .false (.f 121) [(.t 37), (.t 42)])), (o1 44 (.ext 0 (.t 43))), (o1 45 (.ext 1 (.t 43))), (oN (.store .false 2 (.t 6) (.t 44))), (oN (.store .false 2 (.t 7) (.t 45)))]) .ret) (.seq (.reg [(o1 47 (.bin .eql (.t 30) (.c (.int .i64 5)))), (o1 46 (.mv (.t 47)))]) (.cond (.t 46) (.seq (.reg [(o1 48 (.fld 0 (.t 4))), (o1 49 (.load .false .false 1 [(.some .i64)] (.t 48))), (o1 50 (.fld 1 (.t 5))), (o1 51 (.load .false .false 1 [(.some .i64)] (.t 50))), (o1 52 (.bin .sub (.t 49) (.t 51))), (o1 53 (.fld 1 (.t 4))), (o1 54 (.load .false .false 1 [(.some .i64)] (.t 53))), (o1 55 (.fld 0 (.t 5))), (o1 56 (.load .false .false 1 [(.some .i64)] (.t 55))), (o1 57 (.bin .sub (.t 54) (.t 56))), (o1 58 (.call .false .false (.f 121) [(.t 52), (.t 57)])), (o1 59 (.ext 0 (.t 58))), (o1 60 (.ext 1 (.t 58))), (oN (.store .false 2 (.t 6) (.t 59))), (oN (.store .false 2 (.t 7) (.t 60)))]) .ret) (.seq (.reg [(o1 62 (.bin .eql (.t 30) (.c (.int .i64 6)))), (o1 61 (.mv (.t 62)))]) (.cond (.t 61) (.seq (.reg [(o1 63 (.load .false .true 2 [(.some .i64), (.some .i64)] (.t 4))), (o1 64 (.load .false .true 2 [(.some .i64), (.some .i64)] (.t 5))), (o1 65 (.call .false .false (.f 122) [(.f 123), (.t 63), (.t 64)])), (o1 66 (.ext 0 (.t 65))), (o1 67 (.ext 1 (.t 65))), (o1 68 (.call .false .false (.f 121) [(.t 66), (.t 67)])), (o1 69 (.ext 0 (.t 68))), (o1 70 (.ext 1 (.t 68))), (oN (.store .false 2 (.t 6) (.t 69))), (oN (.store .false 2 (.t 7) (.t 70)))]) .ret) (.seq (.seq (.reg [(o1 72 (.bin .eql (.t 30) (.c (.int .i64 7)))), (o1 71 (.mv (.t 72)))]) (.cond (.t 71) .skip (.reg [(o1 73 (.bin .eql (.t 30) (.c (.int .i64 8)))), (o1 71 (.mv (.t 73)))]))) (.cond (.t 71) (.seq (.reg [(o1 74 (.mv (.t 0))), (o1 75 (.load .false .true 2 [(.some .i64), (.some .i64)] (.t 4))), (o1 76 (.load .false .true 2 [(.some .i64), (.some .i64)] (.t 5))), (o1 77 (.call .false .false (.f 124) [(.t 74), (.t 75), (.t 76)])), (o1 78 (.ext 0 (.t 77))), (o1 79 (.ext 1 (.t 77))), (oN (.store .false 2 (.t 6) (.t 78))), (oN (.store .false 2 (.t 7) (.t 79)))]) .ret) .skip)))))))))) (.seq (.reg [(o1 80 (.call .false .false (.f 36) [])), (o1 81 (.build [(.bool .false), (.bool .false)] [])), (oN (.store .false 2 (.t 6) (.t 80))), (oN (.store .false 2 (.t 7) (.t 81)))]) .ret))))))⟩

theorem F114_ok : sfn Try.prog hints 114 [] = some F114 := by kernel_rfl

theorem E114 (a0 : Int) (a1_0 : Int) (a1_1 : Int) (a2_0 : Int) (a2_1 : Int) (R : Ret → Prop) : wpFO cx114 F114 (.two (.n 1 .e) (.n 0 (.two .e (.two (.n 1 .e) (.n 0 (.two .e (.two .e (.two .e (.two .e (.two (.n 0 .e) (.two .e .e))))))))))) [(.one (.v (.int .i64 a0))), (.agg [(.v (.int .i64 a1_0)), (.v (.int .i64 a1_1))]), (.agg [(.v (.int .i64 a2_0)), (.v (.int .i64 a2_1))])] R = (bif emptyP a1_0 a1_1 then (R (Ret.mk (.tup [(.agg [(.v (.int .i64 1)), (.v (.int .i64 0))]), (.agg [(.v (.bool .false)), (.v (.bool .false))])]) [])) else (bif emptyP a2_0 a2_1 then (R (Ret.mk (.tup [(.agg [(.v (.int .i64 1)), (.v (.int .i64 0))]), (.agg [(.v (.bool .false)), (.v (.bool .false))])]) [])) else (letV (mI (a1_0, a1_1) (-2147483648, 2147483647)) (fun (u3 : Int × Int) => letV (mI (a2_0, a2_1) (-2147483648, 2147483647)) (fun (u4 : Int × Int) => bif emptyP u3.1 u3.2 then (R (Ret.mk (.tup [(.agg [(.v (.int .i64 1)), (.v (.int .i64 0))]), (.agg [(.v (.bool .false)), (.v (.bool .false))])]) [])) else (bif emptyP u4.1 u4.2 then (R (Ret.mk (.tup [(.agg [(.v (.int .i64 1)), (.v (.int .i64 0))]), (.agg [(.v (.bool .false)), (.v (.bool .false))])]) [])) else (bif a0 == 4 then (letV (cutP (IntKind.i64.wrap (u3.1 + u4.1)) (IntKind.i64.wrap (u3.2 + u4.2))) (fun (u8 : (Int × Int) × Bool × Bool) => R (Ret.mk (.tup [(.agg [(.v (.int .i64 (u8.1.1))), (.v (.int .i64 (u8.1.2)))]), (.agg [(.v (.bool (u8.2.1))), (.v (.bool (u8.2.2)))])]) []))) else (bif a0 == 5 then (letV (cutP (IntKind.i64.wrap (u3.1 - u4.2)) (IntKind.i64.wrap (u3.2 - u4.1))) (fun (u10 : (Int × Int) × Bool × Bool) => R (Ret.mk (.tup [(.agg [(.v (.int .i64 (u10.1.1))), (.v (.int .i64 (u10.1.2)))]), (.agg [(.v (.bool (u10.2.1))), (.v (.bool (u10.2.2)))])]) []))) else (bif a0 == 6 then (letV (corM (u3.1, u3.2) (u4.1, u4.2)) (fun (u12 : Int × Int) => bif inP (u3.1, u3.2) && inP (u4.1, u4.2) && true && true && true && true && true then (letV (cutP u12.1 u12.2) (fun (u14 : (Int × Int) × Bool × Bool) => R (Ret.mk (.tup [(.agg [(.v (.int .i64 (u14.1.1))), (.v (.int .i64 (u14.1.2)))]), (.agg [(.v (.bool (u14.2.1))), (.v (.bool (u14.2.2)))])]) []))) else False)) else (bif a0 == 7 then (letV (divP a0 (u3.1, u3.2) (u4.1, u4.2)) (fun (u16 : (Int × Int) × Bool × Bool) => bif inP (u3.1, u3.2) && inP (u4.1, u4.2) && true && true && true && true && true then (R (Ret.mk (.tup [(.agg [(.v (.int .i64 (u16.1.1))), (.v (.int .i64 (u16.1.2)))]), (.agg [(.v (.bool (u16.2.1))), (.v (.bool (u16.2.2)))])]) [])) else False)) else (bif a0 == 8 then (letV (divP a0 (u3.1, u3.2) (u4.1, u4.2)) (fun (u19 : (Int × Int) × Bool × Bool) => bif inP (u3.1, u3.2) && inP (u4.1, u4.2) && true && true && true && true && true then (R (Ret.mk (.tup [(.agg [(.v (.int .i64 (u19.1.1))), (.v (.int .i64 (u19.1.2)))]), (.agg [(.v (.bool (u19.2.1))), (.v (.bool (u19.2.2)))])]) [])) else False)) else (R (Ret.mk (.tup [(.agg [(.v (.int .i64 1)), (.v (.int .i64 0))]), (.agg [(.v (.bool .false)), (.v (.bool .false))])]) []))))))))))))) := by kernel_rfl

def f114_wp (a0 : Int) (a1_0 : Int) (a1_1 : Int) (a2_0 : Int) (a2_1 : Int) (R : Ret → Prop) : Prop := bif emptyP a1_0 a1_1 then (R (Ret.mk (.tup [(.agg [(.v (.int .i64 1)), (.v (.int .i64 0))]), (.agg [(.v (.bool .false)), (.v (.bool .false))])]) [])) else (bif emptyP a2_0 a2_1 then (R (Ret.mk (.tup [(.agg [(.v (.int .i64 1)), (.v (.int .i64 0))]), (.agg [(.v (.bool .false)), (.v (.bool .false))])]) [])) else (letV (mI (a1_0, a1_1) (-2147483648, 2147483647)) (fun (u3 : Int × Int) => letV (mI (a2_0, a2_1) (-2147483648, 2147483647)) (fun (u4 : Int × Int) => bif emptyP u3.1 u3.2 then (R (Ret.mk (.tup [(.agg [(.v (.int .i64 1)), (.v (.int .i64 0))]), (.agg [(.v (.bool .false)), (.v (.bool .false))])]) [])) else (bif emptyP u4.1 u4.2 then (R (Ret.mk (.tup [(.agg [(.v (.int .i64 1)), (.v (.int .i64 0))]), (.agg [(.v (.bool .false)), (.v (.bool .false))])]) [])) else (bif a0 == 4 then (letV (cutP (IntKind.i64.wrap (u3.1 + u4.1)) (IntKind.i64.wrap (u3.2 + u4.2))) (fun (u8 : (Int × Int) × Bool × Bool) => R (Ret.mk (.tup [(.agg [(.v (.int .i64 (u8.1.1))), (.v (.int .i64 (u8.1.2)))]), (.agg [(.v (.bool (u8.2.1))), (.v (.bool (u8.2.2)))])]) []))) else (bif a0 == 5 then (letV (cutP (IntKind.i64.wrap (u3.1 - u4.2)) (IntKind.i64.wrap (u3.2 - u4.1))) (fun (u10 : (Int × Int) × Bool × Bool) => R (Ret.mk (.tup [(.agg [(.v (.int .i64 (u10.1.1))), (.v (.int .i64 (u10.1.2)))]), (.agg [(.v (.bool (u10.2.1))), (.v (.bool (u10.2.2)))])]) []))) else (bif a0 == 6 then (letV (corM (u3.1, u3.2) (u4.1, u4.2)) (fun (u12 : Int × Int) => bif inP (u3.1, u3.2) && inP (u4.1, u4.2) && true && true && true && true && true then (letV (cutP u12.1 u12.2) (fun (u14 : (Int × Int) × Bool × Bool) => R (Ret.mk (.tup [(.agg [(.v (.int .i64 (u14.1.1))), (.v (.int .i64 (u14.1.2)))]), (.agg [(.v (.bool (u14.2.1))), (.v (.bool (u14.2.2)))])]) []))) else False)) else (bif a0 == 7 then (letV (divP a0 (u3.1, u3.2) (u4.1, u4.2)) (fun (u16 : (Int × Int) × Bool × Bool) => bif inP (u3.1, u3.2) && inP (u4.1, u4.2) && true && true && true && true && true then (R (Ret.mk (.tup [(.agg [(.v (.int .i64 (u16.1.1))), (.v (.int .i64 (u16.1.2)))]), (.agg [(.v (.bool (u16.2.1))), (.v (.bool (u16.2.2)))])]) [])) else False)) else (bif a0 == 8 then (letV (divP a0 (u3.1, u3.2) (u4.1, u4.2)) (fun (u19 : (Int × Int) × Bool × Bool) => bif inP (u3.1, u3.2) && inP (u4.1, u4.2) && true && true && true && true && true then (R (Ret.mk (.tup [(.agg [(.v (.int .i64 (u19.1.1))), (.v (.int .i64 (u19.1.2)))]), (.agg [(.v (.bool (u19.2.1))), (.v (.bool (u19.2.2)))])]) [])) else False)) else (R (Ret.mk (.tup [(.agg [(.v (.int .i64 1)), (.v (.int .i64 0))]), (.agg [(.v (.bool .false)), (.v (.bool .false))])]) []))))))))))))

set_option maxRecDepth 100000 in
theorem f114_sound (a0 : Int) (a1_0 : Int) (a1_1 : Int) (a2_0 : Int) (a2_1 : Int) (hC : CtxOk Try.prog cx114.q.ctx) {r : Ret} (h : f114_wp a0 a1_0 a1_1 a2_0 a2_1 (fun r' => r' = r)) : SoundAt Try.prog 114 [(.one (.v (.int .i64 a0))), (.agg [(.v (.int .i64 a1_0)), (.v (.int .i64 a1_1))]), (.agg [(.v (.int .i64 a2_0)), (.v (.int .i64 a2_1))])] r := by
  refine soundAtO (C := cx114) (oc := (.two (.n 1 .e) (.n 0 (.two .e (.two (.n 1 .e) (.n 0 (.two .e (.two .e (.two .e (.two .e (.two (.n 0 .e) (.two .e .e)))))))))))) mixed hC F114_ok ?_
  rewrite [E114 a0 a1_0 a1_1 a2_0 a2_1]
  unfold f114_wp at h
  refine cond_mapE h (fun q1 h => ?_) (fun q1 h => ?_)
  · skip
    exact h
  · skip
    refine cond_mapE h (fun q2 h => ?_) (fun q2 h => ?_)
    · skip
      exact h
    · skip
      refine letV_mapE h (fun u3 h => letV_mapE h (fun u4 h => ?_))
      refine cond_mapE h (fun q5 h => ?_) (fun q5 h => ?_)
      · skip
        exact h
      · skip
        refine cond_mapE h (fun q6 h => ?_) (fun q6 h => ?_)
        · skip
          exact h
        · skip
          refine cond_mapE h (fun q7 h => ?_) (fun q7 h => ?_)
          · skip
            refine letV_mapE h (fun u8 h => ?_)
            exact h
          · skip
            refine cond_mapE h (fun q9 h => ?_) (fun q9 h => ?_)
            · skip
              refine letV_mapE h (fun u10 h => ?_)
              exact h
            · skip
              refine cond_mapE h (fun q11 h => ?_) (fun q11 h => ?_)
              · skip
                refine letV_mapE h (fun u12 h => ck_mapE h (fun q13 h => letV_mapE h (fun u14 h => ?_)))
                exact h
              · skip
                refine cond_mapE h (fun q15 h => ?_) (fun q15 h => ?_)
                · skip
                  refine letV_mapE h (fun u16 h => ck_mapE h (fun q17 h => ?_))
                  exact h
                · skip
                  refine cond_mapE h (fun q18 h => ?_) (fun q18 h => ?_)
                  · skip
                    refine letV_mapE h (fun u19 h => ck_mapE h (fun q20 h => ?_))
                    exact h
                  · skip
                    exact h


def cx104 : CtxW := ⟨⟨[(30, sum30), (114, sum114)], []⟩, 16, []⟩


def F104 : SFn := ⟨9, [(.cell 2 .true 2), (.cell 3 .true 2)], (.seq (.reg [(o1 1 (.box (.t 0))), (o1 2 (.alloc [(.int .i64 0), (.int .i64 0)])), (o1 3 (.alloc [(.bool .false), (.bool .false)]))]) (.seq (.reg [(o1 4 (.call .false .false (.f 30) [(.c (.int .i64 0))])), (o1 5 (.load .false .true 2 [(.some .i64), (.some .i64)] (.t 1))), (o1 6 (.call .false .false (.f 114) [(.c (.int .i64 5)), (.t 4), (.t 5)])), (o1 7 (.ext 0 (.t 6))), (o1 8 (.ext 1 (.t 6))), (oN (.store .false 2 (.t 2) (.t 7))), (oN (.store .false 2 (.t 3) (.t 8)))]) .ret))⟩

theorem F104_ok : sfn Try.prog hints 104 [] = some F104 := by kernel_rfl

theorem E104 (a0_0 : Int) (a0_1 : Int) (R : Ret → Prop) : wpFO cx104 F104 .e [(.agg [(.v (.int .i64 a0_0)), (.v (.int .i64 a0_1))])] R = (letV (ofP 0 0) (fun (u1 : Int × Int) => letV (doP 5 (u1.1, u1.2) (a0_0, a0_1)) (fun (u2 : (Int × Int) × Bool × Bool) => R (Ret.mk (.tup [(.agg [(.v (.int .i64 (u2.1.1))), (.v (.int .i64 (u2.1.2)))]), (.agg [(.v (.bool (u2.2.1))), (.v (.bool (u2.2.2)))])]) [])))) := by kernel_rfl

def f104_wp (a0_0 : Int) (a0_1 : Int) (R : Ret → Prop) : Prop := letV (ofP 0 0) (fun (u1 : Int × Int) => letV (doP 5 (u1.1, u1.2) (a0_0, a0_1)) (fun (u2 : (Int × Int) × Bool × Bool) => R (Ret.mk (.tup [(.agg [(.v (.int .i64 (u2.1.1))), (.v (.int .i64 (u2.1.2)))]), (.agg [(.v (.bool (u2.2.1))), (.v (.bool (u2.2.2)))])]) [])))

set_option maxRecDepth 100000 in
theorem f104_sound (a0_0 : Int) (a0_1 : Int) (hC : CtxOk Try.prog cx104.q.ctx) {r : Ret} (h : f104_wp a0_0 a0_1 (fun r' => r' = r)) : SoundAt Try.prog 104 [(.agg [(.v (.int .i64 a0_0)), (.v (.int .i64 a0_1))])] r := by
  refine soundAtO (C := cx104) (oc := .e) mixed hC F104_ok ?_
  rewrite [E104 a0_0 a0_1]
  unfold f104_wp at h
  refine letV_mapE h (fun u1 h => letV_mapE h (fun u2 h => ?_))
  exact h


end Go.Proofs.Ytgmciihlmgeecaa.Fn
