import Derived.Test.YtgmciihlmgeecaaWZC

import Derived.Test.YtgmciihlmgeecaaWNB

/- The reference's functions of Nums, walked. No conditions beyond those named. -/

namespace Go.Proofs.Ytgmciihlmgeecaa.Fn

open Go Go.RowKit Go.Proofs Go.Proofs.Ytgmciihlmgeecaa.Mt Go.Proofs.Ytgmciihlmgeecaa.Zm

set_option linter.unusedVariables false

set_option linter.unusedSimpArgs false

def cx98 : CtxW := ⟨⟨[], []⟩, 2, []⟩


def F98 : SFn := ⟨22, [(.cell 4 .true 2)], (.seq (.reg [(o1 2 (.box (.t 0))), (o1 4 (.alloc [(.int .i64 0), (.int .i64 0)]))]) (.seq (.seq (.reg [(o1 5 (.fld 1 (.t 2))), (o1 6 (.load .false .false 1 [.none] (.t 5)))]) (.cond (.t 6) (.seq (.reg [(o1 7 (.build [(.int .i64 0), (.int .i64 0)] [(0, (1, (.c (.int .i64 1))))])), (oN (.store .false 2 (.t 4) (.t 7)))]) .ret) .skip)) (.seq (.reg [(o1 8 (.mv (.t 1))), (o1 9 (.bin .add (.t 8) (.c (.int .i64 1)))), (o1 10 (.fld 2 (.t 2))), (o1 11 (.ixA 7 7 (.t 10) (.c (.int .i64 0)))), (o1 12 (.ixA 7 1 (.t 11) (.t 9))), (o1 13 (.load .false .false 1 [(.some .i64)] (.t 12))), (o1 14 (.bin .sub (.c (.int .i64 0)) (.t 13))), (o1 15 (.mv (.t 1))), (o1 16 (.bin .add (.t 15) (.c (.int .i64 1)))), (o1 17 (.fld 2 (.t 2))), (o1 18 (.ixA 7 7 (.t 17) (.t 16))), (o1 19 (.ixA 7 1 (.t 18) (.c (.int .i64 0)))), (o1 20 (.load .false .false 1 [(.some .i64)] (.t 19))), (o1 21 (.build [(.int .i64 0), (.int .i64 0)] [(0, (1, (.t 14))), (1, (1, (.t 20)))])), (oN (.store .false 2 (.t 4) (.t 21)))]) .ret)))⟩

theorem F98_ok : sfn Try.prog hints 98 [] = some F98 := by kernel_rfl

theorem E98 (a0_0 : Int) (a0_1 : Bool) (a0_2 : List Cell) (a1 : Int) (R : Ret → Prop) : wpFO cx98 F98 (.two .e .e) [(.agg ((.v (.int .i64 a0_0)) :: (.v (.bool a0_1)) :: a0_2)), (.one (.v (.int .i64 a1)))] R = (bif a0_1 then (R (Ret.mk (.agg [(.v (.int .i64 1)), (.v (.int .i64 0))]) [])) else (bif decide (0 ≤ IntKind.i64.wrap (a1 + 1)) && decide (IntKind.i64.wrap (a1 + 1) < 7) then (bif decide ((IntKind.i64.wrap (a1 + 1)).toNat * 1 + 3 ≤ a0_2.length + 2) && okK (some .i64) (a0_2.getD ((IntKind.i64.wrap (a1 + 1)).toNat * 1) .dead) then (bif decide (0 ≤ IntKind.i64.wrap (a1 + 1)) && decide (IntKind.i64.wrap (a1 + 1) < 7) then (bif decide (0 + (IntKind.i64.wrap (a1 + 1)).toNat * 7 + 3 ≤ a0_2.length + 2) && okK (some .i64) (a0_2.getD (0 + (IntKind.i64.wrap (a1 + 1)).toNat * 7) .dead) then (R (Ret.mk (.agg [(.v (.int .i64 (IntKind.i64.wrap (0 - intC (a0_2.getD ((IntKind.i64.wrap (a1 + 1)).toNat * 1) .dead))))), (.v (.int .i64 (intC (a0_2.getD (0 + (IntKind.i64.wrap (a1 + 1)).toNat * 7) .dead))))]) [])) else False) else False) else False) else False)) := by kernel_rfl

def f98_wp (a0_0 : Int) (a0_1 : Bool) (a0_2 : List Cell) (a1 : Int) (R : Ret → Prop) : Prop := bif a0_1 then (R (Ret.mk (.agg [(.v (.int .i64 1)), (.v (.int .i64 0))]) [])) else (bif decide (0 ≤ IntKind.i64.wrap (a1 + 1)) && decide (IntKind.i64.wrap (a1 + 1) < 7) then (bif decide ((IntKind.i64.wrap (a1 + 1)).toNat * 1 + 3 ≤ a0_2.length + 2) && okK (some .i64) (a0_2.getD ((IntKind.i64.wrap (a1 + 1)).toNat * 1) .dead) then (bif decide (0 + (IntKind.i64.wrap (a1 + 1)).toNat * 7 + 3 ≤ a0_2.length + 2) && okK (some .i64) (a0_2.getD (0 + (IntKind.i64.wrap (a1 + 1)).toNat * 7) .dead) then (R (Ret.mk (.agg [(.v (.int .i64 (IntKind.i64.wrap (0 - intC (a0_2.getD ((IntKind.i64.wrap (a1 + 1)).toNat * 1) .dead))))), (.v (.int .i64 (intC (a0_2.getD (0 + (IntKind.i64.wrap (a1 + 1)).toNat * 7) .dead))))]) [])) else False) else False) else False)

set_option maxRecDepth 100000 in
theorem f98_sound (a0_0 : Int) (a0_1 : Bool) (a0_2 : List Cell) (a1 : Int) (hC : CtxOk Try.prog cx98.q.ctx) {r : Ret} (h : f98_wp a0_0 a0_1 a0_2 a1 (fun r' => r' = r)) : SoundAt Try.prog 98 [(.agg ((.v (.int .i64 a0_0)) :: (.v (.bool a0_1)) :: a0_2)), (.one (.v (.int .i64 a1)))] r := by
  refine soundAtO (C := cx98) (oc := (.two .e .e)) mixed hC F98_ok ?_
  rewrite [E98 a0_0 a0_1 a0_2 a1]
  unfold f98_wp at h
  refine cond_mapE h (fun q1 h => ?_) (fun q1 h => ?_)
  · skip
    exact h
  · skip
    refine ck_mapE h (fun q2 h => ck_mapE h (fun q3 h => ck_i q2 (ck_mapE h (fun q4 h => ?_))))
    exact h


def cx55 : CtxW := ⟨⟨[(33, sum33)], []⟩, 2, []⟩


def F55 : SFn := ⟨29, [(.cell 6 .true 51)], (.seq (.reg [(o1 3 (.box (.t 0))), (o1 5 (.box (.t 2))), (o1 6 (.alloc [(.int .i64 0), (.bool .false), (.int .i64 0), (.int .i64 0), (.int .i64 0), (.int .i64 0), (.int .i64 0), (.int .i64 0), (.int .i64 0), (.int .i64 0), (.int .i64 0), (.int .i64 0), (.int .i64 0), (.int .i64 0), (.int .i64 0), (.int .i64 0), (.int .i64 0), (.int .i64 0), (.int .i64 0), (.int .i64 0), (.int .i64 0), (.int .i64 0), (.int .i64 0), (.int .i64 0), (.int .i64 0), (.int .i64 0), (.int .i64 0), (.int .i64 0), (.int .i64 0), (.int .i64 0), (.int .i64 0), (.int .i64 0), (.int .i64 0), (.int .i64 0), (.int .i64 0), (.int .i64 0), (.int .i64 0), (.int .i64 0), (.int .i64 0), (.int .i64 0), (.int .i64 0), (.int .i64 0), (.int .i64 0), (.int .i64 0), (.int .i64 0), (.int .i64 0), (.int .i64 0), (.int .i64 0), (.int .i64 0), (.int .i64 0), (.int .i64 0)]))]) (.seq (.seq (.reg [(o1 7 (.fld 1 (.t 3))), (o1 8 (.load .false .false 1 [.none] (.t 7))), (o1 9 (.mv (.t 8))), (oS 10 (.fld 0 (.t 5)) (.some (9, .false))), (oS 11 (.load .false .false 1 [(.some .i64)] (.t 10)) (.some (9, .false))), (oS 12 (.fld 1 (.t 5)) (.some (9, .false))), (oS 13 (.load .false .false 1 [(.some .i64)] (.t 12)) (.some (9, .false))), (oS 14 (.bin .gtr (.t 11) (.t 13)) (.some (9, .false))), (o1 15 (.pick (.t 9) (.c (.bool .true)) (.t 14)))]) (.cond (.t 15) (.seq (.reg [(o1 16 (.fld 0 (.t 3))), (o1 17 (.load .false .false 1 [(.some .i64)] (.t 16))), (o1 18 (.build [(.int .i64 0), (.bool .false), (.int .i64 0), (.int .i64 0), (.int .i64 0), (.int .i64 0), (.int .i64 0), (.int .i64 0), (.int .i64 0), (.int .i64 0), (.int .i64 0), (.int .i64 0), (.int .i64 0), (.int .i64 0), (.int .i64 0), (.int .i64 0), (.int .i64 0), (.int .i64 0), (.int .i64 0), (.int .i64 0), (.int .i64 0), (.int .i64 0), (.int .i64 0), (.int .i64 0), (.int .i64 0), (.int .i64 0), (.int .i64 0), (.int .i64 0), (.int .i64 0), (.int .i64 0), (.int .i64 0), (.int .i64 0), (.int .i64 0), (.int .i64 0), (.int .i64 0), (.int .i64 0), (.int .i64 0), (.int .i64 0), (.int .i64 0), (.int .i64 0), (.int .i64 0), (.int .i64 0), (.int .i64 0), (.int .i64 0), (.int .i64 0), (.int .i64 0), (.int .i64 0), (.int .i64 0), (.int .i64 0), (.int .i64 0), (.int .i64 0)] [(0, (1, (.t 17))), (1, (1, (.c (.bool .true))))])), (oN (.store .false 51 (.t 6) (.t 18)))]) .ret) .skip)) (.seq (.reg [(o1 19 (.load .false .true 51 K51 (.t 3))), (o1 20 (.mv (.t 1))), (o1 21 (.fld 1 (.t 5))), (o1 22 (.load .false .false 1 [(.some .i64)] (.t 21))), (o1 23 (.call .false .false (.f 33) [(.t 19), (.t 20), (.c (.int .i64 (-1))), (.t 22)])), (o1 24 (.mv (.t 1))), (o1 25 (.fld 0 (.t 5))), (o1 26 (.load .false .false 1 [(.some .i64)] (.t 25))), (o1 27 (.bin .sub (.c (.int .i64 0)) (.t 26))), (o1 28 (.call .false .false (.f 33) [(.t 23), (.c (.int .i64 (-1))), (.t 24), (.t 27)])), (oN (.store .false 51 (.t 6) (.t 28)))]) .ret)))⟩

theorem F55_ok : sfn Try.prog hints 55 [] = some F55 := by kernel_rfl

theorem E55 (a0_0 : Int) (a0_1 : Bool) (a0_2 : List Cell) (a1 : Int) (a2_0 : Int) (a2_1 : Int) (R : Ret → Prop) : wpFO cx55 F55 (.two (.n 4 .e) (.n 3 (.two .e .e))) [(.agg ((.v (.int .i64 a0_0)) :: (.v (.bool a0_1)) :: a0_2)), (.one (.v (.int .i64 a1))), (.agg [(.v (.int .i64 a2_0)), (.v (.int .i64 a2_1))])] R = (bif a0_1 then (R (Ret.mk (.agg ((.v (.int .i64 (a0_0))) :: (.v (.bool .true)) :: (List.replicate 49 (Cell.v (Value.int .i64 0))))) [])) else (bif decide (a2_0 > a2_1) then (R (Ret.mk (.agg ((.v (.int .i64 (a0_0))) :: (.v (.bool .true)) :: (List.replicate 49 (Cell.v (Value.int .i64 0))))) [])) else (bif a0_2.length + 2 == 51 then (letV (boundR (a0_0, a0_1, List.map intC a0_2) a1 (-1) a2_1) (fun (u4 : Zo) => bif a0_2.all plainC && true && (a0_2.all (isInt .i64) && a0_2.length == 49 && okN a0_0 && true && true && true && in16 a1 && true) && (ic .i64 u4.2.2).all (okC 0) && true && true && true && true then (letV (boundR (u4.1, u4.2.1, List.map intC (ic .i64 u4.2.2)) (-1) a1 (IntKind.i64.wrap (0 - a2_0))) (fun (u6 : Zo) => bif (ic .i64 u4.2.2).all plainC && true && ((ic .i64 u4.2.2).all (isInt .i64) && (ic .i64 u4.2.2).length == 49 && okN u4.1 && true && true && true && true && in16 a1) && (ic .i64 u6.2.2).all (okC 0) && true && true && true && true then (bif (ic .i64 u6.2.2).length + 2 == 51 && true && true then (bif (ic .i64 u6.2.2).length + 2 == 51 && true then (bif (ic .i64 u6.2.2).all plainC then (R (Ret.mk (.agg ((.v (.int .i64 (u6.1))) :: (.v (.bool (u6.2.1))) :: (ic .i64 u6.2.2))) [])) else False) else False) else False) else False)) else False)) else False))) := by kernel_rfl

def f55_wp (a0_0 : Int) (a0_1 : Bool) (a0_2 : List Cell) (a1 : Int) (a2_0 : Int) (a2_1 : Int) (R : Ret → Prop) : Prop := bif a0_1 then (R (Ret.mk (.agg ((.v (.int .i64 (a0_0))) :: (.v (.bool .true)) :: (List.replicate 49 (Cell.v (Value.int .i64 0))))) [])) else (bif decide (a2_0 > a2_1) then (R (Ret.mk (.agg ((.v (.int .i64 (a0_0))) :: (.v (.bool .true)) :: (List.replicate 49 (Cell.v (Value.int .i64 0))))) [])) else (bif a0_2.length + 2 == 51 then (letV (boundR (a0_0, a0_1, List.map intC a0_2) a1 (-1) a2_1) (fun (u4 : Zo) => bif a0_2.all plainC && true && (a0_2.all (isInt .i64) && a0_2.length == 49 && okN a0_0 && true && true && true && in16 a1 && true) && (ic .i64 u4.2.2).all (okC 0) && true && true && true && true then (letV (boundR (u4.1, u4.2.1, List.map intC (ic .i64 u4.2.2)) (-1) a1 (IntKind.i64.wrap (0 - a2_0))) (fun (u6 : Zo) => bif (ic .i64 u4.2.2).all plainC && true && ((ic .i64 u4.2.2).all (isInt .i64) && (ic .i64 u4.2.2).length == 49 && okN u4.1 && true && true && true && true && in16 a1) && (ic .i64 u6.2.2).all (okC 0) && true && true && true && true then (bif (ic .i64 u6.2.2).length + 2 == 51 && true && true then (bif (ic .i64 u6.2.2).length + 2 == 51 && true then (bif (ic .i64 u6.2.2).all plainC then (R (Ret.mk (.agg ((.v (.int .i64 (u6.1))) :: (.v (.bool (u6.2.1))) :: (ic .i64 u6.2.2))) [])) else False) else False) else False) else False)) else False)) else False))

set_option maxRecDepth 100000 in
theorem f55_sound (a0_0 : Int) (a0_1 : Bool) (a0_2 : List Cell) (a1 : Int) (a2_0 : Int) (a2_1 : Int) (hC : CtxOk Try.prog cx55.q.ctx) {r : Ret} (h : f55_wp a0_0 a0_1 a0_2 a1 a2_0 a2_1 (fun r' => r' = r)) : SoundAt Try.prog 55 [(.agg ((.v (.int .i64 a0_0)) :: (.v (.bool a0_1)) :: a0_2)), (.one (.v (.int .i64 a1))), (.agg [(.v (.int .i64 a2_0)), (.v (.int .i64 a2_1))])] r := by
  refine soundAtO (C := cx55) (oc := (.two (.n 4 .e) (.n 3 (.two .e .e)))) mixed hC F55_ok ?_
  rewrite [E55 a0_0 a0_1 a0_2 a1 a2_0 a2_1]
  unfold f55_wp at h
  refine cond_mapE h (fun q1 h => ?_) (fun q1 h => ?_)
  · skip
    exact h
  · skip
    refine cond_mapE h (fun q2 h => ?_) (fun q2 h => ?_)
    · skip
      exact h
    · skip
      refine ck_mapE h (fun q3 h => letV_mapE h (fun u4 h => ck_mapE h (fun q5 h => letV_mapE h (fun u6 h => ck_mapE h (fun q7 h => ck_mapE h (fun q8 h => ck_mapE h (fun q10 h => ck_mapE h (fun q9 h => ?_))))))))
      exact h


def cx99 : CtxW := ⟨⟨[(89, sum89), (55, sum55)], []⟩, 2, []⟩


def F99 : SFn := ⟨13, [(.cell 6 .true 51)], (.seq (.reg [(o1 3 (.box (.t 0))), (o1 5 (.box (.t 2))), (o1 6 (.alloc [(.int .i64 0), (.bool .false), (.int .i64 0), (.int .i64 0), (.int .i64 0), (.int .i64 0), (.int .i64 0), (.int .i64 0), (.int .i64 0), (.int .i64 0), (.int .i64 0), (.int .i64 0), (.int .i64 0), (.int .i64 0), (.int .i64 0), (.int .i64 0), (.int .i64 0), (.int .i64 0), (.int .i64 0), (.int .i64 0), (.int .i64 0), (.int .i64 0), (.int .i64 0), (.int .i64 0), (.int .i64 0), (.int .i64 0), (.int .i64 0), (.int .i64 0), (.int .i64 0), (.int .i64 0), (.int .i64 0), (.int .i64 0), (.int .i64 0), (.int .i64 0), (.int .i64 0), (.int .i64 0), (.int .i64 0), (.int .i64 0), (.int .i64 0), (.int .i64 0), (.int .i64 0), (.int .i64 0), (.int .i64 0), (.int .i64 0), (.int .i64 0), (.int .i64 0), (.int .i64 0), (.int .i64 0), (.int .i64 0), (.int .i64 0), (.int .i64 0)]))]) (.seq (.reg [(o1 7 (.load .false .true 51 K51 (.t 3))), (o1 8 (.mv (.t 1))), (o1 9 (.call .false .false (.f 89) [(.t 7), (.t 8)])), (o1 10 (.mv (.t 1))), (o1 11 (.load .false .true 2 [(.some .i64), (.some .i64)] (.t 5))), (o1 12 (.call .false .false (.f 55) [(.t 9), (.t 10), (.t 11)])), (oN (.store .false 51 (.t 6) (.t 12)))]) .ret))⟩

theorem F99_ok : sfn Try.prog hints 99 [] = some F99 := by kernel_rfl

theorem E99 (a0_0 : Int) (a0_1 : Bool) (a0_2 : List Cell) (a1 : Int) (a2_0 : Int) (a2_1 : Int) (R : Ret → Prop) : wpFO cx99 F99 .e [(.agg ((.v (.int .i64 a0_0)) :: (.v (.bool a0_1)) :: a0_2)), (.one (.v (.int .i64 a1))), (.agg [(.v (.int .i64 a2_0)), (.v (.int .i64 a2_1))])] R = (bif a0_2.length + 2 == 51 then (letV (forgetR (a0_0, a0_1, List.map intC a0_2) a1) (fun (u2 : Zo) => bif a0_2.all plainC && true && (a0_2.all (isInt .i64) && a0_2.length == 49 && okN a0_0 && true && in16 a1) && (ic .i64 u2.2.2).all (okC 0) && true && true && true && true then (letV (meetR (u2.1, u2.2.1, List.map intC (ic .i64 u2.2.2)) a1 a2_0 a2_1) (fun (u4 : Zo) => bif (ic .i64 u2.2.2).all plainC && true && ((ic .i64 u2.2.2).all (isInt .i64) && (ic .i64 u2.2.2).length == 49 && okN u2.1 && true && in16 a1 && true) && (ic .i64 u4.2.2).all (okC 0) && true && true && true && true then (bif (ic .i64 u4.2.2).length + 2 == 51 && true && true then (bif (ic .i64 u4.2.2).length + 2 == 51 && true then (bif (ic .i64 u4.2.2).all plainC then (R (Ret.mk (.agg ((.v (.int .i64 (u4.1))) :: (.v (.bool (u4.2.1))) :: (ic .i64 u4.2.2))) [])) else False) else False) else False) else False)) else False)) else False) := by kernel_rfl

def f99_wp (a0_0 : Int) (a0_1 : Bool) (a0_2 : List Cell) (a1 : Int) (a2_0 : Int) (a2_1 : Int) (R : Ret → Prop) : Prop := bif a0_2.length + 2 == 51 then (letV (forgetR (a0_0, a0_1, List.map intC a0_2) a1) (fun (u2 : Zo) => bif a0_2.all plainC && true && (a0_2.all (isInt .i64) && a0_2.length == 49 && okN a0_0 && true && in16 a1) && (ic .i64 u2.2.2).all (okC 0) && true && true && true && true then (letV (meetR (u2.1, u2.2.1, List.map intC (ic .i64 u2.2.2)) a1 a2_0 a2_1) (fun (u4 : Zo) => bif (ic .i64 u2.2.2).all plainC && true && ((ic .i64 u2.2.2).all (isInt .i64) && (ic .i64 u2.2.2).length == 49 && okN u2.1 && true && in16 a1 && true) && (ic .i64 u4.2.2).all (okC 0) && true && true && true && true then (bif (ic .i64 u4.2.2).length + 2 == 51 && true && true then (bif (ic .i64 u4.2.2).length + 2 == 51 && true then (bif (ic .i64 u4.2.2).all plainC then (R (Ret.mk (.agg ((.v (.int .i64 (u4.1))) :: (.v (.bool (u4.2.1))) :: (ic .i64 u4.2.2))) [])) else False) else False) else False) else False)) else False)) else False

set_option maxRecDepth 100000 in
theorem f99_sound (a0_0 : Int) (a0_1 : Bool) (a0_2 : List Cell) (a1 : Int) (a2_0 : Int) (a2_1 : Int) (hC : CtxOk Try.prog cx99.q.ctx) {r : Ret} (h : f99_wp a0_0 a0_1 a0_2 a1 a2_0 a2_1 (fun r' => r' = r)) : SoundAt Try.prog 99 [(.agg ((.v (.int .i64 a0_0)) :: (.v (.bool a0_1)) :: a0_2)), (.one (.v (.int .i64 a1))), (.agg [(.v (.int .i64 a2_0)), (.v (.int .i64 a2_1))])] r := by
  refine soundAtO (C := cx99) (oc := .e) mixed hC F99_ok ?_
  rewrite [E99 a0_0 a0_1 a0_2 a1 a2_0 a2_1]
  unfold f99_wp at h
  refine ck_mapE h (fun q1 h => letV_mapE h (fun u2 h => ck_mapE h (fun q3 h => letV_mapE h (fun u4 h => ck_mapE h (fun q5 h => ck_mapE h (fun q6 h => ck_mapE h (fun q8 h => ck_mapE h (fun q7 h => ?_))))))))
  exact h


end Go.Proofs.Ytgmciihlmgeecaa.Fn
