import Derived.Test.YtgmciihlmgeecaaWZ1

/- Functions of zones, walked, on. No conditions beyond those named. -/

namespace Go.Proofs.Ytgmciihlmgeecaa.Fn

open Go Go.RowKit Go.Proofs Go.Proofs.Ytgmciihlmgeecaa.Mt Go.Proofs.Ytgmciihlmgeecaa.Zm

set_option linter.unusedVariables false

set_option linter.unusedSimpArgs false

def cx26 : CtxW := ⟨⟨[(84, sum84), (83, sum83)], []⟩, 2, []⟩


def F26 : SFn := ⟨40, [(.cell (8) .true (51))], (.seq (.reg [(.mk (.some (4)) (.box (.t (0))) .none), (.mk (.some (8)) (.alloc [(.int .i64 (0)), (.bool .false), (.int .i64 (0)), (.int .i64 (0)), (.int .i64 (0)), (.int .i64 (0)), (.int .i64 (0)), (.int .i64 (0)), (.int .i64 (0)), (.int .i64 (0)), (.int .i64 (0)), (.int .i64 (0)), (.int .i64 (0)), (.int .i64 (0)), (.int .i64 (0)), (.int .i64 (0)), (.int .i64 (0)), (.int .i64 (0)), (.int .i64 (0)), (.int .i64 (0)), (.int .i64 (0)), (.int .i64 (0)), (.int .i64 (0)), (.int .i64 (0)), (.int .i64 (0)), (.int .i64 (0)), (.int .i64 (0)), (.int .i64 (0)), (.int .i64 (0)), (.int .i64 (0)), (.int .i64 (0)), (.int .i64 (0)), (.int .i64 (0)), (.int .i64 (0)), (.int .i64 (0)), (.int .i64 (0)), (.int .i64 (0)), (.int .i64 (0)), (.int .i64 (0)), (.int .i64 (0)), (.int .i64 (0)), (.int .i64 (0)), (.int .i64 (0)), (.int .i64 (0)), (.int .i64 (0)), (.int .i64 (0)), (.int .i64 (0)), (.int .i64 (0)), (.int .i64 (0)), (.int .i64 (0)), (.int .i64 (0))]) .none)]) (.seq (.seq (.reg [(.mk (.some (9)) (.load .false .true (51) [(.some .i64), .none, (.some .i64), (.some .i64), (.some .i64), (.some .i64), (.some .i64), (.some .i64), (.some .i64), (.some .i64), (.some .i64), (.some .i64), (.some .i64), (.some .i64), (.some .i64), (.some .i64), (.some .i64), (.some .i64), (.some .i64), (.some .i64), (.some .i64), (.some .i64), (.some .i64), (.some .i64), (.some .i64), (.some .i64), (.some .i64), (.some .i64), (.some .i64), (.some .i64), (.some .i64), (.some .i64), (.some .i64), (.some .i64), (.some .i64), (.some .i64), (.some .i64), (.some .i64), (.some .i64), (.some .i64), (.some .i64), (.some .i64), (.some .i64), (.some .i64), (.some .i64), (.some .i64), (.some .i64), (.some .i64), (.some .i64), (.some .i64), (.some .i64)] (.t (4))) .none), (.mk (.some (10)) (.mv (.t (1))) .none), (.mk (.some (11)) (.call .false .false (.f (84)) [(.t (9)), (.t (10))]) .none), (.mk (.some (12)) (.un .not (.t (11))) .none), (.mk (.some (13)) (.mv (.t (12))) .none), (.mk (.some (14)) (.load .false .true (51) [(.some .i64), .none, (.some .i64), (.some .i64), (.some .i64), (.some .i64), (.some .i64), (.some .i64), (.some .i64), (.some .i64), (.some .i64), (.some .i64), (.some .i64), (.some .i64), (.some .i64), (.some .i64), (.some .i64), (.some .i64), (.some .i64), (.some .i64), (.some .i64), (.some .i64), (.some .i64), (.some .i64), (.some .i64), (.some .i64), (.some .i64), (.some .i64), (.some .i64), (.some .i64), (.some .i64), (.some .i64), (.some .i64), (.some .i64), (.some .i64), (.some .i64), (.some .i64), (.some .i64), (.some .i64), (.some .i64), (.some .i64), (.some .i64), (.some .i64), (.some .i64), (.some .i64), (.some .i64), (.some .i64), (.some .i64), (.some .i64), (.some .i64), (.some .i64)] (.t (4))) (.some ((13), .false))), (.mk (.some (15)) (.mv (.t (2))) (.some ((13), .false))), (.mk (.some (16)) (.call .false .false (.f (84)) [(.t (14)), (.t (15))]) (.some ((13), .false))), (.mk (.some (17)) (.un .not (.t (16))) (.some ((13), .false))), (.mk (.some (18)) (.pick (.t (13)) (.c (.bool .true)) (.t (17))) .none)]) (.cond (.t (18)) (.seq (.reg [(.mk (.some (19)) (.load .false .true (51) [(.some .i64), .none, (.some .i64), (.some .i64), (.some .i64), (.some .i64), (.some .i64), (.some .i64), (.some .i64), (.some .i64), (.some .i64), (.some .i64), (.some .i64), (.some .i64), (.some .i64), (.some .i64), (.some .i64), (.some .i64), (.some .i64), (.some .i64), (.some .i64), (.some .i64), (.some .i64), (.some .i64), (.some .i64), (.some .i64), (.some .i64), (.some .i64), (.some .i64), (.some .i64), (.some .i64), (.some .i64), (.some .i64), (.some .i64), (.some .i64), (.some .i64), (.some .i64), (.some .i64), (.some .i64), (.some .i64), (.some .i64), (.some .i64), (.some .i64), (.some .i64), (.some .i64), (.some .i64), (.some .i64), (.some .i64), (.some .i64), (.some .i64), (.some .i64)] (.t (4))) .none), (.mk .none (.store .false (51) (.t (8)) (.t (19))) .none)]) .ret) .skip)) (.seq (.reg [(.mk (.some (20)) (.mv (.t (1))) .none), (.mk (.some (21)) (.bin .add (.t (20)) (.c (.int .i64 (1)))) .none), (.mk (.some (22)) (.mv (.t (2))) .none), (.mk (.some (23)) (.bin .add (.t (22)) (.c (.int .i64 (1)))) .none), (.mk (.some (24)) (.mv (.t (1))) .none), (.mk (.some (25)) (.bin .add (.t (24)) (.c (.int .i64 (1)))) .none), (.mk (.some (26)) (.mv (.t (2))) .none), (.mk (.some (27)) (.bin .add (.t (26)) (.c (.int .i64 (1)))) .none), (.mk (.some (28)) (.fld (2) (.t (4))) .none), (.mk (.some (29)) (.ixA (7) (7) (.t (28)) (.t (25))) .none), (.mk (.some (30)) (.ixA (7) (1) (.t (29)) (.t (27))) .none), (.mk (.some (31)) (.load .false .false (1) [(.some .i64)] (.t (30))) .none), (.mk (.some (32)) (.mv (.t (3))) .none), (.mk (.some (33)) (.mm .true [(.t (32)), (.c (.int .i64 (-1099511627776)))]) .none), (.mk (.some (34)) (.mm .false [(.t (31)), (.t (33))]) .none), (.mk (.some (35)) (.fld (2) (.t (4))) .none), (.mk (.some (36)) (.ixA (7) (7) (.t (35)) (.t (21))) .none), (.mk (.some (37)) (.ixA (7) (1) (.t (36)) (.t (23))) .none), (.mk .none (.store .false (1) (.t (37)) (.t (34))) .none)]) (.seq (.reg [(.mk (.some (38)) (.load .false .true (51) [(.some .i64), .none, (.some .i64), (.some .i64), (.some .i64), (.some .i64), (.some .i64), (.some .i64), (.some .i64), (.some .i64), (.some .i64), (.some .i64), (.some .i64), (.some .i64), (.some .i64), (.some .i64), (.some .i64), (.some .i64), (.some .i64), (.some .i64), (.some .i64), (.some .i64), (.some .i64), (.some .i64), (.some .i64), (.some .i64), (.some .i64), (.some .i64), (.some .i64), (.some .i64), (.some .i64), (.some .i64), (.some .i64), (.some .i64), (.some .i64), (.some .i64), (.some .i64), (.some .i64), (.some .i64), (.some .i64), (.some .i64), (.some .i64), (.some .i64), (.some .i64), (.some .i64), (.some .i64), (.some .i64), (.some .i64), (.some .i64), (.some .i64), (.some .i64)] (.t (4))) .none), (.mk (.some (39)) (.call .false .false (.f (83)) [(.t (38))]) .none), (.mk .none (.store .false (51) (.t (8)) (.t (39))) .none)]) .ret))))⟩

theorem F26_ok : sfn Try.prog hints 26 [] = some F26 := by kernel_rfl

abbrev X26_0 (a0_2 : List Cell) (a1 : Int) (a2 : Int) (a3 : Int) := (a0_2.set ((IntKind.i64.wrap (a2 + 1)).toNat * 1 + (IntKind.i64.wrap (a1 + 1)).toNat * 7) (Cell.v (Value.int IntKind.i64 (if (if -1099511627776 > a3 then -1099511627776 else a3) < intC (a0_2.getD ((IntKind.i64.wrap (a2 + 1)).toNat * 1 + (IntKind.i64.wrap (a1 + 1)).toNat * 7) Cell.dead) then if -1099511627776 > a3 then -1099511627776 else a3 else intC (a0_2.getD ((IntKind.i64.wrap (a2 + 1)).toNat * 1 + (IntKind.i64.wrap (a1 + 1)).toNat * 7) Cell.dead)))))
abbrev X26_1 (a0_0 : Int) (a0_1 : Bool) (a0_2 : List Cell) (a1 : Int) (a2 : Int) (a3 : Int) := (ic IntKind.i64 (closeZ (a0_0, a0_1, List.map intC (X26_0 a0_2 a1 a2 a3))).snd.snd)

theorem E26 (a0_0 : Int) (a0_1 : Bool) (a0_2 : List Cell) (a1 : Int) (a2 : Int) (a3 : Int) (R : Ret → Prop) : wpFO cx26 F26 (.two (.n 3 .e) (.n 2 (.two .e .e))) [(.agg ((.v (.int .i64 a0_0)) :: (.v (.bool a0_1)) :: a0_2)), (.one (.v (.int .i64 a1))), (.one (.v (.int .i64 a2))), (.one (.v (.int .i64 a3)))] R = (bif a0_2.length + 2 == 51 then (bif a0_2.all plainC && true && (a0_2.all (isInt IntKind.i64) && a0_2.length == 49 && true) && true && true && true && true && true then (bif !norP a0_0 a0_1 a1 then (bif a0_2.length + 2 == 51 then (bif a0_2.length + 2 == 51 && true && true then (bif a0_2.length + 2 == 51 && true then (bif a0_2.all plainC then (R (Ret.mk (.agg ((.v (.int .i64 (a0_0))) :: (.v (.bool (a0_1))) :: (a0_2))) [])) else False) else False) else False) else False) else (bif a0_2.length + 2 == 51 then (bif a0_2.all plainC && true && (a0_2.all (isInt IntKind.i64) && a0_2.length == 49 && true) && true && true && true && true && true then (bif !norP a0_0 a0_1 a2 then (bif a0_2.length + 2 == 51 then (bif a0_2.length + 2 == 51 && true && true then (bif a0_2.length + 2 == 51 && true then (bif a0_2.all plainC then (R (Ret.mk (.agg ((.v (.int .i64 (a0_0))) :: (.v (.bool (a0_1))) :: (a0_2))) [])) else False) else False) else False) else False) else (bif decide (0 ≤ IntKind.i64.wrap (a1 + 1)) && decide (IntKind.i64.wrap (a1 + 1) < 7) then (bif decide (0 ≤ IntKind.i64.wrap (a2 + 1)) && decide (IntKind.i64.wrap (a2 + 1) < 7) then (bif decide ((IntKind.i64.wrap (a2 + 1)).toNat * 1 + (IntKind.i64.wrap (a1 + 1)).toNat * 7 + 3 ≤ a0_2.length + 2) && okK (some IntKind.i64) (a0_2.getD ((IntKind.i64.wrap (a2 + 1)).toNat * 1 + (IntKind.i64.wrap (a1 + 1)).toNat * 7) Cell.dead) then (bif decide (0 ≤ IntKind.i64.wrap (a1 + 1)) && decide (IntKind.i64.wrap (a1 + 1) < 7) then (bif decide (0 ≤ IntKind.i64.wrap (a2 + 1)) && decide (IntKind.i64.wrap (a2 + 1) < 7) then (bif decide ((IntKind.i64.wrap (a2 + 1)).toNat * 1 + (IntKind.i64.wrap (a1 + 1)).toNat * 7 + 3 ≤ a0_2.length + 2) then (bif (X26_0 a0_2 a1 a2 a3).length + 2 == 51 then (bif (X26_0 a0_2 a1 a2 a3).all plainC && true && ((X26_0 a0_2 a1 a2 a3).all (isInt IntKind.i64) && (X26_0 a0_2 a1 a2 a3).length == 49) && (X26_1 a0_0 a0_1 a0_2 a1 a2 a3).all (okC 0) && true && true && true && true then (bif (X26_1 a0_0 a0_1 a0_2 a1 a2 a3).length + 2 == 51 && true && true then (bif (X26_1 a0_0 a0_1 a0_2 a1 a2 a3).length + 2 == 51 && true then (bif (X26_1 a0_0 a0_1 a0_2 a1 a2 a3).all plainC then (R (Ret.mk (.agg ((.v (.int .i64 ((closeZ (a0_0, a0_1, List.map intC (X26_0 a0_2 a1 a2 a3))).fst))) :: (.v (.bool ((closeZ (a0_0, a0_1, List.map intC (X26_0 a0_2 a1 a2 a3))).snd.fst))) :: (X26_1 a0_0 a0_1 a0_2 a1 a2 a3))) [])) else False) else False) else False) else False) else False) else False) else False) else False) else False) else False) else False)) else False) else False)) else False) else False) := by kernel_rfl

def f26_wp (a0_0 : Int) (a0_1 : Bool) (a0_2 : List Cell) (a1 : Int) (a2 : Int) (a3 : Int) (R : Ret → Prop) : Prop := bif a0_2.length + 2 == 51 then (bif a0_2.all plainC && true && (a0_2.all (isInt IntKind.i64) && a0_2.length == 49 && true) && true && true && true && true && true then (bif !norP a0_0 a0_1 a1 then (bif a0_2.length + 2 == 51 && true && true then (bif a0_2.length + 2 == 51 && true then (bif a0_2.all plainC then (R (Ret.mk (.agg ((.v (.int .i64 (a0_0))) :: (.v (.bool (a0_1))) :: (a0_2))) [])) else False) else False) else False) else (bif !norP a0_0 a0_1 a2 then (bif a0_2.length + 2 == 51 && true && true then (bif a0_2.length + 2 == 51 && true then (bif a0_2.all plainC then (R (Ret.mk (.agg ((.v (.int .i64 (a0_0))) :: (.v (.bool (a0_1))) :: (a0_2))) [])) else False) else False) else False) else (bif decide (0 ≤ IntKind.i64.wrap (a1 + 1)) && decide (IntKind.i64.wrap (a1 + 1) < 7) then (bif decide (0 ≤ IntKind.i64.wrap (a2 + 1)) && decide (IntKind.i64.wrap (a2 + 1) < 7) then (bif decide ((IntKind.i64.wrap (a2 + 1)).toNat * 1 + (IntKind.i64.wrap (a1 + 1)).toNat * 7 + 3 ≤ a0_2.length + 2) && okK (some IntKind.i64) (a0_2.getD ((IntKind.i64.wrap (a2 + 1)).toNat * 1 + (IntKind.i64.wrap (a1 + 1)).toNat * 7) Cell.dead) then (bif decide ((IntKind.i64.wrap (a2 + 1)).toNat * 1 + (IntKind.i64.wrap (a1 + 1)).toNat * 7 + 3 ≤ a0_2.length + 2) then (bif (X26_0 a0_2 a1 a2 a3).length + 2 == 51 then (bif (X26_0 a0_2 a1 a2 a3).all plainC && true && ((X26_0 a0_2 a1 a2 a3).all (isInt IntKind.i64) && (X26_0 a0_2 a1 a2 a3).length == 49) && (X26_1 a0_0 a0_1 a0_2 a1 a2 a3).all (okC 0) && true && true && true && true then (bif (X26_1 a0_0 a0_1 a0_2 a1 a2 a3).length + 2 == 51 && true && true then (bif (X26_1 a0_0 a0_1 a0_2 a1 a2 a3).length + 2 == 51 && true then (bif (X26_1 a0_0 a0_1 a0_2 a1 a2 a3).all plainC then (R (Ret.mk (.agg ((.v (.int .i64 ((closeZ (a0_0, a0_1, List.map intC (X26_0 a0_2 a1 a2 a3))).fst))) :: (.v (.bool ((closeZ (a0_0, a0_1, List.map intC (X26_0 a0_2 a1 a2 a3))).snd.fst))) :: (X26_1 a0_0 a0_1 a0_2 a1 a2 a3))) [])) else False) else False) else False) else False) else False) else False) else False) else False) else False))) else False) else False

set_option maxRecDepth 100000 in
theorem f26_sound (a0_0 : Int) (a0_1 : Bool) (a0_2 : List Cell) (a1 : Int) (a2 : Int) (a3 : Int) (hC : CtxOk Try.prog cx26.q.ctx) {r : Ret} (h : f26_wp a0_0 a0_1 a0_2 a1 a2 a3 (fun r' => r' = r)) : SoundAt Try.prog 26 [(.agg ((.v (.int .i64 a0_0)) :: (.v (.bool a0_1)) :: a0_2)), (.one (.v (.int .i64 a1))), (.one (.v (.int .i64 a2))), (.one (.v (.int .i64 a3)))] r := by
  refine soundAtO (C := cx26) (oc := (.two (.n 3 .e) (.n 2 (.two .e .e)))) mixed hC F26_ok ?_
  rewrite [E26 a0_0 a0_1 a0_2 a1 a2 a3]
  unfold f26_wp at h
  refine ck_mapE h (fun q1 h => ?_)
  refine ck_mapE h (fun q2 h => ?_)
  refine cond_mapE h (fun q3 h => ?_) (fun q3 h => ?_)
  · skip
    refine ck_i q1 ?_
    refine ck_mapE h (fun q4 h => ?_)
    refine ck_mapE h (fun q6 h => ?_)
    refine ck_mapE h (fun q5 h => ?_)
    exact h
  · skip
    refine ck_i q1 ?_
    refine ck_i q2 ?_
    refine cond_mapE h (fun q7 h => ?_) (fun q7 h => ?_)
    · skip
      refine ck_i q1 ?_
      refine ck_mapE h (fun q8 h => ?_)
      refine ck_mapE h (fun q10 h => ?_)
      refine ck_mapE h (fun q9 h => ?_)
      exact h
    · skip
      refine ck_mapE h (fun q11 h => ?_)
      refine ck_mapE h (fun q12 h => ?_)
      refine ck_mapE h (fun q13 h => ?_)
      refine ck_i q11 ?_
      refine ck_i q12 ?_
      refine ck_mapE h (fun q14 h => ?_)
      refine ck_mapE h (fun q15 h => ?_)
      refine ck_mapE h (fun q16 h => ?_)
      refine ck_mapE h (fun q17 h => ?_)
      refine ck_mapE h (fun q19 h => ?_)
      refine ck_mapE h (fun q18 h => ?_)
      exact h


def cx33 : CtxW := ⟨⟨[(88, sum88)], []⟩, 2, []⟩


def F33 : SFn := ⟨31, [(.cell (8) .true (51))], (.seq (.reg [(.mk (.some (4)) (.box (.t (0))) .none), (.mk (.some (8)) (.alloc [(.int .i64 (0)), (.bool .false), (.int .i64 (0)), (.int .i64 (0)), (.int .i64 (0)), (.int .i64 (0)), (.int .i64 (0)), (.int .i64 (0)), (.int .i64 (0)), (.int .i64 (0)), (.int .i64 (0)), (.int .i64 (0)), (.int .i64 (0)), (.int .i64 (0)), (.int .i64 (0)), (.int .i64 (0)), (.int .i64 (0)), (.int .i64 (0)), (.int .i64 (0)), (.int .i64 (0)), (.int .i64 (0)), (.int .i64 (0)), (.int .i64 (0)), (.int .i64 (0)), (.int .i64 (0)), (.int .i64 (0)), (.int .i64 (0)), (.int .i64 (0)), (.int .i64 (0)), (.int .i64 (0)), (.int .i64 (0)), (.int .i64 (0)), (.int .i64 (0)), (.int .i64 (0)), (.int .i64 (0)), (.int .i64 (0)), (.int .i64 (0)), (.int .i64 (0)), (.int .i64 (0)), (.int .i64 (0)), (.int .i64 (0)), (.int .i64 (0)), (.int .i64 (0)), (.int .i64 (0)), (.int .i64 (0)), (.int .i64 (0)), (.int .i64 (0)), (.int .i64 (0)), (.int .i64 (0)), (.int .i64 (0)), (.int .i64 (0))]) .none)]) (.seq (.seq (.reg [(.mk (.some (9)) (.fld (1) (.t (4))) .none), (.mk (.some (10)) (.load .false .false (1) [.none] (.t (9))) .none)]) (.cond (.t (10)) (.seq (.reg [(.mk (.some (11)) (.load .false .true (51) [(.some .i64), .none, (.some .i64), (.some .i64), (.some .i64), (.some .i64), (.some .i64), (.some .i64), (.some .i64), (.some .i64), (.some .i64), (.some .i64), (.some .i64), (.some .i64), (.some .i64), (.some .i64), (.some .i64), (.some .i64), (.some .i64), (.some .i64), (.some .i64), (.some .i64), (.some .i64), (.some .i64), (.some .i64), (.some .i64), (.some .i64), (.some .i64), (.some .i64), (.some .i64), (.some .i64), (.some .i64), (.some .i64), (.some .i64), (.some .i64), (.some .i64), (.some .i64), (.some .i64), (.some .i64), (.some .i64), (.some .i64), (.some .i64), (.some .i64), (.some .i64), (.some .i64), (.some .i64), (.some .i64), (.some .i64), (.some .i64), (.some .i64), (.some .i64)] (.t (4))) .none), (.mk .none (.store .false (51) (.t (8)) (.t (11))) .none)]) .ret) .skip)) (.seq (.reg [(.mk (.some (12)) (.mv (.t (1))) .none), (.mk (.some (13)) (.bin .add (.t (12)) (.c (.int .i64 (1)))) .none), (.mk (.some (14)) (.mv (.t (2))) .none), (.mk (.some (15)) (.bin .add (.t (14)) (.c (.int .i64 (1)))) .none), (.mk (.some (16)) (.mv (.t (1))) .none), (.mk (.some (17)) (.bin .add (.t (16)) (.c (.int .i64 (1)))) .none), (.mk (.some (18)) (.mv (.t (2))) .none), (.mk (.some (19)) (.bin .add (.t (18)) (.c (.int .i64 (1)))) .none), (.mk (.some (20)) (.fld (2) (.t (4))) .none), (.mk (.some (21)) (.ixA (7) (7) (.t (20)) (.t (17))) .none), (.mk (.some (22)) (.ixA (7) (1) (.t (21)) (.t (19))) .none), (.mk (.some (23)) (.load .false .false (1) [(.some .i64)] (.t (22))) .none), (.mk (.some (24)) (.mv (.t (3))) .none), (.mk (.some (25)) (.mm .false [(.t (23)), (.t (24))]) .none), (.mk (.some (26)) (.fld (2) (.t (4))) .none), (.mk (.some (27)) (.ixA (7) (7) (.t (26)) (.t (13))) .none), (.mk (.some (28)) (.ixA (7) (1) (.t (27)) (.t (15))) .none), (.mk .none (.store .false (1) (.t (28)) (.t (25))) .none)]) (.seq (.reg [(.mk (.some (29)) (.load .false .true (51) [(.some .i64), .none, (.some .i64), (.some .i64), (.some .i64), (.some .i64), (.some .i64), (.some .i64), (.some .i64), (.some .i64), (.some .i64), (.some .i64), (.some .i64), (.some .i64), (.some .i64), (.some .i64), (.some .i64), (.some .i64), (.some .i64), (.some .i64), (.some .i64), (.some .i64), (.some .i64), (.some .i64), (.some .i64), (.some .i64), (.some .i64), (.some .i64), (.some .i64), (.some .i64), (.some .i64), (.some .i64), (.some .i64), (.some .i64), (.some .i64), (.some .i64), (.some .i64), (.some .i64), (.some .i64), (.some .i64), (.some .i64), (.some .i64), (.some .i64), (.some .i64), (.some .i64), (.some .i64), (.some .i64), (.some .i64), (.some .i64), (.some .i64), (.some .i64)] (.t (4))) .none), (.mk (.some (30)) (.call .false .false (.f (88)) [(.t (29))]) .none), (.mk .none (.store .false (51) (.t (8)) (.t (30))) .none)]) .ret))))⟩

theorem F33_ok : sfn Try.prog hints 33 [] = some F33 := by kernel_rfl

abbrev X33_0 (a0_2 : List Cell) (a1 : Int) (a2 : Int) (a3 : Int) := (a0_2.set ((IntKind.i64.wrap (a2 + 1)).toNat * 1 + (IntKind.i64.wrap (a1 + 1)).toNat * 7) (Cell.v (Value.int IntKind.i64 (if a3 < intC (a0_2.getD ((IntKind.i64.wrap (a2 + 1)).toNat * 1 + (IntKind.i64.wrap (a1 + 1)).toNat * 7) Cell.dead) then a3 else intC (a0_2.getD ((IntKind.i64.wrap (a2 + 1)).toNat * 1 + (IntKind.i64.wrap (a1 + 1)).toNat * 7) Cell.dead)))))
abbrev X33_1 (a0_0 : Int) (a0_1 : Bool) (a0_2 : List Cell) (a1 : Int) (a2 : Int) (a3 : Int) := (ic IntKind.i64 (closeR (a0_0, a0_1, List.map intC (X33_0 a0_2 a1 a2 a3))).snd.snd)

theorem E33 (a0_0 : Int) (a0_1 : Bool) (a0_2 : List Cell) (a1 : Int) (a2 : Int) (a3 : Int) (R : Ret → Prop) : wpFO cx33 F33 (.two .e .e) [(.agg ((.v (.int .i64 a0_0)) :: (.v (.bool a0_1)) :: a0_2)), (.one (.v (.int .i64 a1))), (.one (.v (.int .i64 a2))), (.one (.v (.int .i64 a3)))] R = (bif a0_1 then (bif a0_2.length + 2 == 51 then (bif a0_2.length + 2 == 51 && true && true then (bif a0_2.length + 2 == 51 && true then (bif a0_2.all plainC then (R (Ret.mk (.agg ((.v (.int .i64 (a0_0))) :: (.v (.bool (a0_1))) :: (a0_2))) [])) else False) else False) else False) else False) else (bif decide (0 ≤ IntKind.i64.wrap (a1 + 1)) && decide (IntKind.i64.wrap (a1 + 1) < 7) then (bif decide (0 ≤ IntKind.i64.wrap (a2 + 1)) && decide (IntKind.i64.wrap (a2 + 1) < 7) then (bif decide ((IntKind.i64.wrap (a2 + 1)).toNat * 1 + (IntKind.i64.wrap (a1 + 1)).toNat * 7 + 3 ≤ a0_2.length + 2) && okK (some IntKind.i64) (a0_2.getD ((IntKind.i64.wrap (a2 + 1)).toNat * 1 + (IntKind.i64.wrap (a1 + 1)).toNat * 7) Cell.dead) then (bif decide (0 ≤ IntKind.i64.wrap (a1 + 1)) && decide (IntKind.i64.wrap (a1 + 1) < 7) then (bif decide (0 ≤ IntKind.i64.wrap (a2 + 1)) && decide (IntKind.i64.wrap (a2 + 1) < 7) then (bif decide ((IntKind.i64.wrap (a2 + 1)).toNat * 1 + (IntKind.i64.wrap (a1 + 1)).toNat * 7 + 3 ≤ a0_2.length + 2) then (bif (X33_0 a0_2 a1 a2 a3).length + 2 == 51 then (bif (X33_0 a0_2 a1 a2 a3).all plainC && true && ((X33_0 a0_2 a1 a2 a3).all (isInt IntKind.i64) && (X33_0 a0_2 a1 a2 a3).length == 49 && okN a0_0) && (X33_1 a0_0 a0_1 a0_2 a1 a2 a3).all (okC 0) && true && true && true && true then (bif (X33_1 a0_0 a0_1 a0_2 a1 a2 a3).length + 2 == 51 && true && true then (bif (X33_1 a0_0 a0_1 a0_2 a1 a2 a3).length + 2 == 51 && true then (bif (X33_1 a0_0 a0_1 a0_2 a1 a2 a3).all plainC then (R (Ret.mk (.agg ((.v (.int .i64 ((closeR (a0_0, a0_1, List.map intC (X33_0 a0_2 a1 a2 a3))).fst))) :: (.v (.bool ((closeR (a0_0, a0_1, List.map intC (X33_0 a0_2 a1 a2 a3))).snd.fst))) :: (X33_1 a0_0 a0_1 a0_2 a1 a2 a3))) [])) else False) else False) else False) else False) else False) else False) else False) else False) else False) else False) else False)) := by kernel_rfl

def f33_wp (a0_0 : Int) (a0_1 : Bool) (a0_2 : List Cell) (a1 : Int) (a2 : Int) (a3 : Int) (R : Ret → Prop) : Prop := bif a0_1 then (bif a0_2.length + 2 == 51 then (bif a0_2.length + 2 == 51 && true && true then (bif a0_2.length + 2 == 51 && true then (bif a0_2.all plainC then (R (Ret.mk (.agg ((.v (.int .i64 (a0_0))) :: (.v (.bool (a0_1))) :: (a0_2))) [])) else False) else False) else False) else False) else (bif decide (0 ≤ IntKind.i64.wrap (a1 + 1)) && decide (IntKind.i64.wrap (a1 + 1) < 7) then (bif decide (0 ≤ IntKind.i64.wrap (a2 + 1)) && decide (IntKind.i64.wrap (a2 + 1) < 7) then (bif decide ((IntKind.i64.wrap (a2 + 1)).toNat * 1 + (IntKind.i64.wrap (a1 + 1)).toNat * 7 + 3 ≤ a0_2.length + 2) && okK (some IntKind.i64) (a0_2.getD ((IntKind.i64.wrap (a2 + 1)).toNat * 1 + (IntKind.i64.wrap (a1 + 1)).toNat * 7) Cell.dead) then (bif decide ((IntKind.i64.wrap (a2 + 1)).toNat * 1 + (IntKind.i64.wrap (a1 + 1)).toNat * 7 + 3 ≤ a0_2.length + 2) then (bif (X33_0 a0_2 a1 a2 a3).length + 2 == 51 then (bif (X33_0 a0_2 a1 a2 a3).all plainC && true && ((X33_0 a0_2 a1 a2 a3).all (isInt IntKind.i64) && (X33_0 a0_2 a1 a2 a3).length == 49 && okN a0_0) && (X33_1 a0_0 a0_1 a0_2 a1 a2 a3).all (okC 0) && true && true && true && true then (bif (X33_1 a0_0 a0_1 a0_2 a1 a2 a3).length + 2 == 51 && true && true then (bif (X33_1 a0_0 a0_1 a0_2 a1 a2 a3).length + 2 == 51 && true then (bif (X33_1 a0_0 a0_1 a0_2 a1 a2 a3).all plainC then (R (Ret.mk (.agg ((.v (.int .i64 ((closeR (a0_0, a0_1, List.map intC (X33_0 a0_2 a1 a2 a3))).fst))) :: (.v (.bool ((closeR (a0_0, a0_1, List.map intC (X33_0 a0_2 a1 a2 a3))).snd.fst))) :: (X33_1 a0_0 a0_1 a0_2 a1 a2 a3))) [])) else False) else False) else False) else False) else False) else False) else False) else False) else False)

set_option maxRecDepth 100000 in
theorem f33_sound (a0_0 : Int) (a0_1 : Bool) (a0_2 : List Cell) (a1 : Int) (a2 : Int) (a3 : Int) (hC : CtxOk Try.prog cx33.q.ctx) {r : Ret} (h : f33_wp a0_0 a0_1 a0_2 a1 a2 a3 (fun r' => r' = r)) : SoundAt Try.prog 33 [(.agg ((.v (.int .i64 a0_0)) :: (.v (.bool a0_1)) :: a0_2)), (.one (.v (.int .i64 a1))), (.one (.v (.int .i64 a2))), (.one (.v (.int .i64 a3)))] r := by
  refine soundAtO (C := cx33) (oc := (.two .e .e)) mixed hC F33_ok ?_
  rewrite [E33 a0_0 a0_1 a0_2 a1 a2 a3]
  unfold f33_wp at h
  refine cond_mapE h (fun q1 h => ?_) (fun q1 h => ?_)
  · skip
    refine ck_mapE h (fun q2 h => ?_)
    refine ck_mapE h (fun q3 h => ?_)
    refine ck_mapE h (fun q5 h => ?_)
    refine ck_mapE h (fun q4 h => ?_)
    exact h
  · skip
    refine ck_mapE h (fun q6 h => ?_)
    refine ck_mapE h (fun q7 h => ?_)
    refine ck_mapE h (fun q8 h => ?_)
    refine ck_i q6 ?_
    refine ck_i q7 ?_
    refine ck_mapE h (fun q9 h => ?_)
    refine ck_mapE h (fun q10 h => ?_)
    refine ck_mapE h (fun q11 h => ?_)
    refine ck_mapE h (fun q12 h => ?_)
    refine ck_mapE h (fun q14 h => ?_)
    refine ck_mapE h (fun q13 h => ?_)
    exact h


def cx37 : CtxW := ⟨⟨[(85, sum85), (83, sum83)], [(87, psum87)]⟩, 2, []⟩


def F37 : SFn := ⟨15, [(.cell (4) .true (51))], (.seq (.reg [(.mk (.some (2)) (.box (.t (0))) .none), (.mk (.some (4)) (.alloc [(.int .i64 (0)), (.bool .false), (.int .i64 (0)), (.int .i64 (0)), (.int .i64 (0)), (.int .i64 (0)), (.int .i64 (0)), (.int .i64 (0)), (.int .i64 (0)), (.int .i64 (0)), (.int .i64 (0)), (.int .i64 (0)), (.int .i64 (0)), (.int .i64 (0)), (.int .i64 (0)), (.int .i64 (0)), (.int .i64 (0)), (.int .i64 (0)), (.int .i64 (0)), (.int .i64 (0)), (.int .i64 (0)), (.int .i64 (0)), (.int .i64 (0)), (.int .i64 (0)), (.int .i64 (0)), (.int .i64 (0)), (.int .i64 (0)), (.int .i64 (0)), (.int .i64 (0)), (.int .i64 (0)), (.int .i64 (0)), (.int .i64 (0)), (.int .i64 (0)), (.int .i64 (0)), (.int .i64 (0)), (.int .i64 (0)), (.int .i64 (0)), (.int .i64 (0)), (.int .i64 (0)), (.int .i64 (0)), (.int .i64 (0)), (.int .i64 (0)), (.int .i64 (0)), (.int .i64 (0)), (.int .i64 (0)), (.int .i64 (0)), (.int .i64 (0)), (.int .i64 (0)), (.int .i64 (0)), (.int .i64 (0)), (.int .i64 (0))]) .none)]) (.seq (.seq (.reg [(.mk (.some (5)) (.load .false .true (51) [(.some .i64), .none, (.some .i64), (.some .i64), (.some .i64), (.some .i64), (.some .i64), (.some .i64), (.some .i64), (.some .i64), (.some .i64), (.some .i64), (.some .i64), (.some .i64), (.some .i64), (.some .i64), (.some .i64), (.some .i64), (.some .i64), (.some .i64), (.some .i64), (.some .i64), (.some .i64), (.some .i64), (.some .i64), (.some .i64), (.some .i64), (.some .i64), (.some .i64), (.some .i64), (.some .i64), (.some .i64), (.some .i64), (.some .i64), (.some .i64), (.some .i64), (.some .i64), (.some .i64), (.some .i64), (.some .i64), (.some .i64), (.some .i64), (.some .i64), (.some .i64), (.some .i64), (.some .i64), (.some .i64), (.some .i64), (.some .i64), (.some .i64), (.some .i64)] (.t (2))) .none), (.mk (.some (6)) (.mv (.t (1))) .none), (.mk (.some (7)) (.call .false .false (.f (85)) [(.t (5)), (.t (6))]) .none), (.mk (.some (8)) (.un .not (.t (7))) .none)]) (.cond (.t (8)) (.seq (.reg [(.mk (.some (9)) (.load .false .true (51) [(.some .i64), .none, (.some .i64), (.some .i64), (.some .i64), (.some .i64), (.some .i64), (.some .i64), (.some .i64), (.some .i64), (.some .i64), (.some .i64), (.some .i64), (.some .i64), (.some .i64), (.some .i64), (.some .i64), (.some .i64), (.some .i64), (.some .i64), (.some .i64), (.some .i64), (.some .i64), (.some .i64), (.some .i64), (.some .i64), (.some .i64), (.some .i64), (.some .i64), (.some .i64), (.some .i64), (.some .i64), (.some .i64), (.some .i64), (.some .i64), (.some .i64), (.some .i64), (.some .i64), (.some .i64), (.some .i64), (.some .i64), (.some .i64), (.some .i64), (.some .i64), (.some .i64), (.some .i64), (.some .i64), (.some .i64), (.some .i64), (.some .i64), (.some .i64)] (.t (2))) .none), (.mk .none (.store .false (51) (.t (4)) (.t (9))) .none)]) .ret) .skip)) (.seq (.reg [(.mk (.some (10)) (.mv (.t (1))) .none), (.mk (.some (11)) (.bin .add (.t (10)) (.c (.int .i64 (1)))) .none), (.mk (.some (12)) (.pcall (87) (.t (2)) [(.t (11))]) .none)]) (.seq (.reg [(.mk (.some (13)) (.load .false .true (51) [(.some .i64), .none, (.some .i64), (.some .i64), (.some .i64), (.some .i64), (.some .i64), (.some .i64), (.some .i64), (.some .i64), (.some .i64), (.some .i64), (.some .i64), (.some .i64), (.some .i64), (.some .i64), (.some .i64), (.some .i64), (.some .i64), (.some .i64), (.some .i64), (.some .i64), (.some .i64), (.some .i64), (.some .i64), (.some .i64), (.some .i64), (.some .i64), (.some .i64), (.some .i64), (.some .i64), (.some .i64), (.some .i64), (.some .i64), (.some .i64), (.some .i64), (.some .i64), (.some .i64), (.some .i64), (.some .i64), (.some .i64), (.some .i64), (.some .i64), (.some .i64), (.some .i64), (.some .i64), (.some .i64), (.some .i64), (.some .i64), (.some .i64), (.some .i64)] (.t (2))) .none), (.mk (.some (14)) (.call .false .false (.f (83)) [(.t (13))]) .none), (.mk .none (.store .false (51) (.t (4)) (.t (14))) .none)]) .ret))))⟩

theorem F37_ok : sfn Try.prog hints 37 [] = some F37 := by kernel_rfl

abbrev X37_0 (a0_0 : Int) (a0_2 : List Cell) (a1 : Int) := (ic IntKind.i64 (forT (IntKind.i64.wrap (a1 + 1)).toNat (a0_0.toNat + 1) (List.map intC a0_2)))
abbrev X37_1 (a0_0 : Int) (a0_1 : Bool) (a0_2 : List Cell) (a1 : Int) := (ic IntKind.i64 (closeZ (a0_0, a0_1, List.map intC (X37_0 a0_0 a0_2 a1))).snd.snd)

theorem E37 (a0_0 : Int) (a0_1 : Bool) (a0_2 : List Cell) (a1 : Int) (R : Ret → Prop) : wpFO cx37 F37 (.two .e .e) [(.agg ((.v (.int .i64 a0_0)) :: (.v (.bool a0_1)) :: a0_2)), (.one (.v (.int .i64 a1)))] R = (bif a0_2.length + 2 == 51 then (bif a0_2.all plainC && true && (a0_2.all (isInt IntKind.i64) && a0_2.length == 49 && true) && true && true && true && true && true then (bif !varP a0_0 a0_1 a1 then (bif a0_2.length + 2 == 51 then (bif a0_2.length + 2 == 51 && true && true then (bif a0_2.length + 2 == 51 && true then (bif a0_2.all plainC then (R (Ret.mk (.agg ((.v (.int .i64 (a0_0))) :: (.v (.bool (a0_1))) :: (a0_2))) [])) else False) else False) else False) else False) else (bif a0_2.all (isInt IntKind.i64) && a0_2.length == 49 && okN a0_0 && true && decide (0 ≤ IntKind.i64.wrap (a1 + 1)) && decide (IntKind.i64.wrap (a1 + 1) ≤ 6) && (X37_0 a0_0 a0_2 a1).length + 2 == a0_2.length + 2 && a0_2.all flatC && (X37_0 a0_0 a0_2 a1).all flatC then (bif (X37_0 a0_0 a0_2 a1).length + 2 == 51 then (bif (X37_0 a0_0 a0_2 a1).all plainC && true && ((X37_0 a0_0 a0_2 a1).all (isInt IntKind.i64) && (X37_0 a0_0 a0_2 a1).length == 49) && (X37_1 a0_0 a0_1 a0_2 a1).all (okC 0) && true && true && true && true then (bif (X37_1 a0_0 a0_1 a0_2 a1).length + 2 == 51 && true && true then (bif (X37_1 a0_0 a0_1 a0_2 a1).length + 2 == 51 && true then (bif (X37_1 a0_0 a0_1 a0_2 a1).all plainC then (R (Ret.mk (.agg ((.v (.int .i64 ((closeZ (a0_0, a0_1, List.map intC (X37_0 a0_0 a0_2 a1))).fst))) :: (.v (.bool ((closeZ (a0_0, a0_1, List.map intC (X37_0 a0_0 a0_2 a1))).snd.fst))) :: (X37_1 a0_0 a0_1 a0_2 a1))) [])) else False) else False) else False) else False) else False) else False)) else False) else False) := by kernel_rfl

def f37_wp (a0_0 : Int) (a0_1 : Bool) (a0_2 : List Cell) (a1 : Int) (R : Ret → Prop) : Prop := bif a0_2.length + 2 == 51 then (bif a0_2.all plainC && true && (a0_2.all (isInt IntKind.i64) && a0_2.length == 49 && true) && true && true && true && true && true then (bif !varP a0_0 a0_1 a1 then (bif a0_2.length + 2 == 51 && true && true then (bif a0_2.length + 2 == 51 && true then (bif a0_2.all plainC then (R (Ret.mk (.agg ((.v (.int .i64 (a0_0))) :: (.v (.bool (a0_1))) :: (a0_2))) [])) else False) else False) else False) else (bif a0_2.all (isInt IntKind.i64) && a0_2.length == 49 && okN a0_0 && true && decide (0 ≤ IntKind.i64.wrap (a1 + 1)) && decide (IntKind.i64.wrap (a1 + 1) ≤ 6) && (X37_0 a0_0 a0_2 a1).length + 2 == a0_2.length + 2 && a0_2.all flatC && (X37_0 a0_0 a0_2 a1).all flatC then (bif (X37_0 a0_0 a0_2 a1).length + 2 == 51 then (bif (X37_0 a0_0 a0_2 a1).all plainC && true && ((X37_0 a0_0 a0_2 a1).all (isInt IntKind.i64) && (X37_0 a0_0 a0_2 a1).length == 49) && (X37_1 a0_0 a0_1 a0_2 a1).all (okC 0) && true && true && true && true then (bif (X37_1 a0_0 a0_1 a0_2 a1).length + 2 == 51 && true && true then (bif (X37_1 a0_0 a0_1 a0_2 a1).length + 2 == 51 && true then (bif (X37_1 a0_0 a0_1 a0_2 a1).all plainC then (R (Ret.mk (.agg ((.v (.int .i64 ((closeZ (a0_0, a0_1, List.map intC (X37_0 a0_0 a0_2 a1))).fst))) :: (.v (.bool ((closeZ (a0_0, a0_1, List.map intC (X37_0 a0_0 a0_2 a1))).snd.fst))) :: (X37_1 a0_0 a0_1 a0_2 a1))) [])) else False) else False) else False) else False) else False) else False)) else False) else False

set_option maxRecDepth 100000 in
theorem f37_sound (a0_0 : Int) (a0_1 : Bool) (a0_2 : List Cell) (a1 : Int) (hC : CtxOk Try.prog cx37.q.ctx) {r : Ret} (h : f37_wp a0_0 a0_1 a0_2 a1 (fun r' => r' = r)) : SoundAt Try.prog 37 [(.agg ((.v (.int .i64 a0_0)) :: (.v (.bool a0_1)) :: a0_2)), (.one (.v (.int .i64 a1)))] r := by
  refine soundAtO (C := cx37) (oc := (.two .e .e)) mixed hC F37_ok ?_
  rewrite [E37 a0_0 a0_1 a0_2 a1]
  unfold f37_wp at h
  refine ck_mapE h (fun q1 h => ?_)
  refine ck_mapE h (fun q2 h => ?_)
  refine cond_mapE h (fun q3 h => ?_) (fun q3 h => ?_)
  · skip
    refine ck_i q1 ?_
    refine ck_mapE h (fun q4 h => ?_)
    refine ck_mapE h (fun q6 h => ?_)
    refine ck_mapE h (fun q5 h => ?_)
    exact h
  · skip
    refine ck_mapE h (fun q7 h => ?_)
    refine ck_mapE h (fun q8 h => ?_)
    refine ck_mapE h (fun q9 h => ?_)
    refine ck_mapE h (fun q10 h => ?_)
    refine ck_mapE h (fun q12 h => ?_)
    refine ck_mapE h (fun q11 h => ?_)
    exact h


def cx89 : CtxW := ⟨⟨[(88, sum88)], []⟩, 2, []⟩


def F89_b0 : SC := (.seq (.seq (.reg [(.mk (.some (9)) (.mv (.t (5))) .none), (.mk (.some (10)) (.fld (0) (.t (2))) .none), (.mk (.some (11)) (.load .false .false (1) [(.some .i64)] (.t (10))) .none), (.mk (.some (12)) (.bin .leq (.t (9)) (.t (11))) .none)]) (.cond (.t (12)) .skip (.exit (0)))) (.seq (.blk 1 (.seq (.reg [(.mk (.some (15)) (.mv (.t (5))) .none), (.mk (.some (16)) (.mv (.t (1))) .none), (.mk (.some (17)) (.bin .add (.t (16)) (.c (.int .i64 (1)))) .none), (.mk (.some (18)) (.bin .neq (.t (15)) (.t (17))) .none)]) (.cond (.t (18)) (.reg [(.mk (.some (19)) (.mv (.t (5))) .none), (.mk (.some (20)) (.mv (.t (1))) .none), (.mk (.some (21)) (.bin .add (.t (20)) (.c (.int .i64 (1)))) .none), (.mk (.some (22)) (.mv (.t (1))) .none), (.mk (.some (23)) (.bin .add (.t (22)) (.c (.int .i64 (1)))) .none), (.mk (.some (24)) (.mv (.t (5))) .none), (.mk (.some (25)) (.fld (2) (.t (2))) .none), (.mk (.some (26)) (.ixA (7) (7) (.t (25)) (.t (19))) .none), (.mk (.some (27)) (.ixA (7) (1) (.t (26)) (.t (21))) .none), (.mk .none (.store .false (1) (.t (27)) (.c (.int .i64 (1099511627776)))) .none), (.mk (.some (28)) (.fld (2) (.t (2))) .none), (.mk (.some (29)) (.ixA (7) (7) (.t (28)) (.t (23))) .none), (.mk (.some (30)) (.ixA (7) (1) (.t (29)) (.t (24))) .none), (.mk .none (.store .false (1) (.t (30)) (.c (.int .i64 (1099511627776)))) .none)]) .skip))) (.reg [(.mk (.some (13)) (.mv (.t (5))) .none), (.mk (.some (14)) (.bin .add (.t (13)) (.c (.int .i64 (1)))) .none), (.mk (.some (5)) (.mv (.t (14))) .none)])))

def F89_c1 : SC := (.seq (.reg [(.mk (.some (31)) (.load .false .true (51) [(.some .i64), .none, (.some .i64), (.some .i64), (.some .i64), (.some .i64), (.some .i64), (.some .i64), (.some .i64), (.some .i64), (.some .i64), (.some .i64), (.some .i64), (.some .i64), (.some .i64), (.some .i64), (.some .i64), (.some .i64), (.some .i64), (.some .i64), (.some .i64), (.some .i64), (.some .i64), (.some .i64), (.some .i64), (.some .i64), (.some .i64), (.some .i64), (.some .i64), (.some .i64), (.some .i64), (.some .i64), (.some .i64), (.some .i64), (.some .i64), (.some .i64), (.some .i64), (.some .i64), (.some .i64), (.some .i64), (.some .i64), (.some .i64), (.some .i64), (.some .i64), (.some .i64), (.some .i64), (.some .i64), (.some .i64), (.some .i64), (.some .i64), (.some .i64)] (.t (2))) .none), (.mk (.some (32)) (.call .false .false (.f (88)) [(.t (31))]) .none), (.mk .none (.store .false (51) (.t (4)) (.t (32))) .none)]) .ret)

def F89 : SFn := ⟨33, [(.cell (4) .true (51))], (.seq (.reg [(.mk (.some (2)) (.box (.t (0))) .none), (.mk (.some (4)) (.alloc [(.int .i64 (0)), (.bool .false), (.int .i64 (0)), (.int .i64 (0)), (.int .i64 (0)), (.int .i64 (0)), (.int .i64 (0)), (.int .i64 (0)), (.int .i64 (0)), (.int .i64 (0)), (.int .i64 (0)), (.int .i64 (0)), (.int .i64 (0)), (.int .i64 (0)), (.int .i64 (0)), (.int .i64 (0)), (.int .i64 (0)), (.int .i64 (0)), (.int .i64 (0)), (.int .i64 (0)), (.int .i64 (0)), (.int .i64 (0)), (.int .i64 (0)), (.int .i64 (0)), (.int .i64 (0)), (.int .i64 (0)), (.int .i64 (0)), (.int .i64 (0)), (.int .i64 (0)), (.int .i64 (0)), (.int .i64 (0)), (.int .i64 (0)), (.int .i64 (0)), (.int .i64 (0)), (.int .i64 (0)), (.int .i64 (0)), (.int .i64 (0)), (.int .i64 (0)), (.int .i64 (0)), (.int .i64 (0)), (.int .i64 (0)), (.int .i64 (0)), (.int .i64 (0)), (.int .i64 (0)), (.int .i64 (0)), (.int .i64 (0)), (.int .i64 (0)), (.int .i64 (0)), (.int .i64 (0)), (.int .i64 (0)), (.int .i64 (0))]) .none)]) (.seq (.seq (.reg [(.mk (.some (6)) (.fld (1) (.t (2))) .none), (.mk (.some (7)) (.load .false .false (1) [.none] (.t (6))) .none)]) (.cond (.t (7)) (.seq (.reg [(.mk (.some (8)) (.load .false .true (51) [(.some .i64), .none, (.some .i64), (.some .i64), (.some .i64), (.some .i64), (.some .i64), (.some .i64), (.some .i64), (.some .i64), (.some .i64), (.some .i64), (.some .i64), (.some .i64), (.some .i64), (.some .i64), (.some .i64), (.some .i64), (.some .i64), (.some .i64), (.some .i64), (.some .i64), (.some .i64), (.some .i64), (.some .i64), (.some .i64), (.some .i64), (.some .i64), (.some .i64), (.some .i64), (.some .i64), (.some .i64), (.some .i64), (.some .i64), (.some .i64), (.some .i64), (.some .i64), (.some .i64), (.some .i64), (.some .i64), (.some .i64), (.some .i64), (.some .i64), (.some .i64), (.some .i64), (.some .i64), (.some .i64), (.some .i64), (.some .i64), (.some .i64), (.some .i64)] (.t (2))) .none), (.mk .none (.store .false (51) (.t (4)) (.t (8))) .none)]) .ret) .skip)) (.seq (.seq (.reg [(.mk (.some (5)) (.mv (.c (.int .i64 (0)))) .none)]) (.blk 0 (.loop [1, 2, 4, 5] [2, 4] [] F89_b0))) F89_c1)))⟩

theorem F89_ok : sfn Try.prog hints 89 [([1, 2, 4, 5], ([2, 4], []))] = some F89 := by kernel_rfl

abbrev X89_0 (a1 : Int) (y0_0 : Int) (y0_1 : List Cell) := ((y0_1.set ((IntKind.i64.wrap (a1 + 1)).toNat * 1 + y0_0.toNat * 7) (Cell.v (Value.int IntKind.i64 1099511627776))).set (y0_0.toNat * 1 + (IntKind.i64.wrap (a1 + 1)).toNat * 7) (Cell.v (Value.int IntKind.i64 1099511627776)))
abbrev X89_1 (a0_0 : Int) (a0_1 : Bool) (y0_1 : List Cell) := (ic IntKind.i64 (closeR (a0_0, a0_1, List.map intC y0_1)).snd.snd)

def I89_0_0 (a0_0 : Int) (a0_1 : Bool) (a0_2 : List Cell) (a1 : Int) (y0_0 : Int) (y0_1 : List Cell) : St := (.mk [.no, (.one (.v (.int .i64 (a1)))), (.box (2) (0) (0)), .no, (.box (4) (0) (0)), (.one (.v (.int .i64 (y0_0)))), .no, .no, .no, .no, .no, .no, .no, .no, .no, .no, .no, .no, .no, .no, .no, .no, .no, .no, .no, .no, .no, .no, .no, .no, .no, .no, .no] [[], [], [((.v (.int .i64 (a0_0))) :: (.v (.bool (a0_1))) :: (y0_1))], [], [((.v (.int .i64 (0))) :: (.v (.bool .false)) :: (List.replicate (49) (Cell.v (Value.int IntKind.i64 0))))], [], [], [], [], [], [], [], [], [], [], [], [], [], [], [], [], [], [], [], [], [], [], [], [], [], [], [], []] [[], [], [], [], [], [], [], [], [], [], [], [], [], [], [], [], [], [], [], [], [], [], [], [], [], [], [], [], [], [], [], [], []])

theorem E89_0_0 (a0_0 : Int) (a0_1 : Bool) (a0_2 : List Cell) (a1 : Int) (y0_0 : Int) (y0_1 : List Cell) (N0 : Bool × St → Prop) (R : Ret → Prop) : wpO cx89 F89_b0 (.two (.two .e .e) .e) (I89_0_0 a0_0 a0_1 a0_2 a1 y0_0 y0_1) (kLp (headW cx89.m [1, 2, 4, 5] [2, 4] []) N0 (kBlk 0 (kSeq cx89 F89_c1 (endO cx89.m F89.rs R)))) = (bif decide (y0_0 ≤ a0_0) then (bif y0_0 != IntKind.i64.wrap (a1 + 1) then (bif decide (0 ≤ y0_0) && decide (y0_0 < 7) then (bif decide (0 ≤ IntKind.i64.wrap (a1 + 1)) && decide (IntKind.i64.wrap (a1 + 1) < 7) then (bif decide ((IntKind.i64.wrap (a1 + 1)).toNat * 1 + y0_0.toNat * 7 + 3 ≤ y0_1.length + 2) then (bif decide (0 ≤ IntKind.i64.wrap (a1 + 1)) && decide (IntKind.i64.wrap (a1 + 1) < 7) then (bif decide (0 ≤ y0_0) && decide (y0_0 < 7) then (bif decide (y0_0.toNat * 1 + (IntKind.i64.wrap (a1 + 1)).toNat * 7 + 3 ≤ (y0_1.set ((IntKind.i64.wrap (a1 + 1)).toNat * 1 + y0_0.toNat * 7) (Cell.v (Value.int IntKind.i64 1099511627776))).length + 2) then (N0 ((X89_0 a1 y0_0 y0_1).all plainC && true && true, (I89_0_0 a0_0 a0_1 a0_2 a1 (IntKind.i64.wrap (y0_0 + 1)) (X89_0 a1 y0_0 y0_1)))) else False) else False) else False) else False) else False) else False) else (N0 (y0_1.all plainC && true && true, (I89_0_0 a0_0 a0_1 a0_2 a1 (IntKind.i64.wrap (y0_0 + 1)) (y0_1))))) else (bif y0_1.length + 2 == 51 then (bif y0_1.all plainC && true && (y0_1.all (isInt IntKind.i64) && y0_1.length == 49 && okN a0_0) && (X89_1 a0_0 a0_1 y0_1).all (okC 0) && true && true && true && true then (bif (X89_1 a0_0 a0_1 y0_1).length + 2 == 51 && true && true then (bif (X89_1 a0_0 a0_1 y0_1).length + 2 == 51 && true then (bif (X89_1 a0_0 a0_1 y0_1).all plainC then (R (Ret.mk (.agg ((.v (.int .i64 ((closeR (a0_0, a0_1, List.map intC y0_1)).fst))) :: (.v (.bool ((closeR (a0_0, a0_1, List.map intC y0_1)).snd.fst))) :: (X89_1 a0_0 a0_1 y0_1))) [])) else False) else False) else False) else False) else False)) := by kernel_rfl

theorem E89 (a0_0 : Int) (a0_1 : Bool) (a0_2 : List Cell) (a1 : Int) (R : Ret → Prop) : wpFO cx89 F89 (.two .e .e) [(.agg ((.v (.int .i64 a0_0)) :: (.v (.bool a0_1)) :: a0_2)), (.one (.v (.int .i64 a1)))] R = (bif a0_1 then (bif a0_2.length + 2 == 51 then (bif a0_2.length + 2 == 51 && true && true then (bif a0_2.length + 2 == 51 && true then (bif a0_2.all plainC then (R (Ret.mk (.agg ((.v (.int .i64 (a0_0))) :: (.v (.bool (a0_1))) :: (a0_2))) [])) else False) else False) else False) else False) else (LoopO (bodyX cx89 F89_b0) (headW cx89.m [1, 2, 4, 5] [2, 4] []) (kBlk 0 (kSeq cx89 F89_c1 (endO cx89.m F89.rs R))) (a0_2.all plainC && true && true, (I89_0_0 a0_0 a0_1 a0_2 a1 (0) (a0_2))))) := by kernel_rfl

def f89_wp (a0_0 : Int) (a0_1 : Bool) (a0_2 : List Cell) (a1 : Int) (R : Ret → Prop) : Prop := bif a0_1 then (bif a0_2.length + 2 == 51 then (bif a0_2.length + 2 == 51 && true && true then (bif a0_2.length + 2 == 51 && true then (bif a0_2.all plainC then (R (Ret.mk (.agg ((.v (.int .i64 (a0_0))) :: (.v (.bool (a0_1))) :: (a0_2))) [])) else False) else False) else False) else False) else ((a0_2.all plainC && true && true) = true ∧ LoopP (fun (z0 : (Int × (List Cell))) (k0 : (Int × (List Cell)) → Prop) => (fun (z : Int × (List Cell)) => (fun (y0_0 : Int) (y0_1 : List Cell) => bif decide (y0_0 ≤ a0_0) then (bif y0_0 != IntKind.i64.wrap (a1 + 1) then (bif decide (0 ≤ y0_0) && decide (y0_0 < 7) then (bif decide (0 ≤ IntKind.i64.wrap (a1 + 1)) && decide (IntKind.i64.wrap (a1 + 1) < 7) then (bif decide ((IntKind.i64.wrap (a1 + 1)).toNat * 1 + y0_0.toNat * 7 + 3 ≤ y0_1.length + 2) then (bif decide (y0_0.toNat * 1 + (IntKind.i64.wrap (a1 + 1)).toNat * 7 + 3 ≤ (y0_1.set ((IntKind.i64.wrap (a1 + 1)).toNat * 1 + y0_0.toNat * 7) (Cell.v (Value.int IntKind.i64 1099511627776))).length + 2) then (((X89_0 a1 y0_0 y0_1).all plainC && true && true) = true ∧ k0 ((IntKind.i64.wrap (y0_0 + 1)), (X89_0 a1 y0_0 y0_1))) else False) else False) else False) else False) else ((y0_1.all plainC && true && true) = true ∧ k0 ((IntKind.i64.wrap (y0_0 + 1)), (y0_1)))) else (bif y0_1.length + 2 == 51 then (bif y0_1.all plainC && true && (y0_1.all (isInt IntKind.i64) && y0_1.length == 49 && okN a0_0) && (X89_1 a0_0 a0_1 y0_1).all (okC 0) && true && true && true && true then (bif (X89_1 a0_0 a0_1 y0_1).length + 2 == 51 && true && true then (bif (X89_1 a0_0 a0_1 y0_1).length + 2 == 51 && true then (bif (X89_1 a0_0 a0_1 y0_1).all plainC then (R (Ret.mk (.agg ((.v (.int .i64 ((closeR (a0_0, a0_1, List.map intC y0_1)).fst))) :: (.v (.bool ((closeR (a0_0, a0_1, List.map intC y0_1)).snd.fst))) :: (X89_1 a0_0 a0_1 y0_1))) [])) else False) else False) else False) else False) else False)) z.1 z.2) z0) ((0), (a0_2)))

set_option maxRecDepth 100000 in
theorem f89_sound (a0_0 : Int) (a0_1 : Bool) (a0_2 : List Cell) (a1 : Int) (hC : CtxOk Try.prog cx89.q.ctx) {r : Ret} (h : f89_wp a0_0 a0_1 a0_2 a1 (fun r' => r' = r)) : SoundAt Try.prog 89 [(.agg ((.v (.int .i64 a0_0)) :: (.v (.bool a0_1)) :: a0_2)), (.one (.v (.int .i64 a1)))] r := by
  refine soundAtO (C := cx89) (oc := (.two .e .e)) mixed hC F89_ok ?_
  rewrite [E89 a0_0 a0_1 a0_2 a1]
  unfold f89_wp at h
  refine cond_mapE h (fun q1 h => ?_) (fun q1 h => ?_)
  · skip
    refine ck_mapE h (fun q2 h => ?_)
    refine ck_mapE h (fun q3 h => ?_)
    refine ck_mapE h (fun q5 h => ?_)
    refine ck_mapE h (fun q4 h => ?_)
    exact h
  · skip
    obtain ⟨q30, h⟩ := h
    refine loop_of (I := (fun (z : Int × (List Cell)) => (I89_0_0 a0_0 a0_1 a0_2 a1 z.1 z.2))) (fun z k0 h => ?_) h q30 rfl
    obtain ⟨y0_0, y0_1⟩ := z
    try dsimp only [sumE_l, sumE_r] at h
    refine bodyX_i (ob := (.two (.two .e .e) .e)) ?_
    rewrite [E89_0_0 a0_0 a0_1 a0_2 a1 y0_0 y0_1]
    refine cond_mapE h (fun q17 h => ?_) (fun q17 h => ?_)
    · skip
      refine cond_mapE h (fun q18 h => ?_) (fun q18 h => ?_)
      · skip
        refine ck_mapE h (fun q19 h => ?_)
        refine ck_mapE h (fun q20 h => ?_)
        refine ck_mapE h (fun q21 h => ?_)
        refine ck_i q20 ?_
        refine ck_i q19 ?_
        refine ck_mapE h (fun q22 h => ?_)
        obtain ⟨q23, h⟩ := h
        exact again_i (y := ((IntKind.i64.wrap (y0_0 + 1)), (X89_0 a1 y0_0 y0_1))) q23 h
      · skip
        obtain ⟨q24, h⟩ := h
        exact again_i (y := ((IntKind.i64.wrap (y0_0 + 1)), (y0_1))) q24 h
    · skip
      refine ck_mapE h (fun q25 h => ?_)
      refine ck_mapE h (fun q26 h => ?_)
      refine ck_mapE h (fun q27 h => ?_)
      refine ck_mapE h (fun q29 h => ?_)
      refine ck_mapE h (fun q28 h => ?_)
      exact h


def cx86 : CtxW := ⟨⟨[(83, sum83)], []⟩, 2, []⟩


def F86_b0 : SC := (.seq (.seq (.reg [(.mk (.some (8)) (.mv (.t (7))) .none), (.mk (.some (9)) (.fld (0) (.t (3))) .none), (.mk (.some (10)) (.load .false .false (1) [(.some .i64)] (.t (9))) .none), (.mk (.some (11)) (.bin .leq (.t (8)) (.t (10))) .none)]) (.cond (.t (11)) .skip (.exit (0)))) (.seq (.blk 1 (.seq (.reg [(.mk (.some (14)) (.mv (.t (7))) .none), (.mk (.some (15)) (.mv (.t (1))) .none), (.mk (.some (16)) (.bin .neq (.t (14)) (.t (15))) .none)]) (.cond (.t (16)) (.seq (.reg [(.mk (.some (17)) (.mv (.t (1))) .none), (.mk (.some (18)) (.mv (.t (7))) .none), (.mk (.some (19)) (.fld (2) (.t (3))) .none), (.mk (.some (20)) (.ixA (7) (7) (.t (19)) (.t (17))) .none), (.mk (.some (21)) (.ixA (7) (1) (.t (20)) (.t (18))) .none), (.mk (.some (22)) (.load .false .false (1) [(.some .i64)] (.t (21))) .none), (.mk (.some (23)) (.mv (.t (2))) .none), (.mk (.some (24)) (.bin .add (.t (22)) (.t (23))) .none), (.mk (.some (25)) (.fld (2) (.t (3))) .none), (.mk (.some (26)) (.ixA (7) (7) (.t (25)) (.t (17))) .none), (.mk (.some (27)) (.ixA (7) (1) (.t (26)) (.t (18))) .none), (.mk .none (.store .false (1) (.t (27)) (.t (24))) .none)]) (.reg [(.mk (.some (28)) (.mv (.t (7))) .none), (.mk (.some (29)) (.mv (.t (1))) .none), (.mk (.some (30)) (.fld (2) (.t (3))) .none), (.mk (.some (31)) (.ixA (7) (7) (.t (30)) (.t (28))) .none), (.mk (.some (32)) (.ixA (7) (1) (.t (31)) (.t (29))) .none), (.mk (.some (33)) (.load .false .false (1) [(.some .i64)] (.t (32))) .none), (.mk (.some (34)) (.mv (.t (2))) .none), (.mk (.some (35)) (.bin .sub (.t (33)) (.t (34))) .none), (.mk (.some (36)) (.fld (2) (.t (3))) .none), (.mk (.some (37)) (.ixA (7) (7) (.t (36)) (.t (28))) .none), (.mk (.some (38)) (.ixA (7) (1) (.t (37)) (.t (29))) .none), (.mk .none (.store .false (1) (.t (38)) (.t (35))) .none)])) .skip))) (.reg [(.mk (.some (12)) (.mv (.t (7))) .none), (.mk (.some (13)) (.bin .add (.t (12)) (.c (.int .i64 (1)))) .none), (.mk (.some (7)) (.mv (.t (13))) .none)])))

def F86_c1 : SC := (.seq (.reg [(.mk (.some (39)) (.load .false .true (51) [(.some .i64), .none, (.some .i64), (.some .i64), (.some .i64), (.some .i64), (.some .i64), (.some .i64), (.some .i64), (.some .i64), (.some .i64), (.some .i64), (.some .i64), (.some .i64), (.some .i64), (.some .i64), (.some .i64), (.some .i64), (.some .i64), (.some .i64), (.some .i64), (.some .i64), (.some .i64), (.some .i64), (.some .i64), (.some .i64), (.some .i64), (.some .i64), (.some .i64), (.some .i64), (.some .i64), (.some .i64), (.some .i64), (.some .i64), (.some .i64), (.some .i64), (.some .i64), (.some .i64), (.some .i64), (.some .i64), (.some .i64), (.some .i64), (.some .i64), (.some .i64), (.some .i64), (.some .i64), (.some .i64), (.some .i64), (.some .i64), (.some .i64), (.some .i64)] (.t (3))) .none), (.mk (.some (40)) (.call .false .false (.f (83)) [(.t (39))]) .none), (.mk .none (.store .false (51) (.t (6)) (.t (40))) .none)]) .ret)

def F86 : SFn := ⟨41, [(.cell (6) .true (51))], (.seq (.reg [(.mk (.some (3)) (.box (.t (0))) .none), (.mk (.some (6)) (.alloc [(.int .i64 (0)), (.bool .false), (.int .i64 (0)), (.int .i64 (0)), (.int .i64 (0)), (.int .i64 (0)), (.int .i64 (0)), (.int .i64 (0)), (.int .i64 (0)), (.int .i64 (0)), (.int .i64 (0)), (.int .i64 (0)), (.int .i64 (0)), (.int .i64 (0)), (.int .i64 (0)), (.int .i64 (0)), (.int .i64 (0)), (.int .i64 (0)), (.int .i64 (0)), (.int .i64 (0)), (.int .i64 (0)), (.int .i64 (0)), (.int .i64 (0)), (.int .i64 (0)), (.int .i64 (0)), (.int .i64 (0)), (.int .i64 (0)), (.int .i64 (0)), (.int .i64 (0)), (.int .i64 (0)), (.int .i64 (0)), (.int .i64 (0)), (.int .i64 (0)), (.int .i64 (0)), (.int .i64 (0)), (.int .i64 (0)), (.int .i64 (0)), (.int .i64 (0)), (.int .i64 (0)), (.int .i64 (0)), (.int .i64 (0)), (.int .i64 (0)), (.int .i64 (0)), (.int .i64 (0)), (.int .i64 (0)), (.int .i64 (0)), (.int .i64 (0)), (.int .i64 (0)), (.int .i64 (0)), (.int .i64 (0)), (.int .i64 (0))]) .none)]) (.seq (.seq (.reg [(.mk (.some (7)) (.mv (.c (.int .i64 (0)))) .none)]) (.blk 0 (.loop [1, 2, 3, 6, 7] [3, 6] [] F86_b0))) F86_c1))⟩

theorem F86_ok : sfn Try.prog hints 86 [([1, 2, 3, 6, 7], ([3, 6], []))] = some F86 := by kernel_rfl

abbrev X86_0 (a1 : Int) (a2 : Int) (y0_0 : Int) (y0_1 : List Cell) := (y0_1.set (y0_0.toNat * 1 + a1.toNat * 7) (Cell.v (Value.int IntKind.i64 (IntKind.i64.wrap (intC (y0_1.getD (y0_0.toNat * 1 + a1.toNat * 7) Cell.dead) + a2)))))
abbrev X86_1 (a1 : Int) (a2 : Int) (y0_0 : Int) (y0_1 : List Cell) := ((X86_0 a1 a2 y0_0 y0_1).set (a1.toNat * 1 + y0_0.toNat * 7) (Cell.v (Value.int IntKind.i64 (IntKind.i64.wrap (intC ((X86_0 a1 a2 y0_0 y0_1).getD (a1.toNat * 1 + y0_0.toNat * 7) Cell.dead) - a2)))))
abbrev X86_2 (a0_0 : Int) (a0_1 : Bool) (y0_1 : List Cell) := (ic IntKind.i64 (closeZ (a0_0, a0_1, List.map intC y0_1)).snd.snd)

def I86_0_0 (a0_0 : Int) (a0_1 : Bool) (a0_2 : List Cell) (a1 : Int) (a2 : Int) (y0_0 : Int) (y0_1 : List Cell) : St := (.mk [.no, (.one (.v (.int .i64 (a1)))), (.one (.v (.int .i64 (a2)))), (.box (3) (0) (0)), .no, .no, (.box (6) (0) (0)), (.one (.v (.int .i64 (y0_0)))), .no, .no, .no, .no, .no, .no, .no, .no, .no, .no, .no, .no, .no, .no, .no, .no, .no, .no, .no, .no, .no, .no, .no, .no, .no, .no, .no, .no, .no, .no, .no, .no, .no] [[], [], [], [((.v (.int .i64 (a0_0))) :: (.v (.bool (a0_1))) :: (y0_1))], [], [], [((.v (.int .i64 (0))) :: (.v (.bool .false)) :: (List.replicate (49) (Cell.v (Value.int IntKind.i64 0))))], [], [], [], [], [], [], [], [], [], [], [], [], [], [], [], [], [], [], [], [], [], [], [], [], [], [], [], [], [], [], [], [], [], []] [[], [], [], [], [], [], [], [], [], [], [], [], [], [], [], [], [], [], [], [], [], [], [], [], [], [], [], [], [], [], [], [], [], [], [], [], [], [], [], [], []])

theorem E86_0_0 (a0_0 : Int) (a0_1 : Bool) (a0_2 : List Cell) (a1 : Int) (a2 : Int) (y0_0 : Int) (y0_1 : List Cell) (N0 : Bool × St → Prop) (R : Ret → Prop) : wpO cx86 F86_b0 (.two (.two .e .e) .e) (I86_0_0 a0_0 a0_1 a0_2 a1 a2 y0_0 y0_1) (kLp (headW cx86.m [1, 2, 3, 6, 7] [3, 6] []) N0 (kBlk 0 (kSeq cx86 F86_c1 (endO cx86.m F86.rs R)))) = (bif decide (y0_0 ≤ a0_0) then (bif y0_0 != a1 then (bif decide (0 ≤ a1) && decide (a1 < 7) then (bif decide (0 ≤ y0_0) && decide (y0_0 < 7) then (bif decide (y0_0.toNat * 1 + a1.toNat * 7 + 3 ≤ y0_1.length + 2) && okK (some IntKind.i64) (y0_1.getD (y0_0.toNat * 1 + a1.toNat * 7) Cell.dead) then (bif decide (0 ≤ a1) && decide (a1 < 7) then (bif decide (0 ≤ y0_0) && decide (y0_0 < 7) then (bif decide (y0_0.toNat * 1 + a1.toNat * 7 + 3 ≤ y0_1.length + 2) then (bif decide (0 ≤ y0_0) && decide (y0_0 < 7) then (bif decide (0 ≤ a1) && decide (a1 < 7) then (bif decide (a1.toNat * 1 + y0_0.toNat * 7 + 3 ≤ (X86_0 a1 a2 y0_0 y0_1).length + 2) && okK (some IntKind.i64) ((X86_0 a1 a2 y0_0 y0_1).getD (a1.toNat * 1 + y0_0.toNat * 7) Cell.dead) then (bif decide (0 ≤ y0_0) && decide (y0_0 < 7) then (bif decide (0 ≤ a1) && decide (a1 < 7) then (bif decide (a1.toNat * 1 + y0_0.toNat * 7 + 3 ≤ (X86_0 a1 a2 y0_0 y0_1).length + 2) then (N0 ((X86_1 a1 a2 y0_0 y0_1).all plainC && true && true, (I86_0_0 a0_0 a0_1 a0_2 a1 a2 (IntKind.i64.wrap (y0_0 + 1)) (X86_1 a1 a2 y0_0 y0_1)))) else False) else False) else False) else False) else False) else False) else False) else False) else False) else False) else False) else False) else (N0 (y0_1.all plainC && true && true, (I86_0_0 a0_0 a0_1 a0_2 a1 a2 (IntKind.i64.wrap (y0_0 + 1)) (y0_1))))) else (bif y0_1.length + 2 == 51 then (bif y0_1.all plainC && true && (y0_1.all (isInt IntKind.i64) && y0_1.length == 49) && (X86_2 a0_0 a0_1 y0_1).all (okC 0) && true && true && true && true then (bif (X86_2 a0_0 a0_1 y0_1).length + 2 == 51 && true && true then (bif (X86_2 a0_0 a0_1 y0_1).length + 2 == 51 && true then (bif (X86_2 a0_0 a0_1 y0_1).all plainC then (R (Ret.mk (.agg ((.v (.int .i64 ((closeZ (a0_0, a0_1, List.map intC y0_1)).fst))) :: (.v (.bool ((closeZ (a0_0, a0_1, List.map intC y0_1)).snd.fst))) :: (X86_2 a0_0 a0_1 y0_1))) [])) else False) else False) else False) else False) else False)) := by kernel_rfl

theorem E86 (a0_0 : Int) (a0_1 : Bool) (a0_2 : List Cell) (a1 : Int) (a2 : Int) (R : Ret → Prop) : wpFO cx86 F86 .e [(.agg ((.v (.int .i64 a0_0)) :: (.v (.bool a0_1)) :: a0_2)), (.one (.v (.int .i64 a1))), (.one (.v (.int .i64 a2)))] R = (LoopO (bodyX cx86 F86_b0) (headW cx86.m [1, 2, 3, 6, 7] [3, 6] []) (kBlk 0 (kSeq cx86 F86_c1 (endO cx86.m F86.rs R))) (a0_2.all plainC && true && true, (I86_0_0 a0_0 a0_1 a0_2 a1 a2 (0) (a0_2)))) := by kernel_rfl

def f86_wp (a0_0 : Int) (a0_1 : Bool) (a0_2 : List Cell) (a1 : Int) (a2 : Int) (R : Ret → Prop) : Prop := (a0_2.all plainC && true && true) = true ∧ LoopP (fun (z0 : (Int × (List Cell))) (k0 : (Int × (List Cell)) → Prop) => (fun (z : Int × (List Cell)) => (fun (y0_0 : Int) (y0_1 : List Cell) => bif decide (y0_0 ≤ a0_0) then (bif y0_0 != a1 then (bif decide (0 ≤ a1) && decide (a1 < 7) then (bif decide (0 ≤ y0_0) && decide (y0_0 < 7) then (bif decide (y0_0.toNat * 1 + a1.toNat * 7 + 3 ≤ y0_1.length + 2) && okK (some IntKind.i64) (y0_1.getD (y0_0.toNat * 1 + a1.toNat * 7) Cell.dead) then (bif decide (y0_0.toNat * 1 + a1.toNat * 7 + 3 ≤ y0_1.length + 2) then (bif decide (a1.toNat * 1 + y0_0.toNat * 7 + 3 ≤ (X86_0 a1 a2 y0_0 y0_1).length + 2) && okK (some IntKind.i64) ((X86_0 a1 a2 y0_0 y0_1).getD (a1.toNat * 1 + y0_0.toNat * 7) Cell.dead) then (bif decide (a1.toNat * 1 + y0_0.toNat * 7 + 3 ≤ (X86_0 a1 a2 y0_0 y0_1).length + 2) then (((X86_1 a1 a2 y0_0 y0_1).all plainC && true && true) = true ∧ k0 ((IntKind.i64.wrap (y0_0 + 1)), (X86_1 a1 a2 y0_0 y0_1))) else False) else False) else False) else False) else False) else False) else ((y0_1.all plainC && true && true) = true ∧ k0 ((IntKind.i64.wrap (y0_0 + 1)), (y0_1)))) else (bif y0_1.length + 2 == 51 then (bif y0_1.all plainC && true && (y0_1.all (isInt IntKind.i64) && y0_1.length == 49) && (X86_2 a0_0 a0_1 y0_1).all (okC 0) && true && true && true && true then (bif (X86_2 a0_0 a0_1 y0_1).length + 2 == 51 && true && true then (bif (X86_2 a0_0 a0_1 y0_1).length + 2 == 51 && true then (bif (X86_2 a0_0 a0_1 y0_1).all plainC then (R (Ret.mk (.agg ((.v (.int .i64 ((closeZ (a0_0, a0_1, List.map intC y0_1)).fst))) :: (.v (.bool ((closeZ (a0_0, a0_1, List.map intC y0_1)).snd.fst))) :: (X86_2 a0_0 a0_1 y0_1))) [])) else False) else False) else False) else False) else False)) z.1 z.2) z0) ((0), (a0_2))

set_option maxRecDepth 100000 in
theorem f86_sound (a0_0 : Int) (a0_1 : Bool) (a0_2 : List Cell) (a1 : Int) (a2 : Int) (hC : CtxOk Try.prog cx86.q.ctx) {r : Ret} (h : f86_wp a0_0 a0_1 a0_2 a1 a2 (fun r' => r' = r)) : SoundAt Try.prog 86 [(.agg ((.v (.int .i64 a0_0)) :: (.v (.bool a0_1)) :: a0_2)), (.one (.v (.int .i64 a1))), (.one (.v (.int .i64 a2)))] r := by
  refine soundAtO (C := cx86) (oc := .e) mixed hC F86_ok ?_
  rewrite [E86 a0_0 a0_1 a0_2 a1 a2]
  unfold f86_wp at h
  obtain ⟨q31, h⟩ := h
  refine loop_of (I := (fun (z : Int × (List Cell)) => (I86_0_0 a0_0 a0_1 a0_2 a1 a2 z.1 z.2))) (fun z k0 h => ?_) h q31 rfl
  obtain ⟨y0_0, y0_1⟩ := z
  try dsimp only [sumE_l, sumE_r] at h
  refine bodyX_i (ob := (.two (.two .e .e) .e)) ?_
  rewrite [E86_0_0 a0_0 a0_1 a0_2 a1 a2 y0_0 y0_1]
  refine cond_mapE h (fun q16 h => ?_) (fun q16 h => ?_)
  · skip
    refine cond_mapE h (fun q17 h => ?_) (fun q17 h => ?_)
    · skip
      refine ck_mapE h (fun q18 h => ?_)
      refine ck_mapE h (fun q19 h => ?_)
      refine ck_mapE h (fun q20 h => ?_)
      refine ck_i q18 ?_
      refine ck_i q19 ?_
      refine ck_mapE h (fun q21 h => ?_)
      refine ck_i q19 ?_
      refine ck_i q18 ?_
      refine ck_mapE h (fun q22 h => ?_)
      refine ck_i q19 ?_
      refine ck_i q18 ?_
      refine ck_mapE h (fun q23 h => ?_)
      obtain ⟨q24, h⟩ := h
      exact again_i (y := ((IntKind.i64.wrap (y0_0 + 1)), (X86_1 a1 a2 y0_0 y0_1))) q24 h
    · skip
      obtain ⟨q25, h⟩ := h
      exact again_i (y := ((IntKind.i64.wrap (y0_0 + 1)), (y0_1))) q25 h
  · skip
    refine ck_mapE h (fun q26 h => ?_)
    refine ck_mapE h (fun q27 h => ?_)
    refine ck_mapE h (fun q28 h => ?_)
    refine ck_mapE h (fun q30 h => ?_)
    refine ck_mapE h (fun q29 h => ?_)
    exact h


def cx27 : CtxW := ⟨⟨[(85, sum85), (84, sum84), (86, sum86), (83, sum83)], [(87, psum87)]⟩, 2, []⟩


def F27 : SFn := ⟨55, [(.cell (8) .true (51))], (.seq (.reg [(.mk (.some (4)) (.box (.t (0))) .none), (.mk (.some (8)) (.alloc [(.int .i64 (0)), (.bool .false), (.int .i64 (0)), (.int .i64 (0)), (.int .i64 (0)), (.int .i64 (0)), (.int .i64 (0)), (.int .i64 (0)), (.int .i64 (0)), (.int .i64 (0)), (.int .i64 (0)), (.int .i64 (0)), (.int .i64 (0)), (.int .i64 (0)), (.int .i64 (0)), (.int .i64 (0)), (.int .i64 (0)), (.int .i64 (0)), (.int .i64 (0)), (.int .i64 (0)), (.int .i64 (0)), (.int .i64 (0)), (.int .i64 (0)), (.int .i64 (0)), (.int .i64 (0)), (.int .i64 (0)), (.int .i64 (0)), (.int .i64 (0)), (.int .i64 (0)), (.int .i64 (0)), (.int .i64 (0)), (.int .i64 (0)), (.int .i64 (0)), (.int .i64 (0)), (.int .i64 (0)), (.int .i64 (0)), (.int .i64 (0)), (.int .i64 (0)), (.int .i64 (0)), (.int .i64 (0)), (.int .i64 (0)), (.int .i64 (0)), (.int .i64 (0)), (.int .i64 (0)), (.int .i64 (0)), (.int .i64 (0)), (.int .i64 (0)), (.int .i64 (0)), (.int .i64 (0)), (.int .i64 (0)), (.int .i64 (0))]) .none)]) (.seq (.seq (.reg [(.mk (.some (9)) (.load .false .true (51) [(.some .i64), .none, (.some .i64), (.some .i64), (.some .i64), (.some .i64), (.some .i64), (.some .i64), (.some .i64), (.some .i64), (.some .i64), (.some .i64), (.some .i64), (.some .i64), (.some .i64), (.some .i64), (.some .i64), (.some .i64), (.some .i64), (.some .i64), (.some .i64), (.some .i64), (.some .i64), (.some .i64), (.some .i64), (.some .i64), (.some .i64), (.some .i64), (.some .i64), (.some .i64), (.some .i64), (.some .i64), (.some .i64), (.some .i64), (.some .i64), (.some .i64), (.some .i64), (.some .i64), (.some .i64), (.some .i64), (.some .i64), (.some .i64), (.some .i64), (.some .i64), (.some .i64), (.some .i64), (.some .i64), (.some .i64), (.some .i64), (.some .i64), (.some .i64)] (.t (4))) .none), (.mk (.some (10)) (.mv (.t (1))) .none), (.mk (.some (11)) (.call .false .false (.f (85)) [(.t (9)), (.t (10))]) .none), (.mk (.some (12)) (.un .not (.t (11))) .none), (.mk (.some (13)) (.mv (.t (12))) .none), (.mk (.some (14)) (.load .false .true (51) [(.some .i64), .none, (.some .i64), (.some .i64), (.some .i64), (.some .i64), (.some .i64), (.some .i64), (.some .i64), (.some .i64), (.some .i64), (.some .i64), (.some .i64), (.some .i64), (.some .i64), (.some .i64), (.some .i64), (.some .i64), (.some .i64), (.some .i64), (.some .i64), (.some .i64), (.some .i64), (.some .i64), (.some .i64), (.some .i64), (.some .i64), (.some .i64), (.some .i64), (.some .i64), (.some .i64), (.some .i64), (.some .i64), (.some .i64), (.some .i64), (.some .i64), (.some .i64), (.some .i64), (.some .i64), (.some .i64), (.some .i64), (.some .i64), (.some .i64), (.some .i64), (.some .i64), (.some .i64), (.some .i64), (.some .i64), (.some .i64), (.some .i64), (.some .i64)] (.t (4))) (.some ((13), .false))), (.mk (.some (15)) (.mv (.t (2))) (.some ((13), .false))), (.mk (.some (16)) (.call .false .false (.f (84)) [(.t (14)), (.t (15))]) (.some ((13), .false))), (.mk (.some (17)) (.un .not (.t (16))) (.some ((13), .false))), (.mk (.some (18)) (.pick (.t (13)) (.c (.bool .true)) (.t (17))) .none)]) (.cond (.t (18)) (.seq (.reg [(.mk (.some (19)) (.load .false .true (51) [(.some .i64), .none, (.some .i64), (.some .i64), (.some .i64), (.some .i64), (.some .i64), (.some .i64), (.some .i64), (.some .i64), (.some .i64), (.some .i64), (.some .i64), (.some .i64), (.some .i64), (.some .i64), (.some .i64), (.some .i64), (.some .i64), (.some .i64), (.some .i64), (.some .i64), (.some .i64), (.some .i64), (.some .i64), (.some .i64), (.some .i64), (.some .i64), (.some .i64), (.some .i64), (.some .i64), (.some .i64), (.some .i64), (.some .i64), (.some .i64), (.some .i64), (.some .i64), (.some .i64), (.some .i64), (.some .i64), (.some .i64), (.some .i64), (.some .i64), (.some .i64), (.some .i64), (.some .i64), (.some .i64), (.some .i64), (.some .i64), (.some .i64), (.some .i64)] (.t (4))) .none), (.mk .none (.store .false (51) (.t (8)) (.t (19))) .none)]) .ret) .skip)) (.seq (.reg [(.mk (.some (20)) (.mv (.t (3))) .none), (.mk (.some (21)) (.mm .true [(.t (20)), (.c (.int .i64 (-1099511627776)))]) .none), (.mk (.some (22)) (.mm .false [(.t (21)), (.c (.int .i64 (1099511627776)))]) .none), (.mk (.some (3)) (.mv (.t (22))) .none)]) (.seq (.seq (.reg [(.mk (.some (23)) (.mv (.t (1))) .none), (.mk (.some (24)) (.mv (.t (2))) .none), (.mk (.some (25)) (.bin .eql (.t (23)) (.t (24))) .none)]) (.cond (.t (25)) (.seq (.reg [(.mk (.some (26)) (.load .false .true (51) [(.some .i64), .none, (.some .i64), (.some .i64), (.some .i64), (.some .i64), (.some .i64), (.some .i64), (.some .i64), (.some .i64), (.some .i64), (.some .i64), (.some .i64), (.some .i64), (.some .i64), (.some .i64), (.some .i64), (.some .i64), (.some .i64), (.some .i64), (.some .i64), (.some .i64), (.some .i64), (.some .i64), (.some .i64), (.some .i64), (.some .i64), (.some .i64), (.some .i64), (.some .i64), (.some .i64), (.some .i64), (.some .i64), (.some .i64), (.some .i64), (.some .i64), (.some .i64), (.some .i64), (.some .i64), (.some .i64), (.some .i64), (.some .i64), (.some .i64), (.some .i64), (.some .i64), (.some .i64), (.some .i64), (.some .i64), (.some .i64), (.some .i64), (.some .i64)] (.t (4))) .none), (.mk (.some (27)) (.mv (.t (1))) .none), (.mk (.some (28)) (.bin .add (.t (27)) (.c (.int .i64 (1)))) .none), (.mk (.some (29)) (.mv (.t (3))) .none), (.mk (.some (30)) (.call .false .false (.f (86)) [(.t (26)), (.t (28)), (.t (29))]) .none), (.mk .none (.store .false (51) (.t (8)) (.t (30))) .none)]) .ret) .skip)) (.seq (.reg [(.mk (.some (31)) (.mv (.t (1))) .none), (.mk (.some (32)) (.bin .add (.t (31)) (.c (.int .i64 (1)))) .none), (.mk (.some (33)) (.pcall (87) (.t (4)) [(.t (32))]) .none)]) (.seq (.reg [(.mk (.some (34)) (.load .false .true (51) [(.some .i64), .none, (.some .i64), (.some .i64), (.some .i64), (.some .i64), (.some .i64), (.some .i64), (.some .i64), (.some .i64), (.some .i64), (.some .i64), (.some .i64), (.some .i64), (.some .i64), (.some .i64), (.some .i64), (.some .i64), (.some .i64), (.some .i64), (.some .i64), (.some .i64), (.some .i64), (.some .i64), (.some .i64), (.some .i64), (.some .i64), (.some .i64), (.some .i64), (.some .i64), (.some .i64), (.some .i64), (.some .i64), (.some .i64), (.some .i64), (.some .i64), (.some .i64), (.some .i64), (.some .i64), (.some .i64), (.some .i64), (.some .i64), (.some .i64), (.some .i64), (.some .i64), (.some .i64), (.some .i64), (.some .i64), (.some .i64), (.some .i64), (.some .i64)] (.t (4))) .none), (.mk (.some (35)) (.call .false .false (.f (83)) [(.t (34))]) .none), (.mk .none (.store .false (51) (.t (4)) (.t (35))) .none)]) (.seq (.reg [(.mk (.some (36)) (.mv (.t (1))) .none), (.mk (.some (37)) (.bin .add (.t (36)) (.c (.int .i64 (1)))) .none), (.mk (.some (38)) (.mv (.t (2))) .none), (.mk (.some (39)) (.bin .add (.t (38)) (.c (.int .i64 (1)))) .none), (.mk (.some (40)) (.mv (.t (2))) .none), (.mk (.some (41)) (.bin .add (.t (40)) (.c (.int .i64 (1)))) .none), (.mk (.some (42)) (.mv (.t (1))) .none), (.mk (.some (43)) (.bin .add (.t (42)) (.c (.int .i64 (1)))) .none), (.mk (.some (44)) (.mv (.t (3))) .none), (.mk (.some (45)) (.mv (.t (3))) .none), (.mk (.some (46)) (.un .neg (.t (45))) .none), (.mk (.some (47)) (.fld (2) (.t (4))) .none), (.mk (.some (48)) (.ixA (7) (7) (.t (47)) (.t (37))) .none), (.mk (.some (49)) (.ixA (7) (1) (.t (48)) (.t (39))) .none), (.mk .none (.store .false (1) (.t (49)) (.t (44))) .none), (.mk (.some (50)) (.fld (2) (.t (4))) .none), (.mk (.some (51)) (.ixA (7) (7) (.t (50)) (.t (41))) .none), (.mk (.some (52)) (.ixA (7) (1) (.t (51)) (.t (43))) .none), (.mk .none (.store .false (1) (.t (52)) (.t (46))) .none)]) (.seq (.reg [(.mk (.some (53)) (.load .false .true (51) [(.some .i64), .none, (.some .i64), (.some .i64), (.some .i64), (.some .i64), (.some .i64), (.some .i64), (.some .i64), (.some .i64), (.some .i64), (.some .i64), (.some .i64), (.some .i64), (.some .i64), (.some .i64), (.some .i64), (.some .i64), (.some .i64), (.some .i64), (.some .i64), (.some .i64), (.some .i64), (.some .i64), (.some .i64), (.some .i64), (.some .i64), (.some .i64), (.some .i64), (.some .i64), (.some .i64), (.some .i64), (.some .i64), (.some .i64), (.some .i64), (.some .i64), (.some .i64), (.some .i64), (.some .i64), (.some .i64), (.some .i64), (.some .i64), (.some .i64), (.some .i64), (.some .i64), (.some .i64), (.some .i64), (.some .i64), (.some .i64), (.some .i64), (.some .i64)] (.t (4))) .none), (.mk (.some (54)) (.call .false .false (.f (83)) [(.t (53))]) .none), (.mk .none (.store .false (51) (.t (8)) (.t (54))) .none)]) .ret))))))))⟩

theorem F27_ok : sfn Try.prog hints 27 [] = some F27 := by kernel_rfl

abbrev X27_2 (a0_0 : Int) (a0_1 : Bool) (a0_2 : List Cell) (a1 : Int) (a3 : Int) := (movZ (a0_0, a0_1, List.map intC a0_2) (IntKind.i64.wrap (a1 + 1)) (if 1099511627776 < if -1099511627776 > a3 then -1099511627776 else a3 then 1099511627776 else if -1099511627776 > a3 then -1099511627776 else a3))
abbrev X27_3 (a0_0 : Int) (a0_2 : List Cell) (a1 : Int) := (ic IntKind.i64 (forT (IntKind.i64.wrap (a1 + 1)).toNat (a0_0.toNat + 1) (List.map intC a0_2)))
abbrev X27_4 (a0_0 : Int) (a0_1 : Bool) (a0_2 : List Cell) (a1 : Int) := (ic IntKind.i64 (closeZ (a0_0, a0_1, List.map intC (X27_3 a0_0 a0_2 a1))).snd.snd)
abbrev X27_0 (a0_0 : Int) (a0_1 : Bool) (a0_2 : List Cell) (a1 : Int) (a2 : Int) (a3 : Int) := (((X27_4 a0_0 a0_1 a0_2 a1).set ((IntKind.i64.wrap (a2 + 1)).toNat * 1 + (IntKind.i64.wrap (a1 + 1)).toNat * 7) (Cell.v (Value.int IntKind.i64 (if 1099511627776 < if -1099511627776 > a3 then -1099511627776 else a3 then 1099511627776 else if -1099511627776 > a3 then -1099511627776 else a3)))).set ((IntKind.i64.wrap (a1 + 1)).toNat * 1 + (IntKind.i64.wrap (a2 + 1)).toNat * 7) (Cell.v (Value.int IntKind.i64 (IntKind.i64.wrap (0 - if 1099511627776 < if -1099511627776 > a3 then -1099511627776 else a3 then 1099511627776 else if -1099511627776 > a3 then -1099511627776 else a3)))))
abbrev X27_1 (a0_0 : Int) (a0_1 : Bool) (a0_2 : List Cell) (a1 : Int) (a2 : Int) (a3 : Int) := (closeZ ((closeZ (a0_0, a0_1, List.map intC (X27_3 a0_0 a0_2 a1))).fst, (closeZ (a0_0, a0_1, List.map intC (X27_3 a0_0 a0_2 a1))).snd.fst, List.map intC (X27_0 a0_0 a0_1 a0_2 a1 a2 a3)))

theorem E27 (a0_0 : Int) (a0_1 : Bool) (a0_2 : List Cell) (a1 : Int) (a2 : Int) (a3 : Int) (R : Ret → Prop) : wpFO cx27 F27 (.two (.n 3 .e) (.n 2 (.two .e (.two .e .e)))) [(.agg ((.v (.int .i64 a0_0)) :: (.v (.bool a0_1)) :: a0_2)), (.one (.v (.int .i64 a1))), (.one (.v (.int .i64 a2))), (.one (.v (.int .i64 a3)))] R = (bif a0_2.length + 2 == 51 then (bif a0_2.all plainC && true && (a0_2.all (isInt IntKind.i64) && a0_2.length == 49 && true) && true && true && true && true && true then (bif !varP a0_0 a0_1 a1 then (bif a0_2.length + 2 == 51 then (bif a0_2.length + 2 == 51 && true && true then (bif a0_2.length + 2 == 51 && true then (bif a0_2.all plainC then (R (Ret.mk (.agg ((.v (.int .i64 (a0_0))) :: (.v (.bool (a0_1))) :: (a0_2))) [])) else False) else False) else False) else False) else (bif a0_2.length + 2 == 51 then (bif a0_2.all plainC && true && (a0_2.all (isInt IntKind.i64) && a0_2.length == 49 && true) && true && true && true && true && true then (bif !norP a0_0 a0_1 a2 then (bif a0_2.length + 2 == 51 then (bif a0_2.length + 2 == 51 && true && true then (bif a0_2.length + 2 == 51 && true then (bif a0_2.all plainC then (R (Ret.mk (.agg ((.v (.int .i64 (a0_0))) :: (.v (.bool (a0_1))) :: (a0_2))) [])) else False) else False) else False) else False) else (bif a1 == a2 then (bif a0_2.length + 2 == 51 then (bif a0_2.all plainC && true && (a0_2.all (isInt IntKind.i64) && a0_2.length == 49 && okN a0_0 && true && true && decide (0 ≤ IntKind.i64.wrap (a1 + 1)) && decide (IntKind.i64.wrap (a1 + 1) ≤ 6)) && (ic IntKind.i64 (X27_2 a0_0 a0_1 a0_2 a1 a3).snd.snd).all (okC 0) && true && true && true && true then (bif (ic IntKind.i64 (X27_2 a0_0 a0_1 a0_2 a1 a3).snd.snd).length + 2 == 51 && true && true then (bif (ic IntKind.i64 (X27_2 a0_0 a0_1 a0_2 a1 a3).snd.snd).length + 2 == 51 && true then (bif (ic IntKind.i64 (X27_2 a0_0 a0_1 a0_2 a1 a3).snd.snd).all plainC then (R (Ret.mk (.agg ((.v (.int .i64 ((X27_2 a0_0 a0_1 a0_2 a1 a3).fst))) :: (.v (.bool ((X27_2 a0_0 a0_1 a0_2 a1 a3).snd.fst))) :: (ic IntKind.i64 (X27_2 a0_0 a0_1 a0_2 a1 a3).snd.snd))) [])) else False) else False) else False) else False) else False) else (bif a0_2.all (isInt IntKind.i64) && a0_2.length == 49 && okN a0_0 && true && decide (0 ≤ IntKind.i64.wrap (a1 + 1)) && decide (IntKind.i64.wrap (a1 + 1) ≤ 6) && (X27_3 a0_0 a0_2 a1).length + 2 == a0_2.length + 2 && a0_2.all flatC && (X27_3 a0_0 a0_2 a1).all flatC then (bif (X27_3 a0_0 a0_2 a1).length + 2 == 51 then (bif (X27_3 a0_0 a0_2 a1).all plainC && true && ((X27_3 a0_0 a0_2 a1).all (isInt IntKind.i64) && (X27_3 a0_0 a0_2 a1).length == 49) && (X27_4 a0_0 a0_1 a0_2 a1).all (okC 0) && true && true && true && true then (bif (X27_4 a0_0 a0_1 a0_2 a1).length + 2 == 51 && (X27_3 a0_0 a0_2 a1).length + 2 == 51 && true then (bif decide (0 ≤ IntKind.i64.wrap (a1 + 1)) && decide (IntKind.i64.wrap (a1 + 1) < 7) then (bif decide (0 ≤ IntKind.i64.wrap (a2 + 1)) && decide (IntKind.i64.wrap (a2 + 1) < 7) then (bif decide ((IntKind.i64.wrap (a2 + 1)).toNat * 1 + (IntKind.i64.wrap (a1 + 1)).toNat * 7 + 3 ≤ (X27_4 a0_0 a0_1 a0_2 a1).length + 2) then (bif decide (0 ≤ IntKind.i64.wrap (a2 + 1)) && decide (IntKind.i64.wrap (a2 + 1) < 7) then (bif decide (0 ≤ IntKind.i64.wrap (a1 + 1)) && decide (IntKind.i64.wrap (a1 + 1) < 7) then (bif decide ((IntKind.i64.wrap (a1 + 1)).toNat * 1 + (IntKind.i64.wrap (a2 + 1)).toNat * 7 + 3 ≤ ((X27_4 a0_0 a0_1 a0_2 a1).set ((IntKind.i64.wrap (a2 + 1)).toNat * 1 + (IntKind.i64.wrap (a1 + 1)).toNat * 7) (Cell.v (Value.int IntKind.i64 (if 1099511627776 < if -1099511627776 > a3 then -1099511627776 else a3 then 1099511627776 else if -1099511627776 > a3 then -1099511627776 else a3)))).length + 2) then (bif (X27_0 a0_0 a0_1 a0_2 a1 a2 a3).length + 2 == 51 then (bif (X27_0 a0_0 a0_1 a0_2 a1 a2 a3).all plainC && true && ((X27_0 a0_0 a0_1 a0_2 a1 a2 a3).all (isInt IntKind.i64) && (X27_0 a0_0 a0_1 a0_2 a1 a2 a3).length == 49) && (ic IntKind.i64 (X27_1 a0_0 a0_1 a0_2 a1 a2 a3).snd.snd).all (okC 0) && true && true && true && true then (bif (ic IntKind.i64 (X27_1 a0_0 a0_1 a0_2 a1 a2 a3).snd.snd).length + 2 == 51 && true && true then (bif (ic IntKind.i64 (X27_1 a0_0 a0_1 a0_2 a1 a2 a3).snd.snd).length + 2 == 51 && true then (bif (ic IntKind.i64 (X27_1 a0_0 a0_1 a0_2 a1 a2 a3).snd.snd).all plainC then (R (Ret.mk (.agg ((.v (.int .i64 ((X27_1 a0_0 a0_1 a0_2 a1 a2 a3).fst))) :: (.v (.bool ((X27_1 a0_0 a0_1 a0_2 a1 a2 a3).snd.fst))) :: (ic IntKind.i64 (X27_1 a0_0 a0_1 a0_2 a1 a2 a3).snd.snd))) [])) else False) else False) else False) else False) else False) else False) else False) else False) else False) else False) else False) else False) else False) else False) else False))) else False) else False)) else False) else False) := by kernel_rfl

def f27_wp (a0_0 : Int) (a0_1 : Bool) (a0_2 : List Cell) (a1 : Int) (a2 : Int) (a3 : Int) (R : Ret → Prop) : Prop := bif a0_2.length + 2 == 51 then (bif a0_2.all plainC && true && (a0_2.all (isInt IntKind.i64) && a0_2.length == 49 && true) && true && true && true && true && true then (bif !varP a0_0 a0_1 a1 then (bif a0_2.length + 2 == 51 && true && true then (bif a0_2.length + 2 == 51 && true then (bif a0_2.all plainC then (R (Ret.mk (.agg ((.v (.int .i64 (a0_0))) :: (.v (.bool (a0_1))) :: (a0_2))) [])) else False) else False) else False) else (bif !norP a0_0 a0_1 a2 then (bif a0_2.length + 2 == 51 && true && true then (bif a0_2.length + 2 == 51 && true then (bif a0_2.all plainC then (R (Ret.mk (.agg ((.v (.int .i64 (a0_0))) :: (.v (.bool (a0_1))) :: (a0_2))) [])) else False) else False) else False) else (bif a1 == a2 then (bif a0_2.all plainC && true && (a0_2.all (isInt IntKind.i64) && a0_2.length == 49 && okN a0_0 && true && true && decide (0 ≤ IntKind.i64.wrap (a1 + 1)) && decide (IntKind.i64.wrap (a1 + 1) ≤ 6)) && (ic IntKind.i64 (X27_2 a0_0 a0_1 a0_2 a1 a3).snd.snd).all (okC 0) && true && true && true && true then (bif (ic IntKind.i64 (X27_2 a0_0 a0_1 a0_2 a1 a3).snd.snd).length + 2 == 51 && true && true then (bif (ic IntKind.i64 (X27_2 a0_0 a0_1 a0_2 a1 a3).snd.snd).length + 2 == 51 && true then (bif (ic IntKind.i64 (X27_2 a0_0 a0_1 a0_2 a1 a3).snd.snd).all plainC then (R (Ret.mk (.agg ((.v (.int .i64 ((X27_2 a0_0 a0_1 a0_2 a1 a3).fst))) :: (.v (.bool ((X27_2 a0_0 a0_1 a0_2 a1 a3).snd.fst))) :: (ic IntKind.i64 (X27_2 a0_0 a0_1 a0_2 a1 a3).snd.snd))) [])) else False) else False) else False) else False) else (bif a0_2.all (isInt IntKind.i64) && a0_2.length == 49 && okN a0_0 && true && decide (0 ≤ IntKind.i64.wrap (a1 + 1)) && decide (IntKind.i64.wrap (a1 + 1) ≤ 6) && (X27_3 a0_0 a0_2 a1).length + 2 == a0_2.length + 2 && a0_2.all flatC && (X27_3 a0_0 a0_2 a1).all flatC then (bif (X27_3 a0_0 a0_2 a1).length + 2 == 51 then (bif (X27_3 a0_0 a0_2 a1).all plainC && true && ((X27_3 a0_0 a0_2 a1).all (isInt IntKind.i64) && (X27_3 a0_0 a0_2 a1).length == 49) && (X27_4 a0_0 a0_1 a0_2 a1).all (okC 0) && true && true && true && true then (bif (X27_4 a0_0 a0_1 a0_2 a1).length + 2 == 51 && (X27_3 a0_0 a0_2 a1).length + 2 == 51 && true then (bif decide (0 ≤ IntKind.i64.wrap (a1 + 1)) && decide (IntKind.i64.wrap (a1 + 1) < 7) then (bif decide (0 ≤ IntKind.i64.wrap (a2 + 1)) && decide (IntKind.i64.wrap (a2 + 1) < 7) then (bif decide ((IntKind.i64.wrap (a2 + 1)).toNat * 1 + (IntKind.i64.wrap (a1 + 1)).toNat * 7 + 3 ≤ (X27_4 a0_0 a0_1 a0_2 a1).length + 2) then (bif decide ((IntKind.i64.wrap (a1 + 1)).toNat * 1 + (IntKind.i64.wrap (a2 + 1)).toNat * 7 + 3 ≤ ((X27_4 a0_0 a0_1 a0_2 a1).set ((IntKind.i64.wrap (a2 + 1)).toNat * 1 + (IntKind.i64.wrap (a1 + 1)).toNat * 7) (Cell.v (Value.int IntKind.i64 (if 1099511627776 < if -1099511627776 > a3 then -1099511627776 else a3 then 1099511627776 else if -1099511627776 > a3 then -1099511627776 else a3)))).length + 2) then (bif (X27_0 a0_0 a0_1 a0_2 a1 a2 a3).length + 2 == 51 then (bif (X27_0 a0_0 a0_1 a0_2 a1 a2 a3).all plainC && true && ((X27_0 a0_0 a0_1 a0_2 a1 a2 a3).all (isInt IntKind.i64) && (X27_0 a0_0 a0_1 a0_2 a1 a2 a3).length == 49) && (ic IntKind.i64 (X27_1 a0_0 a0_1 a0_2 a1 a2 a3).snd.snd).all (okC 0) && true && true && true && true then (bif (ic IntKind.i64 (X27_1 a0_0 a0_1 a0_2 a1 a2 a3).snd.snd).length + 2 == 51 && true && true then (bif (ic IntKind.i64 (X27_1 a0_0 a0_1 a0_2 a1 a2 a3).snd.snd).length + 2 == 51 && true then (bif (ic IntKind.i64 (X27_1 a0_0 a0_1 a0_2 a1 a2 a3).snd.snd).all plainC then (R (Ret.mk (.agg ((.v (.int .i64 ((X27_1 a0_0 a0_1 a0_2 a1 a2 a3).fst))) :: (.v (.bool ((X27_1 a0_0 a0_1 a0_2 a1 a2 a3).snd.fst))) :: (ic IntKind.i64 (X27_1 a0_0 a0_1 a0_2 a1 a2 a3).snd.snd))) [])) else False) else False) else False) else False) else False) else False) else False) else False) else False) else False) else False) else False) else False)))) else False) else False

set_option maxRecDepth 100000 in
theorem f27_sound (a0_0 : Int) (a0_1 : Bool) (a0_2 : List Cell) (a1 : Int) (a2 : Int) (a3 : Int) (hC : CtxOk Try.prog cx27.q.ctx) {r : Ret} (h : f27_wp a0_0 a0_1 a0_2 a1 a2 a3 (fun r' => r' = r)) : SoundAt Try.prog 27 [(.agg ((.v (.int .i64 a0_0)) :: (.v (.bool a0_1)) :: a0_2)), (.one (.v (.int .i64 a1))), (.one (.v (.int .i64 a2))), (.one (.v (.int .i64 a3)))] r := by
  refine soundAtO (C := cx27) (oc := (.two (.n 3 .e) (.n 2 (.two .e (.two .e .e))))) mixed hC F27_ok ?_
  rewrite [E27 a0_0 a0_1 a0_2 a1 a2 a3]
  unfold f27_wp at h
  refine ck_mapE h (fun q1 h => ?_)
  refine ck_mapE h (fun q2 h => ?_)
  refine cond_mapE h (fun q3 h => ?_) (fun q3 h => ?_)
  · skip
    refine ck_i q1 ?_
    refine ck_mapE h (fun q4 h => ?_)
    refine ck_mapE h (fun q6 h => ?_)
    refine ck_mapE h (fun q5 h => ?_)
    exact h
  · skip
    refine ck_i q1 ?_
    refine ck_i q2 ?_
    refine cond_mapE h (fun q7 h => ?_) (fun q7 h => ?_)
    · skip
      refine ck_i q1 ?_
      refine ck_mapE h (fun q8 h => ?_)
      refine ck_mapE h (fun q10 h => ?_)
      refine ck_mapE h (fun q9 h => ?_)
      exact h
    · skip
      refine cond_mapE h (fun q11 h => ?_) (fun q11 h => ?_)
      · skip
        refine ck_i q1 ?_
        refine ck_mapE h (fun q12 h => ?_)
        refine ck_mapE h (fun q13 h => ?_)
        refine ck_mapE h (fun q15 h => ?_)
        refine ck_mapE h (fun q14 h => ?_)
        exact h
      · skip
        refine ck_mapE h (fun q16 h => ?_)
        refine ck_mapE h (fun q17 h => ?_)
        refine ck_mapE h (fun q18 h => ?_)
        refine ck_mapE h (fun q19 h => ?_)
        refine ck_mapE h (fun q20 h => ?_)
        refine ck_mapE h (fun q21 h => ?_)
        refine ck_mapE h (fun q22 h => ?_)
        refine ck_i q21 ?_
        refine ck_i q20 ?_
        refine ck_mapE h (fun q23 h => ?_)
        refine ck_mapE h (fun q24 h => ?_)
        refine ck_mapE h (fun q25 h => ?_)
        refine ck_mapE h (fun q26 h => ?_)
        refine ck_mapE h (fun q28 h => ?_)
        refine ck_mapE h (fun q27 h => ?_)
        exact h


def cx90 : CtxW := ⟨⟨[(88, sum88), (89, sum89)], []⟩, 2, []⟩


def F90_b0 : SC := (.seq (.seq (.reg [(.mk (.some (16)) (.mv (.t (9))) .none), (.mk (.some (17)) (.fld (0) (.t (4))) .none), (.mk (.some (18)) (.load .false .false (1) [(.some .i64)] (.t (17))) .none), (.mk (.some (19)) (.bin .leq (.t (16)) (.t (18))) .none)]) (.cond (.t (19)) .skip (.exit (0)))) (.seq (.blk 1 (.seq (.reg [(.mk (.some (22)) (.mv (.t (9))) .none), (.mk (.some (23)) (.mv (.t (1))) .none), (.mk (.some (24)) (.bin .add (.t (23)) (.c (.int .i64 (1)))) .none), (.mk (.some (25)) (.bin .neq (.t (22)) (.t (24))) .none)]) (.cond (.t (25)) (.seq (.reg [(.mk (.some (26)) (.mv (.t (1))) .none), (.mk (.some (27)) (.bin .add (.t (26)) (.c (.int .i64 (1)))) .none), (.mk (.some (28)) (.mv (.t (9))) .none), (.mk (.some (29)) (.mv (.t (1))) .none), (.mk (.some (30)) (.bin .add (.t (29)) (.c (.int .i64 (1)))) .none), (.mk (.some (31)) (.mv (.t (9))) .none), (.mk (.some (32)) (.fld (2) (.t (4))) .none), (.mk (.some (33)) (.ixA (7) (7) (.t (32)) (.t (30))) .none), (.mk (.some (34)) (.ixA (7) (1) (.t (33)) (.t (31))) .none), (.mk (.some (35)) (.load .false .false (1) [(.some .i64)] (.t (34))) .none), (.mk (.some (36)) (.mv (.t (3))) .none), (.mk (.some (37)) (.bin .add (.t (35)) (.t (36))) .none), (.mk (.some (38)) (.fld (2) (.t (4))) .none), (.mk (.some (39)) (.ixA (7) (7) (.t (38)) (.t (27))) .none), (.mk (.some (40)) (.ixA (7) (1) (.t (39)) (.t (28))) .none), (.mk .none (.store .false (1) (.t (40)) (.t (37))) .none)]) (.reg [(.mk (.some (41)) (.mv (.t (9))) .none), (.mk (.some (42)) (.mv (.t (1))) .none), (.mk (.some (43)) (.bin .add (.t (42)) (.c (.int .i64 (1)))) .none), (.mk (.some (44)) (.mv (.t (9))) .none), (.mk (.some (45)) (.mv (.t (1))) .none), (.mk (.some (46)) (.bin .add (.t (45)) (.c (.int .i64 (1)))) .none), (.mk (.some (47)) (.fld (2) (.t (4))) .none), (.mk (.some (48)) (.ixA (7) (7) (.t (47)) (.t (44))) .none), (.mk (.some (49)) (.ixA (7) (1) (.t (48)) (.t (46))) .none), (.mk (.some (50)) (.load .false .false (1) [(.some .i64)] (.t (49))) .none), (.mk (.some (51)) (.mv (.t (3))) .none), (.mk (.some (52)) (.bin .sub (.t (50)) (.t (51))) .none), (.mk (.some (53)) (.fld (2) (.t (4))) .none), (.mk (.some (54)) (.ixA (7) (7) (.t (53)) (.t (41))) .none), (.mk (.some (55)) (.ixA (7) (1) (.t (54)) (.t (43))) .none), (.mk .none (.store .false (1) (.t (55)) (.t (52))) .none)])) .skip))) (.reg [(.mk (.some (20)) (.mv (.t (9))) .none), (.mk (.some (21)) (.bin .add (.t (20)) (.c (.int .i64 (1)))) .none), (.mk (.some (9)) (.mv (.t (21))) .none)])))

def F90_c1 : SC := (.seq (.reg [(.mk (.some (56)) (.load .false .true (51) [(.some .i64), .none, (.some .i64), (.some .i64), (.some .i64), (.some .i64), (.some .i64), (.some .i64), (.some .i64), (.some .i64), (.some .i64), (.some .i64), (.some .i64), (.some .i64), (.some .i64), (.some .i64), (.some .i64), (.some .i64), (.some .i64), (.some .i64), (.some .i64), (.some .i64), (.some .i64), (.some .i64), (.some .i64), (.some .i64), (.some .i64), (.some .i64), (.some .i64), (.some .i64), (.some .i64), (.some .i64), (.some .i64), (.some .i64), (.some .i64), (.some .i64), (.some .i64), (.some .i64), (.some .i64), (.some .i64), (.some .i64), (.some .i64), (.some .i64), (.some .i64), (.some .i64), (.some .i64), (.some .i64), (.some .i64), (.some .i64), (.some .i64), (.some .i64)] (.t (4))) .none), (.mk (.some (57)) (.call .false .false (.f (88)) [(.t (56))]) .none), (.mk .none (.store .false (51) (.t (8)) (.t (57))) .none)]) .ret)

def F90_c2 : SC := (.seq (.reg [(.mk (.some (58)) (.load .false .true (51) [(.some .i64), .none, (.some .i64), (.some .i64), (.some .i64), (.some .i64), (.some .i64), (.some .i64), (.some .i64), (.some .i64), (.some .i64), (.some .i64), (.some .i64), (.some .i64), (.some .i64), (.some .i64), (.some .i64), (.some .i64), (.some .i64), (.some .i64), (.some .i64), (.some .i64), (.some .i64), (.some .i64), (.some .i64), (.some .i64), (.some .i64), (.some .i64), (.some .i64), (.some .i64), (.some .i64), (.some .i64), (.some .i64), (.some .i64), (.some .i64), (.some .i64), (.some .i64), (.some .i64), (.some .i64), (.some .i64), (.some .i64), (.some .i64), (.some .i64), (.some .i64), (.some .i64), (.some .i64), (.some .i64), (.some .i64), (.some .i64), (.some .i64), (.some .i64)] (.t (4))) .none), (.mk (.some (59)) (.mv (.t (1))) .none), (.mk (.some (60)) (.call .false .false (.f (89)) [(.t (58)), (.t (59))]) .none), (.mk .none (.store .false (51) (.t (4)) (.t (60))) .none)]) (.seq (.reg [(.mk (.some (61)) (.mv (.t (1))) .none), (.mk (.some (62)) (.bin .add (.t (61)) (.c (.int .i64 (1)))) .none), (.mk (.some (63)) (.mv (.t (2))) .none), (.mk (.some (64)) (.bin .add (.t (63)) (.c (.int .i64 (1)))) .none), (.mk (.some (65)) (.mv (.t (2))) .none), (.mk (.some (66)) (.bin .add (.t (65)) (.c (.int .i64 (1)))) .none), (.mk (.some (67)) (.mv (.t (1))) .none), (.mk (.some (68)) (.bin .add (.t (67)) (.c (.int .i64 (1)))) .none), (.mk (.some (69)) (.mv (.t (3))) .none), (.mk (.some (70)) (.mv (.t (3))) .none), (.mk (.some (71)) (.bin .sub (.c (.int .i64 (0))) (.t (70))) .none), (.mk (.some (72)) (.fld (2) (.t (4))) .none), (.mk (.some (73)) (.ixA (7) (7) (.t (72)) (.t (62))) .none), (.mk (.some (74)) (.ixA (7) (1) (.t (73)) (.t (64))) .none), (.mk .none (.store .false (1) (.t (74)) (.t (69))) .none), (.mk (.some (75)) (.fld (2) (.t (4))) .none), (.mk (.some (76)) (.ixA (7) (7) (.t (75)) (.t (66))) .none), (.mk (.some (77)) (.ixA (7) (1) (.t (76)) (.t (68))) .none), (.mk .none (.store .false (1) (.t (77)) (.t (71))) .none)]) (.seq (.reg [(.mk (.some (78)) (.load .false .true (51) [(.some .i64), .none, (.some .i64), (.some .i64), (.some .i64), (.some .i64), (.some .i64), (.some .i64), (.some .i64), (.some .i64), (.some .i64), (.some .i64), (.some .i64), (.some .i64), (.some .i64), (.some .i64), (.some .i64), (.some .i64), (.some .i64), (.some .i64), (.some .i64), (.some .i64), (.some .i64), (.some .i64), (.some .i64), (.some .i64), (.some .i64), (.some .i64), (.some .i64), (.some .i64), (.some .i64), (.some .i64), (.some .i64), (.some .i64), (.some .i64), (.some .i64), (.some .i64), (.some .i64), (.some .i64), (.some .i64), (.some .i64), (.some .i64), (.some .i64), (.some .i64), (.some .i64), (.some .i64), (.some .i64), (.some .i64), (.some .i64), (.some .i64), (.some .i64)] (.t (4))) .none), (.mk (.some (79)) (.call .false .false (.f (88)) [(.t (78))]) .none), (.mk .none (.store .false (51) (.t (8)) (.t (79))) .none)]) .ret)))

def F90 : SFn := ⟨80, [(.cell (8) .true (51))], (.seq (.reg [(.mk (.some (4)) (.box (.t (0))) .none), (.mk (.some (8)) (.alloc [(.int .i64 (0)), (.bool .false), (.int .i64 (0)), (.int .i64 (0)), (.int .i64 (0)), (.int .i64 (0)), (.int .i64 (0)), (.int .i64 (0)), (.int .i64 (0)), (.int .i64 (0)), (.int .i64 (0)), (.int .i64 (0)), (.int .i64 (0)), (.int .i64 (0)), (.int .i64 (0)), (.int .i64 (0)), (.int .i64 (0)), (.int .i64 (0)), (.int .i64 (0)), (.int .i64 (0)), (.int .i64 (0)), (.int .i64 (0)), (.int .i64 (0)), (.int .i64 (0)), (.int .i64 (0)), (.int .i64 (0)), (.int .i64 (0)), (.int .i64 (0)), (.int .i64 (0)), (.int .i64 (0)), (.int .i64 (0)), (.int .i64 (0)), (.int .i64 (0)), (.int .i64 (0)), (.int .i64 (0)), (.int .i64 (0)), (.int .i64 (0)), (.int .i64 (0)), (.int .i64 (0)), (.int .i64 (0)), (.int .i64 (0)), (.int .i64 (0)), (.int .i64 (0)), (.int .i64 (0)), (.int .i64 (0)), (.int .i64 (0)), (.int .i64 (0)), (.int .i64 (0)), (.int .i64 (0)), (.int .i64 (0)), (.int .i64 (0))]) .none)]) (.seq (.seq (.reg [(.mk (.some (10)) (.fld (1) (.t (4))) .none), (.mk (.some (11)) (.load .false .false (1) [.none] (.t (10))) .none)]) (.cond (.t (11)) (.seq (.reg [(.mk (.some (12)) (.load .false .true (51) [(.some .i64), .none, (.some .i64), (.some .i64), (.some .i64), (.some .i64), (.some .i64), (.some .i64), (.some .i64), (.some .i64), (.some .i64), (.some .i64), (.some .i64), (.some .i64), (.some .i64), (.some .i64), (.some .i64), (.some .i64), (.some .i64), (.some .i64), (.some .i64), (.some .i64), (.some .i64), (.some .i64), (.some .i64), (.some .i64), (.some .i64), (.some .i64), (.some .i64), (.some .i64), (.some .i64), (.some .i64), (.some .i64), (.some .i64), (.some .i64), (.some .i64), (.some .i64), (.some .i64), (.some .i64), (.some .i64), (.some .i64), (.some .i64), (.some .i64), (.some .i64), (.some .i64), (.some .i64), (.some .i64), (.some .i64), (.some .i64), (.some .i64), (.some .i64)] (.t (4))) .none), (.mk .none (.store .false (51) (.t (8)) (.t (12))) .none)]) .ret) .skip)) (.seq (.seq (.reg [(.mk (.some (13)) (.mv (.t (1))) .none), (.mk (.some (14)) (.mv (.t (2))) .none), (.mk (.some (15)) (.bin .eql (.t (13)) (.t (14))) .none)]) (.cond (.t (15)) (.seq (.seq (.reg [(.mk (.some (9)) (.mv (.c (.int .i64 (0)))) .none)]) (.blk 0 (.loop [1, 3, 4, 8, 9] [4, 8] [] F90_b0))) F90_c1) .skip)) F90_c2)))⟩

theorem F90_ok : sfn Try.prog hints 90 [([1, 3, 4, 8, 9], ([4, 8], []))] = some F90 := by kernel_rfl

abbrev X90_0 (a0_0 : Int) (a0_1 : Bool) (a0_2 : List Cell) (a1 : Int) (a2 : Int) (a3 : Int) := (((ic IntKind.i64 (forgetR (a0_0, a0_1, List.map intC a0_2) a1).snd.snd).set ((IntKind.i64.wrap (a2 + 1)).toNat * 1 + (IntKind.i64.wrap (a1 + 1)).toNat * 7) (Cell.v (Value.int IntKind.i64 a3))).set ((IntKind.i64.wrap (a1 + 1)).toNat * 1 + (IntKind.i64.wrap (a2 + 1)).toNat * 7) (Cell.v (Value.int IntKind.i64 (IntKind.i64.wrap (0 - a3)))))
abbrev X90_1 (a1 : Int) (a3 : Int) (y0_0 : Int) (y0_1 : List Cell) := (y0_1.set (y0_0.toNat * 1 + (IntKind.i64.wrap (a1 + 1)).toNat * 7) (Cell.v (Value.int IntKind.i64 (IntKind.i64.wrap (intC (y0_1.getD (y0_0.toNat * 1 + (IntKind.i64.wrap (a1 + 1)).toNat * 7) Cell.dead) + a3)))))
abbrev X90_2 (a0_0 : Int) (a0_1 : Bool) (a0_2 : List Cell) (a1 : Int) (a2 : Int) (a3 : Int) := (closeR ((forgetR (a0_0, a0_1, List.map intC a0_2) a1).fst, (forgetR (a0_0, a0_1, List.map intC a0_2) a1).snd.fst, List.map intC (X90_0 a0_0 a0_1 a0_2 a1 a2 a3)))
abbrev X90_3 (a1 : Int) (a3 : Int) (y0_0 : Int) (y0_1 : List Cell) := ((X90_1 a1 a3 y0_0 y0_1).set ((IntKind.i64.wrap (a1 + 1)).toNat * 1 + y0_0.toNat * 7) (Cell.v (Value.int IntKind.i64 (IntKind.i64.wrap (intC ((X90_1 a1 a3 y0_0 y0_1).getD ((IntKind.i64.wrap (a1 + 1)).toNat * 1 + y0_0.toNat * 7) Cell.dead) - a3)))))
abbrev X90_4 (a0_0 : Int) (a0_1 : Bool) (y0_1 : List Cell) := (ic IntKind.i64 (closeR (a0_0, a0_1, List.map intC y0_1)).snd.snd)

def I90_0_0 (a0_0 : Int) (a0_1 : Bool) (a0_2 : List Cell) (a1 : Int) (a2 : Int) (a3 : Int) (y0_0 : Int) (y0_1 : List Cell) : St := (.mk [.no, (.one (.v (.int .i64 (a1)))), .no, (.one (.v (.int .i64 (a3)))), (.box (4) (0) (0)), .no, .no, .no, (.box (8) (0) (0)), (.one (.v (.int .i64 (y0_0)))), .no, .no, .no, .no, .no, .no, .no, .no, .no, .no, .no, .no, .no, .no, .no, .no, .no, .no, .no, .no, .no, .no, .no, .no, .no, .no, .no, .no, .no, .no, .no, .no, .no, .no, .no, .no, .no, .no, .no, .no, .no, .no, .no, .no, .no, .no, .no, .no, .no, .no, .no, .no, .no, .no, .no, .no, .no, .no, .no, .no, .no, .no, .no, .no, .no, .no, .no, .no, .no, .no] [[], [], [], [], [((.v (.int .i64 (a0_0))) :: (.v (.bool (a0_1))) :: (y0_1))], [], [], [], [((.v (.int .i64 (0))) :: (.v (.bool .false)) :: (List.replicate (49) (Cell.v (Value.int IntKind.i64 0))))], [], [], [], [], [], [], [], [], [], [], [], [], [], [], [], [], [], [], [], [], [], [], [], [], [], [], [], [], [], [], [], [], [], [], [], [], [], [], [], [], [], [], [], [], [], [], [], [], [], [], [], [], [], [], [], [], [], [], [], [], [], [], [], [], [], [], [], [], [], [], []] [[], [], [], [], [], [], [], [], [], [], [], [], [], [], [], [], [], [], [], [], [], [], [], [], [], [], [], [], [], [], [], [], [], [], [], [], [], [], [], [], [], [], [], [], [], [], [], [], [], [], [], [], [], [], [], [], [], [], [], [], [], [], [], [], [], [], [], [], [], [], [], [], [], [], [], [], [], [], [], []])

theorem E90_0_0 (a0_0 : Int) (a0_1 : Bool) (a0_2 : List Cell) (a1 : Int) (a2 : Int) (a3 : Int) (y0_0 : Int) (y0_1 : List Cell) (N0 : Bool × St → Prop) (R : Ret → Prop) : wpO cx90 F90_b0 (.two (.two .e .e) .e) (I90_0_0 a0_0 a0_1 a0_2 a1 a2 a3 y0_0 y0_1) (kLp (headW cx90.m [1, 3, 4, 8, 9] [4, 8] []) N0 (kBlk 0 (kSeq cx90 F90_c1 (kSeq cx90 F90_c2 (endO cx90.m F90.rs R))))) = (bif decide (y0_0 ≤ a0_0) then (bif y0_0 != IntKind.i64.wrap (a1 + 1) then (bif decide (0 ≤ IntKind.i64.wrap (a1 + 1)) && decide (IntKind.i64.wrap (a1 + 1) < 7) then (bif decide (0 ≤ y0_0) && decide (y0_0 < 7) then (bif decide (y0_0.toNat * 1 + (IntKind.i64.wrap (a1 + 1)).toNat * 7 + 3 ≤ y0_1.length + 2) && okK (some IntKind.i64) (y0_1.getD (y0_0.toNat * 1 + (IntKind.i64.wrap (a1 + 1)).toNat * 7) Cell.dead) then (bif decide (0 ≤ IntKind.i64.wrap (a1 + 1)) && decide (IntKind.i64.wrap (a1 + 1) < 7) then (bif decide (0 ≤ y0_0) && decide (y0_0 < 7) then (bif decide (y0_0.toNat * 1 + (IntKind.i64.wrap (a1 + 1)).toNat * 7 + 3 ≤ y0_1.length + 2) then (bif decide (0 ≤ y0_0) && decide (y0_0 < 7) then (bif decide (0 ≤ IntKind.i64.wrap (a1 + 1)) && decide (IntKind.i64.wrap (a1 + 1) < 7) then (bif decide ((IntKind.i64.wrap (a1 + 1)).toNat * 1 + y0_0.toNat * 7 + 3 ≤ (X90_1 a1 a3 y0_0 y0_1).length + 2) && okK (some IntKind.i64) ((X90_1 a1 a3 y0_0 y0_1).getD ((IntKind.i64.wrap (a1 + 1)).toNat * 1 + y0_0.toNat * 7) Cell.dead) then (bif decide (0 ≤ y0_0) && decide (y0_0 < 7) then (bif decide (0 ≤ IntKind.i64.wrap (a1 + 1)) && decide (IntKind.i64.wrap (a1 + 1) < 7) then (bif decide ((IntKind.i64.wrap (a1 + 1)).toNat * 1 + y0_0.toNat * 7 + 3 ≤ (X90_1 a1 a3 y0_0 y0_1).length + 2) then (N0 ((X90_3 a1 a3 y0_0 y0_1).all plainC && true && true, (I90_0_0 a0_0 a0_1 a0_2 a1 a2 a3 (IntKind.i64.wrap (y0_0 + 1)) (X90_3 a1 a3 y0_0 y0_1)))) else False) else False) else False) else False) else False) else False) else False) else False) else False) else False) else False) else False) else (N0 (y0_1.all plainC && true && true, (I90_0_0 a0_0 a0_1 a0_2 a1 a2 a3 (IntKind.i64.wrap (y0_0 + 1)) (y0_1))))) else (bif y0_1.length + 2 == 51 then (bif y0_1.all plainC && true && (y0_1.all (isInt IntKind.i64) && y0_1.length == 49 && okN a0_0) && (X90_4 a0_0 a0_1 y0_1).all (okC 0) && true && true && true && true then (bif (X90_4 a0_0 a0_1 y0_1).length + 2 == 51 && true && true then (bif (X90_4 a0_0 a0_1 y0_1).length + 2 == 51 && true then (bif (X90_4 a0_0 a0_1 y0_1).all plainC then (R (Ret.mk (.agg ((.v (.int .i64 ((closeR (a0_0, a0_1, List.map intC y0_1)).fst))) :: (.v (.bool ((closeR (a0_0, a0_1, List.map intC y0_1)).snd.fst))) :: (X90_4 a0_0 a0_1 y0_1))) [])) else False) else False) else False) else False) else False)) := by kernel_rfl

theorem E90 (a0_0 : Int) (a0_1 : Bool) (a0_2 : List Cell) (a1 : Int) (a2 : Int) (a3 : Int) (R : Ret → Prop) : wpFO cx90 F90 (.two .e (.two .e .e)) [(.agg ((.v (.int .i64 a0_0)) :: (.v (.bool a0_1)) :: a0_2)), (.one (.v (.int .i64 a1))), (.one (.v (.int .i64 a2))), (.one (.v (.int .i64 a3)))] R = (bif a0_1 then (bif a0_2.length + 2 == 51 then (bif a0_2.length + 2 == 51 && true && true then (bif a0_2.length + 2 == 51 && true then (bif a0_2.all plainC then (R (Ret.mk (.agg ((.v (.int .i64 (a0_0))) :: (.v (.bool (a0_1))) :: (a0_2))) [])) else False) else False) else False) else False) else (bif a1 == a2 then (LoopO (bodyX cx90 F90_b0) (headW cx90.m [1, 3, 4, 8, 9] [4, 8] []) (kBlk 0 (kSeq cx90 F90_c1 (kSeq cx90 F90_c2 (endO cx90.m F90.rs R)))) (a0_2.all plainC && true && true, (I90_0_0 a0_0 a0_1 a0_2 a1 a2 a3 (0) (a0_2)))) else (bif a0_2.length + 2 == 51 then (bif a0_2.all plainC && true && (a0_2.all (isInt IntKind.i64) && a0_2.length == 49 && okN a0_0 && true && in16 a1) && (ic IntKind.i64 (forgetR (a0_0, a0_1, List.map intC a0_2) a1).snd.snd).all (okC 0) && true && true && true && true then (bif (ic IntKind.i64 (forgetR (a0_0, a0_1, List.map intC a0_2) a1).snd.snd).length + 2 == 51 && a0_2.length + 2 == 51 && true then (bif decide (0 ≤ IntKind.i64.wrap (a1 + 1)) && decide (IntKind.i64.wrap (a1 + 1) < 7) then (bif decide (0 ≤ IntKind.i64.wrap (a2 + 1)) && decide (IntKind.i64.wrap (a2 + 1) < 7) then (bif decide ((IntKind.i64.wrap (a2 + 1)).toNat * 1 + (IntKind.i64.wrap (a1 + 1)).toNat * 7 + 3 ≤ (ic IntKind.i64 (forgetR (a0_0, a0_1, List.map intC a0_2) a1).snd.snd).length + 2) then (bif decide (0 ≤ IntKind.i64.wrap (a2 + 1)) && decide (IntKind.i64.wrap (a2 + 1) < 7) then (bif decide (0 ≤ IntKind.i64.wrap (a1 + 1)) && decide (IntKind.i64.wrap (a1 + 1) < 7) then (bif decide ((IntKind.i64.wrap (a1 + 1)).toNat * 1 + (IntKind.i64.wrap (a2 + 1)).toNat * 7 + 3 ≤ ((ic IntKind.i64 (forgetR (a0_0, a0_1, List.map intC a0_2) a1).snd.snd).set ((IntKind.i64.wrap (a2 + 1)).toNat * 1 + (IntKind.i64.wrap (a1 + 1)).toNat * 7) (Cell.v (Value.int IntKind.i64 a3))).length + 2) then (bif (X90_0 a0_0 a0_1 a0_2 a1 a2 a3).length + 2 == 51 then (bif (X90_0 a0_0 a0_1 a0_2 a1 a2 a3).all plainC && true && ((X90_0 a0_0 a0_1 a0_2 a1 a2 a3).all (isInt IntKind.i64) && (X90_0 a0_0 a0_1 a0_2 a1 a2 a3).length == 49 && okN (forgetR (a0_0, a0_1, List.map intC a0_2) a1).fst) && (ic IntKind.i64 (X90_2 a0_0 a0_1 a0_2 a1 a2 a3).snd.snd).all (okC 0) && true && true && true && true then (bif (ic IntKind.i64 (X90_2 a0_0 a0_1 a0_2 a1 a2 a3).snd.snd).length + 2 == 51 && true && true then (bif (ic IntKind.i64 (X90_2 a0_0 a0_1 a0_2 a1 a2 a3).snd.snd).length + 2 == 51 && true then (bif (ic IntKind.i64 (X90_2 a0_0 a0_1 a0_2 a1 a2 a3).snd.snd).all plainC then (R (Ret.mk (.agg ((.v (.int .i64 ((X90_2 a0_0 a0_1 a0_2 a1 a2 a3).fst))) :: (.v (.bool ((X90_2 a0_0 a0_1 a0_2 a1 a2 a3).snd.fst))) :: (ic IntKind.i64 (X90_2 a0_0 a0_1 a0_2 a1 a2 a3).snd.snd))) [])) else False) else False) else False) else False) else False) else False) else False) else False) else False) else False) else False) else False) else False) else False))) := by kernel_rfl

def f90_wp (a0_0 : Int) (a0_1 : Bool) (a0_2 : List Cell) (a1 : Int) (a2 : Int) (a3 : Int) (R : Ret → Prop) : Prop := bif a0_1 then (bif a0_2.length + 2 == 51 then (bif a0_2.length + 2 == 51 && true && true then (bif a0_2.length + 2 == 51 && true then (bif a0_2.all plainC then (R (Ret.mk (.agg ((.v (.int .i64 (a0_0))) :: (.v (.bool (a0_1))) :: (a0_2))) [])) else False) else False) else False) else False) else (bif a1 == a2 then ((a0_2.all plainC && true && true) = true ∧ LoopP (fun (z0 : (Int × (List Cell))) (k0 : (Int × (List Cell)) → Prop) => (fun (z : Int × (List Cell)) => (fun (y0_0 : Int) (y0_1 : List Cell) => bif decide (y0_0 ≤ a0_0) then (bif y0_0 != IntKind.i64.wrap (a1 + 1) then (bif decide (0 ≤ IntKind.i64.wrap (a1 + 1)) && decide (IntKind.i64.wrap (a1 + 1) < 7) then (bif decide (0 ≤ y0_0) && decide (y0_0 < 7) then (bif decide (y0_0.toNat * 1 + (IntKind.i64.wrap (a1 + 1)).toNat * 7 + 3 ≤ y0_1.length + 2) && okK (some IntKind.i64) (y0_1.getD (y0_0.toNat * 1 + (IntKind.i64.wrap (a1 + 1)).toNat * 7) Cell.dead) then (bif decide (y0_0.toNat * 1 + (IntKind.i64.wrap (a1 + 1)).toNat * 7 + 3 ≤ y0_1.length + 2) then (bif decide ((IntKind.i64.wrap (a1 + 1)).toNat * 1 + y0_0.toNat * 7 + 3 ≤ (X90_1 a1 a3 y0_0 y0_1).length + 2) && okK (some IntKind.i64) ((X90_1 a1 a3 y0_0 y0_1).getD ((IntKind.i64.wrap (a1 + 1)).toNat * 1 + y0_0.toNat * 7) Cell.dead) then (bif decide ((IntKind.i64.wrap (a1 + 1)).toNat * 1 + y0_0.toNat * 7 + 3 ≤ (X90_1 a1 a3 y0_0 y0_1).length + 2) then (((X90_3 a1 a3 y0_0 y0_1).all plainC && true && true) = true ∧ k0 ((IntKind.i64.wrap (y0_0 + 1)), (X90_3 a1 a3 y0_0 y0_1))) else False) else False) else False) else False) else False) else False) else ((y0_1.all plainC && true && true) = true ∧ k0 ((IntKind.i64.wrap (y0_0 + 1)), (y0_1)))) else (bif y0_1.length + 2 == 51 then (bif y0_1.all plainC && true && (y0_1.all (isInt IntKind.i64) && y0_1.length == 49 && okN a0_0) && (X90_4 a0_0 a0_1 y0_1).all (okC 0) && true && true && true && true then (bif (X90_4 a0_0 a0_1 y0_1).length + 2 == 51 && true && true then (bif (X90_4 a0_0 a0_1 y0_1).length + 2 == 51 && true then (bif (X90_4 a0_0 a0_1 y0_1).all plainC then (R (Ret.mk (.agg ((.v (.int .i64 ((closeR (a0_0, a0_1, List.map intC y0_1)).fst))) :: (.v (.bool ((closeR (a0_0, a0_1, List.map intC y0_1)).snd.fst))) :: (X90_4 a0_0 a0_1 y0_1))) [])) else False) else False) else False) else False) else False)) z.1 z.2) z0) ((0), (a0_2))) else (bif a0_2.length + 2 == 51 then (bif a0_2.all plainC && true && (a0_2.all (isInt IntKind.i64) && a0_2.length == 49 && okN a0_0 && true && in16 a1) && (ic IntKind.i64 (forgetR (a0_0, a0_1, List.map intC a0_2) a1).snd.snd).all (okC 0) && true && true && true && true then (bif (ic IntKind.i64 (forgetR (a0_0, a0_1, List.map intC a0_2) a1).snd.snd).length + 2 == 51 && a0_2.length + 2 == 51 && true then (bif decide (0 ≤ IntKind.i64.wrap (a1 + 1)) && decide (IntKind.i64.wrap (a1 + 1) < 7) then (bif decide (0 ≤ IntKind.i64.wrap (a2 + 1)) && decide (IntKind.i64.wrap (a2 + 1) < 7) then (bif decide ((IntKind.i64.wrap (a2 + 1)).toNat * 1 + (IntKind.i64.wrap (a1 + 1)).toNat * 7 + 3 ≤ (ic IntKind.i64 (forgetR (a0_0, a0_1, List.map intC a0_2) a1).snd.snd).length + 2) then (bif decide ((IntKind.i64.wrap (a1 + 1)).toNat * 1 + (IntKind.i64.wrap (a2 + 1)).toNat * 7 + 3 ≤ ((ic IntKind.i64 (forgetR (a0_0, a0_1, List.map intC a0_2) a1).snd.snd).set ((IntKind.i64.wrap (a2 + 1)).toNat * 1 + (IntKind.i64.wrap (a1 + 1)).toNat * 7) (Cell.v (Value.int IntKind.i64 a3))).length + 2) then (bif (X90_0 a0_0 a0_1 a0_2 a1 a2 a3).length + 2 == 51 then (bif (X90_0 a0_0 a0_1 a0_2 a1 a2 a3).all plainC && true && ((X90_0 a0_0 a0_1 a0_2 a1 a2 a3).all (isInt IntKind.i64) && (X90_0 a0_0 a0_1 a0_2 a1 a2 a3).length == 49 && okN (forgetR (a0_0, a0_1, List.map intC a0_2) a1).fst) && (ic IntKind.i64 (X90_2 a0_0 a0_1 a0_2 a1 a2 a3).snd.snd).all (okC 0) && true && true && true && true then (bif (ic IntKind.i64 (X90_2 a0_0 a0_1 a0_2 a1 a2 a3).snd.snd).length + 2 == 51 && true && true then (bif (ic IntKind.i64 (X90_2 a0_0 a0_1 a0_2 a1 a2 a3).snd.snd).length + 2 == 51 && true then (bif (ic IntKind.i64 (X90_2 a0_0 a0_1 a0_2 a1 a2 a3).snd.snd).all plainC then (R (Ret.mk (.agg ((.v (.int .i64 ((X90_2 a0_0 a0_1 a0_2 a1 a2 a3).fst))) :: (.v (.bool ((X90_2 a0_0 a0_1 a0_2 a1 a2 a3).snd.fst))) :: (ic IntKind.i64 (X90_2 a0_0 a0_1 a0_2 a1 a2 a3).snd.snd))) [])) else False) else False) else False) else False) else False) else False) else False) else False) else False) else False) else False) else False))

set_option maxRecDepth 100000 in
theorem f90_sound (a0_0 : Int) (a0_1 : Bool) (a0_2 : List Cell) (a1 : Int) (a2 : Int) (a3 : Int) (hC : CtxOk Try.prog cx90.q.ctx) {r : Ret} (h : f90_wp a0_0 a0_1 a0_2 a1 a2 a3 (fun r' => r' = r)) : SoundAt Try.prog 90 [(.agg ((.v (.int .i64 a0_0)) :: (.v (.bool a0_1)) :: a0_2)), (.one (.v (.int .i64 a1))), (.one (.v (.int .i64 a2))), (.one (.v (.int .i64 a3)))] r := by
  refine soundAtO (C := cx90) (oc := (.two .e (.two .e .e))) mixed hC F90_ok ?_
  rewrite [E90 a0_0 a0_1 a0_2 a1 a2 a3]
  unfold f90_wp at h
  refine cond_mapE h (fun q1 h => ?_) (fun q1 h => ?_)
  · skip
    refine ck_mapE h (fun q2 h => ?_)
    refine ck_mapE h (fun q3 h => ?_)
    refine ck_mapE h (fun q5 h => ?_)
    refine ck_mapE h (fun q4 h => ?_)
    exact h
  · skip
    refine cond_mapE h (fun q6 h => ?_) (fun q6 h => ?_)
    · skip
      obtain ⟨q37, h⟩ := h
      refine loop_of (I := (fun (z : Int × (List Cell)) => (I90_0_0 a0_0 a0_1 a0_2 a1 a2 a3 z.1 z.2))) (fun z k0 h => ?_) h q37 rfl
      obtain ⟨y0_0, y0_1⟩ := z
      try dsimp only [sumE_l, sumE_r] at h
      refine bodyX_i (ob := (.two (.two .e .e) .e)) ?_
      rewrite [E90_0_0 a0_0 a0_1 a0_2 a1 a2 a3 y0_0 y0_1]
      refine cond_mapE h (fun q22 h => ?_) (fun q22 h => ?_)
      · skip
        refine cond_mapE h (fun q23 h => ?_) (fun q23 h => ?_)
        · skip
          refine ck_mapE h (fun q24 h => ?_)
          refine ck_mapE h (fun q25 h => ?_)
          refine ck_mapE h (fun q26 h => ?_)
          refine ck_i q24 ?_
          refine ck_i q25 ?_
          refine ck_mapE h (fun q27 h => ?_)
          refine ck_i q25 ?_
          refine ck_i q24 ?_
          refine ck_mapE h (fun q28 h => ?_)
          refine ck_i q25 ?_
          refine ck_i q24 ?_
          refine ck_mapE h (fun q29 h => ?_)
          obtain ⟨q30, h⟩ := h
          exact again_i (y := ((IntKind.i64.wrap (y0_0 + 1)), (X90_3 a1 a3 y0_0 y0_1))) q30 h
        · skip
          obtain ⟨q31, h⟩ := h
          exact again_i (y := ((IntKind.i64.wrap (y0_0 + 1)), (y0_1))) q31 h
      · skip
        refine ck_mapE h (fun q32 h => ?_)
        refine ck_mapE h (fun q33 h => ?_)
        refine ck_mapE h (fun q34 h => ?_)
        refine ck_mapE h (fun q36 h => ?_)
        refine ck_mapE h (fun q35 h => ?_)
        exact h
    · skip
      refine ck_mapE h (fun q38 h => ?_)
      refine ck_mapE h (fun q39 h => ?_)
      refine ck_mapE h (fun q40 h => ?_)
      refine ck_mapE h (fun q41 h => ?_)
      refine ck_mapE h (fun q42 h => ?_)
      refine ck_mapE h (fun q43 h => ?_)
      refine ck_i q42 ?_
      refine ck_i q41 ?_
      refine ck_mapE h (fun q44 h => ?_)
      refine ck_mapE h (fun q45 h => ?_)
      refine ck_mapE h (fun q46 h => ?_)
      refine ck_mapE h (fun q47 h => ?_)
      refine ck_mapE h (fun q49 h => ?_)
      refine ck_mapE h (fun q48 h => ?_)
      exact h


def cx36 : CtxW := ⟨⟨[], []⟩, 16, []⟩


def F36 : SFn := ⟨2, [(.cell (0) .true (2))], (.seq (.reg [(.mk (.some (0)) (.alloc [(.int .i64 (0)), (.int .i64 (0))]) .none)]) (.seq (.reg [(.mk (.some (1)) (.build [(.int .i64 (0)), (.int .i64 (0))] [((0), ((1), (.c (.int .i64 (1))))), ((1), ((1), (.c (.int .i64 (0)))))]) .none), (.mk .none (.store .false (2) (.t (0)) (.t (1))) .none)]) .ret))⟩

theorem F36_ok : sfn Try.prog hints 36 [] = some F36 := by kernel_rfl

theorem E36  (R : Ret → Prop) : wpFO cx36 F36 .e [] R = (R (Ret.mk (.agg [(.v (.int .i64 (1))), (.v (.int .i64 (0)))]) [])) := by kernel_rfl

def f36_wp  (R : Ret → Prop) : Prop := R (Ret.mk (.agg [(.v (.int .i64 (1))), (.v (.int .i64 (0)))]) [])

set_option maxRecDepth 100000 in
theorem f36_sound  (hC : CtxOk Try.prog cx36.q.ctx) {r : Ret} (h : f36_wp  (fun r' => r' = r)) : SoundAt Try.prog 36 [] r := by
  refine soundAtO (C := cx36) (oc := .e) mixed hC F36_ok ?_
  rewrite [E36 ]
  unfold f36_wp at h
  exact h


def cx49 : CtxW := ⟨⟨[], []⟩, 16, []⟩


def F49 : SFn := ⟨2, [(.cell (0) .true (2))], (.seq (.reg [(.mk (.some (0)) (.alloc [(.int .i64 (0)), (.int .i64 (0))]) .none)]) (.seq (.reg [(.mk (.some (1)) (.build [(.int .i64 (0)), (.int .i64 (0))] [((0), ((1), (.c (.int .i64 (-2147483648))))), ((1), ((1), (.c (.int .i64 (2147483647)))))]) .none), (.mk .none (.store .false (2) (.t (0)) (.t (1))) .none)]) .ret))⟩

theorem F49_ok : sfn Try.prog hints 49 [] = some F49 := by kernel_rfl

theorem E49  (R : Ret → Prop) : wpFO cx49 F49 .e [] R = (R (Ret.mk (.agg [(.v (.int .i64 (-2147483648))), (.v (.int .i64 (2147483647)))]) [])) := by kernel_rfl

def f49_wp  (R : Ret → Prop) : Prop := R (Ret.mk (.agg [(.v (.int .i64 (-2147483648))), (.v (.int .i64 (2147483647)))]) [])

set_option maxRecDepth 100000 in
theorem f49_sound  (hC : CtxOk Try.prog cx49.q.ctx) {r : Ret} (h : f49_wp  (fun r' => r' = r)) : SoundAt Try.prog 49 [] r := by
  refine soundAtO (C := cx49) (oc := .e) mixed hC F49_ok ?_
  rewrite [E49 ]
  unfold f49_wp at h
  exact h


def cx44 : CtxW := ⟨⟨[], []⟩, 16, []⟩


def F44 : SFn := ⟨8, [(.tmp (2))], (.seq (.reg [(.mk (.some (1)) (.box (.t (0))) .none), (.mk (.some (2)) (.mv (.c (.bool .false))) .none)]) (.seq (.reg [(.mk (.some (3)) (.fld (0) (.t (1))) .none), (.mk (.some (4)) (.load .false .false (1) [(.some .i64)] (.t (3))) .none), (.mk (.some (5)) (.fld (1) (.t (1))) .none), (.mk (.some (6)) (.load .false .false (1) [(.some .i64)] (.t (5))) .none), (.mk (.some (7)) (.bin .gtr (.t (4)) (.t (6))) .none), (.mk (.some (2)) (.mv (.t (7))) .none)]) .ret))⟩

theorem F44_ok : sfn Try.prog hints 44 [] = some F44 := by kernel_rfl

theorem E44 (a0_0 : Int) (a0_1 : Int) (R : Ret → Prop) : wpFO cx44 F44 .e [(.agg [(.v (.int .i64 a0_0)), (.v (.int .i64 a0_1))])] R = (R (Ret.mk (.one (.v (.bool (decide (a0_0 > a0_1))))) [])) := by kernel_rfl

def f44_wp (a0_0 : Int) (a0_1 : Int) (R : Ret → Prop) : Prop := R (Ret.mk (.one (.v (.bool (decide (a0_0 > a0_1))))) [])

set_option maxRecDepth 100000 in
theorem f44_sound (a0_0 : Int) (a0_1 : Int) (hC : CtxOk Try.prog cx44.q.ctx) {r : Ret} (h : f44_wp a0_0 a0_1 (fun r' => r' = r)) : SoundAt Try.prog 44 [(.agg [(.v (.int .i64 a0_0)), (.v (.int .i64 a0_1))])] r := by
  refine soundAtO (C := cx44) (oc := .e) mixed hC F44_ok ?_
  rewrite [E44 a0_0 a0_1]
  unfold f44_wp at h
  exact h


def cx97 : CtxW := ⟨⟨[(44, sum44), (36, sum36)], []⟩, 16, []⟩


def F97 : SFn := ⟨7, [(.cell (2) .true (2))], (.seq (.reg [(.mk (.some (1)) (.box (.t (0))) .none), (.mk (.some (2)) (.alloc [(.int .i64 (0)), (.int .i64 (0))]) .none)]) (.seq (.seq (.reg [(.mk (.some (3)) (.load .false .true (2) [(.some .i64), (.some .i64)] (.t (1))) .none), (.mk (.some (4)) (.call .false .false (.f (44)) [(.t (3))]) .none)]) (.cond (.t (4)) (.seq (.reg [(.mk (.some (5)) (.call .false .false (.f (36)) []) .none), (.mk .none (.store .false (2) (.t (2)) (.t (5))) .none)]) .ret) .skip)) (.seq (.reg [(.mk (.some (6)) (.load .false .true (2) [(.some .i64), (.some .i64)] (.t (1))) .none), (.mk .none (.store .false (2) (.t (2)) (.t (6))) .none)]) .ret)))⟩

theorem F97_ok : sfn Try.prog hints 97 [] = some F97 := by kernel_rfl

theorem E97 (a0_0 : Int) (a0_1 : Int) (R : Ret → Prop) : wpFO cx97 F97 (.two .e .e) [(.agg [(.v (.int .i64 a0_0)), (.v (.int .i64 a0_1))])] R = (bif emptyP a0_0 a0_1 then (R (Ret.mk (.agg [(.v (.int .i64 (1))), (.v (.int .i64 (0)))]) [])) else (R (Ret.mk (.agg [(.v (.int .i64 (a0_0))), (.v (.int .i64 (a0_1)))]) []))) := by kernel_rfl

def f97_wp (a0_0 : Int) (a0_1 : Int) (R : Ret → Prop) : Prop := bif emptyP a0_0 a0_1 then (R (Ret.mk (.agg [(.v (.int .i64 (1))), (.v (.int .i64 (0)))]) [])) else (R (Ret.mk (.agg [(.v (.int .i64 (a0_0))), (.v (.int .i64 (a0_1)))]) []))

set_option maxRecDepth 100000 in
theorem f97_sound (a0_0 : Int) (a0_1 : Int) (hC : CtxOk Try.prog cx97.q.ctx) {r : Ret} (h : f97_wp a0_0 a0_1 (fun r' => r' = r)) : SoundAt Try.prog 97 [(.agg [(.v (.int .i64 a0_0)), (.v (.int .i64 a0_1))])] r := by
  refine soundAtO (C := cx97) (oc := (.two .e .e)) mixed hC F97_ok ?_
  rewrite [E97 a0_0 a0_1]
  unfold f97_wp at h
  refine cond_mapE h (fun q1 h => ?_) (fun q1 h => ?_)
  · skip
    exact h
  · skip
    exact h


def cx53 : CtxW := ⟨⟨[(97, sum97)], []⟩, 16, []⟩


def F53 : SFn := ⟨11, [(.cell (4) .true (2))], (.seq (.reg [(.mk (.some (4)) (.alloc [(.int .i64 (0)), (.int .i64 (0))]) .none)]) (.seq (.reg [(.mk (.some (5)) (.mv (.t (0))) .none), (.mk (.some (6)) (.mm .true [(.t (5)), (.c (.int .i64 (-2147483648)))]) .none), (.mk (.some (7)) (.mv (.t (1))) .none), (.mk (.some (8)) (.mm .false [(.t (7)), (.c (.int .i64 (2147483647)))]) .none), (.mk (.some (9)) (.build [(.int .i64 (0)), (.int .i64 (0))] [((0), ((1), (.t (6)))), ((1), ((1), (.t (8))))]) .none), (.mk (.some (10)) (.call .false .false (.f (97)) [(.t (9))]) .none), (.mk .none (.store .false (2) (.t (4)) (.t (10))) .none)]) .ret))⟩

theorem F53_ok : sfn Try.prog hints 53 [] = some F53 := by kernel_rfl

theorem E53 (a0 : Int) (a1 : Int) (R : Ret → Prop) : wpFO cx53 F53 .e [(.one (.v (.int .i64 a0))), (.one (.v (.int .i64 a1)))] R = (R (Ret.mk (.agg [(.v (.int .i64 ((normP (if -2147483648 > a0 then -2147483648 else a0) (if 2147483647 < a1 then 2147483647 else a1)).fst))), (.v (.int .i64 ((normP (if -2147483648 > a0 then -2147483648 else a0) (if 2147483647 < a1 then 2147483647 else a1)).snd)))]) [])) := by kernel_rfl

def f53_wp (a0 : Int) (a1 : Int) (R : Ret → Prop) : Prop := R (Ret.mk (.agg [(.v (.int .i64 ((normP (if -2147483648 > a0 then -2147483648 else a0) (if 2147483647 < a1 then 2147483647 else a1)).fst))), (.v (.int .i64 ((normP (if -2147483648 > a0 then -2147483648 else a0) (if 2147483647 < a1 then 2147483647 else a1)).snd)))]) [])

set_option maxRecDepth 100000 in
theorem f53_sound (a0 : Int) (a1 : Int) (hC : CtxOk Try.prog cx53.q.ctx) {r : Ret} (h : f53_wp a0 a1 (fun r' => r' = r)) : SoundAt Try.prog 53 [(.one (.v (.int .i64 a0))), (.one (.v (.int .i64 a1)))] r := by
  refine soundAtO (C := cx53) (oc := .e) mixed hC F53_ok ?_
  rewrite [E53 a0 a1]
  unfold f53_wp at h
  exact h


def cx30 : CtxW := ⟨⟨[(53, sum53)], []⟩, 16, []⟩


def F30 : SFn := ⟨6, [(.cell (2) .true (2))], (.seq (.reg [(.mk (.some (2)) (.alloc [(.int .i64 (0)), (.int .i64 (0))]) .none)]) (.seq (.reg [(.mk (.some (3)) (.mv (.t (0))) .none), (.mk (.some (4)) (.mv (.t (0))) .none), (.mk (.some (5)) (.call .false .false (.f (53)) [(.t (3)), (.t (4))]) .none), (.mk .none (.store .false (2) (.t (2)) (.t (5))) .none)]) .ret))⟩

theorem F30_ok : sfn Try.prog hints 30 [] = some F30 := by kernel_rfl

theorem E30 (a0 : Int) (R : Ret → Prop) : wpFO cx30 F30 .e [(.one (.v (.int .i64 a0)))] R = (R (Ret.mk (.agg [(.v (.int .i64 ((ofP a0 a0).fst))), (.v (.int .i64 ((ofP a0 a0).snd)))]) [])) := by kernel_rfl

def f30_wp (a0 : Int) (R : Ret → Prop) : Prop := R (Ret.mk (.agg [(.v (.int .i64 ((ofP a0 a0).fst))), (.v (.int .i64 ((ofP a0 a0).snd)))]) [])

set_option maxRecDepth 100000 in
theorem f30_sound (a0 : Int) (hC : CtxOk Try.prog cx30.q.ctx) {r : Ret} (h : f30_wp a0 (fun r' => r' = r)) : SoundAt Try.prog 30 [(.one (.v (.int .i64 a0)))] r := by
  refine soundAtO (C := cx30) (oc := .e) mixed hC F30_ok ?_
  rewrite [E30 a0]
  unfold f30_wp at h
  exact h


def cx29 : CtxW := ⟨⟨[(85, sum85), (36, sum36), (53, sum53)], []⟩, 2, []⟩


def F29 : SFn := ⟨24, [(.cell (4) .true (2))], (.seq (.reg [(.mk (.some (2)) (.box (.t (0))) .none), (.mk (.some (4)) (.alloc [(.int .i64 (0)), (.int .i64 (0))]) .none)]) (.seq (.seq (.reg [(.mk (.some (5)) (.load .false .true (51) [(.some .i64), .none, (.some .i64), (.some .i64), (.some .i64), (.some .i64), (.some .i64), (.some .i64), (.some .i64), (.some .i64), (.some .i64), (.some .i64), (.some .i64), (.some .i64), (.some .i64), (.some .i64), (.some .i64), (.some .i64), (.some .i64), (.some .i64), (.some .i64), (.some .i64), (.some .i64), (.some .i64), (.some .i64), (.some .i64), (.some .i64), (.some .i64), (.some .i64), (.some .i64), (.some .i64), (.some .i64), (.some .i64), (.some .i64), (.some .i64), (.some .i64), (.some .i64), (.some .i64), (.some .i64), (.some .i64), (.some .i64), (.some .i64), (.some .i64), (.some .i64), (.some .i64), (.some .i64), (.some .i64), (.some .i64), (.some .i64), (.some .i64), (.some .i64)] (.t (2))) .none), (.mk (.some (6)) (.mv (.t (1))) .none), (.mk (.some (7)) (.call .false .false (.f (85)) [(.t (5)), (.t (6))]) .none), (.mk (.some (8)) (.un .not (.t (7))) .none)]) (.cond (.t (8)) (.seq (.reg [(.mk (.some (9)) (.call .false .false (.f (36)) []) .none), (.mk .none (.store .false (2) (.t (4)) (.t (9))) .none)]) .ret) .skip)) (.seq (.reg [(.mk (.some (10)) (.mv (.t (1))) .none), (.mk (.some (11)) (.bin .add (.t (10)) (.c (.int .i64 (1)))) .none), (.mk (.some (12)) (.fld (2) (.t (2))) .none), (.mk (.some (13)) (.ixA (7) (7) (.t (12)) (.c (.int .i64 (0)))) .none), (.mk (.some (14)) (.ixA (7) (1) (.t (13)) (.t (11))) .none), (.mk (.some (15)) (.load .false .false (1) [(.some .i64)] (.t (14))) .none), (.mk (.some (16)) (.un .neg (.t (15))) .none), (.mk (.some (17)) (.mv (.t (1))) .none), (.mk (.some (18)) (.bin .add (.t (17)) (.c (.int .i64 (1)))) .none), (.mk (.some (19)) (.fld (2) (.t (2))) .none), (.mk (.some (20)) (.ixA (7) (7) (.t (19)) (.t (18))) .none), (.mk (.some (21)) (.ixA (7) (1) (.t (20)) (.c (.int .i64 (0)))) .none), (.mk (.some (22)) (.load .false .false (1) [(.some .i64)] (.t (21))) .none), (.mk (.some (23)) (.call .false .false (.f (53)) [(.t (16)), (.t (22))]) .none), (.mk .none (.store .false (2) (.t (4)) (.t (23))) .none)]) .ret)))⟩

theorem F29_ok : sfn Try.prog hints 29 [] = some F29 := by kernel_rfl

abbrev X29_0 (a0_2 : List Cell) (a1 : Int) := (ofP (IntKind.i64.wrap (0 - intC (a0_2.getD ((IntKind.i64.wrap (a1 + 1)).toNat * 1) Cell.dead))) (intC (a0_2.getD (0 + (IntKind.i64.wrap (a1 + 1)).toNat * 7) Cell.dead)))

theorem E29 (a0_0 : Int) (a0_1 : Bool) (a0_2 : List Cell) (a1 : Int) (R : Ret → Prop) : wpFO cx29 F29 (.two .e .e) [(.agg ((.v (.int .i64 a0_0)) :: (.v (.bool a0_1)) :: a0_2)), (.one (.v (.int .i64 a1)))] R = (bif a0_2.length + 2 == 51 then (bif a0_2.all plainC && true && (a0_2.all (isInt IntKind.i64) && a0_2.length == 49 && true) && true && true && true && true && true then (bif !varP a0_0 a0_1 a1 then (R (Ret.mk (.agg [(.v (.int .i64 (1))), (.v (.int .i64 (0)))]) [])) else (bif decide (0 ≤ IntKind.i64.wrap (a1 + 1)) && decide (IntKind.i64.wrap (a1 + 1) < 7) then (bif decide ((IntKind.i64.wrap (a1 + 1)).toNat * 1 + 3 ≤ a0_2.length + 2) && okK (some IntKind.i64) (a0_2.getD ((IntKind.i64.wrap (a1 + 1)).toNat * 1) Cell.dead) then (bif decide (0 ≤ IntKind.i64.wrap (a1 + 1)) && decide (IntKind.i64.wrap (a1 + 1) < 7) then (bif decide (0 + (IntKind.i64.wrap (a1 + 1)).toNat * 7 + 3 ≤ a0_2.length + 2) && okK (some IntKind.i64) (a0_2.getD (0 + (IntKind.i64.wrap (a1 + 1)).toNat * 7) Cell.dead) then (R (Ret.mk (.agg [(.v (.int .i64 ((X29_0 a0_2 a1).fst))), (.v (.int .i64 ((X29_0 a0_2 a1).snd)))]) [])) else False) else False) else False) else False)) else False) else False) := by kernel_rfl

def f29_wp (a0_0 : Int) (a0_1 : Bool) (a0_2 : List Cell) (a1 : Int) (R : Ret → Prop) : Prop := bif a0_2.length + 2 == 51 then (bif a0_2.all plainC && true && (a0_2.all (isInt IntKind.i64) && a0_2.length == 49 && true) && true && true && true && true && true then (bif !varP a0_0 a0_1 a1 then (R (Ret.mk (.agg [(.v (.int .i64 (1))), (.v (.int .i64 (0)))]) [])) else (bif decide (0 ≤ IntKind.i64.wrap (a1 + 1)) && decide (IntKind.i64.wrap (a1 + 1) < 7) then (bif decide ((IntKind.i64.wrap (a1 + 1)).toNat * 1 + 3 ≤ a0_2.length + 2) && okK (some IntKind.i64) (a0_2.getD ((IntKind.i64.wrap (a1 + 1)).toNat * 1) Cell.dead) then (bif decide (0 + (IntKind.i64.wrap (a1 + 1)).toNat * 7 + 3 ≤ a0_2.length + 2) && okK (some IntKind.i64) (a0_2.getD (0 + (IntKind.i64.wrap (a1 + 1)).toNat * 7) Cell.dead) then (R (Ret.mk (.agg [(.v (.int .i64 ((X29_0 a0_2 a1).fst))), (.v (.int .i64 ((X29_0 a0_2 a1).snd)))]) [])) else False) else False) else False)) else False) else False

set_option maxRecDepth 100000 in
theorem f29_sound (a0_0 : Int) (a0_1 : Bool) (a0_2 : List Cell) (a1 : Int) (hC : CtxOk Try.prog cx29.q.ctx) {r : Ret} (h : f29_wp a0_0 a0_1 a0_2 a1 (fun r' => r' = r)) : SoundAt Try.prog 29 [(.agg ((.v (.int .i64 a0_0)) :: (.v (.bool a0_1)) :: a0_2)), (.one (.v (.int .i64 a1)))] r := by
  refine soundAtO (C := cx29) (oc := (.two .e .e)) mixed hC F29_ok ?_
  rewrite [E29 a0_0 a0_1 a0_2 a1]
  unfold f29_wp at h
  refine ck_mapE h (fun q1 h => ?_)
  refine ck_mapE h (fun q2 h => ?_)
  refine cond_mapE h (fun q3 h => ?_) (fun q3 h => ?_)
  · skip
    exact h
  · skip
    refine ck_mapE h (fun q4 h => ?_)
    refine ck_mapE h (fun q5 h => ?_)
    refine ck_i q4 ?_
    refine ck_mapE h (fun q6 h => ?_)
    exact h


def cx92 : CtxW := ⟨⟨[], []⟩, 16, []⟩


def F92 : SFn := ⟨12, [(.tmp (4))], (.seq (.reg [(.mk (.some (4)) (.mv (.c (.int .i64 (0)))) .none)]) (.seq (.seq (.reg [(.mk (.some (5)) (.mv (.t (1))) .none), (.mk (.some (6)) (.bin .eql (.t (5)) (.c (.int .i64 (0)))) .none)]) (.cond (.t (6)) (.seq (.reg [(.mk (.some (4)) (.mv (.c (.int .i64 (0)))) .none)]) .ret) .skip)) (.seq (.reg [(.mk (.some (7)) (.mv (.t (0))) .none), (.mk (.some (8)) (.mv (.t (1))) .none), (.mk (.some (9)) (.bin .sub (.t (8)) (.c (.int .i64 (1)))) .none), (.mk (.some (10)) (.ixS (1) (.t (7)) (.t (9))) .none), (.mk (.some (11)) (.load .true .false (1) [(.some .i64)] (.t (10))) .none), (.mk (.some (4)) (.mv (.t (11))) .none)]) .ret)))⟩

theorem F92_ok : sfn Try.prog hints 92 [] = some F92 := by kernel_rfl

theorem E92 (a0n : Nat) (a0 : List Cell) (a1 : Int) (R : Ret → Prop) : wpFO cx92 F92 (.two .e .e) [(.one (.sl a0n a0)), (.one (.v (.int .i64 a1)))] R = (bif a1 == 0 then (R (Ret.mk (.one (.v (.int .i64 (0)))) [])) else (bif decide (0 ≤ IntKind.i64.wrap (a1 - 1)) && decide (IntKind.i64.wrap (a1 - 1) < (↑a0n : Int)) && decide ((IntKind.i64.wrap (a1 - 1)).toNat * 1 < a0.length) then (bif decide ((IntKind.i64.wrap (a1 - 1)).toNat * 1 + 1 ≤ a0.length) && okK (some IntKind.i64) (a0.getD ((IntKind.i64.wrap (a1 - 1)).toNat * 1) Cell.dead) then (R (Ret.mk (.one (.v (.int .i64 (intC (a0.getD ((IntKind.i64.wrap (a1 - 1)).toNat * 1) Cell.dead))))) [])) else False) else False)) := by kernel_rfl

def f92_wp (a0n : Nat) (a0 : List Cell) (a1 : Int) (R : Ret → Prop) : Prop := bif a1 == 0 then (R (Ret.mk (.one (.v (.int .i64 (0)))) [])) else (bif decide (0 ≤ IntKind.i64.wrap (a1 - 1)) && decide (IntKind.i64.wrap (a1 - 1) < (↑a0n : Int)) && decide ((IntKind.i64.wrap (a1 - 1)).toNat * 1 < a0.length) then (bif decide ((IntKind.i64.wrap (a1 - 1)).toNat * 1 + 1 ≤ a0.length) && okK (some IntKind.i64) (a0.getD ((IntKind.i64.wrap (a1 - 1)).toNat * 1) Cell.dead) then (R (Ret.mk (.one (.v (.int .i64 (intC (a0.getD ((IntKind.i64.wrap (a1 - 1)).toNat * 1) Cell.dead))))) [])) else False) else False)

set_option maxRecDepth 100000 in
theorem f92_sound (a0n : Nat) (a0 : List Cell) (a1 : Int) (hC : CtxOk Try.prog cx92.q.ctx) {r : Ret} (h : f92_wp a0n a0 a1 (fun r' => r' = r)) : SoundAt Try.prog 92 [(.one (.sl a0n a0)), (.one (.v (.int .i64 a1)))] r := by
  refine soundAtO (C := cx92) (oc := (.two .e .e)) mixed hC F92_ok ?_
  rewrite [E92 a0n a0 a1]
  unfold f92_wp at h
  refine cond_mapE h (fun q1 h => ?_) (fun q1 h => ?_)
  · skip
    exact h
  · skip
    refine ck_mapE h (fun q2 h => ?_)
    refine ck_mapE h (fun q3 h => ?_)
    exact h


def cx38 : CtxW := ⟨⟨[(91, sum91), (92, sum92)], []⟩, 2, []⟩


def F38_b1 : SC := (.seq (.seq (.reg [(.mk (.some (39)) (.mv (.t (7))) .none), (.mk (.some (40)) (.fld (0) (.t (2))) .none), (.mk (.some (41)) (.load .false .false (1) [(.some .i64)] (.t (40))) .none), (.mk (.some (42)) (.bin .leq (.t (39)) (.t (41))) .none)]) (.cond (.t (42)) .skip (.exit (2)))) (.seq (.blk 3 (.seq (.reg [(.mk (.some (45)) (.mv (.t (1))) .none), (.mk (.some (46)) (.mv (.t (7))) .none), (.mk (.some (47)) (.call .false .false (.f (92)) [(.t (45)), (.t (46))]) .none), (.mk (.some (8)) (.mv (.t (47))) .none)]) (.seq (.reg [(.mk (.some (48)) (.mv (.t (8))) .none), (.mk (.some (49)) (.bin .lss (.t (48)) (.c (.int .i64 (-2147483648)))) .none), (.mk (.some (50)) (.mv (.t (49))) .none), (.mk (.some (51)) (.mv (.t (8))) (.some ((50), .false))), (.mk (.some (52)) (.bin .gtr (.t (51)) (.c (.int .i64 (2147483647)))) (.some ((50), .false))), (.mk (.some (53)) (.pick (.t (50)) (.c (.bool .true)) (.t (52))) .none), (.mk (.some (54)) (.mv (.t (53))) .none), (.mk (.some (55)) (.mv (.t (6))) (.some ((54), .false))), (.mk (.some (56)) (.mv (.t (8))) (.some ((54), .false))), (.mk (.some (57)) (.bin .sub (.t (55)) (.t (56))) (.some ((54), .false))), (.mk (.some (58)) (.mv (.t (5))) (.some ((54), .false))), (.mk (.some (59)) (.mv (.t (7))) (.some ((54), .false))), (.mk (.some (60)) (.fld (2) (.t (2))) (.some ((54), .false))), (.mk (.some (61)) (.ixA (7) (7) (.t (60)) (.t (58))) (.some ((54), .false))), (.mk (.some (62)) (.ixA (7) (1) (.t (61)) (.t (59))) (.some ((54), .false))), (.mk (.some (63)) (.load .false .false (1) [(.some .i64)] (.t (62))) (.some ((54), .false))), (.mk (.some (64)) (.bin .gtr (.t (57)) (.t (63))) (.some ((54), .false))), (.mk (.some (65)) (.pick (.t (54)) (.c (.bool .true)) (.t (64))) .none)]) (.cond (.t (65)) (.seq (.reg [(.mk (.some (4)) (.mv (.c (.bool .false))) .none)]) .ret) .skip)))) (.reg [(.mk (.some (43)) (.mv (.t (7))) .none), (.mk (.some (44)) (.bin .add (.t (43)) (.c (.int .i64 (1)))) .none), (.mk (.some (7)) (.mv (.t (44))) .none)])))

def F38_c2 : SC := (.reg [(.mk (.some (28)) (.mv (.t (5))) .none), (.mk (.some (29)) (.bin .add (.t (28)) (.c (.int .i64 (1)))) .none), (.mk (.some (5)) (.mv (.t (29))) .none)])

def F38_b0 : SC := (.seq (.seq (.reg [(.mk (.some (24)) (.mv (.t (5))) .none), (.mk (.some (25)) (.fld (0) (.t (2))) .none), (.mk (.some (26)) (.load .false .false (1) [(.some .i64)] (.t (25))) .none), (.mk (.some (27)) (.bin .leq (.t (24)) (.t (26))) .none)]) (.cond (.t (27)) .skip (.exit (0)))) (.seq (.blk 1 (.seq (.reg [(.mk (.some (30)) (.mv (.t (1))) .none), (.mk (.some (31)) (.mv (.t (5))) .none), (.mk (.some (32)) (.call .false .false (.f (92)) [(.t (30)), (.t (31))]) .none), (.mk (.some (6)) (.mv (.t (32))) .none)]) (.seq (.seq (.reg [(.mk (.some (33)) (.mv (.t (6))) .none), (.mk (.some (34)) (.bin .lss (.t (33)) (.c (.int .i64 (-2147483648)))) .none), (.mk (.some (35)) (.mv (.t (34))) .none), (.mk (.some (36)) (.mv (.t (6))) (.some ((35), .false))), (.mk (.some (37)) (.bin .gtr (.t (36)) (.c (.int .i64 (2147483647)))) (.some ((35), .false))), (.mk (.some (38)) (.pick (.t (35)) (.c (.bool .true)) (.t (37))) .none)]) (.cond (.t (38)) (.seq (.reg [(.mk (.some (4)) (.mv (.c (.bool .false))) .none)]) .ret) .skip)) (.seq (.reg [(.mk (.some (7)) (.mv (.c (.int .i64 (0)))) .none)]) (.blk 2 (.loop [1, 2, 5, 6, 7] [2] [] F38_b1)))))) F38_c2))

def F38_c3 : SC := (.seq (.reg [(.mk (.some (4)) (.mv (.c (.bool .true))) .none)]) .ret)

def F38 : SFn := ⟨66, [(.tmp (4))], (.seq (.reg [(.mk (.some (2)) (.box (.t (0))) .none), (.mk (.some (4)) (.mv (.c (.bool .false))) .none)]) (.seq (.seq (.reg [(.mk (.some (9)) (.fld (1) (.t (2))) .none), (.mk (.some (10)) (.load .false .false (1) [.none] (.t (9))) .none), (.mk (.some (11)) (.mv (.t (10))) .none), (.mk (.some (12)) (.fld (0) (.t (2))) (.some ((11), .false))), (.mk (.some (13)) (.load .false .false (1) [(.some .i64)] (.t (12))) (.some ((11), .false))), (.mk (.some (14)) (.call .false .false (.f (91)) [(.t (13))]) (.some ((11), .false))), (.mk (.some (15)) (.un .not (.t (14))) (.some ((11), .false))), (.mk (.some (16)) (.pick (.t (11)) (.c (.bool .true)) (.t (15))) .none), (.mk (.some (17)) (.mv (.t (16))) .none), (.mk (.some (18)) (.mv (.t (1))) (.some ((17), .false))), (.mk (.some (19)) (.len (.t (18))) (.some ((17), .false))), (.mk (.some (20)) (.fld (0) (.t (2))) (.some ((17), .false))), (.mk (.some (21)) (.load .false .false (1) [(.some .i64)] (.t (20))) (.some ((17), .false))), (.mk (.some (22)) (.bin .neq (.t (19)) (.t (21))) (.some ((17), .false))), (.mk (.some (23)) (.pick (.t (17)) (.c (.bool .true)) (.t (22))) .none)]) (.cond (.t (23)) (.seq (.reg [(.mk (.some (4)) (.mv (.c (.bool .false))) .none)]) .ret) .skip)) (.seq (.seq (.reg [(.mk (.some (5)) (.mv (.c (.int .i64 (0)))) .none)]) (.blk 0 (.loop [1, 2, 5] [2] [] F38_b0))) F38_c3)))⟩

theorem F38_ok : sfn Try.prog hints 38 [([1, 2, 5], ([2], [])), ([1, 2, 5, 6, 7], ([2], []))] = some F38 := by kernel_rfl

def I38_0_0 (a0_0 : Int) (a0_1 : Bool) (a0_2 : List Cell) (a1n : Nat) (a1 : List Cell) (y0_0 : Int) : St := (.mk [.no, (.one (.sl (a1n) (a1))), (.box (2) (0) (0)), .no, .no, (.one (.v (.int .i64 (y0_0)))), .no, .no, .no, .no, .no, .no, .no, .no, .no, .no, .no, .no, .no, .no, .no, .no, .no, .no, .no, .no, .no, .no, .no, .no, .no, .no, .no, .no, .no, .no, .no, .no, .no, .no, .no, .no, .no, .no, .no, .no, .no, .no, .no, .no, .no, .no, .no, .no, .no, .no, .no, .no, .no, .no, .no, .no, .no, .no, .no, .no] [[], [], [((.v (.int .i64 (a0_0))) :: (.v (.bool (a0_1))) :: (a0_2))], [], [], [], [], [], [], [], [], [], [], [], [], [], [], [], [], [], [], [], [], [], [], [], [], [], [], [], [], [], [], [], [], [], [], [], [], [], [], [], [], [], [], [], [], [], [], [], [], [], [], [], [], [], [], [], [], [], [], [], [], [], [], []] [[], [], [], [], [], [], [], [], [], [], [], [], [], [], [], [], [], [], [], [], [], [], [], [], [], [], [], [], [], [], [], [], [], [], [], [], [], [], [], [], [], [], [], [], [], [], [], [], [], [], [], [], [], [], [], [], [], [], [], [], [], [], [], [], [], []])

def I38_3_0 (a0_0 : Int) (a0_1 : Bool) (a0_2 : List Cell) (a1n : Nat) (a1 : List Cell) (y0_0 : Int) (y3_0 : Int) : St := (.mk [.no, (.one (.sl (a1n) (a1))), (.box (2) (0) (0)), .no, .no, (.one (.v (.int .i64 (y0_0)))), (.one (.v (.int .i64 (atP (List.map intC a1) y0_0)))), (.one (.v (.int .i64 (y3_0)))), .no, .no, .no, .no, .no, .no, .no, .no, .no, .no, .no, .no, .no, .no, .no, .no, .no, .no, .no, .no, .no, .no, .no, .no, .no, .no, .no, .no, .no, .no, .no, .no, .no, .no, .no, .no, .no, .no, .no, .no, .no, .no, .no, .no, .no, .no, .no, .no, .no, .no, .no, .no, .no, .no, .no, .no, .no, .no] [[], [], [((.v (.int .i64 (a0_0))) :: (.v (.bool (a0_1))) :: (a0_2))], [], [], [], [], [], [], [], [], [], [], [], [], [], [], [], [], [], [], [], [], [], [], [], [], [], [], [], [], [], [], [], [], [], [], [], [], [], [], [], [], [], [], [], [], [], [], [], [], [], [], [], [], [], [], [], [], [], [], [], [], [], [], []] [[], [], [], [], [], [], [], [], [], [], [], [], [], [], [], [], [], [], [], [], [], [], [], [], [], [], [], [], [], [], [], [], [], [], [], [], [], [], [], [], [], [], [], [], [], [], [], [], [], [], [], [], [], [], [], [], [], [], [], [], [], [], [], [], [], []])

theorem E38_0_0 (a0_0 : Int) (a0_1 : Bool) (a0_2 : List Cell) (a1n : Nat) (a1 : List Cell) (y0_0 : Int) (N0 : Bool × St → Prop) (R : Ret → Prop) : wpO cx38 F38_b0 (.two (.two (.n 1 .e) (.n 0 (.two .e .e))) .e) (I38_0_0 a0_0 a0_1 a0_2 a1n a1 y0_0) (kLp (headW cx38.m [1, 2, 5] [2] []) N0 (kBlk 0 (kSeq cx38 F38_c3 (endO cx38.m F38.rs R)))) = (bif decide (y0_0 ≤ a0_0) then (bif okRowU 1 (Cell.sl a1n a1) && true && decide (0 ≤ y0_0) && decide (y0_0 ≤ (↑a1n : Int)) && decide (y0_0 ≤ 6) && true && true && true && true && true then (bif decide (atP (List.map intC a1) y0_0 < -2147483648) then (R (Ret.mk (.one (.v (.bool .false))) [])) else (bif decide (atP (List.map intC a1) y0_0 > 2147483647) then (R (Ret.mk (.one (.v (.bool .false))) [])) else (LoopO (bodyX cx38 F38_b1) (headW cx38.m [1, 2, 5, 6, 7] [2] []) (kBlk 2 (kBlk 1 (kSeq cx38 F38_c2 (kLp (headW cx38.m [1, 2, 5] [2] []) N0 (kBlk 0 (kSeq cx38 F38_c3 (endO cx38.m F38.rs R))))))) (a0_2.all plainC && true && true, (I38_3_0 a0_0 a0_1 a0_2 a1n a1 y0_0 (0)))))) else False) else (R (Ret.mk (.one (.v (.bool .true))) []))) := by kernel_rfl

theorem E38_3_0 (a0_0 : Int) (a0_1 : Bool) (a0_2 : List Cell) (a1n : Nat) (a1 : List Cell) (y0_0 : Int) (y3_0 : Int) (N0 : Bool × St → Prop) (N3 : Bool × St → Prop) (R : Ret → Prop) : wpO cx38 F38_b1 (.two (.two (.n 11 .e) (.n 0 (.two (.n 9 .e) (.n 8 (.two .e .e))))) .e) (I38_3_0 a0_0 a0_1 a0_2 a1n a1 y0_0 y3_0) (kLp (headW cx38.m [1, 2, 5, 6, 7] [2] []) N3 (kBlk 2 (kBlk 1 (kSeq cx38 F38_c2 (kLp (headW cx38.m [1, 2, 5] [2] []) N0 (kBlk 0 (kSeq cx38 F38_c3 (endO cx38.m F38.rs R)))))))) = (bif decide (y3_0 ≤ a0_0) then (bif okRowU 1 (Cell.sl a1n a1) && true && decide (0 ≤ y3_0) && decide (y3_0 ≤ (↑a1n : Int)) && decide (y3_0 ≤ 6) && true && true && true && true && true then (bif decide (atP (List.map intC a1) y3_0 < -2147483648) then (R (Ret.mk (.one (.v (.bool .false))) [])) else (bif decide (atP (List.map intC a1) y3_0 > 2147483647) then (R (Ret.mk (.one (.v (.bool .false))) [])) else (bif decide (0 ≤ y0_0) && decide (y0_0 < 7) then (bif decide (0 ≤ y3_0) && decide (y3_0 < 7) then (bif decide (y3_0.toNat * 1 + y0_0.toNat * 7 + 3 ≤ a0_2.length + 2) && okK (some IntKind.i64) (a0_2.getD (y3_0.toNat * 1 + y0_0.toNat * 7) Cell.dead) then (bif decide (IntKind.i64.wrap (atP (List.map intC a1) y0_0 - atP (List.map intC a1) y3_0) > intC (a0_2.getD (y3_0.toNat * 1 + y0_0.toNat * 7) Cell.dead)) then (R (Ret.mk (.one (.v (.bool .false))) [])) else (N3 (a0_2.all plainC && true && true, (I38_3_0 a0_0 a0_1 a0_2 a1n a1 y0_0 (IntKind.i64.wrap (y3_0 + 1)))))) else False) else False) else False))) else False) else (N0 (a0_2.all plainC && true && true, (I38_0_0 a0_0 a0_1 a0_2 a1n a1 (IntKind.i64.wrap (y0_0 + 1)))))) := by kernel_rfl

theorem E38 (a0_0 : Int) (a0_1 : Bool) (a0_2 : List Cell) (a1n : Nat) (a1 : List Cell) (R : Ret → Prop) : wpFO cx38 F38 (.two (.n 8 .e) (.n 2 (.two (.n 4 .e) (.n 3 (.two .e .e))))) [(.agg ((.v (.int .i64 a0_0)) :: (.v (.bool a0_1)) :: a0_2)), (.one (.sl a1n a1))] R = (bif a0_1 then (R (Ret.mk (.one (.v (.bool .false))) [])) else (bif !okN a0_0 then (R (Ret.mk (.one (.v (.bool .false))) [])) else (bif (↑a1n : Int) != a0_0 then (R (Ret.mk (.one (.v (.bool .false))) [])) else (LoopO (bodyX cx38 F38_b0) (headW cx38.m [1, 2, 5] [2] []) (kBlk 0 (kSeq cx38 F38_c3 (endO cx38.m F38.rs R))) (a0_2.all plainC && true && true, (I38_0_0 a0_0 a0_1 a0_2 a1n a1 (0))))))) := by kernel_rfl

def f38_wp (a0_0 : Int) (a0_1 : Bool) (a0_2 : List Cell) (a1n : Nat) (a1 : List Cell) (R : Ret → Prop) : Prop := bif a0_1 then (R (Ret.mk (.one (.v (.bool .false))) [])) else (bif !okN a0_0 then (R (Ret.mk (.one (.v (.bool .false))) [])) else (bif (↑a1n : Int) != a0_0 then (R (Ret.mk (.one (.v (.bool .false))) [])) else ((a0_2.all plainC && true && true) = true ∧ LoopP (fun (z0 : (Int)) (k0 : (Int) → Prop) => (fun (z : Int) => (fun (y0_0 : Int) => bif decide (y0_0 ≤ a0_0) then (bif okRowU 1 (Cell.sl a1n a1) && true && decide (0 ≤ y0_0) && decide (y0_0 ≤ (↑a1n : Int)) && decide (y0_0 ≤ 6) && true && true && true && true && true then (bif decide (atP (List.map intC a1) y0_0 < -2147483648) then (R (Ret.mk (.one (.v (.bool .false))) [])) else (bif decide (atP (List.map intC a1) y0_0 > 2147483647) then (R (Ret.mk (.one (.v (.bool .false))) [])) else ((a0_2.all plainC && true && true) = true ∧ LoopP (fun (z3 : (Int)) (k3 : (Int) → Prop) => (fun (z : Int) => (fun (y3_0 : Int) => bif decide (y3_0 ≤ a0_0) then (bif okRowU 1 (Cell.sl a1n a1) && true && decide (0 ≤ y3_0) && decide (y3_0 ≤ (↑a1n : Int)) && decide (y3_0 ≤ 6) && true && true && true && true && true then (bif decide (atP (List.map intC a1) y3_0 < -2147483648) then (R (Ret.mk (.one (.v (.bool .false))) [])) else (bif decide (atP (List.map intC a1) y3_0 > 2147483647) then (R (Ret.mk (.one (.v (.bool .false))) [])) else (bif decide (0 ≤ y0_0) && decide (y0_0 < 7) then (bif decide (0 ≤ y3_0) && decide (y3_0 < 7) then (bif decide (y3_0.toNat * 1 + y0_0.toNat * 7 + 3 ≤ a0_2.length + 2) && okK (some IntKind.i64) (a0_2.getD (y3_0.toNat * 1 + y0_0.toNat * 7) Cell.dead) then (bif decide (IntKind.i64.wrap (atP (List.map intC a1) y0_0 - atP (List.map intC a1) y3_0) > intC (a0_2.getD (y3_0.toNat * 1 + y0_0.toNat * 7) Cell.dead)) then (R (Ret.mk (.one (.v (.bool .false))) [])) else ((a0_2.all plainC && true && true) = true ∧ k3 (IntKind.i64.wrap (y3_0 + 1)))) else False) else False) else False))) else False) else ((a0_2.all plainC && true && true) = true ∧ k0 (IntKind.i64.wrap (y0_0 + 1)))) z) z3) (0)))) else False) else (R (Ret.mk (.one (.v (.bool .true))) []))) z) z0) (0))))

set_option maxRecDepth 100000 in
theorem f38_sound (a0_0 : Int) (a0_1 : Bool) (a0_2 : List Cell) (a1n : Nat) (a1 : List Cell) (hC : CtxOk Try.prog cx38.q.ctx) {r : Ret} (h : f38_wp a0_0 a0_1 a0_2 a1n a1 (fun r' => r' = r)) : SoundAt Try.prog 38 [(.agg ((.v (.int .i64 a0_0)) :: (.v (.bool a0_1)) :: a0_2)), (.one (.sl a1n a1))] r := by
  refine soundAtO (C := cx38) (oc := (.two (.n 8 .e) (.n 2 (.two (.n 4 .e) (.n 3 (.two .e .e)))))) mixed hC F38_ok ?_
  rewrite [E38 a0_0 a0_1 a0_2 a1n a1]
  unfold f38_wp at h
  refine cond_mapE h (fun q1 h => ?_) (fun q1 h => ?_)
  · skip
    exact h
  · skip
    refine cond_mapE h (fun q2 h => ?_) (fun q2 h => ?_)
    · skip
      exact h
    · skip
      refine cond_mapE h (fun q3 h => ?_) (fun q3 h => ?_)
      · skip
        exact h
      · skip
        obtain ⟨q79, h⟩ := h
        refine loop_of (I := (fun (z : Int) => (I38_0_0 a0_0 a0_1 a0_2 a1n a1 z))) (fun z k0 h => ?_) h q79 rfl
        obtain ⟨y0_0, rfl⟩ : ∃ y, y = z := ⟨z, rfl⟩
        try dsimp only [sumE_l, sumE_r] at h
        refine bodyX_i (ob := (.two (.two (.n 1 .e) (.n 0 (.two .e .e))) .e)) ?_
        rewrite [E38_0_0 a0_0 a0_1 a0_2 a1n a1 y0_0]
        refine cond_mapE h (fun q51 h => ?_) (fun q51 h => ?_)
        · skip
          refine ck_mapE h (fun q52 h => ?_)
          refine cond_mapE h (fun q53 h => ?_) (fun q53 h => ?_)
          · skip
            exact h
          · skip
            refine cond_mapE h (fun q54 h => ?_) (fun q54 h => ?_)
            · skip
              exact h
            · skip
              obtain ⟨q78, h⟩ := h
              refine loop_of (I := (fun (z : Int) => (I38_3_0 a0_0 a0_1 a0_2 a1n a1 y0_0 z))) (fun z k3 h => ?_) h q78 rfl
              obtain ⟨y3_0, rfl⟩ : ∃ y, y = z := ⟨z, rfl⟩
              try dsimp only [sumE_l, sumE_r] at h
              refine bodyX_i (ob := (.two (.two (.n 11 .e) (.n 0 (.two (.n 9 .e) (.n 8 (.two .e .e))))) .e)) ?_
              rewrite [E38_3_0 a0_0 a0_1 a0_2 a1n a1 y0_0 y3_0]
              refine cond_mapE h (fun q68 h => ?_) (fun q68 h => ?_)
              · skip
                refine ck_mapE h (fun q69 h => ?_)
                refine cond_mapE h (fun q70 h => ?_) (fun q70 h => ?_)
                · skip
                  exact h
                · skip
                  refine cond_mapE h (fun q71 h => ?_) (fun q71 h => ?_)
                  · skip
                    exact h
                  · skip
                    refine ck_mapE h (fun q72 h => ?_)
                    refine ck_mapE h (fun q73 h => ?_)
                    refine ck_mapE h (fun q74 h => ?_)
                    refine cond_mapE h (fun q75 h => ?_) (fun q75 h => ?_)
                    · skip
                      exact h
                    · skip
                      obtain ⟨q76, h⟩ := h
                      exact again_i (y := (IntKind.i64.wrap (y3_0 + 1))) q76 h
              · skip
                obtain ⟨q77, h⟩ := h
                exact again_i (y := (IntKind.i64.wrap (y0_0 + 1))) q77 h
        · skip
          exact h


def cx96 : CtxW := ⟨⟨[(91, sum91)], []⟩, 2, []⟩


def F96 : SFn := ⟨15, [(.tmp (4))], (.seq (.reg [(.mk (.some (2)) (.box (.t (0))) .none), (.mk (.some (3)) (.box (.t (1))) .none), (.mk (.some (4)) (.mv (.c (.bool .false))) .none)]) (.seq (.reg [(.mk (.some (5)) (.fld (0) (.t (2))) .none), (.mk (.some (6)) (.load .false .false (1) [(.some .i64)] (.t (5))) .none), (.mk (.some (7)) (.fld (0) (.t (3))) .none), (.mk (.some (8)) (.load .false .false (1) [(.some .i64)] (.t (7))) .none), (.mk (.some (9)) (.bin .eql (.t (6)) (.t (8))) .none), (.mk (.some (10)) (.mv (.t (9))) .none), (.mk (.some (11)) (.fld (0) (.t (2))) (.some ((10), .true))), (.mk (.some (12)) (.load .false .false (1) [(.some .i64)] (.t (11))) (.some ((10), .true))), (.mk (.some (13)) (.call .false .false (.f (91)) [(.t (12))]) (.some ((10), .true))), (.mk (.some (14)) (.pick (.t (10)) (.t (13)) (.c (.bool .false))) .none), (.mk (.some (4)) (.mv (.t (14))) .none)]) .ret))⟩

theorem F96_ok : sfn Try.prog hints 96 [] = some F96 := by kernel_rfl

theorem E96 (a0_0 : Int) (a0_1 : Bool) (a0_2 : List Cell) (a1_0 : Int) (a1_1 : Bool) (a1_2 : List Cell) (R : Ret → Prop) : wpFO cx96 F96 (.two (.n 1 .e) (.n 1 .e)) [(.agg ((.v (.int .i64 a0_0)) :: (.v (.bool a0_1)) :: a0_2)), (.agg ((.v (.int .i64 a1_0)) :: (.v (.bool a1_1)) :: a1_2))] R = (bif a0_0 == a1_0 then (R (Ret.mk (.one (.v (.bool (okN a0_0)))) [])) else (R (Ret.mk (.one (.v (.bool .false))) []))) := by kernel_rfl

def f96_wp (a0_0 : Int) (a0_1 : Bool) (a0_2 : List Cell) (a1_0 : Int) (a1_1 : Bool) (a1_2 : List Cell) (R : Ret → Prop) : Prop := bif a0_0 == a1_0 then (R (Ret.mk (.one (.v (.bool (okN a0_0)))) [])) else (R (Ret.mk (.one (.v (.bool .false))) []))

set_option maxRecDepth 100000 in
theorem f96_sound (a0_0 : Int) (a0_1 : Bool) (a0_2 : List Cell) (a1_0 : Int) (a1_1 : Bool) (a1_2 : List Cell) (hC : CtxOk Try.prog cx96.q.ctx) {r : Ret} (h : f96_wp a0_0 a0_1 a0_2 a1_0 a1_1 a1_2 (fun r' => r' = r)) : SoundAt Try.prog 96 [(.agg ((.v (.int .i64 a0_0)) :: (.v (.bool a0_1)) :: a0_2)), (.agg ((.v (.int .i64 a1_0)) :: (.v (.bool a1_1)) :: a1_2))] r := by
  refine soundAtO (C := cx96) (oc := (.two (.n 1 .e) (.n 1 .e))) mixed hC F96_ok ?_
  rewrite [E96 a0_0 a0_1 a0_2 a1_0 a1_1 a1_2]
  unfold f96_wp at h
  refine cond_mapE h (fun q1 h => ?_) (fun q1 h => ?_)
  · skip
    exact h
  · skip
    exact h


def cx101 : CtxW := ⟨⟨[], []⟩, 16, []⟩


def F101 : SFn := ⟨8, [(.tmp (4))], (.seq (.reg [(.mk (.some (4)) (.mv (.c (.int .i64 (0)))) .none)]) (.seq (.reg [(.mk (.some (5)) (.mv (.t (0))) .none), (.mk (.some (6)) (.mv (.t (1))) .none), (.mk (.some (7)) (.mm .true [(.t (5)), (.t (6))]) .none), (.mk (.some (4)) (.mv (.t (7))) .none)]) .ret))⟩

theorem F101_ok : sfn Try.prog hints 101 [] = some F101 := by kernel_rfl

theorem E101 (a0 : Int) (a1 : Int) (R : Ret → Prop) : wpFO cx101 F101 .e [(.one (.v (.int .i64 a0))), (.one (.v (.int .i64 a1)))] R = (R (Ret.mk (.one (.v (.int .i64 (if a1 > a0 then a1 else a0)))) [])) := by kernel_rfl

def f101_wp (a0 : Int) (a1 : Int) (R : Ret → Prop) : Prop := R (Ret.mk (.one (.v (.int .i64 (if a1 > a0 then a1 else a0)))) [])

set_option maxRecDepth 100000 in
theorem f101_sound (a0 : Int) (a1 : Int) (hC : CtxOk Try.prog cx101.q.ctx) {r : Ret} (h : f101_wp a0 a1 (fun r' => r' = r)) : SoundAt Try.prog 101 [(.one (.v (.int .i64 a0))), (.one (.v (.int .i64 a1)))] r := by
  refine soundAtO (C := cx101) (oc := .e) mixed hC F101_ok ?_
  rewrite [E101 a0 a1]
  unfold f101_wp at h
  exact h


def cx102 : CtxW := ⟨⟨[], []⟩, 16, []⟩


def F102 : SFn := ⟨9, [(.tmp (4))], (.seq (.reg [(.mk (.some (4)) (.mv (.c (.int .i64 (0)))) .none)]) (.seq (.seq (.reg [(.mk (.some (5)) (.mv (.t (1))) .none), (.mk (.some (6)) (.mv (.t (0))) .none), (.mk (.some (7)) (.bin .gtr (.t (5)) (.t (6))) .none)]) (.cond (.t (7)) (.seq (.reg [(.mk (.some (4)) (.mv (.c (.int .i64 (1099511627776)))) .none)]) .ret) .skip)) (.seq (.reg [(.mk (.some (8)) (.mv (.t (0))) .none), (.mk (.some (4)) (.mv (.t (8))) .none)]) .ret)))⟩

theorem F102_ok : sfn Try.prog hints 102 [] = some F102 := by kernel_rfl

theorem E102 (a0 : Int) (a1 : Int) (R : Ret → Prop) : wpFO cx102 F102 (.two .e .e) [(.one (.v (.int .i64 a0))), (.one (.v (.int .i64 a1)))] R = (bif decide (a1 > a0) then (R (Ret.mk (.one (.v (.int .i64 (1099511627776)))) [])) else (R (Ret.mk (.one (.v (.int .i64 (a0)))) []))) := by kernel_rfl

def f102_wp (a0 : Int) (a1 : Int) (R : Ret → Prop) : Prop := bif decide (a1 > a0) then (R (Ret.mk (.one (.v (.int .i64 (1099511627776)))) [])) else (R (Ret.mk (.one (.v (.int .i64 (a0)))) []))

set_option maxRecDepth 100000 in
theorem f102_sound (a0 : Int) (a1 : Int) (hC : CtxOk Try.prog cx102.q.ctx) {r : Ret} (h : f102_wp a0 a1 (fun r' => r' = r)) : SoundAt Try.prog 102 [(.one (.v (.int .i64 a0))), (.one (.v (.int .i64 a1)))] r := by
  refine soundAtO (C := cx102) (oc := (.two .e .e)) mixed hC F102_ok ?_
  rewrite [E102 a0 a1]
  unfold f102_wp at h
  refine cond_mapE h (fun q1 h => ?_) (fun q1 h => ?_)
  · skip
    exact h
  · skip
    exact h


end Go.Proofs.Ytgmciihlmgeecaa.Fn
