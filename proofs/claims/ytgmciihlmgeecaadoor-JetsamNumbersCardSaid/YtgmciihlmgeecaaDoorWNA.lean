import Derived.Test.YtgmciihlmgeecaaDoorWZB

import Derived.Test.YtgmciihlmgeecaaDoorSpN

/- Functions of Nums, walked. No conditions beyond those named. -/

namespace Go.Proofs.YtgmciihlmgeecaaDoor.Fn

open Go Go.RowKit Go.Proofs Go.Proofs.YtgmciihlmgeecaaDoor.Mt Go.Proofs.YtgmciihlmgeecaaDoor.Zm

set_option linter.unusedVariables false

set_option linter.unusedSimpArgs false

def cx93 : CtxW := ⟨⟨[(11, sum29)], []⟩, 2, []⟩


def F93_b0 : SC := (.seq (.reg [(o1 14 (.bin .lss (.t 13) (.t 12)))]) (.seq (.cond (.t 14) .skip (.exit 0)) (.seq (.blk 1 (.seq (.reg [(o1 15 (.mv (.t 13))), (o1 4 (.mv (.t 15)))]) (.reg [(o1 16 (.fld 1 (.t 3))), (o1 17 (.load .false .false 1 [] (.t 16))), (o1 18 (.load .false .true 51 K51 (.t 1))), (o1 19 (.mv (.t 4))), (o1 20 (.call .false .false (.f 11) [(.t 18), (.t 19)])), (o1 21 (.buildS 34 2 1 [(.int .i64 0), (.int .i64 0)] [(0, (.t 20))])), (o1 22 (.app 34 2 16 [(.int .i64 0), (.int .i64 0)] (.t 17) (.t 21))), (o1 23 (.fld 1 (.t 3))), (oN (.store .false 1 (.t 23) (.t 22)))]))) (.reg [(o1 24 (.bin .add (.t 13) (.c (.int .i64 1)))), (o1 13 (.mv (.t 24)))]))))

def F93_c1 : SC := (.seq (.reg [(o1 25 (.load .false .true 53 [] (.t 3))), (oN (.store .false 53 (.t 2) (.t 25)))]) .ret)

def F93 : SFn := ⟨26, [(.cell 2 .true 53)], (.seq (.reg [(o1 1 (.box (.t 0))), (o1 2 (.alloc [(.bool .false), (.slice .none 0 0), (.int .i64 0), (.bool .false), (.int .i64 0), (.int .i64 0), (.int .i64 0), (.int .i64 0), (.int .i64 0), (.int .i64 0), (.int .i64 0), (.int .i64 0), (.int .i64 0), (.int .i64 0), (.int .i64 0), (.int .i64 0), (.int .i64 0), (.int .i64 0), (.int .i64 0), (.int .i64 0), (.int .i64 0), (.int .i64 0), (.int .i64 0), (.int .i64 0), (.int .i64 0), (.int .i64 0), (.int .i64 0), (.int .i64 0), (.int .i64 0), (.int .i64 0), (.int .i64 0), (.int .i64 0), (.int .i64 0), (.int .i64 0), (.int .i64 0), (.int .i64 0), (.int .i64 0), (.int .i64 0), (.int .i64 0), (.int .i64 0), (.int .i64 0), (.int .i64 0), (.int .i64 0), (.int .i64 0), (.int .i64 0), (.int .i64 0), (.int .i64 0), (.int .i64 0), (.int .i64 0), (.int .i64 0), (.int .i64 0), (.int .i64 0), (.int .i64 0)]))]) (.seq (.reg [(o1 5 (.fld 1 (.t 1))), (o1 6 (.load .false .false 1 [.none] (.t 5))), (o1 7 (.load .false .true 51 K51 (.t 1))), (o1 8 (.build [(.bool .false), (.slice .none 0 0), (.int .i64 0), (.bool .false), (.int .i64 0), (.int .i64 0), (.int .i64 0), (.int .i64 0), (.int .i64 0), (.int .i64 0), (.int .i64 0), (.int .i64 0), (.int .i64 0), (.int .i64 0), (.int .i64 0), (.int .i64 0), (.int .i64 0), (.int .i64 0), (.int .i64 0), (.int .i64 0), (.int .i64 0), (.int .i64 0), (.int .i64 0), (.int .i64 0), (.int .i64 0), (.int .i64 0), (.int .i64 0), (.int .i64 0), (.int .i64 0), (.int .i64 0), (.int .i64 0), (.int .i64 0), (.int .i64 0), (.int .i64 0), (.int .i64 0), (.int .i64 0), (.int .i64 0), (.int .i64 0), (.int .i64 0), (.int .i64 0), (.int .i64 0), (.int .i64 0), (.int .i64 0), (.int .i64 0), (.int .i64 0), (.int .i64 0), (.int .i64 0), (.int .i64 0), (.int .i64 0), (.int .i64 0), (.int .i64 0), (.int .i64 0), (.int .i64 0)] [(0, (1, (.t 6))), (2, (51, (.t 7)))])), (o1 3 (.alloc [(.bool .false), (.slice .none 0 0), (.int .i64 0), (.bool .false), (.int .i64 0), (.int .i64 0), (.int .i64 0), (.int .i64 0), (.int .i64 0), (.int .i64 0), (.int .i64 0), (.int .i64 0), (.int .i64 0), (.int .i64 0), (.int .i64 0), (.int .i64 0), (.int .i64 0), (.int .i64 0), (.int .i64 0), (.int .i64 0), (.int .i64 0), (.int .i64 0), (.int .i64 0), (.int .i64 0), (.int .i64 0), (.int .i64 0), (.int .i64 0), (.int .i64 0), (.int .i64 0), (.int .i64 0), (.int .i64 0), (.int .i64 0), (.int .i64 0), (.int .i64 0), (.int .i64 0), (.int .i64 0), (.int .i64 0), (.int .i64 0), (.int .i64 0), (.int .i64 0), (.int .i64 0), (.int .i64 0), (.int .i64 0), (.int .i64 0), (.int .i64 0), (.int .i64 0), (.int .i64 0), (.int .i64 0), (.int .i64 0), (.int .i64 0), (.int .i64 0), (.int .i64 0), (.int .i64 0)])), (oN (.store .false 53 (.t 3) (.t 8)))]) (.seq (.seq (.reg [(o1 9 (.fld 0 (.t 1))), (o1 10 (.load .false .false 1 [(.some .i64)] (.t 9))), (o1 11 (.mm .true [(.t 10), (.c (.int .i64 0))])), (o1 12 (.mm .false [(.t 11), (.c (.int .i64 6))])), (o1 13 (.mv (.c (.int .i64 0))))]) (.blk 0 (.loop [1, 2, 3, 12, 13] [1, 2, 3] [22] F93_b0))) F93_c1)))⟩

theorem F93_ok : sfn Tryd.prog hintsN 15 [([1, 2, 3, 12, 13], ([1, 2, 3], [22]))] = some F93 := by kernel_rfl

def I93_0_0 (a0_0 : Int) (a0_1 : Bool) (a0_2 : List Cell) : St := (.mk (.no :: ((.box 1 0 0) :: ((.box 2 0 0) :: ((.box 3 0 0) :: (.no :: (.no :: (.no :: (.no :: (.no :: (.no :: (.no :: (.no :: ((.one (.v (.int .i64 (if 6 < if 0 > a0_0 then 0 else a0_0 then 6 else if 0 > a0_0 then 0 else a0_0)))) :: ((.one (.v (.int .i64 0))) :: (n10 (.no :: (.no :: []))))))))))))))))) ([] :: ([((vi a0_0) :: (vb a0_1) :: (a0_2))] :: ([((.v (.bool .false)) :: (.v (.slice .none 0 0)) :: (.v (.int .i64 0)) :: (.v (.bool .false)) :: (List.replicate 49 (Cell.v (Value.int .i64 0))))] :: ([((vb a0_1) :: (.v (.slice .none 0 0)) :: (vi a0_0) :: (vb a0_1) :: (a0_2))] :: (e10 (e10 ([] :: ([] :: [])))))))) (e10 (e10 ([] :: ([] :: ([] :: ([] :: ([] :: ([] :: [])))))))))

def I93_0_1 (a0_0 : Int) (a0_1 : Bool) (a0_2 : List Cell) (y0m1_0 : Int) (y0m1_1 : Nat) (y0m1_2 : List Cell) : St := (.mk (.no :: ((.box 1 0 0) :: ((.box 2 0 0) :: ((.box 3 0 0) :: (.no :: (.no :: (.no :: (.no :: (.no :: (.no :: (.no :: (.no :: ((.one (.v (.int .i64 (if 6 < if 0 > a0_0 then 0 else a0_0 then 6 else if 0 > a0_0 then 0 else a0_0)))) :: ((.one (vi y0m1_0)) :: (n10 (.no :: (.no :: []))))))))))))))))) ([] :: ([((vi a0_0) :: (vb a0_1) :: (a0_2))] :: ([((.v (.bool .false)) :: (.v (.slice .none 0 0)) :: (.v (.int .i64 0)) :: (.v (.bool .false)) :: (List.replicate 49 (Cell.v (Value.int .i64 0))))] :: ([((vb a0_1) :: (.own 22 0) :: (vi a0_0) :: (vb a0_1) :: (a0_2))] :: (e10 (e10 ([] :: ([] :: [])))))))) (e10 (e10 ([] :: ([] :: ([(Tok.mk 34 2 (y0m1_1) (y0m1_2) .true)] :: ([] :: ([] :: ([] :: [])))))))))

theorem E93_0_0 (a0_0 : Int) (a0_1 : Bool) (a0_2 : List Cell) (N0 : Bool × St → Prop) (R : Ret → Prop) : wpO cx93 F93_b0 (.two .e .e) (I93_0_0 a0_0 a0_1 a0_2) (kLp (headW cx93.m [1, 2, 3, 12, 13] [1, 2, 3] [22]) N0 (kBlk 0 (kSeq cx93 F93_c1 (endO cx93.m F93.rs R)))) = (bif decide (0 < if 6 < if 0 > a0_0 then 0 else a0_0 then 6 else if 0 > a0_0 then 0 else a0_0) then (bif a0_2.length + 2 == 51 then (letV (itvZ (a0_0, a0_1, List.map intC a0_2) 0) (fun (u18 : Int × Int) => bif a0_2.all plainC && true && (a0_2.all (isInt .i64) && a0_2.length == 49 && true) && true && true && true && true && true then (N0 (a0_2.all plainC && true && (a0_2.all plainC && true && true), (I93_0_1 a0_0 a0_1 a0_2 1 1 ([Cell.v (Value.int .i64 u18.1), Cell.v (Value.int .i64 u18.2)])))) else False)) else False) else (bif a0_2.length + 4 == 53 then (bif a0_2.length + 4 == 53 && true && true then (bif a0_2.length + 4 == 53 && true then (bif a0_2.all plainC then (R (Ret.mk (.agg ((.v (.bool (a0_1))) :: (.v (.slice .none 0 0)) :: (.v (.int .i64 (a0_0))) :: (.v (.bool (a0_1))) :: (a0_2))) [])) else False) else False) else False) else False)) := by kernel_rfl

theorem E93_0_1 (a0_0 : Int) (a0_1 : Bool) (a0_2 : List Cell) (y0m1_0 : Int) (y0m1_1 : Nat) (y0m1_2 : List Cell) (N0 : Bool × St → Prop) (R : Ret → Prop) : wpO cx93 F93_b0 (.two .e .e) (I93_0_1 a0_0 a0_1 a0_2 y0m1_0 y0m1_1 y0m1_2) (kLp (headW cx93.m [1, 2, 3, 12, 13] [1, 2, 3] [22]) N0 (kBlk 0 (kSeq cx93 F93_c1 (endO cx93.m F93.rs R)))) = (bif decide (y0m1_0 < if 6 < if 0 > a0_0 then 0 else a0_0 then 6 else if 0 > a0_0 then 0 else a0_0) then (bif a0_2.length + 2 == 51 then (letV (itvZ (a0_0, a0_1, List.map intC a0_2) y0m1_0) (fun (u25 : Int × Int) => bif a0_2.all plainC && true && (a0_2.all (isInt .i64) && a0_2.length == 49 && true) && true && true && true && true && true then (bif decide ((y0m1_1 + 1) * 16 ≤ 140737488355328) && true && true && true && true && true then (N0 (a0_2.all plainC && true && (a0_2.all plainC && true && true), (I93_0_1 a0_0 a0_1 a0_2 (IntKind.i64.wrap (y0m1_0 + 1)) (y0m1_1 + 1) (y0m1_2 ++ [Cell.v (Value.int .i64 u25.1), Cell.v (Value.int .i64 u25.2)])))) else False) else False)) else False) else (bif a0_2.length + 4 == 53 then (bif a0_2.length + 4 == 53 && true && true then (bif a0_2.length + 4 == 53 && true then (bif a0_2.all plainC then (R (Ret.mk (.agg ((.v (.bool (a0_1))) :: (.own 0 0) :: (.v (.int .i64 (a0_0))) :: (.v (.bool (a0_1))) :: (a0_2))) [(Tok.mk 34 2 (y0m1_1) (y0m1_2) .true)])) else False) else False) else False) else False)) := by kernel_rfl

theorem E93 (a0_0 : Int) (a0_1 : Bool) (a0_2 : List Cell) (R : Ret → Prop) : wpFO cx93 F93 .e [(.agg ((.v (.int .i64 a0_0)) :: (.v (.bool a0_1)) :: a0_2))] R = (bif a0_2.length + 2 == 51 then (bif a0_2.length + 2 == 51 && true && true then (bif a0_2.length + 4 == 53 && true && true then (LoopO (bodyX cx93 F93_b0) (headW cx93.m [1, 2, 3, 12, 13] [1, 2, 3] [22]) (kBlk 0 (kSeq cx93 F93_c1 (endO cx93.m F93.rs R))) (a0_2.all plainC && true && (a0_2.all plainC && true && true), (I93_0_0 a0_0 a0_1 a0_2))) else False) else False) else False) := by kernel_rfl

def f93_wp (a0_0 : Int) (a0_1 : Bool) (a0_2 : List Cell) (R : Ret → Prop) : Prop := bif a0_2.length + 2 == 51 then (bif a0_2.length + 2 == 51 && true && true then (bif a0_2.length + 4 == 53 && true && true then ((a0_2.all plainC && true && (a0_2.all plainC && true && true)) = true ∧ LoopP (fun (z0 : (Unit) ⊕ (Int × Nat × (List Cell))) (k0 : (Unit) ⊕ (Int × Nat × (List Cell)) → Prop) => (sumE (fun (_ : Unit) => bif decide (0 < if 6 < if 0 > a0_0 then 0 else a0_0 then 6 else if 0 > a0_0 then 0 else a0_0) then (letV (itvZ (a0_0, a0_1, List.map intC a0_2) 0) (fun (u18 : Int × Int) => bif a0_2.all plainC && true && (a0_2.all (isInt .i64) && a0_2.length == 49 && true) && true && true && true && true && true then ((a0_2.all plainC && true && (a0_2.all plainC && true && true)) = true ∧ k0 (Sum.inr (1, 1, ([Cell.v (Value.int .i64 u18.1), Cell.v (Value.int .i64 u18.2)])))) else False)) else (bif a0_2.length + 4 == 53 then (bif a0_2.length + 4 == 53 && true then (bif a0_2.all plainC then (R (Ret.mk (.agg ((.v (.bool (a0_1))) :: (.v (.slice .none 0 0)) :: (.v (.int .i64 (a0_0))) :: (.v (.bool (a0_1))) :: (a0_2))) [])) else False) else False) else False)) (fun (z : Int × Nat × (List Cell)) => (fun (y0m1_0 : Int) (y0m1_1 : Nat) (y0m1_2 : List Cell) => bif decide (y0m1_0 < if 6 < if 0 > a0_0 then 0 else a0_0 then 6 else if 0 > a0_0 then 0 else a0_0) then (letV (itvZ (a0_0, a0_1, List.map intC a0_2) y0m1_0) (fun (u25 : Int × Int) => bif a0_2.all plainC && true && (a0_2.all (isInt .i64) && a0_2.length == 49 && true) && true && true && true && true && true then (bif decide ((y0m1_1 + 1) * 16 ≤ 140737488355328) && true && true && true && true && true then ((a0_2.all plainC && true && (a0_2.all plainC && true && true)) = true ∧ k0 (Sum.inr ((IntKind.i64.wrap (y0m1_0 + 1)), (y0m1_1 + 1), (y0m1_2 ++ [Cell.v (Value.int .i64 u25.1), Cell.v (Value.int .i64 u25.2)])))) else False) else False)) else (bif a0_2.length + 4 == 53 then (bif a0_2.length + 4 == 53 && true then (bif a0_2.all plainC then (R (Ret.mk (.agg ((.v (.bool (a0_1))) :: (.own 0 0) :: (.v (.int .i64 (a0_0))) :: (.v (.bool (a0_1))) :: (a0_2))) [(Tok.mk 34 2 (y0m1_1) (y0m1_2) .true)])) else False) else False) else False)) z.1 z.2.1 z.2.2)) z0) (Sum.inl ())) else False) else False) else False

set_option maxRecDepth 100000 in
theorem f93_sound (a0_0 : Int) (a0_1 : Bool) (a0_2 : List Cell) (hC : CtxOk Tryd.prog cx93.q.ctx) {r : Ret} (h : f93_wp a0_0 a0_1 a0_2 (fun r' => r' = r)) : SoundAt Tryd.prog 15 [(.agg ((.v (.int .i64 a0_0)) :: (.v (.bool a0_1)) :: a0_2))] r := by
  refine soundAtO (C := cx93) (oc := .e) mixed hC F93_ok ?_
  rewrite [E93 a0_0 a0_1 a0_2]
  unfold f93_wp at h
  refine ck_mapE h (fun q1 h => ck_mapE h (fun q2 h => ck_mapE h (fun q3 h => ?_)))
  obtain ⟨q32, h⟩ := h
  refine loop_of (I := (sumE (fun (z : Unit) => (I93_0_0 a0_0 a0_1 a0_2)) (fun (z : Int × Nat × (List Cell)) => (I93_0_1 a0_0 a0_1 a0_2 z.1 z.2.1 z.2.2)))) (fun z k0 h => ?_) h q32 rfl
  rcases z with z | z
  · skip
    skip
    try dsimp only [sumE_l, sumE_r] at h
    refine bodyX_i (ob := (.two .e .e)) ?_
    try dsimp only [sumE_l, sumE_r]
    rewrite [E93_0_0 a0_0 a0_1 a0_2 ]
    refine cond_mapE h (fun q17 h => ?_) (fun q17 h => ?_)
    · skip
      refine ck_i q1 (letV_mapE h (fun u18 h => ck_mapE h (fun q19 h => ?_)))
      obtain ⟨q20, h⟩ := h
      exact again_i (y := (Sum.inr (1, 1, ([Cell.v (Value.int .i64 u18.1), Cell.v (Value.int .i64 u18.2)])))) q20 h
    · skip
      refine ck_mapE h (fun q21 h => ck_i q3 (ck_mapE h (fun q23 h => ck_mapE h (fun q22 h => ?_))))
      exact h
  · skip
    obtain ⟨y0m1_0, y0m1_1, y0m1_2⟩ := z
    try dsimp only [sumE_l, sumE_r] at h
    refine bodyX_i (ob := (.two .e .e)) ?_
    try dsimp only [sumE_l, sumE_r]
    rewrite [E93_0_1 a0_0 a0_1 a0_2 y0m1_0 y0m1_1 y0m1_2]
    refine cond_mapE h (fun q24 h => ?_) (fun q24 h => ?_)
    · skip
      refine ck_i q1 (letV_mapE h (fun u25 h => ck_mapE h (fun q26 h => ck_mapE h (fun q27 h => ?_))))
      obtain ⟨q28, h⟩ := h
      exact again_i (y := (Sum.inr ((IntKind.i64.wrap (y0m1_0 + 1)), (y0m1_1 + 1), (y0m1_2 ++ [Cell.v (Value.int .i64 u25.1), Cell.v (Value.int .i64 u25.2)])))) q28 h
    · skip
      refine ck_mapE h (fun q29 h => ck_i q3 (ck_mapE h (fun q31 h => ck_mapE h (fun q30 h => ?_))))
      exact h


def cx57 : CtxW := ⟨⟨[(15, sum93)], []⟩, 2, []⟩


def F57 : SFn := ⟨8, [(.cell 2 .true 53)], (.seq (.reg [(o1 2 (.alloc [(.bool .false), (.slice .none 0 0), (.int .i64 0), (.bool .false), (.int .i64 0), (.int .i64 0), (.int .i64 0), (.int .i64 0), (.int .i64 0), (.int .i64 0), (.int .i64 0), (.int .i64 0), (.int .i64 0), (.int .i64 0), (.int .i64 0), (.int .i64 0), (.int .i64 0), (.int .i64 0), (.int .i64 0), (.int .i64 0), (.int .i64 0), (.int .i64 0), (.int .i64 0), (.int .i64 0), (.int .i64 0), (.int .i64 0), (.int .i64 0), (.int .i64 0), (.int .i64 0), (.int .i64 0), (.int .i64 0), (.int .i64 0), (.int .i64 0), (.int .i64 0), (.int .i64 0), (.int .i64 0), (.int .i64 0), (.int .i64 0), (.int .i64 0), (.int .i64 0), (.int .i64 0), (.int .i64 0), (.int .i64 0), (.int .i64 0), (.int .i64 0), (.int .i64 0), (.int .i64 0), (.int .i64 0), (.int .i64 0), (.int .i64 0), (.int .i64 0), (.int .i64 0), (.int .i64 0)]))]) (.seq (.reg [(o1 3 (.mv (.t 0))), (o1 4 (.mm .true [(.t 3), (.c (.int .i64 0))])), (o1 5 (.mm .false [(.t 4), (.c (.int .i64 6))])), (o1 6 (.build [(.int .i64 0), (.bool .false), (.int .i64 0), (.int .i64 0), (.int .i64 0), (.int .i64 0), (.int .i64 0), (.int .i64 0), (.int .i64 0), (.int .i64 0), (.int .i64 0), (.int .i64 0), (.int .i64 0), (.int .i64 0), (.int .i64 0), (.int .i64 0), (.int .i64 0), (.int .i64 0), (.int .i64 0), (.int .i64 0), (.int .i64 0), (.int .i64 0), (.int .i64 0), (.int .i64 0), (.int .i64 0), (.int .i64 0), (.int .i64 0), (.int .i64 0), (.int .i64 0), (.int .i64 0), (.int .i64 0), (.int .i64 0), (.int .i64 0), (.int .i64 0), (.int .i64 0), (.int .i64 0), (.int .i64 0), (.int .i64 0), (.int .i64 0), (.int .i64 0), (.int .i64 0), (.int .i64 0), (.int .i64 0), (.int .i64 0), (.int .i64 0), (.int .i64 0), (.int .i64 0), (.int .i64 0), (.int .i64 0), (.int .i64 0), (.int .i64 0)] [(0, (1, (.t 5))), (1, (1, (.c (.bool .true))))])), (o1 7 (.call .false .false (.f 15) [(.t 6)])), (oN (.store .false 53 (.t 2) (.t 7)))]) .ret))⟩

theorem F57_ok : sfn Tryd.prog hintsN 29 [] = some F57 := by kernel_rfl

theorem E57 (a0 : Int) (R : Ret → Prop) : wpFO cx57 F57 .e [(.one (.v (.int .i64 a0)))] R = (R (Ret.mk (.agg ((.v (.bool .true)) :: (.sl ((capN (if 6 < if 0 > a0 then 0 else a0 then 6 else if 0 > a0 then 0 else a0)).toNat) (ic .i64 (itvsZ (if 6 < if 0 > a0 then 0 else a0 then 6 else if 0 > a0 then 0 else a0, true, List.map intC (List.replicate 49 (Cell.v (Value.int .i64 0)))) (capN (if 6 < if 0 > a0 then 0 else a0 then 6 else if 0 > a0 then 0 else a0)).toNat))) :: (.v (.int .i64 (if 6 < if 0 > a0 then 0 else a0 then 6 else if 0 > a0 then 0 else a0))) :: (.v (.bool .true)) :: (List.replicate 49 (Cell.v (Value.int .i64 0))))) [])) := by kernel_rfl

def f57_wp (a0 : Int) (R : Ret → Prop) : Prop := R (Ret.mk (.agg ((.v (.bool .true)) :: (.sl ((capN (if 6 < if 0 > a0 then 0 else a0 then 6 else if 0 > a0 then 0 else a0)).toNat) (ic .i64 (itvsZ (if 6 < if 0 > a0 then 0 else a0 then 6 else if 0 > a0 then 0 else a0, true, List.map intC (List.replicate 49 (Cell.v (Value.int .i64 0)))) (capN (if 6 < if 0 > a0 then 0 else a0 then 6 else if 0 > a0 then 0 else a0)).toNat))) :: (.v (.int .i64 (if 6 < if 0 > a0 then 0 else a0 then 6 else if 0 > a0 then 0 else a0))) :: (.v (.bool .true)) :: (List.replicate 49 (Cell.v (Value.int .i64 0))))) [])

set_option maxRecDepth 100000 in
theorem f57_sound (a0 : Int) (hC : CtxOk Tryd.prog cx57.q.ctx) {r : Ret} (h : f57_wp a0 (fun r' => r' = r)) : SoundAt Tryd.prog 29 [(.one (.v (.int .i64 a0)))] r := by
  refine soundAtO (C := cx57) (oc := .e) mixed hC F57_ok ?_
  rewrite [E57 a0]
  unfold f57_wp at h
  exact h


def cx94 : CtxW := ⟨⟨[(28, sum44), (29, sum57), (30, sum26)], []⟩, 2, []⟩


def F94 : SFn := ⟨34, [(.cell 6 .true 51)], (.seq (.reg [(o1 3 (.box (.t 0))), (o1 5 (.box (.t 2))), (o1 6 (.alloc [(.int .i64 0), (.bool .false), (.int .i64 0), (.int .i64 0), (.int .i64 0), (.int .i64 0), (.int .i64 0), (.int .i64 0), (.int .i64 0), (.int .i64 0), (.int .i64 0), (.int .i64 0), (.int .i64 0), (.int .i64 0), (.int .i64 0), (.int .i64 0), (.int .i64 0), (.int .i64 0), (.int .i64 0), (.int .i64 0), (.int .i64 0), (.int .i64 0), (.int .i64 0), (.int .i64 0), (.int .i64 0), (.int .i64 0), (.int .i64 0), (.int .i64 0), (.int .i64 0), (.int .i64 0), (.int .i64 0), (.int .i64 0), (.int .i64 0), (.int .i64 0), (.int .i64 0), (.int .i64 0), (.int .i64 0), (.int .i64 0), (.int .i64 0), (.int .i64 0), (.int .i64 0), (.int .i64 0), (.int .i64 0), (.int .i64 0), (.int .i64 0), (.int .i64 0), (.int .i64 0), (.int .i64 0), (.int .i64 0), (.int .i64 0), (.int .i64 0)]))]) (.seq (.blk 0 (.seq (.reg [(o1 8 (.mv (.t 1))), (o1 9 (.bin .lss (.t 8) (.c (.int .i64 0)))), (o1 10 (.mv (.t 9))), (oS 11 (.mv (.t 1)) (.some (10, .false))), (oS 12 (.fld 0 (.t 3)) (.some (10, .false))), (oS 13 (.load .false .false 1 [(.some .i64)] (.t 12)) (.some (10, .false))), (oS 14 (.bin .geq (.t 11) (.t 13)) (.some (10, .false))), (o1 15 (.pick (.t 10) (.c (.bool .true)) (.t 14))), (o1 7 (.mv (.t 15)))]) (.cond (.t 7) (.seq (.reg [(o1 16 (.load .false .true 51 K51 (.t 3))), (oN (.store .false 51 (.t 6) (.t 16)))]) .ret) (.seq (.reg [(o1 18 (.load .false .true 2 [(.some .i64), (.some .i64)] (.t 5))), (o1 19 (.call .false .false (.f 28) [(.t 18)])), (o1 17 (.mv (.t 19)))]) (.cond (.t 17) (.seq (.reg [(o1 20 (.fld 0 (.t 3))), (o1 21 (.load .false .false 1 [(.some .i64)] (.t 20))), (o1 22 (.call .false .false (.f 29) [(.t 21)])), (o1 23 (.fldV .true 2 51 K51 (.t 22))), (oN (.store .false 51 (.t 6) (.t 23)))]) .ret) .skip))))) (.seq (.reg [(o1 24 (.load .false .true 51 K51 (.t 3))), (o1 25 (.mv (.t 1))), (o1 26 (.fld 1 (.t 5))), (o1 27 (.load .false .false 1 [(.some .i64)] (.t 26))), (o1 28 (.call .false .false (.f 30) [(.t 24), (.t 25), (.c (.int .i64 (-1))), (.t 27)])), (o1 29 (.mv (.t 1))), (o1 30 (.fld 0 (.t 5))), (o1 31 (.load .false .false 1 [(.some .i64)] (.t 30))), (o1 32 (.un .neg (.t 31))), (o1 33 (.call .false .false (.f 30) [(.t 28), (.c (.int .i64 (-1))), (.t 29), (.t 32)])), (oN (.store .false 51 (.t 6) (.t 33)))]) .ret)))⟩

theorem F94_ok : sfn Tryd.prog hintsN 16 [] = some F94 := by kernel_rfl

theorem E94 (a0_0 : Int) (a0_1 : Bool) (a0_2 : List Cell) (a1 : Int) (a2_0 : Int) (a2_1 : Int) (R : Ret → Prop) : wpFO cx94 F94 (.two (.n 3 .e) (.n 2 (.two .e (.two .e .e)))) [(.agg ((.v (.int .i64 a0_0)) :: (.v (.bool a0_1)) :: a0_2)), (.one (.v (.int .i64 a1))), (.agg [(.v (.int .i64 a2_0)), (.v (.int .i64 a2_1))])] R = (bif decide (a1 < 0) then (bif a0_2.length + 2 == 51 then (bif a0_2.length + 2 == 51 && true && true then (bif a0_2.length + 2 == 51 && true then (bif a0_2.all plainC then (R (Ret.mk (.agg ((.v (.int .i64 (a0_0))) :: (.v (.bool (a0_1))) :: (a0_2))) [])) else False) else False) else False) else False) else (bif decide (a1 ≥ a0_0) then (bif a0_2.length + 2 == 51 then (bif a0_2.length + 2 == 51 && true && true then (bif a0_2.length + 2 == 51 && true then (bif a0_2.all plainC then (R (Ret.mk (.agg ((.v (.int .i64 (a0_0))) :: (.v (.bool (a0_1))) :: (a0_2))) [])) else False) else False) else False) else False) else (bif emptyP a2_0 a2_1 then (letV (noneZ a0_0) (fun (u12 : Zo) => R (Ret.mk (.agg ((.v (.int .i64 (u12.1))) :: (.v (.bool (u12.2.1))) :: (List.replicate 49 (Cell.v (Value.int .i64 0))))) []))) else (bif a0_2.length + 2 == 51 then (letV (boundZ (a0_0, a0_1, List.map intC a0_2) a1 (-1) a2_1) (fun (u14 : Zo) => bif a0_2.all plainC && true && (a0_2.all (isInt .i64) && a0_2.length == 49 && true && true && true) && (ic .i64 u14.2.2).all (okC 0) && true && true && true && true then (letV (boundZ (u14.1, u14.2.1, List.map intC (ic .i64 u14.2.2)) (-1) a1 (IntKind.i64.wrap (0 - a2_0))) (fun (u16 : Zo) => bif (ic .i64 u14.2.2).all plainC && true && ((ic .i64 u14.2.2).all (isInt .i64) && (ic .i64 u14.2.2).length == 49 && true && true && true) && (ic .i64 u16.2.2).all (okC 0) && true && true && true && true then (bif (ic .i64 u16.2.2).length + 2 == 51 && true && true then (bif (ic .i64 u16.2.2).length + 2 == 51 && true then (bif (ic .i64 u16.2.2).all plainC then (R (Ret.mk (.agg ((.v (.int .i64 (u16.1))) :: (.v (.bool (u16.2.1))) :: (ic .i64 u16.2.2))) [])) else False) else False) else False) else False)) else False)) else False)))) := by kernel_rfl

def f94_wp (a0_0 : Int) (a0_1 : Bool) (a0_2 : List Cell) (a1 : Int) (a2_0 : Int) (a2_1 : Int) (R : Ret → Prop) : Prop := bif decide (a1 < 0) then (bif a0_2.length + 2 == 51 then (bif a0_2.length + 2 == 51 && true && true then (bif a0_2.length + 2 == 51 && true then (bif a0_2.all plainC then (R (Ret.mk (.agg ((.v (.int .i64 (a0_0))) :: (.v (.bool (a0_1))) :: (a0_2))) [])) else False) else False) else False) else False) else (bif decide (a1 ≥ a0_0) then (bif a0_2.length + 2 == 51 then (bif a0_2.length + 2 == 51 && true && true then (bif a0_2.length + 2 == 51 && true then (bif a0_2.all plainC then (R (Ret.mk (.agg ((.v (.int .i64 (a0_0))) :: (.v (.bool (a0_1))) :: (a0_2))) [])) else False) else False) else False) else False) else (bif emptyP a2_0 a2_1 then (letV (noneZ a0_0) (fun (u12 : Zo) => R (Ret.mk (.agg ((.v (.int .i64 (u12.1))) :: (.v (.bool (u12.2.1))) :: (List.replicate 49 (Cell.v (Value.int .i64 0))))) []))) else (bif a0_2.length + 2 == 51 then (letV (boundZ (a0_0, a0_1, List.map intC a0_2) a1 (-1) a2_1) (fun (u14 : Zo) => bif a0_2.all plainC && true && (a0_2.all (isInt .i64) && a0_2.length == 49 && true && true && true) && (ic .i64 u14.2.2).all (okC 0) && true && true && true && true then (letV (boundZ (u14.1, u14.2.1, List.map intC (ic .i64 u14.2.2)) (-1) a1 (IntKind.i64.wrap (0 - a2_0))) (fun (u16 : Zo) => bif (ic .i64 u14.2.2).all plainC && true && ((ic .i64 u14.2.2).all (isInt .i64) && (ic .i64 u14.2.2).length == 49 && true && true && true) && (ic .i64 u16.2.2).all (okC 0) && true && true && true && true then (bif (ic .i64 u16.2.2).length + 2 == 51 && true && true then (bif (ic .i64 u16.2.2).length + 2 == 51 && true then (bif (ic .i64 u16.2.2).all plainC then (R (Ret.mk (.agg ((.v (.int .i64 (u16.1))) :: (.v (.bool (u16.2.1))) :: (ic .i64 u16.2.2))) [])) else False) else False) else False) else False)) else False)) else False)))

set_option maxRecDepth 100000 in
theorem f94_sound (a0_0 : Int) (a0_1 : Bool) (a0_2 : List Cell) (a1 : Int) (a2_0 : Int) (a2_1 : Int) (hC : CtxOk Tryd.prog cx94.q.ctx) {r : Ret} (h : f94_wp a0_0 a0_1 a0_2 a1 a2_0 a2_1 (fun r' => r' = r)) : SoundAt Tryd.prog 16 [(.agg ((.v (.int .i64 a0_0)) :: (.v (.bool a0_1)) :: a0_2)), (.one (.v (.int .i64 a1))), (.agg [(.v (.int .i64 a2_0)), (.v (.int .i64 a2_1))])] r := by
  refine soundAtO (C := cx94) (oc := (.two (.n 3 .e) (.n 2 (.two .e (.two .e .e))))) mixed hC F94_ok ?_
  rewrite [E94 a0_0 a0_1 a0_2 a1 a2_0 a2_1]
  unfold f94_wp at h
  refine cond_mapE h (fun q1 h => ?_) (fun q1 h => ?_)
  · skip
    refine ck_mapE h (fun q2 h => ck_mapE h (fun q3 h => ck_mapE h (fun q5 h => ck_mapE h (fun q4 h => ?_))))
    exact h
  · skip
    refine cond_mapE h (fun q6 h => ?_) (fun q6 h => ?_)
    · skip
      refine ck_mapE h (fun q7 h => ck_mapE h (fun q8 h => ck_mapE h (fun q10 h => ck_mapE h (fun q9 h => ?_))))
      exact h
    · skip
      refine cond_mapE h (fun q11 h => ?_) (fun q11 h => ?_)
      · skip
        refine letV_mapE h (fun u12 h => ?_)
        exact h
      · skip
        refine ck_mapE h (fun q13 h => letV_mapE h (fun u14 h => ck_mapE h (fun q15 h => letV_mapE h (fun u16 h => ck_mapE h (fun q17 h => ck_mapE h (fun q18 h => ck_mapE h (fun q20 h => ck_mapE h (fun q19 h => ?_))))))))
        exact h


def cx51 : CtxW := ⟨⟨[(18, sum25), (15, sum93)], []⟩, 2, []⟩


def F51 : SFn := ⟨6, [(.cell 2 .true 53)], (.seq (.reg [(o1 2 (.alloc [(.bool .false), (.slice .none 0 0), (.int .i64 0), (.bool .false), (.int .i64 0), (.int .i64 0), (.int .i64 0), (.int .i64 0), (.int .i64 0), (.int .i64 0), (.int .i64 0), (.int .i64 0), (.int .i64 0), (.int .i64 0), (.int .i64 0), (.int .i64 0), (.int .i64 0), (.int .i64 0), (.int .i64 0), (.int .i64 0), (.int .i64 0), (.int .i64 0), (.int .i64 0), (.int .i64 0), (.int .i64 0), (.int .i64 0), (.int .i64 0), (.int .i64 0), (.int .i64 0), (.int .i64 0), (.int .i64 0), (.int .i64 0), (.int .i64 0), (.int .i64 0), (.int .i64 0), (.int .i64 0), (.int .i64 0), (.int .i64 0), (.int .i64 0), (.int .i64 0), (.int .i64 0), (.int .i64 0), (.int .i64 0), (.int .i64 0), (.int .i64 0), (.int .i64 0), (.int .i64 0), (.int .i64 0), (.int .i64 0), (.int .i64 0), (.int .i64 0), (.int .i64 0), (.int .i64 0)]))]) (.seq (.reg [(o1 3 (.mv (.t 0))), (o1 4 (.call .false .false (.f 18) [(.t 3)])), (o1 5 (.call .false .false (.f 15) [(.t 4)])), (oN (.store .false 53 (.t 2) (.t 5)))]) .ret))⟩

theorem F51_ok : sfn Tryd.prog hintsN 5 [] = some F51 := by kernel_rfl

theorem E51 (a0 : Int) (R : Ret → Prop) : wpFO cx51 F51 .e [(.one (.v (.int .i64 a0)))] R = (letV (topZ a0) (fun (u1 : Zo) => bif (ic .i64 u1.2.2).all (okC 0) && true && true && true && true then (bif (ic .i64 u1.2.2).all plainC && true && ((ic .i64 u1.2.2).all (isInt .i64) && (ic .i64 u1.2.2).length == 49) && (ic .i64 (List.map intC (ic .i64 u1.2.2))).all (okC 0) && true && true && true && true then (bif (ic .i64 (List.map intC (ic .i64 u1.2.2))).length + 4 == 53 && true && true then (bif (ic .i64 (List.map intC (ic .i64 u1.2.2))).length + 4 == 53 && true then (bif (ic .i64 (List.map intC (ic .i64 u1.2.2))).all plainC then (R (Ret.mk (.agg ((.v (.bool (u1.2.1))) :: (.sl ((capN u1.1).toNat) (ic .i64 (itvsZ (u1.1, u1.2.1, List.map intC (ic .i64 u1.2.2)) (capN u1.1).toNat))) :: (.v (.int .i64 (u1.1))) :: (.v (.bool (u1.2.1))) :: (ic .i64 (List.map intC (ic .i64 u1.2.2))))) [])) else False) else False) else False) else False) else False)) := by kernel_rfl

def f51_wp (a0 : Int) (R : Ret → Prop) : Prop := letV (topZ a0) (fun (u1 : Zo) => bif (ic .i64 u1.2.2).all (okC 0) && true && true && true && true then (bif (ic .i64 u1.2.2).all plainC && true && ((ic .i64 u1.2.2).all (isInt .i64) && (ic .i64 u1.2.2).length == 49) && (ic .i64 (List.map intC (ic .i64 u1.2.2))).all (okC 0) && true && true && true && true then (bif (ic .i64 (List.map intC (ic .i64 u1.2.2))).length + 4 == 53 && true && true then (bif (ic .i64 (List.map intC (ic .i64 u1.2.2))).length + 4 == 53 && true then (bif (ic .i64 (List.map intC (ic .i64 u1.2.2))).all plainC then (R (Ret.mk (.agg ((.v (.bool (u1.2.1))) :: (.sl ((capN u1.1).toNat) (ic .i64 (itvsZ (u1.1, u1.2.1, List.map intC (ic .i64 u1.2.2)) (capN u1.1).toNat))) :: (.v (.int .i64 (u1.1))) :: (.v (.bool (u1.2.1))) :: (ic .i64 (List.map intC (ic .i64 u1.2.2))))) [])) else False) else False) else False) else False) else False)

set_option maxRecDepth 100000 in
theorem f51_sound (a0 : Int) (hC : CtxOk Tryd.prog cx51.q.ctx) {r : Ret} (h : f51_wp a0 (fun r' => r' = r)) : SoundAt Tryd.prog 5 [(.one (.v (.int .i64 a0)))] r := by
  refine soundAtO (C := cx51) (oc := .e) mixed hC F51_ok ?_
  rewrite [E51 a0]
  unfold f51_wp at h
  refine letV_mapE h (fun u1 h => ck_mapE h (fun q2 h => ck_mapE h (fun q3 h => ck_mapE h (fun q4 h => ck_mapE h (fun q6 h => ck_mapE h (fun q5 h => ?_))))))
  exact h


def cx41 : CtxW := ⟨⟨[(17, sum37), (16, sum94), (15, sum93)], []⟩, 2, []⟩


def F41 : SFn := ⟨15, [(.cell 6 .true 53)], (.seq (.reg [(o1 3 (.box (.t 0))), (o1 5 (.box (.t 2))), (o1 6 (.alloc [(.bool .false), (.slice .none 0 0), (.int .i64 0), (.bool .false), (.int .i64 0), (.int .i64 0), (.int .i64 0), (.int .i64 0), (.int .i64 0), (.int .i64 0), (.int .i64 0), (.int .i64 0), (.int .i64 0), (.int .i64 0), (.int .i64 0), (.int .i64 0), (.int .i64 0), (.int .i64 0), (.int .i64 0), (.int .i64 0), (.int .i64 0), (.int .i64 0), (.int .i64 0), (.int .i64 0), (.int .i64 0), (.int .i64 0), (.int .i64 0), (.int .i64 0), (.int .i64 0), (.int .i64 0), (.int .i64 0), (.int .i64 0), (.int .i64 0), (.int .i64 0), (.int .i64 0), (.int .i64 0), (.int .i64 0), (.int .i64 0), (.int .i64 0), (.int .i64 0), (.int .i64 0), (.int .i64 0), (.int .i64 0), (.int .i64 0), (.int .i64 0), (.int .i64 0), (.int .i64 0), (.int .i64 0), (.int .i64 0), (.int .i64 0), (.int .i64 0), (.int .i64 0), (.int .i64 0)]))]) (.seq (.reg [(o1 7 (.fld 2 (.t 3))), (o1 8 (.load .false .true 51 K51 (.t 7))), (o1 9 (.mv (.t 1))), (o1 10 (.call .false .false (.f 17) [(.t 8), (.t 9)])), (o1 11 (.mv (.t 1))), (o1 12 (.load .false .true 2 [(.some .i64), (.some .i64)] (.t 5))), (o1 13 (.call .false .false (.f 16) [(.t 10), (.t 11), (.t 12)])), (o1 14 (.call .false .false (.f 15) [(.t 13)])), (oN (.store .false 53 (.t 6) (.t 14)))]) .ret))⟩

theorem F41_ok : sfn Tryd.prog hintsN 4 [] = some F41 := by kernel_rfl

theorem E41 (a0_0 : Bool) (a0_1n : Nat) (a0_1 : List Cell) (a0_2 : Int) (a0_3 : Bool) (a0_4 : List Cell) (a1 : Int) (a2_0 : Int) (a2_1 : Int) (R : Ret → Prop) : wpFO cx41 F41 .e [(.agg ((.v (.bool a0_0)) :: (.sl a0_1n a0_1) :: (.v (.int .i64 a0_2)) :: (.v (.bool a0_3)) :: a0_4)), (.one (.v (.int .i64 a1))), (.agg [(.v (.int .i64 a2_0)), (.v (.int .i64 a2_1))])] R = (bif decide (53 ≤ a0_4.length + 4) then (letV (forgetZ (a0_2, a0_3, List.map intC (List.take 49 a0_4)) a1) (fun (u2 : Zo) => bif (List.take 49 a0_4).all plainC && true && ((List.take 49 a0_4).all (isInt .i64) && (List.take 49 a0_4).length == 49 && true) && (ic .i64 u2.2.2).all (okC 0) && true && true && true && true then (letV (heldZ (u2.1, u2.2.1, List.map intC (ic .i64 u2.2.2)) a1 a2_0 a2_1) (fun (u4 : Zo) => bif (ic .i64 u2.2.2).all plainC && true && ((ic .i64 u2.2.2).all (isInt .i64) && (ic .i64 u2.2.2).length == 49 && true && true) && (ic .i64 u4.2.2).all (okC 0) && true && true && true && true then (bif (ic .i64 u4.2.2).all plainC && true && ((ic .i64 u4.2.2).all (isInt .i64) && (ic .i64 u4.2.2).length == 49) && (ic .i64 (List.map intC (ic .i64 u4.2.2))).all (okC 0) && true && true && true && true then (bif (ic .i64 (List.map intC (ic .i64 u4.2.2))).length + 4 == 53 && true && true then (bif (ic .i64 (List.map intC (ic .i64 u4.2.2))).length + 4 == 53 && true then (bif (ic .i64 (List.map intC (ic .i64 u4.2.2))).all plainC then (R (Ret.mk (.agg ((.v (.bool (u4.2.1))) :: (.sl ((capN u4.1).toNat) (ic .i64 (itvsZ (u4.1, u4.2.1, List.map intC (ic .i64 u4.2.2)) (capN u4.1).toNat))) :: (.v (.int .i64 (u4.1))) :: (.v (.bool (u4.2.1))) :: (ic .i64 (List.map intC (ic .i64 u4.2.2))))) [])) else False) else False) else False) else False) else False)) else False)) else False) := by kernel_rfl

def f41_wp (a0_0 : Bool) (a0_1n : Nat) (a0_1 : List Cell) (a0_2 : Int) (a0_3 : Bool) (a0_4 : List Cell) (a1 : Int) (a2_0 : Int) (a2_1 : Int) (R : Ret → Prop) : Prop := bif decide (53 ≤ a0_4.length + 4) then (letV (forgetZ (a0_2, a0_3, List.map intC (List.take 49 a0_4)) a1) (fun (u2 : Zo) => bif (List.take 49 a0_4).all plainC && true && ((List.take 49 a0_4).all (isInt .i64) && (List.take 49 a0_4).length == 49 && true) && (ic .i64 u2.2.2).all (okC 0) && true && true && true && true then (letV (heldZ (u2.1, u2.2.1, List.map intC (ic .i64 u2.2.2)) a1 a2_0 a2_1) (fun (u4 : Zo) => bif (ic .i64 u2.2.2).all plainC && true && ((ic .i64 u2.2.2).all (isInt .i64) && (ic .i64 u2.2.2).length == 49 && true && true) && (ic .i64 u4.2.2).all (okC 0) && true && true && true && true then (bif (ic .i64 u4.2.2).all plainC && true && ((ic .i64 u4.2.2).all (isInt .i64) && (ic .i64 u4.2.2).length == 49) && (ic .i64 (List.map intC (ic .i64 u4.2.2))).all (okC 0) && true && true && true && true then (bif (ic .i64 (List.map intC (ic .i64 u4.2.2))).length + 4 == 53 && true && true then (bif (ic .i64 (List.map intC (ic .i64 u4.2.2))).length + 4 == 53 && true then (bif (ic .i64 (List.map intC (ic .i64 u4.2.2))).all plainC then (R (Ret.mk (.agg ((.v (.bool (u4.2.1))) :: (.sl ((capN u4.1).toNat) (ic .i64 (itvsZ (u4.1, u4.2.1, List.map intC (ic .i64 u4.2.2)) (capN u4.1).toNat))) :: (.v (.int .i64 (u4.1))) :: (.v (.bool (u4.2.1))) :: (ic .i64 (List.map intC (ic .i64 u4.2.2))))) [])) else False) else False) else False) else False) else False)) else False)) else False

set_option maxRecDepth 100000 in
theorem f41_sound (a0_0 : Bool) (a0_1n : Nat) (a0_1 : List Cell) (a0_2 : Int) (a0_3 : Bool) (a0_4 : List Cell) (a1 : Int) (a2_0 : Int) (a2_1 : Int) (hC : CtxOk Tryd.prog cx41.q.ctx) {r : Ret} (h : f41_wp a0_0 a0_1n a0_1 a0_2 a0_3 a0_4 a1 a2_0 a2_1 (fun r' => r' = r)) : SoundAt Tryd.prog 4 [(.agg ((.v (.bool a0_0)) :: (.sl a0_1n a0_1) :: (.v (.int .i64 a0_2)) :: (.v (.bool a0_3)) :: a0_4)), (.one (.v (.int .i64 a1))), (.agg [(.v (.int .i64 a2_0)), (.v (.int .i64 a2_1))])] r := by
  refine soundAtO (C := cx41) (oc := .e) mixed hC F41_ok ?_
  rewrite [E41 a0_0 a0_1n a0_1 a0_2 a0_3 a0_4 a1 a2_0 a2_1]
  unfold f41_wp at h
  refine ck_mapE h (fun q1 h => letV_mapE h (fun u2 h => ck_mapE h (fun q3 h => letV_mapE h (fun u4 h => ck_mapE h (fun q5 h => ck_mapE h (fun q6 h => ck_mapE h (fun q7 h => ck_mapE h (fun q9 h => ck_mapE h (fun q8 h => ?_)))))))))
  exact h


def cx52 : CtxW := ⟨⟨[(16, sum94), (15, sum93)], []⟩, 2, []⟩


def F52 : SFn := ⟨13, [(.cell 6 .true 53)], (.seq (.reg [(o1 3 (.box (.t 0))), (o1 5 (.box (.t 2))), (o1 6 (.alloc [(.bool .false), (.slice .none 0 0), (.int .i64 0), (.bool .false), (.int .i64 0), (.int .i64 0), (.int .i64 0), (.int .i64 0), (.int .i64 0), (.int .i64 0), (.int .i64 0), (.int .i64 0), (.int .i64 0), (.int .i64 0), (.int .i64 0), (.int .i64 0), (.int .i64 0), (.int .i64 0), (.int .i64 0), (.int .i64 0), (.int .i64 0), (.int .i64 0), (.int .i64 0), (.int .i64 0), (.int .i64 0), (.int .i64 0), (.int .i64 0), (.int .i64 0), (.int .i64 0), (.int .i64 0), (.int .i64 0), (.int .i64 0), (.int .i64 0), (.int .i64 0), (.int .i64 0), (.int .i64 0), (.int .i64 0), (.int .i64 0), (.int .i64 0), (.int .i64 0), (.int .i64 0), (.int .i64 0), (.int .i64 0), (.int .i64 0), (.int .i64 0), (.int .i64 0), (.int .i64 0), (.int .i64 0), (.int .i64 0), (.int .i64 0), (.int .i64 0), (.int .i64 0), (.int .i64 0)]))]) (.seq (.reg [(o1 7 (.fld 2 (.t 3))), (o1 8 (.load .false .true 51 K51 (.t 7))), (o1 9 (.mv (.t 1))), (o1 10 (.load .false .true 2 [(.some .i64), (.some .i64)] (.t 5))), (o1 11 (.call .false .false (.f 16) [(.t 8), (.t 9), (.t 10)])), (o1 12 (.call .false .false (.f 15) [(.t 11)])), (oN (.store .false 53 (.t 6) (.t 12)))]) .ret))⟩

theorem F52_ok : sfn Tryd.prog hintsN 8 [] = some F52 := by kernel_rfl

theorem E52 (a0_0 : Bool) (a0_1n : Nat) (a0_1 : List Cell) (a0_2 : Int) (a0_3 : Bool) (a0_4 : List Cell) (a1 : Int) (a2_0 : Int) (a2_1 : Int) (R : Ret → Prop) : wpFO cx52 F52 .e [(.agg ((.v (.bool a0_0)) :: (.sl a0_1n a0_1) :: (.v (.int .i64 a0_2)) :: (.v (.bool a0_3)) :: a0_4)), (.one (.v (.int .i64 a1))), (.agg [(.v (.int .i64 a2_0)), (.v (.int .i64 a2_1))])] R = (bif decide (53 ≤ a0_4.length + 4) then (letV (heldZ (a0_2, a0_3, List.map intC (List.take 49 a0_4)) a1 a2_0 a2_1) (fun (u2 : Zo) => bif (List.take 49 a0_4).all plainC && true && ((List.take 49 a0_4).all (isInt .i64) && (List.take 49 a0_4).length == 49 && true && true) && (ic .i64 u2.2.2).all (okC 0) && true && true && true && true then (bif (ic .i64 u2.2.2).all plainC && true && ((ic .i64 u2.2.2).all (isInt .i64) && (ic .i64 u2.2.2).length == 49) && (ic .i64 (List.map intC (ic .i64 u2.2.2))).all (okC 0) && true && true && true && true then (bif (ic .i64 (List.map intC (ic .i64 u2.2.2))).length + 4 == 53 && true && true then (bif (ic .i64 (List.map intC (ic .i64 u2.2.2))).length + 4 == 53 && true then (bif (ic .i64 (List.map intC (ic .i64 u2.2.2))).all plainC then (R (Ret.mk (.agg ((.v (.bool (u2.2.1))) :: (.sl ((capN u2.1).toNat) (ic .i64 (itvsZ (u2.1, u2.2.1, List.map intC (ic .i64 u2.2.2)) (capN u2.1).toNat))) :: (.v (.int .i64 (u2.1))) :: (.v (.bool (u2.2.1))) :: (ic .i64 (List.map intC (ic .i64 u2.2.2))))) [])) else False) else False) else False) else False) else False)) else False) := by kernel_rfl

def f52_wp (a0_0 : Bool) (a0_1n : Nat) (a0_1 : List Cell) (a0_2 : Int) (a0_3 : Bool) (a0_4 : List Cell) (a1 : Int) (a2_0 : Int) (a2_1 : Int) (R : Ret → Prop) : Prop := bif decide (53 ≤ a0_4.length + 4) then (letV (heldZ (a0_2, a0_3, List.map intC (List.take 49 a0_4)) a1 a2_0 a2_1) (fun (u2 : Zo) => bif (List.take 49 a0_4).all plainC && true && ((List.take 49 a0_4).all (isInt .i64) && (List.take 49 a0_4).length == 49 && true && true) && (ic .i64 u2.2.2).all (okC 0) && true && true && true && true then (bif (ic .i64 u2.2.2).all plainC && true && ((ic .i64 u2.2.2).all (isInt .i64) && (ic .i64 u2.2.2).length == 49) && (ic .i64 (List.map intC (ic .i64 u2.2.2))).all (okC 0) && true && true && true && true then (bif (ic .i64 (List.map intC (ic .i64 u2.2.2))).length + 4 == 53 && true && true then (bif (ic .i64 (List.map intC (ic .i64 u2.2.2))).length + 4 == 53 && true then (bif (ic .i64 (List.map intC (ic .i64 u2.2.2))).all plainC then (R (Ret.mk (.agg ((.v (.bool (u2.2.1))) :: (.sl ((capN u2.1).toNat) (ic .i64 (itvsZ (u2.1, u2.2.1, List.map intC (ic .i64 u2.2.2)) (capN u2.1).toNat))) :: (.v (.int .i64 (u2.1))) :: (.v (.bool (u2.2.1))) :: (ic .i64 (List.map intC (ic .i64 u2.2.2))))) [])) else False) else False) else False) else False) else False)) else False

set_option maxRecDepth 100000 in
theorem f52_sound (a0_0 : Bool) (a0_1n : Nat) (a0_1 : List Cell) (a0_2 : Int) (a0_3 : Bool) (a0_4 : List Cell) (a1 : Int) (a2_0 : Int) (a2_1 : Int) (hC : CtxOk Tryd.prog cx52.q.ctx) {r : Ret} (h : f52_wp a0_0 a0_1n a0_1 a0_2 a0_3 a0_4 a1 a2_0 a2_1 (fun r' => r' = r)) : SoundAt Tryd.prog 8 [(.agg ((.v (.bool a0_0)) :: (.sl a0_1n a0_1) :: (.v (.int .i64 a0_2)) :: (.v (.bool a0_3)) :: a0_4)), (.one (.v (.int .i64 a1))), (.agg [(.v (.int .i64 a2_0)), (.v (.int .i64 a2_1))])] r := by
  refine soundAtO (C := cx52) (oc := .e) mixed hC F52_ok ?_
  rewrite [E52 a0_0 a0_1n a0_1 a0_2 a0_3 a0_4 a1 a2_0 a2_1]
  unfold f52_wp at h
  refine ck_mapE h (fun q1 h => letV_mapE h (fun u2 h => ck_mapE h (fun q3 h => ck_mapE h (fun q4 h => ck_mapE h (fun q5 h => ck_mapE h (fun q7 h => ck_mapE h (fun q6 h => ?_)))))))
  exact h


def cx59 : CtxW := ⟨⟨[(20, sum27), (15, sum93)], []⟩, 2, []⟩


def F59 : SFn := ⟨16, [(.cell 8 .true 53)], (.seq (.reg [(o1 4 (.box (.t 0))), (o1 8 (.alloc [(.bool .false), (.slice .none 0 0), (.int .i64 0), (.bool .false), (.int .i64 0), (.int .i64 0), (.int .i64 0), (.int .i64 0), (.int .i64 0), (.int .i64 0), (.int .i64 0), (.int .i64 0), (.int .i64 0), (.int .i64 0), (.int .i64 0), (.int .i64 0), (.int .i64 0), (.int .i64 0), (.int .i64 0), (.int .i64 0), (.int .i64 0), (.int .i64 0), (.int .i64 0), (.int .i64 0), (.int .i64 0), (.int .i64 0), (.int .i64 0), (.int .i64 0), (.int .i64 0), (.int .i64 0), (.int .i64 0), (.int .i64 0), (.int .i64 0), (.int .i64 0), (.int .i64 0), (.int .i64 0), (.int .i64 0), (.int .i64 0), (.int .i64 0), (.int .i64 0), (.int .i64 0), (.int .i64 0), (.int .i64 0), (.int .i64 0), (.int .i64 0), (.int .i64 0), (.int .i64 0), (.int .i64 0), (.int .i64 0), (.int .i64 0), (.int .i64 0), (.int .i64 0), (.int .i64 0)]))]) (.seq (.reg [(o1 9 (.fld 2 (.t 4))), (o1 10 (.load .false .true 51 K51 (.t 9))), (o1 11 (.mv (.t 1))), (o1 12 (.mv (.t 2))), (o1 13 (.mv (.t 3))), (o1 14 (.call .false .false (.f 20) [(.t 10), (.t 11), (.t 12), (.t 13)])), (o1 15 (.call .false .false (.f 15) [(.t 14)])), (oN (.store .false 53 (.t 8) (.t 15)))]) .ret))⟩

theorem F59_ok : sfn Tryd.prog hintsN 7 [] = some F59 := by kernel_rfl

theorem E59 (a0_0 : Bool) (a0_1n : Nat) (a0_1 : List Cell) (a0_2 : Int) (a0_3 : Bool) (a0_4 : List Cell) (a1 : Int) (a2 : Int) (a3 : Int) (R : Ret → Prop) : wpFO cx59 F59 .e [(.agg ((.v (.bool a0_0)) :: (.sl a0_1n a0_1) :: (.v (.int .i64 a0_2)) :: (.v (.bool a0_3)) :: a0_4)), (.one (.v (.int .i64 a1))), (.one (.v (.int .i64 a2))), (.one (.v (.int .i64 a3)))] R = (bif decide (53 ≤ a0_4.length + 4) then (letV (copyZ (a0_2, a0_3, List.map intC (List.take 49 a0_4)) a1 a2 a3) (fun (u2 : Zo) => bif (List.take 49 a0_4).all plainC && true && ((List.take 49 a0_4).all (isInt .i64) && (List.take 49 a0_4).length == 49 && true && true && true) && (ic .i64 u2.2.2).all (okC 0) && true && true && true && true then (bif (ic .i64 u2.2.2).all plainC && true && ((ic .i64 u2.2.2).all (isInt .i64) && (ic .i64 u2.2.2).length == 49) && (ic .i64 (List.map intC (ic .i64 u2.2.2))).all (okC 0) && true && true && true && true then (bif (ic .i64 (List.map intC (ic .i64 u2.2.2))).length + 4 == 53 && true && true then (bif (ic .i64 (List.map intC (ic .i64 u2.2.2))).length + 4 == 53 && true then (bif (ic .i64 (List.map intC (ic .i64 u2.2.2))).all plainC then (R (Ret.mk (.agg ((.v (.bool (u2.2.1))) :: (.sl ((capN u2.1).toNat) (ic .i64 (itvsZ (u2.1, u2.2.1, List.map intC (ic .i64 u2.2.2)) (capN u2.1).toNat))) :: (.v (.int .i64 (u2.1))) :: (.v (.bool (u2.2.1))) :: (ic .i64 (List.map intC (ic .i64 u2.2.2))))) [])) else False) else False) else False) else False) else False)) else False) := by kernel_rfl

def f59_wp (a0_0 : Bool) (a0_1n : Nat) (a0_1 : List Cell) (a0_2 : Int) (a0_3 : Bool) (a0_4 : List Cell) (a1 : Int) (a2 : Int) (a3 : Int) (R : Ret → Prop) : Prop := bif decide (53 ≤ a0_4.length + 4) then (letV (copyZ (a0_2, a0_3, List.map intC (List.take 49 a0_4)) a1 a2 a3) (fun (u2 : Zo) => bif (List.take 49 a0_4).all plainC && true && ((List.take 49 a0_4).all (isInt .i64) && (List.take 49 a0_4).length == 49 && true && true && true) && (ic .i64 u2.2.2).all (okC 0) && true && true && true && true then (bif (ic .i64 u2.2.2).all plainC && true && ((ic .i64 u2.2.2).all (isInt .i64) && (ic .i64 u2.2.2).length == 49) && (ic .i64 (List.map intC (ic .i64 u2.2.2))).all (okC 0) && true && true && true && true then (bif (ic .i64 (List.map intC (ic .i64 u2.2.2))).length + 4 == 53 && true && true then (bif (ic .i64 (List.map intC (ic .i64 u2.2.2))).length + 4 == 53 && true then (bif (ic .i64 (List.map intC (ic .i64 u2.2.2))).all plainC then (R (Ret.mk (.agg ((.v (.bool (u2.2.1))) :: (.sl ((capN u2.1).toNat) (ic .i64 (itvsZ (u2.1, u2.2.1, List.map intC (ic .i64 u2.2.2)) (capN u2.1).toNat))) :: (.v (.int .i64 (u2.1))) :: (.v (.bool (u2.2.1))) :: (ic .i64 (List.map intC (ic .i64 u2.2.2))))) [])) else False) else False) else False) else False) else False)) else False

set_option maxRecDepth 100000 in
theorem f59_sound (a0_0 : Bool) (a0_1n : Nat) (a0_1 : List Cell) (a0_2 : Int) (a0_3 : Bool) (a0_4 : List Cell) (a1 : Int) (a2 : Int) (a3 : Int) (hC : CtxOk Tryd.prog cx59.q.ctx) {r : Ret} (h : f59_wp a0_0 a0_1n a0_1 a0_2 a0_3 a0_4 a1 a2 a3 (fun r' => r' = r)) : SoundAt Tryd.prog 7 [(.agg ((.v (.bool a0_0)) :: (.sl a0_1n a0_1) :: (.v (.int .i64 a0_2)) :: (.v (.bool a0_3)) :: a0_4)), (.one (.v (.int .i64 a1))), (.one (.v (.int .i64 a2))), (.one (.v (.int .i64 a3)))] r := by
  refine soundAtO (C := cx59) (oc := .e) mixed hC F59_ok ?_
  rewrite [E59 a0_0 a0_1n a0_1 a0_2 a0_3 a0_4 a1 a2 a3]
  unfold f59_wp at h
  refine ck_mapE h (fun q1 h => letV_mapE h (fun u2 h => ck_mapE h (fun q3 h => ck_mapE h (fun q4 h => ck_mapE h (fun q5 h => ck_mapE h (fun q7 h => ck_mapE h (fun q6 h => ?_)))))))
  exact h


def cx60 : CtxW := ⟨⟨[(27, sum38)], []⟩, 2, []⟩


def F60 : SFn := ⟨14, [(.tmp 4)], (.seq (.reg [(o1 2 (.box (.t 0))), (o1 4 (.mv (.c (.bool .false))))]) (.seq (.reg [(o1 5 (.fld 0 (.t 2))), (o1 6 (.load .false .false 1 [.none] (.t 5))), (o1 7 (.un .not (.t 6))), (o1 8 (.mv (.t 7))), (oS 9 (.fld 2 (.t 2)) (.some (8, .true))), (oS 10 (.load .false .true 51 K51 (.t 9)) (.some (8, .true))), (oS 11 (.mv (.t 1)) (.some (8, .true))), (oS 12 (.call .true .false (.f 27) [(.t 10), (.t 11)]) (.some (8, .true))), (o1 13 (.pick (.t 8) (.t 12) (.c (.bool .false)))), (o1 4 (.mv (.t 13)))]) .ret))⟩

theorem F60_ok : sfn Tryd.prog hintsN 14 [] = some F60 := by kernel_rfl

theorem E60 (a0_0 : Bool) (a0_1n : Nat) (a0_1 : List Cell) (a0_2 : Int) (a0_3 : Bool) (a0_4 : List Cell) (a1n : Nat) (a1 : List Cell) (R : Ret → Prop) : wpFO cx60 F60 (.two (.n 2 .e) (.n 2 .e)) [(.agg ((.v (.bool a0_0)) :: (.sl a0_1n a0_1) :: (.v (.int .i64 a0_2)) :: (.v (.bool a0_3)) :: a0_4)), (.one (.sl a1n a1))] R = (bif !a0_0 then (bif decide (53 ≤ a0_4.length + 4) then (bif (List.take 49 a0_4).all plainC && true && ((List.take 49 a0_4).all (isInt .i64) && (List.take 49 a0_4).length == 49 && okRowU 1 (.sl a1n a1)) && true && true && true && true && true then (R (Ret.mk (.one (.v (.bool (hasZ (a0_2, a0_3, List.map intC (List.take 49 a0_4)) a1n (List.map intC a1))))) [])) else False) else False) else (R (Ret.mk (.one (.v (.bool .false))) []))) := by kernel_rfl

def f60_wp (a0_0 : Bool) (a0_1n : Nat) (a0_1 : List Cell) (a0_2 : Int) (a0_3 : Bool) (a0_4 : List Cell) (a1n : Nat) (a1 : List Cell) (R : Ret → Prop) : Prop := bif !a0_0 then (bif decide (53 ≤ a0_4.length + 4) then (bif (List.take 49 a0_4).all plainC && true && ((List.take 49 a0_4).all (isInt .i64) && (List.take 49 a0_4).length == 49 && okRowU 1 (.sl a1n a1)) && true && true && true && true && true then (R (Ret.mk (.one (.v (.bool (hasZ (a0_2, a0_3, List.map intC (List.take 49 a0_4)) a1n (List.map intC a1))))) [])) else False) else False) else (R (Ret.mk (.one (.v (.bool .false))) []))

set_option maxRecDepth 100000 in
theorem f60_sound (a0_0 : Bool) (a0_1n : Nat) (a0_1 : List Cell) (a0_2 : Int) (a0_3 : Bool) (a0_4 : List Cell) (a1n : Nat) (a1 : List Cell) (hC : CtxOk Tryd.prog cx60.q.ctx) {r : Ret} (h : f60_wp a0_0 a0_1n a0_1 a0_2 a0_3 a0_4 a1n a1 (fun r' => r' = r)) : SoundAt Tryd.prog 14 [(.agg ((.v (.bool a0_0)) :: (.sl a0_1n a0_1) :: (.v (.int .i64 a0_2)) :: (.v (.bool a0_3)) :: a0_4)), (.one (.sl a1n a1))] r := by
  refine soundAtO (C := cx60) (oc := (.two (.n 2 .e) (.n 2 .e))) mixed hC F60_ok ?_
  rewrite [E60 a0_0 a0_1n a0_1 a0_2 a0_3 a0_4 a1n a1]
  unfold f60_wp at h
  refine cond_mapE h (fun q1 h => ?_) (fun q1 h => ?_)
  · skip
    refine ck_mapE h (fun q2 h => ck_mapE h (fun q3 h => ?_))
    exact h
  · skip
    exact h


def cx95 : CtxW := ⟨⟨[], []⟩, 2, []⟩


def F95_b0 : SC := (.seq (.reg [(o1 14 (.bin .lss (.t 13) (.t 12)))]) (.seq (.cond (.t 14) .skip (.exit 0)) (.seq (.blk 1 (.seq (.reg [(o1 15 (.mv (.t 13))), (o1 5 (.mv (.t 15)))]) (.seq (.reg [(o1 16 (.mv (.t 0))), (o1 17 (.mv (.t 5))), (o1 18 (.ixS 2 (.t 16) (.t 17))), (o1 19 (.load .true .true 2 [(.some .i64), (.some .i64)] (.t 18))), (o1 20 (.mv (.t 1))), (o1 21 (.mv (.t 5))), (o1 22 (.ixS 2 (.t 20) (.t 21))), (o1 23 (.load .true .true 2 [(.some .i64), (.some .i64)] (.t 22))), (o1 24 (.eqA .true [(.some .i64), (.some .i64)] (.t 19) (.t 23)))]) (.cond (.t 24) (.seq (.reg [(o1 4 (.mv (.c (.bool .false))))]) .ret) .skip)))) (.reg [(o1 25 (.bin .add (.t 13) (.c (.int .i64 1)))), (o1 13 (.mv (.t 25)))]))))

def F95_c1 : SC := (.seq (.reg [(o1 4 (.mv (.c (.bool .true))))]) .ret)

def F95 : SFn := ⟨26, [(.tmp 4)], (.seq (.reg [(o1 4 (.mv (.c (.bool .false))))]) (.seq (.seq (.reg [(o1 6 (.mv (.t 0))), (o1 7 (.len (.t 6))), (o1 8 (.mv (.t 1))), (o1 9 (.len (.t 8))), (o1 10 (.bin .neq (.t 7) (.t 9)))]) (.cond (.t 10) (.seq (.reg [(o1 4 (.mv (.c (.bool .false))))]) .ret) .skip)) (.seq (.seq (.reg [(o1 11 (.mv (.t 0))), (o1 12 (.len (.t 11))), (o1 13 (.mv (.c (.int .i64 0))))]) (.blk 0 (.loop [0, 1, 12, 13] [] [] F95_b0))) F95_c1)))⟩

theorem F95_ok : sfn Tryd.prog hintsN 23 [([0, 1, 12, 13], ([], []))] = some F95 := by kernel_rfl

def I95_0_0 (a0n : Nat) (a0 : List Cell) (a1n : Nat) (a1 : List Cell) (y0_0 : Int) : St := (.mk ((.one (.sl (a0n) (a0))) :: ((.one (.sl (a1n) (a1))) :: (n10 ((.one (.v (.int .i64 ((↑a0n : Int))))) :: ((.one (vi y0_0)) :: (n10 (.no :: (.no :: [])))))))) (e10 (e10 ([] :: ([] :: ([] :: ([] :: ([] :: ([] :: [])))))))) (e10 (e10 ([] :: ([] :: ([] :: ([] :: ([] :: ([] :: [])))))))))

theorem E95_0_0 (a0n : Nat) (a0 : List Cell) (a1n : Nat) (a1 : List Cell) (y0_0 : Int) (N0 : Bool × St → Prop) (R : Ret → Prop) : wpO cx95 F95_b0 (.two (.two .e .e) .e) (I95_0_0 a0n a0 a1n a1 y0_0) (kLp (headW cx95.m [0, 1, 12, 13] [] []) N0 (kBlk 0 (kSeq cx95 F95_c1 (endO cx95.m F95.rs R)))) = (bif decide (y0_0 < (↑a0n : Int)) then (bif decide (0 ≤ y0_0) && decide (y0_0 < (↑a0n : Int)) && decide (y0_0.toNat * 2 < a0.length) then (bif decide (y0_0.toNat * 2 + 2 ≤ a0.length) && (okK (some .i64) (a0.getD (y0_0.toNat * 2) .dead) && (okK (some .i64) (a0.getD (y0_0.toNat * 2 + 1) .dead) && true)) then (bif decide (0 ≤ y0_0) && decide (y0_0 < (↑a1n : Int)) && decide (y0_0.toNat * 2 < a1.length) then (bif decide (y0_0.toNat * 2 + 2 ≤ a1.length) && (okK (some .i64) (a1.getD (y0_0.toNat * 2) .dead) && (okK (some .i64) (a1.getD (y0_0.toNat * 2 + 1) .dead) && true)) then (bif !(intC (a0.getD (y0_0.toNat * 2) .dead) == intC (a1.getD (y0_0.toNat * 2) .dead) && (intC (a0.getD (y0_0.toNat * 2 + 1) .dead) == intC (a1.getD (y0_0.toNat * 2 + 1) .dead) && true)) then (R (Ret.mk (.one (.v (.bool .false))) [])) else (N0 (true, (I95_0_0 a0n a0 a1n a1 (IntKind.i64.wrap (y0_0 + 1)))))) else False) else False) else False) else False) else (R (Ret.mk (.one (.v (.bool .true))) []))) := by kernel_rfl

theorem E95 (a0n : Nat) (a0 : List Cell) (a1n : Nat) (a1 : List Cell) (R : Ret → Prop) : wpFO cx95 F95 (.two .e .e) [(.one (.sl a0n a0)), (.one (.sl a1n a1))] R = (bif (↑a0n : Int) != (↑a1n : Int) then (R (Ret.mk (.one (.v (.bool .false))) [])) else (LoopO (bodyX cx95 F95_b0) (headW cx95.m [0, 1, 12, 13] [] []) (kBlk 0 (kSeq cx95 F95_c1 (endO cx95.m F95.rs R))) (true, (I95_0_0 a0n a0 a1n a1 0)))) := by kernel_rfl

def f95_wp (a0n : Nat) (a0 : List Cell) (a1n : Nat) (a1 : List Cell) (R : Ret → Prop) : Prop := bif (↑a0n : Int) != (↑a1n : Int) then (R (Ret.mk (.one (.v (.bool .false))) [])) else (LoopP (fun (z0 : (Int)) (k0 : (Int) → Prop) => (fun (z : Int) => (fun (y0_0 : Int) => bif decide (y0_0 < (↑a0n : Int)) then (bif decide (0 ≤ y0_0) && decide (y0_0 < (↑a0n : Int)) && decide (y0_0.toNat * 2 < a0.length) then (bif decide (y0_0.toNat * 2 + 2 ≤ a0.length) && (okK (some .i64) (a0.getD (y0_0.toNat * 2) .dead) && (okK (some .i64) (a0.getD (y0_0.toNat * 2 + 1) .dead) && true)) then (bif decide (0 ≤ y0_0) && decide (y0_0 < (↑a1n : Int)) && decide (y0_0.toNat * 2 < a1.length) then (bif decide (y0_0.toNat * 2 + 2 ≤ a1.length) && (okK (some .i64) (a1.getD (y0_0.toNat * 2) .dead) && (okK (some .i64) (a1.getD (y0_0.toNat * 2 + 1) .dead) && true)) then (bif !(intC (a0.getD (y0_0.toNat * 2) .dead) == intC (a1.getD (y0_0.toNat * 2) .dead) && (intC (a0.getD (y0_0.toNat * 2 + 1) .dead) == intC (a1.getD (y0_0.toNat * 2 + 1) .dead) && true)) then (R (Ret.mk (.one (.v (.bool .false))) [])) else (k0 (IntKind.i64.wrap (y0_0 + 1)))) else False) else False) else False) else False) else (R (Ret.mk (.one (.v (.bool .true))) []))) z) z0) 0)

set_option maxRecDepth 100000 in
theorem f95_sound (a0n : Nat) (a0 : List Cell) (a1n : Nat) (a1 : List Cell) (hC : CtxOk Tryd.prog cx95.q.ctx) {r : Ret} (h : f95_wp a0n a0 a1n a1 (fun r' => r' = r)) : SoundAt Tryd.prog 23 [(.one (.sl a0n a0)), (.one (.sl a1n a1))] r := by
  refine soundAtO (C := cx95) (oc := (.two .e .e)) mixed hC F95_ok ?_
  rewrite [E95 a0n a0 a1n a1]
  unfold f95_wp at h
  refine cond_mapE h (fun q1 h => ?_) (fun q1 h => ?_)
  · skip
    exact h
  · skip
    refine loop_of (I := (fun (z : Int) => (I95_0_0 a0n a0 a1n a1 z))) (fun z k0 h => ?_) h rfl rfl
    obtain ⟨y0_0, rfl⟩ : ∃ y, y = z := ⟨z, rfl⟩
    try dsimp only [sumE_l, sumE_r] at h
    refine bodyX_i (ob := (.two (.two .e .e) .e)) ?_
    rewrite [E95_0_0 a0n a0 a1n a1 y0_0]
    refine cond_mapE h (fun q14 h => ?_) (fun q14 h => ?_)
    · skip
      refine ck_mapE h (fun q15 h => ck_mapE h (fun q16 h => ck_mapE h (fun q17 h => ck_mapE h (fun q18 h => ?_))))
      refine cond_mapE h (fun q19 h => ?_) (fun q19 h => ?_)
      · skip
        exact h
      · skip
        exact again_i (y := (IntKind.i64.wrap (y0_0 + 1))) rfl h
    · skip
      exact h


def cx45 : CtxW := ⟨⟨[(15, sum93), (22, sum48), (23, sum95)], []⟩, 2, []⟩


def F45 : SFn := ⟨24, [(.tmp 2)], (.seq (.reg [(o1 1 (.box (.t 0))), (o1 2 (.mv (.c (.bool .false))))]) (.seq (.reg [(o1 4 (.fld 2 (.t 1))), (o1 5 (.load .false .true 51 K51 (.t 4))), (o1 6 (.call .false .false (.f 15) [(.t 5)])), (o1 3 (.alloc [(.bool .false), (.slice .none 0 0), (.int .i64 0), (.bool .false), (.int .i64 0), (.int .i64 0), (.int .i64 0), (.int .i64 0), (.int .i64 0), (.int .i64 0), (.int .i64 0), (.int .i64 0), (.int .i64 0), (.int .i64 0), (.int .i64 0), (.int .i64 0), (.int .i64 0), (.int .i64 0), (.int .i64 0), (.int .i64 0), (.int .i64 0), (.int .i64 0), (.int .i64 0), (.int .i64 0), (.int .i64 0), (.int .i64 0), (.int .i64 0), (.int .i64 0), (.int .i64 0), (.int .i64 0), (.int .i64 0), (.int .i64 0), (.int .i64 0), (.int .i64 0), (.int .i64 0), (.int .i64 0), (.int .i64 0), (.int .i64 0), (.int .i64 0), (.int .i64 0), (.int .i64 0), (.int .i64 0), (.int .i64 0), (.int .i64 0), (.int .i64 0), (.int .i64 0), (.int .i64 0), (.int .i64 0), (.int .i64 0), (.int .i64 0), (.int .i64 0), (.int .i64 0), (.int .i64 0)])), (oN (.store .false 53 (.t 3) (.t 6)))]) (.seq (.reg [(o1 7 (.fld 2 (.t 1))), (o1 8 (.load .false .true 51 K51 (.t 7))), (o1 9 (.call .false .false (.f 22) [(.t 8)])), (o1 10 (.mv (.t 9))), (oS 11 (.fld 0 (.t 1)) (.some (10, .true))), (oS 12 (.load .false .false 1 [.none] (.t 11)) (.some (10, .true))), (oS 13 (.fld 0 (.t 3)) (.some (10, .true))), (oS 14 (.load .false .false 1 [.none] (.t 13)) (.some (10, .true))), (oS 15 (.binB .false (.t 12) (.t 14)) (.some (10, .true))), (o1 16 (.pick (.t 10) (.t 15) (.c (.bool .false)))), (o1 17 (.mv (.t 16))), (oS 18 (.fld 1 (.t 1)) (.some (17, .true))), (oS 19 (.load .false .false 1 [] (.t 18)) (.some (17, .true))), (oS 20 (.fld 1 (.t 3)) (.some (17, .true))), (oS 21 (.load .false .false 1 [] (.t 20)) (.some (17, .true))), (oS 22 (.call .true .false (.f 23) [(.t 19), (.t 21)]) (.some (17, .true))), (o1 23 (.pick (.t 17) (.t 22) (.c (.bool .false)))), (o1 2 (.mv (.t 23)))]) .ret)))⟩

theorem F45_ok : sfn Tryd.prog hintsN 10 [] = some F45 := by kernel_rfl

theorem E45 (a0_0 : Bool) (a0_1n : Nat) (a0_1 : List Cell) (a0_2 : Int) (a0_3 : Bool) (a0_4 : List Cell) (R : Ret → Prop) : wpFO cx45 F45 (.two (.n 3 (.two (.n 3 .e) (.n 3 .e))) (.n 8 .e)) [(.agg ((.v (.bool a0_0)) :: (.sl a0_1n a0_1) :: (.v (.int .i64 a0_2)) :: (.v (.bool a0_3)) :: a0_4))] R = (bif decide (53 ≤ a0_4.length + 4) then (bif (List.take 49 a0_4).all plainC && true && ((List.take 49 a0_4).all (isInt .i64) && (List.take 49 a0_4).length == 49) && (ic .i64 (List.map intC (List.take 49 a0_4))).all (okC 0) && true && true && true && true then (bif (ic .i64 (List.map intC (List.take 49 a0_4))).length + 4 == 53 && true && true then (bif decide (53 ≤ a0_4.length + 4) then (bif (List.take 49 a0_4).all plainC && true && ((List.take 49 a0_4).all (isInt .i64) && (List.take 49 a0_4).length == 49) && true && true && true && true && true then (bif rightZ (a0_2, a0_3, List.map intC (List.take 49 a0_4)) then (bif a0_0 == a0_3 then (bif okSl 2 (.sl a0_1n a0_1) && okSl 2 (.sl (capN a0_2).toNat (ic .i64 (itvsZ (a0_2, a0_3, List.map intC (List.take 49 a0_4)) (capN a0_2).toNat))) && decide ((capN a0_2).toNat ≤ 6) && true && true && true && true && true then (R (Ret.mk (.one (.v (.bool (eqRow (.sl a0_1n a0_1) (.sl (capN a0_2).toNat (ic .i64 (itvsZ (a0_2, a0_3, List.map intC (List.take 49 a0_4)) (capN a0_2).toNat))))))) [])) else False) else (R (Ret.mk (.one (.v (.bool .false))) []))) else (R (Ret.mk (.one (.v (.bool .false))) []))) else False) else False) else False) else False) else False) := by kernel_rfl

def f45_wp (a0_0 : Bool) (a0_1n : Nat) (a0_1 : List Cell) (a0_2 : Int) (a0_3 : Bool) (a0_4 : List Cell) (R : Ret → Prop) : Prop := bif decide (53 ≤ a0_4.length + 4) then (bif (List.take 49 a0_4).all plainC && true && ((List.take 49 a0_4).all (isInt .i64) && (List.take 49 a0_4).length == 49) && (ic .i64 (List.map intC (List.take 49 a0_4))).all (okC 0) && true && true && true && true then (bif (ic .i64 (List.map intC (List.take 49 a0_4))).length + 4 == 53 && true && true then (bif (List.take 49 a0_4).all plainC && true && ((List.take 49 a0_4).all (isInt .i64) && (List.take 49 a0_4).length == 49) && true && true && true && true && true then (bif rightZ (a0_2, a0_3, List.map intC (List.take 49 a0_4)) then (bif a0_0 == a0_3 then (bif okSl 2 (.sl a0_1n a0_1) && okSl 2 (.sl (capN a0_2).toNat (ic .i64 (itvsZ (a0_2, a0_3, List.map intC (List.take 49 a0_4)) (capN a0_2).toNat))) && decide ((capN a0_2).toNat ≤ 6) && true && true && true && true && true then (R (Ret.mk (.one (.v (.bool (eqRow (.sl a0_1n a0_1) (.sl (capN a0_2).toNat (ic .i64 (itvsZ (a0_2, a0_3, List.map intC (List.take 49 a0_4)) (capN a0_2).toNat))))))) [])) else False) else (R (Ret.mk (.one (.v (.bool .false))) []))) else (R (Ret.mk (.one (.v (.bool .false))) []))) else False) else False) else False) else False

set_option maxRecDepth 100000 in
theorem f45_sound (a0_0 : Bool) (a0_1n : Nat) (a0_1 : List Cell) (a0_2 : Int) (a0_3 : Bool) (a0_4 : List Cell) (hC : CtxOk Tryd.prog cx45.q.ctx) {r : Ret} (h : f45_wp a0_0 a0_1n a0_1 a0_2 a0_3 a0_4 (fun r' => r' = r)) : SoundAt Tryd.prog 10 [(.agg ((.v (.bool a0_0)) :: (.sl a0_1n a0_1) :: (.v (.int .i64 a0_2)) :: (.v (.bool a0_3)) :: a0_4))] r := by
  refine soundAtO (C := cx45) (oc := (.two (.n 3 (.two (.n 3 .e) (.n 3 .e))) (.n 8 .e))) mixed hC F45_ok ?_
  rewrite [E45 a0_0 a0_1n a0_1 a0_2 a0_3 a0_4]
  unfold f45_wp at h
  refine ck_mapE h (fun q1 h => ck_mapE h (fun q2 h => ck_mapE h (fun q3 h => ck_i q1 (ck_mapE h (fun q4 h => ?_)))))
  refine cond_mapE h (fun q5 h => ?_) (fun q5 h => ?_)
  · skip
    refine cond_mapE h (fun q6 h => ?_) (fun q6 h => ?_)
    · skip
      refine ck_mapE h (fun q7 h => ?_)
      exact h
    · skip
      exact h
  · skip
    exact h


def cx54 : CtxW := ⟨⟨[(26, sum47)], []⟩, 2, []⟩


def F54 : SFn := ⟨10, [(.tmp 4)], (.seq (.reg [(o1 2 (.box (.t 0))), (o1 3 (.box (.t 1))), (o1 4 (.mv (.c (.bool .false))))]) (.seq (.reg [(o1 5 (.fld 2 (.t 2))), (o1 6 (.load .false .true 51 K51 (.t 5))), (o1 7 (.fld 2 (.t 3))), (o1 8 (.load .false .true 51 K51 (.t 7))), (o1 9 (.call .false .false (.f 26) [(.t 6), (.t 8)])), (o1 4 (.mv (.t 9)))]) .ret))⟩

theorem F54_ok : sfn Tryd.prog hintsN 13 [] = some F54 := by kernel_rfl

theorem E54 (a0_0 : Bool) (a0_1n : Nat) (a0_1 : List Cell) (a0_2 : Int) (a0_3 : Bool) (a0_4 : List Cell) (a1_0 : Bool) (a1_1n : Nat) (a1_1 : List Cell) (a1_2 : Int) (a1_3 : Bool) (a1_4 : List Cell) (R : Ret → Prop) : wpFO cx54 F54 .e [(.agg ((.v (.bool a0_0)) :: (.sl a0_1n a0_1) :: (.v (.int .i64 a0_2)) :: (.v (.bool a0_3)) :: a0_4)), (.agg ((.v (.bool a1_0)) :: (.sl a1_1n a1_1) :: (.v (.int .i64 a1_2)) :: (.v (.bool a1_3)) :: a1_4))] R = (bif decide (53 ≤ a0_4.length + 4) then (bif decide (53 ≤ a1_4.length + 4) then (bif (List.take 49 a0_4).all plainC && ((List.take 49 a1_4).all plainC && true) && ((List.take 49 a0_4).all (isInt .i64) && (List.take 49 a0_4).length == 49 && ((List.take 49 a1_4).all (isInt .i64) && (List.take 49 a1_4).length == 49)) && true && true && true && true && true then (R (Ret.mk (.one (.v (.bool (withinZ (a0_2, a0_3, List.map intC (List.take 49 a0_4)) (a1_2, a1_3, List.map intC (List.take 49 a1_4)))))) [])) else False) else False) else False) := by kernel_rfl

def f54_wp (a0_0 : Bool) (a0_1n : Nat) (a0_1 : List Cell) (a0_2 : Int) (a0_3 : Bool) (a0_4 : List Cell) (a1_0 : Bool) (a1_1n : Nat) (a1_1 : List Cell) (a1_2 : Int) (a1_3 : Bool) (a1_4 : List Cell) (R : Ret → Prop) : Prop := bif decide (53 ≤ a0_4.length + 4) then (bif decide (53 ≤ a1_4.length + 4) then (bif (List.take 49 a0_4).all plainC && ((List.take 49 a1_4).all plainC && true) && ((List.take 49 a0_4).all (isInt .i64) && (List.take 49 a0_4).length == 49 && ((List.take 49 a1_4).all (isInt .i64) && (List.take 49 a1_4).length == 49)) && true && true && true && true && true then (R (Ret.mk (.one (.v (.bool (withinZ (a0_2, a0_3, List.map intC (List.take 49 a0_4)) (a1_2, a1_3, List.map intC (List.take 49 a1_4)))))) [])) else False) else False) else False

set_option maxRecDepth 100000 in
theorem f54_sound (a0_0 : Bool) (a0_1n : Nat) (a0_1 : List Cell) (a0_2 : Int) (a0_3 : Bool) (a0_4 : List Cell) (a1_0 : Bool) (a1_1n : Nat) (a1_1 : List Cell) (a1_2 : Int) (a1_3 : Bool) (a1_4 : List Cell) (hC : CtxOk Tryd.prog cx54.q.ctx) {r : Ret} (h : f54_wp a0_0 a0_1n a0_1 a0_2 a0_3 a0_4 a1_0 a1_1n a1_1 a1_2 a1_3 a1_4 (fun r' => r' = r)) : SoundAt Tryd.prog 13 [(.agg ((.v (.bool a0_0)) :: (.sl a0_1n a0_1) :: (.v (.int .i64 a0_2)) :: (.v (.bool a0_3)) :: a0_4)), (.agg ((.v (.bool a1_0)) :: (.sl a1_1n a1_1) :: (.v (.int .i64 a1_2)) :: (.v (.bool a1_3)) :: a1_4))] r := by
  refine soundAtO (C := cx54) (oc := .e) mixed hC F54_ok ?_
  rewrite [E54 a0_0 a0_1n a0_1 a0_2 a0_3 a0_4 a1_0 a1_1n a1_1 a1_2 a1_3 a1_4]
  unfold f54_wp at h
  refine ck_mapE h (fun q1 h => ck_mapE h (fun q2 h => ck_mapE h (fun q3 h => ?_)))
  exact h


end Go.Proofs.YtgmciihlmgeecaaDoor.Fn
