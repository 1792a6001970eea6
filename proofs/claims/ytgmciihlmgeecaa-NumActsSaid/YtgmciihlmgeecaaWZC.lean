import Derived.Test.YtgmciihlmgeecaaWZA

/- The reference's functions of zones, walked. No conditions beyond those named. -/

namespace Go.Proofs.Ytgmciihlmgeecaa.Fn

open Go Go.RowKit Go.Proofs Go.Proofs.Ytgmciihlmgeecaa.Mt Go.Proofs.Ytgmciihlmgeecaa.Zm

set_option linter.unusedVariables false

set_option linter.unusedSimpArgs false

def cx31 : CtxW := ⟨⟨[(88, sum88)], []⟩, 2, []⟩


def F31_b1 : SC := (.seq (.seq (.reg [(o1 16 (.mv (.t 5))), (o1 17 (.mv (.t 0))), (o1 18 (.bin .leq (.t 16) (.t 17)))]) (.cond (.t 18) .skip (.exit 2))) (.seq (.blk 3 (.seq (.reg [(o1 21 (.mv (.t 4))), (o1 22 (.mv (.t 5))), (o1 23 (.bin .neq (.t 21) (.t 22)))]) (.cond (.t 23) (.reg [(o1 24 (.mv (.t 4))), (o1 25 (.mv (.t 5))), (o1 26 (.fld 2 (.t 3))), (o1 27 (.ixA 7 7 (.t 26) (.t 24))), (o1 28 (.ixA 7 1 (.t 27) (.t 25))), (.mk .none (.store .false 1 (.t 28) (.c (.int .i64 1099511627776))) .none)]) .skip))) (.reg [(o1 19 (.mv (.t 5))), (o1 20 (.bin .add (.t 19) (.c (.int .i64 1)))), (o1 5 (.mv (.t 20)))])))

def F31_c2 : SC := (.reg [(o1 14 (.mv (.t 4))), (o1 15 (.bin .add (.t 14) (.c (.int .i64 1)))), (o1 4 (.mv (.t 15)))])

def F31_b0 : SC := (.seq (.seq (.reg [(o1 11 (.mv (.t 4))), (o1 12 (.mv (.t 0))), (o1 13 (.bin .leq (.t 11) (.t 12)))]) (.cond (.t 13) .skip (.exit 0))) (.seq (.blk 1 (.seq (.reg [(o1 5 (.mv (.c (.int .i64 0))))]) (.blk 2 (.loop [0, 2, 3, 4, 5] [2, 3] [] F31_b1)))) F31_c2))

def F31_c3 : SC := (.seq (.reg [(o1 29 (.load .false .true 51 K51 (.t 3))), (o1 30 (.call .false .false (.f 88) [(.t 29)])), (.mk .none (.store .false 51 (.t 2) (.t 30)) .none)]) .ret)

def F31 : SFn := ⟨31, [(.cell 2 .true 51)], (.seq (.reg [(o1 2 (.alloc [(.int .i64 0), (.bool .false), (.int .i64 0), (.int .i64 0), (.int .i64 0), (.int .i64 0), (.int .i64 0), (.int .i64 0), (.int .i64 0), (.int .i64 0), (.int .i64 0), (.int .i64 0), (.int .i64 0), (.int .i64 0), (.int .i64 0), (.int .i64 0), (.int .i64 0), (.int .i64 0), (.int .i64 0), (.int .i64 0), (.int .i64 0), (.int .i64 0), (.int .i64 0), (.int .i64 0), (.int .i64 0), (.int .i64 0), (.int .i64 0), (.int .i64 0), (.int .i64 0), (.int .i64 0), (.int .i64 0), (.int .i64 0), (.int .i64 0), (.int .i64 0), (.int .i64 0), (.int .i64 0), (.int .i64 0), (.int .i64 0), (.int .i64 0), (.int .i64 0), (.int .i64 0), (.int .i64 0), (.int .i64 0), (.int .i64 0), (.int .i64 0), (.int .i64 0), (.int .i64 0), (.int .i64 0), (.int .i64 0), (.int .i64 0), (.int .i64 0)]))]) (.seq (.reg [(o1 6 (.mv (.t 0))), (o1 7 (.mm .true [(.t 6), (.c (.int .i64 0))])), (o1 8 (.mm .false [(.t 7), (.c (.int .i64 6))])), (o1 0 (.mv (.t 8)))]) (.seq (.reg [(o1 9 (.mv (.t 0))), (o1 10 (.build [(.int .i64 0), (.bool .false), (.int .i64 0), (.int .i64 0), (.int .i64 0), (.int .i64 0), (.int .i64 0), (.int .i64 0), (.int .i64 0), (.int .i64 0), (.int .i64 0), (.int .i64 0), (.int .i64 0), (.int .i64 0), (.int .i64 0), (.int .i64 0), (.int .i64 0), (.int .i64 0), (.int .i64 0), (.int .i64 0), (.int .i64 0), (.int .i64 0), (.int .i64 0), (.int .i64 0), (.int .i64 0), (.int .i64 0), (.int .i64 0), (.int .i64 0), (.int .i64 0), (.int .i64 0), (.int .i64 0), (.int .i64 0), (.int .i64 0), (.int .i64 0), (.int .i64 0), (.int .i64 0), (.int .i64 0), (.int .i64 0), (.int .i64 0), (.int .i64 0), (.int .i64 0), (.int .i64 0), (.int .i64 0), (.int .i64 0), (.int .i64 0), (.int .i64 0), (.int .i64 0), (.int .i64 0), (.int .i64 0), (.int .i64 0), (.int .i64 0)] [(0, (1, (.t 9)))])), (o1 3 (.alloc [(.int .i64 0), (.bool .false), (.int .i64 0), (.int .i64 0), (.int .i64 0), (.int .i64 0), (.int .i64 0), (.int .i64 0), (.int .i64 0), (.int .i64 0), (.int .i64 0), (.int .i64 0), (.int .i64 0), (.int .i64 0), (.int .i64 0), (.int .i64 0), (.int .i64 0), (.int .i64 0), (.int .i64 0), (.int .i64 0), (.int .i64 0), (.int .i64 0), (.int .i64 0), (.int .i64 0), (.int .i64 0), (.int .i64 0), (.int .i64 0), (.int .i64 0), (.int .i64 0), (.int .i64 0), (.int .i64 0), (.int .i64 0), (.int .i64 0), (.int .i64 0), (.int .i64 0), (.int .i64 0), (.int .i64 0), (.int .i64 0), (.int .i64 0), (.int .i64 0), (.int .i64 0), (.int .i64 0), (.int .i64 0), (.int .i64 0), (.int .i64 0), (.int .i64 0), (.int .i64 0), (.int .i64 0), (.int .i64 0), (.int .i64 0), (.int .i64 0)])), (.mk .none (.store .false 51 (.t 3) (.t 10)) .none)]) (.seq (.seq (.reg [(o1 4 (.mv (.c (.int .i64 0))))]) (.blk 0 (.loop [0, 2, 3, 4] [2, 3] [] F31_b0))) F31_c3))))⟩

theorem F31_ok : sfn Try.prog hints 31 [([0, 2, 3, 4], ([2, 3], [])), ([0, 2, 3, 4, 5], ([2, 3], []))] = some F31 := by kernel_rfl

abbrev X31_0 (a0 : Int) (y0_1 : List Cell) := (closeR (if 6 < if 0 > a0 then 0 else a0 then 6 else if 0 > a0 then 0 else a0, false, List.map intC y0_1))

def I31_0_0 (a0 : Int) (y0_0 : Int) (y0_1 : List Cell) : St := (.mk ((.one (.v (.int .i64 (if 6 < if 0 > a0 then 0 else a0 then 6 else if 0 > a0 then 0 else a0)))) :: (.no :: ((.box 2 0 0) :: ((.box 3 0 0) :: ((.one (.v (.int .i64 (y0_0)))) :: (n10 (n10 (.no :: (.no :: (.no :: (.no :: (.no :: (.no :: []))))))))))))) ([] :: ([] :: ([((.v (.int .i64 0)) :: (.v (.bool .false)) :: (List.replicate 49 (Cell.v (Value.int IntKind.i64 0))))] :: ([((.v (.int .i64 (if 6 < if 0 > a0 then 0 else a0 then 6 else if 0 > a0 then 0 else a0))) :: (.v (.bool .false)) :: (y0_1))] :: (e10 (e10 ([] :: ([] :: ([] :: ([] :: ([] :: ([] :: ([] :: []))))))))))))) (e10 (e10 (e10 ([] :: [])))))

def I31_3_0 (a0 : Int) (y0_0 : Int) (y0_1 : List Cell) (y3_0 : Int) (y3_1 : List Cell) : St := (.mk ((.one (.v (.int .i64 (if 6 < if 0 > a0 then 0 else a0 then 6 else if 0 > a0 then 0 else a0)))) :: (.no :: ((.box 2 0 0) :: ((.box 3 0 0) :: ((.one (.v (.int .i64 (y0_0)))) :: ((.one (.v (.int .i64 (y3_0)))) :: (n10 (n10 (.no :: (.no :: (.no :: (.no :: (.no :: []))))))))))))) ([] :: ([] :: ([((.v (.int .i64 0)) :: (.v (.bool .false)) :: (List.replicate 49 (Cell.v (Value.int IntKind.i64 0))))] :: ([((.v (.int .i64 (if 6 < if 0 > a0 then 0 else a0 then 6 else if 0 > a0 then 0 else a0))) :: (.v (.bool .false)) :: (y3_1))] :: (e10 (e10 ([] :: ([] :: ([] :: ([] :: ([] :: ([] :: ([] :: []))))))))))))) (e10 (e10 (e10 ([] :: [])))))

theorem E31_0_0 (a0 : Int) (y0_0 : Int) (y0_1 : List Cell) (N0 : Bool × St → Prop) (R : Ret → Prop) : wpO cx31 F31_b0 (.two .e .e) (I31_0_0 a0 y0_0 y0_1) (kLp (headW cx31.m [0, 2, 3, 4] [2, 3] []) N0 (kBlk 0 (kSeq cx31 F31_c3 (endO cx31.m F31.rs R)))) = (bif decide (y0_0 ≤ if 6 < if 0 > a0 then 0 else a0 then 6 else if 0 > a0 then 0 else a0) then (LoopO (bodyX cx31 F31_b1) (headW cx31.m [0, 2, 3, 4, 5] [2, 3] []) (kBlk 2 (kBlk 1 (kSeq cx31 F31_c2 (kLp (headW cx31.m [0, 2, 3, 4] [2, 3] []) N0 (kBlk 0 (kSeq cx31 F31_c3 (endO cx31.m F31.rs R))))))) (y0_1.all plainC && true && true, (I31_3_0 a0 y0_0 y0_1 0 (y0_1)))) else (bif y0_1.length + 2 == 51 then (bif y0_1.all plainC && true && (y0_1.all (isInt IntKind.i64) && y0_1.length == 49 && okN (if 6 < if 0 > a0 then 0 else a0 then 6 else if 0 > a0 then 0 else a0)) && (ic IntKind.i64 (X31_0 a0 y0_1).snd.snd).all (okC 0) && true && true && true && true then (bif (ic IntKind.i64 (X31_0 a0 y0_1).snd.snd).length + 2 == 51 && true && true then (bif (ic IntKind.i64 (X31_0 a0 y0_1).snd.snd).length + 2 == 51 && true then (bif (ic IntKind.i64 (X31_0 a0 y0_1).snd.snd).all plainC then (R (Ret.mk (.agg ((.v (.int .i64 ((X31_0 a0 y0_1).fst))) :: (.v (.bool ((X31_0 a0 y0_1).snd.fst))) :: (ic IntKind.i64 (X31_0 a0 y0_1).snd.snd))) [])) else False) else False) else False) else False) else False)) := by kernel_rfl

theorem E31_3_0 (a0 : Int) (y0_0 : Int) (y0_1 : List Cell) (y3_0 : Int) (y3_1 : List Cell) (N0 : Bool × St → Prop) (N3 : Bool × St → Prop) (R : Ret → Prop) : wpO cx31 F31_b1 (.two (.two .e .e) .e) (I31_3_0 a0 y0_0 y0_1 y3_0 y3_1) (kLp (headW cx31.m [0, 2, 3, 4, 5] [2, 3] []) N3 (kBlk 2 (kBlk 1 (kSeq cx31 F31_c2 (kLp (headW cx31.m [0, 2, 3, 4] [2, 3] []) N0 (kBlk 0 (kSeq cx31 F31_c3 (endO cx31.m F31.rs R)))))))) = (bif decide (y3_0 ≤ if 6 < if 0 > a0 then 0 else a0 then 6 else if 0 > a0 then 0 else a0) then (bif y0_0 != y3_0 then (bif decide (0 ≤ y0_0) && decide (y0_0 < 7) then (bif decide (0 ≤ y3_0) && decide (y3_0 < 7) then (bif decide (y3_0.toNat * 1 + y0_0.toNat * 7 + 3 ≤ y3_1.length + 2) then (N3 ((y3_1.set (y3_0.toNat * 1 + y0_0.toNat * 7) (Cell.v (Value.int IntKind.i64 1099511627776))).all plainC && true && true, (I31_3_0 a0 y0_0 y0_1 (IntKind.i64.wrap (y3_0 + 1)) (y3_1.set (y3_0.toNat * 1 + y0_0.toNat * 7) (Cell.v (Value.int IntKind.i64 1099511627776)))))) else False) else False) else False) else (N3 (y3_1.all plainC && true && true, (I31_3_0 a0 y0_0 y0_1 (IntKind.i64.wrap (y3_0 + 1)) (y3_1))))) else (N0 (y3_1.all plainC && true && true, (I31_0_0 a0 (IntKind.i64.wrap (y0_0 + 1)) (y3_1))))) := by kernel_rfl

theorem E31 (a0 : Int) (R : Ret → Prop) : wpFO cx31 F31 .e [(.one (.v (.int .i64 a0)))] R = (LoopO (bodyX cx31 F31_b0) (headW cx31.m [0, 2, 3, 4] [2, 3] []) (kBlk 0 (kSeq cx31 F31_c3 (endO cx31.m F31.rs R))) (true, (I31_0_0 a0 0 (List.replicate 49 (Cell.v (Value.int IntKind.i64 0)))))) := by kernel_rfl

def f31_wp (a0 : Int) (R : Ret → Prop) : Prop := LoopP (fun (z0 : (Int × (List Cell))) (k0 : (Int × (List Cell)) → Prop) => (fun (z : Int × (List Cell)) => (fun (y0_0 : Int) (y0_1 : List Cell) => bif decide (y0_0 ≤ if 6 < if 0 > a0 then 0 else a0 then 6 else if 0 > a0 then 0 else a0) then ((y0_1.all plainC && true && true) = true ∧ LoopP (fun (z3 : (Int × (List Cell))) (k3 : (Int × (List Cell)) → Prop) => (fun (z : Int × (List Cell)) => (fun (y3_0 : Int) (y3_1 : List Cell) => bif decide (y3_0 ≤ if 6 < if 0 > a0 then 0 else a0 then 6 else if 0 > a0 then 0 else a0) then (bif y0_0 != y3_0 then (bif decide (0 ≤ y0_0) && decide (y0_0 < 7) then (bif decide (0 ≤ y3_0) && decide (y3_0 < 7) then (bif decide (y3_0.toNat * 1 + y0_0.toNat * 7 + 3 ≤ y3_1.length + 2) then (((y3_1.set (y3_0.toNat * 1 + y0_0.toNat * 7) (Cell.v (Value.int IntKind.i64 1099511627776))).all plainC && true && true) = true ∧ k3 ((IntKind.i64.wrap (y3_0 + 1)), (y3_1.set (y3_0.toNat * 1 + y0_0.toNat * 7) (Cell.v (Value.int IntKind.i64 1099511627776))))) else False) else False) else False) else ((y3_1.all plainC && true && true) = true ∧ k3 ((IntKind.i64.wrap (y3_0 + 1)), (y3_1)))) else ((y3_1.all plainC && true && true) = true ∧ k0 ((IntKind.i64.wrap (y0_0 + 1)), (y3_1)))) z.1 z.2) z3) (0, (y0_1))) else (bif y0_1.length + 2 == 51 then (bif y0_1.all plainC && true && (y0_1.all (isInt IntKind.i64) && y0_1.length == 49 && okN (if 6 < if 0 > a0 then 0 else a0 then 6 else if 0 > a0 then 0 else a0)) && (ic IntKind.i64 (X31_0 a0 y0_1).snd.snd).all (okC 0) && true && true && true && true then (bif (ic IntKind.i64 (X31_0 a0 y0_1).snd.snd).length + 2 == 51 && true && true then (bif (ic IntKind.i64 (X31_0 a0 y0_1).snd.snd).length + 2 == 51 && true then (bif (ic IntKind.i64 (X31_0 a0 y0_1).snd.snd).all plainC then (R (Ret.mk (.agg ((.v (.int .i64 ((X31_0 a0 y0_1).fst))) :: (.v (.bool ((X31_0 a0 y0_1).snd.fst))) :: (ic IntKind.i64 (X31_0 a0 y0_1).snd.snd))) [])) else False) else False) else False) else False) else False)) z.1 z.2) z0) (0, (List.replicate 49 (Cell.v (Value.int IntKind.i64 0))))

set_option maxRecDepth 100000 in
theorem f31_sound (a0 : Int) (hC : CtxOk Try.prog cx31.q.ctx) {r : Ret} (h : f31_wp a0 (fun r' => r' = r)) : SoundAt Try.prog 31 [(.one (.v (.int .i64 a0)))] r := by
  refine soundAtO (C := cx31) (oc := .e) mixed hC F31_ok ?_
  rewrite [E31 a0]
  unfold f31_wp at h
  refine loop_of (I := (fun (z : Int × (List Cell)) => (I31_0_0 a0 z.1 z.2))) (fun z k0 h => ?_) h rfl rfl
  obtain ⟨y0_0, y0_1⟩ := z
  try dsimp only [sumE_l, sumE_r] at h
  refine bodyX_i (ob := (.two .e .e)) ?_
  rewrite [E31_0_0 a0 y0_0 y0_1]
  refine cond_mapE h (fun q34 h => ?_) (fun q34 h => ?_)
  · skip
    obtain ⟨q52, h⟩ := h
    refine loop_of (I := (fun (z : Int × (List Cell)) => (I31_3_0 a0 y0_0 y0_1 z.1 z.2))) (fun z k3 h => ?_) h q52 rfl
    obtain ⟨y3_0, y3_1⟩ := z
    try dsimp only [sumE_l, sumE_r] at h
    refine bodyX_i (ob := (.two (.two .e .e) .e)) ?_
    rewrite [E31_3_0 a0 y0_0 y0_1 y3_0 y3_1]
    refine cond_mapE h (fun q44 h => ?_) (fun q44 h => ?_)
    · skip
      refine cond_mapE h (fun q45 h => ?_) (fun q45 h => ?_)
      · skip
        refine ck_mapE h (fun q46 h => ?_)
        refine ck_mapE h (fun q47 h => ?_)
        refine ck_mapE h (fun q48 h => ?_)
        obtain ⟨q49, h⟩ := h
        exact again_i (y := ((IntKind.i64.wrap (y3_0 + 1)), (y3_1.set (y3_0.toNat * 1 + y0_0.toNat * 7) (Cell.v (Value.int IntKind.i64 1099511627776))))) q49 h
      · skip
        obtain ⟨q50, h⟩ := h
        exact again_i (y := ((IntKind.i64.wrap (y3_0 + 1)), (y3_1))) q50 h
    · skip
      obtain ⟨q51, h⟩ := h
      exact again_i (y := ((IntKind.i64.wrap (y0_0 + 1)), (y3_1))) q51 h
  · skip
    refine ck_mapE h (fun q53 h => ?_)
    refine ck_mapE h (fun q54 h => ?_)
    refine ck_mapE h (fun q55 h => ?_)
    refine ck_mapE h (fun q57 h => ?_)
    refine ck_mapE h (fun q56 h => ?_)
    exact h


def cx88 : CtxW := ⟨⟨[], []⟩, 2, []⟩


def F88_b0 : SC := (.seq (.seq (.reg [(o1 14 (.mv (.t 3))), (o1 15 (.fld 0 (.t 1))), (o1 16 (.load .false .false 1 [(.some .i64)] (.t 15))), (o1 17 (.bin .leq (.t 14) (.t 16)))]) (.cond (.t 17) .skip (.exit 0))) (.seq (.blk 1 (.seq (.reg [(o1 20 (.mv (.t 3))), (o1 21 (.mv (.t 3))), (o1 22 (.fld 2 (.t 1))), (o1 23 (.ixA 7 7 (.t 22) (.t 21))), (o1 24 (.ixA 7 1 (.t 23) (.c (.int .i64 0)))), (o1 25 (.load .false .false 1 [(.some .i64)] (.t 24))), (o1 26 (.mm .false [(.t 25), (.c (.int .i64 2147483647))])), (o1 27 (.fld 2 (.t 1))), (o1 28 (.ixA 7 7 (.t 27) (.t 20))), (o1 29 (.ixA 7 1 (.t 28) (.c (.int .i64 0)))), (.mk .none (.store .false 1 (.t 29) (.t 26)) .none)]) (.reg [(o1 30 (.mv (.t 3))), (o1 31 (.mv (.t 3))), (o1 32 (.fld 2 (.t 1))), (o1 33 (.ixA 7 7 (.t 32) (.c (.int .i64 0)))), (o1 34 (.ixA 7 1 (.t 33) (.t 31))), (o1 35 (.load .false .false 1 [(.some .i64)] (.t 34))), (o1 36 (.mm .false [(.t 35), (.c (.int .i64 2147483648))])), (o1 37 (.fld 2 (.t 1))), (o1 38 (.ixA 7 7 (.t 37) (.c (.int .i64 0)))), (o1 39 (.ixA 7 1 (.t 38) (.t 30))), (.mk .none (.store .false 1 (.t 39) (.t 36)) .none)]))) (.reg [(o1 18 (.mv (.t 3))), (o1 19 (.bin .add (.t 18) (.c (.int .i64 1)))), (o1 3 (.mv (.t 19)))])))

def F88_b5 : SC := (.seq (.seq (.reg [(o1 59 (.mv (.t 7))), (o1 60 (.fld 0 (.t 1))), (o1 61 (.load .false .false 1 [(.some .i64)] (.t 60))), (o1 62 (.bin .leq (.t 59) (.t 61)))]) (.cond (.t 62) .skip (.exit 8))) (.seq (.blk 9 (.reg [(o1 65 (.mv (.t 5))), (o1 66 (.mv (.t 6))), (o1 67 (.mv (.t 5))), (o1 68 (.mv (.t 6))), (o1 69 (.fld 2 (.t 1))), (o1 70 (.ixA 7 7 (.t 69) (.t 67))), (o1 71 (.ixA 7 1 (.t 70) (.t 68))), (o1 72 (.load .false .false 1 [(.some .i64)] (.t 71))), (o1 73 (.mv (.t 5))), (o1 74 (.mv (.t 7))), (o1 75 (.fld 2 (.t 1))), (o1 76 (.ixA 7 7 (.t 75) (.t 73))), (o1 77 (.ixA 7 1 (.t 76) (.t 74))), (o1 78 (.load .false .false 1 [(.some .i64)] (.t 77))), (o1 79 (.mv (.t 7))), (o1 80 (.mv (.t 6))), (o1 81 (.fld 2 (.t 1))), (o1 82 (.ixA 7 7 (.t 81) (.t 79))), (o1 83 (.ixA 7 1 (.t 82) (.t 80))), (o1 84 (.load .false .false 1 [(.some .i64)] (.t 83))), (o1 85 (.bin .add (.t 78) (.t 84))), (o1 86 (.mm .false [(.t 72), (.t 85)])), (o1 87 (.mm .true [(.t 86), (.c (.int .i64 (-35184372088832)))])), (o1 88 (.fld 2 (.t 1))), (o1 89 (.ixA 7 7 (.t 88) (.t 65))), (o1 90 (.ixA 7 1 (.t 89) (.t 66))), (.mk .none (.store .false 1 (.t 90) (.t 87)) .none)])) (.reg [(o1 63 (.mv (.t 7))), (o1 64 (.bin .add (.t 63) (.c (.int .i64 1)))), (o1 7 (.mv (.t 64)))])))

def F88_c6 : SC := (.reg [(o1 57 (.mv (.t 6))), (o1 58 (.bin .add (.t 57) (.c (.int .i64 1)))), (o1 6 (.mv (.t 58)))])

def F88_b4 : SC := (.seq (.seq (.reg [(o1 53 (.mv (.t 6))), (o1 54 (.fld 0 (.t 1))), (o1 55 (.load .false .false 1 [(.some .i64)] (.t 54))), (o1 56 (.bin .leq (.t 53) (.t 55)))]) (.cond (.t 56) .skip (.exit 6))) (.seq (.blk 7 (.seq (.reg [(o1 7 (.mv (.c (.int .i64 0))))]) (.blk 8 (.loop [1, 2, 4, 5, 6, 7] [1, 2] [] F88_b5)))) F88_c6))

def F88_c7 : SC := (.reg [(o1 51 (.mv (.t 5))), (o1 52 (.bin .add (.t 51) (.c (.int .i64 1)))), (o1 5 (.mv (.t 52)))])

def F88_b3 : SC := (.seq (.seq (.reg [(o1 47 (.mv (.t 5))), (o1 48 (.fld 0 (.t 1))), (o1 49 (.load .false .false 1 [(.some .i64)] (.t 48))), (o1 50 (.bin .leq (.t 47) (.t 49)))]) (.cond (.t 50) .skip (.exit 4))) (.seq (.blk 5 (.seq (.reg [(o1 6 (.mv (.c (.int .i64 0))))]) (.blk 6 (.loop [1, 2, 4, 5, 6] [1, 2] [] F88_b4)))) F88_c7))

def F88_c8 : SC := (.reg [(o1 45 (.mv (.t 4))), (o1 46 (.bin .add (.t 45) (.c (.int .i64 1)))), (o1 4 (.mv (.t 46)))])

def F88_b2 : SC := (.seq (.seq (.reg [(o1 40 (.mv (.t 4))), (o1 41 (.fld 0 (.t 1))), (o1 42 (.load .false .false 1 [(.some .i64)] (.t 41))), (o1 43 (.bin .add (.t 42) (.c (.int .i64 1)))), (o1 44 (.bin .leq (.t 40) (.t 43)))]) (.cond (.t 44) .skip (.exit 2))) (.seq (.blk 3 (.seq (.reg [(o1 5 (.mv (.c (.int .i64 0))))]) (.blk 4 (.loop [1, 2, 4, 5] [1, 2] [] F88_b3)))) F88_c8))

def F88_b10 : SC := (.seq (.seq (.reg [(o1 91 (.mv (.t 8))), (o1 92 (.fld 0 (.t 1))), (o1 93 (.load .false .false 1 [(.some .i64)] (.t 92))), (o1 94 (.bin .leq (.t 91) (.t 93)))]) (.cond (.t 94) .skip (.exit 10))) (.seq (.blk 11 (.seq (.reg [(o1 97 (.mv (.t 8))), (o1 98 (.mv (.t 8))), (o1 99 (.fld 2 (.t 1))), (o1 100 (.ixA 7 7 (.t 99) (.t 97))), (o1 101 (.ixA 7 1 (.t 100) (.t 98))), (o1 102 (.load .false .false 1 [(.some .i64)] (.t 101))), (o1 103 (.bin .lss (.t 102) (.c (.int .i64 0))))]) (.cond (.t 103) (.seq (.reg [(o1 104 (.fld 0 (.t 1))), (o1 105 (.load .false .false 1 [(.some .i64)] (.t 104))), (o1 106 (.build [(.int .i64 0), (.bool .false), (.int .i64 0), (.int .i64 0), (.int .i64 0), (.int .i64 0), (.int .i64 0), (.int .i64 0), (.int .i64 0), (.int .i64 0), (.int .i64 0), (.int .i64 0), (.int .i64 0), (.int .i64 0), (.int .i64 0), (.int .i64 0), (.int .i64 0), (.int .i64 0), (.int .i64 0), (.int .i64 0), (.int .i64 0), (.int .i64 0), (.int .i64 0), (.int .i64 0), (.int .i64 0), (.int .i64 0), (.int .i64 0), (.int .i64 0), (.int .i64 0), (.int .i64 0), (.int .i64 0), (.int .i64 0), (.int .i64 0), (.int .i64 0), (.int .i64 0), (.int .i64 0), (.int .i64 0), (.int .i64 0), (.int .i64 0), (.int .i64 0), (.int .i64 0), (.int .i64 0), (.int .i64 0), (.int .i64 0), (.int .i64 0), (.int .i64 0), (.int .i64 0), (.int .i64 0), (.int .i64 0), (.int .i64 0), (.int .i64 0)] [(0, (1, (.t 105))), (1, (1, (.c (.bool .true))))])), (.mk .none (.store .false 51 (.t 2) (.t 106)) .none)]) .ret) .skip))) (.reg [(o1 95 (.mv (.t 8))), (o1 96 (.bin .add (.t 95) (.c (.int .i64 1)))), (o1 8 (.mv (.t 96)))])))

def F88_c11 : SC := (.seq (.reg [(o1 107 (.load .false .true 51 K51 (.t 1))), (.mk .none (.store .false 51 (.t 2) (.t 107)) .none)]) .ret)

def F88_c9 : SC := (.seq (.seq (.reg [(o1 8 (.mv (.c (.int .i64 0))))]) (.blk 10 (.loop [1, 2, 8] [1, 2] [] F88_b10))) F88_c11)

def F88_c1 : SC := (.seq (.seq (.reg [(o1 4 (.mv (.c (.int .i64 0))))]) (.blk 2 (.loop [1, 2, 4] [1, 2] [] F88_b2))) F88_c9)

def F88 : SFn := ⟨108, [(.cell 2 .true 51)], (.seq (.reg [(o1 1 (.box (.t 0))), (o1 2 (.alloc [(.int .i64 0), (.bool .false), (.int .i64 0), (.int .i64 0), (.int .i64 0), (.int .i64 0), (.int .i64 0), (.int .i64 0), (.int .i64 0), (.int .i64 0), (.int .i64 0), (.int .i64 0), (.int .i64 0), (.int .i64 0), (.int .i64 0), (.int .i64 0), (.int .i64 0), (.int .i64 0), (.int .i64 0), (.int .i64 0), (.int .i64 0), (.int .i64 0), (.int .i64 0), (.int .i64 0), (.int .i64 0), (.int .i64 0), (.int .i64 0), (.int .i64 0), (.int .i64 0), (.int .i64 0), (.int .i64 0), (.int .i64 0), (.int .i64 0), (.int .i64 0), (.int .i64 0), (.int .i64 0), (.int .i64 0), (.int .i64 0), (.int .i64 0), (.int .i64 0), (.int .i64 0), (.int .i64 0), (.int .i64 0), (.int .i64 0), (.int .i64 0), (.int .i64 0), (.int .i64 0), (.int .i64 0), (.int .i64 0), (.int .i64 0), (.int .i64 0)]))]) (.seq (.seq (.reg [(o1 9 (.fld 1 (.t 1))), (o1 10 (.load .false .false 1 [.none] (.t 9)))]) (.cond (.t 10) (.seq (.reg [(o1 11 (.fld 0 (.t 1))), (o1 12 (.load .false .false 1 [(.some .i64)] (.t 11))), (o1 13 (.build [(.int .i64 0), (.bool .false), (.int .i64 0), (.int .i64 0), (.int .i64 0), (.int .i64 0), (.int .i64 0), (.int .i64 0), (.int .i64 0), (.int .i64 0), (.int .i64 0), (.int .i64 0), (.int .i64 0), (.int .i64 0), (.int .i64 0), (.int .i64 0), (.int .i64 0), (.int .i64 0), (.int .i64 0), (.int .i64 0), (.int .i64 0), (.int .i64 0), (.int .i64 0), (.int .i64 0), (.int .i64 0), (.int .i64 0), (.int .i64 0), (.int .i64 0), (.int .i64 0), (.int .i64 0), (.int .i64 0), (.int .i64 0), (.int .i64 0), (.int .i64 0), (.int .i64 0), (.int .i64 0), (.int .i64 0), (.int .i64 0), (.int .i64 0), (.int .i64 0), (.int .i64 0), (.int .i64 0), (.int .i64 0), (.int .i64 0), (.int .i64 0), (.int .i64 0), (.int .i64 0), (.int .i64 0), (.int .i64 0), (.int .i64 0), (.int .i64 0)] [(0, (1, (.t 12))), (1, (1, (.c (.bool .true))))])), (.mk .none (.store .false 51 (.t 2) (.t 13)) .none)]) .ret) .skip)) (.seq (.seq (.reg [(o1 3 (.mv (.c (.int .i64 1))))]) (.blk 0 (.loop [1, 2, 3] [1, 2] [] F88_b0))) F88_c1)))⟩

theorem F88_ok : sfn Try.prog hints 88 [([1, 2, 3], ([1, 2], [])), ([1, 2, 4], ([1, 2], [])), ([1, 2, 4, 5], ([1, 2], [])), ([1, 2, 4, 5, 6], ([1, 2], [])), ([1, 2, 4, 5, 6, 7], ([1, 2], [])), ([1, 2, 8], ([1, 2], []))] = some F88 := by kernel_rfl

abbrev X88_0 (y28_0 : Int) (y37_0 : Int) (y40_0 : Int) (y40_1 : List Cell) := (y40_1.set (y37_0.toNat * 1 + y28_0.toNat * 7) (Cell.v (Value.int IntKind.i64 (if -35184372088832 > if IntKind.i64.wrap (intC (y40_1.getD (y40_0.toNat * 1 + y28_0.toNat * 7) Cell.dead) + intC (y40_1.getD (y37_0.toNat * 1 + y40_0.toNat * 7) Cell.dead)) < intC (y40_1.getD (y37_0.toNat * 1 + y28_0.toNat * 7) Cell.dead) then IntKind.i64.wrap (intC (y40_1.getD (y40_0.toNat * 1 + y28_0.toNat * 7) Cell.dead) + intC (y40_1.getD (y37_0.toNat * 1 + y40_0.toNat * 7) Cell.dead)) else intC (y40_1.getD (y37_0.toNat * 1 + y28_0.toNat * 7) Cell.dead) then -35184372088832 else if IntKind.i64.wrap (intC (y40_1.getD (y40_0.toNat * 1 + y28_0.toNat * 7) Cell.dead) + intC (y40_1.getD (y37_0.toNat * 1 + y40_0.toNat * 7) Cell.dead)) < intC (y40_1.getD (y37_0.toNat * 1 + y28_0.toNat * 7) Cell.dead) then IntKind.i64.wrap (intC (y40_1.getD (y40_0.toNat * 1 + y28_0.toNat * 7) Cell.dead) + intC (y40_1.getD (y37_0.toNat * 1 + y40_0.toNat * 7) Cell.dead)) else intC (y40_1.getD (y37_0.toNat * 1 + y28_0.toNat * 7) Cell.dead)))))
abbrev X88_1 (y0_0 : Int) (y0_1 : List Cell) := (y0_1.set (0 + y0_0.toNat * 7) (Cell.v (Value.int IntKind.i64 (if 2147483647 < intC (y0_1.getD (0 + y0_0.toNat * 7) Cell.dead) then 2147483647 else intC (y0_1.getD (0 + y0_0.toNat * 7) Cell.dead)))))
abbrev X88_2 (y0_0 : Int) (y0_1 : List Cell) := ((X88_1 y0_0 y0_1).set (y0_0.toNat * 1) (Cell.v (Value.int IntKind.i64 (if 2147483648 < intC ((X88_1 y0_0 y0_1).getD (y0_0.toNat * 1) Cell.dead) then 2147483648 else intC ((X88_1 y0_0 y0_1).getD (y0_0.toNat * 1) Cell.dead)))))

def I88_0_0 (a0_0 : Int) (a0_1 : Bool) (a0_2 : List Cell) (y0_0 : Int) (y0_1 : List Cell) : St := (.mk (.no :: ((.box 1 0 0) :: ((.box 2 0 0) :: ((.one (.v (.int .i64 (y0_0)))) :: (n10 (n10 (n10 (n10 (n10 (n10 (n10 (n10 (n10 (n10 (.no :: (.no :: (.no :: (.no :: [])))))))))))))))))) ([] :: ([((.v (.int .i64 (a0_0))) :: (.v (.bool (a0_1))) :: (y0_1))] :: ([((.v (.int .i64 0)) :: (.v (.bool .false)) :: (List.replicate 49 (Cell.v (Value.int IntKind.i64 0))))] :: (e10 (e10 (e10 (e10 (e10 (e10 (e10 (e10 (e10 (e10 ([] :: ([] :: ([] :: ([] :: ([] :: [])))))))))))))))))) (e10 (e10 (e10 (e10 (e10 (e10 (e10 (e10 (e10 (e10 ([] :: ([] :: ([] :: ([] :: ([] :: ([] :: ([] :: ([] :: [])))))))))))))))))))

def I88_1_0 (a0_0 : Int) (a0_1 : Bool) (a0_2 : List Cell) (y0_0 : Int) (y0_1 : List Cell) (y1_0 : Int) (y1_1 : List Cell) : St := (.mk (.no :: ((.box 1 0 0) :: ((.box 2 0 0) :: (.no :: ((.one (.v (.int .i64 (y1_0)))) :: (n10 (n10 (n10 (n10 (n10 (n10 (n10 (n10 (n10 (n10 (.no :: (.no :: (.no :: [])))))))))))))))))) ([] :: ([((.v (.int .i64 (a0_0))) :: (.v (.bool (a0_1))) :: (y1_1))] :: ([((.v (.int .i64 0)) :: (.v (.bool .false)) :: (List.replicate 49 (Cell.v (Value.int IntKind.i64 0))))] :: (e10 (e10 (e10 (e10 (e10 (e10 (e10 (e10 (e10 (e10 ([] :: ([] :: ([] :: ([] :: ([] :: [])))))))))))))))))) (e10 (e10 (e10 (e10 (e10 (e10 (e10 (e10 (e10 (e10 ([] :: ([] :: ([] :: ([] :: ([] :: ([] :: ([] :: ([] :: [])))))))))))))))))))

def I88_28_0 (a0_0 : Int) (a0_1 : Bool) (a0_2 : List Cell) (y0_0 : Int) (y0_1 : List Cell) (y1_0 : Int) (y1_1 : List Cell) (y28_0 : Int) (y28_1 : List Cell) : St := (.mk (.no :: ((.box 1 0 0) :: ((.box 2 0 0) :: (.no :: ((.one (.v (.int .i64 (y1_0)))) :: ((.one (.v (.int .i64 (y28_0)))) :: (n10 (n10 (n10 (n10 (n10 (n10 (n10 (n10 (n10 (n10 (.no :: (.no :: [])))))))))))))))))) ([] :: ([((.v (.int .i64 (a0_0))) :: (.v (.bool (a0_1))) :: (y28_1))] :: ([((.v (.int .i64 0)) :: (.v (.bool .false)) :: (List.replicate 49 (Cell.v (Value.int IntKind.i64 0))))] :: (e10 (e10 (e10 (e10 (e10 (e10 (e10 (e10 (e10 (e10 ([] :: ([] :: ([] :: ([] :: ([] :: [])))))))))))))))))) (e10 (e10 (e10 (e10 (e10 (e10 (e10 (e10 (e10 (e10 ([] :: ([] :: ([] :: ([] :: ([] :: ([] :: ([] :: ([] :: [])))))))))))))))))))

def I88_37_0 (a0_0 : Int) (a0_1 : Bool) (a0_2 : List Cell) (y0_0 : Int) (y0_1 : List Cell) (y1_0 : Int) (y1_1 : List Cell) (y28_0 : Int) (y28_1 : List Cell) (y37_0 : Int) (y37_1 : List Cell) : St := (.mk (.no :: ((.box 1 0 0) :: ((.box 2 0 0) :: (.no :: ((.one (.v (.int .i64 (y1_0)))) :: ((.one (.v (.int .i64 (y28_0)))) :: ((.one (.v (.int .i64 (y37_0)))) :: (n10 (n10 (n10 (n10 (n10 (n10 (n10 (n10 (n10 (n10 (.no :: [])))))))))))))))))) ([] :: ([((.v (.int .i64 (a0_0))) :: (.v (.bool (a0_1))) :: (y37_1))] :: ([((.v (.int .i64 0)) :: (.v (.bool .false)) :: (List.replicate 49 (Cell.v (Value.int IntKind.i64 0))))] :: (e10 (e10 (e10 (e10 (e10 (e10 (e10 (e10 (e10 (e10 ([] :: ([] :: ([] :: ([] :: ([] :: [])))))))))))))))))) (e10 (e10 (e10 (e10 (e10 (e10 (e10 (e10 (e10 (e10 ([] :: ([] :: ([] :: ([] :: ([] :: ([] :: ([] :: ([] :: [])))))))))))))))))))

def I88_40_0 (a0_0 : Int) (a0_1 : Bool) (a0_2 : List Cell) (y0_0 : Int) (y0_1 : List Cell) (y1_0 : Int) (y1_1 : List Cell) (y28_0 : Int) (y28_1 : List Cell) (y37_0 : Int) (y37_1 : List Cell) (y40_0 : Int) (y40_1 : List Cell) : St := (.mk (.no :: ((.box 1 0 0) :: ((.box 2 0 0) :: (.no :: ((.one (.v (.int .i64 (y1_0)))) :: ((.one (.v (.int .i64 (y28_0)))) :: ((.one (.v (.int .i64 (y37_0)))) :: ((.one (.v (.int .i64 (y40_0)))) :: (n10 (n10 (n10 (n10 (n10 (n10 (n10 (n10 (n10 (n10 [])))))))))))))))))) ([] :: ([((.v (.int .i64 (a0_0))) :: (.v (.bool (a0_1))) :: (y40_1))] :: ([((.v (.int .i64 0)) :: (.v (.bool .false)) :: (List.replicate 49 (Cell.v (Value.int IntKind.i64 0))))] :: (e10 (e10 (e10 (e10 (e10 (e10 (e10 (e10 (e10 (e10 ([] :: ([] :: ([] :: ([] :: ([] :: [])))))))))))))))))) (e10 (e10 (e10 (e10 (e10 (e10 (e10 (e10 (e10 (e10 ([] :: ([] :: ([] :: ([] :: ([] :: ([] :: ([] :: ([] :: [])))))))))))))))))))

def I88_41_0 (a0_0 : Int) (a0_1 : Bool) (a0_2 : List Cell) (y0_0 : Int) (y0_1 : List Cell) (y1_0 : Int) (y1_1 : List Cell) (y41_0 : Int) : St := (.mk (.no :: ((.box 1 0 0) :: ((.box 2 0 0) :: (.no :: (.no :: (.no :: (.no :: (.no :: ((.one (.v (.int .i64 (y41_0)))) :: (n10 (n10 (n10 (n10 (n10 (n10 (n10 (n10 (n10 (.no :: (.no :: (.no :: (.no :: (.no :: (.no :: (.no :: (.no :: (.no :: []))))))))))))))))))))))))))) ([] :: ([((.v (.int .i64 (a0_0))) :: (.v (.bool (a0_1))) :: (y1_1))] :: ([((.v (.int .i64 0)) :: (.v (.bool .false)) :: (List.replicate 49 (Cell.v (Value.int IntKind.i64 0))))] :: (e10 (e10 (e10 (e10 (e10 (e10 (e10 (e10 (e10 (e10 ([] :: ([] :: ([] :: ([] :: ([] :: [])))))))))))))))))) (e10 (e10 (e10 (e10 (e10 (e10 (e10 (e10 (e10 (e10 ([] :: ([] :: ([] :: ([] :: ([] :: ([] :: ([] :: ([] :: [])))))))))))))))))))

theorem E88_0_0 (a0_0 : Int) (a0_1 : Bool) (a0_2 : List Cell) (y0_0 : Int) (y0_1 : List Cell) (N0 : Bool × St → Prop) (R : Ret → Prop) : wpO cx88 F88_b0 (.two .e .e) (I88_0_0 a0_0 a0_1 a0_2 y0_0 y0_1) (kLp (headW cx88.m [1, 2, 3] [1, 2] []) N0 (kBlk 0 (kSeq cx88 F88_c1 (endO cx88.m F88.rs R)))) = (bif decide (y0_0 ≤ a0_0) then (bif decide (0 ≤ y0_0) && decide (y0_0 < 7) then (bif decide (0 + y0_0.toNat * 7 + 3 ≤ y0_1.length + 2) && okK (some IntKind.i64) (y0_1.getD (0 + y0_0.toNat * 7) Cell.dead) then (bif decide (0 ≤ y0_0) && decide (y0_0 < 7) then (bif decide (0 + y0_0.toNat * 7 + 3 ≤ y0_1.length + 2) then (bif decide (0 ≤ y0_0) && decide (y0_0 < 7) then (bif decide (y0_0.toNat * 1 + 3 ≤ (X88_1 y0_0 y0_1).length + 2) && okK (some IntKind.i64) ((X88_1 y0_0 y0_1).getD (y0_0.toNat * 1) Cell.dead) then (bif decide (0 ≤ y0_0) && decide (y0_0 < 7) then (bif decide (y0_0.toNat * 1 + 3 ≤ (X88_1 y0_0 y0_1).length + 2) then (N0 ((X88_2 y0_0 y0_1).all plainC && true && true, (I88_0_0 a0_0 a0_1 a0_2 (IntKind.i64.wrap (y0_0 + 1)) (X88_2 y0_0 y0_1)))) else False) else False) else False) else False) else False) else False) else False) else False) else (LoopO (bodyX cx88 F88_b2) (headW cx88.m [1, 2, 4] [1, 2] []) (kBlk 2 (kSeq cx88 F88_c9 (endO cx88.m F88.rs R))) (y0_1.all plainC && true && true, (I88_1_0 a0_0 a0_1 a0_2 y0_0 y0_1 0 (y0_1))))) := by kernel_rfl

theorem E88_1_0 (a0_0 : Int) (a0_1 : Bool) (a0_2 : List Cell) (y0_0 : Int) (y0_1 : List Cell) (y1_0 : Int) (y1_1 : List Cell) (N1 : Bool × St → Prop) (R : Ret → Prop) : wpO cx88 F88_b2 (.two .e .e) (I88_1_0 a0_0 a0_1 a0_2 y0_0 y0_1 y1_0 y1_1) (kLp (headW cx88.m [1, 2, 4] [1, 2] []) N1 (kBlk 2 (kSeq cx88 F88_c9 (endO cx88.m F88.rs R)))) = (bif decide (y1_0 ≤ IntKind.i64.wrap (a0_0 + 1)) then (LoopO (bodyX cx88 F88_b3) (headW cx88.m [1, 2, 4, 5] [1, 2] []) (kBlk 4 (kBlk 3 (kSeq cx88 F88_c8 (kLp (headW cx88.m [1, 2, 4] [1, 2] []) N1 (kBlk 2 (kSeq cx88 F88_c9 (endO cx88.m F88.rs R))))))) (y1_1.all plainC && true && true, (I88_28_0 a0_0 a0_1 a0_2 y0_0 y0_1 y1_0 y1_1 0 (y1_1)))) else (LoopO (bodyX cx88 F88_b10) (headW cx88.m [1, 2, 8] [1, 2] []) (kBlk 10 (kSeq cx88 F88_c11 (endO cx88.m F88.rs R))) (y1_1.all plainC && true && true, (I88_41_0 a0_0 a0_1 a0_2 y0_0 y0_1 y1_0 y1_1 0)))) := by kernel_rfl

theorem E88_28_0 (a0_0 : Int) (a0_1 : Bool) (a0_2 : List Cell) (y0_0 : Int) (y0_1 : List Cell) (y1_0 : Int) (y1_1 : List Cell) (y28_0 : Int) (y28_1 : List Cell) (N1 : Bool × St → Prop) (N28 : Bool × St → Prop) (R : Ret → Prop) : wpO cx88 F88_b3 (.two .e .e) (I88_28_0 a0_0 a0_1 a0_2 y0_0 y0_1 y1_0 y1_1 y28_0 y28_1) (kLp (headW cx88.m [1, 2, 4, 5] [1, 2] []) N28 (kBlk 4 (kBlk 3 (kSeq cx88 F88_c8 (kLp (headW cx88.m [1, 2, 4] [1, 2] []) N1 (kBlk 2 (kSeq cx88 F88_c9 (endO cx88.m F88.rs R)))))))) = (bif decide (y28_0 ≤ a0_0) then (LoopO (bodyX cx88 F88_b4) (headW cx88.m [1, 2, 4, 5, 6] [1, 2] []) (kBlk 6 (kBlk 5 (kSeq cx88 F88_c7 (kLp (headW cx88.m [1, 2, 4, 5] [1, 2] []) N28 (kBlk 4 (kBlk 3 (kSeq cx88 F88_c8 (kLp (headW cx88.m [1, 2, 4] [1, 2] []) N1 (kBlk 2 (kSeq cx88 F88_c9 (endO cx88.m F88.rs R))))))))))) (y28_1.all plainC && true && true, (I88_37_0 a0_0 a0_1 a0_2 y0_0 y0_1 y1_0 y1_1 y28_0 y28_1 0 (y28_1)))) else (N1 (y28_1.all plainC && true && true, (I88_1_0 a0_0 a0_1 a0_2 y0_0 y0_1 (IntKind.i64.wrap (y1_0 + 1)) (y28_1))))) := by kernel_rfl

theorem E88_37_0 (a0_0 : Int) (a0_1 : Bool) (a0_2 : List Cell) (y0_0 : Int) (y0_1 : List Cell) (y1_0 : Int) (y1_1 : List Cell) (y28_0 : Int) (y28_1 : List Cell) (y37_0 : Int) (y37_1 : List Cell) (N28 : Bool × St → Prop) (N1 : Bool × St → Prop) (N37 : Bool × St → Prop) (R : Ret → Prop) : wpO cx88 F88_b4 (.two .e .e) (I88_37_0 a0_0 a0_1 a0_2 y0_0 y0_1 y1_0 y1_1 y28_0 y28_1 y37_0 y37_1) (kLp (headW cx88.m [1, 2, 4, 5, 6] [1, 2] []) N37 (kBlk 6 (kBlk 5 (kSeq cx88 F88_c7 (kLp (headW cx88.m [1, 2, 4, 5] [1, 2] []) N28 (kBlk 4 (kBlk 3 (kSeq cx88 F88_c8 (kLp (headW cx88.m [1, 2, 4] [1, 2] []) N1 (kBlk 2 (kSeq cx88 F88_c9 (endO cx88.m F88.rs R)))))))))))) = (bif decide (y37_0 ≤ a0_0) then (LoopO (bodyX cx88 F88_b5) (headW cx88.m [1, 2, 4, 5, 6, 7] [1, 2] []) (kBlk 8 (kBlk 7 (kSeq cx88 F88_c6 (kLp (headW cx88.m [1, 2, 4, 5, 6] [1, 2] []) N37 (kBlk 6 (kBlk 5 (kSeq cx88 F88_c7 (kLp (headW cx88.m [1, 2, 4, 5] [1, 2] []) N28 (kBlk 4 (kBlk 3 (kSeq cx88 F88_c8 (kLp (headW cx88.m [1, 2, 4] [1, 2] []) N1 (kBlk 2 (kSeq cx88 F88_c9 (endO cx88.m F88.rs R))))))))))))))) (y37_1.all plainC && true && true, (I88_40_0 a0_0 a0_1 a0_2 y0_0 y0_1 y1_0 y1_1 y28_0 y28_1 y37_0 y37_1 0 (y37_1)))) else (N28 (y37_1.all plainC && true && true, (I88_28_0 a0_0 a0_1 a0_2 y0_0 y0_1 y1_0 y1_1 (IntKind.i64.wrap (y28_0 + 1)) (y37_1))))) := by kernel_rfl

theorem E88_40_0 (a0_0 : Int) (a0_1 : Bool) (a0_2 : List Cell) (y0_0 : Int) (y0_1 : List Cell) (y1_0 : Int) (y1_1 : List Cell) (y28_0 : Int) (y28_1 : List Cell) (y37_0 : Int) (y37_1 : List Cell) (y40_0 : Int) (y40_1 : List Cell) (N37 : Bool × St → Prop) (N28 : Bool × St → Prop) (N1 : Bool × St → Prop) (N40 : Bool × St → Prop) (R : Ret → Prop) : wpO cx88 F88_b5 (.two .e .e) (I88_40_0 a0_0 a0_1 a0_2 y0_0 y0_1 y1_0 y1_1 y28_0 y28_1 y37_0 y37_1 y40_0 y40_1) (kLp (headW cx88.m [1, 2, 4, 5, 6, 7] [1, 2] []) N40 (kBlk 8 (kBlk 7 (kSeq cx88 F88_c6 (kLp (headW cx88.m [1, 2, 4, 5, 6] [1, 2] []) N37 (kBlk 6 (kBlk 5 (kSeq cx88 F88_c7 (kLp (headW cx88.m [1, 2, 4, 5] [1, 2] []) N28 (kBlk 4 (kBlk 3 (kSeq cx88 F88_c8 (kLp (headW cx88.m [1, 2, 4] [1, 2] []) N1 (kBlk 2 (kSeq cx88 F88_c9 (endO cx88.m F88.rs R)))))))))))))))) = (bif decide (y40_0 ≤ a0_0) then (bif decide (0 ≤ y28_0) && decide (y28_0 < 7) then (bif decide (0 ≤ y37_0) && decide (y37_0 < 7) then (bif decide (y37_0.toNat * 1 + y28_0.toNat * 7 + 3 ≤ y40_1.length + 2) && okK (some IntKind.i64) (y40_1.getD (y37_0.toNat * 1 + y28_0.toNat * 7) Cell.dead) then (bif decide (0 ≤ y28_0) && decide (y28_0 < 7) then (bif decide (0 ≤ y40_0) && decide (y40_0 < 7) then (bif decide (y40_0.toNat * 1 + y28_0.toNat * 7 + 3 ≤ y40_1.length + 2) && okK (some IntKind.i64) (y40_1.getD (y40_0.toNat * 1 + y28_0.toNat * 7) Cell.dead) then (bif decide (0 ≤ y40_0) && decide (y40_0 < 7) then (bif decide (0 ≤ y37_0) && decide (y37_0 < 7) then (bif decide (y37_0.toNat * 1 + y40_0.toNat * 7 + 3 ≤ y40_1.length + 2) && okK (some IntKind.i64) (y40_1.getD (y37_0.toNat * 1 + y40_0.toNat * 7) Cell.dead) then (bif decide (0 ≤ y28_0) && decide (y28_0 < 7) then (bif decide (0 ≤ y37_0) && decide (y37_0 < 7) then (bif decide (y37_0.toNat * 1 + y28_0.toNat * 7 + 3 ≤ y40_1.length + 2) then (N40 ((X88_0 y28_0 y37_0 y40_0 y40_1).all plainC && true && true, (I88_40_0 a0_0 a0_1 a0_2 y0_0 y0_1 y1_0 y1_1 y28_0 y28_1 y37_0 y37_1 (IntKind.i64.wrap (y40_0 + 1)) (X88_0 y28_0 y37_0 y40_0 y40_1)))) else False) else False) else False) else False) else False) else False) else False) else False) else False) else False) else False) else False) else (N37 (y40_1.all plainC && true && true, (I88_37_0 a0_0 a0_1 a0_2 y0_0 y0_1 y1_0 y1_1 y28_0 y28_1 (IntKind.i64.wrap (y37_0 + 1)) (y40_1))))) := by kernel_rfl

theorem E88_41_0 (a0_0 : Int) (a0_1 : Bool) (a0_2 : List Cell) (y0_0 : Int) (y0_1 : List Cell) (y1_0 : Int) (y1_1 : List Cell) (y41_0 : Int) (N41 : Bool × St → Prop) (R : Ret → Prop) : wpO cx88 F88_b10 (.two (.two .e .e) .e) (I88_41_0 a0_0 a0_1 a0_2 y0_0 y0_1 y1_0 y1_1 y41_0) (kLp (headW cx88.m [1, 2, 8] [1, 2] []) N41 (kBlk 10 (kSeq cx88 F88_c11 (endO cx88.m F88.rs R)))) = (bif decide (y41_0 ≤ a0_0) then (bif decide (0 ≤ y41_0) && decide (y41_0 < 7) then (bif decide (0 ≤ y41_0) && decide (y41_0 < 7) then (bif decide (y41_0.toNat * 1 + y41_0.toNat * 7 + 3 ≤ y1_1.length + 2) && okK (some IntKind.i64) (y1_1.getD (y41_0.toNat * 1 + y41_0.toNat * 7) Cell.dead) then (bif decide (intC (y1_1.getD (y41_0.toNat * 1 + y41_0.toNat * 7) Cell.dead) < 0) then (R (Ret.mk (.agg ((.v (.int .i64 (a0_0))) :: (.v (.bool .true)) :: (List.replicate 49 (Cell.v (Value.int IntKind.i64 0))))) [])) else (N41 (y1_1.all plainC && true && true, (I88_41_0 a0_0 a0_1 a0_2 y0_0 y0_1 y1_0 y1_1 (IntKind.i64.wrap (y41_0 + 1)))))) else False) else False) else False) else (bif y1_1.length + 2 == 51 then (bif y1_1.length + 2 == 51 && true && true then (bif y1_1.length + 2 == 51 && true then (bif y1_1.all plainC then (R (Ret.mk (.agg ((.v (.int .i64 (a0_0))) :: (.v (.bool (a0_1))) :: (y1_1))) [])) else False) else False) else False) else False)) := by kernel_rfl

theorem E88 (a0_0 : Int) (a0_1 : Bool) (a0_2 : List Cell) (R : Ret → Prop) : wpFO cx88 F88 (.two .e .e) [(.agg ((.v (.int .i64 a0_0)) :: (.v (.bool a0_1)) :: a0_2))] R = (bif a0_1 then (R (Ret.mk (.agg ((.v (.int .i64 (a0_0))) :: (.v (.bool .true)) :: (List.replicate 49 (Cell.v (Value.int IntKind.i64 0))))) [])) else (LoopO (bodyX cx88 F88_b0) (headW cx88.m [1, 2, 3] [1, 2] []) (kBlk 0 (kSeq cx88 F88_c1 (endO cx88.m F88.rs R))) (a0_2.all plainC && true && true, (I88_0_0 a0_0 a0_1 a0_2 1 (a0_2))))) := by kernel_rfl

def f88_wp (a0_0 : Int) (a0_1 : Bool) (a0_2 : List Cell) (R : Ret → Prop) : Prop := bif a0_1 then (R (Ret.mk (.agg ((.v (.int .i64 (a0_0))) :: (.v (.bool .true)) :: (List.replicate 49 (Cell.v (Value.int IntKind.i64 0))))) [])) else ((a0_2.all plainC && true && true) = true ∧ LoopP (fun (z0 : (Int × (List Cell))) (k0 : (Int × (List Cell)) → Prop) => (fun (z : Int × (List Cell)) => (fun (y0_0 : Int) (y0_1 : List Cell) => bif decide (y0_0 ≤ a0_0) then (bif decide (0 ≤ y0_0) && decide (y0_0 < 7) then (bif decide (0 + y0_0.toNat * 7 + 3 ≤ y0_1.length + 2) && okK (some IntKind.i64) (y0_1.getD (0 + y0_0.toNat * 7) Cell.dead) then (bif decide (0 + y0_0.toNat * 7 + 3 ≤ y0_1.length + 2) then (bif decide (y0_0.toNat * 1 + 3 ≤ (X88_1 y0_0 y0_1).length + 2) && okK (some IntKind.i64) ((X88_1 y0_0 y0_1).getD (y0_0.toNat * 1) Cell.dead) then (bif decide (y0_0.toNat * 1 + 3 ≤ (X88_1 y0_0 y0_1).length + 2) then (((X88_2 y0_0 y0_1).all plainC && true && true) = true ∧ k0 ((IntKind.i64.wrap (y0_0 + 1)), (X88_2 y0_0 y0_1))) else False) else False) else False) else False) else False) else ((y0_1.all plainC && true && true) = true ∧ LoopP (fun (z1 : (Int × (List Cell))) (k1 : (Int × (List Cell)) → Prop) => (fun (z : Int × (List Cell)) => (fun (y1_0 : Int) (y1_1 : List Cell) => bif decide (y1_0 ≤ IntKind.i64.wrap (a0_0 + 1)) then ((y1_1.all plainC && true && true) = true ∧ LoopP (fun (z28 : (Int × (List Cell))) (k28 : (Int × (List Cell)) → Prop) => (fun (z : Int × (List Cell)) => (fun (y28_0 : Int) (y28_1 : List Cell) => bif decide (y28_0 ≤ a0_0) then ((y28_1.all plainC && true && true) = true ∧ LoopP (fun (z37 : (Int × (List Cell))) (k37 : (Int × (List Cell)) → Prop) => (fun (z : Int × (List Cell)) => (fun (y37_0 : Int) (y37_1 : List Cell) => bif decide (y37_0 ≤ a0_0) then ((y37_1.all plainC && true && true) = true ∧ LoopP (fun (z40 : (Int × (List Cell))) (k40 : (Int × (List Cell)) → Prop) => (fun (z : Int × (List Cell)) => (fun (y40_0 : Int) (y40_1 : List Cell) => bif decide (y40_0 ≤ a0_0) then (bif decide (0 ≤ y28_0) && decide (y28_0 < 7) then (bif decide (0 ≤ y37_0) && decide (y37_0 < 7) then (bif decide (y37_0.toNat * 1 + y28_0.toNat * 7 + 3 ≤ y40_1.length + 2) && okK (some IntKind.i64) (y40_1.getD (y37_0.toNat * 1 + y28_0.toNat * 7) Cell.dead) then (bif decide (0 ≤ y40_0) && decide (y40_0 < 7) then (bif decide (y40_0.toNat * 1 + y28_0.toNat * 7 + 3 ≤ y40_1.length + 2) && okK (some IntKind.i64) (y40_1.getD (y40_0.toNat * 1 + y28_0.toNat * 7) Cell.dead) then (bif decide (y37_0.toNat * 1 + y40_0.toNat * 7 + 3 ≤ y40_1.length + 2) && okK (some IntKind.i64) (y40_1.getD (y37_0.toNat * 1 + y40_0.toNat * 7) Cell.dead) then (bif decide (y37_0.toNat * 1 + y28_0.toNat * 7 + 3 ≤ y40_1.length + 2) then (((X88_0 y28_0 y37_0 y40_0 y40_1).all plainC && true && true) = true ∧ k40 ((IntKind.i64.wrap (y40_0 + 1)), (X88_0 y28_0 y37_0 y40_0 y40_1))) else False) else False) else False) else False) else False) else False) else False) else ((y40_1.all plainC && true && true) = true ∧ k37 ((IntKind.i64.wrap (y37_0 + 1)), (y40_1)))) z.1 z.2) z40) (0, (y37_1))) else ((y37_1.all plainC && true && true) = true ∧ k28 ((IntKind.i64.wrap (y28_0 + 1)), (y37_1)))) z.1 z.2) z37) (0, (y28_1))) else ((y28_1.all plainC && true && true) = true ∧ k1 ((IntKind.i64.wrap (y1_0 + 1)), (y28_1)))) z.1 z.2) z28) (0, (y1_1))) else ((y1_1.all plainC && true && true) = true ∧ LoopP (fun (z41 : (Int)) (k41 : (Int) → Prop) => (fun (z : Int) => (fun (y41_0 : Int) => bif decide (y41_0 ≤ a0_0) then (bif decide (0 ≤ y41_0) && decide (y41_0 < 7) then (bif decide (y41_0.toNat * 1 + y41_0.toNat * 7 + 3 ≤ y1_1.length + 2) && okK (some IntKind.i64) (y1_1.getD (y41_0.toNat * 1 + y41_0.toNat * 7) Cell.dead) then (bif decide (intC (y1_1.getD (y41_0.toNat * 1 + y41_0.toNat * 7) Cell.dead) < 0) then (R (Ret.mk (.agg ((.v (.int .i64 (a0_0))) :: (.v (.bool .true)) :: (List.replicate 49 (Cell.v (Value.int IntKind.i64 0))))) [])) else ((y1_1.all plainC && true && true) = true ∧ k41 (IntKind.i64.wrap (y41_0 + 1)))) else False) else False) else (bif y1_1.length + 2 == 51 then (bif y1_1.length + 2 == 51 && true && true then (bif y1_1.length + 2 == 51 && true then (bif y1_1.all plainC then (R (Ret.mk (.agg ((.v (.int .i64 (a0_0))) :: (.v (.bool (a0_1))) :: (y1_1))) [])) else False) else False) else False) else False)) z) z41) 0)) z.1 z.2) z1) (0, (y0_1)))) z.1 z.2) z0) (1, (a0_2)))

set_option maxRecDepth 100000 in
theorem f88_sound (a0_0 : Int) (a0_1 : Bool) (a0_2 : List Cell) (hC : CtxOk Try.prog cx88.q.ctx) {r : Ret} (h : f88_wp a0_0 a0_1 a0_2 (fun r' => r' = r)) : SoundAt Try.prog 88 [(.agg ((.v (.int .i64 a0_0)) :: (.v (.bool a0_1)) :: a0_2))] r := by
  refine soundAtO (C := cx88) (oc := (.two .e .e)) mixed hC F88_ok ?_
  rewrite [E88 a0_0 a0_1 a0_2]
  unfold f88_wp at h
  refine cond_mapE h (fun q1 h => ?_) (fun q1 h => ?_)
  · skip
    exact h
  · skip
    obtain ⟨q687, h⟩ := h
    refine loop_of (I := (fun (z : Int × (List Cell)) => (I88_0_0 a0_0 a0_1 a0_2 z.1 z.2))) (fun z k0 h => ?_) h q687 rfl
    obtain ⟨y0_0, y0_1⟩ := z
    try dsimp only [sumE_l, sumE_r] at h
    refine bodyX_i (ob := (.two .e .e)) ?_
    rewrite [E88_0_0 a0_0 a0_1 a0_2 y0_0 y0_1]
    refine cond_mapE h (fun q13 h => ?_) (fun q13 h => ?_)
    · skip
      refine ck_mapE h (fun q14 h => ?_)
      refine ck_mapE h (fun q15 h => ?_)
      refine ck_i q14 ?_
      refine ck_mapE h (fun q16 h => ?_)
      refine ck_i q14 ?_
      refine ck_mapE h (fun q17 h => ?_)
      refine ck_i q14 ?_
      refine ck_mapE h (fun q18 h => ?_)
      obtain ⟨q19, h⟩ := h
      exact again_i (y := ((IntKind.i64.wrap (y0_0 + 1)), (X88_2 y0_0 y0_1))) q19 h
    · skip
      obtain ⟨q686, h⟩ := h
      refine loop_of (I := (fun (z : Int × (List Cell)) => (I88_1_0 a0_0 a0_1 a0_2 y0_0 y0_1 z.1 z.2))) (fun z k1 h => ?_) h q686 rfl
      obtain ⟨y1_0, y1_1⟩ := z
      try dsimp only [sumE_l, sumE_r] at h
      refine bodyX_i (ob := (.two .e .e)) ?_
      rewrite [E88_1_0 a0_0 a0_1 a0_2 y0_0 y0_1 y1_0 y1_1]
      refine cond_mapE h (fun q452 h => ?_) (fun q452 h => ?_)
      · skip
        obtain ⟨q668, h⟩ := h
        refine loop_of (I := (fun (z : Int × (List Cell)) => (I88_28_0 a0_0 a0_1 a0_2 y0_0 y0_1 y1_0 y1_1 z.1 z.2))) (fun z k28 h => ?_) h q668 rfl
        obtain ⟨y28_0, y28_1⟩ := z
        try dsimp only [sumE_l, sumE_r] at h
        refine bodyX_i (ob := (.two .e .e)) ?_
        rewrite [E88_28_0 a0_0 a0_1 a0_2 y0_0 y0_1 y1_0 y1_1 y28_0 y28_1]
        refine cond_mapE h (fun q590 h => ?_) (fun q590 h => ?_)
        · skip
          obtain ⟨q666, h⟩ := h
          refine loop_of (I := (fun (z : Int × (List Cell)) => (I88_37_0 a0_0 a0_1 a0_2 y0_0 y0_1 y1_0 y1_1 y28_0 y28_1 z.1 z.2))) (fun z k37 h => ?_) h q666 rfl
          obtain ⟨y37_0, y37_1⟩ := z
          try dsimp only [sumE_l, sumE_r] at h
          refine bodyX_i (ob := (.two .e .e)) ?_
          rewrite [E88_37_0 a0_0 a0_1 a0_2 y0_0 y0_1 y1_0 y1_1 y28_0 y28_1 y37_0 y37_1]
          refine cond_mapE h (fun q638 h => ?_) (fun q638 h => ?_)
          · skip
            obtain ⟨q664, h⟩ := h
            refine loop_of (I := (fun (z : Int × (List Cell)) => (I88_40_0 a0_0 a0_1 a0_2 y0_0 y0_1 y1_0 y1_1 y28_0 y28_1 y37_0 y37_1 z.1 z.2))) (fun z k40 h => ?_) h q664 rfl
            obtain ⟨y40_0, y40_1⟩ := z
            try dsimp only [sumE_l, sumE_r] at h
            refine bodyX_i (ob := (.two .e .e)) ?_
            rewrite [E88_40_0 a0_0 a0_1 a0_2 y0_0 y0_1 y1_0 y1_1 y28_0 y28_1 y37_0 y37_1 y40_0 y40_1]
            refine cond_mapE h (fun q654 h => ?_) (fun q654 h => ?_)
            · skip
              refine ck_mapE h (fun q655 h => ?_)
              refine ck_mapE h (fun q656 h => ?_)
              refine ck_mapE h (fun q657 h => ?_)
              refine ck_i q655 ?_
              refine ck_mapE h (fun q658 h => ?_)
              refine ck_mapE h (fun q659 h => ?_)
              refine ck_i q658 ?_
              refine ck_i q656 ?_
              refine ck_mapE h (fun q660 h => ?_)
              refine ck_i q655 ?_
              refine ck_i q656 ?_
              refine ck_mapE h (fun q661 h => ?_)
              obtain ⟨q662, h⟩ := h
              exact again_i (y := ((IntKind.i64.wrap (y40_0 + 1)), (X88_0 y28_0 y37_0 y40_0 y40_1))) q662 h
            · skip
              obtain ⟨q663, h⟩ := h
              exact again_i (y := ((IntKind.i64.wrap (y37_0 + 1)), (y40_1))) q663 h
          · skip
            obtain ⟨q665, h⟩ := h
            exact again_i (y := ((IntKind.i64.wrap (y28_0 + 1)), (y37_1))) q665 h
        · skip
          obtain ⟨q667, h⟩ := h
          exact again_i (y := ((IntKind.i64.wrap (y1_0 + 1)), (y28_1))) q667 h
      · skip
        obtain ⟨q685, h⟩ := h
        refine loop_of (I := (fun (z : Int) => (I88_41_0 a0_0 a0_1 a0_2 y0_0 y0_1 y1_0 y1_1 z))) (fun z k41 h => ?_) h q685 rfl
        obtain ⟨y41_0, rfl⟩ : ∃ y, y = z := ⟨z, rfl⟩
        try dsimp only [sumE_l, sumE_r] at h
        refine bodyX_i (ob := (.two (.two .e .e) .e)) ?_
        rewrite [E88_41_0 a0_0 a0_1 a0_2 y0_0 y0_1 y1_0 y1_1 y41_0]
        refine cond_mapE h (fun q676 h => ?_) (fun q676 h => ?_)
        · skip
          refine ck_mapE h (fun q677 h => ?_)
          refine ck_i q677 ?_
          refine ck_mapE h (fun q678 h => ?_)
          refine cond_mapE h (fun q679 h => ?_) (fun q679 h => ?_)
          · skip
            exact h
          · skip
            obtain ⟨q680, h⟩ := h
            exact again_i (y := (IntKind.i64.wrap (y41_0 + 1))) q680 h
        · skip
          refine ck_mapE h (fun q681 h => ?_)
          refine ck_mapE h (fun q682 h => ?_)
          refine ck_mapE h (fun q684 h => ?_)
          refine ck_mapE h (fun q683 h => ?_)
          exact h


def cx33 : CtxW := ⟨⟨[(88, sum88)], []⟩, 2, []⟩


def F33 : SFn := ⟨31, [(.cell 8 .true 51)], (.seq (.reg [(o1 4 (.box (.t 0))), (o1 8 (.alloc [(.int .i64 0), (.bool .false), (.int .i64 0), (.int .i64 0), (.int .i64 0), (.int .i64 0), (.int .i64 0), (.int .i64 0), (.int .i64 0), (.int .i64 0), (.int .i64 0), (.int .i64 0), (.int .i64 0), (.int .i64 0), (.int .i64 0), (.int .i64 0), (.int .i64 0), (.int .i64 0), (.int .i64 0), (.int .i64 0), (.int .i64 0), (.int .i64 0), (.int .i64 0), (.int .i64 0), (.int .i64 0), (.int .i64 0), (.int .i64 0), (.int .i64 0), (.int .i64 0), (.int .i64 0), (.int .i64 0), (.int .i64 0), (.int .i64 0), (.int .i64 0), (.int .i64 0), (.int .i64 0), (.int .i64 0), (.int .i64 0), (.int .i64 0), (.int .i64 0), (.int .i64 0), (.int .i64 0), (.int .i64 0), (.int .i64 0), (.int .i64 0), (.int .i64 0), (.int .i64 0), (.int .i64 0), (.int .i64 0), (.int .i64 0), (.int .i64 0)]))]) (.seq (.seq (.reg [(o1 9 (.fld 1 (.t 4))), (o1 10 (.load .false .false 1 [.none] (.t 9)))]) (.cond (.t 10) (.seq (.reg [(o1 11 (.load .false .true 51 K51 (.t 4))), (.mk .none (.store .false 51 (.t 8) (.t 11)) .none)]) .ret) .skip)) (.seq (.reg [(o1 12 (.mv (.t 1))), (o1 13 (.bin .add (.t 12) (.c (.int .i64 1)))), (o1 14 (.mv (.t 2))), (o1 15 (.bin .add (.t 14) (.c (.int .i64 1)))), (o1 16 (.mv (.t 1))), (o1 17 (.bin .add (.t 16) (.c (.int .i64 1)))), (o1 18 (.mv (.t 2))), (o1 19 (.bin .add (.t 18) (.c (.int .i64 1)))), (o1 20 (.fld 2 (.t 4))), (o1 21 (.ixA 7 7 (.t 20) (.t 17))), (o1 22 (.ixA 7 1 (.t 21) (.t 19))), (o1 23 (.load .false .false 1 [(.some .i64)] (.t 22))), (o1 24 (.mv (.t 3))), (o1 25 (.mm .false [(.t 23), (.t 24)])), (o1 26 (.fld 2 (.t 4))), (o1 27 (.ixA 7 7 (.t 26) (.t 13))), (o1 28 (.ixA 7 1 (.t 27) (.t 15))), (.mk .none (.store .false 1 (.t 28) (.t 25)) .none)]) (.seq (.reg [(o1 29 (.load .false .true 51 K51 (.t 4))), (o1 30 (.call .false .false (.f 88) [(.t 29)])), (.mk .none (.store .false 51 (.t 8) (.t 30)) .none)]) .ret))))⟩

theorem F33_ok : sfn Try.prog hints 33 [] = some F33 := by kernel_rfl

abbrev X33_0 (a0_2 : List Cell) (a1 : Int) (a2 : Int) (a3 : Int) := (a0_2.set ((IntKind.i64.wrap (a2 + 1)).toNat * 1 + (IntKind.i64.wrap (a1 + 1)).toNat * 7) (Cell.v (Value.int IntKind.i64 (if a3 < intC (a0_2.getD ((IntKind.i64.wrap (a2 + 1)).toNat * 1 + (IntKind.i64.wrap (a1 + 1)).toNat * 7) Cell.dead) then a3 else intC (a0_2.getD ((IntKind.i64.wrap (a2 + 1)).toNat * 1 + (IntKind.i64.wrap (a1 + 1)).toNat * 7) Cell.dead)))))
abbrev X33_1 (a0_0 : Int) (a0_1 : Bool) (a0_2 : List Cell) (a1 : Int) (a2 : Int) (a3 : Int) := (ic IntKind.i64 (closeR (a0_0, a0_1, List.map intC (X33_0 a0_2 a1 a2 a3))).snd.snd)

theorem E33 (a0_0 : Int) (a0_1 : Bool) (a0_2 : List Cell) (a1 : Int) (a2 : Int) (a3 : Int) (R : Ret → Prop) : wpFO cx33 F33 (.two .e .e) [(.agg ((.v (.int .i64 a0_0)) :: (.v (.bool a0_1)) :: a0_2)), (.one (.v (.int .i64 a1))), (.one (.v (.int .i64 a2))), (.one (.v (.int .i64 a3)))] R = (bif a0_1 then (bif a0_2.length + 2 == 51 then (bif a0_2.length + 2 == 51 && true && true then (bif a0_2.length + 2 == 51 && true then (bif a0_2.all plainC then (R (Ret.mk (.agg ((.v (.int .i64 (a0_0))) :: (.v (.bool (a0_1))) :: (a0_2))) [])) else False) else False) else False) else False) else (bif decide (0 ≤ IntKind.i64.wrap (a1 + 1)) && decide (IntKind.i64.wrap (a1 + 1) < 7) then (bif decide (0 ≤ IntKind.i64.wrap (a2 + 1)) && decide (IntKind.i64.wrap (a2 + 1) < 7) then (bif decide ((IntKind.i64.wrap (a2 + 1)).toNat * 1 + (IntKind.i64.wrap (a1 + 1)).toNat * 7 + 3 ≤ a0_2.length + 2) && okK (some IntKind.i64) (a0_2.getD ((IntKind.i64.wrap (a2 + 1)).toNat * 1 + (IntKind.i64.wrap (a1 + 1)).toNat * 7) Cell.dead) then (bif decide (0 ≤ IntKind.i64.wrap (a1 + 1)) && decide (IntKind.i64.wrap (a1 + 1) < 7) then (bif decide (0 ≤ IntKind.i64.wrap (a2 + 1)) && decide (IntKind.i64.wrap (a2 + 1) < 7) then (bif decide ((IntKind.i64.wrap (a2 + 1)).toNat * 1 + (IntKind.i64.wrap (a1 + 1)).toNat * 7 + 3 ≤ a0_2.length + 2) then (bif (X33_0 a0_2 a1 a2 a3).length + 2 == 51 then (bif (X33_0 a0_2 a1 a2 a3).all plainC && true && ((X33_0 a0_2 a1 a2 a3).all (isInt IntKind.i64) && (X33_0 a0_2 a1 a2 a3).length == 49 && okN a0_0) && (X33_1 a0_0 a0_1 a0_2 a1 a2 a3).all (okC 0) && true && true && true && true then (bif (X33_1 a0_0 a0_1 a0_2 a1 a2 a3).length + 2 == 51 && true && true then (bif (X33_1 a0_0 a0_1 a0_2 a1 a2 a3).length + 2 == 51 && true then (bif (X33_1 a0_0 a0_1 a0_2 a1 a2 a3).all plainC then (R (Ret.mk (.agg ((.v (.int .i64 ((closeR (a0_0, a0_1, List.map intC (X33_0 a0_2 a1 a2 a3))).fst))) :: (.v (.bool ((closeR (a0_0, a0_1, List.map intC (X33_0 a0_2 a1 a2 a3))).snd.fst))) :: (X33_1 a0_0 a0_1 a0_2 a1 a2 a3))) [])) else False) else False) else False) else False) else False) else False) else False) else False) else False) else False) else False)) := by kernel_rfl

def f33_wp (a0_0 : Int) (a0_1 : Bool) (a0_2 : List Cell) (a1 : Int) (a2 : Int) (a3 : Int) (R : Ret → Prop) : Prop := bif a0_1 then (bif a0_2.length + 2 == 51 then (bif a0_2.length + 2 == 51 && true && true then (bif a0_2.length + 2 == 51 && true then (bif a0_2.all plainC then (R (Ret.mk (.agg ((.v (.int .i64 (a0_0))) :: (.v (.bool (a0_1))) :: (a0_2))) [])) else False) else False) else False) else False) else (bif decide (0 ≤ IntKind.i64.wrap (a1 + 1)) && decide (IntKind.i64.wrap (a1 + 1) < 7) then (bif decide (0 ≤ IntKind.i64.wrap (a2 + 1)) && decide (IntKind.i64.wrap (a2 + 1) < 7) then (bif decide ((IntKind.i64.wrap (a2 + 1)).toNat * 1 + (IntKind.i64.wrap (a1 + 1)).toNat * 7 + 3 ≤ a0_2.length + 2) && okK (some IntKind.i64) (a0_2.getD ((IntKind.i64.wrap (a2 + 1)).toNat * 1 + (IntKind.i64.wrap (a1 + 1)).toNat * 7) Cell.dead) then (bif decide ((IntKind.i64.wrap (a2 + 1)).toNat * 1 + (IntKind.i64.wrap (a1 + 1)).toNat * 7 + 3 ≤ a0_2.length + 2) then (bif (X33_0 a0_2 a1 a2 a3).length + 2 == 51 then (bif (X33_0 a0_2 a1 a2 a3).all plainC && true && ((X33_0 a0_2 a1 a2 a3).all (isInt IntKind.i64) && (X33_0 a0_2 a1 a2 a3).length == 49 && okN a0_0) && (X33_1 a0_0 a0_1 a0_2 a1 a2 a3).all (okC 0) && true && true && true && true then (bif (X33_1 a0_0 a0_1 a0_2 a1 a2 a3).length + 2 == 51 && true && true then (bif (X33_1 a0_0 a0_1 a0_2 a1 a2 a3).length + 2 == 51 && true then (bif (X33_1 a0_0 a0_1 a0_2 a1 a2 a3).all plainC then (R (Ret.mk (.agg ((.v (.int .i64 ((closeR (a0_0, a0_1, List.map intC (X33_0 a0_2 a1 a2 a3))).fst))) :: (.v (.bool ((closeR (a0_0, a0_1, List.map intC (X33_0 a0_2 a1 a2 a3))).snd.fst))) :: (X33_1 a0_0 a0_1 a0_2 a1 a2 a3))) [])) else False) else False) else False) else False) else False) else False) else False) else False) else False)

set_option maxRecDepth 100000 in
theorem f33_sound (a0_0 : Int) (a0_1 : Bool) (a0_2 : List Cell) (a1 : Int) (a2 : Int) (a3 : Int) (hC : CtxOk Try.prog cx33.q.ctx) {r : Ret} (h : f33_wp a0_0 a0_1 a0_2 a1 a2 a3 (fun r' => r' = r)) : SoundAt Try.prog 33 [(.agg ((.v (.int .i64 a0_0)) :: (.v (.bool a0_1)) :: a0_2)), (.one (.v (.int .i64 a1))), (.one (.v (.int .i64 a2))), (.one (.v (.int .i64 a3)))] r := by
  refine soundAtO (C := cx33) (oc := (.two .e .e)) mixed hC F33_ok ?_
  rewrite [E33 a0_0 a0_1 a0_2 a1 a2 a3]
  unfold f33_wp at h
  refine cond_mapE h (fun q1 h => ?_) (fun q1 h => ?_)
  · skip
    refine ck_mapE h (fun q2 h => ?_)
    refine ck_mapE h (fun q3 h => ?_)
    refine ck_mapE h (fun q5 h => ?_)
    refine ck_mapE h (fun q4 h => ?_)
    exact h
  · skip
    refine ck_mapE h (fun q6 h => ?_)
    refine ck_mapE h (fun q7 h => ?_)
    refine ck_mapE h (fun q8 h => ?_)
    refine ck_i q6 ?_
    refine ck_i q7 ?_
    refine ck_mapE h (fun q9 h => ?_)
    refine ck_mapE h (fun q10 h => ?_)
    refine ck_mapE h (fun q11 h => ?_)
    refine ck_mapE h (fun q12 h => ?_)
    refine ck_mapE h (fun q14 h => ?_)
    refine ck_mapE h (fun q13 h => ?_)
    exact h


def cx89 : CtxW := ⟨⟨[(88, sum88)], []⟩, 2, []⟩


def F89_b0 : SC := (.seq (.seq (.reg [(o1 9 (.mv (.t 5))), (o1 10 (.fld 0 (.t 2))), (o1 11 (.load .false .false 1 [(.some .i64)] (.t 10))), (o1 12 (.bin .leq (.t 9) (.t 11)))]) (.cond (.t 12) .skip (.exit 0))) (.seq (.blk 1 (.seq (.reg [(o1 15 (.mv (.t 5))), (o1 16 (.mv (.t 1))), (o1 17 (.bin .add (.t 16) (.c (.int .i64 1)))), (o1 18 (.bin .neq (.t 15) (.t 17)))]) (.cond (.t 18) (.reg [(o1 19 (.mv (.t 5))), (o1 20 (.mv (.t 1))), (o1 21 (.bin .add (.t 20) (.c (.int .i64 1)))), (o1 22 (.mv (.t 1))), (o1 23 (.bin .add (.t 22) (.c (.int .i64 1)))), (o1 24 (.mv (.t 5))), (o1 25 (.fld 2 (.t 2))), (o1 26 (.ixA 7 7 (.t 25) (.t 19))), (o1 27 (.ixA 7 1 (.t 26) (.t 21))), (.mk .none (.store .false 1 (.t 27) (.c (.int .i64 1099511627776))) .none), (o1 28 (.fld 2 (.t 2))), (o1 29 (.ixA 7 7 (.t 28) (.t 23))), (o1 30 (.ixA 7 1 (.t 29) (.t 24))), (.mk .none (.store .false 1 (.t 30) (.c (.int .i64 1099511627776))) .none)]) .skip))) (.reg [(o1 13 (.mv (.t 5))), (o1 14 (.bin .add (.t 13) (.c (.int .i64 1)))), (o1 5 (.mv (.t 14)))])))

def F89_c1 : SC := (.seq (.reg [(o1 31 (.load .false .true 51 K51 (.t 2))), (o1 32 (.call .false .false (.f 88) [(.t 31)])), (.mk .none (.store .false 51 (.t 4) (.t 32)) .none)]) .ret)

def F89 : SFn := ⟨33, [(.cell 4 .true 51)], (.seq (.reg [(o1 2 (.box (.t 0))), (o1 4 (.alloc [(.int .i64 0), (.bool .false), (.int .i64 0), (.int .i64 0), (.int .i64 0), (.int .i64 0), (.int .i64 0), (.int .i64 0), (.int .i64 0), (.int .i64 0), (.int .i64 0), (.int .i64 0), (.int .i64 0), (.int .i64 0), (.int .i64 0), (.int .i64 0), (.int .i64 0), (.int .i64 0), (.int .i64 0), (.int .i64 0), (.int .i64 0), (.int .i64 0), (.int .i64 0), (.int .i64 0), (.int .i64 0), (.int .i64 0), (.int .i64 0), (.int .i64 0), (.int .i64 0), (.int .i64 0), (.int .i64 0), (.int .i64 0), (.int .i64 0), (.int .i64 0), (.int .i64 0), (.int .i64 0), (.int .i64 0), (.int .i64 0), (.int .i64 0), (.int .i64 0), (.int .i64 0), (.int .i64 0), (.int .i64 0), (.int .i64 0), (.int .i64 0), (.int .i64 0), (.int .i64 0), (.int .i64 0), (.int .i64 0), (.int .i64 0), (.int .i64 0)]))]) (.seq (.seq (.reg [(o1 6 (.fld 1 (.t 2))), (o1 7 (.load .false .false 1 [.none] (.t 6)))]) (.cond (.t 7) (.seq (.reg [(o1 8 (.load .false .true 51 K51 (.t 2))), (.mk .none (.store .false 51 (.t 4) (.t 8)) .none)]) .ret) .skip)) (.seq (.seq (.reg [(o1 5 (.mv (.c (.int .i64 0))))]) (.blk 0 (.loop [1, 2, 4, 5] [2, 4] [] F89_b0))) F89_c1)))⟩

theorem F89_ok : sfn Try.prog hints 89 [([1, 2, 4, 5], ([2, 4], []))] = some F89 := by kernel_rfl

abbrev X89_0 (a1 : Int) (y0_0 : Int) (y0_1 : List Cell) := ((y0_1.set ((IntKind.i64.wrap (a1 + 1)).toNat * 1 + y0_0.toNat * 7) (Cell.v (Value.int IntKind.i64 1099511627776))).set (y0_0.toNat * 1 + (IntKind.i64.wrap (a1 + 1)).toNat * 7) (Cell.v (Value.int IntKind.i64 1099511627776)))
abbrev X89_1 (a0_0 : Int) (a0_1 : Bool) (y0_1 : List Cell) := (ic IntKind.i64 (closeR (a0_0, a0_1, List.map intC y0_1)).snd.snd)

def I89_0_0 (a0_0 : Int) (a0_1 : Bool) (a0_2 : List Cell) (a1 : Int) (y0_0 : Int) (y0_1 : List Cell) : St := (.mk (.no :: ((.one (.v (.int .i64 (a1)))) :: ((.box 2 0 0) :: (.no :: ((.box 4 0 0) :: ((.one (.v (.int .i64 (y0_0)))) :: (n10 (n10 (.no :: (.no :: (.no :: (.no :: (.no :: (.no :: (.no :: []))))))))))))))) ([] :: ([] :: ([((.v (.int .i64 (a0_0))) :: (.v (.bool (a0_1))) :: (y0_1))] :: ([] :: ([((.v (.int .i64 0)) :: (.v (.bool .false)) :: (List.replicate 49 (Cell.v (Value.int IntKind.i64 0))))] :: (e10 (e10 ([] :: ([] :: ([] :: ([] :: ([] :: ([] :: ([] :: ([] :: []))))))))))))))) (e10 (e10 (e10 ([] :: ([] :: ([] :: [])))))))

theorem E89_0_0 (a0_0 : Int) (a0_1 : Bool) (a0_2 : List Cell) (a1 : Int) (y0_0 : Int) (y0_1 : List Cell) (N0 : Bool × St → Prop) (R : Ret → Prop) : wpO cx89 F89_b0 (.two (.two .e .e) .e) (I89_0_0 a0_0 a0_1 a0_2 a1 y0_0 y0_1) (kLp (headW cx89.m [1, 2, 4, 5] [2, 4] []) N0 (kBlk 0 (kSeq cx89 F89_c1 (endO cx89.m F89.rs R)))) = (bif decide (y0_0 ≤ a0_0) then (bif y0_0 != IntKind.i64.wrap (a1 + 1) then (bif decide (0 ≤ y0_0) && decide (y0_0 < 7) then (bif decide (0 ≤ IntKind.i64.wrap (a1 + 1)) && decide (IntKind.i64.wrap (a1 + 1) < 7) then (bif decide ((IntKind.i64.wrap (a1 + 1)).toNat * 1 + y0_0.toNat * 7 + 3 ≤ y0_1.length + 2) then (bif decide (0 ≤ IntKind.i64.wrap (a1 + 1)) && decide (IntKind.i64.wrap (a1 + 1) < 7) then (bif decide (0 ≤ y0_0) && decide (y0_0 < 7) then (bif decide (y0_0.toNat * 1 + (IntKind.i64.wrap (a1 + 1)).toNat * 7 + 3 ≤ (y0_1.set ((IntKind.i64.wrap (a1 + 1)).toNat * 1 + y0_0.toNat * 7) (Cell.v (Value.int IntKind.i64 1099511627776))).length + 2) then (N0 ((X89_0 a1 y0_0 y0_1).all plainC && true && true, (I89_0_0 a0_0 a0_1 a0_2 a1 (IntKind.i64.wrap (y0_0 + 1)) (X89_0 a1 y0_0 y0_1)))) else False) else False) else False) else False) else False) else False) else (N0 (y0_1.all plainC && true && true, (I89_0_0 a0_0 a0_1 a0_2 a1 (IntKind.i64.wrap (y0_0 + 1)) (y0_1))))) else (bif y0_1.length + 2 == 51 then (bif y0_1.all plainC && true && (y0_1.all (isInt IntKind.i64) && y0_1.length == 49 && okN a0_0) && (X89_1 a0_0 a0_1 y0_1).all (okC 0) && true && true && true && true then (bif (X89_1 a0_0 a0_1 y0_1).length + 2 == 51 && true && true then (bif (X89_1 a0_0 a0_1 y0_1).length + 2 == 51 && true then (bif (X89_1 a0_0 a0_1 y0_1).all plainC then (R (Ret.mk (.agg ((.v (.int .i64 ((closeR (a0_0, a0_1, List.map intC y0_1)).fst))) :: (.v (.bool ((closeR (a0_0, a0_1, List.map intC y0_1)).snd.fst))) :: (X89_1 a0_0 a0_1 y0_1))) [])) else False) else False) else False) else False) else False)) := by kernel_rfl

theorem E89 (a0_0 : Int) (a0_1 : Bool) (a0_2 : List Cell) (a1 : Int) (R : Ret → Prop) : wpFO cx89 F89 (.two .e .e) [(.agg ((.v (.int .i64 a0_0)) :: (.v (.bool a0_1)) :: a0_2)), (.one (.v (.int .i64 a1)))] R = (bif a0_1 then (bif a0_2.length + 2 == 51 then (bif a0_2.length + 2 == 51 && true && true then (bif a0_2.length + 2 == 51 && true then (bif a0_2.all plainC then (R (Ret.mk (.agg ((.v (.int .i64 (a0_0))) :: (.v (.bool (a0_1))) :: (a0_2))) [])) else False) else False) else False) else False) else (LoopO (bodyX cx89 F89_b0) (headW cx89.m [1, 2, 4, 5] [2, 4] []) (kBlk 0 (kSeq cx89 F89_c1 (endO cx89.m F89.rs R))) (a0_2.all plainC && true && true, (I89_0_0 a0_0 a0_1 a0_2 a1 0 (a0_2))))) := by kernel_rfl

def f89_wp (a0_0 : Int) (a0_1 : Bool) (a0_2 : List Cell) (a1 : Int) (R : Ret → Prop) : Prop := bif a0_1 then (bif a0_2.length + 2 == 51 then (bif a0_2.length + 2 == 51 && true && true then (bif a0_2.length + 2 == 51 && true then (bif a0_2.all plainC then (R (Ret.mk (.agg ((.v (.int .i64 (a0_0))) :: (.v (.bool (a0_1))) :: (a0_2))) [])) else False) else False) else False) else False) else ((a0_2.all plainC && true && true) = true ∧ LoopP (fun (z0 : (Int × (List Cell))) (k0 : (Int × (List Cell)) → Prop) => (fun (z : Int × (List Cell)) => (fun (y0_0 : Int) (y0_1 : List Cell) => bif decide (y0_0 ≤ a0_0) then (bif y0_0 != IntKind.i64.wrap (a1 + 1) then (bif decide (0 ≤ y0_0) && decide (y0_0 < 7) then (bif decide (0 ≤ IntKind.i64.wrap (a1 + 1)) && decide (IntKind.i64.wrap (a1 + 1) < 7) then (bif decide ((IntKind.i64.wrap (a1 + 1)).toNat * 1 + y0_0.toNat * 7 + 3 ≤ y0_1.length + 2) then (bif decide (y0_0.toNat * 1 + (IntKind.i64.wrap (a1 + 1)).toNat * 7 + 3 ≤ (y0_1.set ((IntKind.i64.wrap (a1 + 1)).toNat * 1 + y0_0.toNat * 7) (Cell.v (Value.int IntKind.i64 1099511627776))).length + 2) then (((X89_0 a1 y0_0 y0_1).all plainC && true && true) = true ∧ k0 ((IntKind.i64.wrap (y0_0 + 1)), (X89_0 a1 y0_0 y0_1))) else False) else False) else False) else False) else ((y0_1.all plainC && true && true) = true ∧ k0 ((IntKind.i64.wrap (y0_0 + 1)), (y0_1)))) else (bif y0_1.length + 2 == 51 then (bif y0_1.all plainC && true && (y0_1.all (isInt IntKind.i64) && y0_1.length == 49 && okN a0_0) && (X89_1 a0_0 a0_1 y0_1).all (okC 0) && true && true && true && true then (bif (X89_1 a0_0 a0_1 y0_1).length + 2 == 51 && true && true then (bif (X89_1 a0_0 a0_1 y0_1).length + 2 == 51 && true then (bif (X89_1 a0_0 a0_1 y0_1).all plainC then (R (Ret.mk (.agg ((.v (.int .i64 ((closeR (a0_0, a0_1, List.map intC y0_1)).fst))) :: (.v (.bool ((closeR (a0_0, a0_1, List.map intC y0_1)).snd.fst))) :: (X89_1 a0_0 a0_1 y0_1))) [])) else False) else False) else False) else False) else False)) z.1 z.2) z0) (0, (a0_2)))

set_option maxRecDepth 100000 in
theorem f89_sound (a0_0 : Int) (a0_1 : Bool) (a0_2 : List Cell) (a1 : Int) (hC : CtxOk Try.prog cx89.q.ctx) {r : Ret} (h : f89_wp a0_0 a0_1 a0_2 a1 (fun r' => r' = r)) : SoundAt Try.prog 89 [(.agg ((.v (.int .i64 a0_0)) :: (.v (.bool a0_1)) :: a0_2)), (.one (.v (.int .i64 a1)))] r := by
  refine soundAtO (C := cx89) (oc := (.two .e .e)) mixed hC F89_ok ?_
  rewrite [E89 a0_0 a0_1 a0_2 a1]
  unfold f89_wp at h
  refine cond_mapE h (fun q1 h => ?_) (fun q1 h => ?_)
  · skip
    refine ck_mapE h (fun q2 h => ?_)
    refine ck_mapE h (fun q3 h => ?_)
    refine ck_mapE h (fun q5 h => ?_)
    refine ck_mapE h (fun q4 h => ?_)
    exact h
  · skip
    obtain ⟨q30, h⟩ := h
    refine loop_of (I := (fun (z : Int × (List Cell)) => (I89_0_0 a0_0 a0_1 a0_2 a1 z.1 z.2))) (fun z k0 h => ?_) h q30 rfl
    obtain ⟨y0_0, y0_1⟩ := z
    try dsimp only [sumE_l, sumE_r] at h
    refine bodyX_i (ob := (.two (.two .e .e) .e)) ?_
    rewrite [E89_0_0 a0_0 a0_1 a0_2 a1 y0_0 y0_1]
    refine cond_mapE h (fun q17 h => ?_) (fun q17 h => ?_)
    · skip
      refine cond_mapE h (fun q18 h => ?_) (fun q18 h => ?_)
      · skip
        refine ck_mapE h (fun q19 h => ?_)
        refine ck_mapE h (fun q20 h => ?_)
        refine ck_mapE h (fun q21 h => ?_)
        refine ck_i q20 ?_
        refine ck_i q19 ?_
        refine ck_mapE h (fun q22 h => ?_)
        obtain ⟨q23, h⟩ := h
        exact again_i (y := ((IntKind.i64.wrap (y0_0 + 1)), (X89_0 a1 y0_0 y0_1))) q23 h
      · skip
        obtain ⟨q24, h⟩ := h
        exact again_i (y := ((IntKind.i64.wrap (y0_0 + 1)), (y0_1))) q24 h
    · skip
      refine ck_mapE h (fun q25 h => ?_)
      refine ck_mapE h (fun q26 h => ?_)
      refine ck_mapE h (fun q27 h => ?_)
      refine ck_mapE h (fun q29 h => ?_)
      refine ck_mapE h (fun q28 h => ?_)
      exact h


def cx90 : CtxW := ⟨⟨[(88, sum88), (89, sum89)], []⟩, 2, []⟩


def F90_b0 : SC := (.seq (.seq (.reg [(o1 16 (.mv (.t 9))), (o1 17 (.fld 0 (.t 4))), (o1 18 (.load .false .false 1 [(.some .i64)] (.t 17))), (o1 19 (.bin .leq (.t 16) (.t 18)))]) (.cond (.t 19) .skip (.exit 0))) (.seq (.blk 1 (.seq (.reg [(o1 22 (.mv (.t 9))), (o1 23 (.mv (.t 1))), (o1 24 (.bin .add (.t 23) (.c (.int .i64 1)))), (o1 25 (.bin .neq (.t 22) (.t 24)))]) (.cond (.t 25) (.seq (.reg [(o1 26 (.mv (.t 1))), (o1 27 (.bin .add (.t 26) (.c (.int .i64 1)))), (o1 28 (.mv (.t 9))), (o1 29 (.mv (.t 1))), (o1 30 (.bin .add (.t 29) (.c (.int .i64 1)))), (o1 31 (.mv (.t 9))), (o1 32 (.fld 2 (.t 4))), (o1 33 (.ixA 7 7 (.t 32) (.t 30))), (o1 34 (.ixA 7 1 (.t 33) (.t 31))), (o1 35 (.load .false .false 1 [(.some .i64)] (.t 34))), (o1 36 (.mv (.t 3))), (o1 37 (.bin .add (.t 35) (.t 36))), (o1 38 (.fld 2 (.t 4))), (o1 39 (.ixA 7 7 (.t 38) (.t 27))), (o1 40 (.ixA 7 1 (.t 39) (.t 28))), (.mk .none (.store .false 1 (.t 40) (.t 37)) .none)]) (.reg [(o1 41 (.mv (.t 9))), (o1 42 (.mv (.t 1))), (o1 43 (.bin .add (.t 42) (.c (.int .i64 1)))), (o1 44 (.mv (.t 9))), (o1 45 (.mv (.t 1))), (o1 46 (.bin .add (.t 45) (.c (.int .i64 1)))), (o1 47 (.fld 2 (.t 4))), (o1 48 (.ixA 7 7 (.t 47) (.t 44))), (o1 49 (.ixA 7 1 (.t 48) (.t 46))), (o1 50 (.load .false .false 1 [(.some .i64)] (.t 49))), (o1 51 (.mv (.t 3))), (o1 52 (.bin .sub (.t 50) (.t 51))), (o1 53 (.fld 2 (.t 4))), (o1 54 (.ixA 7 7 (.t 53) (.t 41))), (o1 55 (.ixA 7 1 (.t 54) (.t 43))), (.mk .none (.store .false 1 (.t 55) (.t 52)) .none)])) .skip))) (.reg [(o1 20 (.mv (.t 9))), (o1 21 (.bin .add (.t 20) (.c (.int .i64 1)))), (o1 9 (.mv (.t 21)))])))

def F90_c1 : SC := (.seq (.reg [(o1 56 (.load .false .true 51 K51 (.t 4))), (o1 57 (.call .false .false (.f 88) [(.t 56)])), (.mk .none (.store .false 51 (.t 8) (.t 57)) .none)]) .ret)

def F90_c2 : SC := (.seq (.reg [(o1 58 (.load .false .true 51 K51 (.t 4))), (o1 59 (.mv (.t 1))), (o1 60 (.call .false .false (.f 89) [(.t 58), (.t 59)])), (.mk .none (.store .false 51 (.t 4) (.t 60)) .none)]) (.seq (.reg [(o1 61 (.mv (.t 1))), (o1 62 (.bin .add (.t 61) (.c (.int .i64 1)))), (o1 63 (.mv (.t 2))), (o1 64 (.bin .add (.t 63) (.c (.int .i64 1)))), (o1 65 (.mv (.t 2))), (o1 66 (.bin .add (.t 65) (.c (.int .i64 1)))), (o1 67 (.mv (.t 1))), (o1 68 (.bin .add (.t 67) (.c (.int .i64 1)))), (o1 69 (.mv (.t 3))), (o1 70 (.mv (.t 3))), (o1 71 (.bin .sub (.c (.int .i64 0)) (.t 70))), (o1 72 (.fld 2 (.t 4))), (o1 73 (.ixA 7 7 (.t 72) (.t 62))), (o1 74 (.ixA 7 1 (.t 73) (.t 64))), (.mk .none (.store .false 1 (.t 74) (.t 69)) .none), (o1 75 (.fld 2 (.t 4))), (o1 76 (.ixA 7 7 (.t 75) (.t 66))), (o1 77 (.ixA 7 1 (.t 76) (.t 68))), (.mk .none (.store .false 1 (.t 77) (.t 71)) .none)]) (.seq (.reg [(o1 78 (.load .false .true 51 K51 (.t 4))), (o1 79 (.call .false .false (.f 88) [(.t 78)])), (.mk .none (.store .false 51 (.t 8) (.t 79)) .none)]) .ret)))

def F90 : SFn := ⟨80, [(.cell 8 .true 51)], (.seq (.reg [(o1 4 (.box (.t 0))), (o1 8 (.alloc [(.int .i64 0), (.bool .false), (.int .i64 0), (.int .i64 0), (.int .i64 0), (.int .i64 0), (.int .i64 0), (.int .i64 0), (.int .i64 0), (.int .i64 0), (.int .i64 0), (.int .i64 0), (.int .i64 0), (.int .i64 0), (.int .i64 0), (.int .i64 0), (.int .i64 0), (.int .i64 0), (.int .i64 0), (.int .i64 0), (.int .i64 0), (.int .i64 0), (.int .i64 0), (.int .i64 0), (.int .i64 0), (.int .i64 0), (.int .i64 0), (.int .i64 0), (.int .i64 0), (.int .i64 0), (.int .i64 0), (.int .i64 0), (.int .i64 0), (.int .i64 0), (.int .i64 0), (.int .i64 0), (.int .i64 0), (.int .i64 0), (.int .i64 0), (.int .i64 0), (.int .i64 0), (.int .i64 0), (.int .i64 0), (.int .i64 0), (.int .i64 0), (.int .i64 0), (.int .i64 0), (.int .i64 0), (.int .i64 0), (.int .i64 0), (.int .i64 0)]))]) (.seq (.seq (.reg [(o1 10 (.fld 1 (.t 4))), (o1 11 (.load .false .false 1 [.none] (.t 10)))]) (.cond (.t 11) (.seq (.reg [(o1 12 (.load .false .true 51 K51 (.t 4))), (.mk .none (.store .false 51 (.t 8) (.t 12)) .none)]) .ret) .skip)) (.seq (.seq (.reg [(o1 13 (.mv (.t 1))), (o1 14 (.mv (.t 2))), (o1 15 (.bin .eql (.t 13) (.t 14)))]) (.cond (.t 15) (.seq (.seq (.reg [(o1 9 (.mv (.c (.int .i64 0))))]) (.blk 0 (.loop [1, 3, 4, 8, 9] [4, 8] [] F90_b0))) F90_c1) .skip)) F90_c2)))⟩

theorem F90_ok : sfn Try.prog hints 90 [([1, 3, 4, 8, 9], ([4, 8], []))] = some F90 := by kernel_rfl

abbrev X90_0 (a0_0 : Int) (a0_1 : Bool) (a0_2 : List Cell) (a1 : Int) (a2 : Int) (a3 : Int) := (((ic IntKind.i64 (forgetR (a0_0, a0_1, List.map intC a0_2) a1).snd.snd).set ((IntKind.i64.wrap (a2 + 1)).toNat * 1 + (IntKind.i64.wrap (a1 + 1)).toNat * 7) (Cell.v (Value.int IntKind.i64 a3))).set ((IntKind.i64.wrap (a1 + 1)).toNat * 1 + (IntKind.i64.wrap (a2 + 1)).toNat * 7) (Cell.v (Value.int IntKind.i64 (IntKind.i64.wrap (0 - a3)))))
abbrev X90_1 (a1 : Int) (a3 : Int) (y0_0 : Int) (y0_1 : List Cell) := (y0_1.set (y0_0.toNat * 1 + (IntKind.i64.wrap (a1 + 1)).toNat * 7) (Cell.v (Value.int IntKind.i64 (IntKind.i64.wrap (intC (y0_1.getD (y0_0.toNat * 1 + (IntKind.i64.wrap (a1 + 1)).toNat * 7) Cell.dead) + a3)))))
abbrev X90_2 (a0_0 : Int) (a0_1 : Bool) (a0_2 : List Cell) (a1 : Int) (a2 : Int) (a3 : Int) := (closeR ((forgetR (a0_0, a0_1, List.map intC a0_2) a1).fst, (forgetR (a0_0, a0_1, List.map intC a0_2) a1).snd.fst, List.map intC (X90_0 a0_0 a0_1 a0_2 a1 a2 a3)))
abbrev X90_3 (a1 : Int) (a3 : Int) (y0_0 : Int) (y0_1 : List Cell) := ((X90_1 a1 a3 y0_0 y0_1).set ((IntKind.i64.wrap (a1 + 1)).toNat * 1 + y0_0.toNat * 7) (Cell.v (Value.int IntKind.i64 (IntKind.i64.wrap (intC ((X90_1 a1 a3 y0_0 y0_1).getD ((IntKind.i64.wrap (a1 + 1)).toNat * 1 + y0_0.toNat * 7) Cell.dead) - a3)))))
abbrev X90_4 (a0_0 : Int) (a0_1 : Bool) (y0_1 : List Cell) := (ic IntKind.i64 (closeR (a0_0, a0_1, List.map intC y0_1)).snd.snd)

def I90_0_0 (a0_0 : Int) (a0_1 : Bool) (a0_2 : List Cell) (a1 : Int) (a2 : Int) (a3 : Int) (y0_0 : Int) (y0_1 : List Cell) : St := (.mk (.no :: ((.one (.v (.int .i64 (a1)))) :: (.no :: ((.one (.v (.int .i64 (a3)))) :: ((.box 4 0 0) :: (.no :: (.no :: (.no :: ((.box 8 0 0) :: ((.one (.v (.int .i64 (y0_0)))) :: (n10 (n10 (n10 (n10 (n10 (n10 (n10 []))))))))))))))))) ([] :: ([] :: ([] :: ([] :: ([((.v (.int .i64 (a0_0))) :: (.v (.bool (a0_1))) :: (y0_1))] :: ([] :: ([] :: ([] :: ([((.v (.int .i64 0)) :: (.v (.bool .false)) :: (List.replicate 49 (Cell.v (Value.int IntKind.i64 0))))] :: (e10 (e10 (e10 (e10 (e10 (e10 (e10 ([] :: []))))))))))))))))) (e10 (e10 (e10 (e10 (e10 (e10 (e10 (e10 [])))))))))

theorem E90_0_0 (a0_0 : Int) (a0_1 : Bool) (a0_2 : List Cell) (a1 : Int) (a2 : Int) (a3 : Int) (y0_0 : Int) (y0_1 : List Cell) (N0 : Bool × St → Prop) (R : Ret → Prop) : wpO cx90 F90_b0 (.two (.two .e .e) .e) (I90_0_0 a0_0 a0_1 a0_2 a1 a2 a3 y0_0 y0_1) (kLp (headW cx90.m [1, 3, 4, 8, 9] [4, 8] []) N0 (kBlk 0 (kSeq cx90 F90_c1 (kSeq cx90 F90_c2 (endO cx90.m F90.rs R))))) = (bif decide (y0_0 ≤ a0_0) then (bif y0_0 != IntKind.i64.wrap (a1 + 1) then (bif decide (0 ≤ IntKind.i64.wrap (a1 + 1)) && decide (IntKind.i64.wrap (a1 + 1) < 7) then (bif decide (0 ≤ y0_0) && decide (y0_0 < 7) then (bif decide (y0_0.toNat * 1 + (IntKind.i64.wrap (a1 + 1)).toNat * 7 + 3 ≤ y0_1.length + 2) && okK (some IntKind.i64) (y0_1.getD (y0_0.toNat * 1 + (IntKind.i64.wrap (a1 + 1)).toNat * 7) Cell.dead) then (bif decide (0 ≤ IntKind.i64.wrap (a1 + 1)) && decide (IntKind.i64.wrap (a1 + 1) < 7) then (bif decide (0 ≤ y0_0) && decide (y0_0 < 7) then (bif decide (y0_0.toNat * 1 + (IntKind.i64.wrap (a1 + 1)).toNat * 7 + 3 ≤ y0_1.length + 2) then (bif decide (0 ≤ y0_0) && decide (y0_0 < 7) then (bif decide (0 ≤ IntKind.i64.wrap (a1 + 1)) && decide (IntKind.i64.wrap (a1 + 1) < 7) then (bif decide ((IntKind.i64.wrap (a1 + 1)).toNat * 1 + y0_0.toNat * 7 + 3 ≤ (X90_1 a1 a3 y0_0 y0_1).length + 2) && okK (some IntKind.i64) ((X90_1 a1 a3 y0_0 y0_1).getD ((IntKind.i64.wrap (a1 + 1)).toNat * 1 + y0_0.toNat * 7) Cell.dead) then (bif decide (0 ≤ y0_0) && decide (y0_0 < 7) then (bif decide (0 ≤ IntKind.i64.wrap (a1 + 1)) && decide (IntKind.i64.wrap (a1 + 1) < 7) then (bif decide ((IntKind.i64.wrap (a1 + 1)).toNat * 1 + y0_0.toNat * 7 + 3 ≤ (X90_1 a1 a3 y0_0 y0_1).length + 2) then (N0 ((X90_3 a1 a3 y0_0 y0_1).all plainC && true && true, (I90_0_0 a0_0 a0_1 a0_2 a1 a2 a3 (IntKind.i64.wrap (y0_0 + 1)) (X90_3 a1 a3 y0_0 y0_1)))) else False) else False) else False) else False) else False) else False) else False) else False) else False) else False) else False) else False) else (N0 (y0_1.all plainC && true && true, (I90_0_0 a0_0 a0_1 a0_2 a1 a2 a3 (IntKind.i64.wrap (y0_0 + 1)) (y0_1))))) else (bif y0_1.length + 2 == 51 then (bif y0_1.all plainC && true && (y0_1.all (isInt IntKind.i64) && y0_1.length == 49 && okN a0_0) && (X90_4 a0_0 a0_1 y0_1).all (okC 0) && true && true && true && true then (bif (X90_4 a0_0 a0_1 y0_1).length + 2 == 51 && true && true then (bif (X90_4 a0_0 a0_1 y0_1).length + 2 == 51 && true then (bif (X90_4 a0_0 a0_1 y0_1).all plainC then (R (Ret.mk (.agg ((.v (.int .i64 ((closeR (a0_0, a0_1, List.map intC y0_1)).fst))) :: (.v (.bool ((closeR (a0_0, a0_1, List.map intC y0_1)).snd.fst))) :: (X90_4 a0_0 a0_1 y0_1))) [])) else False) else False) else False) else False) else False)) := by kernel_rfl

theorem E90 (a0_0 : Int) (a0_1 : Bool) (a0_2 : List Cell) (a1 : Int) (a2 : Int) (a3 : Int) (R : Ret → Prop) : wpFO cx90 F90 (.two .e (.two .e .e)) [(.agg ((.v (.int .i64 a0_0)) :: (.v (.bool a0_1)) :: a0_2)), (.one (.v (.int .i64 a1))), (.one (.v (.int .i64 a2))), (.one (.v (.int .i64 a3)))] R = (bif a0_1 then (bif a0_2.length + 2 == 51 then (bif a0_2.length + 2 == 51 && true && true then (bif a0_2.length + 2 == 51 && true then (bif a0_2.all plainC then (R (Ret.mk (.agg ((.v (.int .i64 (a0_0))) :: (.v (.bool (a0_1))) :: (a0_2))) [])) else False) else False) else False) else False) else (bif a1 == a2 then (LoopO (bodyX cx90 F90_b0) (headW cx90.m [1, 3, 4, 8, 9] [4, 8] []) (kBlk 0 (kSeq cx90 F90_c1 (kSeq cx90 F90_c2 (endO cx90.m F90.rs R)))) (a0_2.all plainC && true && true, (I90_0_0 a0_0 a0_1 a0_2 a1 a2 a3 0 (a0_2)))) else (bif a0_2.length + 2 == 51 then (bif a0_2.all plainC && true && (a0_2.all (isInt IntKind.i64) && a0_2.length == 49 && okN a0_0 && true && in16 a1) && (ic IntKind.i64 (forgetR (a0_0, a0_1, List.map intC a0_2) a1).snd.snd).all (okC 0) && true && true && true && true then (bif (ic IntKind.i64 (forgetR (a0_0, a0_1, List.map intC a0_2) a1).snd.snd).length + 2 == 51 && a0_2.length + 2 == 51 && true then (bif decide (0 ≤ IntKind.i64.wrap (a1 + 1)) && decide (IntKind.i64.wrap (a1 + 1) < 7) then (bif decide (0 ≤ IntKind.i64.wrap (a2 + 1)) && decide (IntKind.i64.wrap (a2 + 1) < 7) then (bif decide ((IntKind.i64.wrap (a2 + 1)).toNat * 1 + (IntKind.i64.wrap (a1 + 1)).toNat * 7 + 3 ≤ (ic IntKind.i64 (forgetR (a0_0, a0_1, List.map intC a0_2) a1).snd.snd).length + 2) then (bif decide (0 ≤ IntKind.i64.wrap (a2 + 1)) && decide (IntKind.i64.wrap (a2 + 1) < 7) then (bif decide (0 ≤ IntKind.i64.wrap (a1 + 1)) && decide (IntKind.i64.wrap (a1 + 1) < 7) then (bif decide ((IntKind.i64.wrap (a1 + 1)).toNat * 1 + (IntKind.i64.wrap (a2 + 1)).toNat * 7 + 3 ≤ ((ic IntKind.i64 (forgetR (a0_0, a0_1, List.map intC a0_2) a1).snd.snd).set ((IntKind.i64.wrap (a2 + 1)).toNat * 1 + (IntKind.i64.wrap (a1 + 1)).toNat * 7) (Cell.v (Value.int IntKind.i64 a3))).length + 2) then (bif (X90_0 a0_0 a0_1 a0_2 a1 a2 a3).length + 2 == 51 then (bif (X90_0 a0_0 a0_1 a0_2 a1 a2 a3).all plainC && true && ((X90_0 a0_0 a0_1 a0_2 a1 a2 a3).all (isInt IntKind.i64) && (X90_0 a0_0 a0_1 a0_2 a1 a2 a3).length == 49 && okN (forgetR (a0_0, a0_1, List.map intC a0_2) a1).fst) && (ic IntKind.i64 (X90_2 a0_0 a0_1 a0_2 a1 a2 a3).snd.snd).all (okC 0) && true && true && true && true then (bif (ic IntKind.i64 (X90_2 a0_0 a0_1 a0_2 a1 a2 a3).snd.snd).length + 2 == 51 && true && true then (bif (ic IntKind.i64 (X90_2 a0_0 a0_1 a0_2 a1 a2 a3).snd.snd).length + 2 == 51 && true then (bif (ic IntKind.i64 (X90_2 a0_0 a0_1 a0_2 a1 a2 a3).snd.snd).all plainC then (R (Ret.mk (.agg ((.v (.int .i64 ((X90_2 a0_0 a0_1 a0_2 a1 a2 a3).fst))) :: (.v (.bool ((X90_2 a0_0 a0_1 a0_2 a1 a2 a3).snd.fst))) :: (ic IntKind.i64 (X90_2 a0_0 a0_1 a0_2 a1 a2 a3).snd.snd))) [])) else False) else False) else False) else False) else False) else False) else False) else False) else False) else False) else False) else False) else False) else False))) := by kernel_rfl

def f90_wp (a0_0 : Int) (a0_1 : Bool) (a0_2 : List Cell) (a1 : Int) (a2 : Int) (a3 : Int) (R : Ret → Prop) : Prop := bif a0_1 then (bif a0_2.length + 2 == 51 then (bif a0_2.length + 2 == 51 && true && true then (bif a0_2.length + 2 == 51 && true then (bif a0_2.all plainC then (R (Ret.mk (.agg ((.v (.int .i64 (a0_0))) :: (.v (.bool (a0_1))) :: (a0_2))) [])) else False) else False) else False) else False) else (bif a1 == a2 then ((a0_2.all plainC && true && true) = true ∧ LoopP (fun (z0 : (Int × (List Cell))) (k0 : (Int × (List Cell)) → Prop) => (fun (z : Int × (List Cell)) => (fun (y0_0 : Int) (y0_1 : List Cell) => bif decide (y0_0 ≤ a0_0) then (bif y0_0 != IntKind.i64.wrap (a1 + 1) then (bif decide (0 ≤ IntKind.i64.wrap (a1 + 1)) && decide (IntKind.i64.wrap (a1 + 1) < 7) then (bif decide (0 ≤ y0_0) && decide (y0_0 < 7) then (bif decide (y0_0.toNat * 1 + (IntKind.i64.wrap (a1 + 1)).toNat * 7 + 3 ≤ y0_1.length + 2) && okK (some IntKind.i64) (y0_1.getD (y0_0.toNat * 1 + (IntKind.i64.wrap (a1 + 1)).toNat * 7) Cell.dead) then (bif decide (y0_0.toNat * 1 + (IntKind.i64.wrap (a1 + 1)).toNat * 7 + 3 ≤ y0_1.length + 2) then (bif decide ((IntKind.i64.wrap (a1 + 1)).toNat * 1 + y0_0.toNat * 7 + 3 ≤ (X90_1 a1 a3 y0_0 y0_1).length + 2) && okK (some IntKind.i64) ((X90_1 a1 a3 y0_0 y0_1).getD ((IntKind.i64.wrap (a1 + 1)).toNat * 1 + y0_0.toNat * 7) Cell.dead) then (bif decide ((IntKind.i64.wrap (a1 + 1)).toNat * 1 + y0_0.toNat * 7 + 3 ≤ (X90_1 a1 a3 y0_0 y0_1).length + 2) then (((X90_3 a1 a3 y0_0 y0_1).all plainC && true && true) = true ∧ k0 ((IntKind.i64.wrap (y0_0 + 1)), (X90_3 a1 a3 y0_0 y0_1))) else False) else False) else False) else False) else False) else False) else ((y0_1.all plainC && true && true) = true ∧ k0 ((IntKind.i64.wrap (y0_0 + 1)), (y0_1)))) else (bif y0_1.length + 2 == 51 then (bif y0_1.all plainC && true && (y0_1.all (isInt IntKind.i64) && y0_1.length == 49 && okN a0_0) && (X90_4 a0_0 a0_1 y0_1).all (okC 0) && true && true && true && true then (bif (X90_4 a0_0 a0_1 y0_1).length + 2 == 51 && true && true then (bif (X90_4 a0_0 a0_1 y0_1).length + 2 == 51 && true then (bif (X90_4 a0_0 a0_1 y0_1).all plainC then (R (Ret.mk (.agg ((.v (.int .i64 ((closeR (a0_0, a0_1, List.map intC y0_1)).fst))) :: (.v (.bool ((closeR (a0_0, a0_1, List.map intC y0_1)).snd.fst))) :: (X90_4 a0_0 a0_1 y0_1))) [])) else False) else False) else False) else False) else False)) z.1 z.2) z0) (0, (a0_2))) else (bif a0_2.length + 2 == 51 then (bif a0_2.all plainC && true && (a0_2.all (isInt IntKind.i64) && a0_2.length == 49 && okN a0_0 && true && in16 a1) && (ic IntKind.i64 (forgetR (a0_0, a0_1, List.map intC a0_2) a1).snd.snd).all (okC 0) && true && true && true && true then (bif (ic IntKind.i64 (forgetR (a0_0, a0_1, List.map intC a0_2) a1).snd.snd).length + 2 == 51 && a0_2.length + 2 == 51 && true then (bif decide (0 ≤ IntKind.i64.wrap (a1 + 1)) && decide (IntKind.i64.wrap (a1 + 1) < 7) then (bif decide (0 ≤ IntKind.i64.wrap (a2 + 1)) && decide (IntKind.i64.wrap (a2 + 1) < 7) then (bif decide ((IntKind.i64.wrap (a2 + 1)).toNat * 1 + (IntKind.i64.wrap (a1 + 1)).toNat * 7 + 3 ≤ (ic IntKind.i64 (forgetR (a0_0, a0_1, List.map intC a0_2) a1).snd.snd).length + 2) then (bif decide ((IntKind.i64.wrap (a1 + 1)).toNat * 1 + (IntKind.i64.wrap (a2 + 1)).toNat * 7 + 3 ≤ ((ic IntKind.i64 (forgetR (a0_0, a0_1, List.map intC a0_2) a1).snd.snd).set ((IntKind.i64.wrap (a2 + 1)).toNat * 1 + (IntKind.i64.wrap (a1 + 1)).toNat * 7) (Cell.v (Value.int IntKind.i64 a3))).length + 2) then (bif (X90_0 a0_0 a0_1 a0_2 a1 a2 a3).length + 2 == 51 then (bif (X90_0 a0_0 a0_1 a0_2 a1 a2 a3).all plainC && true && ((X90_0 a0_0 a0_1 a0_2 a1 a2 a3).all (isInt IntKind.i64) && (X90_0 a0_0 a0_1 a0_2 a1 a2 a3).length == 49 && okN (forgetR (a0_0, a0_1, List.map intC a0_2) a1).fst) && (ic IntKind.i64 (X90_2 a0_0 a0_1 a0_2 a1 a2 a3).snd.snd).all (okC 0) && true && true && true && true then (bif (ic IntKind.i64 (X90_2 a0_0 a0_1 a0_2 a1 a2 a3).snd.snd).length + 2 == 51 && true && true then (bif (ic IntKind.i64 (X90_2 a0_0 a0_1 a0_2 a1 a2 a3).snd.snd).length + 2 == 51 && true then (bif (ic IntKind.i64 (X90_2 a0_0 a0_1 a0_2 a1 a2 a3).snd.snd).all plainC then (R (Ret.mk (.agg ((.v (.int .i64 ((X90_2 a0_0 a0_1 a0_2 a1 a2 a3).fst))) :: (.v (.bool ((X90_2 a0_0 a0_1 a0_2 a1 a2 a3).snd.fst))) :: (ic IntKind.i64 (X90_2 a0_0 a0_1 a0_2 a1 a2 a3).snd.snd))) [])) else False) else False) else False) else False) else False) else False) else False) else False) else False) else False) else False) else False))

set_option maxRecDepth 100000 in
theorem f90_sound (a0_0 : Int) (a0_1 : Bool) (a0_2 : List Cell) (a1 : Int) (a2 : Int) (a3 : Int) (hC : CtxOk Try.prog cx90.q.ctx) {r : Ret} (h : f90_wp a0_0 a0_1 a0_2 a1 a2 a3 (fun r' => r' = r)) : SoundAt Try.prog 90 [(.agg ((.v (.int .i64 a0_0)) :: (.v (.bool a0_1)) :: a0_2)), (.one (.v (.int .i64 a1))), (.one (.v (.int .i64 a2))), (.one (.v (.int .i64 a3)))] r := by
  refine soundAtO (C := cx90) (oc := (.two .e (.two .e .e))) mixed hC F90_ok ?_
  rewrite [E90 a0_0 a0_1 a0_2 a1 a2 a3]
  unfold f90_wp at h
  refine cond_mapE h (fun q1 h => ?_) (fun q1 h => ?_)
  · skip
    refine ck_mapE h (fun q2 h => ?_)
    refine ck_mapE h (fun q3 h => ?_)
    refine ck_mapE h (fun q5 h => ?_)
    refine ck_mapE h (fun q4 h => ?_)
    exact h
  · skip
    refine cond_mapE h (fun q6 h => ?_) (fun q6 h => ?_)
    · skip
      obtain ⟨q37, h⟩ := h
      refine loop_of (I := (fun (z : Int × (List Cell)) => (I90_0_0 a0_0 a0_1 a0_2 a1 a2 a3 z.1 z.2))) (fun z k0 h => ?_) h q37 rfl
      obtain ⟨y0_0, y0_1⟩ := z
      try dsimp only [sumE_l, sumE_r] at h
      refine bodyX_i (ob := (.two (.two .e .e) .e)) ?_
      rewrite [E90_0_0 a0_0 a0_1 a0_2 a1 a2 a3 y0_0 y0_1]
      refine cond_mapE h (fun q22 h => ?_) (fun q22 h => ?_)
      · skip
        refine cond_mapE h (fun q23 h => ?_) (fun q23 h => ?_)
        · skip
          refine ck_mapE h (fun q24 h => ?_)
          refine ck_mapE h (fun q25 h => ?_)
          refine ck_mapE h (fun q26 h => ?_)
          refine ck_i q24 ?_
          refine ck_i q25 ?_
          refine ck_mapE h (fun q27 h => ?_)
          refine ck_i q25 ?_
          refine ck_i q24 ?_
          refine ck_mapE h (fun q28 h => ?_)
          refine ck_i q25 ?_
          refine ck_i q24 ?_
          refine ck_mapE h (fun q29 h => ?_)
          obtain ⟨q30, h⟩ := h
          exact again_i (y := ((IntKind.i64.wrap (y0_0 + 1)), (X90_3 a1 a3 y0_0 y0_1))) q30 h
        · skip
          obtain ⟨q31, h⟩ := h
          exact again_i (y := ((IntKind.i64.wrap (y0_0 + 1)), (y0_1))) q31 h
      · skip
        refine ck_mapE h (fun q32 h => ?_)
        refine ck_mapE h (fun q33 h => ?_)
        refine ck_mapE h (fun q34 h => ?_)
        refine ck_mapE h (fun q36 h => ?_)
        refine ck_mapE h (fun q35 h => ?_)
        exact h
    · skip
      refine ck_mapE h (fun q38 h => ?_)
      refine ck_mapE h (fun q39 h => ?_)
      refine ck_mapE h (fun q40 h => ?_)
      refine ck_mapE h (fun q41 h => ?_)
      refine ck_mapE h (fun q42 h => ?_)
      refine ck_mapE h (fun q43 h => ?_)
      refine ck_i q42 ?_
      refine ck_i q41 ?_
      refine ck_mapE h (fun q44 h => ?_)
      refine ck_mapE h (fun q45 h => ?_)
      refine ck_mapE h (fun q46 h => ?_)
      refine ck_mapE h (fun q47 h => ?_)
      refine ck_mapE h (fun q49 h => ?_)
      refine ck_mapE h (fun q48 h => ?_)
      exact h


def cx34 : CtxW := ⟨⟨[], []⟩, 2, []⟩


def F34 : SFn := ⟨10, [(.cell 2 .true 51)], (.seq (.reg [(o1 1 (.box (.t 0))), (o1 2 (.alloc [(.int .i64 0), (.bool .false), (.int .i64 0), (.int .i64 0), (.int .i64 0), (.int .i64 0), (.int .i64 0), (.int .i64 0), (.int .i64 0), (.int .i64 0), (.int .i64 0), (.int .i64 0), (.int .i64 0), (.int .i64 0), (.int .i64 0), (.int .i64 0), (.int .i64 0), (.int .i64 0), (.int .i64 0), (.int .i64 0), (.int .i64 0), (.int .i64 0), (.int .i64 0), (.int .i64 0), (.int .i64 0), (.int .i64 0), (.int .i64 0), (.int .i64 0), (.int .i64 0), (.int .i64 0), (.int .i64 0), (.int .i64 0), (.int .i64 0), (.int .i64 0), (.int .i64 0), (.int .i64 0), (.int .i64 0), (.int .i64 0), (.int .i64 0), (.int .i64 0), (.int .i64 0), (.int .i64 0), (.int .i64 0), (.int .i64 0), (.int .i64 0), (.int .i64 0), (.int .i64 0), (.int .i64 0), (.int .i64 0), (.int .i64 0), (.int .i64 0)]))]) (.seq (.reg [(o1 3 (.fld 0 (.t 1))), (o1 4 (.load .false .false 1 [(.some .i64)] (.t 3))), (o1 5 (.fld 1 (.t 1))), (o1 6 (.load .false .false 1 [.none] (.t 5))), (o1 7 (.fld 2 (.t 1))), (o1 8 (.load .false .true 49 K49 (.t 7))), (o1 9 (.build [(.int .i64 0), (.bool .false), (.int .i64 0), (.int .i64 0), (.int .i64 0), (.int .i64 0), (.int .i64 0), (.int .i64 0), (.int .i64 0), (.int .i64 0), (.int .i64 0), (.int .i64 0), (.int .i64 0), (.int .i64 0), (.int .i64 0), (.int .i64 0), (.int .i64 0), (.int .i64 0), (.int .i64 0), (.int .i64 0), (.int .i64 0), (.int .i64 0), (.int .i64 0), (.int .i64 0), (.int .i64 0), (.int .i64 0), (.int .i64 0), (.int .i64 0), (.int .i64 0), (.int .i64 0), (.int .i64 0), (.int .i64 0), (.int .i64 0), (.int .i64 0), (.int .i64 0), (.int .i64 0), (.int .i64 0), (.int .i64 0), (.int .i64 0), (.int .i64 0), (.int .i64 0), (.int .i64 0), (.int .i64 0), (.int .i64 0), (.int .i64 0), (.int .i64 0), (.int .i64 0), (.int .i64 0), (.int .i64 0), (.int .i64 0), (.int .i64 0)] [(0, (1, (.t 4))), (1, (1, (.t 6))), (2, (49, (.t 8)))])), (.mk .none (.store .false 51 (.t 2) (.t 9)) .none)]) .ret))⟩

theorem F34_ok : sfn Try.prog hints 34 [] = some F34 := by kernel_rfl

theorem E34 (a0_0 : Int) (a0_1 : Bool) (a0_2 : List Cell) (R : Ret → Prop) : wpFO cx34 F34 .e [(.agg ((.v (.int .i64 a0_0)) :: (.v (.bool a0_1)) :: a0_2))] R = (bif decide (51 ≤ a0_2.length + 2) then (bif (List.take 49 a0_2).length == 49 && true && true then (bif (List.take 49 a0_2).length + 2 == 51 && true && true then (bif (List.take 49 a0_2).length + 2 == 51 && true then (bif (List.take 49 a0_2).all plainC then (R (Ret.mk (.agg ((.v (.int .i64 (a0_0))) :: (.v (.bool (a0_1))) :: (List.take 49 a0_2))) [])) else False) else False) else False) else False) else False) := by kernel_rfl

def f34_wp (a0_0 : Int) (a0_1 : Bool) (a0_2 : List Cell) (R : Ret → Prop) : Prop := bif decide (51 ≤ a0_2.length + 2) then (bif (List.take 49 a0_2).length == 49 && true && true then (bif (List.take 49 a0_2).length + 2 == 51 && true && true then (bif (List.take 49 a0_2).length + 2 == 51 && true then (bif (List.take 49 a0_2).all plainC then (R (Ret.mk (.agg ((.v (.int .i64 (a0_0))) :: (.v (.bool (a0_1))) :: (List.take 49 a0_2))) [])) else False) else False) else False) else False) else False

set_option maxRecDepth 100000 in
theorem f34_sound (a0_0 : Int) (a0_1 : Bool) (a0_2 : List Cell) (hC : CtxOk Try.prog cx34.q.ctx) {r : Ret} (h : f34_wp a0_0 a0_1 a0_2 (fun r' => r' = r)) : SoundAt Try.prog 34 [(.agg ((.v (.int .i64 a0_0)) :: (.v (.bool a0_1)) :: a0_2))] r := by
  refine soundAtO (C := cx34) (oc := .e) mixed hC F34_ok ?_
  rewrite [E34 a0_0 a0_1 a0_2]
  unfold f34_wp at h
  refine ck_mapE h (fun q1 h => ?_)
  refine ck_mapE h (fun q2 h => ?_)
  refine ck_mapE h (fun q3 h => ?_)
  refine ck_mapE h (fun q5 h => ?_)
  refine ck_mapE h (fun q4 h => ?_)
  exact h


end Go.Proofs.Ytgmciihlmgeecaa.Fn
