import Derived.Test.YtlfojobligplkaaDoorWC1

/- Functions of Elems, walked. No conditions beyond those named. -/

namespace Go.Proofs.YtlfojobligplkaaDoor.Fn

open Go Go.RowKit Go.Proofs Go.Proofs.YtlfojobligplkaaDoor.Mt 

set_option linter.unusedVariables false

set_option linter.unusedSimpArgs false

def cx15 : CtxW := ⟨⟨[(23, sum23)], []⟩, 16, []⟩


def F15 : SFn := ⟨9, [(.cell 2 .true 3)], (.seq (.reg [(o1 1 (.box (.t 0))), (o1 2 (.alloc [(.int .i64 0), (.int .i64 0), (.slice .none 0 0)]))]) (.seq (.reg [(o1 3 (.fld 0 (.t 1))), (o1 4 (.load .false .true 2 [(.some .i64), (.some .i64)] (.t 3))), (o1 5 (.fld 2 (.t 1))), (o1 6 (.load .false .false 1 [] (.t 5))), (o1 7 (.call .true .true (.f 23) [(.t 6)])), (o1 8 (.build [(.int .i64 0), (.int .i64 0), (.slice .none 0 0)] [(0, (2, (.t 4))), (2, (1, (.t 7)))])), (oN (.store .false 3 (.t 2) (.t 8)))]) .ret))⟩

theorem F15_ok : sfn Tryd.prog hints 15 [] = some F15 := by kernel_rfl

theorem E15 (a0_0 : Int) (a0_1 : Int) (a0_2n : Nat) (a0_2 : List Cell) (R : Ret → Prop) : wpFO cx15 F15 .e [(.agg [(.v (.int .i64 a0_0)), (.v (.int .i64 a0_1)), (.sl a0_2n a0_2)])] R = (bif okRow 2 (.sl a0_2n a0_2) && true && true && ((ic .i64 (List.map intC a0_2)).all flatC && true) && ((ic .i64 (List.map intC a0_2)).all plainC && true) && true then (R (Ret.mk (.agg [(.v (.int .i64 (a0_0))), (.v (.int .i64 (a0_1))), (.own 0 0)]) [(Tok.mk 29 2 (a0_2n) (ic .i64 (List.map intC a0_2)) .true)])) else False) := by kernel_rfl

def f15_wp (a0_0 : Int) (a0_1 : Int) (a0_2n : Nat) (a0_2 : List Cell) (R : Ret → Prop) : Prop := bif okRow 2 (.sl a0_2n a0_2) && true && true && ((ic .i64 (List.map intC a0_2)).all flatC && true) && ((ic .i64 (List.map intC a0_2)).all plainC && true) && true then (R (Ret.mk (.agg [(.v (.int .i64 (a0_0))), (.v (.int .i64 (a0_1))), (.own 0 0)]) [(Tok.mk 29 2 (a0_2n) (ic .i64 (List.map intC a0_2)) .true)])) else False

set_option maxRecDepth 100000 in
theorem f15_sound (a0_0 : Int) (a0_1 : Int) (a0_2n : Nat) (a0_2 : List Cell) (hC : CtxOk Tryd.prog cx15.q.ctx) {r : Ret} (h : f15_wp a0_0 a0_1 a0_2n a0_2 (fun r' => r' = r)) : SoundAt Tryd.prog 15 [(.agg [(.v (.int .i64 a0_0)), (.v (.int .i64 a0_1)), (.sl a0_2n a0_2)])] r := by
  refine soundAtO (C := cx15) (oc := .e) mixed hC F15_ok ?_
  rewrite [E15 a0_0 a0_1 a0_2n a0_2]
  unfold f15_wp at h
  refine ck_mapE h (fun q1 h => ?_)
  exact h


def cx4 : CtxW := ⟨⟨[(7, sum7), (14, sum14)], []⟩, 16, []⟩


def F4_b0 : SC := (.seq (.reg [(o1 9 (.bin .lss (.t 8) (.t 7)))]) (.seq (.cond (.t 9) .skip (.exit 0)) (.seq (.blk 1 (.reg [(o1 10 (.fld 2 (.t 3))), (o1 11 (.load .false .false 1 [] (.t 10))), (o1 12 (.call .false .false (.f 14) [])), (o1 13 (.buildS 29 2 1 [(.int .i64 0), (.int .i64 0)] [(0, (.t 12))])), (o1 14 (.app 29 2 16 [(.int .i64 0), (.int .i64 0)] (.t 11) (.t 13))), (o1 15 (.fld 2 (.t 3))), (oN (.store .false 1 (.t 15) (.t 14)))])) (.reg [(o1 16 (.bin .add (.t 8) (.c (.int .i64 1)))), (o1 8 (.mv (.t 16)))]))))

def F4_c1 : SC := (.seq (.reg [(o1 17 (.load .false .true 3 [] (.t 3))), (oN (.store .false 3 (.t 2) (.t 17)))]) .ret)

def F4 : SFn := ⟨18, [(.cell 2 .true 3)], (.seq (.reg [(o1 1 (.box (.t 0))), (o1 2 (.alloc [(.int .i64 0), (.int .i64 0), (.slice .none 0 0)]))]) (.seq (.reg [(o1 4 (.call .false .false (.f 7) [(.c (.int .i64 0))])), (o1 5 (.build [(.int .i64 0), (.int .i64 0), (.slice .none 0 0)] [(0, (2, (.t 4)))])), (o1 3 (.alloc [(.int .i64 0), (.int .i64 0), (.slice .none 0 0)])), (oN (.store .false 3 (.t 3) (.t 5)))]) (.seq (.seq (.reg [(o1 6 (.fld 4 (.t 1))), (o1 7 (.load .false .false 1 [(.some .i64)] (.t 6))), (o1 8 (.mv (.c (.int .i64 0))))]) (.blk 0 (.loop [2, 3, 7, 8] [2, 3] [14] F4_b0))) F4_c1)))⟩

theorem F4_ok : sfn Tryd.prog hints 4 [([2, 3, 7, 8], ([2, 3], [14]))] = some F4 := by kernel_rfl

def I4_0_0 (c0 : Int) (c1 : Int) (c2 : Int) (c3 : Int) (c4 : Int) (cr : Cell) : St := (.mk [.no, .no, (.box 2 0 0), (.box 3 0 0), .no, .no, .no, (.one (vi c4)), (.one (.v (.int .i64 0))), .no, .no, .no, .no, .no, .no, .no, .no, .no] ([] :: ([] :: ([[(.v (.int .i64 0)), (.v (.int .i64 0)), (.v (.slice .none 0 0))]] :: ([[(.v (.int .i64 ((ofI 0 0).1))), (.v (.int .i64 ((ofI 0 0).2))), (.v (.slice .none 0 0))]] :: (e10 ([] :: ([] :: ([] :: ([] :: []))))))))) (e10 ([] :: ([] :: ([] :: ([] :: ([] :: ([] :: ([] :: ([] :: []))))))))))

def I4_0_1 (c0 : Int) (c1 : Int) (c2 : Int) (c3 : Int) (c4 : Int) (cr : Cell) (y0m1_0 : Int) (y0m1_1 : Nat) (y0m1_2 : List Cell) : St := (.mk [.no, .no, (.box 2 0 0), (.box 3 0 0), .no, .no, .no, (.one (vi c4)), (.one (vi y0m1_0)), .no, .no, .no, .no, .no, .no, .no, .no, .no] ([] :: ([] :: ([[(.v (.int .i64 0)), (.v (.int .i64 0)), (.v (.slice .none 0 0))]] :: ([[(.v (.int .i64 ((ofI 0 0).1))), (.v (.int .i64 ((ofI 0 0).2))), (.own 14 0)]] :: (e10 ([] :: ([] :: ([] :: ([] :: []))))))))) (e10 ([] :: ([] :: ([] :: ([] :: ([(Tok.mk 29 2 (y0m1_1) (y0m1_2) .true)] :: ([] :: ([] :: ([] :: []))))))))))

theorem E4_0_0 (c0 : Int) (c1 : Int) (c2 : Int) (c3 : Int) (c4 : Int) (cr : Cell) (N0 : Bool × St → Prop) (R : Ret → Prop) : wpO cx4 F4_b0 (.two .e .e) (I4_0_0 c0 c1 c2 c3 c4 cr) (kLp (headW cx4.m [2, 3, 7, 8] [2, 3] [14]) N0 (kBlk 0 (kSeq cx4 F4_c1 (endO cx4.m F4.rs R)))) = (bif decide (0 < c4) then (N0 (true, (I4_0_1 c0 c1 c2 c3 c4 cr 1 1 ([Cell.v (Value.int .i64 1), Cell.v (Value.int .i64 0)])))) else (R (Ret.mk (.agg [(.v (.int .i64 ((ofI 0 0).1))), (.v (.int .i64 ((ofI 0 0).2))), (.v (.slice .none 0 0))]) []))) := by kernel_rfl

theorem E4_0_1 (c0 : Int) (c1 : Int) (c2 : Int) (c3 : Int) (c4 : Int) (cr : Cell) (y0m1_0 : Int) (y0m1_1 : Nat) (y0m1_2 : List Cell) (N0 : Bool × St → Prop) (R : Ret → Prop) : wpO cx4 F4_b0 (.two .e .e) (I4_0_1 c0 c1 c2 c3 c4 cr y0m1_0 y0m1_1 y0m1_2) (kLp (headW cx4.m [2, 3, 7, 8] [2, 3] [14]) N0 (kBlk 0 (kSeq cx4 F4_c1 (endO cx4.m F4.rs R)))) = (bif decide (y0m1_0 < c4) then (bif decide ((y0m1_1 + 1) * 16 ≤ 140737488355328) && true && true && true && true && true then (N0 (true, (I4_0_1 c0 c1 c2 c3 c4 cr (IntKind.i64.wrap (y0m1_0 + 1)) (y0m1_1 + 1) (y0m1_2 ++ [Cell.v (Value.int .i64 1), Cell.v (Value.int .i64 0)])))) else False) else (R (Ret.mk (.agg [(.v (.int .i64 ((ofI 0 0).1))), (.v (.int .i64 ((ofI 0 0).2))), (.own 0 0)]) [(Tok.mk 29 2 (y0m1_1) (y0m1_2) .true)]))) := by kernel_rfl

theorem E4 (c0 : Int) (c1 : Int) (c2 : Int) (c3 : Int) (c4 : Int) (cr : Cell) (R : Ret → Prop) : wpFO cx4 F4 .e [.agg [.v (.int .i64 c0), .v (.int .i64 c1), .v (.int .i64 c2), .v (.int .i64 c3), .v (.int .i64 c4), cr]] R = (LoopO (bodyX cx4 F4_b0) (headW cx4.m [2, 3, 7, 8] [2, 3] [14]) (kBlk 0 (kSeq cx4 F4_c1 (endO cx4.m F4.rs R))) (true, (I4_0_0 c0 c1 c2 c3 c4 cr))) := by kernel_rfl

def f4_wp (c0 : Int) (c1 : Int) (c2 : Int) (c3 : Int) (c4 : Int) (cr : Cell) (R : Ret → Prop) : Prop := LoopP (fun (z0 : (Unit) ⊕ (Int × Nat × (List Cell))) (k0 : (Unit) ⊕ (Int × Nat × (List Cell)) → Prop) => (sumE (fun (_ : Unit) => bif decide (0 < c4) then (k0 (Sum.inr (1, 1, ([Cell.v (Value.int .i64 1), Cell.v (Value.int .i64 0)])))) else (R (Ret.mk (.agg [(.v (.int .i64 ((ofI 0 0).1))), (.v (.int .i64 ((ofI 0 0).2))), (.v (.slice .none 0 0))]) []))) (fun (z : Int × Nat × (List Cell)) => (fun (y0m1_0 : Int) (y0m1_1 : Nat) (y0m1_2 : List Cell) => bif decide (y0m1_0 < c4) then (bif decide ((y0m1_1 + 1) * 16 ≤ 140737488355328) && true && true && true && true && true then (k0 (Sum.inr ((IntKind.i64.wrap (y0m1_0 + 1)), (y0m1_1 + 1), (y0m1_2 ++ [Cell.v (Value.int .i64 1), Cell.v (Value.int .i64 0)])))) else False) else (R (Ret.mk (.agg [(.v (.int .i64 ((ofI 0 0).1))), (.v (.int .i64 ((ofI 0 0).2))), (.own 0 0)]) [(Tok.mk 29 2 (y0m1_1) (y0m1_2) .true)]))) z.1 z.2.1 z.2.2)) z0) (Sum.inl ())

set_option maxRecDepth 100000 in
theorem f4_sound (c0 : Int) (c1 : Int) (c2 : Int) (c3 : Int) (c4 : Int) (cr : Cell) (hC : CtxOk Tryd.prog cx4.q.ctx) {r : Ret} (h : f4_wp c0 c1 c2 c3 c4 cr (fun r' => r' = r)) : SoundAt Tryd.prog 4 [.agg [.v (.int .i64 c0), .v (.int .i64 c1), .v (.int .i64 c2), .v (.int .i64 c3), .v (.int .i64 c4), cr]] r := by
  refine soundAtO (C := cx4) (oc := .e) mixed hC F4_ok ?_
  rewrite [E4 c0 c1 c2 c3 c4 cr]
  unfold f4_wp at h
  refine loop_of (I := (sumE (fun (z : Unit) => (I4_0_0 c0 c1 c2 c3 c4 cr)) (fun (z : Int × Nat × (List Cell)) => (I4_0_1 c0 c1 c2 c3 c4 cr z.1 z.2.1 z.2.2)))) (fun z k0 h => ?_) h rfl rfl
  rcases z with z | z
  · skip
    skip
    try dsimp only [sumE_l, sumE_r] at h
    refine bodyX_i (ob := (.two .e .e)) ?_
    try dsimp only [sumE_l, sumE_r]
    rewrite [E4_0_0 c0 c1 c2 c3 c4 cr ]
    refine cond_mapE h (fun q6 h => ?_) (fun q6 h => ?_)
    · skip
      exact again_i (y := (Sum.inr (1, 1, ([Cell.v (Value.int .i64 1), Cell.v (Value.int .i64 0)])))) rfl h
    · skip
      exact h
  · skip
    obtain ⟨y0m1_0, y0m1_1, y0m1_2⟩ := z
    try dsimp only [sumE_l, sumE_r] at h
    refine bodyX_i (ob := (.two .e .e)) ?_
    try dsimp only [sumE_l, sumE_r]
    rewrite [E4_0_1 c0 c1 c2 c3 c4 cr y0m1_0 y0m1_1 y0m1_2]
    refine cond_mapE h (fun q7 h => ?_) (fun q7 h => ?_)
    · skip
      refine ck_mapE h (fun q8 h => ?_)
      exact again_i (y := (Sum.inr ((IntKind.i64.wrap (y0m1_0 + 1)), (y0m1_1 + 1), (y0m1_2 ++ [Cell.v (Value.int .i64 1), Cell.v (Value.int .i64 0)])))) rfl h
    · skip
      exact h


def cx6 : CtxW := ⟨⟨[(15, sum15), (16, sum16), (17, sum17)], []⟩, 16, []⟩


def F6 : SFn := ⟨47, [(.cell 8 .true 3)], (.seq (.reg [(o1 4 (.box (.t 0))), (o1 5 (.box (.t 1))), (o1 7 (.box (.t 3))), (o1 8 (.alloc [(.int .i64 0), (.int .i64 0), (.slice .none 0 0)]))]) (.seq (.reg [(o1 10 (.load .false .true 3 [] (.t 5))), (o1 11 (.call .true .true (.f 15) [(.t 10)])), (o1 9 (.alloc [(.int .i64 0), (.int .i64 0), (.slice .none 0 0)])), (oN (.store .false 3 (.t 9) (.t 11)))]) (.seq (.seq (.reg [(o1 12 (.load .false .true 2 [(.some .i64), (.some .i64)] (.t 7))), (o1 13 (.call .false .false (.f 16) [(.t 12)])), (o1 14 (.mv (.t 13))), (oS 15 (.mv (.t 2)) (.some (14, .false))), (oS 16 (.bin .lss (.t 15) (.c (.int .i64 0))) (.some (14, .false))), (o1 17 (.pick (.t 14) (.c (.bool .true)) (.t 16))), (o1 18 (.mv (.t 17))), (oS 19 (.mv (.t 2)) (.some (18, .false))), (oS 20 (.fld 2 (.t 5)) (.some (18, .false))), (oS 21 (.load .false .false 1 [] (.t 20)) (.some (18, .false))), (oS 22 (.len (.t 21)) (.some (18, .false))), (oS 23 (.bin .geq (.t 19) (.t 22)) (.some (18, .false))), (o1 24 (.pick (.t 18) (.c (.bool .true)) (.t 23)))]) (.cond (.t 24) (.seq (.reg [(o1 25 (.load .false .true 3 [] (.t 9))), (oN (.store .false 3 (.t 8) (.t 25)))]) .ret) .skip)) (.seq (.reg [(o1 26 (.fld 0 (.t 5))), (o1 27 (.fld 1 (.t 26))), (o1 28 (.load .false .false 1 [(.some .i64)] (.t 27))), (o1 29 (.bin .add (.t 28) (.c (.int .i64 1)))), (o1 30 (.fld 1 (.t 4))), (o1 31 (.load .false .false 1 [(.some .i64)] (.t 30))), (o1 32 (.mm .false [(.t 29), (.t 31)])), (o1 33 (.build [(.int .i64 0), (.int .i64 0)] [(0, (1, (.c (.int .i64 0)))), (1, (1, (.t 32)))])), (o1 34 (.fld 0 (.t 9))), (oN (.store .false 2 (.t 34) (.t 33)))]) (.seq (.reg [(o1 35 (.fld 2 (.t 9))), (o1 36 (.load .false .false 1 [] (.t 35))), (o1 37 (.mv (.t 2))), (o1 38 (.fld 2 (.t 5))), (o1 39 (.load .false .false 1 [] (.t 38))), (o1 40 (.mv (.t 2))), (o1 41 (.ixS 2 (.t 39) (.t 40))), (o1 42 (.load .true .true 2 [(.some .i64), (.some .i64)] (.t 41))), (o1 43 (.load .false .true 2 [(.some .i64), (.some .i64)] (.t 7))), (o1 44 (.call .false .false (.f 17) [(.t 42), (.t 43)])), (o1 45 (.ixS 2 (.t 36) (.t 37))), (oN (.store .true 2 (.t 45) (.t 44)))]) (.seq (.reg [(o1 46 (.load .false .true 3 [] (.t 9))), (oN (.store .false 3 (.t 8) (.t 46)))]) .ret))))))⟩

theorem F6_ok : sfn Tryd.prog hints 6 [] = some F6 := by kernel_rfl

theorem E6 (c0 : Int) (c1 : Int) (c2 : Int) (c3 : Int) (c4 : Int) (cr : Cell) (lo : Int) (hi : Int) (n : Nat) (cs : List Cell) (t : Int) (i0 : Int) (i1 : Int) (R : Ret → Prop) : wpFO cx6 F6 (.two (.n 6 .e) (.n 0 (.two (.n 4 .e) (.n 3 (.two .e .e))))) [.agg [.v (.int .i64 c0), .v (.int .i64 c1), .v (.int .i64 c2), .v (.int .i64 c3), .v (.int .i64 c4), cr], .agg [.v (.int .i64 lo), .v (.int .i64 hi), .sl n cs], .one (.v (.int .i64 t)), .agg [.v (.int .i64 i0), .v (.int .i64 i1)]] R = (bif okRow 2 (.sl n cs) && true && true && ((ic .i64 (List.map intC cs)).all flatC && true) && ((ic .i64 (List.map intC cs)).all plainC && true) && true then (bif decide (i0 > i1) then (R (Ret.mk (.agg [(.v (.int .i64 (lo))), (.v (.int .i64 (hi))), (.own 0 0)]) [(Tok.mk 29 2 (n) (ic .i64 (List.map intC cs)) .true)])) else (bif decide (t < 0) then (R (Ret.mk (.agg [(.v (.int .i64 (lo))), (.v (.int .i64 (hi))), (.own 0 0)]) [(Tok.mk 29 2 (n) (ic .i64 (List.map intC cs)) .true)])) else (bif decide (t ≥ (↑n : Int)) then (R (Ret.mk (.agg [(.v (.int .i64 (lo))), (.v (.int .i64 (hi))), (.own 0 0)]) [(Tok.mk 29 2 (n) (ic .i64 (List.map intC cs)) .true)])) else (bif decide (0 ≤ t) && decide (t < (↑n : Int)) && decide (t.toNat * 2 < cs.length) then (bif decide (t.toNat * 2 + 2 ≤ cs.length) && (okK (some .i64) (cs.getD (t.toNat * 2) .dead) && (okK (some .i64) (cs.getD (t.toNat * 2 + 1) .dead) && true)) then (bif decide (0 ≤ t) && decide (t < (↑n : Int)) then (bif decide (t.toNat * 2 + 2 ≤ (ic .i64 (List.map intC cs)).length) && true then (R (Ret.mk (.agg [(.v (.int .i64 0)), (.v (.int .i64 (if c1 < IntKind.i64.wrap (hi + 1) then c1 else IntKind.i64.wrap (hi + 1)))), (.own 0 0)]) [(Tok.mk 29 2 (n) (((ic .i64 (List.map intC cs)).set (t.toNat * 2) (Cell.v (Value.int .i64 (jI (intC (cs.getD (t.toNat * 2) .dead)) (intC (cs.getD (t.toNat * 2 + 1) .dead)) i0 i1).1))).set (t.toNat * 2 + 1) (Cell.v (Value.int .i64 (jI (intC (cs.getD (t.toNat * 2) .dead)) (intC (cs.getD (t.toNat * 2 + 1) .dead)) i0 i1).2))) .true)])) else False) else False) else False) else False)))) else False) := by kernel_rfl

def f6_wp (c0 : Int) (c1 : Int) (c2 : Int) (c3 : Int) (c4 : Int) (cr : Cell) (lo : Int) (hi : Int) (n : Nat) (cs : List Cell) (t : Int) (i0 : Int) (i1 : Int) (R : Ret → Prop) : Prop := bif okRow 2 (.sl n cs) && true && true && ((ic .i64 (List.map intC cs)).all flatC && true) && ((ic .i64 (List.map intC cs)).all plainC && true) && true then (bif decide (i0 > i1) then (R (Ret.mk (.agg [(.v (.int .i64 (lo))), (.v (.int .i64 (hi))), (.own 0 0)]) [(Tok.mk 29 2 (n) (ic .i64 (List.map intC cs)) .true)])) else (bif decide (t < 0) then (R (Ret.mk (.agg [(.v (.int .i64 (lo))), (.v (.int .i64 (hi))), (.own 0 0)]) [(Tok.mk 29 2 (n) (ic .i64 (List.map intC cs)) .true)])) else (bif decide (t ≥ (↑n : Int)) then (R (Ret.mk (.agg [(.v (.int .i64 (lo))), (.v (.int .i64 (hi))), (.own 0 0)]) [(Tok.mk 29 2 (n) (ic .i64 (List.map intC cs)) .true)])) else (bif decide (0 ≤ t) && decide (t < (↑n : Int)) && decide (t.toNat * 2 < cs.length) then (bif decide (t.toNat * 2 + 2 ≤ cs.length) && (okK (some .i64) (cs.getD (t.toNat * 2) .dead) && (okK (some .i64) (cs.getD (t.toNat * 2 + 1) .dead) && true)) then (bif decide (0 ≤ t) && decide (t < (↑n : Int)) then (bif decide (t.toNat * 2 + 2 ≤ (ic .i64 (List.map intC cs)).length) && true then (R (Ret.mk (.agg [(.v (.int .i64 0)), (.v (.int .i64 (if c1 < IntKind.i64.wrap (hi + 1) then c1 else IntKind.i64.wrap (hi + 1)))), (.own 0 0)]) [(Tok.mk 29 2 (n) (((ic .i64 (List.map intC cs)).set (t.toNat * 2) (Cell.v (Value.int .i64 (jI (intC (cs.getD (t.toNat * 2) .dead)) (intC (cs.getD (t.toNat * 2 + 1) .dead)) i0 i1).1))).set (t.toNat * 2 + 1) (Cell.v (Value.int .i64 (jI (intC (cs.getD (t.toNat * 2) .dead)) (intC (cs.getD (t.toNat * 2 + 1) .dead)) i0 i1).2))) .true)])) else False) else False) else False) else False)))) else False

set_option maxRecDepth 100000 in
theorem f6_sound (c0 : Int) (c1 : Int) (c2 : Int) (c3 : Int) (c4 : Int) (cr : Cell) (lo : Int) (hi : Int) (n : Nat) (cs : List Cell) (t : Int) (i0 : Int) (i1 : Int) (hC : CtxOk Tryd.prog cx6.q.ctx) {r : Ret} (h : f6_wp c0 c1 c2 c3 c4 cr lo hi n cs t i0 i1 (fun r' => r' = r)) : SoundAt Tryd.prog 6 [.agg [.v (.int .i64 c0), .v (.int .i64 c1), .v (.int .i64 c2), .v (.int .i64 c3), .v (.int .i64 c4), cr], .agg [.v (.int .i64 lo), .v (.int .i64 hi), .sl n cs], .one (.v (.int .i64 t)), .agg [.v (.int .i64 i0), .v (.int .i64 i1)]] r := by
  refine soundAtO (C := cx6) (oc := (.two (.n 6 .e) (.n 0 (.two (.n 4 .e) (.n 3 (.two .e .e)))))) mixed hC F6_ok ?_
  rewrite [E6 c0 c1 c2 c3 c4 cr lo hi n cs t i0 i1]
  unfold f6_wp at h
  refine ck_mapE h (fun q1 h => ?_)
  refine cond_mapE h (fun q2 h => ?_) (fun q2 h => ?_)
  · skip
    exact h
  · skip
    refine cond_mapE h (fun q3 h => ?_) (fun q3 h => ?_)
    · skip
      exact h
    · skip
      refine cond_mapE h (fun q4 h => ?_) (fun q4 h => ?_)
      · skip
        exact h
      · skip
        refine ck_mapE h (fun q5 h => ck_mapE h (fun q6 h => ck_mapE h (fun q7 h => ck_mapE h (fun q8 h => ?_))))
        exact h


def cx10 : CtxW := ⟨⟨[(21, sum21)], []⟩, 2, []⟩


def F10_b0 : SC := (.seq (.reg [(o1 10 (.bin .lss (.t 9) (.t 8)))]) (.seq (.cond (.t 10) .skip (.exit 0)) (.seq (.blk 1 (.seq (.reg [(o1 11 (.ixS 2 (.t 7) (.t 9))), (o1 12 (.load .true .true 2 [(.some .i64), (.some .i64)] (.t 11))), (o1 6 (.alloc [(.int .i64 0), (.int .i64 0)])), (oN (.store .false 2 (.t 6) (.t 12)))]) (.seq (.reg [(o1 13 (.fld 0 (.t 6))), (o1 14 (.load .false .false 1 [(.some .i64)] (.t 13))), (o1 15 (.bin .lss (.t 14) (.c (.int .i64 0)))), (o1 16 (.mv (.t 15))), (oS 17 (.fld 0 (.t 6)) (.some (16, .false))), (oS 18 (.load .false .false 1 [(.some .i64)] (.t 17)) (.some (16, .false))), (oS 19 (.fld 2 (.t 2)) (.some (16, .false))), (oS 20 (.load .false .false 1 [] (.t 19)) (.some (16, .false))), (oS 21 (.len (.t 20)) (.some (16, .false))), (oS 22 (.bin .geq (.t 18) (.t 21)) (.some (16, .false))), (o1 23 (.pick (.t 16) (.c (.bool .true)) (.t 22))), (o1 24 (.mv (.t 23))), (oS 25 (.fld 2 (.t 2)) (.some (24, .false))), (oS 26 (.load .false .false 1 [] (.t 25)) (.some (24, .false))), (oS 27 (.fld 0 (.t 6)) (.some (24, .false))), (oS 28 (.load .false .false 1 [(.some .i64)] (.t 27)) (.some (24, .false))), (oS 29 (.ixS 2 (.t 26) (.t 28)) (.some (24, .false))), (oS 30 (.load .true .true 2 [(.some .i64), (.some .i64)] (.t 29)) (.some (24, .false))), (oS 31 (.fld 1 (.t 6)) (.some (24, .false))), (oS 32 (.load .false .false 1 [(.some .i64)] (.t 31)) (.some (24, .false))), (oS 33 (.call .false .false (.f 21) [(.t 30), (.t 32)]) (.some (24, .false))), (oS 34 (.un .not (.t 33)) (.some (24, .false))), (o1 35 (.pick (.t 24) (.c (.bool .true)) (.t 34)))]) (.cond (.t 35) (.seq (.reg [(o1 4 (.mv (.c (.bool .false))))]) .ret) .skip)))) (.reg [(o1 36 (.bin .add (.t 9) (.c (.int .i64 1)))), (o1 9 (.mv (.t 36)))]))))

def F10_c1 : SC := (.seq (.reg [(o1 37 (.fld 0 (.t 2))), (o1 38 (.load .false .true 2 [(.some .i64), (.some .i64)] (.t 37))), (o1 39 (.mv (.t 1))), (o1 40 (.len (.t 39))), (o1 41 (.call .false .false (.f 21) [(.t 38), (.t 40)])), (o1 4 (.mv (.t 41)))]) .ret)

def F10 : SFn := ⟨42, [(.tmp 4)], (.seq (.reg [(o1 2 (.box (.t 0))), (o1 4 (.mv (.c (.bool .false))))]) (.seq (.seq (.reg [(o1 7 (.mv (.t 1))), (o1 8 (.len (.t 7))), (o1 9 (.mv (.c (.int .i64 0))))]) (.blk 0 (.loop [1, 2, 7, 8, 9] [2] [] F10_b0))) F10_c1))⟩

theorem F10_ok : sfn Tryd.prog hints 10 [([1, 2, 7, 8, 9], ([2], []))] = some F10 := by kernel_rfl

def I10_0_0 (a0_0 : Int) (a0_1 : Int) (a0_2n : Nat) (a0_2 : List Cell) (a1n : Nat) (a1 : List Cell) (y0_0 : Int) : St := (.mk (.no :: ((.one (.sl (a1n) (a1))) :: ((.box 2 0 0) :: (.no :: (.no :: (.no :: (.no :: ((.one (.sl (a1n) (a1))) :: ((.one (.v (.int .i64 ((↑a1n : Int))))) :: ((.one (vi y0_0)) :: (n10 (n10 (n10 (.no :: (.no :: []))))))))))))))) ([] :: ([] :: ([[(vi a0_0), (vi a0_1), (.sl (a0_2n) (a0_2))]] :: (e10 (e10 (e10 ([] :: ([] :: ([] :: ([] :: ([] :: ([] :: ([] :: ([] :: ([] :: []))))))))))))))) (e10 (e10 (e10 (e10 ([] :: ([] :: [])))))))

theorem E10_0_0 (a0_0 : Int) (a0_1 : Int) (a0_2n : Nat) (a0_2 : List Cell) (a1n : Nat) (a1 : List Cell) (y0_0 : Int) (N0 : Bool × St → Prop) (R : Ret → Prop) : wpO cx10 F10_b0 (.two (.two (.n 15 .e) (.n 4 (.two (.n 9 .e) (.n 8 (.two .e .e))))) .e) (I10_0_0 a0_0 a0_1 a0_2n a0_2 a1n a1 y0_0) (kLp (headW cx10.m [1, 2, 7, 8, 9] [2] []) N0 (kBlk 0 (kSeq cx10 F10_c1 (endO cx10.m F10.rs R)))) = (bif decide (y0_0 < (↑a1n : Int)) then (bif decide (0 ≤ y0_0) && decide (y0_0 < (↑a1n : Int)) && decide (y0_0.toNat * 2 < a1.length) then (bif decide (y0_0.toNat * 2 + 2 ≤ a1.length) && (okK (some .i64) (a1.getD (y0_0.toNat * 2) .dead) && (okK (some .i64) (a1.getD (y0_0.toNat * 2 + 1) .dead) && true)) then (bif decide (intC (a1.getD (y0_0.toNat * 2) .dead) < 0) then (R (Ret.mk (.one (.v (.bool .false))) [])) else (bif decide (intC (a1.getD (y0_0.toNat * 2) .dead) ≥ (↑a0_2n : Int)) then (R (Ret.mk (.one (.v (.bool .false))) [])) else (bif decide (0 ≤ intC (a1.getD (y0_0.toNat * 2) .dead)) && decide (intC (a1.getD (y0_0.toNat * 2) .dead) < (↑a0_2n : Int)) && decide ((intC (a1.getD (y0_0.toNat * 2) .dead)).toNat * 2 < a0_2.length) then (bif decide ((intC (a1.getD (y0_0.toNat * 2) .dead)).toNat * 2 + 2 ≤ a0_2.length) && (okK (some .i64) (a0_2.getD ((intC (a1.getD (y0_0.toNat * 2) .dead)).toNat * 2) .dead) && (okK (some .i64) (a0_2.getD ((intC (a1.getD (y0_0.toNat * 2) .dead)).toNat * 2 + 1) .dead) && true)) then (bif !(decide (intC (a0_2.getD ((intC (a1.getD (y0_0.toNat * 2) .dead)).toNat * 2) .dead) ≤ intC (a1.getD (y0_0.toNat * 2 + 1) .dead)) && decide (intC (a1.getD (y0_0.toNat * 2 + 1) .dead) ≤ intC (a0_2.getD ((intC (a1.getD (y0_0.toNat * 2) .dead)).toNat * 2 + 1) .dead))) then (R (Ret.mk (.one (.v (.bool .false))) [])) else (N0 (true, (I10_0_0 a0_0 a0_1 a0_2n a0_2 a1n a1 (IntKind.i64.wrap (y0_0 + 1)))))) else False) else False))) else False) else False) else (R (Ret.mk (.one (.v (.bool (decide (a0_0 ≤ (↑a1n : Int)) && decide ((↑a1n : Int) ≤ a0_1))))) []))) := by kernel_rfl

theorem E10 (a0_0 : Int) (a0_1 : Int) (a0_2n : Nat) (a0_2 : List Cell) (a1n : Nat) (a1 : List Cell) (R : Ret → Prop) : wpFO cx10 F10 .e [(.agg [(.v (.int .i64 a0_0)), (.v (.int .i64 a0_1)), (.sl a0_2n a0_2)]), (.one (.sl a1n a1))] R = (LoopO (bodyX cx10 F10_b0) (headW cx10.m [1, 2, 7, 8, 9] [2] []) (kBlk 0 (kSeq cx10 F10_c1 (endO cx10.m F10.rs R))) (true, (I10_0_0 a0_0 a0_1 a0_2n a0_2 a1n a1 0))) := by kernel_rfl

def f10_wp (a0_0 : Int) (a0_1 : Int) (a0_2n : Nat) (a0_2 : List Cell) (a1n : Nat) (a1 : List Cell) (R : Ret → Prop) : Prop := LoopP (fun (z0 : (Int)) (k0 : (Int) → Prop) => (fun (z : Int) => (fun (y0_0 : Int) => bif decide (y0_0 < (↑a1n : Int)) then (bif decide (0 ≤ y0_0) && decide (y0_0 < (↑a1n : Int)) && decide (y0_0.toNat * 2 < a1.length) then (bif decide (y0_0.toNat * 2 + 2 ≤ a1.length) && (okK (some .i64) (a1.getD (y0_0.toNat * 2) .dead) && (okK (some .i64) (a1.getD (y0_0.toNat * 2 + 1) .dead) && true)) then (bif decide (intC (a1.getD (y0_0.toNat * 2) .dead) < 0) then (R (Ret.mk (.one (.v (.bool .false))) [])) else (bif decide (intC (a1.getD (y0_0.toNat * 2) .dead) ≥ (↑a0_2n : Int)) then (R (Ret.mk (.one (.v (.bool .false))) [])) else (bif decide (0 ≤ intC (a1.getD (y0_0.toNat * 2) .dead)) && decide (intC (a1.getD (y0_0.toNat * 2) .dead) < (↑a0_2n : Int)) && decide ((intC (a1.getD (y0_0.toNat * 2) .dead)).toNat * 2 < a0_2.length) then (bif decide ((intC (a1.getD (y0_0.toNat * 2) .dead)).toNat * 2 + 2 ≤ a0_2.length) && (okK (some .i64) (a0_2.getD ((intC (a1.getD (y0_0.toNat * 2) .dead)).toNat * 2) .dead) && (okK (some .i64) (a0_2.getD ((intC (a1.getD (y0_0.toNat * 2) .dead)).toNat * 2 + 1) .dead) && true)) then (bif !(decide (intC (a0_2.getD ((intC (a1.getD (y0_0.toNat * 2) .dead)).toNat * 2) .dead) ≤ intC (a1.getD (y0_0.toNat * 2 + 1) .dead)) && decide (intC (a1.getD (y0_0.toNat * 2 + 1) .dead) ≤ intC (a0_2.getD ((intC (a1.getD (y0_0.toNat * 2) .dead)).toNat * 2 + 1) .dead))) then (R (Ret.mk (.one (.v (.bool .false))) [])) else (k0 (IntKind.i64.wrap (y0_0 + 1)))) else False) else False))) else False) else False) else (R (Ret.mk (.one (.v (.bool (decide (a0_0 ≤ (↑a1n : Int)) && decide ((↑a1n : Int) ≤ a0_1))))) []))) z) z0) 0

set_option maxRecDepth 100000 in
theorem f10_sound (a0_0 : Int) (a0_1 : Int) (a0_2n : Nat) (a0_2 : List Cell) (a1n : Nat) (a1 : List Cell) (hC : CtxOk Tryd.prog cx10.q.ctx) {r : Ret} (h : f10_wp a0_0 a0_1 a0_2n a0_2 a1n a1 (fun r' => r' = r)) : SoundAt Tryd.prog 10 [(.agg [(.v (.int .i64 a0_0)), (.v (.int .i64 a0_1)), (.sl a0_2n a0_2)]), (.one (.sl a1n a1))] r := by
  refine soundAtO (C := cx10) (oc := .e) mixed hC F10_ok ?_
  rewrite [E10 a0_0 a0_1 a0_2n a0_2 a1n a1]
  unfold f10_wp at h
  refine loop_of (I := (fun (z : Int) => (I10_0_0 a0_0 a0_1 a0_2n a0_2 a1n a1 z))) (fun z k0 h => ?_) h rfl rfl
  obtain ⟨y0_0, rfl⟩ : ∃ y, y = z := ⟨z, rfl⟩
  try dsimp only [sumE_l, sumE_r] at h
  refine bodyX_i (ob := (.two (.two (.n 15 .e) (.n 4 (.two (.n 9 .e) (.n 8 (.two .e .e))))) .e)) ?_
  rewrite [E10_0_0 a0_0 a0_1 a0_2n a0_2 a1n a1 y0_0]
  refine cond_mapE h (fun q17 h => ?_) (fun q17 h => ?_)
  · skip
    refine ck_mapE h (fun q18 h => ck_mapE h (fun q19 h => ?_))
    refine cond_mapE h (fun q20 h => ?_) (fun q20 h => ?_)
    · skip
      exact h
    · skip
      refine cond_mapE h (fun q21 h => ?_) (fun q21 h => ?_)
      · skip
        exact h
      · skip
        refine ck_mapE h (fun q22 h => ck_mapE h (fun q23 h => ?_))
        refine cond_mapE h (fun q24 h => ?_) (fun q24 h => ?_)
        · skip
          exact h
        · skip
          exact again_i (y := (IntKind.i64.wrap (y0_0 + 1))) rfl h
  · skip
    exact h


def cx13 : CtxW := ⟨⟨[(16, sum16)], []⟩, 16, []⟩


def F13_b0 : SC := (.seq (.reg [(o1 10 (.bin .lss (.t 9) (.t 8)))]) (.seq (.cond (.t 10) .skip (.exit 0)) (.seq (.blk 1 (.seq (.reg [(o1 11 (.mv (.t 9))), (o1 12 (.ixS 2 (.t 7) (.t 9))), (o1 13 (.load .true .true 2 [(.some .i64), (.some .i64)] (.t 12))), (o1 5 (.alloc [(.int .i64 0), (.int .i64 0)])), (o1 4 (.mv (.t 11))), (oN (.store .false 2 (.t 5) (.t 13)))]) (.seq (.reg [(o1 14 (.load .false .true 2 [(.some .i64), (.some .i64)] (.t 5))), (o1 15 (.call .false .false (.f 16) [(.t 14)])), (o1 16 (.un .not (.t 15)))]) (.cond (.t 16) (.reg [(o1 17 (.mv (.t 3))), (o1 18 (.mv (.t 4))), (o1 19 (.buildS 3 1 1 [(.int .i64 0)] [(0, (.t 18))])), (o1 20 (.app 3 1 8 [(.int .i64 0)] (.t 17) (.t 19))), (o1 3 (.mv (.t 20)))]) .skip)))) (.reg [(o1 21 (.bin .add (.t 9) (.c (.int .i64 1)))), (o1 9 (.mv (.t 21)))]))))

def F13_c1 : SC := (.seq (.reg [(o1 22 (.mv (.t 3))), (o1 2 (.mv (.t 22)))]) .ret)

def F13 : SFn := ⟨23, [(.tmp 2)], (.seq (.reg [(o1 1 (.box (.t 0))), (o1 2 (.mv (.c (.slice .none 0 0))))]) (.seq (.reg [(o1 3 (.mv (.c (.slice .none 0 0))))]) (.seq (.seq (.reg [(o1 6 (.fld 2 (.t 1))), (o1 7 (.load .false .false 1 [] (.t 6))), (o1 8 (.len (.t 7))), (o1 9 (.mv (.c (.int .i64 0))))]) (.blk 0 (.loop [3, 7, 8, 9] [] [20] F13_b0))) F13_c1)))⟩

theorem F13_ok : sfn Tryd.prog hints 13 [([3, 7, 8, 9], ([], [20]))] = some F13 := by kernel_rfl

def I13_0_0 (a0_0 : Int) (a0_1 : Int) (a0_2n : Nat) (a0_2 : List Cell) (y0_0 : Int) : St := (.mk (.no :: (.no :: (.no :: ((.one (.v (.slice .none 0 0))) :: (.no :: (.no :: (.no :: ((.one (.sl (a0_2n) (a0_2))) :: ((.one (.v (.int .i64 ((↑a0_2n : Int))))) :: ((.one (vi y0_0)) :: (n10 (.no :: (.no :: (.no :: [])))))))))))))) (e10 (e10 ([] :: ([] :: ([] :: []))))) (e10 (e10 ([] :: ([] :: ([] :: []))))))

def I13_0_1 (a0_0 : Int) (a0_1 : Int) (a0_2n : Nat) (a0_2 : List Cell) (y0m1_0 : Int) (y0m1_1 : Nat) (y0m1_2 : List Cell) : St := (.mk (.no :: (.no :: (.no :: ((.one (.own 20 0)) :: (.no :: (.no :: (.no :: ((.one (.sl (a0_2n) (a0_2))) :: ((.one (.v (.int .i64 ((↑a0_2n : Int))))) :: ((.one (vi y0m1_0)) :: (n10 (.no :: (.no :: (.no :: [])))))))))))))) (e10 (e10 ([] :: ([] :: ([] :: []))))) (e10 (e10 ([(Tok.mk 3 1 (y0m1_1) (y0m1_2) .true)] :: ([] :: ([] :: []))))))

theorem E13_0_0 (a0_0 : Int) (a0_1 : Int) (a0_2n : Nat) (a0_2 : List Cell) (y0_0 : Int) (N0 : Bool × St → Prop) (R : Ret → Prop) : wpO cx13 F13_b0 (.two (.two .e .e) .e) (I13_0_0 a0_0 a0_1 a0_2n a0_2 y0_0) (kLp (headW cx13.m [3, 7, 8, 9] [] [20]) N0 (kBlk 0 (kSeq cx13 F13_c1 (endO cx13.m F13.rs R)))) = (bif decide (y0_0 < (↑a0_2n : Int)) then (bif decide (0 ≤ y0_0) && decide (y0_0 < (↑a0_2n : Int)) && decide (y0_0.toNat * 2 < a0_2.length) then (bif decide (y0_0.toNat * 2 + 2 ≤ a0_2.length) && (okK (some .i64) (a0_2.getD (y0_0.toNat * 2) .dead) && (okK (some .i64) (a0_2.getD (y0_0.toNat * 2 + 1) .dead) && true)) then (bif !decide (intC (a0_2.getD (y0_0.toNat * 2) .dead) > intC (a0_2.getD (y0_0.toNat * 2 + 1) .dead)) then (N0 (true, (I13_0_1 a0_0 a0_1 a0_2n a0_2 (IntKind.i64.wrap (y0_0 + 1)) 1 ([Cell.v (Value.int .i64 y0_0)])))) else (N0 (true, (I13_0_0 a0_0 a0_1 a0_2n a0_2 (IntKind.i64.wrap (y0_0 + 1)))))) else False) else False) else (R (Ret.mk (.one (.v (.slice .none 0 0))) []))) := by kernel_rfl

theorem E13_0_1 (a0_0 : Int) (a0_1 : Int) (a0_2n : Nat) (a0_2 : List Cell) (y0m1_0 : Int) (y0m1_1 : Nat) (y0m1_2 : List Cell) (N0 : Bool × St → Prop) (R : Ret → Prop) : wpO cx13 F13_b0 (.two (.two .e .e) .e) (I13_0_1 a0_0 a0_1 a0_2n a0_2 y0m1_0 y0m1_1 y0m1_2) (kLp (headW cx13.m [3, 7, 8, 9] [] [20]) N0 (kBlk 0 (kSeq cx13 F13_c1 (endO cx13.m F13.rs R)))) = (bif decide (y0m1_0 < (↑a0_2n : Int)) then (bif decide (0 ≤ y0m1_0) && decide (y0m1_0 < (↑a0_2n : Int)) && decide (y0m1_0.toNat * 2 < a0_2.length) then (bif decide (y0m1_0.toNat * 2 + 2 ≤ a0_2.length) && (okK (some .i64) (a0_2.getD (y0m1_0.toNat * 2) .dead) && (okK (some .i64) (a0_2.getD (y0m1_0.toNat * 2 + 1) .dead) && true)) then (bif !decide (intC (a0_2.getD (y0m1_0.toNat * 2) .dead) > intC (a0_2.getD (y0m1_0.toNat * 2 + 1) .dead)) then (bif decide ((y0m1_1 + 1) * 8 ≤ 140737488355328) && true && true && true && true && true then (N0 (true, (I13_0_1 a0_0 a0_1 a0_2n a0_2 (IntKind.i64.wrap (y0m1_0 + 1)) (y0m1_1 + 1) (y0m1_2 ++ [Cell.v (Value.int .i64 y0m1_0)])))) else False) else (N0 (true, (I13_0_1 a0_0 a0_1 a0_2n a0_2 (IntKind.i64.wrap (y0m1_0 + 1)) (y0m1_1) (y0m1_2))))) else False) else False) else (R (Ret.mk (.one (.own 0 0)) [(Tok.mk 3 1 (y0m1_1) (y0m1_2) .true)]))) := by kernel_rfl

theorem E13 (a0_0 : Int) (a0_1 : Int) (a0_2n : Nat) (a0_2 : List Cell) (R : Ret → Prop) : wpFO cx13 F13 .e [(.agg [(.v (.int .i64 a0_0)), (.v (.int .i64 a0_1)), (.sl a0_2n a0_2)])] R = (LoopO (bodyX cx13 F13_b0) (headW cx13.m [3, 7, 8, 9] [] [20]) (kBlk 0 (kSeq cx13 F13_c1 (endO cx13.m F13.rs R))) (true, (I13_0_0 a0_0 a0_1 a0_2n a0_2 0))) := by kernel_rfl

def f13_wp (a0_0 : Int) (a0_1 : Int) (a0_2n : Nat) (a0_2 : List Cell) (R : Ret → Prop) : Prop := LoopP (fun (z0 : (Int) ⊕ (Int × Nat × (List Cell))) (k0 : (Int) ⊕ (Int × Nat × (List Cell)) → Prop) => (sumE (fun (z : Int) => (fun (y0_0 : Int) => bif decide (y0_0 < (↑a0_2n : Int)) then (bif decide (0 ≤ y0_0) && decide (y0_0 < (↑a0_2n : Int)) && decide (y0_0.toNat * 2 < a0_2.length) then (bif decide (y0_0.toNat * 2 + 2 ≤ a0_2.length) && (okK (some .i64) (a0_2.getD (y0_0.toNat * 2) .dead) && (okK (some .i64) (a0_2.getD (y0_0.toNat * 2 + 1) .dead) && true)) then (bif !decide (intC (a0_2.getD (y0_0.toNat * 2) .dead) > intC (a0_2.getD (y0_0.toNat * 2 + 1) .dead)) then (k0 (Sum.inr ((IntKind.i64.wrap (y0_0 + 1)), 1, ([Cell.v (Value.int .i64 y0_0)])))) else (k0 (Sum.inl (IntKind.i64.wrap (y0_0 + 1))))) else False) else False) else (R (Ret.mk (.one (.v (.slice .none 0 0))) []))) z) (fun (z : Int × Nat × (List Cell)) => (fun (y0m1_0 : Int) (y0m1_1 : Nat) (y0m1_2 : List Cell) => bif decide (y0m1_0 < (↑a0_2n : Int)) then (bif decide (0 ≤ y0m1_0) && decide (y0m1_0 < (↑a0_2n : Int)) && decide (y0m1_0.toNat * 2 < a0_2.length) then (bif decide (y0m1_0.toNat * 2 + 2 ≤ a0_2.length) && (okK (some .i64) (a0_2.getD (y0m1_0.toNat * 2) .dead) && (okK (some .i64) (a0_2.getD (y0m1_0.toNat * 2 + 1) .dead) && true)) then (bif !decide (intC (a0_2.getD (y0m1_0.toNat * 2) .dead) > intC (a0_2.getD (y0m1_0.toNat * 2 + 1) .dead)) then (bif decide ((y0m1_1 + 1) * 8 ≤ 140737488355328) && true && true && true && true && true then (k0 (Sum.inr ((IntKind.i64.wrap (y0m1_0 + 1)), (y0m1_1 + 1), (y0m1_2 ++ [Cell.v (Value.int .i64 y0m1_0)])))) else False) else (k0 (Sum.inr ((IntKind.i64.wrap (y0m1_0 + 1)), (y0m1_1), (y0m1_2))))) else False) else False) else (R (Ret.mk (.one (.own 0 0)) [(Tok.mk 3 1 (y0m1_1) (y0m1_2) .true)]))) z.1 z.2.1 z.2.2)) z0) (Sum.inl 0)

set_option maxRecDepth 100000 in
theorem f13_sound (a0_0 : Int) (a0_1 : Int) (a0_2n : Nat) (a0_2 : List Cell) (hC : CtxOk Tryd.prog cx13.q.ctx) {r : Ret} (h : f13_wp a0_0 a0_1 a0_2n a0_2 (fun r' => r' = r)) : SoundAt Tryd.prog 13 [(.agg [(.v (.int .i64 a0_0)), (.v (.int .i64 a0_1)), (.sl a0_2n a0_2)])] r := by
  refine soundAtO (C := cx13) (oc := .e) mixed hC F13_ok ?_
  rewrite [E13 a0_0 a0_1 a0_2n a0_2]
  unfold f13_wp at h
  refine loop_of (I := (sumE (fun (z : Int) => (I13_0_0 a0_0 a0_1 a0_2n a0_2 z)) (fun (z : Int × Nat × (List Cell)) => (I13_0_1 a0_0 a0_1 a0_2n a0_2 z.1 z.2.1 z.2.2)))) (fun z k0 h => ?_) h rfl rfl
  rcases z with z | z
  · skip
    obtain ⟨y0_0, rfl⟩ : ∃ y, y = z := ⟨z, rfl⟩
    try dsimp only [sumE_l, sumE_r] at h
    refine bodyX_i (ob := (.two (.two .e .e) .e)) ?_
    try dsimp only [sumE_l, sumE_r]
    rewrite [E13_0_0 a0_0 a0_1 a0_2n a0_2 y0_0]
    refine cond_mapE h (fun q18 h => ?_) (fun q18 h => ?_)
    · skip
      refine ck_mapE h (fun q19 h => ck_mapE h (fun q20 h => ?_))
      refine cond_mapE h (fun q21 h => ?_) (fun q21 h => ?_)
      · skip
        exact again_i (y := (Sum.inr ((IntKind.i64.wrap (y0_0 + 1)), 1, ([Cell.v (Value.int .i64 y0_0)])))) rfl h
      · skip
        exact again_i (y := (Sum.inl (IntKind.i64.wrap (y0_0 + 1)))) rfl h
    · skip
      exact h
  · skip
    obtain ⟨y0m1_0, y0m1_1, y0m1_2⟩ := z
    try dsimp only [sumE_l, sumE_r] at h
    refine bodyX_i (ob := (.two (.two .e .e) .e)) ?_
    try dsimp only [sumE_l, sumE_r]
    rewrite [E13_0_1 a0_0 a0_1 a0_2n a0_2 y0m1_0 y0m1_1 y0m1_2]
    refine cond_mapE h (fun q22 h => ?_) (fun q22 h => ?_)
    · skip
      refine ck_mapE h (fun q23 h => ck_mapE h (fun q24 h => ?_))
      refine cond_mapE h (fun q25 h => ?_) (fun q25 h => ?_)
      · skip
        refine ck_mapE h (fun q26 h => ?_)
        exact again_i (y := (Sum.inr ((IntKind.i64.wrap (y0m1_0 + 1)), (y0m1_1 + 1), (y0m1_2 ++ [Cell.v (Value.int .i64 y0m1_0)])))) rfl h
      · skip
        exact again_i (y := (Sum.inr ((IntKind.i64.wrap (y0m1_0 + 1)), (y0m1_1), (y0m1_2)))) rfl h
    · skip
      exact h


end Go.Proofs.YtlfojobligplkaaDoor.Fn
