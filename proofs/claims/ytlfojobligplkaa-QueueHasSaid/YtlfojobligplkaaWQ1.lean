import Derived.Test.YtlfojobligplkaaFnB

import Derived.Test.YtlfojobligplkaaSpQ

import Derived.Test.YtlfojobligplkaaMtO2

/- Functions of Elems, walked. No conditions beyond those named. -/

namespace Go.Proofs.Ytlfojobligplkaa.Fn

open Go Go.RowKit Go.Proofs Go.Proofs.Ytlfojobligplkaa.Mt

set_option linter.unusedVariables false

set_option linter.unusedSimpArgs false

def cx57 : CtxW := ⟨⟨[], []⟩, 16, []⟩


def F57_b0 : SC := (.seq (.seq (.reg [(.mk (.some (5)) (.mv (.t (4))) .none), (.mk (.some (6)) (.mv (.t (0))) .none), (.mk (.some (7)) (.bin .lss (.t (5)) (.t (6))) .none)]) (.cond (.t (7)) .skip (.exit (0)))) (.seq (.blk 1 (.reg [(.mk (.some (10)) (.fld (2) (.t (3))) .none), (.mk (.some (11)) (.load .false .false (1) [] (.t (10))) .none), (.mk (.some (12)) (.build [(.int .i64 (0)), (.int .i64 (0))] [((0), ((1), (.c (.int .i64 (1)))))]) .none), (.mk (.some (13)) (.buildS (29) (2) (1) [(.int .i64 (0)), (.int .i64 (0))] [((0), (.t (12)))]) .none), (.mk (.some (14)) (.app (29) (2) (16) [(.int .i64 (0)), (.int .i64 (0))] (.t (11)) (.t (13))) .none), (.mk (.some (15)) (.fld (2) (.t (3))) .none), (.mk .none (.store .false (1) (.t (15)) (.t (14))) .none)])) (.reg [(.mk (.some (8)) (.mv (.t (4))) .none), (.mk (.some (9)) (.bin .add (.t (8)) (.c (.int .i64 (1)))) .none), (.mk (.some (4)) (.mv (.t (9))) .none)])))

def F57_c1 : SC := (.seq (.reg [(.mk (.some (16)) (.load .false .true (3) [] (.t (3))) .none), (.mk .none (.store .false (3) (.t (2)) (.t (16))) .none)]) .ret)

def F57 : SFn := ⟨17, [(.cell (2) .true (3))], (.seq (.reg [(.mk (.some (2)) (.alloc [(.int .i64 (0)), (.int .i64 (0)), (.slice .none (0) (0))]) .none)]) (.seq (.reg [(.mk (.some (3)) (.alloc [(.int .i64 (0)), (.int .i64 (0)), (.slice .none (0) (0))]) .none)]) (.seq (.seq (.reg [(.mk (.some (4)) (.mv (.c (.int .i64 (0)))) .none)]) (.blk 0 (.loop [0, 2, 3, 4] [2, 3] [14] F57_b0))) F57_c1)))⟩

theorem F57_ok : sfn Try.prog hints 57 [([0, 2, 3, 4], ([2, 3], [14]))] = some F57 := by kernel_rfl

def I57_0_0 (a0 : Int) : St := (.mk [(.one (.v (.int .i64 (a0)))), .no, (.box (2) (0) (0)), (.box (3) (0) (0)), (.one (.v (.int .i64 (0)))), .no, .no, .no, .no, .no, .no, .no, .no, .no, .no, .no, .no] [[], [], [[(.v (.int .i64 (0))), (.v (.int .i64 (0))), (.v (.slice .none (0) (0)))]], [[(.v (.int .i64 (0))), (.v (.int .i64 (0))), (.v (.slice .none (0) (0)))]], [], [], [], [], [], [], [], [], [], [], [], [], []] [[], [], [], [], [], [], [], [], [], [], [], [], [], [], [], [], []])

def I57_0_1 (a0 : Int) (y0m1_0 : Int) (y0m1_1 : Nat) (y0m1_2 : List Cell) : St := (.mk [(.one (.v (.int .i64 (a0)))), .no, (.box (2) (0) (0)), (.box (3) (0) (0)), (.one (.v (.int .i64 (y0m1_0)))), .no, .no, .no, .no, .no, .no, .no, .no, .no, .no, .no, .no] [[], [], [[(.v (.int .i64 (0))), (.v (.int .i64 (0))), (.v (.slice .none (0) (0)))]], [[(.v (.int .i64 (0))), (.v (.int .i64 (0))), (.own (14) (0))]], [], [], [], [], [], [], [], [], [], [], [], [], []] [[], [], [], [], [], [], [], [], [], [], [], [], [], [], [(Tok.mk (29) (2) (y0m1_1) (y0m1_2) .true)], [], []])

theorem E57_0_0 (a0 : Int) (N0 : Bool × St → Prop) (R : Ret → Prop) : wpO cx57 F57_b0 (.two .e .e) (I57_0_0 a0) (kLp (headW cx57.m [0, 2, 3, 4] [2, 3] [14]) N0 (kBlk 0 (kSeq cx57 F57_c1 (endO cx57.m F57.rs R)))) = (bif Decidable.decide (0 < a0) then (N0 (true, (I57_0_1 a0 (1) (1) ([Cell.v (Value.int IntKind.i64 1), Cell.v (Value.int IntKind.i64 0)])))) else (R (Ret.mk (.agg [(.v (.int .i64 (0))), (.v (.int .i64 (0))), (.v (.slice .none (0) (0)))]) []))) := by kernel_rfl

theorem E57_0_1 (a0 : Int) (y0m1_0 : Int) (y0m1_1 : Nat) (y0m1_2 : List Cell) (N0 : Bool × St → Prop) (R : Ret → Prop) : wpO cx57 F57_b0 (.two .e .e) (I57_0_1 a0 y0m1_0 y0m1_1 y0m1_2) (kLp (headW cx57.m [0, 2, 3, 4] [2, 3] [14]) N0 (kBlk 0 (kSeq cx57 F57_c1 (endO cx57.m F57.rs R)))) = (bif Decidable.decide (y0m1_0 < a0) then (bif Decidable.decide ((y0m1_1 + 1) * 16 ≤ 140737488355328) && Bool.true && Bool.true && Bool.true && Bool.true && Bool.true then (N0 (true, (I57_0_1 a0 (IntKind.i64.wrap (y0m1_0 + 1)) (y0m1_1 + 1) (y0m1_2 ++ [Cell.v (Value.int IntKind.i64 1), Cell.v (Value.int IntKind.i64 0)])))) else False) else (R (Ret.mk (.agg [(.v (.int .i64 (0))), (.v (.int .i64 (0))), (.own (0) (0))]) [(Tok.mk (29) (2) (y0m1_1) (y0m1_2) .true)]))) := by kernel_rfl

theorem E57 (a0 : Int) (R : Ret → Prop) : wpFO cx57 F57 .e [(.one (.v (.int .i64 a0)))] R = (LoopO (bodyX cx57 F57_b0) (headW cx57.m [0, 2, 3, 4] [2, 3] [14]) (kBlk 0 (kSeq cx57 F57_c1 (endO cx57.m F57.rs R))) (true, (I57_0_0 a0))) := by kernel_rfl

def f57_wp (a0 : Int) (R : Ret → Prop) : Prop := LoopP (fun (z0 : (Unit) ⊕ (Int × Nat × (List Cell))) (k0 : (Unit) ⊕ (Int × Nat × (List Cell)) → Prop) => (Sum.elim (fun (_ : Unit) => bif Decidable.decide (0 < a0) then (k0 (Sum.inr ((1), (1), ([Cell.v (Value.int IntKind.i64 1), Cell.v (Value.int IntKind.i64 0)])))) else (R (Ret.mk (.agg [(.v (.int .i64 (0))), (.v (.int .i64 (0))), (.v (.slice .none (0) (0)))]) []))) (fun (z : Int × Nat × (List Cell)) => (fun (y0m1_0 : Int) (y0m1_1 : Nat) (y0m1_2 : List Cell) => bif Decidable.decide (y0m1_0 < a0) then (bif Decidable.decide ((y0m1_1 + 1) * 16 ≤ 140737488355328) && Bool.true && Bool.true && Bool.true && Bool.true && Bool.true then (k0 (Sum.inr ((IntKind.i64.wrap (y0m1_0 + 1)), (y0m1_1 + 1), (y0m1_2 ++ [Cell.v (Value.int IntKind.i64 1), Cell.v (Value.int IntKind.i64 0)])))) else False) else (R (Ret.mk (.agg [(.v (.int .i64 (0))), (.v (.int .i64 (0))), (.own (0) (0))]) [(Tok.mk (29) (2) (y0m1_1) (y0m1_2) .true)]))) z.1 z.2.1 z.2.2)) z0) (Sum.inl ())

set_option maxRecDepth 100000 in
theorem f57_sound (a0 : Int) (hC : CtxOk Try.prog cx57.q.ctx) {r : Ret} (h : f57_wp a0 (fun r' => r' = r)) : SoundAt Try.prog 57 [(.one (.v (.int .i64 a0)))] r := by
  refine soundAtO (C := cx57) (oc := .e) mixed hC F57_ok ?_
  rewrite [E57 a0]
  unfold f57_wp at h
  refine loop_of (I := (Sum.elim (fun (z : Unit) => (I57_0_0 a0)) (fun (z : Int × Nat × (List Cell)) => (I57_0_1 a0 z.1 z.2.1 z.2.2)))) (fun z k0 h => ?_) h rfl rfl
  rcases z with z | z
  · skip
    skip
    dsimp only [Sum.elim_inl, Sum.elim_inr] at h
    refine bodyX_i (ob := (.two .e .e)) ?_
    dsimp only [Sum.elim_inl, Sum.elim_inr]
    rewrite [E57_0_0 a0 ]
    refine cond_mapE h (fun q6 h => ?_) (fun q6 h => ?_)
    · skip
      exact again_i (y := (Sum.inr ((1), (1), ([Cell.v (Value.int IntKind.i64 1), Cell.v (Value.int IntKind.i64 0)])))) rfl h
    · skip
      exact h
  · skip
    obtain ⟨y0m1_0, y0m1_1, y0m1_2⟩ := z
    dsimp only [Sum.elim_inl, Sum.elim_inr] at h
    refine bodyX_i (ob := (.two .e .e)) ?_
    dsimp only [Sum.elim_inl, Sum.elim_inr]
    rewrite [E57_0_1 a0 y0m1_0 y0m1_1 y0m1_2]
    refine cond_mapE h (fun q7 h => ?_) (fun q7 h => ?_)
    · skip
      refine ck_mapE h (fun q8 h => ?_)
      exact again_i (y := (Sum.inr ((IntKind.i64.wrap (y0m1_0 + 1)), (y0m1_1 + 1), (y0m1_2 ++ [Cell.v (Value.int IntKind.i64 1), Cell.v (Value.int IntKind.i64 0)])))) rfl h
    · skip
      exact h


def cx67 : CtxW := ⟨⟨[], []⟩, 16, []⟩


def F67 : SFn := ⟨10, [(.cell (2) .true (3))], (.seq (.reg [(.mk (.some (1)) (.box (.t (0))) .none), (.mk (.some (2)) (.alloc [(.int .i64 (0)), (.int .i64 (0)), (.slice .none (0) (0))]) .none)]) (.seq (.reg [(.mk (.some (3)) (.fld (0) (.t (1))) .none), (.mk (.some (4)) (.load .false .true (2) [(.some .i64), (.some .i64)] (.t (3))) .none), (.mk (.some (5)) (.buildS (29) (2) (0) [] []) .none), (.mk (.some (6)) (.fld (2) (.t (1))) .none), (.mk (.some (7)) (.load .false .false (1) [] (.t (6))) .none), (.mk (.some (8)) (.app (29) (2) (16) [(.int .i64 (0)), (.int .i64 (0))] (.t (5)) (.t (7))) .none), (.mk (.some (9)) (.build [(.int .i64 (0)), (.int .i64 (0)), (.slice .none (0) (0))] [((0), ((2), (.t (4)))), ((2), ((1), (.t (8))))]) .none), (.mk .none (.store .false (3) (.t (2)) (.t (9))) .none)]) .ret))⟩

theorem F67_ok : sfn Try.prog hints 67 [] = some F67 := by kernel_rfl

theorem E67 (a0_0 : Int) (a0_1 : Int) (a0_2n : Nat) (a0_2 : List Cell) (R : Ret → Prop) : wpFO cx67 F67 .e [(.agg [(.v (.int .i64 a0_0)), (.v (.int .i64 a0_1)), (.sl a0_2n a0_2)])] R = (bif Decidable.decide ((0 + a0_2n) * 16 ≤ 140737488355328) && Bool.true && Bool.true && Bool.true && Bool.true && a0_2.length == a0_2n * 2 then (R (Ret.mk (.agg [(.v (.int .i64 (a0_0))), (.v (.int .i64 (a0_1))), (.own (0) (0))]) [(Tok.mk (29) (2) (0 + a0_2n) (a0_2) .true)])) else False) := by kernel_rfl

def f67_wp (a0_0 : Int) (a0_1 : Int) (a0_2n : Nat) (a0_2 : List Cell) (R : Ret → Prop) : Prop := bif Decidable.decide ((0 + a0_2n) * 16 ≤ 140737488355328) && Bool.true && Bool.true && Bool.true && Bool.true && a0_2.length == a0_2n * 2 then (R (Ret.mk (.agg [(.v (.int .i64 (a0_0))), (.v (.int .i64 (a0_1))), (.own (0) (0))]) [(Tok.mk (29) (2) (0 + a0_2n) (a0_2) .true)])) else False

set_option maxRecDepth 100000 in
theorem f67_sound (a0_0 : Int) (a0_1 : Int) (a0_2n : Nat) (a0_2 : List Cell) (hC : CtxOk Try.prog cx67.q.ctx) {r : Ret} (h : f67_wp a0_0 a0_1 a0_2n a0_2 (fun r' => r' = r)) : SoundAt Try.prog 67 [(.agg [(.v (.int .i64 a0_0)), (.v (.int .i64 a0_1)), (.sl a0_2n a0_2)])] r := by
  refine soundAtO (C := cx67) (oc := .e) mixed hC F67_ok ?_
  rewrite [E67 a0_0 a0_1 a0_2n a0_2]
  unfold f67_wp at h
  refine ck_mapE h (fun q1 h => ?_)
  exact h


def cx47 : CtxW := ⟨⟨[], []⟩, 16, []⟩


def F47_b0 : SC := (.seq (.seq (.reg [(.mk (.some (13)) (.mv (.t (4))) .none), (.mk (.some (14)) (.fld (2) (.t (1))) .none), (.mk (.some (15)) (.load .false .false (1) [] (.t (14))) .none), (.mk (.some (16)) (.len (.t (15))) .none), (.mk (.some (17)) (.bin .lss (.t (13)) (.t (16))) .none)]) (.cond (.t (17)) .skip (.exit (0)))) (.seq (.blk 1 (.reg [(.mk (.some (20)) (.fld (2) (.t (3))) .none), (.mk (.some (21)) (.load .false .false (1) [] (.t (20))) .none), (.mk (.some (22)) (.fld (2) (.t (1))) .none), (.mk (.some (23)) (.load .false .false (1) [] (.t (22))) .none), (.mk (.some (24)) (.mv (.t (4))) .none), (.mk (.some (25)) (.ixS (2) (.t (23)) (.t (24))) .none), (.mk (.some (26)) (.fld (0) (.t (25))) .none), (.mk (.some (27)) (.load .true .false (1) [(.some .i64)] (.t (26))) .none), (.mk (.some (28)) (.fld (2) (.t (1))) .none), (.mk (.some (29)) (.load .false .false (1) [] (.t (28))) .none), (.mk (.some (30)) (.mv (.t (4))) .none), (.mk (.some (31)) (.ixS (2) (.t (29)) (.t (30))) .none), (.mk (.some (32)) (.fld (1) (.t (31))) .none), (.mk (.some (33)) (.load .true .false (1) [(.some .i64)] (.t (32))) .none), (.mk (.some (34)) (.build [(.int .i64 (0)), (.int .i64 (0))] [((0), ((1), (.t (27)))), ((1), ((1), (.t (33))))]) .none), (.mk (.some (35)) (.buildS (29) (2) (1) [(.int .i64 (0)), (.int .i64 (0))] [((0), (.t (34)))]) .none), (.mk (.some (36)) (.app (29) (2) (16) [(.int .i64 (0)), (.int .i64 (0))] (.t (21)) (.t (35))) .none), (.mk (.some (37)) (.fld (2) (.t (3))) .none), (.mk .none (.store .false (1) (.t (37)) (.t (36))) .none)])) (.reg [(.mk (.some (18)) (.mv (.t (4))) .none), (.mk (.some (19)) (.bin .add (.t (18)) (.c (.int .i64 (1)))) .none), (.mk (.some (4)) (.mv (.t (19))) .none)])))

def F47_c1 : SC := (.seq (.reg [(.mk (.some (38)) (.load .false .true (3) [] (.t (3))) .none), (.mk .none (.store .false (3) (.t (2)) (.t (38))) .none)]) .ret)

def F47 : SFn := ⟨39, [(.cell (2) .true (3))], (.seq (.reg [(.mk (.some (1)) (.box (.t (0))) .none), (.mk (.some (2)) (.alloc [(.int .i64 (0)), (.int .i64 (0)), (.slice .none (0) (0))]) .none)]) (.seq (.reg [(.mk (.some (5)) (.fld (0) (.t (1))) .none), (.mk (.some (6)) (.fld (0) (.t (5))) .none), (.mk (.some (7)) (.load .false .false (1) [(.some .i64)] (.t (6))) .none), (.mk (.some (8)) (.fld (0) (.t (1))) .none), (.mk (.some (9)) (.fld (1) (.t (8))) .none), (.mk (.some (10)) (.load .false .false (1) [(.some .i64)] (.t (9))) .none), (.mk (.some (11)) (.build [(.int .i64 (0)), (.int .i64 (0))] [((0), ((1), (.t (7)))), ((1), ((1), (.t (10))))]) .none), (.mk (.some (12)) (.build [(.int .i64 (0)), (.int .i64 (0)), (.slice .none (0) (0))] [((0), ((2), (.t (11))))]) .none), (.mk (.some (3)) (.alloc [(.int .i64 (0)), (.int .i64 (0)), (.slice .none (0) (0))]) .none), (.mk .none (.store .false (3) (.t (3)) (.t (12))) .none)]) (.seq (.seq (.reg [(.mk (.some (4)) (.mv (.c (.int .i64 (0)))) .none)]) (.blk 0 (.loop [1, 2, 3, 4] [1, 2, 3] [36] F47_b0))) F47_c1)))⟩

theorem F47_ok : sfn Try.prog hints 47 [([1, 2, 3, 4], ([1, 2, 3], [36]))] = some F47 := by kernel_rfl

def I47_0_0 (a0_0 : Int) (a0_1 : Int) (a0_2n : Nat) (a0_2 : List Cell) : St := (.mk [.no, (.box (1) (0) (0)), (.box (2) (0) (0)), (.box (3) (0) (0)), (.one (.v (.int .i64 (0)))), .no, .no, .no, .no, .no, .no, .no, .no, .no, .no, .no, .no, .no, .no, .no, .no, .no, .no, .no, .no, .no, .no, .no, .no, .no, .no, .no, .no, .no, .no, .no, .no, .no, .no] [[], [[(.v (.int .i64 (a0_0))), (.v (.int .i64 (a0_1))), (.sl (a0_2n) (a0_2))]], [[(.v (.int .i64 (0))), (.v (.int .i64 (0))), (.v (.slice .none (0) (0)))]], [[(.v (.int .i64 (a0_0))), (.v (.int .i64 (a0_1))), (.v (.slice .none (0) (0)))]], [], [], [], [], [], [], [], [], [], [], [], [], [], [], [], [], [], [], [], [], [], [], [], [], [], [], [], [], [], [], [], [], [], [], []] [[], [], [], [], [], [], [], [], [], [], [], [], [], [], [], [], [], [], [], [], [], [], [], [], [], [], [], [], [], [], [], [], [], [], [], [], [], [], []])

def I47_0_1 (a0_0 : Int) (a0_1 : Int) (a0_2n : Nat) (a0_2 : List Cell) (y0m1_0 : Int) (y0m1_1 : Nat) (y0m1_2 : List Cell) : St := (.mk [.no, (.box (1) (0) (0)), (.box (2) (0) (0)), (.box (3) (0) (0)), (.one (.v (.int .i64 (y0m1_0)))), .no, .no, .no, .no, .no, .no, .no, .no, .no, .no, .no, .no, .no, .no, .no, .no, .no, .no, .no, .no, .no, .no, .no, .no, .no, .no, .no, .no, .no, .no, .no, .no, .no, .no] [[], [[(.v (.int .i64 (a0_0))), (.v (.int .i64 (a0_1))), (.sl (a0_2n) (a0_2))]], [[(.v (.int .i64 (0))), (.v (.int .i64 (0))), (.v (.slice .none (0) (0)))]], [[(.v (.int .i64 (a0_0))), (.v (.int .i64 (a0_1))), (.own (36) (0))]], [], [], [], [], [], [], [], [], [], [], [], [], [], [], [], [], [], [], [], [], [], [], [], [], [], [], [], [], [], [], [], [], [], [], []] [[], [], [], [], [], [], [], [], [], [], [], [], [], [], [], [], [], [], [], [], [], [], [], [], [], [], [], [], [], [], [], [], [], [], [], [], [(Tok.mk (29) (2) (y0m1_1) (y0m1_2) .true)], [], []])

theorem E47_0_0 (a0_0 : Int) (a0_1 : Int) (a0_2n : Nat) (a0_2 : List Cell) (N0 : Bool × St → Prop) (R : Ret → Prop) : wpO cx47 F47_b0 (.two .e .e) (I47_0_0 a0_0 a0_1 a0_2n a0_2) (kLp (headW cx47.m [1, 2, 3, 4] [1, 2, 3] [36]) N0 (kBlk 0 (kSeq cx47 F47_c1 (endO cx47.m F47.rs R)))) = (bif Decidable.decide (0 < (↑a0_2n : Int)) then (bif Decidable.decide (0 < (↑a0_2n : Int)) && Decidable.decide (0 < a0_2.length) then (bif Decidable.decide (1 ≤ a0_2.length) && okK (Option.some IntKind.i64) (a0_2.getD 0 Cell.dead) then (bif Decidable.decide (0 < (↑a0_2n : Int)) && Decidable.decide (0 < a0_2.length) then (bif Decidable.decide (2 ≤ a0_2.length) && okK (Option.some IntKind.i64) (a0_2.getD 1 Cell.dead) then (N0 (true, (I47_0_1 a0_0 a0_1 a0_2n a0_2 (1) (1) ([Cell.v (Value.int IntKind.i64 (intC (a0_2.getD 0 Cell.dead))), Cell.v (Value.int IntKind.i64 (intC (a0_2.getD 1 Cell.dead)))])))) else False) else False) else False) else False) else (R (Ret.mk (.agg [(.v (.int .i64 (a0_0))), (.v (.int .i64 (a0_1))), (.v (.slice .none (0) (0)))]) []))) := by kernel_rfl

theorem E47_0_1 (a0_0 : Int) (a0_1 : Int) (a0_2n : Nat) (a0_2 : List Cell) (y0m1_0 : Int) (y0m1_1 : Nat) (y0m1_2 : List Cell) (N0 : Bool × St → Prop) (R : Ret → Prop) : wpO cx47 F47_b0 (.two .e .e) (I47_0_1 a0_0 a0_1 a0_2n a0_2 y0m1_0 y0m1_1 y0m1_2) (kLp (headW cx47.m [1, 2, 3, 4] [1, 2, 3] [36]) N0 (kBlk 0 (kSeq cx47 F47_c1 (endO cx47.m F47.rs R)))) = (bif Decidable.decide (y0m1_0 < (↑a0_2n : Int)) then (bif Decidable.decide (0 ≤ y0m1_0) && Decidable.decide (y0m1_0 < (↑a0_2n : Int)) && Decidable.decide (y0m1_0.toNat * 2 < a0_2.length) then (bif Decidable.decide (y0m1_0.toNat * 2 + 1 ≤ a0_2.length) && okK (Option.some IntKind.i64) (a0_2.getD (y0m1_0.toNat * 2) Cell.dead) then (bif Decidable.decide (0 ≤ y0m1_0) && Decidable.decide (y0m1_0 < (↑a0_2n : Int)) && Decidable.decide (y0m1_0.toNat * 2 < a0_2.length) then (bif Decidable.decide (y0m1_0.toNat * 2 + 1 + 1 ≤ a0_2.length) && okK (Option.some IntKind.i64) (a0_2.getD (y0m1_0.toNat * 2 + 1) Cell.dead) then (bif Decidable.decide ((y0m1_1 + 1) * 16 ≤ 140737488355328) && Bool.true && Bool.true && Bool.true && Bool.true && Bool.true then (N0 (true, (I47_0_1 a0_0 a0_1 a0_2n a0_2 (IntKind.i64.wrap (y0m1_0 + 1)) (y0m1_1 + 1) (y0m1_2 ++ [Cell.v (Value.int IntKind.i64 (intC (a0_2.getD (y0m1_0.toNat * 2) Cell.dead))), Cell.v (Value.int IntKind.i64 (intC (a0_2.getD (y0m1_0.toNat * 2 + 1) Cell.dead)))])))) else False) else False) else False) else False) else False) else (R (Ret.mk (.agg [(.v (.int .i64 (a0_0))), (.v (.int .i64 (a0_1))), (.own (0) (0))]) [(Tok.mk (29) (2) (y0m1_1) (y0m1_2) .true)]))) := by kernel_rfl

theorem E47 (a0_0 : Int) (a0_1 : Int) (a0_2n : Nat) (a0_2 : List Cell) (R : Ret → Prop) : wpFO cx47 F47 .e [(.agg [(.v (.int .i64 a0_0)), (.v (.int .i64 a0_1)), (.sl a0_2n a0_2)])] R = (LoopO (bodyX cx47 F47_b0) (headW cx47.m [1, 2, 3, 4] [1, 2, 3] [36]) (kBlk 0 (kSeq cx47 F47_c1 (endO cx47.m F47.rs R))) (true, (I47_0_0 a0_0 a0_1 a0_2n a0_2))) := by kernel_rfl

def f47_wp (a0_0 : Int) (a0_1 : Int) (a0_2n : Nat) (a0_2 : List Cell) (R : Ret → Prop) : Prop := LoopP (fun (z0 : (Unit) ⊕ (Int × Nat × (List Cell))) (k0 : (Unit) ⊕ (Int × Nat × (List Cell)) → Prop) => (Sum.elim (fun (_ : Unit) => bif Decidable.decide (0 < (↑a0_2n : Int)) then (bif Decidable.decide (0 < (↑a0_2n : Int)) && Decidable.decide (0 < a0_2.length) then (bif Decidable.decide (1 ≤ a0_2.length) && okK (Option.some IntKind.i64) (a0_2.getD 0 Cell.dead) then (bif Decidable.decide (2 ≤ a0_2.length) && okK (Option.some IntKind.i64) (a0_2.getD 1 Cell.dead) then (k0 (Sum.inr ((1), (1), ([Cell.v (Value.int IntKind.i64 (intC (a0_2.getD 0 Cell.dead))), Cell.v (Value.int IntKind.i64 (intC (a0_2.getD 1 Cell.dead)))])))) else False) else False) else False) else (R (Ret.mk (.agg [(.v (.int .i64 (a0_0))), (.v (.int .i64 (a0_1))), (.v (.slice .none (0) (0)))]) []))) (fun (z : Int × Nat × (List Cell)) => (fun (y0m1_0 : Int) (y0m1_1 : Nat) (y0m1_2 : List Cell) => bif Decidable.decide (y0m1_0 < (↑a0_2n : Int)) then (bif Decidable.decide (0 ≤ y0m1_0) && Decidable.decide (y0m1_0 < (↑a0_2n : Int)) && Decidable.decide (y0m1_0.toNat * 2 < a0_2.length) then (bif Decidable.decide (y0m1_0.toNat * 2 + 1 ≤ a0_2.length) && okK (Option.some IntKind.i64) (a0_2.getD (y0m1_0.toNat * 2) Cell.dead) then (bif Decidable.decide (y0m1_0.toNat * 2 + 1 + 1 ≤ a0_2.length) && okK (Option.some IntKind.i64) (a0_2.getD (y0m1_0.toNat * 2 + 1) Cell.dead) then (bif Decidable.decide ((y0m1_1 + 1) * 16 ≤ 140737488355328) && Bool.true && Bool.true && Bool.true && Bool.true && Bool.true then (k0 (Sum.inr ((IntKind.i64.wrap (y0m1_0 + 1)), (y0m1_1 + 1), (y0m1_2 ++ [Cell.v (Value.int IntKind.i64 (intC (a0_2.getD (y0m1_0.toNat * 2) Cell.dead))), Cell.v (Value.int IntKind.i64 (intC (a0_2.getD (y0m1_0.toNat * 2 + 1) Cell.dead)))])))) else False) else False) else False) else False) else (R (Ret.mk (.agg [(.v (.int .i64 (a0_0))), (.v (.int .i64 (a0_1))), (.own (0) (0))]) [(Tok.mk (29) (2) (y0m1_1) (y0m1_2) .true)]))) z.1 z.2.1 z.2.2)) z0) (Sum.inl ())

set_option maxRecDepth 100000 in
theorem f47_sound (a0_0 : Int) (a0_1 : Int) (a0_2n : Nat) (a0_2 : List Cell) (hC : CtxOk Try.prog cx47.q.ctx) {r : Ret} (h : f47_wp a0_0 a0_1 a0_2n a0_2 (fun r' => r' = r)) : SoundAt Try.prog 47 [(.agg [(.v (.int .i64 a0_0)), (.v (.int .i64 a0_1)), (.sl a0_2n a0_2)])] r := by
  refine soundAtO (C := cx47) (oc := .e) mixed hC F47_ok ?_
  rewrite [E47 a0_0 a0_1 a0_2n a0_2]
  unfold f47_wp at h
  refine loop_of (I := (Sum.elim (fun (z : Unit) => (I47_0_0 a0_0 a0_1 a0_2n a0_2)) (fun (z : Int × Nat × (List Cell)) => (I47_0_1 a0_0 a0_1 a0_2n a0_2 z.1 z.2.1 z.2.2)))) (fun z k0 h => ?_) h rfl rfl
  rcases z with z | z
  · skip
    skip
    dsimp only [Sum.elim_inl, Sum.elim_inr] at h
    refine bodyX_i (ob := (.two .e .e)) ?_
    dsimp only [Sum.elim_inl, Sum.elim_inr]
    rewrite [E47_0_0 a0_0 a0_1 a0_2n a0_2 ]
    refine cond_mapE h (fun q18 h => ?_) (fun q18 h => ?_)
    · skip
      refine ck_mapE h (fun q19 h => ?_)
      refine ck_mapE h (fun q20 h => ?_)
      refine ck_i q19 ?_
      refine ck_mapE h (fun q21 h => ?_)
      exact again_i (y := (Sum.inr ((1), (1), ([Cell.v (Value.int IntKind.i64 (intC (a0_2.getD 0 Cell.dead))), Cell.v (Value.int IntKind.i64 (intC (a0_2.getD 1 Cell.dead)))])))) rfl h
    · skip
      exact h
  · skip
    obtain ⟨y0m1_0, y0m1_1, y0m1_2⟩ := z
    dsimp only [Sum.elim_inl, Sum.elim_inr] at h
    refine bodyX_i (ob := (.two .e .e)) ?_
    dsimp only [Sum.elim_inl, Sum.elim_inr]
    rewrite [E47_0_1 a0_0 a0_1 a0_2n a0_2 y0m1_0 y0m1_1 y0m1_2]
    refine cond_mapE h (fun q22 h => ?_) (fun q22 h => ?_)
    · skip
      refine ck_mapE h (fun q23 h => ?_)
      refine ck_mapE h (fun q24 h => ?_)
      refine ck_i q23 ?_
      refine ck_mapE h (fun q25 h => ?_)
      refine ck_mapE h (fun q26 h => ?_)
      exact again_i (y := (Sum.inr ((IntKind.i64.wrap (y0m1_0 + 1)), (y0m1_1 + 1), (y0m1_2 ++ [Cell.v (Value.int IntKind.i64 (intC (a0_2.getD (y0m1_0.toNat * 2) Cell.dead))), Cell.v (Value.int IntKind.i64 (intC (a0_2.getD (y0m1_0.toNat * 2 + 1) Cell.dead)))])))) rfl h
    · skip
      exact h


def cx35 : CtxW := ⟨⟨[], []⟩, 16, []⟩


def F35_b0 : SC := (.seq (.seq (.reg [(.mk (.some (13)) (.mv (.t (4))) .none), (.mk (.some (14)) (.fld (2) (.t (1))) .none), (.mk (.some (15)) (.load .false .false (1) [] (.t (14))) .none), (.mk (.some (16)) (.len (.t (15))) .none), (.mk (.some (17)) (.bin .lss (.t (13)) (.t (16))) .none)]) (.cond (.t (17)) .skip (.exit (0)))) (.seq (.blk 1 (.reg [(.mk (.some (20)) (.fld (2) (.t (3))) .none), (.mk (.some (21)) (.load .false .false (1) [] (.t (20))) .none), (.mk (.some (22)) (.fld (2) (.t (1))) .none), (.mk (.some (23)) (.load .false .false (1) [] (.t (22))) .none), (.mk (.some (24)) (.mv (.t (4))) .none), (.mk (.some (25)) (.ixS (2) (.t (23)) (.t (24))) .none), (.mk (.some (26)) (.fld (0) (.t (25))) .none), (.mk (.some (27)) (.load .true .false (1) [(.some .i64)] (.t (26))) .none), (.mk (.some (28)) (.fld (2) (.t (1))) .none), (.mk (.some (29)) (.load .false .false (1) [] (.t (28))) .none), (.mk (.some (30)) (.mv (.t (4))) .none), (.mk (.some (31)) (.ixS (2) (.t (29)) (.t (30))) .none), (.mk (.some (32)) (.fld (1) (.t (31))) .none), (.mk (.some (33)) (.load .true .false (1) [(.some .i64)] (.t (32))) .none), (.mk (.some (34)) (.build [(.int .i64 (0)), (.int .i64 (0))] [((0), ((1), (.t (27)))), ((1), ((1), (.t (33))))]) .none), (.mk (.some (35)) (.buildS (25) (2) (1) [(.int .i64 (0)), (.int .i64 (0))] [((0), (.t (34)))]) .none), (.mk (.some (36)) (.app (25) (2) (16) [(.int .i64 (0)), (.int .i64 (0))] (.t (21)) (.t (35))) .none), (.mk (.some (37)) (.fld (2) (.t (3))) .none), (.mk .none (.store .false (1) (.t (37)) (.t (36))) .none)])) (.reg [(.mk (.some (18)) (.mv (.t (4))) .none), (.mk (.some (19)) (.bin .add (.t (18)) (.c (.int .i64 (1)))) .none), (.mk (.some (4)) (.mv (.t (19))) .none)])))

def F35_c1 : SC := (.seq (.reg [(.mk (.some (38)) (.load .false .true (3) [] (.t (3))) .none), (.mk .none (.store .false (3) (.t (2)) (.t (38))) .none)]) .ret)

def F35 : SFn := ⟨39, [(.cell (2) .true (3))], (.seq (.reg [(.mk (.some (1)) (.box (.t (0))) .none), (.mk (.some (2)) (.alloc [(.int .i64 (0)), (.int .i64 (0)), (.slice .none (0) (0))]) .none)]) (.seq (.reg [(.mk (.some (5)) (.fld (0) (.t (1))) .none), (.mk (.some (6)) (.fld (0) (.t (5))) .none), (.mk (.some (7)) (.load .false .false (1) [(.some .i64)] (.t (6))) .none), (.mk (.some (8)) (.fld (0) (.t (1))) .none), (.mk (.some (9)) (.fld (1) (.t (8))) .none), (.mk (.some (10)) (.load .false .false (1) [(.some .i64)] (.t (9))) .none), (.mk (.some (11)) (.build [(.int .i64 (0)), (.int .i64 (0))] [((0), ((1), (.t (7)))), ((1), ((1), (.t (10))))]) .none), (.mk (.some (12)) (.build [(.int .i64 (0)), (.int .i64 (0)), (.slice .none (0) (0))] [((0), ((2), (.t (11))))]) .none), (.mk (.some (3)) (.alloc [(.int .i64 (0)), (.int .i64 (0)), (.slice .none (0) (0))]) .none), (.mk .none (.store .false (3) (.t (3)) (.t (12))) .none)]) (.seq (.seq (.reg [(.mk (.some (4)) (.mv (.c (.int .i64 (0)))) .none)]) (.blk 0 (.loop [1, 2, 3, 4] [1, 2, 3] [36] F35_b0))) F35_c1)))⟩

theorem F35_ok : sfn Try.prog hints 35 [([1, 2, 3, 4], ([1, 2, 3], [36]))] = some F35 := by kernel_rfl

def I35_0_0 (a0_0 : Int) (a0_1 : Int) (a0_2n : Nat) (a0_2 : List Cell) : St := (.mk [.no, (.box (1) (0) (0)), (.box (2) (0) (0)), (.box (3) (0) (0)), (.one (.v (.int .i64 (0)))), .no, .no, .no, .no, .no, .no, .no, .no, .no, .no, .no, .no, .no, .no, .no, .no, .no, .no, .no, .no, .no, .no, .no, .no, .no, .no, .no, .no, .no, .no, .no, .no, .no, .no] [[], [[(.v (.int .i64 (a0_0))), (.v (.int .i64 (a0_1))), (.sl (a0_2n) (a0_2))]], [[(.v (.int .i64 (0))), (.v (.int .i64 (0))), (.v (.slice .none (0) (0)))]], [[(.v (.int .i64 (a0_0))), (.v (.int .i64 (a0_1))), (.v (.slice .none (0) (0)))]], [], [], [], [], [], [], [], [], [], [], [], [], [], [], [], [], [], [], [], [], [], [], [], [], [], [], [], [], [], [], [], [], [], [], []] [[], [], [], [], [], [], [], [], [], [], [], [], [], [], [], [], [], [], [], [], [], [], [], [], [], [], [], [], [], [], [], [], [], [], [], [], [], [], []])

def I35_0_1 (a0_0 : Int) (a0_1 : Int) (a0_2n : Nat) (a0_2 : List Cell) (y0m1_0 : Int) (y0m1_1 : Nat) (y0m1_2 : List Cell) : St := (.mk [.no, (.box (1) (0) (0)), (.box (2) (0) (0)), (.box (3) (0) (0)), (.one (.v (.int .i64 (y0m1_0)))), .no, .no, .no, .no, .no, .no, .no, .no, .no, .no, .no, .no, .no, .no, .no, .no, .no, .no, .no, .no, .no, .no, .no, .no, .no, .no, .no, .no, .no, .no, .no, .no, .no, .no] [[], [[(.v (.int .i64 (a0_0))), (.v (.int .i64 (a0_1))), (.sl (a0_2n) (a0_2))]], [[(.v (.int .i64 (0))), (.v (.int .i64 (0))), (.v (.slice .none (0) (0)))]], [[(.v (.int .i64 (a0_0))), (.v (.int .i64 (a0_1))), (.own (36) (0))]], [], [], [], [], [], [], [], [], [], [], [], [], [], [], [], [], [], [], [], [], [], [], [], [], [], [], [], [], [], [], [], [], [], [], []] [[], [], [], [], [], [], [], [], [], [], [], [], [], [], [], [], [], [], [], [], [], [], [], [], [], [], [], [], [], [], [], [], [], [], [], [], [(Tok.mk (25) (2) (y0m1_1) (y0m1_2) .true)], [], []])

theorem E35_0_0 (a0_0 : Int) (a0_1 : Int) (a0_2n : Nat) (a0_2 : List Cell) (N0 : Bool × St → Prop) (R : Ret → Prop) : wpO cx35 F35_b0 (.two .e .e) (I35_0_0 a0_0 a0_1 a0_2n a0_2) (kLp (headW cx35.m [1, 2, 3, 4] [1, 2, 3] [36]) N0 (kBlk 0 (kSeq cx35 F35_c1 (endO cx35.m F35.rs R)))) = (bif Decidable.decide (0 < (↑a0_2n : Int)) then (bif Decidable.decide (0 < (↑a0_2n : Int)) && Decidable.decide (0 < a0_2.length) then (bif Decidable.decide (1 ≤ a0_2.length) && okK (Option.some IntKind.i64) (a0_2.getD 0 Cell.dead) then (bif Decidable.decide (0 < (↑a0_2n : Int)) && Decidable.decide (0 < a0_2.length) then (bif Decidable.decide (2 ≤ a0_2.length) && okK (Option.some IntKind.i64) (a0_2.getD 1 Cell.dead) then (N0 (true, (I35_0_1 a0_0 a0_1 a0_2n a0_2 (1) (1) ([Cell.v (Value.int IntKind.i64 (intC (a0_2.getD 0 Cell.dead))), Cell.v (Value.int IntKind.i64 (intC (a0_2.getD 1 Cell.dead)))])))) else False) else False) else False) else False) else (R (Ret.mk (.agg [(.v (.int .i64 (a0_0))), (.v (.int .i64 (a0_1))), (.v (.slice .none (0) (0)))]) []))) := by kernel_rfl

theorem E35_0_1 (a0_0 : Int) (a0_1 : Int) (a0_2n : Nat) (a0_2 : List Cell) (y0m1_0 : Int) (y0m1_1 : Nat) (y0m1_2 : List Cell) (N0 : Bool × St → Prop) (R : Ret → Prop) : wpO cx35 F35_b0 (.two .e .e) (I35_0_1 a0_0 a0_1 a0_2n a0_2 y0m1_0 y0m1_1 y0m1_2) (kLp (headW cx35.m [1, 2, 3, 4] [1, 2, 3] [36]) N0 (kBlk 0 (kSeq cx35 F35_c1 (endO cx35.m F35.rs R)))) = (bif Decidable.decide (y0m1_0 < (↑a0_2n : Int)) then (bif Decidable.decide (0 ≤ y0m1_0) && Decidable.decide (y0m1_0 < (↑a0_2n : Int)) && Decidable.decide (y0m1_0.toNat * 2 < a0_2.length) then (bif Decidable.decide (y0m1_0.toNat * 2 + 1 ≤ a0_2.length) && okK (Option.some IntKind.i64) (a0_2.getD (y0m1_0.toNat * 2) Cell.dead) then (bif Decidable.decide (0 ≤ y0m1_0) && Decidable.decide (y0m1_0 < (↑a0_2n : Int)) && Decidable.decide (y0m1_0.toNat * 2 < a0_2.length) then (bif Decidable.decide (y0m1_0.toNat * 2 + 1 + 1 ≤ a0_2.length) && okK (Option.some IntKind.i64) (a0_2.getD (y0m1_0.toNat * 2 + 1) Cell.dead) then (bif Decidable.decide ((y0m1_1 + 1) * 16 ≤ 140737488355328) && Bool.true && Bool.true && Bool.true && Bool.true && Bool.true then (N0 (true, (I35_0_1 a0_0 a0_1 a0_2n a0_2 (IntKind.i64.wrap (y0m1_0 + 1)) (y0m1_1 + 1) (y0m1_2 ++ [Cell.v (Value.int IntKind.i64 (intC (a0_2.getD (y0m1_0.toNat * 2) Cell.dead))), Cell.v (Value.int IntKind.i64 (intC (a0_2.getD (y0m1_0.toNat * 2 + 1) Cell.dead)))])))) else False) else False) else False) else False) else False) else (R (Ret.mk (.agg [(.v (.int .i64 (a0_0))), (.v (.int .i64 (a0_1))), (.own (0) (0))]) [(Tok.mk (25) (2) (y0m1_1) (y0m1_2) .true)]))) := by kernel_rfl

theorem E35 (a0_0 : Int) (a0_1 : Int) (a0_2n : Nat) (a0_2 : List Cell) (R : Ret → Prop) : wpFO cx35 F35 .e [(.agg [(.v (.int .i64 a0_0)), (.v (.int .i64 a0_1)), (.sl a0_2n a0_2)])] R = (LoopO (bodyX cx35 F35_b0) (headW cx35.m [1, 2, 3, 4] [1, 2, 3] [36]) (kBlk 0 (kSeq cx35 F35_c1 (endO cx35.m F35.rs R))) (true, (I35_0_0 a0_0 a0_1 a0_2n a0_2))) := by kernel_rfl

def f35_wp (a0_0 : Int) (a0_1 : Int) (a0_2n : Nat) (a0_2 : List Cell) (R : Ret → Prop) : Prop := LoopP (fun (z0 : (Unit) ⊕ (Int × Nat × (List Cell))) (k0 : (Unit) ⊕ (Int × Nat × (List Cell)) → Prop) => (Sum.elim (fun (_ : Unit) => bif Decidable.decide (0 < (↑a0_2n : Int)) then (bif Decidable.decide (0 < (↑a0_2n : Int)) && Decidable.decide (0 < a0_2.length) then (bif Decidable.decide (1 ≤ a0_2.length) && okK (Option.some IntKind.i64) (a0_2.getD 0 Cell.dead) then (bif Decidable.decide (2 ≤ a0_2.length) && okK (Option.some IntKind.i64) (a0_2.getD 1 Cell.dead) then (k0 (Sum.inr ((1), (1), ([Cell.v (Value.int IntKind.i64 (intC (a0_2.getD 0 Cell.dead))), Cell.v (Value.int IntKind.i64 (intC (a0_2.getD 1 Cell.dead)))])))) else False) else False) else False) else (R (Ret.mk (.agg [(.v (.int .i64 (a0_0))), (.v (.int .i64 (a0_1))), (.v (.slice .none (0) (0)))]) []))) (fun (z : Int × Nat × (List Cell)) => (fun (y0m1_0 : Int) (y0m1_1 : Nat) (y0m1_2 : List Cell) => bif Decidable.decide (y0m1_0 < (↑a0_2n : Int)) then (bif Decidable.decide (0 ≤ y0m1_0) && Decidable.decide (y0m1_0 < (↑a0_2n : Int)) && Decidable.decide (y0m1_0.toNat * 2 < a0_2.length) then (bif Decidable.decide (y0m1_0.toNat * 2 + 1 ≤ a0_2.length) && okK (Option.some IntKind.i64) (a0_2.getD (y0m1_0.toNat * 2) Cell.dead) then (bif Decidable.decide (y0m1_0.toNat * 2 + 1 + 1 ≤ a0_2.length) && okK (Option.some IntKind.i64) (a0_2.getD (y0m1_0.toNat * 2 + 1) Cell.dead) then (bif Decidable.decide ((y0m1_1 + 1) * 16 ≤ 140737488355328) && Bool.true && Bool.true && Bool.true && Bool.true && Bool.true then (k0 (Sum.inr ((IntKind.i64.wrap (y0m1_0 + 1)), (y0m1_1 + 1), (y0m1_2 ++ [Cell.v (Value.int IntKind.i64 (intC (a0_2.getD (y0m1_0.toNat * 2) Cell.dead))), Cell.v (Value.int IntKind.i64 (intC (a0_2.getD (y0m1_0.toNat * 2 + 1) Cell.dead)))])))) else False) else False) else False) else False) else (R (Ret.mk (.agg [(.v (.int .i64 (a0_0))), (.v (.int .i64 (a0_1))), (.own (0) (0))]) [(Tok.mk (25) (2) (y0m1_1) (y0m1_2) .true)]))) z.1 z.2.1 z.2.2)) z0) (Sum.inl ())

set_option maxRecDepth 100000 in
theorem f35_sound (a0_0 : Int) (a0_1 : Int) (a0_2n : Nat) (a0_2 : List Cell) (hC : CtxOk Try.prog cx35.q.ctx) {r : Ret} (h : f35_wp a0_0 a0_1 a0_2n a0_2 (fun r' => r' = r)) : SoundAt Try.prog 35 [(.agg [(.v (.int .i64 a0_0)), (.v (.int .i64 a0_1)), (.sl a0_2n a0_2)])] r := by
  refine soundAtO (C := cx35) (oc := .e) mixed hC F35_ok ?_
  rewrite [E35 a0_0 a0_1 a0_2n a0_2]
  unfold f35_wp at h
  refine loop_of (I := (Sum.elim (fun (z : Unit) => (I35_0_0 a0_0 a0_1 a0_2n a0_2)) (fun (z : Int × Nat × (List Cell)) => (I35_0_1 a0_0 a0_1 a0_2n a0_2 z.1 z.2.1 z.2.2)))) (fun z k0 h => ?_) h rfl rfl
  rcases z with z | z
  · skip
    skip
    dsimp only [Sum.elim_inl, Sum.elim_inr] at h
    refine bodyX_i (ob := (.two .e .e)) ?_
    dsimp only [Sum.elim_inl, Sum.elim_inr]
    rewrite [E35_0_0 a0_0 a0_1 a0_2n a0_2 ]
    refine cond_mapE h (fun q18 h => ?_) (fun q18 h => ?_)
    · skip
      refine ck_mapE h (fun q19 h => ?_)
      refine ck_mapE h (fun q20 h => ?_)
      refine ck_i q19 ?_
      refine ck_mapE h (fun q21 h => ?_)
      exact again_i (y := (Sum.inr ((1), (1), ([Cell.v (Value.int IntKind.i64 (intC (a0_2.getD 0 Cell.dead))), Cell.v (Value.int IntKind.i64 (intC (a0_2.getD 1 Cell.dead)))])))) rfl h
    · skip
      exact h
  · skip
    obtain ⟨y0m1_0, y0m1_1, y0m1_2⟩ := z
    dsimp only [Sum.elim_inl, Sum.elim_inr] at h
    refine bodyX_i (ob := (.two .e .e)) ?_
    dsimp only [Sum.elim_inl, Sum.elim_inr]
    rewrite [E35_0_1 a0_0 a0_1 a0_2n a0_2 y0m1_0 y0m1_1 y0m1_2]
    refine cond_mapE h (fun q22 h => ?_) (fun q22 h => ?_)
    · skip
      refine ck_mapE h (fun q23 h => ?_)
      refine ck_mapE h (fun q24 h => ?_)
      refine ck_i q23 ?_
      refine ck_mapE h (fun q25 h => ?_)
      refine ck_mapE h (fun q26 h => ?_)
      exact again_i (y := (Sum.inr ((IntKind.i64.wrap (y0m1_0 + 1)), (y0m1_1 + 1), (y0m1_2 ++ [Cell.v (Value.int IntKind.i64 (intC (a0_2.getD (y0m1_0.toNat * 2) Cell.dead))), Cell.v (Value.int IntKind.i64 (intC (a0_2.getD (y0m1_0.toNat * 2 + 1) Cell.dead)))])))) rfl h
    · skip
      exact h


def cx46 : CtxW := ⟨⟨[], []⟩, 16, []⟩


def F46_b0 : SC := (.seq (.seq (.reg [(.mk (.some (20)) (.mv (.t (5))) .none), (.mk (.some (21)) (.fld (2) (.t (2))) .none), (.mk (.some (22)) (.load .false .false (1) [] (.t (21))) .none), (.mk (.some (23)) (.len (.t (22))) .none), (.mk (.some (24)) (.bin .lss (.t (20)) (.t (23))) .none)]) (.cond (.t (24)) .skip (.exit (0)))) (.seq (.blk 1 (.seq (.reg [(.mk (.some (27)) (.fld (2) (.t (2))) .none), (.mk (.some (28)) (.load .false .false (1) [] (.t (27))) .none), (.mk (.some (29)) (.mv (.t (5))) .none), (.mk (.some (30)) (.ixS (2) (.t (28)) (.t (29))) .none), (.mk (.some (31)) (.load .true .true (2) [(.some .i64), (.some .i64)] (.t (30))) .none), (.mk (.some (32)) (.fld (2) (.t (3))) .none), (.mk (.some (33)) (.load .false .false (1) [] (.t (32))) .none), (.mk (.some (34)) (.mv (.t (5))) .none), (.mk (.some (35)) (.ixS (2) (.t (33)) (.t (34))) .none), (.mk (.some (36)) (.load .true .true (2) [(.some .i64), (.some .i64)] (.t (35))) .none), (.mk (.some (37)) (.eqA .true [(.some .i64), (.some .i64)] (.t (31)) (.t (36))) .none)]) (.cond (.t (37)) (.seq (.reg [(.mk (.some (4)) (.mv (.c (.bool .false))) .none)]) .ret) .skip))) (.reg [(.mk (.some (25)) (.mv (.t (5))) .none), (.mk (.some (26)) (.bin .add (.t (25)) (.c (.int .i64 (1)))) .none), (.mk (.some (5)) (.mv (.t (26))) .none)])))

def F46_c1 : SC := (.seq (.reg [(.mk (.some (4)) (.mv (.c (.bool .true))) .none)]) .ret)

def F46 : SFn := ⟨38, [(.tmp (4))], (.seq (.reg [(.mk (.some (2)) (.box (.t (0))) .none), (.mk (.some (3)) (.box (.t (1))) .none), (.mk (.some (4)) (.mv (.c (.bool .false))) .none)]) (.seq (.seq (.reg [(.mk (.some (6)) (.fld (0) (.t (2))) .none), (.mk (.some (7)) (.load .false .true (2) [(.some .i64), (.some .i64)] (.t (6))) .none), (.mk (.some (8)) (.fld (0) (.t (3))) .none), (.mk (.some (9)) (.load .false .true (2) [(.some .i64), (.some .i64)] (.t (8))) .none), (.mk (.some (10)) (.eqA .true [(.some .i64), (.some .i64)] (.t (7)) (.t (9))) .none), (.mk (.some (11)) (.mv (.t (10))) .none), (.mk (.some (12)) (.fld (2) (.t (2))) (.some ((11), .false))), (.mk (.some (13)) (.load .false .false (1) [] (.t (12))) (.some ((11), .false))), (.mk (.some (14)) (.len (.t (13))) (.some ((11), .false))), (.mk (.some (15)) (.fld (2) (.t (3))) (.some ((11), .false))), (.mk (.some (16)) (.load .false .false (1) [] (.t (15))) (.some ((11), .false))), (.mk (.some (17)) (.len (.t (16))) (.some ((11), .false))), (.mk (.some (18)) (.bin .neq (.t (14)) (.t (17))) (.some ((11), .false))), (.mk (.some (19)) (.pick (.t (11)) (.c (.bool .true)) (.t (18))) .none)]) (.cond (.t (19)) (.seq (.reg [(.mk (.some (4)) (.mv (.c (.bool .false))) .none)]) .ret) .skip)) (.seq (.seq (.reg [(.mk (.some (5)) (.mv (.c (.int .i64 (0)))) .none)]) (.blk 0 (.loop [2, 3, 5] [2, 3] [] F46_b0))) F46_c1)))⟩

theorem F46_ok : sfn Try.prog hints 46 [([2, 3, 5], ([2, 3], []))] = some F46 := by kernel_rfl

def I46_0_0 (a0_0 : Int) (a0_1 : Int) (a0_2n : Nat) (a0_2 : List Cell) (a1_0 : Int) (a1_1 : Int) (a1_2n : Nat) (a1_2 : List Cell) (y0_0 : Int) : St := (.mk [.no, .no, (.box (2) (0) (0)), (.box (3) (0) (0)), .no, (.one (.v (.int .i64 (y0_0)))), .no, .no, .no, .no, .no, .no, .no, .no, .no, .no, .no, .no, .no, .no, .no, .no, .no, .no, .no, .no, .no, .no, .no, .no, .no, .no, .no, .no, .no, .no, .no, .no] [[], [], [[(.v (.int .i64 (a0_0))), (.v (.int .i64 (a0_1))), (.sl (a0_2n) (a0_2))]], [[(.v (.int .i64 (a1_0))), (.v (.int .i64 (a1_1))), (.sl (a1_2n) (a1_2))]], [], [], [], [], [], [], [], [], [], [], [], [], [], [], [], [], [], [], [], [], [], [], [], [], [], [], [], [], [], [], [], [], [], []] [[], [], [], [], [], [], [], [], [], [], [], [], [], [], [], [], [], [], [], [], [], [], [], [], [], [], [], [], [], [], [], [], [], [], [], [], [], []])

theorem E46_0_0 (a0_0 : Int) (a0_1 : Int) (a0_2n : Nat) (a0_2 : List Cell) (a1_0 : Int) (a1_1 : Int) (a1_2n : Nat) (a1_2 : List Cell) (y0_0 : Int) (N0 : Bool × St → Prop) (R : Ret → Prop) : wpO cx46 F46_b0 (.two (.two .e .e) .e) (I46_0_0 a0_0 a0_1 a0_2n a0_2 a1_0 a1_1 a1_2n a1_2 y0_0) (kLp (headW cx46.m [2, 3, 5] [2, 3] []) N0 (kBlk 0 (kSeq cx46 F46_c1 (endO cx46.m F46.rs R)))) = (bif Decidable.decide (y0_0 < (↑a0_2n : Int)) then (bif Decidable.decide (0 ≤ y0_0) && Decidable.decide (y0_0 < (↑a0_2n : Int)) && Decidable.decide (y0_0.toNat * 2 < a0_2.length) then (bif Decidable.decide (y0_0.toNat * 2 + 2 ≤ a0_2.length) && (okK (Option.some IntKind.i64) (a0_2.getD (y0_0.toNat * 2) Cell.dead) && (okK (Option.some IntKind.i64) (a0_2.getD (y0_0.toNat * 2 + 1) Cell.dead) && Bool.true)) then (bif Decidable.decide (0 ≤ y0_0) && Decidable.decide (y0_0 < (↑a1_2n : Int)) && Decidable.decide (y0_0.toNat * 2 < a1_2.length) then (bif Decidable.decide (y0_0.toNat * 2 + 2 ≤ a1_2.length) && (okK (Option.some IntKind.i64) (a1_2.getD (y0_0.toNat * 2) Cell.dead) && (okK (Option.some IntKind.i64) (a1_2.getD (y0_0.toNat * 2 + 1) Cell.dead) && Bool.true)) then (bif !(intC (a0_2.getD (y0_0.toNat * 2) Cell.dead) == intC (a1_2.getD (y0_0.toNat * 2) Cell.dead) && (intC (a0_2.getD (y0_0.toNat * 2 + 1) Cell.dead) == intC (a1_2.getD (y0_0.toNat * 2 + 1) Cell.dead) && Bool.true)) then (R (Ret.mk (.one (.v (.bool .false))) [])) else (N0 (true, (I46_0_0 a0_0 a0_1 a0_2n a0_2 a1_0 a1_1 a1_2n a1_2 (IntKind.i64.wrap (y0_0 + 1)))))) else False) else False) else False) else False) else (R (Ret.mk (.one (.v (.bool .true))) []))) := by kernel_rfl

theorem E46 (a0_0 : Int) (a0_1 : Int) (a0_2n : Nat) (a0_2 : List Cell) (a1_0 : Int) (a1_1 : Int) (a1_2n : Nat) (a1_2 : List Cell) (R : Ret → Prop) : wpFO cx46 F46 (.two (.n 6 .e) (.n 5 (.two .e .e))) [(.agg [(.v (.int .i64 a0_0)), (.v (.int .i64 a0_1)), (.sl a0_2n a0_2)]), (.agg [(.v (.int .i64 a1_0)), (.v (.int .i64 a1_1)), (.sl a1_2n a1_2)])] R = (bif !(a0_0 == a1_0 && (a0_1 == a1_1 && Bool.true)) then (R (Ret.mk (.one (.v (.bool .false))) [])) else (bif (↑a0_2n : Int) != (↑a1_2n : Int) then (R (Ret.mk (.one (.v (.bool .false))) [])) else (LoopO (bodyX cx46 F46_b0) (headW cx46.m [2, 3, 5] [2, 3] []) (kBlk 0 (kSeq cx46 F46_c1 (endO cx46.m F46.rs R))) (true, (I46_0_0 a0_0 a0_1 a0_2n a0_2 a1_0 a1_1 a1_2n a1_2 (0)))))) := by kernel_rfl

def f46_wp (a0_0 : Int) (a0_1 : Int) (a0_2n : Nat) (a0_2 : List Cell) (a1_0 : Int) (a1_1 : Int) (a1_2n : Nat) (a1_2 : List Cell) (R : Ret → Prop) : Prop := bif !(a0_0 == a1_0 && (a0_1 == a1_1 && Bool.true)) then (R (Ret.mk (.one (.v (.bool .false))) [])) else (bif (↑a0_2n : Int) != (↑a1_2n : Int) then (R (Ret.mk (.one (.v (.bool .false))) [])) else (LoopP (fun (z0 : (Int)) (k0 : (Int) → Prop) => (fun (z : Int) => (fun (y0_0 : Int) => bif Decidable.decide (y0_0 < (↑a0_2n : Int)) then (bif Decidable.decide (0 ≤ y0_0) && Decidable.decide (y0_0 < (↑a0_2n : Int)) && Decidable.decide (y0_0.toNat * 2 < a0_2.length) then (bif Decidable.decide (y0_0.toNat * 2 + 2 ≤ a0_2.length) && (okK (Option.some IntKind.i64) (a0_2.getD (y0_0.toNat * 2) Cell.dead) && (okK (Option.some IntKind.i64) (a0_2.getD (y0_0.toNat * 2 + 1) Cell.dead) && Bool.true)) then (bif Decidable.decide (0 ≤ y0_0) && Decidable.decide (y0_0 < (↑a1_2n : Int)) && Decidable.decide (y0_0.toNat * 2 < a1_2.length) then (bif Decidable.decide (y0_0.toNat * 2 + 2 ≤ a1_2.length) && (okK (Option.some IntKind.i64) (a1_2.getD (y0_0.toNat * 2) Cell.dead) && (okK (Option.some IntKind.i64) (a1_2.getD (y0_0.toNat * 2 + 1) Cell.dead) && Bool.true)) then (bif !(intC (a0_2.getD (y0_0.toNat * 2) Cell.dead) == intC (a1_2.getD (y0_0.toNat * 2) Cell.dead) && (intC (a0_2.getD (y0_0.toNat * 2 + 1) Cell.dead) == intC (a1_2.getD (y0_0.toNat * 2 + 1) Cell.dead) && Bool.true)) then (R (Ret.mk (.one (.v (.bool .false))) [])) else (k0 (IntKind.i64.wrap (y0_0 + 1)))) else False) else False) else False) else False) else (R (Ret.mk (.one (.v (.bool .true))) []))) z) z0) (0)))

set_option maxRecDepth 100000 in
theorem f46_sound (a0_0 : Int) (a0_1 : Int) (a0_2n : Nat) (a0_2 : List Cell) (a1_0 : Int) (a1_1 : Int) (a1_2n : Nat) (a1_2 : List Cell) (hC : CtxOk Try.prog cx46.q.ctx) {r : Ret} (h : f46_wp a0_0 a0_1 a0_2n a0_2 a1_0 a1_1 a1_2n a1_2 (fun r' => r' = r)) : SoundAt Try.prog 46 [(.agg [(.v (.int .i64 a0_0)), (.v (.int .i64 a0_1)), (.sl a0_2n a0_2)]), (.agg [(.v (.int .i64 a1_0)), (.v (.int .i64 a1_1)), (.sl a1_2n a1_2)])] r := by
  refine soundAtO (C := cx46) (oc := (.two (.n 6 .e) (.n 5 (.two .e .e)))) mixed hC F46_ok ?_
  rewrite [E46 a0_0 a0_1 a0_2n a0_2 a1_0 a1_1 a1_2n a1_2]
  unfold f46_wp at h
  refine cond_mapE h (fun q1 h => ?_) (fun q1 h => ?_)
  · skip
    exact h
  · skip
    refine cond_mapE h (fun q2 h => ?_) (fun q2 h => ?_)
    · skip
      exact h
    · skip
      refine loop_of (I := (fun (z : Int) => (I46_0_0 a0_0 a0_1 a0_2n a0_2 a1_0 a1_1 a1_2n a1_2 z))) (fun z k0 h => ?_) h rfl rfl
      obtain ⟨y0_0, rfl⟩ : ∃ y, y = z := ⟨z, rfl⟩
      dsimp only [Sum.elim_inl, Sum.elim_inr] at h
      refine bodyX_i (ob := (.two (.two .e .e) .e)) ?_
      rewrite [E46_0_0 a0_0 a0_1 a0_2n a0_2 a1_0 a1_1 a1_2n a1_2 y0_0]
      refine cond_mapE h (fun q15 h => ?_) (fun q15 h => ?_)
      · skip
        refine ck_mapE h (fun q16 h => ?_)
        refine ck_mapE h (fun q17 h => ?_)
        refine ck_mapE h (fun q18 h => ?_)
        refine ck_mapE h (fun q19 h => ?_)
        refine cond_mapE h (fun q20 h => ?_) (fun q20 h => ?_)
        · skip
          exact h
        · skip
          exact again_i (y := (IntKind.i64.wrap (y0_0 + 1))) rfl h
      · skip
        exact h


def cx38 : CtxW := ⟨⟨[(49, sum49)], []⟩, 16, []⟩


def F38_b0 : SC := (.seq (.seq (.reg [(.mk (.some (20)) (.mv (.t (5))) .none), (.mk (.some (21)) (.mv (.t (1))) .none), (.mk (.some (22)) (.len (.t (21))) .none), (.mk (.some (23)) (.bin .lss (.t (20)) (.t (22))) .none)]) (.cond (.t (23)) .skip (.exit (0)))) (.seq (.blk 1 (.seq (.reg [(.mk (.some (26)) (.mv (.t (1))) .none), (.mk (.some (27)) (.mv (.t (5))) .none), (.mk (.some (28)) (.ixS (2) (.t (26)) (.t (27))) .none), (.mk (.some (29)) (.fld (0) (.t (28))) .none), (.mk (.some (30)) (.load .true .false (1) [(.some .i64)] (.t (29))) .none), (.mk (.some (31)) (.bin .lss (.t (30)) (.c (.int .i64 (0)))) .none), (.mk (.some (32)) (.mv (.t (31))) .none), (.mk (.some (33)) (.mv (.t (1))) (.some ((32), .false))), (.mk (.some (34)) (.mv (.t (5))) (.some ((32), .false))), (.mk (.some (35)) (.ixS (2) (.t (33)) (.t (34))) (.some ((32), .false))), (.mk (.some (36)) (.fld (0) (.t (35))) (.some ((32), .false))), (.mk (.some (37)) (.load .true .false (1) [(.some .i64)] (.t (36))) (.some ((32), .false))), (.mk (.some (38)) (.fld (2) (.t (2))) (.some ((32), .false))), (.mk (.some (39)) (.load .false .false (1) [] (.t (38))) (.some ((32), .false))), (.mk (.some (40)) (.len (.t (39))) (.some ((32), .false))), (.mk (.some (41)) (.bin .geq (.t (37)) (.t (40))) (.some ((32), .false))), (.mk (.some (42)) (.pick (.t (32)) (.c (.bool .true)) (.t (41))) .none), (.mk (.some (43)) (.mv (.t (42))) .none), (.mk (.some (44)) (.fld (2) (.t (2))) (.some ((43), .false))), (.mk (.some (45)) (.load .false .false (1) [] (.t (44))) (.some ((43), .false))), (.mk (.some (46)) (.mv (.t (1))) (.some ((43), .false))), (.mk (.some (47)) (.mv (.t (5))) (.some ((43), .false))), (.mk (.some (48)) (.ixS (2) (.t (46)) (.t (47))) (.some ((43), .false))), (.mk (.some (49)) (.fld (0) (.t (48))) (.some ((43), .false))), (.mk (.some (50)) (.load .true .false (1) [(.some .i64)] (.t (49))) (.some ((43), .false))), (.mk (.some (51)) (.ixS (2) (.t (45)) (.t (50))) (.some ((43), .false))), (.mk (.some (52)) (.load .true .true (2) [(.some .i64), (.some .i64)] (.t (51))) (.some ((43), .false))), (.mk (.some (53)) (.mv (.t (1))) (.some ((43), .false))), (.mk (.some (54)) (.mv (.t (5))) (.some ((43), .false))), (.mk (.some (55)) (.ixS (2) (.t (53)) (.t (54))) (.some ((43), .false))), (.mk (.some (56)) (.fld (1) (.t (55))) (.some ((43), .false))), (.mk (.some (57)) (.load .true .false (1) [(.some .i64)] (.t (56))) (.some ((43), .false))), (.mk (.some (58)) (.call .false .false (.f (49)) [(.t (52)), (.t (57))]) (.some ((43), .false))), (.mk (.some (59)) (.un .not (.t (58))) (.some ((43), .false))), (.mk (.some (60)) (.pick (.t (43)) (.c (.bool .true)) (.t (59))) .none)]) (.cond (.t (60)) (.seq (.reg [(.mk (.some (4)) (.mv (.c (.bool .false))) .none)]) .ret) .skip))) (.reg [(.mk (.some (24)) (.mv (.t (5))) .none), (.mk (.some (25)) (.bin .add (.t (24)) (.c (.int .i64 (1)))) .none), (.mk (.some (5)) (.mv (.t (25))) .none)])))

def F38_c1 : SC := (.seq (.reg [(.mk (.some (4)) (.mv (.c (.bool .true))) .none)]) .ret)

def F38 : SFn := ⟨61, [(.tmp (4))], (.seq (.reg [(.mk (.some (2)) (.box (.t (0))) .none), (.mk (.some (4)) (.mv (.c (.bool .false))) .none)]) (.seq (.seq (.reg [(.mk (.some (6)) (.mv (.t (1))) .none), (.mk (.some (7)) (.len (.t (6))) .none), (.mk (.some (8)) (.fld (0) (.t (2))) .none), (.mk (.some (9)) (.fld (0) (.t (8))) .none), (.mk (.some (10)) (.load .false .false (1) [(.some .i64)] (.t (9))) .none), (.mk (.some (11)) (.bin .lss (.t (7)) (.t (10))) .none), (.mk (.some (12)) (.mv (.t (11))) .none), (.mk (.some (13)) (.mv (.t (1))) (.some ((12), .false))), (.mk (.some (14)) (.len (.t (13))) (.some ((12), .false))), (.mk (.some (15)) (.fld (0) (.t (2))) (.some ((12), .false))), (.mk (.some (16)) (.fld (1) (.t (15))) (.some ((12), .false))), (.mk (.some (17)) (.load .false .false (1) [(.some .i64)] (.t (16))) (.some ((12), .false))), (.mk (.some (18)) (.bin .gtr (.t (14)) (.t (17))) (.some ((12), .false))), (.mk (.some (19)) (.pick (.t (12)) (.c (.bool .true)) (.t (18))) .none)]) (.cond (.t (19)) (.seq (.reg [(.mk (.some (4)) (.mv (.c (.bool .false))) .none)]) .ret) .skip)) (.seq (.seq (.reg [(.mk (.some (5)) (.mv (.c (.int .i64 (0)))) .none)]) (.blk 0 (.loop [1, 2, 5] [2] [] F38_b0))) F38_c1)))⟩

theorem F38_ok : sfn Try.prog hints 38 [([1, 2, 5], ([2], []))] = some F38 := by kernel_rfl

def I38_0_0 (a0_0 : Int) (a0_1 : Int) (a0_2n : Nat) (a0_2 : List Cell) (a1n : Nat) (a1 : List Cell) (y0_0 : Int) : St := (.mk [.no, (.one (.sl (a1n) (a1))), (.box (2) (0) (0)), .no, .no, (.one (.v (.int .i64 (y0_0)))), .no, .no, .no, .no, .no, .no, .no, .no, .no, .no, .no, .no, .no, .no, .no, .no, .no, .no, .no, .no, .no, .no, .no, .no, .no, .no, .no, .no, .no, .no, .no, .no, .no, .no, .no, .no, .no, .no, .no, .no, .no, .no, .no, .no, .no, .no, .no, .no, .no, .no, .no, .no, .no, .no, .no] [[], [], [[(.v (.int .i64 (a0_0))), (.v (.int .i64 (a0_1))), (.sl (a0_2n) (a0_2))]], [], [], [], [], [], [], [], [], [], [], [], [], [], [], [], [], [], [], [], [], [], [], [], [], [], [], [], [], [], [], [], [], [], [], [], [], [], [], [], [], [], [], [], [], [], [], [], [], [], [], [], [], [], [], [], [], [], []] [[], [], [], [], [], [], [], [], [], [], [], [], [], [], [], [], [], [], [], [], [], [], [], [], [], [], [], [], [], [], [], [], [], [], [], [], [], [], [], [], [], [], [], [], [], [], [], [], [], [], [], [], [], [], [], [], [], [], [], [], []])

theorem E38_0_0 (a0_0 : Int) (a0_1 : Int) (a0_2n : Nat) (a0_2 : List Cell) (a1n : Nat) (a1 : List Cell) (y0_0 : Int) (N0 : Bool × St → Prop) (R : Ret → Prop) : wpO cx38 F38_b0 (.two (.two (.n 24 .e) (.n 7 (.two (.n 15 .e) (.n 14 (.two .e .e))))) .e) (I38_0_0 a0_0 a0_1 a0_2n a0_2 a1n a1 y0_0) (kLp (headW cx38.m [1, 2, 5] [2] []) N0 (kBlk 0 (kSeq cx38 F38_c1 (endO cx38.m F38.rs R)))) = (bif Decidable.decide (y0_0 < (↑a1n : Int)) then (bif Decidable.decide (0 ≤ y0_0) && Decidable.decide (y0_0 < (↑a1n : Int)) && Decidable.decide (y0_0.toNat * 2 < a1.length) then (bif Decidable.decide (y0_0.toNat * 2 + 1 ≤ a1.length) && okK (Option.some IntKind.i64) (a1.getD (y0_0.toNat * 2) Cell.dead) then (bif Decidable.decide (intC (a1.getD (y0_0.toNat * 2) Cell.dead) < 0) then (R (Ret.mk (.one (.v (.bool .false))) [])) else (bif Decidable.decide (0 ≤ y0_0) && Decidable.decide (y0_0 < (↑a1n : Int)) && Decidable.decide (y0_0.toNat * 2 < a1.length) then (bif Decidable.decide (y0_0.toNat * 2 + 1 ≤ a1.length) && okK (Option.some IntKind.i64) (a1.getD (y0_0.toNat * 2) Cell.dead) then (bif Decidable.decide (intC (a1.getD (y0_0.toNat * 2) Cell.dead) ≥ (↑a0_2n : Int)) then (R (Ret.mk (.one (.v (.bool .false))) [])) else (bif Decidable.decide (0 ≤ y0_0) && Decidable.decide (y0_0 < (↑a1n : Int)) && Decidable.decide (y0_0.toNat * 2 < a1.length) then (bif Decidable.decide (y0_0.toNat * 2 + 1 ≤ a1.length) && okK (Option.some IntKind.i64) (a1.getD (y0_0.toNat * 2) Cell.dead) then (bif Decidable.decide (0 ≤ intC (a1.getD (y0_0.toNat * 2) Cell.dead)) && Decidable.decide (intC (a1.getD (y0_0.toNat * 2) Cell.dead) < (↑a0_2n : Int)) && Decidable.decide ((intC (a1.getD (y0_0.toNat * 2) Cell.dead)).toNat * 2 < a0_2.length) then (bif Decidable.decide ((intC (a1.getD (y0_0.toNat * 2) Cell.dead)).toNat * 2 + 2 ≤ a0_2.length) && (okK (Option.some IntKind.i64) (a0_2.getD ((intC (a1.getD (y0_0.toNat * 2) Cell.dead)).toNat * 2) Cell.dead) && (okK (Option.some IntKind.i64) (a0_2.getD ((intC (a1.getD (y0_0.toNat * 2) Cell.dead)).toNat * 2 + 1) Cell.dead) && Bool.true)) then (bif Decidable.decide (0 ≤ y0_0) && Decidable.decide (y0_0 < (↑a1n : Int)) && Decidable.decide (y0_0.toNat * 2 < a1.length) then (bif Decidable.decide (y0_0.toNat * 2 + 1 + 1 ≤ a1.length) && okK (Option.some IntKind.i64) (a1.getD (y0_0.toNat * 2 + 1) Cell.dead) then (bif !f49_0 (intC (a0_2.getD ((intC (a1.getD (y0_0.toNat * 2) Cell.dead)).toNat * 2) Cell.dead)) (intC (a0_2.getD ((intC (a1.getD (y0_0.toNat * 2) Cell.dead)).toNat * 2 + 1) Cell.dead)) (intC (a1.getD (y0_0.toNat * 2 + 1) Cell.dead)) then (R (Ret.mk (.one (.v (.bool .false))) [])) else (N0 (true, (I38_0_0 a0_0 a0_1 a0_2n a0_2 a1n a1 (IntKind.i64.wrap (y0_0 + 1)))))) else False) else False) else False) else False) else False) else False)) else False) else False)) else False) else False) else (R (Ret.mk (.one (.v (.bool .true))) []))) := by kernel_rfl

theorem E38 (a0_0 : Int) (a0_1 : Int) (a0_2n : Nat) (a0_2 : List Cell) (a1n : Nat) (a1 : List Cell) (R : Ret → Prop) : wpFO cx38 F38 (.two (.n 5 .e) (.n 4 (.two .e .e))) [(.agg [(.v (.int .i64 a0_0)), (.v (.int .i64 a0_1)), (.sl a0_2n a0_2)]), (.one (.sl a1n a1))] R = (bif Decidable.decide ((↑a1n : Int) < a0_0) then (R (Ret.mk (.one (.v (.bool .false))) [])) else (bif Decidable.decide ((↑a1n : Int) > a0_1) then (R (Ret.mk (.one (.v (.bool .false))) [])) else (LoopO (bodyX cx38 F38_b0) (headW cx38.m [1, 2, 5] [2] []) (kBlk 0 (kSeq cx38 F38_c1 (endO cx38.m F38.rs R))) (true, (I38_0_0 a0_0 a0_1 a0_2n a0_2 a1n a1 (0)))))) := by kernel_rfl

def f38_wp (a0_0 : Int) (a0_1 : Int) (a0_2n : Nat) (a0_2 : List Cell) (a1n : Nat) (a1 : List Cell) (R : Ret → Prop) : Prop := bif Decidable.decide ((↑a1n : Int) < a0_0) then (R (Ret.mk (.one (.v (.bool .false))) [])) else (bif Decidable.decide ((↑a1n : Int) > a0_1) then (R (Ret.mk (.one (.v (.bool .false))) [])) else (LoopP (fun (z0 : (Int)) (k0 : (Int) → Prop) => (fun (z : Int) => (fun (y0_0 : Int) => bif Decidable.decide (y0_0 < (↑a1n : Int)) then (bif Decidable.decide (0 ≤ y0_0) && Decidable.decide (y0_0 < (↑a1n : Int)) && Decidable.decide (y0_0.toNat * 2 < a1.length) then (bif Decidable.decide (y0_0.toNat * 2 + 1 ≤ a1.length) && okK (Option.some IntKind.i64) (a1.getD (y0_0.toNat * 2) Cell.dead) then (bif Decidable.decide (intC (a1.getD (y0_0.toNat * 2) Cell.dead) < 0) then (R (Ret.mk (.one (.v (.bool .false))) [])) else (bif Decidable.decide (intC (a1.getD (y0_0.toNat * 2) Cell.dead) ≥ (↑a0_2n : Int)) then (R (Ret.mk (.one (.v (.bool .false))) [])) else (bif Decidable.decide (0 ≤ intC (a1.getD (y0_0.toNat * 2) Cell.dead)) && Decidable.decide (intC (a1.getD (y0_0.toNat * 2) Cell.dead) < (↑a0_2n : Int)) && Decidable.decide ((intC (a1.getD (y0_0.toNat * 2) Cell.dead)).toNat * 2 < a0_2.length) then (bif Decidable.decide ((intC (a1.getD (y0_0.toNat * 2) Cell.dead)).toNat * 2 + 2 ≤ a0_2.length) && (okK (Option.some IntKind.i64) (a0_2.getD ((intC (a1.getD (y0_0.toNat * 2) Cell.dead)).toNat * 2) Cell.dead) && (okK (Option.some IntKind.i64) (a0_2.getD ((intC (a1.getD (y0_0.toNat * 2) Cell.dead)).toNat * 2 + 1) Cell.dead) && Bool.true)) then (bif Decidable.decide (y0_0.toNat * 2 + 1 + 1 ≤ a1.length) && okK (Option.some IntKind.i64) (a1.getD (y0_0.toNat * 2 + 1) Cell.dead) then (bif !f49_0 (intC (a0_2.getD ((intC (a1.getD (y0_0.toNat * 2) Cell.dead)).toNat * 2) Cell.dead)) (intC (a0_2.getD ((intC (a1.getD (y0_0.toNat * 2) Cell.dead)).toNat * 2 + 1) Cell.dead)) (intC (a1.getD (y0_0.toNat * 2 + 1) Cell.dead)) then (R (Ret.mk (.one (.v (.bool .false))) [])) else (k0 (IntKind.i64.wrap (y0_0 + 1)))) else False) else False) else False))) else False) else False) else (R (Ret.mk (.one (.v (.bool .true))) []))) z) z0) (0)))

set_option maxRecDepth 100000 in
theorem f38_sound (a0_0 : Int) (a0_1 : Int) (a0_2n : Nat) (a0_2 : List Cell) (a1n : Nat) (a1 : List Cell) (hC : CtxOk Try.prog cx38.q.ctx) {r : Ret} (h : f38_wp a0_0 a0_1 a0_2n a0_2 a1n a1 (fun r' => r' = r)) : SoundAt Try.prog 38 [(.agg [(.v (.int .i64 a0_0)), (.v (.int .i64 a0_1)), (.sl a0_2n a0_2)]), (.one (.sl a1n a1))] r := by
  refine soundAtO (C := cx38) (oc := (.two (.n 5 .e) (.n 4 (.two .e .e)))) mixed hC F38_ok ?_
  rewrite [E38 a0_0 a0_1 a0_2n a0_2 a1n a1]
  unfold f38_wp at h
  refine cond_mapE h (fun q1 h => ?_) (fun q1 h => ?_)
  · skip
    exact h
  · skip
    refine cond_mapE h (fun q2 h => ?_) (fun q2 h => ?_)
    · skip
      exact h
    · skip
      refine loop_of (I := (fun (z : Int) => (I38_0_0 a0_0 a0_1 a0_2n a0_2 a1n a1 z))) (fun z k0 h => ?_) h rfl rfl
      obtain ⟨y0_0, rfl⟩ : ∃ y, y = z := ⟨z, rfl⟩
      dsimp only [Sum.elim_inl, Sum.elim_inr] at h
      refine bodyX_i (ob := (.two (.two (.n 24 .e) (.n 7 (.two (.n 15 .e) (.n 14 (.two .e .e))))) .e)) ?_
      rewrite [E38_0_0 a0_0 a0_1 a0_2n a0_2 a1n a1 y0_0]
      refine cond_mapE h (fun q21 h => ?_) (fun q21 h => ?_)
      · skip
        refine ck_mapE h (fun q22 h => ?_)
        refine ck_mapE h (fun q23 h => ?_)
        refine cond_mapE h (fun q24 h => ?_) (fun q24 h => ?_)
        · skip
          exact h
        · skip
          refine ck_i q22 ?_
          refine ck_i q23 ?_
          refine cond_mapE h (fun q25 h => ?_) (fun q25 h => ?_)
          · skip
            exact h
          · skip
            refine ck_i q22 ?_
            refine ck_i q23 ?_
            refine ck_mapE h (fun q26 h => ?_)
            refine ck_mapE h (fun q27 h => ?_)
            refine ck_i q22 ?_
            refine ck_mapE h (fun q28 h => ?_)
            refine cond_mapE h (fun q29 h => ?_) (fun q29 h => ?_)
            · skip
              exact h
            · skip
              exact again_i (y := (IntKind.i64.wrap (y0_0 + 1))) rfl h
      · skip
        exact h


def cx19 : CtxW := ⟨⟨[(21, sum21), (43, sum43)], []⟩, 16, []⟩


def F19_b0 : SC := (.seq (.reg [(.mk (.some (9)) (.bin .lss (.t (8)) (.t (7))) .none)]) (.seq (.cond (.t (9)) .skip (.exit (0))) (.seq (.blk 1 (.reg [(.mk (.some (10)) (.fld (2) (.t (3))) .none), (.mk (.some (11)) (.load .false .false (1) [] (.t (10))) .none), (.mk (.some (12)) (.call .false .false (.f (43)) []) .none), (.mk (.some (13)) (.buildS (25) (2) (1) [(.int .i64 (0)), (.int .i64 (0))] [((0), (.t (12)))]) .none), (.mk (.some (14)) (.app (25) (2) (16) [(.int .i64 (0)), (.int .i64 (0))] (.t (11)) (.t (13))) .none), (.mk (.some (15)) (.fld (2) (.t (3))) .none), (.mk .none (.store .false (1) (.t (15)) (.t (14))) .none)])) (.reg [(.mk (.some (16)) (.bin .add (.t (8)) (.c (.int .i64 (1)))) .none), (.mk (.some (8)) (.mv (.t (16))) .none)]))))

def F19_c1 : SC := (.seq (.reg [(.mk (.some (17)) (.load .false .true (3) [] (.t (3))) .none), (.mk .none (.store .false (3) (.t (2)) (.t (17))) .none)]) .ret)

def F19 : SFn := ⟨18, [(.cell (2) .true (3))], (.seq (.reg [(.mk (.some (1)) (.box (.t (0))) .none), (.mk (.some (2)) (.alloc [(.int .i64 (0)), (.int .i64 (0)), (.slice .none (0) (0))]) .none)]) (.seq (.reg [(.mk (.some (4)) (.call .false .false (.f (21)) [(.c (.int .i64 (0)))]) .none), (.mk (.some (5)) (.build [(.int .i64 (0)), (.int .i64 (0)), (.slice .none (0) (0))] [((0), ((2), (.t (4))))]) .none), (.mk (.some (3)) (.alloc [(.int .i64 (0)), (.int .i64 (0)), (.slice .none (0) (0))]) .none), (.mk .none (.store .false (3) (.t (3)) (.t (5))) .none)]) (.seq (.seq (.reg [(.mk (.some (6)) (.fld (4) (.t (1))) .none), (.mk (.some (7)) (.load .false .false (1) [(.some .i64)] (.t (6))) .none), (.mk (.some (8)) (.mv (.c (.int .i64 (0)))) .none)]) (.blk 0 (.loop [2, 3, 7, 8] [2, 3] [14] F19_b0))) F19_c1)))⟩

theorem F19_ok : sfn Try.prog hints 19 [([2, 3, 7, 8], ([2, 3], [14]))] = some F19 := by kernel_rfl

def I19_0_0 (c0 : Int) (c1 : Int) (c2 : Int) (c3 : Int) (c4 : Int) (cr : Cell) : St := (.mk [.no, .no, (.box (2) (0) (0)), (.box (3) (0) (0)), .no, .no, .no, (.one (.v (.int .i64 (c4)))), (.one (.v (.int .i64 (0)))), .no, .no, .no, .no, .no, .no, .no, .no, .no] [[], [], [[(.v (.int .i64 (0))), (.v (.int .i64 (0))), (.v (.slice .none (0) (0)))]], [[(.v (.int .i64 (f21_0 0))), (.v (.int .i64 (f21_1 0))), (.v (.slice .none (0) (0)))]], [], [], [], [], [], [], [], [], [], [], [], [], [], []] [[], [], [], [], [], [], [], [], [], [], [], [], [], [], [], [], [], []])

def I19_0_1 (c0 : Int) (c1 : Int) (c2 : Int) (c3 : Int) (c4 : Int) (cr : Cell) (y0m1_0 : Int) (y0m1_1 : Nat) (y0m1_2 : List Cell) : St := (.mk [.no, .no, (.box (2) (0) (0)), (.box (3) (0) (0)), .no, .no, .no, (.one (.v (.int .i64 (c4)))), (.one (.v (.int .i64 (y0m1_0)))), .no, .no, .no, .no, .no, .no, .no, .no, .no] [[], [], [[(.v (.int .i64 (0))), (.v (.int .i64 (0))), (.v (.slice .none (0) (0)))]], [[(.v (.int .i64 (f21_0 0))), (.v (.int .i64 (f21_1 0))), (.own (14) (0))]], [], [], [], [], [], [], [], [], [], [], [], [], [], []] [[], [], [], [], [], [], [], [], [], [], [], [], [], [], [(Tok.mk (25) (2) (y0m1_1) (y0m1_2) .true)], [], [], []])

theorem E19_0_0 (c0 : Int) (c1 : Int) (c2 : Int) (c3 : Int) (c4 : Int) (cr : Cell) (N0 : Bool × St → Prop) (R : Ret → Prop) : wpO cx19 F19_b0 (.two .e .e) (I19_0_0 c0 c1 c2 c3 c4 cr) (kLp (headW cx19.m [2, 3, 7, 8] [2, 3] [14]) N0 (kBlk 0 (kSeq cx19 F19_c1 (endO cx19.m F19.rs R)))) = (bif Decidable.decide (0 < c4) then (N0 (true, (I19_0_1 c0 c1 c2 c3 c4 cr (1) (1) ([Cell.v (Value.int IntKind.i64 f43_0), Cell.v (Value.int IntKind.i64 f43_1)])))) else (R (Ret.mk (.agg [(.v (.int .i64 (f21_0 0))), (.v (.int .i64 (f21_1 0))), (.v (.slice .none (0) (0)))]) []))) := by kernel_rfl

theorem E19_0_1 (c0 : Int) (c1 : Int) (c2 : Int) (c3 : Int) (c4 : Int) (cr : Cell) (y0m1_0 : Int) (y0m1_1 : Nat) (y0m1_2 : List Cell) (N0 : Bool × St → Prop) (R : Ret → Prop) : wpO cx19 F19_b0 (.two .e .e) (I19_0_1 c0 c1 c2 c3 c4 cr y0m1_0 y0m1_1 y0m1_2) (kLp (headW cx19.m [2, 3, 7, 8] [2, 3] [14]) N0 (kBlk 0 (kSeq cx19 F19_c1 (endO cx19.m F19.rs R)))) = (bif Decidable.decide (y0m1_0 < c4) then (bif Decidable.decide ((y0m1_1 + 1) * 16 ≤ 140737488355328) && Bool.true && Bool.true && Bool.true && Bool.true && Bool.true then (N0 (true, (I19_0_1 c0 c1 c2 c3 c4 cr (IntKind.i64.wrap (y0m1_0 + 1)) (y0m1_1 + 1) (y0m1_2 ++ [Cell.v (Value.int IntKind.i64 f43_0), Cell.v (Value.int IntKind.i64 f43_1)])))) else False) else (R (Ret.mk (.agg [(.v (.int .i64 (f21_0 0))), (.v (.int .i64 (f21_1 0))), (.own (0) (0))]) [(Tok.mk (25) (2) (y0m1_1) (y0m1_2) .true)]))) := by kernel_rfl

theorem E19 (c0 : Int) (c1 : Int) (c2 : Int) (c3 : Int) (c4 : Int) (cr : Cell) (R : Ret → Prop) : wpFO cx19 F19 .e [.agg [.v (.int .i64 c0), .v (.int .i64 c1), .v (.int .i64 c2), .v (.int .i64 c3), .v (.int .i64 c4), cr]] R = (LoopO (bodyX cx19 F19_b0) (headW cx19.m [2, 3, 7, 8] [2, 3] [14]) (kBlk 0 (kSeq cx19 F19_c1 (endO cx19.m F19.rs R))) (true, (I19_0_0 c0 c1 c2 c3 c4 cr))) := by kernel_rfl

def f19_wp (c0 : Int) (c1 : Int) (c2 : Int) (c3 : Int) (c4 : Int) (cr : Cell) (R : Ret → Prop) : Prop := LoopP (fun (z0 : (Unit) ⊕ (Int × Nat × (List Cell))) (k0 : (Unit) ⊕ (Int × Nat × (List Cell)) → Prop) => (Sum.elim (fun (_ : Unit) => bif Decidable.decide (0 < c4) then (k0 (Sum.inr ((1), (1), ([Cell.v (Value.int IntKind.i64 f43_0), Cell.v (Value.int IntKind.i64 f43_1)])))) else (R (Ret.mk (.agg [(.v (.int .i64 (f21_0 0))), (.v (.int .i64 (f21_1 0))), (.v (.slice .none (0) (0)))]) []))) (fun (z : Int × Nat × (List Cell)) => (fun (y0m1_0 : Int) (y0m1_1 : Nat) (y0m1_2 : List Cell) => bif Decidable.decide (y0m1_0 < c4) then (bif Decidable.decide ((y0m1_1 + 1) * 16 ≤ 140737488355328) && Bool.true && Bool.true && Bool.true && Bool.true && Bool.true then (k0 (Sum.inr ((IntKind.i64.wrap (y0m1_0 + 1)), (y0m1_1 + 1), (y0m1_2 ++ [Cell.v (Value.int IntKind.i64 f43_0), Cell.v (Value.int IntKind.i64 f43_1)])))) else False) else (R (Ret.mk (.agg [(.v (.int .i64 (f21_0 0))), (.v (.int .i64 (f21_1 0))), (.own (0) (0))]) [(Tok.mk (25) (2) (y0m1_1) (y0m1_2) .true)]))) z.1 z.2.1 z.2.2)) z0) (Sum.inl ())

set_option maxRecDepth 100000 in
theorem f19_sound (c0 : Int) (c1 : Int) (c2 : Int) (c3 : Int) (c4 : Int) (cr : Cell) (hC : CtxOk Try.prog cx19.q.ctx) {r : Ret} (h : f19_wp c0 c1 c2 c3 c4 cr (fun r' => r' = r)) : SoundAt Try.prog 19 [.agg [.v (.int .i64 c0), .v (.int .i64 c1), .v (.int .i64 c2), .v (.int .i64 c3), .v (.int .i64 c4), cr]] r := by
  refine soundAtO (C := cx19) (oc := .e) mixed hC F19_ok ?_
  rewrite [E19 c0 c1 c2 c3 c4 cr]
  unfold f19_wp at h
  refine loop_of (I := (Sum.elim (fun (z : Unit) => (I19_0_0 c0 c1 c2 c3 c4 cr)) (fun (z : Int × Nat × (List Cell)) => (I19_0_1 c0 c1 c2 c3 c4 cr z.1 z.2.1 z.2.2)))) (fun z k0 h => ?_) h rfl rfl
  rcases z with z | z
  · skip
    skip
    dsimp only [Sum.elim_inl, Sum.elim_inr] at h
    refine bodyX_i (ob := (.two .e .e)) ?_
    dsimp only [Sum.elim_inl, Sum.elim_inr]
    rewrite [E19_0_0 c0 c1 c2 c3 c4 cr ]
    refine cond_mapE h (fun q6 h => ?_) (fun q6 h => ?_)
    · skip
      exact again_i (y := (Sum.inr ((1), (1), ([Cell.v (Value.int IntKind.i64 f43_0), Cell.v (Value.int IntKind.i64 f43_1)])))) rfl h
    · skip
      exact h
  · skip
    obtain ⟨y0m1_0, y0m1_1, y0m1_2⟩ := z
    dsimp only [Sum.elim_inl, Sum.elim_inr] at h
    refine bodyX_i (ob := (.two .e .e)) ?_
    dsimp only [Sum.elim_inl, Sum.elim_inr]
    rewrite [E19_0_1 c0 c1 c2 c3 c4 cr y0m1_0 y0m1_1 y0m1_2]
    refine cond_mapE h (fun q7 h => ?_) (fun q7 h => ?_)
    · skip
      refine ck_mapE h (fun q8 h => ?_)
      exact again_i (y := (Sum.inr ((IntKind.i64.wrap (y0m1_0 + 1)), (y0m1_1 + 1), (y0m1_2 ++ [Cell.v (Value.int IntKind.i64 f43_0), Cell.v (Value.int IntKind.i64 f43_1)])))) rfl h
    · skip
      exact h


def cx22 : CtxW := ⟨⟨[(27, sum27)], []⟩, 16, []⟩


def F22_b0 : SC := (.seq (.reg [(.mk (.some (10)) (.bin .lss (.t (9)) (.t (8))) .none)]) (.seq (.cond (.t (10)) .skip (.exit (0))) (.seq (.blk 1 (.seq (.reg [(.mk (.some (11)) (.ixS (2) (.t (7)) (.t (9))) .none), (.mk (.some (12)) (.load .true .true (2) [(.some .i64), (.some .i64)] (.t (11))) .none), (.mk (.some (6)) (.alloc [(.int .i64 (0)), (.int .i64 (0))]) .none), (.mk .none (.store .false (2) (.t (6)) (.t (12))) .none)]) (.seq (.reg [(.mk (.some (13)) (.fld (0) (.t (6))) .none), (.mk (.some (14)) (.load .false .false (1) [(.some .i64)] (.t (13))) .none), (.mk (.some (15)) (.bin .lss (.t (14)) (.c (.int .i64 (0)))) .none), (.mk (.some (16)) (.mv (.t (15))) .none), (.mk (.some (17)) (.fld (0) (.t (6))) (.some ((16), .false))), (.mk (.some (18)) (.load .false .false (1) [(.some .i64)] (.t (17))) (.some ((16), .false))), (.mk (.some (19)) (.fld (2) (.t (2))) (.some ((16), .false))), (.mk (.some (20)) (.load .false .false (1) [] (.t (19))) (.some ((16), .false))), (.mk (.some (21)) (.len (.t (20))) (.some ((16), .false))), (.mk (.some (22)) (.bin .geq (.t (18)) (.t (21))) (.some ((16), .false))), (.mk (.some (23)) (.pick (.t (16)) (.c (.bool .true)) (.t (22))) .none), (.mk (.some (24)) (.mv (.t (23))) .none), (.mk (.some (25)) (.fld (2) (.t (2))) (.some ((24), .false))), (.mk (.some (26)) (.load .false .false (1) [] (.t (25))) (.some ((24), .false))), (.mk (.some (27)) (.fld (0) (.t (6))) (.some ((24), .false))), (.mk (.some (28)) (.load .false .false (1) [(.some .i64)] (.t (27))) (.some ((24), .false))), (.mk (.some (29)) (.ixS (2) (.t (26)) (.t (28))) (.some ((24), .false))), (.mk (.some (30)) (.load .true .true (2) [(.some .i64), (.some .i64)] (.t (29))) (.some ((24), .false))), (.mk (.some (31)) (.fld (1) (.t (6))) (.some ((24), .false))), (.mk (.some (32)) (.load .false .false (1) [(.some .i64)] (.t (31))) (.some ((24), .false))), (.mk (.some (33)) (.call .false .false (.f (27)) [(.t (30)), (.t (32))]) (.some ((24), .false))), (.mk (.some (34)) (.un .not (.t (33))) (.some ((24), .false))), (.mk (.some (35)) (.pick (.t (24)) (.c (.bool .true)) (.t (34))) .none)]) (.cond (.t (35)) (.seq (.reg [(.mk (.some (4)) (.mv (.c (.bool .false))) .none)]) .ret) .skip)))) (.reg [(.mk (.some (36)) (.bin .add (.t (9)) (.c (.int .i64 (1)))) .none), (.mk (.some (9)) (.mv (.t (36))) .none)]))))

def F22_c1 : SC := (.seq (.reg [(.mk (.some (37)) (.fld (0) (.t (2))) .none), (.mk (.some (38)) (.load .false .true (2) [(.some .i64), (.some .i64)] (.t (37))) .none), (.mk (.some (39)) (.mv (.t (1))) .none), (.mk (.some (40)) (.len (.t (39))) .none), (.mk (.some (41)) (.call .false .false (.f (27)) [(.t (38)), (.t (40))]) .none), (.mk (.some (4)) (.mv (.t (41))) .none)]) .ret)

def F22 : SFn := ⟨42, [(.tmp (4))], (.seq (.reg [(.mk (.some (2)) (.box (.t (0))) .none), (.mk (.some (4)) (.mv (.c (.bool .false))) .none)]) (.seq (.seq (.reg [(.mk (.some (7)) (.mv (.t (1))) .none), (.mk (.some (8)) (.len (.t (7))) .none), (.mk (.some (9)) (.mv (.c (.int .i64 (0)))) .none)]) (.blk 0 (.loop [1, 2, 7, 8, 9] [2] [] F22_b0))) F22_c1))⟩

theorem F22_ok : sfn Try.prog hints 22 [([1, 2, 7, 8, 9], ([2], []))] = some F22 := by kernel_rfl

def I22_0_0 (a0_0 : Int) (a0_1 : Int) (a0_2n : Nat) (a0_2 : List Cell) (a1n : Nat) (a1 : List Cell) (y0_0 : Int) : St := (.mk [.no, (.one (.sl (a1n) (a1))), (.box (2) (0) (0)), .no, .no, .no, .no, (.one (.sl (a1n) (a1))), (.one (.v (.int .i64 ((↑a1n : Int))))), (.one (.v (.int .i64 (y0_0)))), .no, .no, .no, .no, .no, .no, .no, .no, .no, .no, .no, .no, .no, .no, .no, .no, .no, .no, .no, .no, .no, .no, .no, .no, .no, .no, .no, .no, .no, .no, .no, .no] [[], [], [[(.v (.int .i64 (a0_0))), (.v (.int .i64 (a0_1))), (.sl (a0_2n) (a0_2))]], [], [], [], [], [], [], [], [], [], [], [], [], [], [], [], [], [], [], [], [], [], [], [], [], [], [], [], [], [], [], [], [], [], [], [], [], [], [], []] [[], [], [], [], [], [], [], [], [], [], [], [], [], [], [], [], [], [], [], [], [], [], [], [], [], [], [], [], [], [], [], [], [], [], [], [], [], [], [], [], [], []])

theorem E22_0_0 (a0_0 : Int) (a0_1 : Int) (a0_2n : Nat) (a0_2 : List Cell) (a1n : Nat) (a1 : List Cell) (y0_0 : Int) (N0 : Bool × St → Prop) (R : Ret → Prop) : wpO cx22 F22_b0 (.two (.two (.n 15 .e) (.n 4 (.two (.n 9 .e) (.n 8 (.two .e .e))))) .e) (I22_0_0 a0_0 a0_1 a0_2n a0_2 a1n a1 y0_0) (kLp (headW cx22.m [1, 2, 7, 8, 9] [2] []) N0 (kBlk 0 (kSeq cx22 F22_c1 (endO cx22.m F22.rs R)))) = (bif Decidable.decide (y0_0 < (↑a1n : Int)) then (bif Decidable.decide (0 ≤ y0_0) && Decidable.decide (y0_0 < (↑a1n : Int)) && Decidable.decide (y0_0.toNat * 2 < a1.length) then (bif Decidable.decide (y0_0.toNat * 2 + 2 ≤ a1.length) && (okK (Option.some IntKind.i64) (a1.getD (y0_0.toNat * 2) Cell.dead) && (okK (Option.some IntKind.i64) (a1.getD (y0_0.toNat * 2 + 1) Cell.dead) && Bool.true)) then (bif Decidable.decide (intC (a1.getD (y0_0.toNat * 2) Cell.dead) < 0) then (R (Ret.mk (.one (.v (.bool .false))) [])) else (bif Decidable.decide (intC (a1.getD (y0_0.toNat * 2) Cell.dead) ≥ (↑a0_2n : Int)) then (R (Ret.mk (.one (.v (.bool .false))) [])) else (bif Decidable.decide (0 ≤ intC (a1.getD (y0_0.toNat * 2) Cell.dead)) && Decidable.decide (intC (a1.getD (y0_0.toNat * 2) Cell.dead) < (↑a0_2n : Int)) && Decidable.decide ((intC (a1.getD (y0_0.toNat * 2) Cell.dead)).toNat * 2 < a0_2.length) then (bif Decidable.decide ((intC (a1.getD (y0_0.toNat * 2) Cell.dead)).toNat * 2 + 2 ≤ a0_2.length) && (okK (Option.some IntKind.i64) (a0_2.getD ((intC (a1.getD (y0_0.toNat * 2) Cell.dead)).toNat * 2) Cell.dead) && (okK (Option.some IntKind.i64) (a0_2.getD ((intC (a1.getD (y0_0.toNat * 2) Cell.dead)).toNat * 2 + 1) Cell.dead) && Bool.true)) then (bif !f27_0 (intC (a0_2.getD ((intC (a1.getD (y0_0.toNat * 2) Cell.dead)).toNat * 2) Cell.dead)) (intC (a0_2.getD ((intC (a1.getD (y0_0.toNat * 2) Cell.dead)).toNat * 2 + 1) Cell.dead)) (intC (a1.getD (y0_0.toNat * 2 + 1) Cell.dead)) then (R (Ret.mk (.one (.v (.bool .false))) [])) else (N0 (true, (I22_0_0 a0_0 a0_1 a0_2n a0_2 a1n a1 (IntKind.i64.wrap (y0_0 + 1)))))) else False) else False))) else False) else False) else (R (Ret.mk (.one (.v (.bool (f27_0 a0_0 a0_1 (↑a1n : Int))))) []))) := by kernel_rfl

theorem E22 (a0_0 : Int) (a0_1 : Int) (a0_2n : Nat) (a0_2 : List Cell) (a1n : Nat) (a1 : List Cell) (R : Ret → Prop) : wpFO cx22 F22 .e [(.agg [(.v (.int .i64 a0_0)), (.v (.int .i64 a0_1)), (.sl a0_2n a0_2)]), (.one (.sl a1n a1))] R = (LoopO (bodyX cx22 F22_b0) (headW cx22.m [1, 2, 7, 8, 9] [2] []) (kBlk 0 (kSeq cx22 F22_c1 (endO cx22.m F22.rs R))) (true, (I22_0_0 a0_0 a0_1 a0_2n a0_2 a1n a1 (0)))) := by kernel_rfl

def f22_wp (a0_0 : Int) (a0_1 : Int) (a0_2n : Nat) (a0_2 : List Cell) (a1n : Nat) (a1 : List Cell) (R : Ret → Prop) : Prop := LoopP (fun (z0 : (Int)) (k0 : (Int) → Prop) => (fun (z : Int) => (fun (y0_0 : Int) => bif Decidable.decide (y0_0 < (↑a1n : Int)) then (bif Decidable.decide (0 ≤ y0_0) && Decidable.decide (y0_0 < (↑a1n : Int)) && Decidable.decide (y0_0.toNat * 2 < a1.length) then (bif Decidable.decide (y0_0.toNat * 2 + 2 ≤ a1.length) && (okK (Option.some IntKind.i64) (a1.getD (y0_0.toNat * 2) Cell.dead) && (okK (Option.some IntKind.i64) (a1.getD (y0_0.toNat * 2 + 1) Cell.dead) && Bool.true)) then (bif Decidable.decide (intC (a1.getD (y0_0.toNat * 2) Cell.dead) < 0) then (R (Ret.mk (.one (.v (.bool .false))) [])) else (bif Decidable.decide (intC (a1.getD (y0_0.toNat * 2) Cell.dead) ≥ (↑a0_2n : Int)) then (R (Ret.mk (.one (.v (.bool .false))) [])) else (bif Decidable.decide (0 ≤ intC (a1.getD (y0_0.toNat * 2) Cell.dead)) && Decidable.decide (intC (a1.getD (y0_0.toNat * 2) Cell.dead) < (↑a0_2n : Int)) && Decidable.decide ((intC (a1.getD (y0_0.toNat * 2) Cell.dead)).toNat * 2 < a0_2.length) then (bif Decidable.decide ((intC (a1.getD (y0_0.toNat * 2) Cell.dead)).toNat * 2 + 2 ≤ a0_2.length) && (okK (Option.some IntKind.i64) (a0_2.getD ((intC (a1.getD (y0_0.toNat * 2) Cell.dead)).toNat * 2) Cell.dead) && (okK (Option.some IntKind.i64) (a0_2.getD ((intC (a1.getD (y0_0.toNat * 2) Cell.dead)).toNat * 2 + 1) Cell.dead) && Bool.true)) then (bif !f27_0 (intC (a0_2.getD ((intC (a1.getD (y0_0.toNat * 2) Cell.dead)).toNat * 2) Cell.dead)) (intC (a0_2.getD ((intC (a1.getD (y0_0.toNat * 2) Cell.dead)).toNat * 2 + 1) Cell.dead)) (intC (a1.getD (y0_0.toNat * 2 + 1) Cell.dead)) then (R (Ret.mk (.one (.v (.bool .false))) [])) else (k0 (IntKind.i64.wrap (y0_0 + 1)))) else False) else False))) else False) else False) else (R (Ret.mk (.one (.v (.bool (f27_0 a0_0 a0_1 (↑a1n : Int))))) []))) z) z0) (0)

set_option maxRecDepth 100000 in
theorem f22_sound (a0_0 : Int) (a0_1 : Int) (a0_2n : Nat) (a0_2 : List Cell) (a1n : Nat) (a1 : List Cell) (hC : CtxOk Try.prog cx22.q.ctx) {r : Ret} (h : f22_wp a0_0 a0_1 a0_2n a0_2 a1n a1 (fun r' => r' = r)) : SoundAt Try.prog 22 [(.agg [(.v (.int .i64 a0_0)), (.v (.int .i64 a0_1)), (.sl a0_2n a0_2)]), (.one (.sl a1n a1))] r := by
  refine soundAtO (C := cx22) (oc := .e) mixed hC F22_ok ?_
  rewrite [E22 a0_0 a0_1 a0_2n a0_2 a1n a1]
  unfold f22_wp at h
  refine loop_of (I := (fun (z : Int) => (I22_0_0 a0_0 a0_1 a0_2n a0_2 a1n a1 z))) (fun z k0 h => ?_) h rfl rfl
  obtain ⟨y0_0, rfl⟩ : ∃ y, y = z := ⟨z, rfl⟩
  dsimp only [Sum.elim_inl, Sum.elim_inr] at h
  refine bodyX_i (ob := (.two (.two (.n 15 .e) (.n 4 (.two (.n 9 .e) (.n 8 (.two .e .e))))) .e)) ?_
  rewrite [E22_0_0 a0_0 a0_1 a0_2n a0_2 a1n a1 y0_0]
  refine cond_mapE h (fun q17 h => ?_) (fun q17 h => ?_)
  · skip
    refine ck_mapE h (fun q18 h => ?_)
    refine ck_mapE h (fun q19 h => ?_)
    refine cond_mapE h (fun q20 h => ?_) (fun q20 h => ?_)
    · skip
      exact h
    · skip
      refine cond_mapE h (fun q21 h => ?_) (fun q21 h => ?_)
      · skip
        exact h
      · skip
        refine ck_mapE h (fun q22 h => ?_)
        refine ck_mapE h (fun q23 h => ?_)
        refine cond_mapE h (fun q24 h => ?_) (fun q24 h => ?_)
        · skip
          exact h
        · skip
          exact again_i (y := (IntKind.i64.wrap (y0_0 + 1))) rfl h
  · skip
    exact h


def cx23 : CtxW := ⟨⟨[(42, sum42)], []⟩, 16, []⟩


def F23_b0 : SC := (.seq (.reg [(.mk (.some (26)) (.bin .lss (.t (25)) (.t (24))) .none)]) (.seq (.cond (.t (26)) .skip (.exit (0))) (.seq (.blk 1 (.seq (.reg [(.mk (.some (27)) (.mv (.t (25))) .none), (.mk (.some (28)) (.ixS (2) (.t (23)) (.t (25))) .none), (.mk (.some (29)) (.load .true .true (2) [(.some .i64), (.some .i64)] (.t (28))) .none), (.mk (.some (6)) (.alloc [(.int .i64 (0)), (.int .i64 (0))]) .none), (.mk (.some (5)) (.mv (.t (27))) .none), (.mk .none (.store .false (2) (.t (6)) (.t (29))) .none)]) (.seq (.reg [(.mk (.some (30)) (.load .false .true (2) [(.some .i64), (.some .i64)] (.t (6))) .none), (.mk (.some (31)) (.fld (2) (.t (3))) .none), (.mk (.some (32)) (.load .false .false (1) [] (.t (31))) .none), (.mk (.some (33)) (.mv (.t (5))) .none), (.mk (.some (34)) (.ixS (2) (.t (32)) (.t (33))) .none), (.mk (.some (35)) (.load .true .true (2) [(.some .i64), (.some .i64)] (.t (34))) .none), (.mk (.some (36)) (.call .false .false (.f (42)) [(.t (30)), (.t (35))]) .none), (.mk (.some (37)) (.un .not (.t (36))) .none)]) (.cond (.t (37)) (.seq (.reg [(.mk (.some (4)) (.mv (.c (.bool .false))) .none)]) .ret) .skip)))) (.reg [(.mk (.some (38)) (.bin .add (.t (25)) (.c (.int .i64 (1)))) .none), (.mk (.some (25)) (.mv (.t (38))) .none)]))))

def F23_c1 : SC := (.seq (.reg [(.mk (.some (4)) (.mv (.c (.bool .true))) .none)]) .ret)

def F23 : SFn := ⟨39, [(.tmp (4))], (.seq (.reg [(.mk (.some (2)) (.box (.t (0))) .none), (.mk (.some (3)) (.box (.t (1))) .none), (.mk (.some (4)) (.mv (.c (.bool .false))) .none)]) (.seq (.seq (.reg [(.mk (.some (7)) (.fld (2) (.t (2))) .none), (.mk (.some (8)) (.load .false .false (1) [] (.t (7))) .none), (.mk (.some (9)) (.len (.t (8))) .none), (.mk (.some (10)) (.fld (2) (.t (3))) .none), (.mk (.some (11)) (.load .false .false (1) [] (.t (10))) .none), (.mk (.some (12)) (.len (.t (11))) .none), (.mk (.some (13)) (.bin .neq (.t (9)) (.t (12))) .none), (.mk (.some (14)) (.mv (.t (13))) .none), (.mk (.some (15)) (.fld (0) (.t (2))) (.some ((14), .false))), (.mk (.some (16)) (.load .false .true (2) [(.some .i64), (.some .i64)] (.t (15))) (.some ((14), .false))), (.mk (.some (17)) (.fld (0) (.t (3))) (.some ((14), .false))), (.mk (.some (18)) (.load .false .true (2) [(.some .i64), (.some .i64)] (.t (17))) (.some ((14), .false))), (.mk (.some (19)) (.call .false .false (.f (42)) [(.t (16)), (.t (18))]) (.some ((14), .false))), (.mk (.some (20)) (.un .not (.t (19))) (.some ((14), .false))), (.mk (.some (21)) (.pick (.t (14)) (.c (.bool .true)) (.t (20))) .none)]) (.cond (.t (21)) (.seq (.reg [(.mk (.some (4)) (.mv (.c (.bool .false))) .none)]) .ret) .skip)) (.seq (.seq (.reg [(.mk (.some (22)) (.fld (2) (.t (2))) .none), (.mk (.some (23)) (.load .false .false (1) [] (.t (22))) .none), (.mk (.some (24)) (.len (.t (23))) .none), (.mk (.some (25)) (.mv (.c (.int .i64 (0)))) .none)]) (.blk 0 (.loop [3, 23, 24, 25] [3] [] F23_b0))) F23_c1)))⟩

theorem F23_ok : sfn Try.prog hints 23 [([3, 23, 24, 25], ([3], []))] = some F23 := by kernel_rfl

def I23_0_0 (a0_0 : Int) (a0_1 : Int) (a0_2n : Nat) (a0_2 : List Cell) (a1_0 : Int) (a1_1 : Int) (a1_2n : Nat) (a1_2 : List Cell) (y0_0 : Int) : St := (.mk [.no, .no, .no, (.box (3) (0) (0)), .no, .no, .no, .no, .no, .no, .no, .no, .no, .no, .no, .no, .no, .no, .no, .no, .no, .no, .no, (.one (.sl (a0_2n) (a0_2))), (.one (.v (.int .i64 ((↑a0_2n : Int))))), (.one (.v (.int .i64 (y0_0)))), .no, .no, .no, .no, .no, .no, .no, .no, .no, .no, .no, .no, .no] [[], [], [], [[(.v (.int .i64 (a1_0))), (.v (.int .i64 (a1_1))), (.sl (a1_2n) (a1_2))]], [], [], [], [], [], [], [], [], [], [], [], [], [], [], [], [], [], [], [], [], [], [], [], [], [], [], [], [], [], [], [], [], [], [], []] [[], [], [], [], [], [], [], [], [], [], [], [], [], [], [], [], [], [], [], [], [], [], [], [], [], [], [], [], [], [], [], [], [], [], [], [], [], [], []])

theorem E23_0_0 (a0_0 : Int) (a0_1 : Int) (a0_2n : Nat) (a0_2 : List Cell) (a1_0 : Int) (a1_1 : Int) (a1_2n : Nat) (a1_2 : List Cell) (y0_0 : Int) (N0 : Bool × St → Prop) (R : Ret → Prop) : wpO cx23 F23_b0 (.two (.two .e .e) .e) (I23_0_0 a0_0 a0_1 a0_2n a0_2 a1_0 a1_1 a1_2n a1_2 y0_0) (kLp (headW cx23.m [3, 23, 24, 25] [3] []) N0 (kBlk 0 (kSeq cx23 F23_c1 (endO cx23.m F23.rs R)))) = (bif Decidable.decide (y0_0 < (↑a0_2n : Int)) then (bif Decidable.decide (0 ≤ y0_0) && Decidable.decide (y0_0 < (↑a0_2n : Int)) && Decidable.decide (y0_0.toNat * 2 < a0_2.length) then (bif Decidable.decide (y0_0.toNat * 2 + 2 ≤ a0_2.length) && (okK (Option.some IntKind.i64) (a0_2.getD (y0_0.toNat * 2) Cell.dead) && (okK (Option.some IntKind.i64) (a0_2.getD (y0_0.toNat * 2 + 1) Cell.dead) && Bool.true)) then (bif Decidable.decide (0 ≤ y0_0) && Decidable.decide (y0_0 < (↑a1_2n : Int)) && Decidable.decide (y0_0.toNat * 2 < a1_2.length) then (bif Decidable.decide (y0_0.toNat * 2 + 2 ≤ a1_2.length) && (okK (Option.some IntKind.i64) (a1_2.getD (y0_0.toNat * 2) Cell.dead) && (okK (Option.some IntKind.i64) (a1_2.getD (y0_0.toNat * 2 + 1) Cell.dead) && Bool.true)) then (bif !f42_0 (intC (a0_2.getD (y0_0.toNat * 2) Cell.dead)) (intC (a0_2.getD (y0_0.toNat * 2 + 1) Cell.dead)) (intC (a1_2.getD (y0_0.toNat * 2) Cell.dead)) (intC (a1_2.getD (y0_0.toNat * 2 + 1) Cell.dead)) then (R (Ret.mk (.one (.v (.bool .false))) [])) else (N0 (true, (I23_0_0 a0_0 a0_1 a0_2n a0_2 a1_0 a1_1 a1_2n a1_2 (IntKind.i64.wrap (y0_0 + 1)))))) else False) else False) else False) else False) else (R (Ret.mk (.one (.v (.bool .true))) []))) := by kernel_rfl

theorem E23 (a0_0 : Int) (a0_1 : Int) (a0_2n : Nat) (a0_2 : List Cell) (a1_0 : Int) (a1_1 : Int) (a1_2n : Nat) (a1_2 : List Cell) (R : Ret → Prop) : wpFO cx23 F23 (.two (.n 5 .e) (.n 4 (.two .e .e))) [(.agg [(.v (.int .i64 a0_0)), (.v (.int .i64 a0_1)), (.sl a0_2n a0_2)]), (.agg [(.v (.int .i64 a1_0)), (.v (.int .i64 a1_1)), (.sl a1_2n a1_2)])] R = (bif (↑a0_2n : Int) != (↑a1_2n : Int) then (R (Ret.mk (.one (.v (.bool .false))) [])) else (bif !f42_0 a0_0 a0_1 a1_0 a1_1 then (R (Ret.mk (.one (.v (.bool .false))) [])) else (LoopO (bodyX cx23 F23_b0) (headW cx23.m [3, 23, 24, 25] [3] []) (kBlk 0 (kSeq cx23 F23_c1 (endO cx23.m F23.rs R))) (true, (I23_0_0 a0_0 a0_1 a0_2n a0_2 a1_0 a1_1 a1_2n a1_2 (0)))))) := by kernel_rfl

def f23_wp (a0_0 : Int) (a0_1 : Int) (a0_2n : Nat) (a0_2 : List Cell) (a1_0 : Int) (a1_1 : Int) (a1_2n : Nat) (a1_2 : List Cell) (R : Ret → Prop) : Prop := bif (↑a0_2n : Int) != (↑a1_2n : Int) then (R (Ret.mk (.one (.v (.bool .false))) [])) else (bif !f42_0 a0_0 a0_1 a1_0 a1_1 then (R (Ret.mk (.one (.v (.bool .false))) [])) else (LoopP (fun (z0 : (Int)) (k0 : (Int) → Prop) => (fun (z : Int) => (fun (y0_0 : Int) => bif Decidable.decide (y0_0 < (↑a0_2n : Int)) then (bif Decidable.decide (0 ≤ y0_0) && Decidable.decide (y0_0 < (↑a0_2n : Int)) && Decidable.decide (y0_0.toNat * 2 < a0_2.length) then (bif Decidable.decide (y0_0.toNat * 2 + 2 ≤ a0_2.length) && (okK (Option.some IntKind.i64) (a0_2.getD (y0_0.toNat * 2) Cell.dead) && (okK (Option.some IntKind.i64) (a0_2.getD (y0_0.toNat * 2 + 1) Cell.dead) && Bool.true)) then (bif Decidable.decide (0 ≤ y0_0) && Decidable.decide (y0_0 < (↑a1_2n : Int)) && Decidable.decide (y0_0.toNat * 2 < a1_2.length) then (bif Decidable.decide (y0_0.toNat * 2 + 2 ≤ a1_2.length) && (okK (Option.some IntKind.i64) (a1_2.getD (y0_0.toNat * 2) Cell.dead) && (okK (Option.some IntKind.i64) (a1_2.getD (y0_0.toNat * 2 + 1) Cell.dead) && Bool.true)) then (bif !f42_0 (intC (a0_2.getD (y0_0.toNat * 2) Cell.dead)) (intC (a0_2.getD (y0_0.toNat * 2 + 1) Cell.dead)) (intC (a1_2.getD (y0_0.toNat * 2) Cell.dead)) (intC (a1_2.getD (y0_0.toNat * 2 + 1) Cell.dead)) then (R (Ret.mk (.one (.v (.bool .false))) [])) else (k0 (IntKind.i64.wrap (y0_0 + 1)))) else False) else False) else False) else False) else (R (Ret.mk (.one (.v (.bool .true))) []))) z) z0) (0)))

set_option maxRecDepth 100000 in
theorem f23_sound (a0_0 : Int) (a0_1 : Int) (a0_2n : Nat) (a0_2 : List Cell) (a1_0 : Int) (a1_1 : Int) (a1_2n : Nat) (a1_2 : List Cell) (hC : CtxOk Try.prog cx23.q.ctx) {r : Ret} (h : f23_wp a0_0 a0_1 a0_2n a0_2 a1_0 a1_1 a1_2n a1_2 (fun r' => r' = r)) : SoundAt Try.prog 23 [(.agg [(.v (.int .i64 a0_0)), (.v (.int .i64 a0_1)), (.sl a0_2n a0_2)]), (.agg [(.v (.int .i64 a1_0)), (.v (.int .i64 a1_1)), (.sl a1_2n a1_2)])] r := by
  refine soundAtO (C := cx23) (oc := (.two (.n 5 .e) (.n 4 (.two .e .e)))) mixed hC F23_ok ?_
  rewrite [E23 a0_0 a0_1 a0_2n a0_2 a1_0 a1_1 a1_2n a1_2]
  unfold f23_wp at h
  refine cond_mapE h (fun q1 h => ?_) (fun q1 h => ?_)
  · skip
    exact h
  · skip
    refine cond_mapE h (fun q2 h => ?_) (fun q2 h => ?_)
    · skip
      exact h
    · skip
      refine loop_of (I := (fun (z : Int) => (I23_0_0 a0_0 a0_1 a0_2n a0_2 a1_0 a1_1 a1_2n a1_2 z))) (fun z k0 h => ?_) h rfl rfl
      obtain ⟨y0_0, rfl⟩ : ∃ y, y = z := ⟨z, rfl⟩
      dsimp only [Sum.elim_inl, Sum.elim_inr] at h
      refine bodyX_i (ob := (.two (.two .e .e) .e)) ?_
      rewrite [E23_0_0 a0_0 a0_1 a0_2n a0_2 a1_0 a1_1 a1_2n a1_2 y0_0]
      refine cond_mapE h (fun q15 h => ?_) (fun q15 h => ?_)
      · skip
        refine ck_mapE h (fun q16 h => ?_)
        refine ck_mapE h (fun q17 h => ?_)
        refine ck_mapE h (fun q18 h => ?_)
        refine ck_mapE h (fun q19 h => ?_)
        refine cond_mapE h (fun q20 h => ?_) (fun q20 h => ?_)
        · skip
          exact h
        · skip
          exact again_i (y := (IntKind.i64.wrap (y0_0 + 1))) rfl h
      · skip
        exact h


end Go.Proofs.Ytlfojobligplkaa.Fn
