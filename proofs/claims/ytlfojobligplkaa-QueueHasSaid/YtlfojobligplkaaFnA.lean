import Derived.Test.YtlfojobligplkaaFnBase
/- The program's functions of Itvs: each returns what the evaluator finds. No conditions. -/
namespace Go.Proofs.Ytlfojobligplkaa.Fn
open Go Go.RowKit Go.Proofs Go.Proofs.Ytlfojobligplkaa.Mt
set_option linter.unusedVariables false
set_option linter.unusedSimpArgs false

/-! jetsam/itv.Empty -/
def F29 : SFn := ⟨8, [(.tmp (2))], (.seq (.reg [(.mk (.some (1)) (.box (.t (0))) .none), (.mk (.some (2)) (.mv (.c (.bool Bool.false))) .none)]) (.seq (.reg [(.mk (.some (3)) (.fld (0) (.t (1))) .none), (.mk (.some (4)) (.load .false .false (1) [(.some .i64)] (.t (3))) .none), (.mk (.some (5)) (.fld (1) (.t (1))) .none), (.mk (.some (6)) (.load .false .false (1) [(.some .i64)] (.t (5))) .none), (.mk (.some (7)) (.bin .gtr (.t (4)) (.t (6))) .none), (.mk (.some (2)) (.mv (.t (7))) .none)]) .ret))⟩

theorem F29_ok : sfn Try.prog hints 29 [] = some F29 := by kernel_rfl

def f29_0 (a0_0 : Int) (a0_1 : Int) : Bool := (Decidable.decide (a0_0 > a0_1))

theorem f29_sound (a0_0 : Int) (a0_1 : Int) : SoundAt Try.prog 29 [(.agg [(.v (.int Go.IntKind.i64 (a0_0))), (.v (.int Go.IntKind.i64 (a0_1)))])] (Ret.mk (.one (.v (.bool (f29_0 a0_0 a0_1)))) []) := by
  refine soundAt mixed Go.Proofs.Ytlfojobligplkaa.Fn.ctx0_ok F29_ok ?_
  generalize hR : (fun r' : Ret => r' = (Ret.mk (.one (.v (.bool (f29_0 a0_0 a0_1)))) [])) = R
  refine (show wpF Go.Proofs.Ytlfojobligplkaa.Fn.ctx0 F29 [(.agg [(.v (.int Go.IntKind.i64 (a0_0))), (.v (.int Go.IntKind.i64 (a0_1)))])] R = (R (Ret.mk (.one (.v (.bool (Decidable.decide (a0_0 > a0_1))))) [])) by kernel_rfl).mpr ?_
  subst hR
  unfold f29_0
  rfl


def sum29 : List CV → Option (Bool × Ret)
  | [v0] => some (okA [some .i64, some .i64] v0, (Ret.mk (.one (.v (.bool (f29_0 (intC (cellA v0 0)) (intC (cellA v0 1)))))) []))
  | _ => none

theorem sum29_ok : ∀ vs r, sum29 vs = some (true, r) → SoundAt Try.prog 29 vs r := by
  intro vs r h
  unfold sum29 at h
  split at h
  · simp only [Option.some.injEq, Prod.mk.injEq, Bool.and_eq_true, true_and] at h
    obtain ⟨h0, rfl⟩ := h
    rename_i v0
    refine okA_elim h0 (motive := fun v => SoundAt Try.prog 29 [v] _) ?_
    exact f29_sound _ _
  · cases h

def ctx29 : CtxQ := { Go.Proofs.Ytlfojobligplkaa.Fn.ctx0 with calls := (29, sum29) :: Go.Proofs.Ytlfojobligplkaa.Fn.ctx0.calls }

theorem ctx29_ok : CtxOk Try.prog ctx29.ctx := ctx_cons Go.Proofs.Ytlfojobligplkaa.Fn.ctx0_ok (by kernel_rfl) sum29_ok

/-! jetsam/itv.None -/
def F43 : SFn := ⟨2, [(.cell (0) .true (2))], (.seq (.reg [(.mk (.some (0)) (.alloc [(.int Go.IntKind.i64 (Int.ofNat 0)), (.int Go.IntKind.i64 (Int.ofNat 0))]) .none)]) (.seq (.reg [(.mk (.some (1)) (.build [(.int Go.IntKind.i64 (Int.ofNat 0)), (.int Go.IntKind.i64 (Int.ofNat 0))] [(.mk (0) (.mk (1) (.c (.int Go.IntKind.i64 (Int.ofNat 1))))), (.mk (1) (.mk (1) (.c (.int Go.IntKind.i64 (Int.ofNat 0)))))]) .none), (.mk .none (.store .false (2) (.t (0)) (.t (1))) .none)]) .ret))⟩

theorem F43_ok : sfn Try.prog hints 43 [] = some F43 := by kernel_rfl

def f43_0  : Int := (Int.ofNat 1 : Int)

def f43_1  : Int := (Int.ofNat 0 : Int)

theorem f43_sound  : SoundAt Try.prog 43 [] (Ret.mk (.agg [(.v (.int Go.IntKind.i64 (f43_0 ))), (.v (.int Go.IntKind.i64 (f43_1 )))]) []) := by
  refine soundAt mixed Go.Proofs.Ytlfojobligplkaa.Fn.ctx29_ok F43_ok ?_
  generalize hR : (fun r' : Ret => r' = (Ret.mk (.agg [(.v (.int Go.IntKind.i64 (f43_0 ))), (.v (.int Go.IntKind.i64 (f43_1 )))]) [])) = R
  refine (show wpF Go.Proofs.Ytlfojobligplkaa.Fn.ctx29 F43 [] R = (R (Ret.mk (.agg [(.v (.int Go.IntKind.i64 (Int.ofNat 1))), (.v (.int Go.IntKind.i64 (Int.ofNat 0)))]) [])) by kernel_rfl).mpr ?_
  subst hR
  unfold f43_0
  unfold f43_1
  rfl


def sum43 : List CV → Option (Bool × Ret)
  | [] => some (true, (Ret.mk (.agg [(.v (.int Go.IntKind.i64 (f43_0 ))), (.v (.int Go.IntKind.i64 (f43_1 )))]) []))
  | _ => none

theorem sum43_ok : ∀ vs r, sum43 vs = some (true, r) → SoundAt Try.prog 43 vs r := by
  intro vs r h
  unfold sum43 at h
  split at h
  · simp only [Option.some.injEq, Prod.mk.injEq, Bool.and_eq_true, true_and] at h
    subst h
    exact f43_sound
  · cases h

def ctx43 : CtxQ := { Go.Proofs.Ytlfojobligplkaa.Fn.ctx29 with calls := (43, sum43) :: Go.Proofs.Ytlfojobligplkaa.Fn.ctx29.calls }

theorem ctx43_ok : CtxOk Try.prog ctx43.ctx := ctx_cons Go.Proofs.Ytlfojobligplkaa.Fn.ctx29_ok (by kernel_rfl) sum43_ok

/-! jetsam/itv.norm -/
def F60 : SFn := ⟨7, [(.cell (2) .true (2))], (.seq (.reg [(.mk (.some (1)) (.box (.t (0))) .none), (.mk (.some (2)) (.alloc [(.int Go.IntKind.i64 (Int.ofNat 0)), (.int Go.IntKind.i64 (Int.ofNat 0))]) .none)]) (.seq (.seq (.reg [(.mk (.some (3)) (.load .false .true (2) [(.some .i64), (.some .i64)] (.t (1))) .none), (.mk (.some (4)) (.call .false .false (.f (29)) [(.t (3))]) .none)]) (.cond (.t (4)) (.seq (.reg [(.mk (.some (5)) (.call .false .false (.f (43)) []) .none), (.mk .none (.store .false (2) (.t (2)) (.t (5))) .none)]) .ret) .skip)) (.seq (.reg [(.mk (.some (6)) (.load .false .true (2) [(.some .i64), (.some .i64)] (.t (1))) .none), (.mk .none (.store .false (2) (.t (2)) (.t (6))) .none)]) .ret)))⟩

theorem F60_ok : sfn Try.prog hints 60 [] = some F60 := by kernel_rfl

def f60_0 (a0_0 : Int) (a0_1 : Int) : Int := bif Decidable.decide (a0_0 > a0_1) then (Go.Proofs.Ytlfojobligplkaa.Fn.f43_0 : Int) else ((a0_0 : Int))

def f60_1 (a0_0 : Int) (a0_1 : Int) : Int := bif Decidable.decide (a0_0 > a0_1) then (Go.Proofs.Ytlfojobligplkaa.Fn.f43_1 : Int) else ((a0_1 : Int))

theorem f60_sound (a0_0 : Int) (a0_1 : Int) : SoundAt Try.prog 60 [(.agg [(.v (.int Go.IntKind.i64 (a0_0))), (.v (.int Go.IntKind.i64 (a0_1)))])] (Ret.mk (.agg [(.v (.int Go.IntKind.i64 (f60_0 a0_0 a0_1))), (.v (.int Go.IntKind.i64 (f60_1 a0_0 a0_1)))]) []) := by
  refine soundAt mixed Go.Proofs.Ytlfojobligplkaa.Fn.ctx43_ok F60_ok ?_
  generalize hR : (fun r' : Ret => r' = (Ret.mk (.agg [(.v (.int Go.IntKind.i64 (f60_0 a0_0 a0_1))), (.v (.int Go.IntKind.i64 (f60_1 a0_0 a0_1)))]) [])) = R
  refine (show wpF Go.Proofs.Ytlfojobligplkaa.Fn.ctx43 F60 [(.agg [(.v (.int Go.IntKind.i64 (a0_0))), (.v (.int Go.IntKind.i64 (a0_1)))])] R = (bif Decidable.decide (a0_0 > a0_1) then (R (Ret.mk (.agg [(.v (.int Go.IntKind.i64 (Go.Proofs.Ytlfojobligplkaa.Fn.f43_0))), (.v (.int Go.IntKind.i64 (Go.Proofs.Ytlfojobligplkaa.Fn.f43_1)))]) [])) else (R (Ret.mk (.agg [(.v (.int Go.IntKind.i64 (a0_0))), (.v (.int Go.IntKind.i64 (a0_1)))]) []))) by kernel_rfl).mpr ?_
  subst hR
  unfold f60_0
  unfold f60_1
  refine cond_i (fun q => ?_) (fun q => ?_)
  · (try rewrite [q])
    rfl
  · (try rewrite [q])
    rfl


def sum60 : List CV → Option (Bool × Ret)
  | [v0] => some (okA [some .i64, some .i64] v0, (Ret.mk (.agg [(.v (.int Go.IntKind.i64 (f60_0 (intC (cellA v0 0)) (intC (cellA v0 1))))), (.v (.int Go.IntKind.i64 (f60_1 (intC (cellA v0 0)) (intC (cellA v0 1)))))]) []))
  | _ => none

theorem sum60_ok : ∀ vs r, sum60 vs = some (true, r) → SoundAt Try.prog 60 vs r := by
  intro vs r h
  unfold sum60 at h
  split at h
  · simp only [Option.some.injEq, Prod.mk.injEq, Bool.and_eq_true, true_and] at h
    obtain ⟨h0, rfl⟩ := h
    rename_i v0
    refine okA_elim h0 (motive := fun v => SoundAt Try.prog 60 [v] _) ?_
    exact f60_sound _ _
  · cases h

def ctx60 : CtxQ := { Go.Proofs.Ytlfojobligplkaa.Fn.ctx43 with calls := (60, sum60) :: Go.Proofs.Ytlfojobligplkaa.Fn.ctx43.calls }

theorem ctx60_ok : CtxOk Try.prog ctx60.ctx := ctx_cons Go.Proofs.Ytlfojobligplkaa.Fn.ctx43_ok (by kernel_rfl) sum60_ok

/-! jetsam/itv.Of -/
def F24 : SFn := ⟨11, [(.cell (4) .true (2))], (.seq (.reg [(.mk (.some (4)) (.alloc [(.int Go.IntKind.i64 (Int.ofNat 0)), (.int Go.IntKind.i64 (Int.ofNat 0))]) .none)]) (.seq (.reg [(.mk (.some (5)) (.mv (.t (0))) .none), (.mk (.some (6)) (.mm .true [(.t (5)), (.c (.int Go.IntKind.i64 (Int.negSucc 2147483647)))]) .none), (.mk (.some (7)) (.mv (.t (1))) .none), (.mk (.some (8)) (.mm .false [(.t (7)), (.c (.int Go.IntKind.i64 (Int.ofNat 2147483647)))]) .none), (.mk (.some (9)) (.build [(.int Go.IntKind.i64 (Int.ofNat 0)), (.int Go.IntKind.i64 (Int.ofNat 0))] [(.mk (0) (.mk (1) (.t (6)))), (.mk (1) (.mk (1) (.t (8))))]) .none), (.mk (.some (10)) (.call .false .false (.f (60)) [(.t (9))]) .none), (.mk .none (.store .false (2) (.t (4)) (.t (10))) .none)]) .ret))⟩

theorem F24_ok : sfn Try.prog hints 24 [] = some F24 := by kernel_rfl

def f24_0 (a0 : Int) (a1 : Int) : Int := (Go.Proofs.Ytlfojobligplkaa.Fn.f60_0 (if Int.negSucc 2147483647 > a0 then Int.negSucc 2147483647 else a0) (if Int.ofNat 2147483647 < a1 then Int.ofNat 2147483647 else a1) : Int)

def f24_1 (a0 : Int) (a1 : Int) : Int := (Go.Proofs.Ytlfojobligplkaa.Fn.f60_1 (if Int.negSucc 2147483647 > a0 then Int.negSucc 2147483647 else a0) (if Int.ofNat 2147483647 < a1 then Int.ofNat 2147483647 else a1) : Int)

theorem f24_sound (a0 : Int) (a1 : Int) : SoundAt Try.prog 24 [(.one (.v (.int Go.IntKind.i64 (a0)))), (.one (.v (.int Go.IntKind.i64 (a1))))] (Ret.mk (.agg [(.v (.int Go.IntKind.i64 (f24_0 a0 a1))), (.v (.int Go.IntKind.i64 (f24_1 a0 a1)))]) []) := by
  refine soundAt mixed Go.Proofs.Ytlfojobligplkaa.Fn.ctx60_ok F24_ok ?_
  generalize hR : (fun r' : Ret => r' = (Ret.mk (.agg [(.v (.int Go.IntKind.i64 (f24_0 a0 a1))), (.v (.int Go.IntKind.i64 (f24_1 a0 a1)))]) [])) = R
  refine (show wpF Go.Proofs.Ytlfojobligplkaa.Fn.ctx60 F24 [(.one (.v (.int Go.IntKind.i64 (a0)))), (.one (.v (.int Go.IntKind.i64 (a1))))] R = (R (Ret.mk (.agg [(.v (.int Go.IntKind.i64 (Go.Proofs.Ytlfojobligplkaa.Fn.f60_0 (if Int.negSucc 2147483647 > a0 then Int.negSucc 2147483647 else a0) (if Int.ofNat 2147483647 < a1 then Int.ofNat 2147483647 else a1)))), (.v (.int Go.IntKind.i64 (Go.Proofs.Ytlfojobligplkaa.Fn.f60_1 (if Int.negSucc 2147483647 > a0 then Int.negSucc 2147483647 else a0) (if Int.ofNat 2147483647 < a1 then Int.ofNat 2147483647 else a1))))]) [])) by kernel_rfl).mpr ?_
  subst hR
  unfold f24_0
  unfold f24_1
  rfl


def sum24 : List CV → Option (Bool × Ret)
  | [v0, v1] => some (okO (some .i64) v0 && okO (some .i64) v1, (Ret.mk (.agg [(.v (.int Go.IntKind.i64 (f24_0 (intC (cellA v0 0)) (intC (cellA v1 0))))), (.v (.int Go.IntKind.i64 (f24_1 (intC (cellA v0 0)) (intC (cellA v1 0)))))]) []))
  | _ => none

theorem sum24_ok : ∀ vs r, sum24 vs = some (true, r) → SoundAt Try.prog 24 vs r := by
  intro vs r h
  unfold sum24 at h
  split at h
  · simp only [Option.some.injEq, Prod.mk.injEq, Bool.and_eq_true, true_and] at h
    obtain ⟨⟨h0, h1⟩, rfl⟩ := h
    rename_i v0 v1
    refine okO_elim h0 (motive := fun v => SoundAt Try.prog 24 [v, v1] _) ?_
    refine okO_elim h1 (motive := fun v => SoundAt Try.prog 24 [_, v] _) ?_
    exact f24_sound _ _
  · cases h

def ctx24 : CtxQ := { Go.Proofs.Ytlfojobligplkaa.Fn.ctx60 with calls := (24, sum24) :: Go.Proofs.Ytlfojobligplkaa.Fn.ctx60.calls }

theorem ctx24_ok : CtxOk Try.prog ctx24.ctx := ctx_cons Go.Proofs.Ytlfojobligplkaa.Fn.ctx60_ok (by kernel_rfl) sum24_ok

/-! jetsam/itv.Meet -/
def F40 : SFn := ⟨24, [(.cell (4) .true (2))], (.seq (.reg [(.mk (.some (2)) (.box (.t (0))) .none), (.mk (.some (3)) (.box (.t (1))) .none), (.mk (.some (4)) (.alloc [(.int Go.IntKind.i64 (Int.ofNat 0)), (.int Go.IntKind.i64 (Int.ofNat 0))]) .none)]) (.seq (.seq (.reg [(.mk (.some (5)) (.load .false .true (2) [(.some .i64), (.some .i64)] (.t (2))) .none), (.mk (.some (6)) (.call .false .false (.f (29)) [(.t (5))]) .none), (.mk (.some (7)) (.mv (.t (6))) .none), (.mk (.some (8)) (.load .false .true (2) [(.some .i64), (.some .i64)] (.t (3))) (.some (.mk (7) .false))), (.mk (.some (9)) (.call .false .false (.f (29)) [(.t (8))]) (.some (.mk (7) .false))), (.mk (.some (10)) (.pick (.t (7)) (.c (.bool Bool.true)) (.t (9))) .none)]) (.cond (.t (10)) (.seq (.reg [(.mk (.some (11)) (.call .false .false (.f (43)) []) .none), (.mk .none (.store .false (2) (.t (4)) (.t (11))) .none)]) .ret) .skip)) (.seq (.reg [(.mk (.some (12)) (.fld (0) (.t (2))) .none), (.mk (.some (13)) (.load .false .false (1) [(.some .i64)] (.t (12))) .none), (.mk (.some (14)) (.fld (0) (.t (3))) .none), (.mk (.some (15)) (.load .false .false (1) [(.some .i64)] (.t (14))) .none), (.mk (.some (16)) (.mm .true [(.t (13)), (.t (15))]) .none), (.mk (.some (17)) (.fld (1) (.t (2))) .none), (.mk (.some (18)) (.load .false .false (1) [(.some .i64)] (.t (17))) .none), (.mk (.some (19)) (.fld (1) (.t (3))) .none), (.mk (.some (20)) (.load .false .false (1) [(.some .i64)] (.t (19))) .none), (.mk (.some (21)) (.mm .false [(.t (18)), (.t (20))]) .none), (.mk (.some (22)) (.build [(.int Go.IntKind.i64 (Int.ofNat 0)), (.int Go.IntKind.i64 (Int.ofNat 0))] [(.mk (0) (.mk (1) (.t (16)))), (.mk (1) (.mk (1) (.t (21))))]) .none), (.mk (.some (23)) (.call .false .false (.f (60)) [(.t (22))]) .none), (.mk .none (.store .false (2) (.t (4)) (.t (23))) .none)]) .ret)))⟩

theorem F40_ok : sfn Try.prog hints 40 [] = some F40 := by kernel_rfl

def f40_0 (a0_0 : Int) (a0_1 : Int) (a1_0 : Int) (a1_1 : Int) : Int := bif Decidable.decide (a0_0 > a0_1) then (Go.Proofs.Ytlfojobligplkaa.Fn.f43_0 : Int) else (bif Decidable.decide (a1_0 > a1_1) then (Go.Proofs.Ytlfojobligplkaa.Fn.f43_0 : Int) else ((Go.Proofs.Ytlfojobligplkaa.Fn.f60_0 (if a1_0 > a0_0 then a1_0 else a0_0) (if a1_1 < a0_1 then a1_1 else a0_1) : Int)))

def f40_1 (a0_0 : Int) (a0_1 : Int) (a1_0 : Int) (a1_1 : Int) : Int := bif Decidable.decide (a0_0 > a0_1) then (Go.Proofs.Ytlfojobligplkaa.Fn.f43_1 : Int) else (bif Decidable.decide (a1_0 > a1_1) then (Go.Proofs.Ytlfojobligplkaa.Fn.f43_1 : Int) else ((Go.Proofs.Ytlfojobligplkaa.Fn.f60_1 (if a1_0 > a0_0 then a1_0 else a0_0) (if a1_1 < a0_1 then a1_1 else a0_1) : Int)))

theorem f40_sound (a0_0 : Int) (a0_1 : Int) (a1_0 : Int) (a1_1 : Int) : SoundAt Try.prog 40 [(.agg [(.v (.int Go.IntKind.i64 (a0_0))), (.v (.int Go.IntKind.i64 (a0_1)))]), (.agg [(.v (.int Go.IntKind.i64 (a1_0))), (.v (.int Go.IntKind.i64 (a1_1)))])] (Ret.mk (.agg [(.v (.int Go.IntKind.i64 (f40_0 a0_0 a0_1 a1_0 a1_1))), (.v (.int Go.IntKind.i64 (f40_1 a0_0 a0_1 a1_0 a1_1)))]) []) := by
  refine soundAt mixed Go.Proofs.Ytlfojobligplkaa.Fn.ctx24_ok F40_ok ?_
  generalize hR : (fun r' : Ret => r' = (Ret.mk (.agg [(.v (.int Go.IntKind.i64 (f40_0 a0_0 a0_1 a1_0 a1_1))), (.v (.int Go.IntKind.i64 (f40_1 a0_0 a0_1 a1_0 a1_1)))]) [])) = R
  refine (show wpF Go.Proofs.Ytlfojobligplkaa.Fn.ctx24 F40 [(.agg [(.v (.int Go.IntKind.i64 (a0_0))), (.v (.int Go.IntKind.i64 (a0_1)))]), (.agg [(.v (.int Go.IntKind.i64 (a1_0))), (.v (.int Go.IntKind.i64 (a1_1)))])] R = (bif Decidable.decide (a0_0 > a0_1) then (R (Ret.mk (.agg [(.v (.int Go.IntKind.i64 (Go.Proofs.Ytlfojobligplkaa.Fn.f43_0))), (.v (.int Go.IntKind.i64 (Go.Proofs.Ytlfojobligplkaa.Fn.f43_1)))]) [])) else (bif Decidable.decide (a1_0 > a1_1) then (R (Ret.mk (.agg [(.v (.int Go.IntKind.i64 (Go.Proofs.Ytlfojobligplkaa.Fn.f43_0))), (.v (.int Go.IntKind.i64 (Go.Proofs.Ytlfojobligplkaa.Fn.f43_1)))]) [])) else (R (Ret.mk (.agg [(.v (.int Go.IntKind.i64 (Go.Proofs.Ytlfojobligplkaa.Fn.f60_0 (if a1_0 > a0_0 then a1_0 else a0_0) (if a1_1 < a0_1 then a1_1 else a0_1)))), (.v (.int Go.IntKind.i64 (Go.Proofs.Ytlfojobligplkaa.Fn.f60_1 (if a1_0 > a0_0 then a1_0 else a0_0) (if a1_1 < a0_1 then a1_1 else a0_1))))]) [])))) by kernel_rfl).mpr ?_
  subst hR
  unfold f40_0
  unfold f40_1
  refine cond_i (fun q => ?_) (fun q => ?_)
  · (try rewrite [q])
    rfl
  · (try rewrite [q])
    refine cond_i (fun q => ?_) (fun q => ?_)
    · (try rewrite [q])
      rfl
    · (try rewrite [q])
      rfl


def sum40 : List CV → Option (Bool × Ret)
  | [v0, v1] => some (okA [some .i64, some .i64] v0 && okA [some .i64, some .i64] v1, (Ret.mk (.agg [(.v (.int Go.IntKind.i64 (f40_0 (intC (cellA v0 0)) (intC (cellA v0 1)) (intC (cellA v1 0)) (intC (cellA v1 1))))), (.v (.int Go.IntKind.i64 (f40_1 (intC (cellA v0 0)) (intC (cellA v0 1)) (intC (cellA v1 0)) (intC (cellA v1 1)))))]) []))
  | _ => none

theorem sum40_ok : ∀ vs r, sum40 vs = some (true, r) → SoundAt Try.prog 40 vs r := by
  intro vs r h
  unfold sum40 at h
  split at h
  · simp only [Option.some.injEq, Prod.mk.injEq, Bool.and_eq_true, true_and] at h
    obtain ⟨⟨h0, h1⟩, rfl⟩ := h
    rename_i v0 v1
    refine okA_elim h0 (motive := fun v => SoundAt Try.prog 40 [v, v1] _) ?_
    refine okA_elim h1 (motive := fun v => SoundAt Try.prog 40 [_, v] _) ?_
    exact f40_sound _ _ _ _
  · cases h

def ctx40 : CtxQ := { Go.Proofs.Ytlfojobligplkaa.Fn.ctx24 with calls := (40, sum40) :: Go.Proofs.Ytlfojobligplkaa.Fn.ctx24.calls }

theorem ctx40_ok : CtxOk Try.prog ctx40.ctx := ctx_cons Go.Proofs.Ytlfojobligplkaa.Fn.ctx24_ok (by kernel_rfl) sum40_ok

/-! jetsam/itv.All -/
def F61 : SFn := ⟨2, [(.cell (0) .true (2))], (.seq (.reg [(.mk (.some (0)) (.alloc [(.int Go.IntKind.i64 (Int.ofNat 0)), (.int Go.IntKind.i64 (Int.ofNat 0))]) .none)]) (.seq (.reg [(.mk (.some (1)) (.build [(.int Go.IntKind.i64 (Int.ofNat 0)), (.int Go.IntKind.i64 (Int.ofNat 0))] [(.mk (0) (.mk (1) (.c (.int Go.IntKind.i64 (Int.negSucc 2147483647))))), (.mk (1) (.mk (1) (.c (.int Go.IntKind.i64 (Int.ofNat 2147483647)))))]) .none), (.mk .none (.store .false (2) (.t (0)) (.t (1))) .none)]) .ret))⟩

theorem F61_ok : sfn Try.prog hints 61 [] = some F61 := by kernel_rfl

def f61_0  : Int := (Int.negSucc 2147483647 : Int)

def f61_1  : Int := (Int.ofNat 2147483647 : Int)

theorem f61_sound  : SoundAt Try.prog 61 [] (Ret.mk (.agg [(.v (.int Go.IntKind.i64 (f61_0 ))), (.v (.int Go.IntKind.i64 (f61_1 )))]) []) := by
  refine soundAt mixed Go.Proofs.Ytlfojobligplkaa.Fn.ctx40_ok F61_ok ?_
  generalize hR : (fun r' : Ret => r' = (Ret.mk (.agg [(.v (.int Go.IntKind.i64 (f61_0 ))), (.v (.int Go.IntKind.i64 (f61_1 )))]) [])) = R
  refine (show wpF Go.Proofs.Ytlfojobligplkaa.Fn.ctx40 F61 [] R = (R (Ret.mk (.agg [(.v (.int Go.IntKind.i64 (Int.negSucc 2147483647))), (.v (.int Go.IntKind.i64 (Int.ofNat 2147483647)))]) [])) by kernel_rfl).mpr ?_
  subst hR
  unfold f61_0
  unfold f61_1
  rfl


def sum61 : List CV → Option (Bool × Ret)
  | [] => some (true, (Ret.mk (.agg [(.v (.int Go.IntKind.i64 (f61_0 ))), (.v (.int Go.IntKind.i64 (f61_1 )))]) []))
  | _ => none

theorem sum61_ok : ∀ vs r, sum61 vs = some (true, r) → SoundAt Try.prog 61 vs r := by
  intro vs r h
  unfold sum61 at h
  split at h
  · simp only [Option.some.injEq, Prod.mk.injEq, Bool.and_eq_true, true_and] at h
    subst h
    exact f61_sound
  · cases h

def ctx61 : CtxQ := { Go.Proofs.Ytlfojobligplkaa.Fn.ctx40 with calls := (61, sum61) :: Go.Proofs.Ytlfojobligplkaa.Fn.ctx40.calls }

theorem ctx61_ok : CtxOk Try.prog ctx61.ctx := ctx_cons Go.Proofs.Ytlfojobligplkaa.Fn.ctx40_ok (by kernel_rfl) sum61_ok

/-! jetsam/itv.cut -/
def F62 : SFn := ⟨16, [(.cell (4) .true (2)), (.cell (5) .true (2))], (.seq (.reg [(.mk (.some (4)) (.alloc [(.int Go.IntKind.i64 (Int.ofNat 0)), (.int Go.IntKind.i64 (Int.ofNat 0))]) .none), (.mk (.some (5)) (.alloc [(.bool Bool.false), (.bool Bool.false)]) .none)]) (.seq (.reg [(.mk (.some (6)) (.mv (.t (0))) .none), (.mk (.some (7)) (.mv (.t (1))) .none), (.mk (.some (8)) (.call .false .false (.f (24)) [(.t (6)), (.t (7))]) .none), (.mk (.some (9)) (.mv (.t (0))) .none), (.mk (.some (10)) (.bin .lss (.t (9)) (.c (.int Go.IntKind.i64 (Int.negSucc 2147483647)))) .none), (.mk (.some (11)) (.mv (.t (10))) .none), (.mk (.some (12)) (.mv (.t (1))) (.some (.mk (11) .false))), (.mk (.some (13)) (.bin .gtr (.t (12)) (.c (.int Go.IntKind.i64 (Int.ofNat 2147483647)))) (.some (.mk (11) .false))), (.mk (.some (14)) (.pick (.t (11)) (.c (.bool Bool.true)) (.t (13))) .none), (.mk (.some (15)) (.build [(.bool Bool.false), (.bool Bool.false)] [(.mk (0) (.mk (1) (.t (14))))]) .none), (.mk .none (.store .false (2) (.t (4)) (.t (8))) .none), (.mk .none (.store .false (2) (.t (5)) (.t (15))) .none)]) .ret))⟩

theorem F62_ok : sfn Try.prog hints 62 [] = some F62 := by kernel_rfl

def f62_0 (a0 : Int) (a1 : Int) : Int := bif Decidable.decide (a0 < Int.negSucc 2147483647) then (Go.Proofs.Ytlfojobligplkaa.Fn.f24_0 a0 a1 : Int) else ((Go.Proofs.Ytlfojobligplkaa.Fn.f24_0 a0 a1 : Int))

def f62_1 (a0 : Int) (a1 : Int) : Int := bif Decidable.decide (a0 < Int.negSucc 2147483647) then (Go.Proofs.Ytlfojobligplkaa.Fn.f24_1 a0 a1 : Int) else ((Go.Proofs.Ytlfojobligplkaa.Fn.f24_1 a0 a1 : Int))

def f62_2 (a0 : Int) (a1 : Int) : Bool := bif Decidable.decide (a0 < Int.negSucc 2147483647) then (Bool.true) else ((Decidable.decide (a1 > Int.ofNat 2147483647)))

def f62_3 (a0 : Int) (a1 : Int) : Bool := bif Decidable.decide (a0 < Int.negSucc 2147483647) then (Bool.false) else ((Bool.false))

theorem f62_sound (a0 : Int) (a1 : Int) : SoundAt Try.prog 62 [(.one (.v (.int Go.IntKind.i64 (a0)))), (.one (.v (.int Go.IntKind.i64 (a1))))] (Ret.mk (.tup [(.agg [(.v (.int Go.IntKind.i64 (f62_0 a0 a1))), (.v (.int Go.IntKind.i64 (f62_1 a0 a1)))]), (.agg [(.v (.bool (f62_2 a0 a1))), (.v (.bool (f62_3 a0 a1)))])]) []) := by
  refine soundAt mixed Go.Proofs.Ytlfojobligplkaa.Fn.ctx61_ok F62_ok ?_
  generalize hR : (fun r' : Ret => r' = (Ret.mk (.tup [(.agg [(.v (.int Go.IntKind.i64 (f62_0 a0 a1))), (.v (.int Go.IntKind.i64 (f62_1 a0 a1)))]), (.agg [(.v (.bool (f62_2 a0 a1))), (.v (.bool (f62_3 a0 a1)))])]) [])) = R
  refine (show wpF Go.Proofs.Ytlfojobligplkaa.Fn.ctx61 F62 [(.one (.v (.int Go.IntKind.i64 (a0)))), (.one (.v (.int Go.IntKind.i64 (a1))))] R = (bif Decidable.decide (a0 < Int.negSucc 2147483647) then (R (Ret.mk (.tup [(.agg [(.v (.int Go.IntKind.i64 (Go.Proofs.Ytlfojobligplkaa.Fn.f24_0 a0 a1))), (.v (.int Go.IntKind.i64 (Go.Proofs.Ytlfojobligplkaa.Fn.f24_1 a0 a1)))]), (.agg [(.v (.bool (Bool.true))), (.v (.bool (Bool.false)))])]) [])) else (R (Ret.mk (.tup [(.agg [(.v (.int Go.IntKind.i64 (Go.Proofs.Ytlfojobligplkaa.Fn.f24_0 a0 a1))), (.v (.int Go.IntKind.i64 (Go.Proofs.Ytlfojobligplkaa.Fn.f24_1 a0 a1)))]), (.agg [(.v (.bool (Decidable.decide (a1 > Int.ofNat 2147483647)))), (.v (.bool (Bool.false)))])]) []))) by kernel_rfl).mpr ?_
  subst hR
  unfold f62_0
  unfold f62_1
  unfold f62_2
  unfold f62_3
  refine cond_i (fun q => ?_) (fun q => ?_)
  · (try rewrite [q])
    rfl
  · (try rewrite [q])
    rfl


def sum62 : List CV → Option (Bool × Ret)
  | [v0, v1] => some (okO (some .i64) v0 && okO (some .i64) v1, (Ret.mk (.tup [(.agg [(.v (.int Go.IntKind.i64 (f62_0 (intC (cellA v0 0)) (intC (cellA v1 0))))), (.v (.int Go.IntKind.i64 (f62_1 (intC (cellA v0 0)) (intC (cellA v1 0)))))]), (.agg [(.v (.bool (f62_2 (intC (cellA v0 0)) (intC (cellA v1 0))))), (.v (.bool (f62_3 (intC (cellA v0 0)) (intC (cellA v1 0)))))])]) []))
  | _ => none

theorem sum62_ok : ∀ vs r, sum62 vs = some (true, r) → SoundAt Try.prog 62 vs r := by
  intro vs r h
  unfold sum62 at h
  split at h
  · simp only [Option.some.injEq, Prod.mk.injEq, Bool.and_eq_true, true_and] at h
    obtain ⟨⟨h0, h1⟩, rfl⟩ := h
    rename_i v0 v1
    refine okO_elim h0 (motive := fun v => SoundAt Try.prog 62 [v, v1] _) ?_
    refine okO_elim h1 (motive := fun v => SoundAt Try.prog 62 [_, v] _) ?_
    exact f62_sound _ _
  · cases h

def ctx62 : CtxQ := { Go.Proofs.Ytlfojobligplkaa.Fn.ctx61 with calls := (62, sum62) :: Go.Proofs.Ytlfojobligplkaa.Fn.ctx61.calls }

theorem ctx62_ok : CtxOk Try.prog ctx62.ctx := ctx_cons Go.Proofs.Ytlfojobligplkaa.Fn.ctx61_ok (by kernel_rfl) sum62_ok

/-! jetsam/itv.Do$1 -/
def F64 : SFn := ⟨8, [(.tmp (4))], (.seq (.reg [(.mk (.some (4)) (.mv (.c (.int Go.IntKind.i64 (Int.ofNat 0)))) .none)]) (.seq (.reg [(.mk (.some (5)) (.mv (.t (0))) .none), (.mk (.some (6)) (.mv (.t (1))) .none), (.mk (.some (7)) (.bin .mul (.t (5)) (.t (6))) .none), (.mk (.some (4)) (.mv (.t (7))) .none)]) .ret))⟩

theorem F64_ok : sfn Try.prog hints 64 [] = some F64 := by kernel_rfl

def f64_0 (a0 : Int) (a1 : Int) : Int := (Go.IntKind.i64.wrap (a0 * a1) : Int)

theorem f64_sound (a0 : Int) (a1 : Int) : SoundAt Try.prog 64 [(.one (.v (.int Go.IntKind.i64 (a0)))), (.one (.v (.int Go.IntKind.i64 (a1))))] (Ret.mk (.one (.v (.int Go.IntKind.i64 (f64_0 a0 a1)))) []) := by
  refine soundAt mixed Go.Proofs.Ytlfojobligplkaa.Fn.ctx62_ok F64_ok ?_
  generalize hR : (fun r' : Ret => r' = (Ret.mk (.one (.v (.int Go.IntKind.i64 (f64_0 a0 a1)))) [])) = R
  refine (show wpF Go.Proofs.Ytlfojobligplkaa.Fn.ctx62 F64 [(.one (.v (.int Go.IntKind.i64 (a0)))), (.one (.v (.int Go.IntKind.i64 (a1))))] R = (R (Ret.mk (.one (.v (.int Go.IntKind.i64 (Go.IntKind.i64.wrap (a0 * a1))))) [])) by kernel_rfl).mpr ?_
  subst hR
  unfold f64_0
  rfl


def sum64 : List CV → Option (Bool × Ret)
  | [v0, v1] => some (okO (some .i64) v0 && okO (some .i64) v1, (Ret.mk (.one (.v (.int Go.IntKind.i64 (f64_0 (intC (cellA v0 0)) (intC (cellA v1 0)))))) []))
  | _ => none

theorem sum64_ok : ∀ vs r, sum64 vs = some (true, r) → SoundAt Try.prog 64 vs r := by
  intro vs r h
  unfold sum64 at h
  split at h
  · simp only [Option.some.injEq, Prod.mk.injEq, Bool.and_eq_true, true_and] at h
    obtain ⟨⟨h0, h1⟩, rfl⟩ := h
    rename_i v0 v1
    refine okO_elim h0 (motive := fun v => SoundAt Try.prog 64 [v, v1] _) ?_
    refine okO_elim h1 (motive := fun v => SoundAt Try.prog 64 [_, v] _) ?_
    exact f64_sound _ _
  · cases h

def ctx64 : CtxQ := { Go.Proofs.Ytlfojobligplkaa.Fn.ctx62 with calls := (64, sum64) :: Go.Proofs.Ytlfojobligplkaa.Fn.ctx62.calls }

theorem ctx64_ok : CtxOk Try.prog ctx64.ctx := ctx_cons Go.Proofs.Ytlfojobligplkaa.Fn.ctx62_ok (by kernel_rfl) sum64_ok

/-! jetsam/itv.Const -/
def F21 : SFn := ⟨6, [(.cell (2) .true (2))], (.seq (.reg [(.mk (.some (2)) (.alloc [(.int Go.IntKind.i64 (Int.ofNat 0)), (.int Go.IntKind.i64 (Int.ofNat 0))]) .none)]) (.seq (.reg [(.mk (.some (3)) (.mv (.t (0))) .none), (.mk (.some (4)) (.mv (.t (0))) .none), (.mk (.some (5)) (.call .false .false (.f (24)) [(.t (3)), (.t (4))]) .none), (.mk .none (.store .false (2) (.t (2)) (.t (5))) .none)]) .ret))⟩

theorem F21_ok : sfn Try.prog hints 21 [] = some F21 := by kernel_rfl

def f21_0 (a0 : Int) : Int := (Go.Proofs.Ytlfojobligplkaa.Fn.f24_0 a0 a0 : Int)

def f21_1 (a0 : Int) : Int := (Go.Proofs.Ytlfojobligplkaa.Fn.f24_1 a0 a0 : Int)

theorem f21_sound (a0 : Int) : SoundAt Try.prog 21 [(.one (.v (.int Go.IntKind.i64 (a0))))] (Ret.mk (.agg [(.v (.int Go.IntKind.i64 (f21_0 a0))), (.v (.int Go.IntKind.i64 (f21_1 a0)))]) []) := by
  refine soundAt mixed Go.Proofs.Ytlfojobligplkaa.Fn.ctx64_ok F21_ok ?_
  generalize hR : (fun r' : Ret => r' = (Ret.mk (.agg [(.v (.int Go.IntKind.i64 (f21_0 a0))), (.v (.int Go.IntKind.i64 (f21_1 a0)))]) [])) = R
  refine (show wpF Go.Proofs.Ytlfojobligplkaa.Fn.ctx64 F21 [(.one (.v (.int Go.IntKind.i64 (a0))))] R = (R (Ret.mk (.agg [(.v (.int Go.IntKind.i64 (Go.Proofs.Ytlfojobligplkaa.Fn.f24_0 a0 a0))), (.v (.int Go.IntKind.i64 (Go.Proofs.Ytlfojobligplkaa.Fn.f24_1 a0 a0)))]) [])) by kernel_rfl).mpr ?_
  subst hR
  unfold f21_0
  unfold f21_1
  rfl


def sum21 : List CV → Option (Bool × Ret)
  | [v0] => some (okO (some .i64) v0, (Ret.mk (.agg [(.v (.int Go.IntKind.i64 (f21_0 (intC (cellA v0 0))))), (.v (.int Go.IntKind.i64 (f21_1 (intC (cellA v0 0)))))]) []))
  | _ => none

theorem sum21_ok : ∀ vs r, sum21 vs = some (true, r) → SoundAt Try.prog 21 vs r := by
  intro vs r h
  unfold sum21 at h
  split at h
  · simp only [Option.some.injEq, Prod.mk.injEq, Bool.and_eq_true, true_and] at h
    obtain ⟨h0, rfl⟩ := h
    rename_i v0
    refine okO_elim h0 (motive := fun v => SoundAt Try.prog 21 [v] _) ?_
    exact f21_sound _
  · cases h

def ctx21 : CtxQ := { Go.Proofs.Ytlfojobligplkaa.Fn.ctx64 with calls := (21, sum21) :: Go.Proofs.Ytlfojobligplkaa.Fn.ctx64.calls }

theorem ctx21_ok : CtxOk Try.prog ctx21.ctx := ctx_cons Go.Proofs.Ytlfojobligplkaa.Fn.ctx64_ok (by kernel_rfl) sum21_ok

/-! jetsam/itv.Has -/
def F27 : SFn := ⟨15, [(.tmp (4))], (.seq (.reg [(.mk (.some (2)) (.box (.t (0))) .none), (.mk (.some (4)) (.mv (.c (.bool Bool.false))) .none)]) (.seq (.reg [(.mk (.some (5)) (.fld (0) (.t (2))) .none), (.mk (.some (6)) (.load .false .false (1) [(.some .i64)] (.t (5))) .none), (.mk (.some (7)) (.mv (.t (1))) .none), (.mk (.some (8)) (.bin .leq (.t (6)) (.t (7))) .none), (.mk (.some (9)) (.mv (.t (8))) .none), (.mk (.some (10)) (.mv (.t (1))) (.some (.mk (9) .true))), (.mk (.some (11)) (.fld (1) (.t (2))) (.some (.mk (9) .true))), (.mk (.some (12)) (.load .false .false (1) [(.some .i64)] (.t (11))) (.some (.mk (9) .true))), (.mk (.some (13)) (.bin .leq (.t (10)) (.t (12))) (.some (.mk (9) .true))), (.mk (.some (14)) (.pick (.t (9)) (.t (13)) (.c (.bool Bool.false))) .none), (.mk (.some (4)) (.mv (.t (14))) .none)]) .ret))⟩

theorem F27_ok : sfn Try.prog hints 27 [] = some F27 := by kernel_rfl

def f27_0 (a0_0 : Int) (a0_1 : Int) (a1 : Int) : Bool := bif Decidable.decide (a0_0 ≤ a1) then (Decidable.decide (a1 ≤ a0_1)) else ((Bool.false))

theorem f27_sound (a0_0 : Int) (a0_1 : Int) (a1 : Int) : SoundAt Try.prog 27 [(.agg [(.v (.int Go.IntKind.i64 (a0_0))), (.v (.int Go.IntKind.i64 (a0_1)))]), (.one (.v (.int Go.IntKind.i64 (a1))))] (Ret.mk (.one (.v (.bool (f27_0 a0_0 a0_1 a1)))) []) := by
  refine soundAt mixed Go.Proofs.Ytlfojobligplkaa.Fn.ctx21_ok F27_ok ?_
  generalize hR : (fun r' : Ret => r' = (Ret.mk (.one (.v (.bool (f27_0 a0_0 a0_1 a1)))) [])) = R
  refine (show wpF Go.Proofs.Ytlfojobligplkaa.Fn.ctx21 F27 [(.agg [(.v (.int Go.IntKind.i64 (a0_0))), (.v (.int Go.IntKind.i64 (a0_1)))]), (.one (.v (.int Go.IntKind.i64 (a1))))] R = (bif Decidable.decide (a0_0 ≤ a1) then (R (Ret.mk (.one (.v (.bool (Decidable.decide (a1 ≤ a0_1))))) [])) else (R (Ret.mk (.one (.v (.bool (Bool.false)))) []))) by kernel_rfl).mpr ?_
  subst hR
  unfold f27_0
  refine cond_i (fun q => ?_) (fun q => ?_)
  · (try rewrite [q])
    rfl
  · (try rewrite [q])
    rfl


def sum27 : List CV → Option (Bool × Ret)
  | [v0, v1] => some (okA [some .i64, some .i64] v0 && okO (some .i64) v1, (Ret.mk (.one (.v (.bool (f27_0 (intC (cellA v0 0)) (intC (cellA v0 1)) (intC (cellA v1 0)))))) []))
  | _ => none

theorem sum27_ok : ∀ vs r, sum27 vs = some (true, r) → SoundAt Try.prog 27 vs r := by
  intro vs r h
  unfold sum27 at h
  split at h
  · simp only [Option.some.injEq, Prod.mk.injEq, Bool.and_eq_true, true_and] at h
    obtain ⟨⟨h0, h1⟩, rfl⟩ := h
    rename_i v0 v1
    refine okA_elim h0 (motive := fun v => SoundAt Try.prog 27 [v, v1] _) ?_
    refine okO_elim h1 (motive := fun v => SoundAt Try.prog 27 [_, v] _) ?_
    exact f27_sound _ _ _
  · cases h

def ctx27 : CtxQ := { Go.Proofs.Ytlfojobligplkaa.Fn.ctx21 with calls := (27, sum27) :: Go.Proofs.Ytlfojobligplkaa.Fn.ctx21.calls }

theorem ctx27_ok : CtxOk Try.prog ctx27.ctx := ctx_cons Go.Proofs.Ytlfojobligplkaa.Fn.ctx21_ok (by kernel_rfl) sum27_ok

/-! jetsam/itv.rest -/
def F73 : SFn := ⟨48, [(.cell (4) .true (2))], (.seq (.reg [(.mk (.some (2)) (.box (.t (0))) .none), (.mk (.some (3)) (.box (.t (1))) .none), (.mk (.some (4)) (.alloc [(.int Go.IntKind.i64 (Int.ofNat 0)), (.int Go.IntKind.i64 (Int.ofNat 0))]) .none)]) (.seq (.seq (.reg [(.mk (.some (6)) (.fld (0) (.t (2))) .none), (.mk (.some (7)) (.load .false .false (1) [(.some .i64)] (.t (6))) .none), (.mk (.some (8)) (.fld (1) (.t (2))) .none), (.mk (.some (9)) (.load .false .false (1) [(.some .i64)] (.t (8))) .none), (.mk (.some (10)) (.bin .eql (.t (7)) (.t (9))) .none), (.mk (.some (11)) (.mv (.t (10))) .none), (.mk (.some (12)) (.fld (0) (.t (3))) (.some (.mk (11) .true))), (.mk (.some (13)) (.load .false .false (1) [(.some .i64)] (.t (12))) (.some (.mk (11) .true))), (.mk (.some (14)) (.fld (1) (.t (3))) (.some (.mk (11) .true))), (.mk (.some (15)) (.load .false .false (1) [(.some .i64)] (.t (14))) (.some (.mk (11) .true))), (.mk (.some (16)) (.bin .eql (.t (13)) (.t (15))) (.some (.mk (11) .true))), (.mk (.some (17)) (.pick (.t (11)) (.t (16)) (.c (.bool Bool.false))) .none)]) (.cond (.t (17)) (.seq (.reg [(.mk (.some (18)) (.fld (0) (.t (2))) .none), (.mk (.some (19)) (.load .false .false (1) [(.some .i64)] (.t (18))) .none), (.mk (.some (20)) (.fld (0) (.t (3))) .none), (.mk (.some (21)) (.load .false .false (1) [(.some .i64)] (.t (20))) .none), (.mk (.some (22)) (.bin .rem (.t (19)) (.t (21))) .none), (.mk (.some (23)) (.call .false .false (.f (21)) [(.t (22))]) .none), (.mk .none (.store .false (2) (.t (4)) (.t (23))) .none)]) .ret) .skip)) (.seq (.reg [(.mk (.some (24)) (.fld (0) (.t (3))) .none), (.mk (.some (25)) (.load .false .false (1) [(.some .i64)] (.t (24))) .none), (.mk (.some (26)) (.un .neg (.t (25))) .none), (.mk (.some (27)) (.fld (1) (.t (3))) .none), (.mk (.some (28)) (.load .false .false (1) [(.some .i64)] (.t (27))) .none), (.mk (.some (29)) (.fld (0) (.t (3))) .none), (.mk (.some (30)) (.load .false .false (1) [(.some .i64)] (.t (29))) .none), (.mk (.some (31)) (.fld (1) (.t (3))) .none), (.mk (.some (32)) (.load .false .false (1) [(.some .i64)] (.t (31))) .none), (.mk (.some (33)) (.un .neg (.t (32))) .none), (.mk (.some (34)) (.mm .true [(.t (26)), (.t (28)), (.t (30)), (.t (33))]) .none), (.mk (.some (35)) (.bin .sub (.t (34)) (.c (.int Go.IntKind.i64 (Int.ofNat 1)))) .none), (.mk (.some (5)) (.mv (.t (35))) .none)]) (.seq (.reg [(.mk (.some (36)) (.fld (0) (.t (2))) .none), (.mk (.some (37)) (.load .false .false (1) [(.some .i64)] (.t (36))) .none), (.mk (.some (38)) (.mm .false [(.t (37)), (.c (.int Go.IntKind.i64 (Int.ofNat 0)))]) .none), (.mk (.some (39)) (.mv (.t (5))) .none), (.mk (.some (40)) (.un .neg (.t (39))) .none), (.mk (.some (41)) (.mm .true [(.t (38)), (.t (40))]) .none), (.mk (.some (42)) (.fld (1) (.t (2))) .none), (.mk (.some (43)) (.load .false .false (1) [(.some .i64)] (.t (42))) .none), (.mk (.some (44)) (.mm .true [(.t (43)), (.c (.int Go.IntKind.i64 (Int.ofNat 0)))]) .none), (.mk (.some (45)) (.mv (.t (5))) .none), (.mk (.some (46)) (.mm .false [(.t (44)), (.t (45))]) .none), (.mk (.some (47)) (.call .false .false (.f (24)) [(.t (41)), (.t (46))]) .none), (.mk .none (.store .false (2) (.t (4)) (.t (47))) .none)]) .ret))))⟩

theorem F73_ok : sfn Try.prog hints 73 [] = some F73 := by kernel_rfl

def f73_0 (a0_0 : Int) (a0_1 : Int) (a1_0 : Int) (a1_1 : Int) : Int := bif a0_0 == a0_1 then bif a1_0 == a1_1 then (Go.Proofs.Ytlfojobligplkaa.Fn.f21_0 (a0_0.tmod a1_0) : Int) else ((Go.Proofs.Ytlfojobligplkaa.Fn.f24_0 (if Go.IntKind.i64.wrap (0 - Go.IntKind.i64.wrap ((if Go.IntKind.i64.wrap (0 - a1_1) > if a1_0 > if a1_1 > Go.IntKind.i64.wrap (0 - a1_0) then a1_1 else Go.IntKind.i64.wrap (0 - a1_0) then a1_0 else if a1_1 > Go.IntKind.i64.wrap (0 - a1_0) then a1_1 else Go.IntKind.i64.wrap (0 - a1_0) then Go.IntKind.i64.wrap (0 - a1_1) else if a1_0 > if a1_1 > Go.IntKind.i64.wrap (0 - a1_0) then a1_1 else Go.IntKind.i64.wrap (0 - a1_0) then a1_0 else if a1_1 > Go.IntKind.i64.wrap (0 - a1_0) then a1_1 else Go.IntKind.i64.wrap (0 - a1_0)) - Int.ofNat 1)) > if Int.ofNat 0 < a0_0 then Int.ofNat 0 else a0_0 then Go.IntKind.i64.wrap (0 - Go.IntKind.i64.wrap ((if Go.IntKind.i64.wrap (0 - a1_1) > if a1_0 > if a1_1 > Go.IntKind.i64.wrap (0 - a1_0) then a1_1 else Go.IntKind.i64.wrap (0 - a1_0) then a1_0 else if a1_1 > Go.IntKind.i64.wrap (0 - a1_0) then a1_1 else Go.IntKind.i64.wrap (0 - a1_0) then Go.IntKind.i64.wrap (0 - a1_1) else if a1_0 > if a1_1 > Go.IntKind.i64.wrap (0 - a1_0) then a1_1 else Go.IntKind.i64.wrap (0 - a1_0) then a1_0 else if a1_1 > Go.IntKind.i64.wrap (0 - a1_0) then a1_1 else Go.IntKind.i64.wrap (0 - a1_0)) - Int.ofNat 1)) else if Int.ofNat 0 < a0_0 then Int.ofNat 0 else a0_0) (if Go.IntKind.i64.wrap ((if Go.IntKind.i64.wrap (0 - a1_1) > if a1_0 > if a1_1 > Go.IntKind.i64.wrap (0 - a1_0) then a1_1 else Go.IntKind.i64.wrap (0 - a1_0) then a1_0 else if a1_1 > Go.IntKind.i64.wrap (0 - a1_0) then a1_1 else Go.IntKind.i64.wrap (0 - a1_0) then Go.IntKind.i64.wrap (0 - a1_1) else if a1_0 > if a1_1 > Go.IntKind.i64.wrap (0 - a1_0) then a1_1 else Go.IntKind.i64.wrap (0 - a1_0) then a1_0 else if a1_1 > Go.IntKind.i64.wrap (0 - a1_0) then a1_1 else Go.IntKind.i64.wrap (0 - a1_0)) - Int.ofNat 1) < if Int.ofNat 0 > a0_1 then Int.ofNat 0 else a0_1 then Go.IntKind.i64.wrap ((if Go.IntKind.i64.wrap (0 - a1_1) > if a1_0 > if a1_1 > Go.IntKind.i64.wrap (0 - a1_0) then a1_1 else Go.IntKind.i64.wrap (0 - a1_0) then a1_0 else if a1_1 > Go.IntKind.i64.wrap (0 - a1_0) then a1_1 else Go.IntKind.i64.wrap (0 - a1_0) then Go.IntKind.i64.wrap (0 - a1_1) else if a1_0 > if a1_1 > Go.IntKind.i64.wrap (0 - a1_0) then a1_1 else Go.IntKind.i64.wrap (0 - a1_0) then a1_0 else if a1_1 > Go.IntKind.i64.wrap (0 - a1_0) then a1_1 else Go.IntKind.i64.wrap (0 - a1_0)) - Int.ofNat 1) else if Int.ofNat 0 > a0_1 then Int.ofNat 0 else a0_1) : Int)) else ((Go.Proofs.Ytlfojobligplkaa.Fn.f24_0 (if Go.IntKind.i64.wrap (0 - Go.IntKind.i64.wrap ((if Go.IntKind.i64.wrap (0 - a1_1) > if a1_0 > if a1_1 > Go.IntKind.i64.wrap (0 - a1_0) then a1_1 else Go.IntKind.i64.wrap (0 - a1_0) then a1_0 else if a1_1 > Go.IntKind.i64.wrap (0 - a1_0) then a1_1 else Go.IntKind.i64.wrap (0 - a1_0) then Go.IntKind.i64.wrap (0 - a1_1) else if a1_0 > if a1_1 > Go.IntKind.i64.wrap (0 - a1_0) then a1_1 else Go.IntKind.i64.wrap (0 - a1_0) then a1_0 else if a1_1 > Go.IntKind.i64.wrap (0 - a1_0) then a1_1 else Go.IntKind.i64.wrap (0 - a1_0)) - Int.ofNat 1)) > if Int.ofNat 0 < a0_0 then Int.ofNat 0 else a0_0 then Go.IntKind.i64.wrap (0 - Go.IntKind.i64.wrap ((if Go.IntKind.i64.wrap (0 - a1_1) > if a1_0 > if a1_1 > Go.IntKind.i64.wrap (0 - a1_0) then a1_1 else Go.IntKind.i64.wrap (0 - a1_0) then a1_0 else if a1_1 > Go.IntKind.i64.wrap (0 - a1_0) then a1_1 else Go.IntKind.i64.wrap (0 - a1_0) then Go.IntKind.i64.wrap (0 - a1_1) else if a1_0 > if a1_1 > Go.IntKind.i64.wrap (0 - a1_0) then a1_1 else Go.IntKind.i64.wrap (0 - a1_0) then a1_0 else if a1_1 > Go.IntKind.i64.wrap (0 - a1_0) then a1_1 else Go.IntKind.i64.wrap (0 - a1_0)) - Int.ofNat 1)) else if Int.ofNat 0 < a0_0 then Int.ofNat 0 else a0_0) (if Go.IntKind.i64.wrap ((if Go.IntKind.i64.wrap (0 - a1_1) > if a1_0 > if a1_1 > Go.IntKind.i64.wrap (0 - a1_0) then a1_1 else Go.IntKind.i64.wrap (0 - a1_0) then a1_0 else if a1_1 > Go.IntKind.i64.wrap (0 - a1_0) then a1_1 else Go.IntKind.i64.wrap (0 - a1_0) then Go.IntKind.i64.wrap (0 - a1_1) else if a1_0 > if a1_1 > Go.IntKind.i64.wrap (0 - a1_0) then a1_1 else Go.IntKind.i64.wrap (0 - a1_0) then a1_0 else if a1_1 > Go.IntKind.i64.wrap (0 - a1_0) then a1_1 else Go.IntKind.i64.wrap (0 - a1_0)) - Int.ofNat 1) < if Int.ofNat 0 > a0_1 then Int.ofNat 0 else a0_1 then Go.IntKind.i64.wrap ((if Go.IntKind.i64.wrap (0 - a1_1) > if a1_0 > if a1_1 > Go.IntKind.i64.wrap (0 - a1_0) then a1_1 else Go.IntKind.i64.wrap (0 - a1_0) then a1_0 else if a1_1 > Go.IntKind.i64.wrap (0 - a1_0) then a1_1 else Go.IntKind.i64.wrap (0 - a1_0) then Go.IntKind.i64.wrap (0 - a1_1) else if a1_0 > if a1_1 > Go.IntKind.i64.wrap (0 - a1_0) then a1_1 else Go.IntKind.i64.wrap (0 - a1_0) then a1_0 else if a1_1 > Go.IntKind.i64.wrap (0 - a1_0) then a1_1 else Go.IntKind.i64.wrap (0 - a1_0)) - Int.ofNat 1) else if Int.ofNat 0 > a0_1 then Int.ofNat 0 else a0_1) : Int))

def f73_1 (a0_0 : Int) (a0_1 : Int) (a1_0 : Int) (a1_1 : Int) : Int := bif a0_0 == a0_1 then bif a1_0 == a1_1 then (Go.Proofs.Ytlfojobligplkaa.Fn.f21_1 (a0_0.tmod a1_0) : Int) else ((Go.Proofs.Ytlfojobligplkaa.Fn.f24_1 (if Go.IntKind.i64.wrap (0 - Go.IntKind.i64.wrap ((if Go.IntKind.i64.wrap (0 - a1_1) > if a1_0 > if a1_1 > Go.IntKind.i64.wrap (0 - a1_0) then a1_1 else Go.IntKind.i64.wrap (0 - a1_0) then a1_0 else if a1_1 > Go.IntKind.i64.wrap (0 - a1_0) then a1_1 else Go.IntKind.i64.wrap (0 - a1_0) then Go.IntKind.i64.wrap (0 - a1_1) else if a1_0 > if a1_1 > Go.IntKind.i64.wrap (0 - a1_0) then a1_1 else Go.IntKind.i64.wrap (0 - a1_0) then a1_0 else if a1_1 > Go.IntKind.i64.wrap (0 - a1_0) then a1_1 else Go.IntKind.i64.wrap (0 - a1_0)) - Int.ofNat 1)) > if Int.ofNat 0 < a0_0 then Int.ofNat 0 else a0_0 then Go.IntKind.i64.wrap (0 - Go.IntKind.i64.wrap ((if Go.IntKind.i64.wrap (0 - a1_1) > if a1_0 > if a1_1 > Go.IntKind.i64.wrap (0 - a1_0) then a1_1 else Go.IntKind.i64.wrap (0 - a1_0) then a1_0 else if a1_1 > Go.IntKind.i64.wrap (0 - a1_0) then a1_1 else Go.IntKind.i64.wrap (0 - a1_0) then Go.IntKind.i64.wrap (0 - a1_1) else if a1_0 > if a1_1 > Go.IntKind.i64.wrap (0 - a1_0) then a1_1 else Go.IntKind.i64.wrap (0 - a1_0) then a1_0 else if a1_1 > Go.IntKind.i64.wrap (0 - a1_0) then a1_1 else Go.IntKind.i64.wrap (0 - a1_0)) - Int.ofNat 1)) else if Int.ofNat 0 < a0_0 then Int.ofNat 0 else a0_0) (if Go.IntKind.i64.wrap ((if Go.IntKind.i64.wrap (0 - a1_1) > if a1_0 > if a1_1 > Go.IntKind.i64.wrap (0 - a1_0) then a1_1 else Go.IntKind.i64.wrap (0 - a1_0) then a1_0 else if a1_1 > Go.IntKind.i64.wrap (0 - a1_0) then a1_1 else Go.IntKind.i64.wrap (0 - a1_0) then Go.IntKind.i64.wrap (0 - a1_1) else if a1_0 > if a1_1 > Go.IntKind.i64.wrap (0 - a1_0) then a1_1 else Go.IntKind.i64.wrap (0 - a1_0) then a1_0 else if a1_1 > Go.IntKind.i64.wrap (0 - a1_0) then a1_1 else Go.IntKind.i64.wrap (0 - a1_0)) - Int.ofNat 1) < if Int.ofNat 0 > a0_1 then Int.ofNat 0 else a0_1 then Go.IntKind.i64.wrap ((if Go.IntKind.i64.wrap (0 - a1_1) > if a1_0 > if a1_1 > Go.IntKind.i64.wrap (0 - a1_0) then a1_1 else Go.IntKind.i64.wrap (0 - a1_0) then a1_0 else if a1_1 > Go.IntKind.i64.wrap (0 - a1_0) then a1_1 else Go.IntKind.i64.wrap (0 - a1_0) then Go.IntKind.i64.wrap (0 - a1_1) else if a1_0 > if a1_1 > Go.IntKind.i64.wrap (0 - a1_0) then a1_1 else Go.IntKind.i64.wrap (0 - a1_0) then a1_0 else if a1_1 > Go.IntKind.i64.wrap (0 - a1_0) then a1_1 else Go.IntKind.i64.wrap (0 - a1_0)) - Int.ofNat 1) else if Int.ofNat 0 > a0_1 then Int.ofNat 0 else a0_1) : Int)) else ((Go.Proofs.Ytlfojobligplkaa.Fn.f24_1 (if Go.IntKind.i64.wrap (0 - Go.IntKind.i64.wrap ((if Go.IntKind.i64.wrap (0 - a1_1) > if a1_0 > if a1_1 > Go.IntKind.i64.wrap (0 - a1_0) then a1_1 else Go.IntKind.i64.wrap (0 - a1_0) then a1_0 else if a1_1 > Go.IntKind.i64.wrap (0 - a1_0) then a1_1 else Go.IntKind.i64.wrap (0 - a1_0) then Go.IntKind.i64.wrap (0 - a1_1) else if a1_0 > if a1_1 > Go.IntKind.i64.wrap (0 - a1_0) then a1_1 else Go.IntKind.i64.wrap (0 - a1_0) then a1_0 else if a1_1 > Go.IntKind.i64.wrap (0 - a1_0) then a1_1 else Go.IntKind.i64.wrap (0 - a1_0)) - Int.ofNat 1)) > if Int.ofNat 0 < a0_0 then Int.ofNat 0 else a0_0 then Go.IntKind.i64.wrap (0 - Go.IntKind.i64.wrap ((if Go.IntKind.i64.wrap (0 - a1_1) > if a1_0 > if a1_1 > Go.IntKind.i64.wrap (0 - a1_0) then a1_1 else Go.IntKind.i64.wrap (0 - a1_0) then a1_0 else if a1_1 > Go.IntKind.i64.wrap (0 - a1_0) then a1_1 else Go.IntKind.i64.wrap (0 - a1_0) then Go.IntKind.i64.wrap (0 - a1_1) else if a1_0 > if a1_1 > Go.IntKind.i64.wrap (0 - a1_0) then a1_1 else Go.IntKind.i64.wrap (0 - a1_0) then a1_0 else if a1_1 > Go.IntKind.i64.wrap (0 - a1_0) then a1_1 else Go.IntKind.i64.wrap (0 - a1_0)) - Int.ofNat 1)) else if Int.ofNat 0 < a0_0 then Int.ofNat 0 else a0_0) (if Go.IntKind.i64.wrap ((if Go.IntKind.i64.wrap (0 - a1_1) > if a1_0 > if a1_1 > Go.IntKind.i64.wrap (0 - a1_0) then a1_1 else Go.IntKind.i64.wrap (0 - a1_0) then a1_0 else if a1_1 > Go.IntKind.i64.wrap (0 - a1_0) then a1_1 else Go.IntKind.i64.wrap (0 - a1_0) then Go.IntKind.i64.wrap (0 - a1_1) else if a1_0 > if a1_1 > Go.IntKind.i64.wrap (0 - a1_0) then a1_1 else Go.IntKind.i64.wrap (0 - a1_0) then a1_0 else if a1_1 > Go.IntKind.i64.wrap (0 - a1_0) then a1_1 else Go.IntKind.i64.wrap (0 - a1_0)) - Int.ofNat 1) < if Int.ofNat 0 > a0_1 then Int.ofNat 0 else a0_1 then Go.IntKind.i64.wrap ((if Go.IntKind.i64.wrap (0 - a1_1) > if a1_0 > if a1_1 > Go.IntKind.i64.wrap (0 - a1_0) then a1_1 else Go.IntKind.i64.wrap (0 - a1_0) then a1_0 else if a1_1 > Go.IntKind.i64.wrap (0 - a1_0) then a1_1 else Go.IntKind.i64.wrap (0 - a1_0) then Go.IntKind.i64.wrap (0 - a1_1) else if a1_0 > if a1_1 > Go.IntKind.i64.wrap (0 - a1_0) then a1_1 else Go.IntKind.i64.wrap (0 - a1_0) then a1_0 else if a1_1 > Go.IntKind.i64.wrap (0 - a1_0) then a1_1 else Go.IntKind.i64.wrap (0 - a1_0)) - Int.ofNat 1) else if Int.ofNat 0 > a0_1 then Int.ofNat 0 else a0_1) : Int))

def f73_ok (a0_0 : Int) (a0_1 : Int) (a1_0 : Int) (a1_1 : Int) : Bool := bif a0_0 == a0_1 then (bif a1_0 == a1_1 then (bif a1_0 != 0 then (true) else (false)) else (true)) else (true)

theorem f73_sound (a0_0 : Int) (a0_1 : Int) (a1_0 : Int) (a1_1 : Int) (hk : f73_ok a0_0 a0_1 a1_0 a1_1 = true) : SoundAt Try.prog 73 [(.agg [(.v (.int Go.IntKind.i64 (a0_0))), (.v (.int Go.IntKind.i64 (a0_1)))]), (.agg [(.v (.int Go.IntKind.i64 (a1_0))), (.v (.int Go.IntKind.i64 (a1_1)))])] (Ret.mk (.agg [(.v (.int Go.IntKind.i64 (f73_0 a0_0 a0_1 a1_0 a1_1))), (.v (.int Go.IntKind.i64 (f73_1 a0_0 a0_1 a1_0 a1_1)))]) []) := by
  refine soundAt mixed Go.Proofs.Ytlfojobligplkaa.Fn.ctx27_ok F73_ok ?_
  generalize hR : (fun r' : Ret => r' = (Ret.mk (.agg [(.v (.int Go.IntKind.i64 (f73_0 a0_0 a0_1 a1_0 a1_1))), (.v (.int Go.IntKind.i64 (f73_1 a0_0 a0_1 a1_0 a1_1)))]) [])) = R
  refine (show wpF Go.Proofs.Ytlfojobligplkaa.Fn.ctx27 F73 [(.agg [(.v (.int Go.IntKind.i64 (a0_0))), (.v (.int Go.IntKind.i64 (a0_1)))]), (.agg [(.v (.int Go.IntKind.i64 (a1_0))), (.v (.int Go.IntKind.i64 (a1_1)))])] R = (bif a0_0 == a0_1 then (bif a1_0 == a1_1 then (bif a1_0 != 0 then (R (Ret.mk (.agg [(.v (.int Go.IntKind.i64 (Go.Proofs.Ytlfojobligplkaa.Fn.f21_0 (a0_0.tmod a1_0)))), (.v (.int Go.IntKind.i64 (Go.Proofs.Ytlfojobligplkaa.Fn.f21_1 (a0_0.tmod a1_0))))]) [])) else (False)) else (R (Ret.mk (.agg [(.v (.int Go.IntKind.i64 (Go.Proofs.Ytlfojobligplkaa.Fn.f24_0 (if Go.IntKind.i64.wrap (0 - Go.IntKind.i64.wrap ((if Go.IntKind.i64.wrap (0 - a1_1) > if a1_0 > if a1_1 > Go.IntKind.i64.wrap (0 - a1_0) then a1_1 else Go.IntKind.i64.wrap (0 - a1_0) then a1_0 else if a1_1 > Go.IntKind.i64.wrap (0 - a1_0) then a1_1 else Go.IntKind.i64.wrap (0 - a1_0) then Go.IntKind.i64.wrap (0 - a1_1) else if a1_0 > if a1_1 > Go.IntKind.i64.wrap (0 - a1_0) then a1_1 else Go.IntKind.i64.wrap (0 - a1_0) then a1_0 else if a1_1 > Go.IntKind.i64.wrap (0 - a1_0) then a1_1 else Go.IntKind.i64.wrap (0 - a1_0)) - Int.ofNat 1)) > if Int.ofNat 0 < a0_0 then Int.ofNat 0 else a0_0 then Go.IntKind.i64.wrap (0 - Go.IntKind.i64.wrap ((if Go.IntKind.i64.wrap (0 - a1_1) > if a1_0 > if a1_1 > Go.IntKind.i64.wrap (0 - a1_0) then a1_1 else Go.IntKind.i64.wrap (0 - a1_0) then a1_0 else if a1_1 > Go.IntKind.i64.wrap (0 - a1_0) then a1_1 else Go.IntKind.i64.wrap (0 - a1_0) then Go.IntKind.i64.wrap (0 - a1_1) else if a1_0 > if a1_1 > Go.IntKind.i64.wrap (0 - a1_0) then a1_1 else Go.IntKind.i64.wrap (0 - a1_0) then a1_0 else if a1_1 > Go.IntKind.i64.wrap (0 - a1_0) then a1_1 else Go.IntKind.i64.wrap (0 - a1_0)) - Int.ofNat 1)) else if Int.ofNat 0 < a0_0 then Int.ofNat 0 else a0_0) (if Go.IntKind.i64.wrap ((if Go.IntKind.i64.wrap (0 - a1_1) > if a1_0 > if a1_1 > Go.IntKind.i64.wrap (0 - a1_0) then a1_1 else Go.IntKind.i64.wrap (0 - a1_0) then a1_0 else if a1_1 > Go.IntKind.i64.wrap (0 - a1_0) then a1_1 else Go.IntKind.i64.wrap (0 - a1_0) then Go.IntKind.i64.wrap (0 - a1_1) else if a1_0 > if a1_1 > Go.IntKind.i64.wrap (0 - a1_0) then a1_1 else Go.IntKind.i64.wrap (0 - a1_0) then a1_0 else if a1_1 > Go.IntKind.i64.wrap (0 - a1_0) then a1_1 else Go.IntKind.i64.wrap (0 - a1_0)) - Int.ofNat 1) < if Int.ofNat 0 > a0_1 then Int.ofNat 0 else a0_1 then Go.IntKind.i64.wrap ((if Go.IntKind.i64.wrap (0 - a1_1) > if a1_0 > if a1_1 > Go.IntKind.i64.wrap (0 - a1_0) then a1_1 else Go.IntKind.i64.wrap (0 - a1_0) then a1_0 else if a1_1 > Go.IntKind.i64.wrap (0 - a1_0) then a1_1 else Go.IntKind.i64.wrap (0 - a1_0) then Go.IntKind.i64.wrap (0 - a1_1) else if a1_0 > if a1_1 > Go.IntKind.i64.wrap (0 - a1_0) then a1_1 else Go.IntKind.i64.wrap (0 - a1_0) then a1_0 else if a1_1 > Go.IntKind.i64.wrap (0 - a1_0) then a1_1 else Go.IntKind.i64.wrap (0 - a1_0)) - Int.ofNat 1) else if Int.ofNat 0 > a0_1 then Int.ofNat 0 else a0_1)))), (.v (.int Go.IntKind.i64 (Go.Proofs.Ytlfojobligplkaa.Fn.f24_1 (if Go.IntKind.i64.wrap (0 - Go.IntKind.i64.wrap ((if Go.IntKind.i64.wrap (0 - a1_1) > if a1_0 > if a1_1 > Go.IntKind.i64.wrap (0 - a1_0) then a1_1 else Go.IntKind.i64.wrap (0 - a1_0) then a1_0 else if a1_1 > Go.IntKind.i64.wrap (0 - a1_0) then a1_1 else Go.IntKind.i64.wrap (0 - a1_0) then Go.IntKind.i64.wrap (0 - a1_1) else if a1_0 > if a1_1 > Go.IntKind.i64.wrap (0 - a1_0) then a1_1 else Go.IntKind.i64.wrap (0 - a1_0) then a1_0 else if a1_1 > Go.IntKind.i64.wrap (0 - a1_0) then a1_1 else Go.IntKind.i64.wrap (0 - a1_0)) - Int.ofNat 1)) > if Int.ofNat 0 < a0_0 then Int.ofNat 0 else a0_0 then Go.IntKind.i64.wrap (0 - Go.IntKind.i64.wrap ((if Go.IntKind.i64.wrap (0 - a1_1) > if a1_0 > if a1_1 > Go.IntKind.i64.wrap (0 - a1_0) then a1_1 else Go.IntKind.i64.wrap (0 - a1_0) then a1_0 else if a1_1 > Go.IntKind.i64.wrap (0 - a1_0) then a1_1 else Go.IntKind.i64.wrap (0 - a1_0) then Go.IntKind.i64.wrap (0 - a1_1) else if a1_0 > if a1_1 > Go.IntKind.i64.wrap (0 - a1_0) then a1_1 else Go.IntKind.i64.wrap (0 - a1_0) then a1_0 else if a1_1 > Go.IntKind.i64.wrap (0 - a1_0) then a1_1 else Go.IntKind.i64.wrap (0 - a1_0)) - Int.ofNat 1)) else if Int.ofNat 0 < a0_0 then Int.ofNat 0 else a0_0) (if Go.IntKind.i64.wrap ((if Go.IntKind.i64.wrap (0 - a1_1) > if a1_0 > if a1_1 > Go.IntKind.i64.wrap (0 - a1_0) then a1_1 else Go.IntKind.i64.wrap (0 - a1_0) then a1_0 else if a1_1 > Go.IntKind.i64.wrap (0 - a1_0) then a1_1 else Go.IntKind.i64.wrap (0 - a1_0) then Go.IntKind.i64.wrap (0 - a1_1) else if a1_0 > if a1_1 > Go.IntKind.i64.wrap (0 - a1_0) then a1_1 else Go.IntKind.i64.wrap (0 - a1_0) then a1_0 else if a1_1 > Go.IntKind.i64.wrap (0 - a1_0) then a1_1 else Go.IntKind.i64.wrap (0 - a1_0)) - Int.ofNat 1) < if Int.ofNat 0 > a0_1 then Int.ofNat 0 else a0_1 then Go.IntKind.i64.wrap ((if Go.IntKind.i64.wrap (0 - a1_1) > if a1_0 > if a1_1 > Go.IntKind.i64.wrap (0 - a1_0) then a1_1 else Go.IntKind.i64.wrap (0 - a1_0) then a1_0 else if a1_1 > Go.IntKind.i64.wrap (0 - a1_0) then a1_1 else Go.IntKind.i64.wrap (0 - a1_0) then Go.IntKind.i64.wrap (0 - a1_1) else if a1_0 > if a1_1 > Go.IntKind.i64.wrap (0 - a1_0) then a1_1 else Go.IntKind.i64.wrap (0 - a1_0) then a1_0 else if a1_1 > Go.IntKind.i64.wrap (0 - a1_0) then a1_1 else Go.IntKind.i64.wrap (0 - a1_0)) - Int.ofNat 1) else if Int.ofNat 0 > a0_1 then Int.ofNat 0 else a0_1))))]) []))) else (R (Ret.mk (.agg [(.v (.int Go.IntKind.i64 (Go.Proofs.Ytlfojobligplkaa.Fn.f24_0 (if Go.IntKind.i64.wrap (0 - Go.IntKind.i64.wrap ((if Go.IntKind.i64.wrap (0 - a1_1) > if a1_0 > if a1_1 > Go.IntKind.i64.wrap (0 - a1_0) then a1_1 else Go.IntKind.i64.wrap (0 - a1_0) then a1_0 else if a1_1 > Go.IntKind.i64.wrap (0 - a1_0) then a1_1 else Go.IntKind.i64.wrap (0 - a1_0) then Go.IntKind.i64.wrap (0 - a1_1) else if a1_0 > if a1_1 > Go.IntKind.i64.wrap (0 - a1_0) then a1_1 else Go.IntKind.i64.wrap (0 - a1_0) then a1_0 else if a1_1 > Go.IntKind.i64.wrap (0 - a1_0) then a1_1 else Go.IntKind.i64.wrap (0 - a1_0)) - Int.ofNat 1)) > if Int.ofNat 0 < a0_0 then Int.ofNat 0 else a0_0 then Go.IntKind.i64.wrap (0 - Go.IntKind.i64.wrap ((if Go.IntKind.i64.wrap (0 - a1_1) > if a1_0 > if a1_1 > Go.IntKind.i64.wrap (0 - a1_0) then a1_1 else Go.IntKind.i64.wrap (0 - a1_0) then a1_0 else if a1_1 > Go.IntKind.i64.wrap (0 - a1_0) then a1_1 else Go.IntKind.i64.wrap (0 - a1_0) then Go.IntKind.i64.wrap (0 - a1_1) else if a1_0 > if a1_1 > Go.IntKind.i64.wrap (0 - a1_0) then a1_1 else Go.IntKind.i64.wrap (0 - a1_0) then a1_0 else if a1_1 > Go.IntKind.i64.wrap (0 - a1_0) then a1_1 else Go.IntKind.i64.wrap (0 - a1_0)) - Int.ofNat 1)) else if Int.ofNat 0 < a0_0 then Int.ofNat 0 else a0_0) (if Go.IntKind.i64.wrap ((if Go.IntKind.i64.wrap (0 - a1_1) > if a1_0 > if a1_1 > Go.IntKind.i64.wrap (0 - a1_0) then a1_1 else Go.IntKind.i64.wrap (0 - a1_0) then a1_0 else if a1_1 > Go.IntKind.i64.wrap (0 - a1_0) then a1_1 else Go.IntKind.i64.wrap (0 - a1_0) then Go.IntKind.i64.wrap (0 - a1_1) else if a1_0 > if a1_1 > Go.IntKind.i64.wrap (0 - a1_0) then a1_1 else Go.IntKind.i64.wrap (0 - a1_0) then a1_0 else if a1_1 > Go.IntKind.i64.wrap (0 - a1_0) then a1_1 else Go.IntKind.i64.wrap (0 - a1_0)) - Int.ofNat 1) < if Int.ofNat 0 > a0_1 then Int.ofNat 0 else a0_1 then Go.IntKind.i64.wrap ((if Go.IntKind.i64.wrap (0 - a1_1) > if a1_0 > if a1_1 > Go.IntKind.i64.wrap (0 - a1_0) then a1_1 else Go.IntKind.i64.wrap (0 - a1_0) then a1_0 else if a1_1 > Go.IntKind.i64.wrap (0 - a1_0) then a1_1 else Go.IntKind.i64.wrap (0 - a1_0) then Go.IntKind.i64.wrap (0 - a1_1) else if a1_0 > if a1_1 > Go.IntKind.i64.wrap (0 - a1_0) then a1_1 else Go.IntKind.i64.wrap (0 - a1_0) then a1_0 else if a1_1 > Go.IntKind.i64.wrap (0 - a1_0) then a1_1 else Go.IntKind.i64.wrap (0 - a1_0)) - Int.ofNat 1) else if Int.ofNat 0 > a0_1 then Int.ofNat 0 else a0_1)))), (.v (.int Go.IntKind.i64 (Go.Proofs.Ytlfojobligplkaa.Fn.f24_1 (if Go.IntKind.i64.wrap (0 - Go.IntKind.i64.wrap ((if Go.IntKind.i64.wrap (0 - a1_1) > if a1_0 > if a1_1 > Go.IntKind.i64.wrap (0 - a1_0) then a1_1 else Go.IntKind.i64.wrap (0 - a1_0) then a1_0 else if a1_1 > Go.IntKind.i64.wrap (0 - a1_0) then a1_1 else Go.IntKind.i64.wrap (0 - a1_0) then Go.IntKind.i64.wrap (0 - a1_1) else if a1_0 > if a1_1 > Go.IntKind.i64.wrap (0 - a1_0) then a1_1 else Go.IntKind.i64.wrap (0 - a1_0) then a1_0 else if a1_1 > Go.IntKind.i64.wrap (0 - a1_0) then a1_1 else Go.IntKind.i64.wrap (0 - a1_0)) - Int.ofNat 1)) > if Int.ofNat 0 < a0_0 then Int.ofNat 0 else a0_0 then Go.IntKind.i64.wrap (0 - Go.IntKind.i64.wrap ((if Go.IntKind.i64.wrap (0 - a1_1) > if a1_0 > if a1_1 > Go.IntKind.i64.wrap (0 - a1_0) then a1_1 else Go.IntKind.i64.wrap (0 - a1_0) then a1_0 else if a1_1 > Go.IntKind.i64.wrap (0 - a1_0) then a1_1 else Go.IntKind.i64.wrap (0 - a1_0) then Go.IntKind.i64.wrap (0 - a1_1) else if a1_0 > if a1_1 > Go.IntKind.i64.wrap (0 - a1_0) then a1_1 else Go.IntKind.i64.wrap (0 - a1_0) then a1_0 else if a1_1 > Go.IntKind.i64.wrap (0 - a1_0) then a1_1 else Go.IntKind.i64.wrap (0 - a1_0)) - Int.ofNat 1)) else if Int.ofNat 0 < a0_0 then Int.ofNat 0 else a0_0) (if Go.IntKind.i64.wrap ((if Go.IntKind.i64.wrap (0 - a1_1) > if a1_0 > if a1_1 > Go.IntKind.i64.wrap (0 - a1_0) then a1_1 else Go.IntKind.i64.wrap (0 - a1_0) then a1_0 else if a1_1 > Go.IntKind.i64.wrap (0 - a1_0) then a1_1 else Go.IntKind.i64.wrap (0 - a1_0) then Go.IntKind.i64.wrap (0 - a1_1) else if a1_0 > if a1_1 > Go.IntKind.i64.wrap (0 - a1_0) then a1_1 else Go.IntKind.i64.wrap (0 - a1_0) then a1_0 else if a1_1 > Go.IntKind.i64.wrap (0 - a1_0) then a1_1 else Go.IntKind.i64.wrap (0 - a1_0)) - Int.ofNat 1) < if Int.ofNat 0 > a0_1 then Int.ofNat 0 else a0_1 then Go.IntKind.i64.wrap ((if Go.IntKind.i64.wrap (0 - a1_1) > if a1_0 > if a1_1 > Go.IntKind.i64.wrap (0 - a1_0) then a1_1 else Go.IntKind.i64.wrap (0 - a1_0) then a1_0 else if a1_1 > Go.IntKind.i64.wrap (0 - a1_0) then a1_1 else Go.IntKind.i64.wrap (0 - a1_0) then Go.IntKind.i64.wrap (0 - a1_1) else if a1_0 > if a1_1 > Go.IntKind.i64.wrap (0 - a1_0) then a1_1 else Go.IntKind.i64.wrap (0 - a1_0) then a1_0 else if a1_1 > Go.IntKind.i64.wrap (0 - a1_0) then a1_1 else Go.IntKind.i64.wrap (0 - a1_0)) - Int.ofNat 1) else if Int.ofNat 0 > a0_1 then Int.ofNat 0 else a0_1))))]) []))) by kernel_rfl).mpr ?_
  subst hR
  unfold f73_ok at hk
  unfold f73_0
  unfold f73_1
  refine cond_i (fun q => ?_) (fun q => ?_)
  · (try rewrite [q] at hk); (try rewrite [q])
    refine cond_i (fun q => ?_) (fun q => ?_)
    · (try rewrite [q] at hk); (try rewrite [q])
      refine cond_i (fun q => ?_) (fun q => ?_)
      · (try rewrite [q] at hk); (try rewrite [q])
        rfl
      · (try rewrite [q] at hk); (try rewrite [q])
        cases hk
    · (try rewrite [q] at hk); (try rewrite [q])
      rfl
  · (try rewrite [q] at hk); (try rewrite [q])
    rfl


def sum73 : List CV → Option (Bool × Ret)
  | [v0, v1] => some (okA [some .i64, some .i64] v0 && okA [some .i64, some .i64] v1 && f73_ok (intC (cellA v0 0)) (intC (cellA v0 1)) (intC (cellA v1 0)) (intC (cellA v1 1)), (Ret.mk (.agg [(.v (.int Go.IntKind.i64 (f73_0 (intC (cellA v0 0)) (intC (cellA v0 1)) (intC (cellA v1 0)) (intC (cellA v1 1))))), (.v (.int Go.IntKind.i64 (f73_1 (intC (cellA v0 0)) (intC (cellA v0 1)) (intC (cellA v1 0)) (intC (cellA v1 1)))))]) []))
  | _ => none

theorem sum73_ok : ∀ vs r, sum73 vs = some (true, r) → SoundAt Try.prog 73 vs r := by
  intro vs r h
  unfold sum73 at h
  split at h
  · simp only [Option.some.injEq, Prod.mk.injEq, Bool.and_eq_true, true_and] at h
    obtain ⟨⟨⟨h0, h1⟩, h2⟩, rfl⟩ := h
    rename_i v0 v1
    refine okA_elim h0 (motive := fun v => SoundAt Try.prog 73 [v, v1] _) ?_
    refine okA_elim h1 (motive := fun v => SoundAt Try.prog 73 [_, v] _) ?_
    exact f73_sound _ _ _ _ h2
  · cases h

def ctx73 : CtxQ := { Go.Proofs.Ytlfojobligplkaa.Fn.ctx27 with calls := (73, sum73) :: Go.Proofs.Ytlfojobligplkaa.Fn.ctx27.calls }

theorem ctx73_ok : CtxOk Try.prog ctx73.ctx := ctx_cons Go.Proofs.Ytlfojobligplkaa.Fn.ctx27_ok (by kernel_rfl) sum73_ok

/-! jetsam/itv.Join -/
def F45 : SFn := ⟨25, [(.cell (4) .true (2))], (.seq (.reg [(.mk (.some (2)) (.box (.t (0))) .none), (.mk (.some (3)) (.box (.t (1))) .none), (.mk (.some (4)) (.alloc [(.int Go.IntKind.i64 (Int.ofNat 0)), (.int Go.IntKind.i64 (Int.ofNat 0))]) .none)]) (.seq (.blk (0) (.seq (.reg [(.mk (.some (6)) (.load .false .true (2) [(.some .i64), (.some .i64)] (.t (2))) .none), (.mk (.some (7)) (.call .false .false (.f (29)) [(.t (6))]) .none), (.mk (.some (5)) (.mv (.t (7))) .none)]) (.cond (.t (5)) (.seq (.reg [(.mk (.some (8)) (.load .false .true (2) [(.some .i64), (.some .i64)] (.t (3))) .none), (.mk (.some (9)) (.call .false .false (.f (60)) [(.t (8))]) .none), (.mk .none (.store .false (2) (.t (4)) (.t (9))) .none)]) .ret) (.seq (.reg [(.mk (.some (11)) (.load .false .true (2) [(.some .i64), (.some .i64)] (.t (3))) .none), (.mk (.some (12)) (.call .false .false (.f (29)) [(.t (11))]) .none), (.mk (.some (10)) (.mv (.t (12))) .none)]) (.cond (.t (10)) (.seq (.reg [(.mk (.some (13)) (.load .false .true (2) [(.some .i64), (.some .i64)] (.t (2))) .none), (.mk .none (.store .false (2) (.t (4)) (.t (13))) .none)]) .ret) .skip))))) (.seq (.reg [(.mk (.some (14)) (.fld (0) (.t (2))) .none), (.mk (.some (15)) (.load .false .false (1) [(.some .i64)] (.t (14))) .none), (.mk (.some (16)) (.fld (0) (.t (3))) .none), (.mk (.some (17)) (.load .false .false (1) [(.some .i64)] (.t (16))) .none), (.mk (.some (18)) (.mm .false [(.t (15)), (.t (17))]) .none), (.mk (.some (19)) (.fld (1) (.t (2))) .none), (.mk (.some (20)) (.load .false .false (1) [(.some .i64)] (.t (19))) .none), (.mk (.some (21)) (.fld (1) (.t (3))) .none), (.mk (.some (22)) (.load .false .false (1) [(.some .i64)] (.t (21))) .none), (.mk (.some (23)) (.mm .true [(.t (20)), (.t (22))]) .none), (.mk (.some (24)) (.build [(.int Go.IntKind.i64 (Int.ofNat 0)), (.int Go.IntKind.i64 (Int.ofNat 0))] [(.mk (0) (.mk (1) (.t (18)))), (.mk (1) (.mk (1) (.t (23))))]) .none), (.mk .none (.store .false (2) (.t (4)) (.t (24))) .none)]) .ret)))⟩

theorem F45_ok : sfn Try.prog hints 45 [] = some F45 := by kernel_rfl

def f45_0 (a0_0 : Int) (a0_1 : Int) (a1_0 : Int) (a1_1 : Int) : Int := bif Decidable.decide (a0_0 > a0_1) then (Go.Proofs.Ytlfojobligplkaa.Fn.f60_0 a1_0 a1_1 : Int) else (bif Decidable.decide (a1_0 > a1_1) then (a0_0 : Int) else ((if a1_0 < a0_0 then a1_0 else a0_0 : Int)))

def f45_1 (a0_0 : Int) (a0_1 : Int) (a1_0 : Int) (a1_1 : Int) : Int := bif Decidable.decide (a0_0 > a0_1) then (Go.Proofs.Ytlfojobligplkaa.Fn.f60_1 a1_0 a1_1 : Int) else (bif Decidable.decide (a1_0 > a1_1) then (a0_1 : Int) else ((if a1_1 > a0_1 then a1_1 else a0_1 : Int)))

theorem f45_sound (a0_0 : Int) (a0_1 : Int) (a1_0 : Int) (a1_1 : Int) : SoundAt Try.prog 45 [(.agg [(.v (.int Go.IntKind.i64 (a0_0))), (.v (.int Go.IntKind.i64 (a0_1)))]), (.agg [(.v (.int Go.IntKind.i64 (a1_0))), (.v (.int Go.IntKind.i64 (a1_1)))])] (Ret.mk (.agg [(.v (.int Go.IntKind.i64 (f45_0 a0_0 a0_1 a1_0 a1_1))), (.v (.int Go.IntKind.i64 (f45_1 a0_0 a0_1 a1_0 a1_1)))]) []) := by
  refine soundAt mixed Go.Proofs.Ytlfojobligplkaa.Fn.ctx73_ok F45_ok ?_
  generalize hR : (fun r' : Ret => r' = (Ret.mk (.agg [(.v (.int Go.IntKind.i64 (f45_0 a0_0 a0_1 a1_0 a1_1))), (.v (.int Go.IntKind.i64 (f45_1 a0_0 a0_1 a1_0 a1_1)))]) [])) = R
  refine (show wpF Go.Proofs.Ytlfojobligplkaa.Fn.ctx73 F45 [(.agg [(.v (.int Go.IntKind.i64 (a0_0))), (.v (.int Go.IntKind.i64 (a0_1)))]), (.agg [(.v (.int Go.IntKind.i64 (a1_0))), (.v (.int Go.IntKind.i64 (a1_1)))])] R = (bif Decidable.decide (a0_0 > a0_1) then (R (Ret.mk (.agg [(.v (.int Go.IntKind.i64 (Go.Proofs.Ytlfojobligplkaa.Fn.f60_0 a1_0 a1_1))), (.v (.int Go.IntKind.i64 (Go.Proofs.Ytlfojobligplkaa.Fn.f60_1 a1_0 a1_1)))]) [])) else (bif Decidable.decide (a1_0 > a1_1) then (R (Ret.mk (.agg [(.v (.int Go.IntKind.i64 (a0_0))), (.v (.int Go.IntKind.i64 (a0_1)))]) [])) else (R (Ret.mk (.agg [(.v (.int Go.IntKind.i64 (if a1_0 < a0_0 then a1_0 else a0_0))), (.v (.int Go.IntKind.i64 (if a1_1 > a0_1 then a1_1 else a0_1)))]) [])))) by kernel_rfl).mpr ?_
  subst hR
  unfold f45_0
  unfold f45_1
  refine cond_i (fun q => ?_) (fun q => ?_)
  · (try rewrite [q])
    rfl
  · (try rewrite [q])
    refine cond_i (fun q => ?_) (fun q => ?_)
    · (try rewrite [q])
      rfl
    · (try rewrite [q])
      rfl


def sum45 : List CV → Option (Bool × Ret)
  | [v0, v1] => some (okA [some .i64, some .i64] v0 && okA [some .i64, some .i64] v1, (Ret.mk (.agg [(.v (.int Go.IntKind.i64 (f45_0 (intC (cellA v0 0)) (intC (cellA v0 1)) (intC (cellA v1 0)) (intC (cellA v1 1))))), (.v (.int Go.IntKind.i64 (f45_1 (intC (cellA v0 0)) (intC (cellA v0 1)) (intC (cellA v1 0)) (intC (cellA v1 1)))))]) []))
  | _ => none

theorem sum45_ok : ∀ vs r, sum45 vs = some (true, r) → SoundAt Try.prog 45 vs r := by
  intro vs r h
  unfold sum45 at h
  split at h
  · simp only [Option.some.injEq, Prod.mk.injEq, Bool.and_eq_true, true_and] at h
    obtain ⟨⟨h0, h1⟩, rfl⟩ := h
    rename_i v0 v1
    refine okA_elim h0 (motive := fun v => SoundAt Try.prog 45 [v, v1] _) ?_
    refine okA_elim h1 (motive := fun v => SoundAt Try.prog 45 [_, v] _) ?_
    exact f45_sound _ _ _ _
  · cases h

def ctx45 : CtxQ := { Go.Proofs.Ytlfojobligplkaa.Fn.ctx73 with calls := (45, sum45) :: Go.Proofs.Ytlfojobligplkaa.Fn.ctx73.calls }

theorem ctx45_ok : CtxOk Try.prog ctx45.ctx := ctx_cons Go.Proofs.Ytlfojobligplkaa.Fn.ctx73_ok (by kernel_rfl) sum45_ok

/-! jetsam/itv.quotient$1 -/
def F75 : SFn := ⟨8, [(.tmp (4))], (.seq (.reg [(.mk (.some (4)) (.mv (.c (.int Go.IntKind.i64 (Int.ofNat 0)))) .none)]) (.seq (.reg [(.mk (.some (5)) (.mv (.t (0))) .none), (.mk (.some (6)) (.mv (.t (1))) .none), (.mk (.some (7)) (.bin .quo (.t (5)) (.t (6))) .none), (.mk (.some (4)) (.mv (.t (7))) .none)]) .ret))⟩

theorem F75_ok : sfn Try.prog hints 75 [] = some F75 := by kernel_rfl

def f75_0 (a0 : Int) (a1 : Int) : Int := (Go.IntKind.i64.wrap (a0.tdiv a1) : Int)

def f75_ok (a0 : Int) (a1 : Int) : Bool := bif a1 != 0 then (true) else (false)

theorem f75_sound (a0 : Int) (a1 : Int) (hk : f75_ok a0 a1 = true) : SoundAt Try.prog 75 [(.one (.v (.int Go.IntKind.i64 (a0)))), (.one (.v (.int Go.IntKind.i64 (a1))))] (Ret.mk (.one (.v (.int Go.IntKind.i64 (f75_0 a0 a1)))) []) := by
  refine soundAt mixed Go.Proofs.Ytlfojobligplkaa.Fn.ctx45_ok F75_ok ?_
  generalize hR : (fun r' : Ret => r' = (Ret.mk (.one (.v (.int Go.IntKind.i64 (f75_0 a0 a1)))) [])) = R
  refine (show wpF Go.Proofs.Ytlfojobligplkaa.Fn.ctx45 F75 [(.one (.v (.int Go.IntKind.i64 (a0)))), (.one (.v (.int Go.IntKind.i64 (a1))))] R = (bif a1 != 0 then (R (Ret.mk (.one (.v (.int Go.IntKind.i64 (Go.IntKind.i64.wrap (a0.tdiv a1))))) [])) else (False)) by kernel_rfl).mpr ?_
  subst hR
  unfold f75_ok at hk
  unfold f75_0
  refine cond_i (fun q => ?_) (fun q => ?_)
  · (try rewrite [q] at hk); (try rewrite [q])
    rfl
  · (try rewrite [q] at hk); (try rewrite [q])
    cases hk


def sum75 : List CV → Option (Bool × Ret)
  | [v0, v1] => some (okO (some .i64) v0 && okO (some .i64) v1 && f75_ok (intC (cellA v0 0)) (intC (cellA v1 0)), (Ret.mk (.one (.v (.int Go.IntKind.i64 (f75_0 (intC (cellA v0 0)) (intC (cellA v1 0)))))) []))
  | _ => none

theorem sum75_ok : ∀ vs r, sum75 vs = some (true, r) → SoundAt Try.prog 75 vs r := by
  intro vs r h
  unfold sum75 at h
  split at h
  · simp only [Option.some.injEq, Prod.mk.injEq, Bool.and_eq_true, true_and] at h
    obtain ⟨⟨⟨h0, h1⟩, h2⟩, rfl⟩ := h
    rename_i v0 v1
    refine okO_elim h0 (motive := fun v => SoundAt Try.prog 75 [v, v1] _) ?_
    refine okO_elim h1 (motive := fun v => SoundAt Try.prog 75 [_, v] _) ?_
    exact f75_sound _ _ h2
  · cases h

def ctx75 : CtxQ := { Go.Proofs.Ytlfojobligplkaa.Fn.ctx45 with calls := (75, sum75) :: Go.Proofs.Ytlfojobligplkaa.Fn.ctx45.calls }

theorem ctx75_ok : CtxOk Try.prog ctx75.ctx := ctx_cons Go.Proofs.Ytlfojobligplkaa.Fn.ctx45_ok (by kernel_rfl) sum75_ok

/-! jetsam/jetsamref08.One -/
def F26 : SFn := ⟨47, [(.tmp (6)), (.tmp (7))], (.seq (.reg [(.mk (.some (6)) (.mv (.c (.int Go.IntKind.i64 (Int.ofNat 0)))) .none), (.mk (.some (7)) (.mv (.c (.int Go.IntKind.i64 (Int.ofNat 0)))) .none)]) (.seq (.reg [(.mk (.some (8)) (.mv (.c (.int Go.IntKind.i64 (Int.ofNat 0)))) .none)]) (.seq (.seq (.reg [(.mk (.some (9)) (.mv (.t (0))) .none)]) (.blk (0) (.seq (.reg [(.mk (.some (11)) (.bin .eql (.t (9)) (.c (.int Go.IntKind.i64 (Int.ofNat 4)))) .none), (.mk (.some (10)) (.mv (.t (11))) .none)]) (.cond (.t (10)) (.reg [(.mk (.some (12)) (.mv (.t (1))) .none), (.mk (.some (13)) (.mv (.t (2))) .none), (.mk (.some (14)) (.bin .add (.t (12)) (.t (13))) .none), (.mk (.some (8)) (.mv (.t (14))) .none)]) (.seq (.reg [(.mk (.some (16)) (.bin .eql (.t (9)) (.c (.int Go.IntKind.i64 (Int.ofNat 5)))) .none), (.mk (.some (15)) (.mv (.t (16))) .none)]) (.cond (.t (15)) (.reg [(.mk (.some (17)) (.mv (.t (1))) .none), (.mk (.some (18)) (.mv (.t (2))) .none), (.mk (.some (19)) (.bin .sub (.t (17)) (.t (18))) .none), (.mk (.some (8)) (.mv (.t (19))) .none)]) (.seq (.reg [(.mk (.some (21)) (.bin .eql (.t (9)) (.c (.int Go.IntKind.i64 (Int.ofNat 6)))) .none), (.mk (.some (20)) (.mv (.t (21))) .none)]) (.cond (.t (20)) (.reg [(.mk (.some (22)) (.mv (.t (1))) .none), (.mk (.some (23)) (.mv (.t (2))) .none), (.mk (.some (24)) (.bin .mul (.t (22)) (.t (23))) .none), (.mk (.some (8)) (.mv (.t (24))) .none)]) (.seq (.seq (.reg [(.mk (.some (26)) (.bin .eql (.t (9)) (.c (.int Go.IntKind.i64 (Int.ofNat 7)))) .none), (.mk (.some (25)) (.mv (.t (26))) .none)]) (.cond (.t (25)) .skip (.reg [(.mk (.some (27)) (.bin .eql (.t (9)) (.c (.int Go.IntKind.i64 (Int.ofNat 8)))) .none), (.mk (.some (25)) (.mv (.t (27))) .none)]))) (.cond (.t (25)) (.seq (.seq (.reg [(.mk (.some (28)) (.mv (.t (2))) .none), (.mk (.some (29)) (.bin .eql (.t (28)) (.c (.int Go.IntKind.i64 (Int.ofNat 0)))) .none)]) (.cond (.t (29)) (.seq (.reg [(.mk (.some (6)) (.mv (.c (.int Go.IntKind.i64 (Int.ofNat 0)))) .none), (.mk (.some (7)) (.mv (.c (.int Go.IntKind.i64 (Int.ofNat 3)))) .none)]) .ret) .skip)) (.seq (.reg [(.mk (.some (30)) (.mv (.t (1))) .none), (.mk (.some (31)) (.mv (.t (2))) .none), (.mk (.some (32)) (.bin .quo (.t (30)) (.t (31))) .none), (.mk (.some (8)) (.mv (.t (32))) .none)]) (.seq (.reg [(.mk (.some (33)) (.mv (.t (0))) .none), (.mk (.some (34)) (.bin .eql (.t (33)) (.c (.int Go.IntKind.i64 (Int.ofNat 8)))) .none)]) (.cond (.t (34)) (.reg [(.mk (.some (35)) (.mv (.t (1))) .none), (.mk (.some (36)) (.mv (.t (8))) .none), (.mk (.some (37)) (.mv (.t (2))) .none), (.mk (.some (38)) (.bin .mul (.t (36)) (.t (37))) .none), (.mk (.some (39)) (.bin .sub (.t (35)) (.t (38))) .none), (.mk (.some (8)) (.mv (.t (39))) .none)]) .skip)))) .skip)))))))))) (.seq (.seq (.reg [(.mk (.some (40)) (.mv (.t (8))) .none), (.mk (.some (41)) (.bin .lss (.t (40)) (.c (.int Go.IntKind.i64 (Int.negSucc 2147483647)))) .none), (.mk (.some (42)) (.mv (.t (41))) .none), (.mk (.some (43)) (.mv (.t (8))) (.some (.mk (42) .false))), (.mk (.some (44)) (.bin .gtr (.t (43)) (.c (.int Go.IntKind.i64 (Int.ofNat 2147483647)))) (.some (.mk (42) .false))), (.mk (.some (45)) (.pick (.t (42)) (.c (.bool Bool.true)) (.t (44))) .none)]) (.cond (.t (45)) (.seq (.reg [(.mk (.some (6)) (.mv (.c (.int Go.IntKind.i64 (Int.ofNat 0)))) .none), (.mk (.some (7)) (.mv (.c (.int Go.IntKind.i64 (Int.ofNat 2)))) .none)]) .ret) .skip)) (.seq (.reg [(.mk (.some (46)) (.mv (.t (8))) .none), (.mk (.some (6)) (.mv (.t (46))) .none), (.mk (.some (7)) (.mv (.c (.int Go.IntKind.i64 (Int.ofNat 0)))) .none)]) .ret)))))⟩

theorem F26_ok : sfn Try.prog hints 26 [] = some F26 := by kernel_rfl

def f26_0 (a0 : Int) (a1 : Int) (a2 : Int) : Int := bif a0 == Int.ofNat 4 then bif Decidable.decide (Go.IntKind.i64.wrap (a1 + a2) < Int.negSucc 2147483647) then (Int.ofNat 0 : Int) else (bif Decidable.decide (Go.IntKind.i64.wrap (a1 + a2) > Int.ofNat 2147483647) then (Int.ofNat 0 : Int) else ((Go.IntKind.i64.wrap (a1 + a2) : Int))) else (bif a0 == Int.ofNat 5 then bif Decidable.decide (Go.IntKind.i64.wrap (a1 - a2) < Int.negSucc 2147483647) then (Int.ofNat 0 : Int) else (bif Decidable.decide (Go.IntKind.i64.wrap (a1 - a2) > Int.ofNat 2147483647) then (Int.ofNat 0 : Int) else ((Go.IntKind.i64.wrap (a1 - a2) : Int))) else (bif a0 == Int.ofNat 6 then bif Decidable.decide (Go.IntKind.i64.wrap (a1 * a2) < Int.negSucc 2147483647) then (Int.ofNat 0 : Int) else (bif Decidable.decide (Go.IntKind.i64.wrap (a1 * a2) > Int.ofNat 2147483647) then (Int.ofNat 0 : Int) else ((Go.IntKind.i64.wrap (a1 * a2) : Int))) else (bif a0 == Int.ofNat 7 then bif a2 == Int.ofNat 0 then (Int.ofNat 0 : Int) else (bif a0 == Int.ofNat 8 then bif Decidable.decide (Go.IntKind.i64.wrap (a1 - Go.IntKind.i64.wrap (Go.IntKind.i64.wrap (a1.tdiv a2) * a2)) < Int.negSucc 2147483647) then (Int.ofNat 0 : Int) else (bif Decidable.decide (Go.IntKind.i64.wrap (a1 - Go.IntKind.i64.wrap (Go.IntKind.i64.wrap (a1.tdiv a2) * a2)) > Int.ofNat 2147483647) then (Int.ofNat 0 : Int) else ((Go.IntKind.i64.wrap (a1 - Go.IntKind.i64.wrap (Go.IntKind.i64.wrap (a1.tdiv a2) * a2)) : Int))) else (bif Decidable.decide (Go.IntKind.i64.wrap (a1.tdiv a2) < Int.negSucc 2147483647) then (Int.ofNat 0 : Int) else (bif Decidable.decide (Go.IntKind.i64.wrap (a1.tdiv a2) > Int.ofNat 2147483647) then (Int.ofNat 0 : Int) else ((Go.IntKind.i64.wrap (a1.tdiv a2) : Int))))) else (bif a0 == Int.ofNat 8 then bif a2 == Int.ofNat 0 then (Int.ofNat 0 : Int) else (bif Decidable.decide (Go.IntKind.i64.wrap (a1 - Go.IntKind.i64.wrap (Go.IntKind.i64.wrap (a1.tdiv a2) * a2)) < Int.negSucc 2147483647) then (Int.ofNat 0 : Int) else (bif Decidable.decide (Go.IntKind.i64.wrap (a1 - Go.IntKind.i64.wrap (Go.IntKind.i64.wrap (a1.tdiv a2) * a2)) > Int.ofNat 2147483647) then (Int.ofNat 0 : Int) else ((Go.IntKind.i64.wrap (a1 - Go.IntKind.i64.wrap (Go.IntKind.i64.wrap (a1.tdiv a2) * a2)) : Int)))) else ((Int.ofNat 0 : Int))))))

def f26_1 (a0 : Int) (a1 : Int) (a2 : Int) : Int := bif a0 == Int.ofNat 4 then bif Decidable.decide (Go.IntKind.i64.wrap (a1 + a2) < Int.negSucc 2147483647) then (Int.ofNat 2 : Int) else (bif Decidable.decide (Go.IntKind.i64.wrap (a1 + a2) > Int.ofNat 2147483647) then (Int.ofNat 2 : Int) else ((Int.ofNat 0 : Int))) else (bif a0 == Int.ofNat 5 then bif Decidable.decide (Go.IntKind.i64.wrap (a1 - a2) < Int.negSucc 2147483647) then (Int.ofNat 2 : Int) else (bif Decidable.decide (Go.IntKind.i64.wrap (a1 - a2) > Int.ofNat 2147483647) then (Int.ofNat 2 : Int) else ((Int.ofNat 0 : Int))) else (bif a0 == Int.ofNat 6 then bif Decidable.decide (Go.IntKind.i64.wrap (a1 * a2) < Int.negSucc 2147483647) then (Int.ofNat 2 : Int) else (bif Decidable.decide (Go.IntKind.i64.wrap (a1 * a2) > Int.ofNat 2147483647) then (Int.ofNat 2 : Int) else ((Int.ofNat 0 : Int))) else (bif a0 == Int.ofNat 7 then bif a2 == Int.ofNat 0 then (Int.ofNat 3 : Int) else (bif a0 == Int.ofNat 8 then bif Decidable.decide (Go.IntKind.i64.wrap (a1 - Go.IntKind.i64.wrap (Go.IntKind.i64.wrap (a1.tdiv a2) * a2)) < Int.negSucc 2147483647) then (Int.ofNat 2 : Int) else (bif Decidable.decide (Go.IntKind.i64.wrap (a1 - Go.IntKind.i64.wrap (Go.IntKind.i64.wrap (a1.tdiv a2) * a2)) > Int.ofNat 2147483647) then (Int.ofNat 2 : Int) else ((Int.ofNat 0 : Int))) else (bif Decidable.decide (Go.IntKind.i64.wrap (a1.tdiv a2) < Int.negSucc 2147483647) then (Int.ofNat 2 : Int) else (bif Decidable.decide (Go.IntKind.i64.wrap (a1.tdiv a2) > Int.ofNat 2147483647) then (Int.ofNat 2 : Int) else ((Int.ofNat 0 : Int))))) else (bif a0 == Int.ofNat 8 then bif a2 == Int.ofNat 0 then (Int.ofNat 3 : Int) else (bif Decidable.decide (Go.IntKind.i64.wrap (a1 - Go.IntKind.i64.wrap (Go.IntKind.i64.wrap (a1.tdiv a2) * a2)) < Int.negSucc 2147483647) then (Int.ofNat 2 : Int) else (bif Decidable.decide (Go.IntKind.i64.wrap (a1 - Go.IntKind.i64.wrap (Go.IntKind.i64.wrap (a1.tdiv a2) * a2)) > Int.ofNat 2147483647) then (Int.ofNat 2 : Int) else ((Int.ofNat 0 : Int)))) else ((Int.ofNat 0 : Int))))))

def f26_ok (a0 : Int) (a1 : Int) (a2 : Int) : Bool := bif a0 == Int.ofNat 4 then (true) else (bif a0 == Int.ofNat 5 then (true) else (bif a0 == Int.ofNat 6 then (true) else (bif a0 == Int.ofNat 7 then (bif a2 == Int.ofNat 0 then (true) else (bif a2 != 0 then (true) else (false))) else (bif a0 == Int.ofNat 8 then (bif a2 == Int.ofNat 0 then (true) else (bif a2 != 0 then (true) else (false))) else (true)))))

theorem f26_sound (a0 : Int) (a1 : Int) (a2 : Int) (hk : f26_ok a0 a1 a2 = true) : SoundAt Try.prog 26 [(.one (.v (.int Go.IntKind.i64 (a0)))), (.one (.v (.int Go.IntKind.i64 (a1)))), (.one (.v (.int Go.IntKind.i64 (a2))))] (Ret.mk (.tup [(.one (.v (.int Go.IntKind.i64 (f26_0 a0 a1 a2)))), (.one (.v (.int Go.IntKind.i64 (f26_1 a0 a1 a2))))]) []) := by
  refine soundAt mixed Go.Proofs.Ytlfojobligplkaa.Fn.ctx75_ok F26_ok ?_
  generalize hR : (fun r' : Ret => r' = (Ret.mk (.tup [(.one (.v (.int Go.IntKind.i64 (f26_0 a0 a1 a2)))), (.one (.v (.int Go.IntKind.i64 (f26_1 a0 a1 a2))))]) [])) = R
  refine (show wpF Go.Proofs.Ytlfojobligplkaa.Fn.ctx75 F26 [(.one (.v (.int Go.IntKind.i64 (a0)))), (.one (.v (.int Go.IntKind.i64 (a1)))), (.one (.v (.int Go.IntKind.i64 (a2))))] R = (bif a0 == Int.ofNat 4 then (bif Decidable.decide (Go.IntKind.i64.wrap (a1 + a2) < Int.negSucc 2147483647) then (R (Ret.mk (.tup [(.one (.v (.int Go.IntKind.i64 (Int.ofNat 0)))), (.one (.v (.int Go.IntKind.i64 (Int.ofNat 2))))]) [])) else (bif Decidable.decide (Go.IntKind.i64.wrap (a1 + a2) > Int.ofNat 2147483647) then (R (Ret.mk (.tup [(.one (.v (.int Go.IntKind.i64 (Int.ofNat 0)))), (.one (.v (.int Go.IntKind.i64 (Int.ofNat 2))))]) [])) else (R (Ret.mk (.tup [(.one (.v (.int Go.IntKind.i64 (Go.IntKind.i64.wrap (a1 + a2))))), (.one (.v (.int Go.IntKind.i64 (Int.ofNat 0))))]) [])))) else (bif a0 == Int.ofNat 5 then (bif Decidable.decide (Go.IntKind.i64.wrap (a1 - a2) < Int.negSucc 2147483647) then (R (Ret.mk (.tup [(.one (.v (.int Go.IntKind.i64 (Int.ofNat 0)))), (.one (.v (.int Go.IntKind.i64 (Int.ofNat 2))))]) [])) else (bif Decidable.decide (Go.IntKind.i64.wrap (a1 - a2) > Int.ofNat 2147483647) then (R (Ret.mk (.tup [(.one (.v (.int Go.IntKind.i64 (Int.ofNat 0)))), (.one (.v (.int Go.IntKind.i64 (Int.ofNat 2))))]) [])) else (R (Ret.mk (.tup [(.one (.v (.int Go.IntKind.i64 (Go.IntKind.i64.wrap (a1 - a2))))), (.one (.v (.int Go.IntKind.i64 (Int.ofNat 0))))]) [])))) else (bif a0 == Int.ofNat 6 then (bif Decidable.decide (Go.IntKind.i64.wrap (a1 * a2) < Int.negSucc 2147483647) then (R (Ret.mk (.tup [(.one (.v (.int Go.IntKind.i64 (Int.ofNat 0)))), (.one (.v (.int Go.IntKind.i64 (Int.ofNat 2))))]) [])) else (bif Decidable.decide (Go.IntKind.i64.wrap (a1 * a2) > Int.ofNat 2147483647) then (R (Ret.mk (.tup [(.one (.v (.int Go.IntKind.i64 (Int.ofNat 0)))), (.one (.v (.int Go.IntKind.i64 (Int.ofNat 2))))]) [])) else (R (Ret.mk (.tup [(.one (.v (.int Go.IntKind.i64 (Go.IntKind.i64.wrap (a1 * a2))))), (.one (.v (.int Go.IntKind.i64 (Int.ofNat 0))))]) [])))) else (bif a0 == Int.ofNat 7 then (bif a2 == Int.ofNat 0 then (R (Ret.mk (.tup [(.one (.v (.int Go.IntKind.i64 (Int.ofNat 0)))), (.one (.v (.int Go.IntKind.i64 (Int.ofNat 3))))]) [])) else (bif a2 != 0 then (bif a0 == Int.ofNat 8 then (bif Decidable.decide (Go.IntKind.i64.wrap (a1 - Go.IntKind.i64.wrap (Go.IntKind.i64.wrap (a1.tdiv a2) * a2)) < Int.negSucc 2147483647) then (R (Ret.mk (.tup [(.one (.v (.int Go.IntKind.i64 (Int.ofNat 0)))), (.one (.v (.int Go.IntKind.i64 (Int.ofNat 2))))]) [])) else (bif Decidable.decide (Go.IntKind.i64.wrap (a1 - Go.IntKind.i64.wrap (Go.IntKind.i64.wrap (a1.tdiv a2) * a2)) > Int.ofNat 2147483647) then (R (Ret.mk (.tup [(.one (.v (.int Go.IntKind.i64 (Int.ofNat 0)))), (.one (.v (.int Go.IntKind.i64 (Int.ofNat 2))))]) [])) else (R (Ret.mk (.tup [(.one (.v (.int Go.IntKind.i64 (Go.IntKind.i64.wrap (a1 - Go.IntKind.i64.wrap (Go.IntKind.i64.wrap (a1.tdiv a2) * a2)))))), (.one (.v (.int Go.IntKind.i64 (Int.ofNat 0))))]) [])))) else (bif Decidable.decide (Go.IntKind.i64.wrap (a1.tdiv a2) < Int.negSucc 2147483647) then (R (Ret.mk (.tup [(.one (.v (.int Go.IntKind.i64 (Int.ofNat 0)))), (.one (.v (.int Go.IntKind.i64 (Int.ofNat 2))))]) [])) else (bif Decidable.decide (Go.IntKind.i64.wrap (a1.tdiv a2) > Int.ofNat 2147483647) then (R (Ret.mk (.tup [(.one (.v (.int Go.IntKind.i64 (Int.ofNat 0)))), (.one (.v (.int Go.IntKind.i64 (Int.ofNat 2))))]) [])) else (R (Ret.mk (.tup [(.one (.v (.int Go.IntKind.i64 (Go.IntKind.i64.wrap (a1.tdiv a2))))), (.one (.v (.int Go.IntKind.i64 (Int.ofNat 0))))]) []))))) else (False))) else (bif a0 == Int.ofNat 8 then (bif a2 == Int.ofNat 0 then (R (Ret.mk (.tup [(.one (.v (.int Go.IntKind.i64 (Int.ofNat 0)))), (.one (.v (.int Go.IntKind.i64 (Int.ofNat 3))))]) [])) else (bif a2 != 0 then (bif a0 == Int.ofNat 8 then (bif Decidable.decide (Go.IntKind.i64.wrap (a1 - Go.IntKind.i64.wrap (Go.IntKind.i64.wrap (a1.tdiv a2) * a2)) < Int.negSucc 2147483647) then (R (Ret.mk (.tup [(.one (.v (.int Go.IntKind.i64 (Int.ofNat 0)))), (.one (.v (.int Go.IntKind.i64 (Int.ofNat 2))))]) [])) else (bif Decidable.decide (Go.IntKind.i64.wrap (a1 - Go.IntKind.i64.wrap (Go.IntKind.i64.wrap (a1.tdiv a2) * a2)) > Int.ofNat 2147483647) then (R (Ret.mk (.tup [(.one (.v (.int Go.IntKind.i64 (Int.ofNat 0)))), (.one (.v (.int Go.IntKind.i64 (Int.ofNat 2))))]) [])) else (R (Ret.mk (.tup [(.one (.v (.int Go.IntKind.i64 (Go.IntKind.i64.wrap (a1 - Go.IntKind.i64.wrap (Go.IntKind.i64.wrap (a1.tdiv a2) * a2)))))), (.one (.v (.int Go.IntKind.i64 (Int.ofNat 0))))]) [])))) else (bif Decidable.decide (Go.IntKind.i64.wrap (a1.tdiv a2) < Int.negSucc 2147483647) then (R (Ret.mk (.tup [(.one (.v (.int Go.IntKind.i64 (Int.ofNat 0)))), (.one (.v (.int Go.IntKind.i64 (Int.ofNat 2))))]) [])) else (bif Decidable.decide (Go.IntKind.i64.wrap (a1.tdiv a2) > Int.ofNat 2147483647) then (R (Ret.mk (.tup [(.one (.v (.int Go.IntKind.i64 (Int.ofNat 0)))), (.one (.v (.int Go.IntKind.i64 (Int.ofNat 2))))]) [])) else (R (Ret.mk (.tup [(.one (.v (.int Go.IntKind.i64 (Go.IntKind.i64.wrap (a1.tdiv a2))))), (.one (.v (.int Go.IntKind.i64 (Int.ofNat 0))))]) []))))) else (False))) else (R (Ret.mk (.tup [(.one (.v (.int Go.IntKind.i64 (Int.ofNat 0)))), (.one (.v (.int Go.IntKind.i64 (Int.ofNat 0))))]) []))))))) by kernel_rfl).mpr ?_
  subst hR
  unfold f26_ok at hk
  unfold f26_0
  unfold f26_1
  refine cond_i (fun q => ?_) (fun q => ?_)
  · (try rewrite [q] at hk); (try rewrite [q])
    refine cond_i (fun q => ?_) (fun q => ?_)
    · (try rewrite [q] at hk); (try rewrite [q])
      rfl
    · (try rewrite [q] at hk); (try rewrite [q])
      refine cond_i (fun q => ?_) (fun q => ?_)
      · (try rewrite [q] at hk); (try rewrite [q])
        rfl
      · (try rewrite [q] at hk); (try rewrite [q])
        rfl
  · (try rewrite [q] at hk); (try rewrite [q])
    refine cond_i (fun q => ?_) (fun q => ?_)
    · (try rewrite [q] at hk); (try rewrite [q])
      refine cond_i (fun q => ?_) (fun q => ?_)
      · (try rewrite [q] at hk); (try rewrite [q])
        rfl
      · (try rewrite [q] at hk); (try rewrite [q])
        refine cond_i (fun q => ?_) (fun q => ?_)
        · (try rewrite [q] at hk); (try rewrite [q])
          rfl
        · (try rewrite [q] at hk); (try rewrite [q])
          rfl
    · (try rewrite [q] at hk); (try rewrite [q])
      refine cond_i (fun q => ?_) (fun q => ?_)
      · (try rewrite [q] at hk); (try rewrite [q])
        refine cond_i (fun q => ?_) (fun q => ?_)
        · (try rewrite [q] at hk); (try rewrite [q])
          rfl
        · (try rewrite [q] at hk); (try rewrite [q])
          refine cond_i (fun q => ?_) (fun q => ?_)
          · (try rewrite [q] at hk); (try rewrite [q])
            rfl
          · (try rewrite [q] at hk); (try rewrite [q])
            rfl
      · (try rewrite [q] at hk); (try rewrite [q])
        refine cond_i (fun q => ?_) (fun q => ?_)
        · (try rewrite [q] at hk); (try rewrite [q])
          refine cond_i (fun q => ?_) (fun q => ?_)
          · (try rewrite [q] at hk); (try rewrite [q])
            rfl
          · (try rewrite [q] at hk); (try rewrite [q])
            refine cond_i (fun q => ?_) (fun q => ?_)
            · (try rewrite [q] at hk); (try rewrite [q])
              refine cond_i (fun q => ?_) (fun q => ?_)
              · (try rewrite [q] at hk); (try rewrite [q])
                refine cond_i (fun q => ?_) (fun q => ?_)
                · (try rewrite [q] at hk); (try rewrite [q])
                  rfl
                · (try rewrite [q] at hk); (try rewrite [q])
                  refine cond_i (fun q => ?_) (fun q => ?_)
                  · (try rewrite [q] at hk); (try rewrite [q])
                    rfl
                  · (try rewrite [q] at hk); (try rewrite [q])
                    rfl
              · (try rewrite [q] at hk); (try rewrite [q])
                refine cond_i (fun q => ?_) (fun q => ?_)
                · (try rewrite [q] at hk); (try rewrite [q])
                  rfl
                · (try rewrite [q] at hk); (try rewrite [q])
                  refine cond_i (fun q => ?_) (fun q => ?_)
                  · (try rewrite [q] at hk); (try rewrite [q])
                    rfl
                  · (try rewrite [q] at hk); (try rewrite [q])
                    rfl
            · (try rewrite [q] at hk); (try rewrite [q])
              cases hk
        · (try rewrite [q] at hk); (try rewrite [q])
          refine cond_i (fun q => ?_) (fun q => ?_)
          · (try rewrite [q] at hk); (try rewrite [q])
            refine cond_i (fun q => ?_) (fun q => ?_)
            · (try rewrite [q] at hk); (try rewrite [q])
              rfl
            · (try rewrite [q] at hk); (try rewrite [q])
              refine cond_i (fun q => ?_) (fun q => ?_)
              · (try rewrite [q] at hk); (try rewrite [q])
                rewrite [cond_true]
                refine cond_i (fun q => ?_) (fun q => ?_)
                · (try rewrite [q] at hk); (try rewrite [q])
                  rfl
                · (try rewrite [q] at hk); (try rewrite [q])
                  refine cond_i (fun q => ?_) (fun q => ?_)
                  · (try rewrite [q] at hk); (try rewrite [q])
                    rfl
                  · (try rewrite [q] at hk); (try rewrite [q])
                    rfl
              · (try rewrite [q] at hk); (try rewrite [q])
                cases hk
          · (try rewrite [q] at hk); (try rewrite [q])
            rfl


def sum26 : List CV → Option (Bool × Ret)
  | [v0, v1, v2] => some (okO (some .i64) v0 && okO (some .i64) v1 && okO (some .i64) v2 && f26_ok (intC (cellA v0 0)) (intC (cellA v1 0)) (intC (cellA v2 0)), (Ret.mk (.tup [(.one (.v (.int Go.IntKind.i64 (f26_0 (intC (cellA v0 0)) (intC (cellA v1 0)) (intC (cellA v2 0)))))), (.one (.v (.int Go.IntKind.i64 (f26_1 (intC (cellA v0 0)) (intC (cellA v1 0)) (intC (cellA v2 0))))))]) []))
  | _ => none

theorem sum26_ok : ∀ vs r, sum26 vs = some (true, r) → SoundAt Try.prog 26 vs r := by
  intro vs r h
  unfold sum26 at h
  split at h
  · simp only [Option.some.injEq, Prod.mk.injEq, Bool.and_eq_true, true_and] at h
    obtain ⟨⟨⟨⟨h0, h1⟩, h2⟩, h3⟩, rfl⟩ := h
    rename_i v0 v1 v2
    refine okO_elim h0 (motive := fun v => SoundAt Try.prog 26 [v, v1, v2] _) ?_
    refine okO_elim h1 (motive := fun v => SoundAt Try.prog 26 [_, v, v2] _) ?_
    refine okO_elim h2 (motive := fun v => SoundAt Try.prog 26 [_, _, v] _) ?_
    exact f26_sound _ _ _ h3
  · cases h

def ctx26 : CtxQ := { Go.Proofs.Ytlfojobligplkaa.Fn.ctx75 with calls := (26, sum26) :: Go.Proofs.Ytlfojobligplkaa.Fn.ctx75.calls }

theorem ctx26_ok : CtxOk Try.prog ctx26.ctx := ctx_cons Go.Proofs.Ytlfojobligplkaa.Fn.ctx75_ok (by kernel_rfl) sum26_ok

/-! jetsam/jetsamlaw08.to -/
def F30 : SFn := ⟨8, [(.cell (2) .true (2))], (.seq (.reg [(.mk (.some (1)) (.box (.t (0))) .none), (.mk (.some (2)) (.alloc [(.int Go.IntKind.i64 (Int.ofNat 0)), (.int Go.IntKind.i64 (Int.ofNat 0))]) .none)]) (.seq (.reg [(.mk (.some (3)) (.fld (0) (.t (1))) .none), (.mk (.some (4)) (.load .false .false (1) [(.some .i64)] (.t (3))) .none), (.mk (.some (5)) (.fld (1) (.t (1))) .none), (.mk (.some (6)) (.load .false .false (1) [(.some .i64)] (.t (5))) .none), (.mk (.some (7)) (.build [(.int Go.IntKind.i64 (Int.ofNat 0)), (.int Go.IntKind.i64 (Int.ofNat 0))] [(.mk (0) (.mk (1) (.t (4)))), (.mk (1) (.mk (1) (.t (6))))]) .none), (.mk .none (.store .false (2) (.t (2)) (.t (7))) .none)]) .ret))⟩

theorem F30_ok : sfn Try.prog hints 30 [] = some F30 := by kernel_rfl

def f30_0 (a0_0 : Int) (a0_1 : Int) : Int := (a0_0 : Int)

def f30_1 (a0_0 : Int) (a0_1 : Int) : Int := (a0_1 : Int)

theorem f30_sound (a0_0 : Int) (a0_1 : Int) : SoundAt Try.prog 30 [(.agg [(.v (.int Go.IntKind.i64 (a0_0))), (.v (.int Go.IntKind.i64 (a0_1)))])] (Ret.mk (.agg [(.v (.int Go.IntKind.i64 (f30_0 a0_0 a0_1))), (.v (.int Go.IntKind.i64 (f30_1 a0_0 a0_1)))]) []) := by
  refine soundAt mixed Go.Proofs.Ytlfojobligplkaa.Fn.ctx26_ok F30_ok ?_
  generalize hR : (fun r' : Ret => r' = (Ret.mk (.agg [(.v (.int Go.IntKind.i64 (f30_0 a0_0 a0_1))), (.v (.int Go.IntKind.i64 (f30_1 a0_0 a0_1)))]) [])) = R
  refine (show wpF Go.Proofs.Ytlfojobligplkaa.Fn.ctx26 F30 [(.agg [(.v (.int Go.IntKind.i64 (a0_0))), (.v (.int Go.IntKind.i64 (a0_1)))])] R = (R (Ret.mk (.agg [(.v (.int Go.IntKind.i64 (a0_0))), (.v (.int Go.IntKind.i64 (a0_1)))]) [])) by kernel_rfl).mpr ?_
  subst hR
  unfold f30_0
  unfold f30_1
  rfl


def sum30 : List CV → Option (Bool × Ret)
  | [v0] => some (okA [some .i64, some .i64] v0, (Ret.mk (.agg [(.v (.int Go.IntKind.i64 (f30_0 (intC (cellA v0 0)) (intC (cellA v0 1))))), (.v (.int Go.IntKind.i64 (f30_1 (intC (cellA v0 0)) (intC (cellA v0 1)))))]) []))
  | _ => none

theorem sum30_ok : ∀ vs r, sum30 vs = some (true, r) → SoundAt Try.prog 30 vs r := by
  intro vs r h
  unfold sum30 at h
  split at h
  · simp only [Option.some.injEq, Prod.mk.injEq, Bool.and_eq_true, true_and] at h
    obtain ⟨h0, rfl⟩ := h
    rename_i v0
    refine okA_elim h0 (motive := fun v => SoundAt Try.prog 30 [v] _) ?_
    exact f30_sound _ _
  · cases h

def ctx30 : CtxQ := { Go.Proofs.Ytlfojobligplkaa.Fn.ctx26 with calls := (30, sum30) :: Go.Proofs.Ytlfojobligplkaa.Fn.ctx26.calls }

theorem ctx30_ok : CtxOk Try.prog ctx30.ctx := ctx_cons Go.Proofs.Ytlfojobligplkaa.Fn.ctx26_ok (by kernel_rfl) sum30_ok

/-! jetsam/jetsamref08.Bend -/
def F31 : SFn := ⟨12, [(.cell (2) .true (2))], (.seq (.reg [(.mk (.some (1)) (.box (.t (0))) .none), (.mk (.some (2)) (.alloc [(.int Go.IntKind.i64 (Int.ofNat 0)), (.int Go.IntKind.i64 (Int.ofNat 0))]) .none)]) (.seq (.reg [(.mk (.some (3)) (.fld (0) (.t (1))) .none), (.mk (.some (4)) (.load .false .false (1) [(.some .i64)] (.t (3))) .none), (.mk (.some (5)) (.conv .i32 (.t (4))) .none), (.mk (.some (6)) (.conv .i64 (.t (5))) .none), (.mk (.some (7)) (.fld (1) (.t (1))) .none), (.mk (.some (8)) (.load .false .false (1) [(.some .i64)] (.t (7))) .none), (.mk (.some (9)) (.conv .i32 (.t (8))) .none), (.mk (.some (10)) (.conv .i64 (.t (9))) .none), (.mk (.some (11)) (.build [(.int Go.IntKind.i64 (Int.ofNat 0)), (.int Go.IntKind.i64 (Int.ofNat 0))] [(.mk (0) (.mk (1) (.t (6)))), (.mk (1) (.mk (1) (.t (10))))]) .none), (.mk .none (.store .false (2) (.t (2)) (.t (11))) .none)]) .ret))⟩

theorem F31_ok : sfn Try.prog hints 31 [] = some F31 := by kernel_rfl

def f31_0 (a0_0 : Int) (a0_1 : Int) : Int := (Go.IntKind.i64.wrap (Go.IntKind.i32.wrap a0_0) : Int)

def f31_1 (a0_0 : Int) (a0_1 : Int) : Int := (Go.IntKind.i64.wrap (Go.IntKind.i32.wrap a0_1) : Int)

theorem f31_sound (a0_0 : Int) (a0_1 : Int) : SoundAt Try.prog 31 [(.agg [(.v (.int Go.IntKind.i64 (a0_0))), (.v (.int Go.IntKind.i64 (a0_1)))])] (Ret.mk (.agg [(.v (.int Go.IntKind.i64 (f31_0 a0_0 a0_1))), (.v (.int Go.IntKind.i64 (f31_1 a0_0 a0_1)))]) []) := by
  refine soundAt mixed Go.Proofs.Ytlfojobligplkaa.Fn.ctx30_ok F31_ok ?_
  generalize hR : (fun r' : Ret => r' = (Ret.mk (.agg [(.v (.int Go.IntKind.i64 (f31_0 a0_0 a0_1))), (.v (.int Go.IntKind.i64 (f31_1 a0_0 a0_1)))]) [])) = R
  refine (show wpF Go.Proofs.Ytlfojobligplkaa.Fn.ctx30 F31 [(.agg [(.v (.int Go.IntKind.i64 (a0_0))), (.v (.int Go.IntKind.i64 (a0_1)))])] R = (R (Ret.mk (.agg [(.v (.int Go.IntKind.i64 (Go.IntKind.i64.wrap (Go.IntKind.i32.wrap a0_0)))), (.v (.int Go.IntKind.i64 (Go.IntKind.i64.wrap (Go.IntKind.i32.wrap a0_1))))]) [])) by kernel_rfl).mpr ?_
  subst hR
  unfold f31_0
  unfold f31_1
  rfl


def sum31 : List CV → Option (Bool × Ret)
  | [v0] => some (okA [some .i64, some .i64] v0, (Ret.mk (.agg [(.v (.int Go.IntKind.i64 (f31_0 (intC (cellA v0 0)) (intC (cellA v0 1))))), (.v (.int Go.IntKind.i64 (f31_1 (intC (cellA v0 0)) (intC (cellA v0 1)))))]) []))
  | _ => none

theorem sum31_ok : ∀ vs r, sum31 vs = some (true, r) → SoundAt Try.prog 31 vs r := by
  intro vs r h
  unfold sum31 at h
  split at h
  · simp only [Option.some.injEq, Prod.mk.injEq, Bool.and_eq_true, true_and] at h
    obtain ⟨h0, rfl⟩ := h
    rename_i v0
    refine okA_elim h0 (motive := fun v => SoundAt Try.prog 31 [v] _) ?_
    exact f31_sound _ _
  · cases h

def ctx31 : CtxQ := { Go.Proofs.Ytlfojobligplkaa.Fn.ctx30 with calls := (31, sum31) :: Go.Proofs.Ytlfojobligplkaa.Fn.ctx30.calls }

theorem ctx31_ok : CtxOk Try.prog ctx31.ctx := ctx_cons Go.Proofs.Ytlfojobligplkaa.Fn.ctx30_ok (by kernel_rfl) sum31_ok

/-! jetsam/jetsamref08.Norm -/
def F39 : SFn := ⟨10, [(.cell (2) .true (2))], (.seq (.reg [(.mk (.some (1)) (.box (.t (0))) .none), (.mk (.some (2)) (.alloc [(.int Go.IntKind.i64 (Int.ofNat 0)), (.int Go.IntKind.i64 (Int.ofNat 0))]) .none)]) (.seq (.seq (.reg [(.mk (.some (3)) (.fld (0) (.t (1))) .none), (.mk (.some (4)) (.load .false .false (1) [(.some .i64)] (.t (3))) .none), (.mk (.some (5)) (.fld (1) (.t (1))) .none), (.mk (.some (6)) (.load .false .false (1) [(.some .i64)] (.t (5))) .none), (.mk (.some (7)) (.bin .gtr (.t (4)) (.t (6))) .none)]) (.cond (.t (7)) (.seq (.reg [(.mk (.some (8)) (.build [(.int Go.IntKind.i64 (Int.ofNat 0)), (.int Go.IntKind.i64 (Int.ofNat 0))] [(.mk (0) (.mk (1) (.c (.int Go.IntKind.i64 (Int.ofNat 1))))), (.mk (1) (.mk (1) (.c (.int Go.IntKind.i64 (Int.ofNat 0)))))]) .none), (.mk .none (.store .false (2) (.t (2)) (.t (8))) .none)]) .ret) .skip)) (.seq (.reg [(.mk (.some (9)) (.load .false .true (2) [(.some .i64), (.some .i64)] (.t (1))) .none), (.mk .none (.store .false (2) (.t (2)) (.t (9))) .none)]) .ret)))⟩

theorem F39_ok : sfn Try.prog hints 39 [] = some F39 := by kernel_rfl

def f39_0 (a0_0 : Int) (a0_1 : Int) : Int := bif Decidable.decide (a0_0 > a0_1) then (Int.ofNat 1 : Int) else ((a0_0 : Int))

def f39_1 (a0_0 : Int) (a0_1 : Int) : Int := bif Decidable.decide (a0_0 > a0_1) then (Int.ofNat 0 : Int) else ((a0_1 : Int))

theorem f39_sound (a0_0 : Int) (a0_1 : Int) : SoundAt Try.prog 39 [(.agg [(.v (.int Go.IntKind.i64 (a0_0))), (.v (.int Go.IntKind.i64 (a0_1)))])] (Ret.mk (.agg [(.v (.int Go.IntKind.i64 (f39_0 a0_0 a0_1))), (.v (.int Go.IntKind.i64 (f39_1 a0_0 a0_1)))]) []) := by
  refine soundAt mixed Go.Proofs.Ytlfojobligplkaa.Fn.ctx31_ok F39_ok ?_
  generalize hR : (fun r' : Ret => r' = (Ret.mk (.agg [(.v (.int Go.IntKind.i64 (f39_0 a0_0 a0_1))), (.v (.int Go.IntKind.i64 (f39_1 a0_0 a0_1)))]) [])) = R
  refine (show wpF Go.Proofs.Ytlfojobligplkaa.Fn.ctx31 F39 [(.agg [(.v (.int Go.IntKind.i64 (a0_0))), (.v (.int Go.IntKind.i64 (a0_1)))])] R = (bif Decidable.decide (a0_0 > a0_1) then (R (Ret.mk (.agg [(.v (.int Go.IntKind.i64 (Int.ofNat 1))), (.v (.int Go.IntKind.i64 (Int.ofNat 0)))]) [])) else (R (Ret.mk (.agg [(.v (.int Go.IntKind.i64 (a0_0))), (.v (.int Go.IntKind.i64 (a0_1)))]) []))) by kernel_rfl).mpr ?_
  subst hR
  unfold f39_0
  unfold f39_1
  refine cond_i (fun q => ?_) (fun q => ?_)
  · (try rewrite [q])
    rfl
  · (try rewrite [q])
    rfl


def sum39 : List CV → Option (Bool × Ret)
  | [v0] => some (okA [some .i64, some .i64] v0, (Ret.mk (.agg [(.v (.int Go.IntKind.i64 (f39_0 (intC (cellA v0 0)) (intC (cellA v0 1))))), (.v (.int Go.IntKind.i64 (f39_1 (intC (cellA v0 0)) (intC (cellA v0 1)))))]) []))
  | _ => none

theorem sum39_ok : ∀ vs r, sum39 vs = some (true, r) → SoundAt Try.prog 39 vs r := by
  intro vs r h
  unfold sum39 at h
  split at h
  · simp only [Option.some.injEq, Prod.mk.injEq, Bool.and_eq_true, true_and] at h
    obtain ⟨h0, rfl⟩ := h
    rename_i v0
    refine okA_elim h0 (motive := fun v => SoundAt Try.prog 39 [v] _) ?_
    exact f39_sound _ _
  · cases h

def ctx39 : CtxQ := { Go.Proofs.Ytlfojobligplkaa.Fn.ctx31 with calls := (39, sum39) :: Go.Proofs.Ytlfojobligplkaa.Fn.ctx31.calls }

theorem ctx39_ok : CtxOk Try.prog ctx39.ctx := ctx_cons Go.Proofs.Ytlfojobligplkaa.Fn.ctx31_ok (by kernel_rfl) sum39_ok

/-! jetsam/jetsamref08.Cut -/
def F33 : SFn := ⟨18, [(.cell (4) .true (2)), (.tmp (5))], (.seq (.reg [(.mk (.some (4)) (.alloc [(.int Go.IntKind.i64 (Int.ofNat 0)), (.int Go.IntKind.i64 (Int.ofNat 0))]) .none), (.mk (.some (5)) (.mv (.c (.bool Bool.false))) .none)]) (.seq (.reg [(.mk (.some (6)) (.mv (.t (0))) .none), (.mk (.some (7)) (.mm .true [(.t (6)), (.c (.int Go.IntKind.i64 (Int.negSucc 2147483647)))]) .none), (.mk (.some (8)) (.mv (.t (1))) .none), (.mk (.some (9)) (.mm .false [(.t (8)), (.c (.int Go.IntKind.i64 (Int.ofNat 2147483647)))]) .none), (.mk (.some (10)) (.build [(.int Go.IntKind.i64 (Int.ofNat 0)), (.int Go.IntKind.i64 (Int.ofNat 0))] [(.mk (0) (.mk (1) (.t (7)))), (.mk (1) (.mk (1) (.t (9))))]) .none), (.mk (.some (11)) (.call .false .false (.f (39)) [(.t (10))]) .none), (.mk (.some (12)) (.mv (.t (0))) .none), (.mk (.some (13)) (.bin .lss (.t (12)) (.c (.int Go.IntKind.i64 (Int.negSucc 2147483647)))) .none), (.mk (.some (14)) (.mv (.t (13))) .none), (.mk (.some (15)) (.mv (.t (1))) (.some (.mk (14) .false))), (.mk (.some (16)) (.bin .gtr (.t (15)) (.c (.int Go.IntKind.i64 (Int.ofNat 2147483647)))) (.some (.mk (14) .false))), (.mk (.some (17)) (.pick (.t (14)) (.c (.bool Bool.true)) (.t (16))) .none), (.mk .none (.store .false (2) (.t (4)) (.t (11))) .none), (.mk (.some (5)) (.mv (.t (17))) .none)]) .ret))⟩

theorem F33_ok : sfn Try.prog hints 33 [] = some F33 := by kernel_rfl

def f33_0 (a0 : Int) (a1 : Int) : Int := bif Decidable.decide (a0 < Int.negSucc 2147483647) then (Go.Proofs.Ytlfojobligplkaa.Fn.f39_0 (if Int.negSucc 2147483647 > a0 then Int.negSucc 2147483647 else a0) (if Int.ofNat 2147483647 < a1 then Int.ofNat 2147483647 else a1) : Int) else ((Go.Proofs.Ytlfojobligplkaa.Fn.f39_0 (if Int.negSucc 2147483647 > a0 then Int.negSucc 2147483647 else a0) (if Int.ofNat 2147483647 < a1 then Int.ofNat 2147483647 else a1) : Int))

def f33_1 (a0 : Int) (a1 : Int) : Int := bif Decidable.decide (a0 < Int.negSucc 2147483647) then (Go.Proofs.Ytlfojobligplkaa.Fn.f39_1 (if Int.negSucc 2147483647 > a0 then Int.negSucc 2147483647 else a0) (if Int.ofNat 2147483647 < a1 then Int.ofNat 2147483647 else a1) : Int) else ((Go.Proofs.Ytlfojobligplkaa.Fn.f39_1 (if Int.negSucc 2147483647 > a0 then Int.negSucc 2147483647 else a0) (if Int.ofNat 2147483647 < a1 then Int.ofNat 2147483647 else a1) : Int))

def f33_2 (a0 : Int) (a1 : Int) : Bool := bif Decidable.decide (a0 < Int.negSucc 2147483647) then (Bool.true) else ((Decidable.decide (a1 > Int.ofNat 2147483647)))

theorem f33_sound (a0 : Int) (a1 : Int) : SoundAt Try.prog 33 [(.one (.v (.int Go.IntKind.i64 (a0)))), (.one (.v (.int Go.IntKind.i64 (a1))))] (Ret.mk (.tup [(.agg [(.v (.int Go.IntKind.i64 (f33_0 a0 a1))), (.v (.int Go.IntKind.i64 (f33_1 a0 a1)))]), (.one (.v (.bool (f33_2 a0 a1))))]) []) := by
  refine soundAt mixed Go.Proofs.Ytlfojobligplkaa.Fn.ctx39_ok F33_ok ?_
  generalize hR : (fun r' : Ret => r' = (Ret.mk (.tup [(.agg [(.v (.int Go.IntKind.i64 (f33_0 a0 a1))), (.v (.int Go.IntKind.i64 (f33_1 a0 a1)))]), (.one (.v (.bool (f33_2 a0 a1))))]) [])) = R
  refine (show wpF Go.Proofs.Ytlfojobligplkaa.Fn.ctx39 F33 [(.one (.v (.int Go.IntKind.i64 (a0)))), (.one (.v (.int Go.IntKind.i64 (a1))))] R = (bif Decidable.decide (a0 < Int.negSucc 2147483647) then (R (Ret.mk (.tup [(.agg [(.v (.int Go.IntKind.i64 (Go.Proofs.Ytlfojobligplkaa.Fn.f39_0 (if Int.negSucc 2147483647 > a0 then Int.negSucc 2147483647 else a0) (if Int.ofNat 2147483647 < a1 then Int.ofNat 2147483647 else a1)))), (.v (.int Go.IntKind.i64 (Go.Proofs.Ytlfojobligplkaa.Fn.f39_1 (if Int.negSucc 2147483647 > a0 then Int.negSucc 2147483647 else a0) (if Int.ofNat 2147483647 < a1 then Int.ofNat 2147483647 else a1))))]), (.one (.v (.bool (Bool.true))))]) [])) else (R (Ret.mk (.tup [(.agg [(.v (.int Go.IntKind.i64 (Go.Proofs.Ytlfojobligplkaa.Fn.f39_0 (if Int.negSucc 2147483647 > a0 then Int.negSucc 2147483647 else a0) (if Int.ofNat 2147483647 < a1 then Int.ofNat 2147483647 else a1)))), (.v (.int Go.IntKind.i64 (Go.Proofs.Ytlfojobligplkaa.Fn.f39_1 (if Int.negSucc 2147483647 > a0 then Int.negSucc 2147483647 else a0) (if Int.ofNat 2147483647 < a1 then Int.ofNat 2147483647 else a1))))]), (.one (.v (.bool (Decidable.decide (a1 > Int.ofNat 2147483647)))))]) []))) by kernel_rfl).mpr ?_
  subst hR
  unfold f33_0
  unfold f33_1
  unfold f33_2
  refine cond_i (fun q => ?_) (fun q => ?_)
  · (try rewrite [q])
    rfl
  · (try rewrite [q])
    rfl


def sum33 : List CV → Option (Bool × Ret)
  | [v0, v1] => some (okO (some .i64) v0 && okO (some .i64) v1, (Ret.mk (.tup [(.agg [(.v (.int Go.IntKind.i64 (f33_0 (intC (cellA v0 0)) (intC (cellA v1 0))))), (.v (.int Go.IntKind.i64 (f33_1 (intC (cellA v0 0)) (intC (cellA v1 0)))))]), (.one (.v (.bool (f33_2 (intC (cellA v0 0)) (intC (cellA v1 0))))))]) []))
  | _ => none

theorem sum33_ok : ∀ vs r, sum33 vs = some (true, r) → SoundAt Try.prog 33 vs r := by
  intro vs r h
  unfold sum33 at h
  split at h
  · simp only [Option.some.injEq, Prod.mk.injEq, Bool.and_eq_true, true_and] at h
    obtain ⟨⟨h0, h1⟩, rfl⟩ := h
    rename_i v0 v1
    refine okO_elim h0 (motive := fun v => SoundAt Try.prog 33 [v, v1] _) ?_
    refine okO_elim h1 (motive := fun v => SoundAt Try.prog 33 [_, v] _) ?_
    exact f33_sound _ _
  · cases h

def ctx33 : CtxQ := { Go.Proofs.Ytlfojobligplkaa.Fn.ctx39 with calls := (33, sum33) :: Go.Proofs.Ytlfojobligplkaa.Fn.ctx39.calls }

theorem ctx33_ok : CtxOk Try.prog ctx33.ctx := ctx_cons Go.Proofs.Ytlfojobligplkaa.Fn.ctx39_ok (by kernel_rfl) sum33_ok

/-! jetsam/jetsamlaw08.from -/
def F34 : SFn := ⟨8, [(.cell (2) .true (2))], (.seq (.reg [(.mk (.some (1)) (.box (.t (0))) .none), (.mk (.some (2)) (.alloc [(.int Go.IntKind.i64 (Int.ofNat 0)), (.int Go.IntKind.i64 (Int.ofNat 0))]) .none)]) (.seq (.reg [(.mk (.some (3)) (.fld (0) (.t (1))) .none), (.mk (.some (4)) (.load .false .false (1) [(.some .i64)] (.t (3))) .none), (.mk (.some (5)) (.fld (1) (.t (1))) .none), (.mk (.some (6)) (.load .false .false (1) [(.some .i64)] (.t (5))) .none), (.mk (.some (7)) (.build [(.int Go.IntKind.i64 (Int.ofNat 0)), (.int Go.IntKind.i64 (Int.ofNat 0))] [(.mk (0) (.mk (1) (.t (4)))), (.mk (1) (.mk (1) (.t (6))))]) .none), (.mk .none (.store .false (2) (.t (2)) (.t (7))) .none)]) .ret))⟩

theorem F34_ok : sfn Try.prog hints 34 [] = some F34 := by kernel_rfl

def f34_0 (a0_0 : Int) (a0_1 : Int) : Int := (a0_0 : Int)

def f34_1 (a0_0 : Int) (a0_1 : Int) : Int := (a0_1 : Int)

theorem f34_sound (a0_0 : Int) (a0_1 : Int) : SoundAt Try.prog 34 [(.agg [(.v (.int Go.IntKind.i64 (a0_0))), (.v (.int Go.IntKind.i64 (a0_1)))])] (Ret.mk (.agg [(.v (.int Go.IntKind.i64 (f34_0 a0_0 a0_1))), (.v (.int Go.IntKind.i64 (f34_1 a0_0 a0_1)))]) []) := by
  refine soundAt mixed Go.Proofs.Ytlfojobligplkaa.Fn.ctx33_ok F34_ok ?_
  generalize hR : (fun r' : Ret => r' = (Ret.mk (.agg [(.v (.int Go.IntKind.i64 (f34_0 a0_0 a0_1))), (.v (.int Go.IntKind.i64 (f34_1 a0_0 a0_1)))]) [])) = R
  refine (show wpF Go.Proofs.Ytlfojobligplkaa.Fn.ctx33 F34 [(.agg [(.v (.int Go.IntKind.i64 (a0_0))), (.v (.int Go.IntKind.i64 (a0_1)))])] R = (R (Ret.mk (.agg [(.v (.int Go.IntKind.i64 (a0_0))), (.v (.int Go.IntKind.i64 (a0_1)))]) [])) by kernel_rfl).mpr ?_
  subst hR
  unfold f34_0
  unfold f34_1
  rfl


def sum34 : List CV → Option (Bool × Ret)
  | [v0] => some (okA [some .i64, some .i64] v0, (Ret.mk (.agg [(.v (.int Go.IntKind.i64 (f34_0 (intC (cellA v0 0)) (intC (cellA v0 1))))), (.v (.int Go.IntKind.i64 (f34_1 (intC (cellA v0 0)) (intC (cellA v0 1)))))]) []))
  | _ => none

theorem sum34_ok : ∀ vs r, sum34 vs = some (true, r) → SoundAt Try.prog 34 vs r := by
  intro vs r h
  unfold sum34 at h
  split at h
  · simp only [Option.some.injEq, Prod.mk.injEq, Bool.and_eq_true, true_and] at h
    obtain ⟨h0, rfl⟩ := h
    rename_i v0
    refine okA_elim h0 (motive := fun v => SoundAt Try.prog 34 [v] _) ?_
    exact f34_sound _ _
  · cases h

def ctx34 : CtxQ := { Go.Proofs.Ytlfojobligplkaa.Fn.ctx33 with calls := (34, sum34) :: Go.Proofs.Ytlfojobligplkaa.Fn.ctx33.calls }

theorem ctx34_ok : CtxOk Try.prog ctx34.ctx := ctx_cons Go.Proofs.Ytlfojobligplkaa.Fn.ctx33_ok (by kernel_rfl) sum34_ok

/-! jetsam/itv.Narrow -/
def F41 : SFn := ⟨26, [(.cell (4) .true (2))], (.seq (.reg [(.mk (.some (2)) (.box (.t (0))) .none), (.mk (.some (3)) (.box (.t (1))) .none), (.mk (.some (4)) (.alloc [(.int Go.IntKind.i64 (Int.ofNat 0)), (.int Go.IntKind.i64 (Int.ofNat 0))]) .none)]) (.seq (.seq (.reg [(.mk (.some (5)) (.load .false .true (2) [(.some .i64), (.some .i64)] (.t (2))) .none), (.mk (.some (6)) (.call .false .false (.f (29)) [(.t (5))]) .none), (.mk (.some (7)) (.mv (.t (6))) .none), (.mk (.some (8)) (.load .false .true (2) [(.some .i64), (.some .i64)] (.t (3))) (.some (.mk (7) .false))), (.mk (.some (9)) (.call .false .false (.f (29)) [(.t (8))]) (.some (.mk (7) .false))), (.mk (.some (10)) (.pick (.t (7)) (.c (.bool Bool.true)) (.t (9))) .none)]) (.cond (.t (10)) (.seq (.reg [(.mk (.some (11)) (.call .false .false (.f (43)) []) .none), (.mk .none (.store .false (2) (.t (4)) (.t (11))) .none)]) .ret) .skip)) (.seq (.seq (.reg [(.mk (.some (12)) (.fld (0) (.t (2))) .none), (.mk (.some (13)) (.load .false .false (1) [(.some .i64)] (.t (12))) .none), (.mk (.some (14)) (.bin .eql (.t (13)) (.c (.int Go.IntKind.i64 (Int.negSucc 2147483647)))) .none)]) (.cond (.t (14)) (.reg [(.mk (.some (15)) (.fld (0) (.t (3))) .none), (.mk (.some (16)) (.load .false .false (1) [(.some .i64)] (.t (15))) .none), (.mk (.some (17)) (.fld (0) (.t (2))) .none), (.mk .none (.store .false (1) (.t (17)) (.t (16))) .none)]) .skip)) (.seq (.seq (.reg [(.mk (.some (18)) (.fld (1) (.t (2))) .none), (.mk (.some (19)) (.load .false .false (1) [(.some .i64)] (.t (18))) .none), (.mk (.some (20)) (.bin .eql (.t (19)) (.c (.int Go.IntKind.i64 (Int.ofNat 2147483647)))) .none)]) (.cond (.t (20)) (.reg [(.mk (.some (21)) (.fld (1) (.t (3))) .none), (.mk (.some (22)) (.load .false .false (1) [(.some .i64)] (.t (21))) .none), (.mk (.some (23)) (.fld (1) (.t (2))) .none), (.mk .none (.store .false (1) (.t (23)) (.t (22))) .none)]) .skip)) (.seq (.reg [(.mk (.some (24)) (.load .false .true (2) [(.some .i64), (.some .i64)] (.t (2))) .none), (.mk (.some (25)) (.call .false .false (.f (60)) [(.t (24))]) .none), (.mk .none (.store .false (2) (.t (4)) (.t (25))) .none)]) .ret)))))⟩

theorem F41_ok : sfn Try.prog hints 41 [] = some F41 := by kernel_rfl

def f41_0 (a0_0 : Int) (a0_1 : Int) (a1_0 : Int) (a1_1 : Int) : Int := bif Decidable.decide (a0_0 > a0_1) then (Go.Proofs.Ytlfojobligplkaa.Fn.f43_0 : Int) else (bif Decidable.decide (a1_0 > a1_1) then (Go.Proofs.Ytlfojobligplkaa.Fn.f43_0 : Int) else (bif a0_0 == Int.negSucc 2147483647 then bif a0_1 == Int.ofNat 2147483647 then (Go.Proofs.Ytlfojobligplkaa.Fn.f60_0 a1_0 a1_1 : Int) else ((Go.Proofs.Ytlfojobligplkaa.Fn.f60_0 a1_0 a0_1 : Int)) else (bif a0_1 == Int.ofNat 2147483647 then (Go.Proofs.Ytlfojobligplkaa.Fn.f60_0 a0_0 a1_1 : Int) else ((Go.Proofs.Ytlfojobligplkaa.Fn.f60_0 a0_0 a0_1 : Int)))))

def f41_1 (a0_0 : Int) (a0_1 : Int) (a1_0 : Int) (a1_1 : Int) : Int := bif Decidable.decide (a0_0 > a0_1) then (Go.Proofs.Ytlfojobligplkaa.Fn.f43_1 : Int) else (bif Decidable.decide (a1_0 > a1_1) then (Go.Proofs.Ytlfojobligplkaa.Fn.f43_1 : Int) else (bif a0_0 == Int.negSucc 2147483647 then bif a0_1 == Int.ofNat 2147483647 then (Go.Proofs.Ytlfojobligplkaa.Fn.f60_1 a1_0 a1_1 : Int) else ((Go.Proofs.Ytlfojobligplkaa.Fn.f60_1 a1_0 a0_1 : Int)) else (bif a0_1 == Int.ofNat 2147483647 then (Go.Proofs.Ytlfojobligplkaa.Fn.f60_1 a0_0 a1_1 : Int) else ((Go.Proofs.Ytlfojobligplkaa.Fn.f60_1 a0_0 a0_1 : Int)))))

theorem f41_sound (a0_0 : Int) (a0_1 : Int) (a1_0 : Int) (a1_1 : Int) : SoundAt Try.prog 41 [(.agg [(.v (.int Go.IntKind.i64 (a0_0))), (.v (.int Go.IntKind.i64 (a0_1)))]), (.agg [(.v (.int Go.IntKind.i64 (a1_0))), (.v (.int Go.IntKind.i64 (a1_1)))])] (Ret.mk (.agg [(.v (.int Go.IntKind.i64 (f41_0 a0_0 a0_1 a1_0 a1_1))), (.v (.int Go.IntKind.i64 (f41_1 a0_0 a0_1 a1_0 a1_1)))]) []) := by
  refine soundAt mixed Go.Proofs.Ytlfojobligplkaa.Fn.ctx34_ok F41_ok ?_
  generalize hR : (fun r' : Ret => r' = (Ret.mk (.agg [(.v (.int Go.IntKind.i64 (f41_0 a0_0 a0_1 a1_0 a1_1))), (.v (.int Go.IntKind.i64 (f41_1 a0_0 a0_1 a1_0 a1_1)))]) [])) = R
  refine (show wpF Go.Proofs.Ytlfojobligplkaa.Fn.ctx34 F41 [(.agg [(.v (.int Go.IntKind.i64 (a0_0))), (.v (.int Go.IntKind.i64 (a0_1)))]), (.agg [(.v (.int Go.IntKind.i64 (a1_0))), (.v (.int Go.IntKind.i64 (a1_1)))])] R = (bif Decidable.decide (a0_0 > a0_1) then (R (Ret.mk (.agg [(.v (.int Go.IntKind.i64 (Go.Proofs.Ytlfojobligplkaa.Fn.f43_0))), (.v (.int Go.IntKind.i64 (Go.Proofs.Ytlfojobligplkaa.Fn.f43_1)))]) [])) else (bif Decidable.decide (a1_0 > a1_1) then (R (Ret.mk (.agg [(.v (.int Go.IntKind.i64 (Go.Proofs.Ytlfojobligplkaa.Fn.f43_0))), (.v (.int Go.IntKind.i64 (Go.Proofs.Ytlfojobligplkaa.Fn.f43_1)))]) [])) else (bif a0_0 == Int.negSucc 2147483647 then (bif a0_1 == Int.ofNat 2147483647 then (R (Ret.mk (.agg [(.v (.int Go.IntKind.i64 (Go.Proofs.Ytlfojobligplkaa.Fn.f60_0 a1_0 a1_1))), (.v (.int Go.IntKind.i64 (Go.Proofs.Ytlfojobligplkaa.Fn.f60_1 a1_0 a1_1)))]) [])) else (R (Ret.mk (.agg [(.v (.int Go.IntKind.i64 (Go.Proofs.Ytlfojobligplkaa.Fn.f60_0 a1_0 a0_1))), (.v (.int Go.IntKind.i64 (Go.Proofs.Ytlfojobligplkaa.Fn.f60_1 a1_0 a0_1)))]) []))) else (bif a0_1 == Int.ofNat 2147483647 then (R (Ret.mk (.agg [(.v (.int Go.IntKind.i64 (Go.Proofs.Ytlfojobligplkaa.Fn.f60_0 a0_0 a1_1))), (.v (.int Go.IntKind.i64 (Go.Proofs.Ytlfojobligplkaa.Fn.f60_1 a0_0 a1_1)))]) [])) else (R (Ret.mk (.agg [(.v (.int Go.IntKind.i64 (Go.Proofs.Ytlfojobligplkaa.Fn.f60_0 a0_0 a0_1))), (.v (.int Go.IntKind.i64 (Go.Proofs.Ytlfojobligplkaa.Fn.f60_1 a0_0 a0_1)))]) [])))))) by kernel_rfl).mpr ?_
  subst hR
  unfold f41_0
  unfold f41_1
  refine cond_i (fun q => ?_) (fun q => ?_)
  · (try rewrite [q])
    rfl
  · (try rewrite [q])
    refine cond_i (fun q => ?_) (fun q => ?_)
    · (try rewrite [q])
      rfl
    · (try rewrite [q])
      refine cond_i (fun q => ?_) (fun q => ?_)
      · (try rewrite [q])
        refine cond_i (fun q => ?_) (fun q => ?_)
        · (try rewrite [q])
          rfl
        · (try rewrite [q])
          rfl
      · (try rewrite [q])
        refine cond_i (fun q => ?_) (fun q => ?_)
        · (try rewrite [q])
          rfl
        · (try rewrite [q])
          rfl


def sum41 : List CV → Option (Bool × Ret)
  | [v0, v1] => some (okA [some .i64, some .i64] v0 && okA [some .i64, some .i64] v1, (Ret.mk (.agg [(.v (.int Go.IntKind.i64 (f41_0 (intC (cellA v0 0)) (intC (cellA v0 1)) (intC (cellA v1 0)) (intC (cellA v1 1))))), (.v (.int Go.IntKind.i64 (f41_1 (intC (cellA v0 0)) (intC (cellA v0 1)) (intC (cellA v1 0)) (intC (cellA v1 1)))))]) []))
  | _ => none

theorem sum41_ok : ∀ vs r, sum41 vs = some (true, r) → SoundAt Try.prog 41 vs r := by
  intro vs r h
  unfold sum41 at h
  split at h
  · simp only [Option.some.injEq, Prod.mk.injEq, Bool.and_eq_true, true_and] at h
    obtain ⟨⟨h0, h1⟩, rfl⟩ := h
    rename_i v0 v1
    refine okA_elim h0 (motive := fun v => SoundAt Try.prog 41 [v, v1] _) ?_
    refine okA_elim h1 (motive := fun v => SoundAt Try.prog 41 [_, v] _) ?_
    exact f41_sound _ _ _ _
  · cases h

def ctx41 : CtxQ := { Go.Proofs.Ytlfojobligplkaa.Fn.ctx34 with calls := (41, sum41) :: Go.Proofs.Ytlfojobligplkaa.Fn.ctx34.calls }

theorem ctx41_ok : CtxOk Try.prog ctx41.ctx := ctx_cons Go.Proofs.Ytlfojobligplkaa.Fn.ctx34_ok (by kernel_rfl) sum41_ok

/-! jetsam/itv.Within -/
def F42 : SFn := ⟨21, [(.tmp (4))], (.seq (.reg [(.mk (.some (2)) (.box (.t (0))) .none), (.mk (.some (3)) (.box (.t (1))) .none), (.mk (.some (4)) (.mv (.c (.bool Bool.false))) .none)]) (.seq (.reg [(.mk (.some (5)) (.load .false .true (2) [(.some .i64), (.some .i64)] (.t (2))) .none), (.mk (.some (6)) (.call .false .false (.f (29)) [(.t (5))]) .none), (.mk (.some (7)) (.mv (.t (6))) .none), (.mk (.some (8)) (.fld (0) (.t (3))) (.some (.mk (7) .false))), (.mk (.some (9)) (.load .false .false (1) [(.some .i64)] (.t (8))) (.some (.mk (7) .false))), (.mk (.some (10)) (.fld (0) (.t (2))) (.some (.mk (7) .false))), (.mk (.some (11)) (.load .false .false (1) [(.some .i64)] (.t (10))) (.some (.mk (7) .false))), (.mk (.some (12)) (.bin .leq (.t (9)) (.t (11))) (.some (.mk (7) .false))), (.mk (.some (13)) (.mv (.t (12))) (.some (.mk (7) .false))), (.mk (.some (14)) (.fld (1) (.t (2))) (.some (.mk (13) .true))), (.mk (.some (15)) (.load .false .false (1) [(.some .i64)] (.t (14))) (.some (.mk (13) .true))), (.mk (.some (16)) (.fld (1) (.t (3))) (.some (.mk (13) .true))), (.mk (.some (17)) (.load .false .false (1) [(.some .i64)] (.t (16))) (.some (.mk (13) .true))), (.mk (.some (18)) (.bin .leq (.t (15)) (.t (17))) (.some (.mk (13) .true))), (.mk (.some (19)) (.pick (.t (13)) (.t (18)) (.c (.bool Bool.false))) (.some (.mk (7) .false))), (.mk (.some (20)) (.pick (.t (7)) (.c (.bool Bool.true)) (.t (19))) .none), (.mk (.some (4)) (.mv (.t (20))) .none)]) .ret))⟩

theorem F42_ok : sfn Try.prog hints 42 [] = some F42 := by kernel_rfl

def f42_0 (a0_0 : Int) (a0_1 : Int) (a1_0 : Int) (a1_1 : Int) : Bool := bif Decidable.decide (a0_0 > a0_1) then (Bool.true) else (bif Decidable.decide (a1_0 ≤ a0_0) then (Decidable.decide (a0_1 ≤ a1_1)) else ((Bool.false)))

theorem f42_sound (a0_0 : Int) (a0_1 : Int) (a1_0 : Int) (a1_1 : Int) : SoundAt Try.prog 42 [(.agg [(.v (.int Go.IntKind.i64 (a0_0))), (.v (.int Go.IntKind.i64 (a0_1)))]), (.agg [(.v (.int Go.IntKind.i64 (a1_0))), (.v (.int Go.IntKind.i64 (a1_1)))])] (Ret.mk (.one (.v (.bool (f42_0 a0_0 a0_1 a1_0 a1_1)))) []) := by
  refine soundAt mixed Go.Proofs.Ytlfojobligplkaa.Fn.ctx41_ok F42_ok ?_
  generalize hR : (fun r' : Ret => r' = (Ret.mk (.one (.v (.bool (f42_0 a0_0 a0_1 a1_0 a1_1)))) [])) = R
  refine (show wpF Go.Proofs.Ytlfojobligplkaa.Fn.ctx41 F42 [(.agg [(.v (.int Go.IntKind.i64 (a0_0))), (.v (.int Go.IntKind.i64 (a0_1)))]), (.agg [(.v (.int Go.IntKind.i64 (a1_0))), (.v (.int Go.IntKind.i64 (a1_1)))])] R = (bif Decidable.decide (a0_0 > a0_1) then (R (Ret.mk (.one (.v (.bool (Bool.true)))) [])) else (bif Decidable.decide (a1_0 ≤ a0_0) then (R (Ret.mk (.one (.v (.bool (Decidable.decide (a0_1 ≤ a1_1))))) [])) else (R (Ret.mk (.one (.v (.bool (Bool.false)))) [])))) by kernel_rfl).mpr ?_
  subst hR
  unfold f42_0
  refine cond_i (fun q => ?_) (fun q => ?_)
  · (try rewrite [q])
    rfl
  · (try rewrite [q])
    refine cond_i (fun q => ?_) (fun q => ?_)
    · (try rewrite [q])
      rfl
    · (try rewrite [q])
      rfl


def sum42 : List CV → Option (Bool × Ret)
  | [v0, v1] => some (okA [some .i64, some .i64] v0 && okA [some .i64, some .i64] v1, (Ret.mk (.one (.v (.bool (f42_0 (intC (cellA v0 0)) (intC (cellA v0 1)) (intC (cellA v1 0)) (intC (cellA v1 1)))))) []))
  | _ => none

theorem sum42_ok : ∀ vs r, sum42 vs = some (true, r) → SoundAt Try.prog 42 vs r := by
  intro vs r h
  unfold sum42 at h
  split at h
  · simp only [Option.some.injEq, Prod.mk.injEq, Bool.and_eq_true, true_and] at h
    obtain ⟨⟨h0, h1⟩, rfl⟩ := h
    rename_i v0 v1
    refine okA_elim h0 (motive := fun v => SoundAt Try.prog 42 [v, v1] _) ?_
    refine okA_elim h1 (motive := fun v => SoundAt Try.prog 42 [_, v] _) ?_
    exact f42_sound _ _ _ _
  · cases h

def ctx42 : CtxQ := { Go.Proofs.Ytlfojobligplkaa.Fn.ctx41 with calls := (42, sum42) :: Go.Proofs.Ytlfojobligplkaa.Fn.ctx41.calls }

theorem ctx42_ok : CtxOk Try.prog ctx42.ctx := ctx_cons Go.Proofs.Ytlfojobligplkaa.Fn.ctx41_ok (by kernel_rfl) sum42_ok

/-! jetsam/itv.Widen -/
def F44 : SFn := ⟨27, [(.cell (4) .true (2))], (.seq (.reg [(.mk (.some (2)) (.box (.t (0))) .none), (.mk (.some (3)) (.box (.t (1))) .none), (.mk (.some (4)) (.alloc [(.int Go.IntKind.i64 (Int.ofNat 0)), (.int Go.IntKind.i64 (Int.ofNat 0))]) .none)]) (.seq (.blk (0) (.seq (.reg [(.mk (.some (6)) (.load .false .true (2) [(.some .i64), (.some .i64)] (.t (2))) .none), (.mk (.some (7)) (.call .false .false (.f (29)) [(.t (6))]) .none), (.mk (.some (5)) (.mv (.t (7))) .none)]) (.cond (.t (5)) (.seq (.reg [(.mk (.some (8)) (.load .false .true (2) [(.some .i64), (.some .i64)] (.t (3))) .none), (.mk (.some (9)) (.call .false .false (.f (60)) [(.t (8))]) .none), (.mk .none (.store .false (2) (.t (4)) (.t (9))) .none)]) .ret) (.seq (.reg [(.mk (.some (11)) (.load .false .true (2) [(.some .i64), (.some .i64)] (.t (3))) .none), (.mk (.some (12)) (.call .false .false (.f (29)) [(.t (11))]) .none), (.mk (.some (10)) (.mv (.t (12))) .none)]) (.cond (.t (10)) (.seq (.reg [(.mk (.some (13)) (.load .false .true (2) [(.some .i64), (.some .i64)] (.t (2))) .none), (.mk .none (.store .false (2) (.t (4)) (.t (13))) .none)]) .ret) .skip))))) (.seq (.seq (.reg [(.mk (.some (14)) (.fld (0) (.t (3))) .none), (.mk (.some (15)) (.load .false .false (1) [(.some .i64)] (.t (14))) .none), (.mk (.some (16)) (.fld (0) (.t (2))) .none), (.mk (.some (17)) (.load .false .false (1) [(.some .i64)] (.t (16))) .none), (.mk (.some (18)) (.bin .lss (.t (15)) (.t (17))) .none)]) (.cond (.t (18)) (.reg [(.mk (.some (19)) (.fld (0) (.t (2))) .none), (.mk .none (.store .false (1) (.t (19)) (.c (.int Go.IntKind.i64 (Int.negSucc 2147483647)))) .none)]) .skip)) (.seq (.seq (.reg [(.mk (.some (20)) (.fld (1) (.t (3))) .none), (.mk (.some (21)) (.load .false .false (1) [(.some .i64)] (.t (20))) .none), (.mk (.some (22)) (.fld (1) (.t (2))) .none), (.mk (.some (23)) (.load .false .false (1) [(.some .i64)] (.t (22))) .none), (.mk (.some (24)) (.bin .gtr (.t (21)) (.t (23))) .none)]) (.cond (.t (24)) (.reg [(.mk (.some (25)) (.fld (1) (.t (2))) .none), (.mk .none (.store .false (1) (.t (25)) (.c (.int Go.IntKind.i64 (Int.ofNat 2147483647)))) .none)]) .skip)) (.seq (.reg [(.mk (.some (26)) (.load .false .true (2) [(.some .i64), (.some .i64)] (.t (2))) .none), (.mk .none (.store .false (2) (.t (4)) (.t (26))) .none)]) .ret)))))⟩

theorem F44_ok : sfn Try.prog hints 44 [] = some F44 := by kernel_rfl

def f44_0 (a0_0 : Int) (a0_1 : Int) (a1_0 : Int) (a1_1 : Int) : Int := bif Decidable.decide (a0_0 > a0_1) then (Go.Proofs.Ytlfojobligplkaa.Fn.f60_0 a1_0 a1_1 : Int) else (bif Decidable.decide (a1_0 > a1_1) then (a0_0 : Int) else (bif Decidable.decide (a1_0 < a0_0) then bif Decidable.decide (a1_1 > a0_1) then (Int.negSucc 2147483647 : Int) else ((Int.negSucc 2147483647 : Int)) else (bif Decidable.decide (a1_1 > a0_1) then (a0_0 : Int) else ((a0_0 : Int)))))

def f44_1 (a0_0 : Int) (a0_1 : Int) (a1_0 : Int) (a1_1 : Int) : Int := bif Decidable.decide (a0_0 > a0_1) then (Go.Proofs.Ytlfojobligplkaa.Fn.f60_1 a1_0 a1_1 : Int) else (bif Decidable.decide (a1_0 > a1_1) then (a0_1 : Int) else (bif Decidable.decide (a1_0 < a0_0) then bif Decidable.decide (a1_1 > a0_1) then (Int.ofNat 2147483647 : Int) else ((a0_1 : Int)) else (bif Decidable.decide (a1_1 > a0_1) then (Int.ofNat 2147483647 : Int) else ((a0_1 : Int)))))

theorem f44_sound (a0_0 : Int) (a0_1 : Int) (a1_0 : Int) (a1_1 : Int) : SoundAt Try.prog 44 [(.agg [(.v (.int Go.IntKind.i64 (a0_0))), (.v (.int Go.IntKind.i64 (a0_1)))]), (.agg [(.v (.int Go.IntKind.i64 (a1_0))), (.v (.int Go.IntKind.i64 (a1_1)))])] (Ret.mk (.agg [(.v (.int Go.IntKind.i64 (f44_0 a0_0 a0_1 a1_0 a1_1))), (.v (.int Go.IntKind.i64 (f44_1 a0_0 a0_1 a1_0 a1_1)))]) []) := by
  refine soundAt mixed Go.Proofs.Ytlfojobligplkaa.Fn.ctx42_ok F44_ok ?_
  generalize hR : (fun r' : Ret => r' = (Ret.mk (.agg [(.v (.int Go.IntKind.i64 (f44_0 a0_0 a0_1 a1_0 a1_1))), (.v (.int Go.IntKind.i64 (f44_1 a0_0 a0_1 a1_0 a1_1)))]) [])) = R
  refine (show wpF Go.Proofs.Ytlfojobligplkaa.Fn.ctx42 F44 [(.agg [(.v (.int Go.IntKind.i64 (a0_0))), (.v (.int Go.IntKind.i64 (a0_1)))]), (.agg [(.v (.int Go.IntKind.i64 (a1_0))), (.v (.int Go.IntKind.i64 (a1_1)))])] R = (bif Decidable.decide (a0_0 > a0_1) then (R (Ret.mk (.agg [(.v (.int Go.IntKind.i64 (Go.Proofs.Ytlfojobligplkaa.Fn.f60_0 a1_0 a1_1))), (.v (.int Go.IntKind.i64 (Go.Proofs.Ytlfojobligplkaa.Fn.f60_1 a1_0 a1_1)))]) [])) else (bif Decidable.decide (a1_0 > a1_1) then (R (Ret.mk (.agg [(.v (.int Go.IntKind.i64 (a0_0))), (.v (.int Go.IntKind.i64 (a0_1)))]) [])) else (bif Decidable.decide (a1_0 < a0_0) then (bif Decidable.decide (a1_1 > a0_1) then (R (Ret.mk (.agg [(.v (.int Go.IntKind.i64 (Int.negSucc 2147483647))), (.v (.int Go.IntKind.i64 (Int.ofNat 2147483647)))]) [])) else (R (Ret.mk (.agg [(.v (.int Go.IntKind.i64 (Int.negSucc 2147483647))), (.v (.int Go.IntKind.i64 (a0_1)))]) []))) else (bif Decidable.decide (a1_1 > a0_1) then (R (Ret.mk (.agg [(.v (.int Go.IntKind.i64 (a0_0))), (.v (.int Go.IntKind.i64 (Int.ofNat 2147483647)))]) [])) else (R (Ret.mk (.agg [(.v (.int Go.IntKind.i64 (a0_0))), (.v (.int Go.IntKind.i64 (a0_1)))]) [])))))) by kernel_rfl).mpr ?_
  subst hR
  unfold f44_0
  unfold f44_1
  refine cond_i (fun q => ?_) (fun q => ?_)
  · (try rewrite [q])
    rfl
  · (try rewrite [q])
    refine cond_i (fun q => ?_) (fun q => ?_)
    · (try rewrite [q])
      rfl
    · (try rewrite [q])
      refine cond_i (fun q => ?_) (fun q => ?_)
      · (try rewrite [q])
        refine cond_i (fun q => ?_) (fun q => ?_)
        · (try rewrite [q])
          rfl
        · (try rewrite [q])
          rfl
      · (try rewrite [q])
        refine cond_i (fun q => ?_) (fun q => ?_)
        · (try rewrite [q])
          rfl
        · (try rewrite [q])
          rfl


def sum44 : List CV → Option (Bool × Ret)
  | [v0, v1] => some (okA [some .i64, some .i64] v0 && okA [some .i64, some .i64] v1, (Ret.mk (.agg [(.v (.int Go.IntKind.i64 (f44_0 (intC (cellA v0 0)) (intC (cellA v0 1)) (intC (cellA v1 0)) (intC (cellA v1 1))))), (.v (.int Go.IntKind.i64 (f44_1 (intC (cellA v0 0)) (intC (cellA v0 1)) (intC (cellA v1 0)) (intC (cellA v1 1)))))]) []))
  | _ => none

theorem sum44_ok : ∀ vs r, sum44 vs = some (true, r) → SoundAt Try.prog 44 vs r := by
  intro vs r h
  unfold sum44 at h
  split at h
  · simp only [Option.some.injEq, Prod.mk.injEq, Bool.and_eq_true, true_and] at h
    obtain ⟨⟨h0, h1⟩, rfl⟩ := h
    rename_i v0 v1
    refine okA_elim h0 (motive := fun v => SoundAt Try.prog 44 [v, v1] _) ?_
    refine okA_elim h1 (motive := fun v => SoundAt Try.prog 44 [_, v] _) ?_
    exact f44_sound _ _ _ _
  · cases h

def ctx44 : CtxQ := { Go.Proofs.Ytlfojobligplkaa.Fn.ctx42 with calls := (44, sum44) :: Go.Proofs.Ytlfojobligplkaa.Fn.ctx42.calls }

theorem ctx44_ok : CtxOk Try.prog ctx44.ctx := ctx_cons Go.Proofs.Ytlfojobligplkaa.Fn.ctx42_ok (by kernel_rfl) sum44_ok

/-! jetsam/jetsamref08.Has -/
def F49 : SFn := ⟨15, [(.tmp (4))], (.seq (.reg [(.mk (.some (2)) (.box (.t (0))) .none), (.mk (.some (4)) (.mv (.c (.bool Bool.false))) .none)]) (.seq (.reg [(.mk (.some (5)) (.fld (0) (.t (2))) .none), (.mk (.some (6)) (.load .false .false (1) [(.some .i64)] (.t (5))) .none), (.mk (.some (7)) (.mv (.t (1))) .none), (.mk (.some (8)) (.bin .leq (.t (6)) (.t (7))) .none), (.mk (.some (9)) (.mv (.t (8))) .none), (.mk (.some (10)) (.mv (.t (1))) (.some (.mk (9) .true))), (.mk (.some (11)) (.fld (1) (.t (2))) (.some (.mk (9) .true))), (.mk (.some (12)) (.load .false .false (1) [(.some .i64)] (.t (11))) (.some (.mk (9) .true))), (.mk (.some (13)) (.bin .leq (.t (10)) (.t (12))) (.some (.mk (9) .true))), (.mk (.some (14)) (.pick (.t (9)) (.t (13)) (.c (.bool Bool.false))) .none), (.mk (.some (4)) (.mv (.t (14))) .none)]) .ret))⟩

theorem F49_ok : sfn Try.prog hints 49 [] = some F49 := by kernel_rfl

def f49_0 (a0_0 : Int) (a0_1 : Int) (a1 : Int) : Bool := bif Decidable.decide (a0_0 ≤ a1) then (Decidable.decide (a1 ≤ a0_1)) else ((Bool.false))

theorem f49_sound (a0_0 : Int) (a0_1 : Int) (a1 : Int) : SoundAt Try.prog 49 [(.agg [(.v (.int Go.IntKind.i64 (a0_0))), (.v (.int Go.IntKind.i64 (a0_1)))]), (.one (.v (.int Go.IntKind.i64 (a1))))] (Ret.mk (.one (.v (.bool (f49_0 a0_0 a0_1 a1)))) []) := by
  refine soundAt mixed Go.Proofs.Ytlfojobligplkaa.Fn.ctx44_ok F49_ok ?_
  generalize hR : (fun r' : Ret => r' = (Ret.mk (.one (.v (.bool (f49_0 a0_0 a0_1 a1)))) [])) = R
  refine (show wpF Go.Proofs.Ytlfojobligplkaa.Fn.ctx44 F49 [(.agg [(.v (.int Go.IntKind.i64 (a0_0))), (.v (.int Go.IntKind.i64 (a0_1)))]), (.one (.v (.int Go.IntKind.i64 (a1))))] R = (bif Decidable.decide (a0_0 ≤ a1) then (R (Ret.mk (.one (.v (.bool (Decidable.decide (a1 ≤ a0_1))))) [])) else (R (Ret.mk (.one (.v (.bool (Bool.false)))) []))) by kernel_rfl).mpr ?_
  subst hR
  unfold f49_0
  refine cond_i (fun q => ?_) (fun q => ?_)
  · (try rewrite [q])
    rfl
  · (try rewrite [q])
    rfl


def sum49 : List CV → Option (Bool × Ret)
  | [v0, v1] => some (okA [some .i64, some .i64] v0 && okO (some .i64) v1, (Ret.mk (.one (.v (.bool (f49_0 (intC (cellA v0 0)) (intC (cellA v0 1)) (intC (cellA v1 0)))))) []))
  | _ => none

theorem sum49_ok : ∀ vs r, sum49 vs = some (true, r) → SoundAt Try.prog 49 vs r := by
  intro vs r h
  unfold sum49 at h
  split at h
  · simp only [Option.some.injEq, Prod.mk.injEq, Bool.and_eq_true, true_and] at h
    obtain ⟨⟨h0, h1⟩, rfl⟩ := h
    rename_i v0 v1
    refine okA_elim h0 (motive := fun v => SoundAt Try.prog 49 [v, v1] _) ?_
    refine okO_elim h1 (motive := fun v => SoundAt Try.prog 49 [_, v] _) ?_
    exact f49_sound _ _ _
  · cases h

def ctx49 : CtxQ := { Go.Proofs.Ytlfojobligplkaa.Fn.ctx44 with calls := (49, sum49) :: Go.Proofs.Ytlfojobligplkaa.Fn.ctx44.calls }

theorem ctx49_ok : CtxOk Try.prog ctx49.ctx := ctx_cons Go.Proofs.Ytlfojobligplkaa.Fn.ctx44_ok (by kernel_rfl) sum49_ok

/-! jetsam/jetsamref08.Join -/
def F50 : SFn := ⟨29, [(.cell (4) .true (2))], (.seq (.reg [(.mk (.some (2)) (.box (.t (0))) .none), (.mk (.some (3)) (.box (.t (1))) .none), (.mk (.some (4)) (.alloc [(.int Go.IntKind.i64 (Int.ofNat 0)), (.int Go.IntKind.i64 (Int.ofNat 0))]) .none)]) (.seq (.seq (.reg [(.mk (.some (5)) (.fld (0) (.t (2))) .none), (.mk (.some (6)) (.load .false .false (1) [(.some .i64)] (.t (5))) .none), (.mk (.some (7)) (.fld (1) (.t (2))) .none), (.mk (.some (8)) (.load .false .false (1) [(.some .i64)] (.t (7))) .none), (.mk (.some (9)) (.bin .gtr (.t (6)) (.t (8))) .none)]) (.cond (.t (9)) (.seq (.reg [(.mk (.some (10)) (.load .false .true (2) [(.some .i64), (.some .i64)] (.t (3))) .none), (.mk (.some (11)) (.call .false .false (.f (39)) [(.t (10))]) .none), (.mk .none (.store .false (2) (.t (4)) (.t (11))) .none)]) .ret) .skip)) (.seq (.seq (.reg [(.mk (.some (12)) (.fld (0) (.t (3))) .none), (.mk (.some (13)) (.load .false .false (1) [(.some .i64)] (.t (12))) .none), (.mk (.some (14)) (.fld (1) (.t (3))) .none), (.mk (.some (15)) (.load .false .false (1) [(.some .i64)] (.t (14))) .none), (.mk (.some (16)) (.bin .gtr (.t (13)) (.t (15))) .none)]) (.cond (.t (16)) (.seq (.reg [(.mk (.some (17)) (.load .false .true (2) [(.some .i64), (.some .i64)] (.t (2))) .none), (.mk .none (.store .false (2) (.t (4)) (.t (17))) .none)]) .ret) .skip)) (.seq (.reg [(.mk (.some (18)) (.fld (0) (.t (2))) .none), (.mk (.some (19)) (.load .false .false (1) [(.some .i64)] (.t (18))) .none), (.mk (.some (20)) (.fld (0) (.t (3))) .none), (.mk (.some (21)) (.load .false .false (1) [(.some .i64)] (.t (20))) .none), (.mk (.some (22)) (.mm .false [(.t (19)), (.t (21))]) .none), (.mk (.some (23)) (.fld (1) (.t (2))) .none), (.mk (.some (24)) (.load .false .false (1) [(.some .i64)] (.t (23))) .none), (.mk (.some (25)) (.fld (1) (.t (3))) .none), (.mk (.some (26)) (.load .false .false (1) [(.some .i64)] (.t (25))) .none), (.mk (.some (27)) (.mm .true [(.t (24)), (.t (26))]) .none), (.mk (.some (28)) (.build [(.int Go.IntKind.i64 (Int.ofNat 0)), (.int Go.IntKind.i64 (Int.ofNat 0))] [(.mk (0) (.mk (1) (.t (22)))), (.mk (1) (.mk (1) (.t (27))))]) .none), (.mk .none (.store .false (2) (.t (4)) (.t (28))) .none)]) .ret))))⟩

theorem F50_ok : sfn Try.prog hints 50 [] = some F50 := by kernel_rfl

def f50_0 (a0_0 : Int) (a0_1 : Int) (a1_0 : Int) (a1_1 : Int) : Int := bif Decidable.decide (a0_0 > a0_1) then (Go.Proofs.Ytlfojobligplkaa.Fn.f39_0 a1_0 a1_1 : Int) else (bif Decidable.decide (a1_0 > a1_1) then (a0_0 : Int) else ((if a1_0 < a0_0 then a1_0 else a0_0 : Int)))

def f50_1 (a0_0 : Int) (a0_1 : Int) (a1_0 : Int) (a1_1 : Int) : Int := bif Decidable.decide (a0_0 > a0_1) then (Go.Proofs.Ytlfojobligplkaa.Fn.f39_1 a1_0 a1_1 : Int) else (bif Decidable.decide (a1_0 > a1_1) then (a0_1 : Int) else ((if a1_1 > a0_1 then a1_1 else a0_1 : Int)))

theorem f50_sound (a0_0 : Int) (a0_1 : Int) (a1_0 : Int) (a1_1 : Int) : SoundAt Try.prog 50 [(.agg [(.v (.int Go.IntKind.i64 (a0_0))), (.v (.int Go.IntKind.i64 (a0_1)))]), (.agg [(.v (.int Go.IntKind.i64 (a1_0))), (.v (.int Go.IntKind.i64 (a1_1)))])] (Ret.mk (.agg [(.v (.int Go.IntKind.i64 (f50_0 a0_0 a0_1 a1_0 a1_1))), (.v (.int Go.IntKind.i64 (f50_1 a0_0 a0_1 a1_0 a1_1)))]) []) := by
  refine soundAt mixed Go.Proofs.Ytlfojobligplkaa.Fn.ctx49_ok F50_ok ?_
  generalize hR : (fun r' : Ret => r' = (Ret.mk (.agg [(.v (.int Go.IntKind.i64 (f50_0 a0_0 a0_1 a1_0 a1_1))), (.v (.int Go.IntKind.i64 (f50_1 a0_0 a0_1 a1_0 a1_1)))]) [])) = R
  refine (show wpF Go.Proofs.Ytlfojobligplkaa.Fn.ctx49 F50 [(.agg [(.v (.int Go.IntKind.i64 (a0_0))), (.v (.int Go.IntKind.i64 (a0_1)))]), (.agg [(.v (.int Go.IntKind.i64 (a1_0))), (.v (.int Go.IntKind.i64 (a1_1)))])] R = (bif Decidable.decide (a0_0 > a0_1) then (R (Ret.mk (.agg [(.v (.int Go.IntKind.i64 (Go.Proofs.Ytlfojobligplkaa.Fn.f39_0 a1_0 a1_1))), (.v (.int Go.IntKind.i64 (Go.Proofs.Ytlfojobligplkaa.Fn.f39_1 a1_0 a1_1)))]) [])) else (bif Decidable.decide (a1_0 > a1_1) then (R (Ret.mk (.agg [(.v (.int Go.IntKind.i64 (a0_0))), (.v (.int Go.IntKind.i64 (a0_1)))]) [])) else (R (Ret.mk (.agg [(.v (.int Go.IntKind.i64 (if a1_0 < a0_0 then a1_0 else a0_0))), (.v (.int Go.IntKind.i64 (if a1_1 > a0_1 then a1_1 else a0_1)))]) [])))) by kernel_rfl).mpr ?_
  subst hR
  unfold f50_0
  unfold f50_1
  refine cond_i (fun q => ?_) (fun q => ?_)
  · (try rewrite [q])
    rfl
  · (try rewrite [q])
    refine cond_i (fun q => ?_) (fun q => ?_)
    · (try rewrite [q])
      rfl
    · (try rewrite [q])
      rfl


def sum50 : List CV → Option (Bool × Ret)
  | [v0, v1] => some (okA [some .i64, some .i64] v0 && okA [some .i64, some .i64] v1, (Ret.mk (.agg [(.v (.int Go.IntKind.i64 (f50_0 (intC (cellA v0 0)) (intC (cellA v0 1)) (intC (cellA v1 0)) (intC (cellA v1 1))))), (.v (.int Go.IntKind.i64 (f50_1 (intC (cellA v0 0)) (intC (cellA v0 1)) (intC (cellA v1 0)) (intC (cellA v1 1)))))]) []))
  | _ => none

theorem sum50_ok : ∀ vs r, sum50 vs = some (true, r) → SoundAt Try.prog 50 vs r := by
  intro vs r h
  unfold sum50 at h
  split at h
  · simp only [Option.some.injEq, Prod.mk.injEq, Bool.and_eq_true, true_and] at h
    obtain ⟨⟨h0, h1⟩, rfl⟩ := h
    rename_i v0 v1
    refine okA_elim h0 (motive := fun v => SoundAt Try.prog 50 [v, v1] _) ?_
    refine okA_elim h1 (motive := fun v => SoundAt Try.prog 50 [_, v] _) ?_
    exact f50_sound _ _ _ _
  · cases h

def ctx50 : CtxQ := { Go.Proofs.Ytlfojobligplkaa.Fn.ctx49 with calls := (50, sum50) :: Go.Proofs.Ytlfojobligplkaa.Fn.ctx49.calls }

theorem ctx50_ok : CtxOk Try.prog ctx50.ctx := ctx_cons Go.Proofs.Ytlfojobligplkaa.Fn.ctx49_ok (by kernel_rfl) sum50_ok

/-! jetsam/jetsamref08.Widen -/
def F51 : SFn := ⟨31, [(.cell (4) .true (2))], (.seq (.reg [(.mk (.some (2)) (.box (.t (0))) .none), (.mk (.some (3)) (.box (.t (1))) .none), (.mk (.some (4)) (.alloc [(.int Go.IntKind.i64 (Int.ofNat 0)), (.int Go.IntKind.i64 (Int.ofNat 0))]) .none)]) (.seq (.seq (.reg [(.mk (.some (5)) (.fld (0) (.t (2))) .none), (.mk (.some (6)) (.load .false .false (1) [(.some .i64)] (.t (5))) .none), (.mk (.some (7)) (.fld (1) (.t (2))) .none), (.mk (.some (8)) (.load .false .false (1) [(.some .i64)] (.t (7))) .none), (.mk (.some (9)) (.bin .gtr (.t (6)) (.t (8))) .none)]) (.cond (.t (9)) (.seq (.reg [(.mk (.some (10)) (.load .false .true (2) [(.some .i64), (.some .i64)] (.t (3))) .none), (.mk (.some (11)) (.call .false .false (.f (39)) [(.t (10))]) .none), (.mk .none (.store .false (2) (.t (4)) (.t (11))) .none)]) .ret) .skip)) (.seq (.seq (.reg [(.mk (.some (12)) (.fld (0) (.t (3))) .none), (.mk (.some (13)) (.load .false .false (1) [(.some .i64)] (.t (12))) .none), (.mk (.some (14)) (.fld (1) (.t (3))) .none), (.mk (.some (15)) (.load .false .false (1) [(.some .i64)] (.t (14))) .none), (.mk (.some (16)) (.bin .gtr (.t (13)) (.t (15))) .none)]) (.cond (.t (16)) (.seq (.reg [(.mk (.some (17)) (.load .false .true (2) [(.some .i64), (.some .i64)] (.t (2))) .none), (.mk .none (.store .false (2) (.t (4)) (.t (17))) .none)]) .ret) .skip)) (.seq (.seq (.reg [(.mk (.some (18)) (.fld (0) (.t (3))) .none), (.mk (.some (19)) (.load .false .false (1) [(.some .i64)] (.t (18))) .none), (.mk (.some (20)) (.fld (0) (.t (2))) .none), (.mk (.some (21)) (.load .false .false (1) [(.some .i64)] (.t (20))) .none), (.mk (.some (22)) (.bin .lss (.t (19)) (.t (21))) .none)]) (.cond (.t (22)) (.reg [(.mk (.some (23)) (.fld (0) (.t (2))) .none), (.mk .none (.store .false (1) (.t (23)) (.c (.int Go.IntKind.i64 (Int.negSucc 2147483647)))) .none)]) .skip)) (.seq (.seq (.reg [(.mk (.some (24)) (.fld (1) (.t (3))) .none), (.mk (.some (25)) (.load .false .false (1) [(.some .i64)] (.t (24))) .none), (.mk (.some (26)) (.fld (1) (.t (2))) .none), (.mk (.some (27)) (.load .false .false (1) [(.some .i64)] (.t (26))) .none), (.mk (.some (28)) (.bin .gtr (.t (25)) (.t (27))) .none)]) (.cond (.t (28)) (.reg [(.mk (.some (29)) (.fld (1) (.t (2))) .none), (.mk .none (.store .false (1) (.t (29)) (.c (.int Go.IntKind.i64 (Int.ofNat 2147483647)))) .none)]) .skip)) (.seq (.reg [(.mk (.some (30)) (.load .false .true (2) [(.some .i64), (.some .i64)] (.t (2))) .none), (.mk .none (.store .false (2) (.t (4)) (.t (30))) .none)]) .ret))))))⟩

theorem F51_ok : sfn Try.prog hints 51 [] = some F51 := by kernel_rfl

def f51_0 (a0_0 : Int) (a0_1 : Int) (a1_0 : Int) (a1_1 : Int) : Int := bif Decidable.decide (a0_0 > a0_1) then (Go.Proofs.Ytlfojobligplkaa.Fn.f39_0 a1_0 a1_1 : Int) else (bif Decidable.decide (a1_0 > a1_1) then (a0_0 : Int) else (bif Decidable.decide (a1_0 < a0_0) then bif Decidable.decide (a1_1 > a0_1) then (Int.negSucc 2147483647 : Int) else ((Int.negSucc 2147483647 : Int)) else (bif Decidable.decide (a1_1 > a0_1) then (a0_0 : Int) else ((a0_0 : Int)))))

def f51_1 (a0_0 : Int) (a0_1 : Int) (a1_0 : Int) (a1_1 : Int) : Int := bif Decidable.decide (a0_0 > a0_1) then (Go.Proofs.Ytlfojobligplkaa.Fn.f39_1 a1_0 a1_1 : Int) else (bif Decidable.decide (a1_0 > a1_1) then (a0_1 : Int) else (bif Decidable.decide (a1_0 < a0_0) then bif Decidable.decide (a1_1 > a0_1) then (Int.ofNat 2147483647 : Int) else ((a0_1 : Int)) else (bif Decidable.decide (a1_1 > a0_1) then (Int.ofNat 2147483647 : Int) else ((a0_1 : Int)))))

theorem f51_sound (a0_0 : Int) (a0_1 : Int) (a1_0 : Int) (a1_1 : Int) : SoundAt Try.prog 51 [(.agg [(.v (.int Go.IntKind.i64 (a0_0))), (.v (.int Go.IntKind.i64 (a0_1)))]), (.agg [(.v (.int Go.IntKind.i64 (a1_0))), (.v (.int Go.IntKind.i64 (a1_1)))])] (Ret.mk (.agg [(.v (.int Go.IntKind.i64 (f51_0 a0_0 a0_1 a1_0 a1_1))), (.v (.int Go.IntKind.i64 (f51_1 a0_0 a0_1 a1_0 a1_1)))]) []) := by
  refine soundAt mixed Go.Proofs.Ytlfojobligplkaa.Fn.ctx50_ok F51_ok ?_
  generalize hR : (fun r' : Ret => r' = (Ret.mk (.agg [(.v (.int Go.IntKind.i64 (f51_0 a0_0 a0_1 a1_0 a1_1))), (.v (.int Go.IntKind.i64 (f51_1 a0_0 a0_1 a1_0 a1_1)))]) [])) = R
  refine (show wpF Go.Proofs.Ytlfojobligplkaa.Fn.ctx50 F51 [(.agg [(.v (.int Go.IntKind.i64 (a0_0))), (.v (.int Go.IntKind.i64 (a0_1)))]), (.agg [(.v (.int Go.IntKind.i64 (a1_0))), (.v (.int Go.IntKind.i64 (a1_1)))])] R = (bif Decidable.decide (a0_0 > a0_1) then (R (Ret.mk (.agg [(.v (.int Go.IntKind.i64 (Go.Proofs.Ytlfojobligplkaa.Fn.f39_0 a1_0 a1_1))), (.v (.int Go.IntKind.i64 (Go.Proofs.Ytlfojobligplkaa.Fn.f39_1 a1_0 a1_1)))]) [])) else (bif Decidable.decide (a1_0 > a1_1) then (R (Ret.mk (.agg [(.v (.int Go.IntKind.i64 (a0_0))), (.v (.int Go.IntKind.i64 (a0_1)))]) [])) else (bif Decidable.decide (a1_0 < a0_0) then (bif Decidable.decide (a1_1 > a0_1) then (R (Ret.mk (.agg [(.v (.int Go.IntKind.i64 (Int.negSucc 2147483647))), (.v (.int Go.IntKind.i64 (Int.ofNat 2147483647)))]) [])) else (R (Ret.mk (.agg [(.v (.int Go.IntKind.i64 (Int.negSucc 2147483647))), (.v (.int Go.IntKind.i64 (a0_1)))]) []))) else (bif Decidable.decide (a1_1 > a0_1) then (R (Ret.mk (.agg [(.v (.int Go.IntKind.i64 (a0_0))), (.v (.int Go.IntKind.i64 (Int.ofNat 2147483647)))]) [])) else (R (Ret.mk (.agg [(.v (.int Go.IntKind.i64 (a0_0))), (.v (.int Go.IntKind.i64 (a0_1)))]) [])))))) by kernel_rfl).mpr ?_
  subst hR
  unfold f51_0
  unfold f51_1
  refine cond_i (fun q => ?_) (fun q => ?_)
  · (try rewrite [q])
    rfl
  · (try rewrite [q])
    refine cond_i (fun q => ?_) (fun q => ?_)
    · (try rewrite [q])
      rfl
    · (try rewrite [q])
      refine cond_i (fun q => ?_) (fun q => ?_)
      · (try rewrite [q])
        refine cond_i (fun q => ?_) (fun q => ?_)
        · (try rewrite [q])
          rfl
        · (try rewrite [q])
          rfl
      · (try rewrite [q])
        refine cond_i (fun q => ?_) (fun q => ?_)
        · (try rewrite [q])
          rfl
        · (try rewrite [q])
          rfl


def sum51 : List CV → Option (Bool × Ret)
  | [v0, v1] => some (okA [some .i64, some .i64] v0 && okA [some .i64, some .i64] v1, (Ret.mk (.agg [(.v (.int Go.IntKind.i64 (f51_0 (intC (cellA v0 0)) (intC (cellA v0 1)) (intC (cellA v1 0)) (intC (cellA v1 1))))), (.v (.int Go.IntKind.i64 (f51_1 (intC (cellA v0 0)) (intC (cellA v0 1)) (intC (cellA v1 0)) (intC (cellA v1 1)))))]) []))
  | _ => none

theorem sum51_ok : ∀ vs r, sum51 vs = some (true, r) → SoundAt Try.prog 51 vs r := by
  intro vs r h
  unfold sum51 at h
  split at h
  · simp only [Option.some.injEq, Prod.mk.injEq, Bool.and_eq_true, true_and] at h
    obtain ⟨⟨h0, h1⟩, rfl⟩ := h
    rename_i v0 v1
    refine okA_elim h0 (motive := fun v => SoundAt Try.prog 51 [v, v1] _) ?_
    refine okA_elim h1 (motive := fun v => SoundAt Try.prog 51 [_, v] _) ?_
    exact f51_sound _ _ _ _
  · cases h

def ctx51 : CtxQ := { Go.Proofs.Ytlfojobligplkaa.Fn.ctx50 with calls := (51, sum51) :: Go.Proofs.Ytlfojobligplkaa.Fn.ctx50.calls }

theorem ctx51_ok : CtxOk Try.prog ctx51.ctx := ctx_cons Go.Proofs.Ytlfojobligplkaa.Fn.ctx50_ok (by kernel_rfl) sum51_ok

/-! jetsam/jetsamref08.Narrow -/
def F52 : SFn := ⟨32, [(.cell (4) .true (2))], (.seq (.reg [(.mk (.some (2)) (.box (.t (0))) .none), (.mk (.some (3)) (.box (.t (1))) .none), (.mk (.some (4)) (.alloc [(.int Go.IntKind.i64 (Int.ofNat 0)), (.int Go.IntKind.i64 (Int.ofNat 0))]) .none)]) (.seq (.seq (.reg [(.mk (.some (5)) (.fld (0) (.t (2))) .none), (.mk (.some (6)) (.load .false .false (1) [(.some .i64)] (.t (5))) .none), (.mk (.some (7)) (.fld (1) (.t (2))) .none), (.mk (.some (8)) (.load .false .false (1) [(.some .i64)] (.t (7))) .none), (.mk (.some (9)) (.bin .gtr (.t (6)) (.t (8))) .none), (.mk (.some (10)) (.mv (.t (9))) .none), (.mk (.some (11)) (.fld (0) (.t (3))) (.some (.mk (10) .false))), (.mk (.some (12)) (.load .false .false (1) [(.some .i64)] (.t (11))) (.some (.mk (10) .false))), (.mk (.some (13)) (.fld (1) (.t (3))) (.some (.mk (10) .false))), (.mk (.some (14)) (.load .false .false (1) [(.some .i64)] (.t (13))) (.some (.mk (10) .false))), (.mk (.some (15)) (.bin .gtr (.t (12)) (.t (14))) (.some (.mk (10) .false))), (.mk (.some (16)) (.pick (.t (10)) (.c (.bool Bool.true)) (.t (15))) .none)]) (.cond (.t (16)) (.seq (.reg [(.mk (.some (17)) (.build [(.int Go.IntKind.i64 (Int.ofNat 0)), (.int Go.IntKind.i64 (Int.ofNat 0))] [(.mk (0) (.mk (1) (.c (.int Go.IntKind.i64 (Int.ofNat 1))))), (.mk (1) (.mk (1) (.c (.int Go.IntKind.i64 (Int.ofNat 0)))))]) .none), (.mk .none (.store .false (2) (.t (4)) (.t (17))) .none)]) .ret) .skip)) (.seq (.seq (.reg [(.mk (.some (18)) (.fld (0) (.t (2))) .none), (.mk (.some (19)) (.load .false .false (1) [(.some .i64)] (.t (18))) .none), (.mk (.some (20)) (.bin .eql (.t (19)) (.c (.int Go.IntKind.i64 (Int.negSucc 2147483647)))) .none)]) (.cond (.t (20)) (.reg [(.mk (.some (21)) (.fld (0) (.t (3))) .none), (.mk (.some (22)) (.load .false .false (1) [(.some .i64)] (.t (21))) .none), (.mk (.some (23)) (.fld (0) (.t (2))) .none), (.mk .none (.store .false (1) (.t (23)) (.t (22))) .none)]) .skip)) (.seq (.seq (.reg [(.mk (.some (24)) (.fld (1) (.t (2))) .none), (.mk (.some (25)) (.load .false .false (1) [(.some .i64)] (.t (24))) .none), (.mk (.some (26)) (.bin .eql (.t (25)) (.c (.int Go.IntKind.i64 (Int.ofNat 2147483647)))) .none)]) (.cond (.t (26)) (.reg [(.mk (.some (27)) (.fld (1) (.t (3))) .none), (.mk (.some (28)) (.load .false .false (1) [(.some .i64)] (.t (27))) .none), (.mk (.some (29)) (.fld (1) (.t (2))) .none), (.mk .none (.store .false (1) (.t (29)) (.t (28))) .none)]) .skip)) (.seq (.reg [(.mk (.some (30)) (.load .false .true (2) [(.some .i64), (.some .i64)] (.t (2))) .none), (.mk (.some (31)) (.call .false .false (.f (39)) [(.t (30))]) .none), (.mk .none (.store .false (2) (.t (4)) (.t (31))) .none)]) .ret)))))⟩

theorem F52_ok : sfn Try.prog hints 52 [] = some F52 := by kernel_rfl

def f52_0 (a0_0 : Int) (a0_1 : Int) (a1_0 : Int) (a1_1 : Int) : Int := bif Decidable.decide (a0_0 > a0_1) then (Int.ofNat 1 : Int) else (bif Decidable.decide (a1_0 > a1_1) then (Int.ofNat 1 : Int) else (bif a0_0 == Int.negSucc 2147483647 then bif a0_1 == Int.ofNat 2147483647 then (Go.Proofs.Ytlfojobligplkaa.Fn.f39_0 a1_0 a1_1 : Int) else ((Go.Proofs.Ytlfojobligplkaa.Fn.f39_0 a1_0 a0_1 : Int)) else (bif a0_1 == Int.ofNat 2147483647 then (Go.Proofs.Ytlfojobligplkaa.Fn.f39_0 a0_0 a1_1 : Int) else ((Go.Proofs.Ytlfojobligplkaa.Fn.f39_0 a0_0 a0_1 : Int)))))

def f52_1 (a0_0 : Int) (a0_1 : Int) (a1_0 : Int) (a1_1 : Int) : Int := bif Decidable.decide (a0_0 > a0_1) then (Int.ofNat 0 : Int) else (bif Decidable.decide (a1_0 > a1_1) then (Int.ofNat 0 : Int) else (bif a0_0 == Int.negSucc 2147483647 then bif a0_1 == Int.ofNat 2147483647 then (Go.Proofs.Ytlfojobligplkaa.Fn.f39_1 a1_0 a1_1 : Int) else ((Go.Proofs.Ytlfojobligplkaa.Fn.f39_1 a1_0 a0_1 : Int)) else (bif a0_1 == Int.ofNat 2147483647 then (Go.Proofs.Ytlfojobligplkaa.Fn.f39_1 a0_0 a1_1 : Int) else ((Go.Proofs.Ytlfojobligplkaa.Fn.f39_1 a0_0 a0_1 : Int)))))

theorem f52_sound (a0_0 : Int) (a0_1 : Int) (a1_0 : Int) (a1_1 : Int) : SoundAt Try.prog 52 [(.agg [(.v (.int Go.IntKind.i64 (a0_0))), (.v (.int Go.IntKind.i64 (a0_1)))]), (.agg [(.v (.int Go.IntKind.i64 (a1_0))), (.v (.int Go.IntKind.i64 (a1_1)))])] (Ret.mk (.agg [(.v (.int Go.IntKind.i64 (f52_0 a0_0 a0_1 a1_0 a1_1))), (.v (.int Go.IntKind.i64 (f52_1 a0_0 a0_1 a1_0 a1_1)))]) []) := by
  refine soundAt mixed Go.Proofs.Ytlfojobligplkaa.Fn.ctx51_ok F52_ok ?_
  generalize hR : (fun r' : Ret => r' = (Ret.mk (.agg [(.v (.int Go.IntKind.i64 (f52_0 a0_0 a0_1 a1_0 a1_1))), (.v (.int Go.IntKind.i64 (f52_1 a0_0 a0_1 a1_0 a1_1)))]) [])) = R
  refine (show wpF Go.Proofs.Ytlfojobligplkaa.Fn.ctx51 F52 [(.agg [(.v (.int Go.IntKind.i64 (a0_0))), (.v (.int Go.IntKind.i64 (a0_1)))]), (.agg [(.v (.int Go.IntKind.i64 (a1_0))), (.v (.int Go.IntKind.i64 (a1_1)))])] R = (bif Decidable.decide (a0_0 > a0_1) then (R (Ret.mk (.agg [(.v (.int Go.IntKind.i64 (Int.ofNat 1))), (.v (.int Go.IntKind.i64 (Int.ofNat 0)))]) [])) else (bif Decidable.decide (a1_0 > a1_1) then (R (Ret.mk (.agg [(.v (.int Go.IntKind.i64 (Int.ofNat 1))), (.v (.int Go.IntKind.i64 (Int.ofNat 0)))]) [])) else (bif a0_0 == Int.negSucc 2147483647 then (bif a0_1 == Int.ofNat 2147483647 then (R (Ret.mk (.agg [(.v (.int Go.IntKind.i64 (Go.Proofs.Ytlfojobligplkaa.Fn.f39_0 a1_0 a1_1))), (.v (.int Go.IntKind.i64 (Go.Proofs.Ytlfojobligplkaa.Fn.f39_1 a1_0 a1_1)))]) [])) else (R (Ret.mk (.agg [(.v (.int Go.IntKind.i64 (Go.Proofs.Ytlfojobligplkaa.Fn.f39_0 a1_0 a0_1))), (.v (.int Go.IntKind.i64 (Go.Proofs.Ytlfojobligplkaa.Fn.f39_1 a1_0 a0_1)))]) []))) else (bif a0_1 == Int.ofNat 2147483647 then (R (Ret.mk (.agg [(.v (.int Go.IntKind.i64 (Go.Proofs.Ytlfojobligplkaa.Fn.f39_0 a0_0 a1_1))), (.v (.int Go.IntKind.i64 (Go.Proofs.Ytlfojobligplkaa.Fn.f39_1 a0_0 a1_1)))]) [])) else (R (Ret.mk (.agg [(.v (.int Go.IntKind.i64 (Go.Proofs.Ytlfojobligplkaa.Fn.f39_0 a0_0 a0_1))), (.v (.int Go.IntKind.i64 (Go.Proofs.Ytlfojobligplkaa.Fn.f39_1 a0_0 a0_1)))]) [])))))) by kernel_rfl).mpr ?_
  subst hR
  unfold f52_0
  unfold f52_1
  refine cond_i (fun q => ?_) (fun q => ?_)
  · (try rewrite [q])
    rfl
  · (try rewrite [q])
    refine cond_i (fun q => ?_) (fun q => ?_)
    · (try rewrite [q])
      rfl
    · (try rewrite [q])
      refine cond_i (fun q => ?_) (fun q => ?_)
      · (try rewrite [q])
        refine cond_i (fun q => ?_) (fun q => ?_)
        · (try rewrite [q])
          rfl
        · (try rewrite [q])
          rfl
      · (try rewrite [q])
        refine cond_i (fun q => ?_) (fun q => ?_)
        · (try rewrite [q])
          rfl
        · (try rewrite [q])
          rfl


def sum52 : List CV → Option (Bool × Ret)
  | [v0, v1] => some (okA [some .i64, some .i64] v0 && okA [some .i64, some .i64] v1, (Ret.mk (.agg [(.v (.int Go.IntKind.i64 (f52_0 (intC (cellA v0 0)) (intC (cellA v0 1)) (intC (cellA v1 0)) (intC (cellA v1 1))))), (.v (.int Go.IntKind.i64 (f52_1 (intC (cellA v0 0)) (intC (cellA v0 1)) (intC (cellA v1 0)) (intC (cellA v1 1)))))]) []))
  | _ => none

theorem sum52_ok : ∀ vs r, sum52 vs = some (true, r) → SoundAt Try.prog 52 vs r := by
  intro vs r h
  unfold sum52 at h
  split at h
  · simp only [Option.some.injEq, Prod.mk.injEq, Bool.and_eq_true, true_and] at h
    obtain ⟨⟨h0, h1⟩, rfl⟩ := h
    rename_i v0 v1
    refine okA_elim h0 (motive := fun v => SoundAt Try.prog 52 [v, v1] _) ?_
    refine okA_elim h1 (motive := fun v => SoundAt Try.prog 52 [_, v] _) ?_
    exact f52_sound _ _ _ _
  · cases h

def ctx52 : CtxQ := { Go.Proofs.Ytlfojobligplkaa.Fn.ctx51 with calls := (52, sum52) :: Go.Proofs.Ytlfojobligplkaa.Fn.ctx51.calls }

theorem ctx52_ok : CtxOk Try.prog ctx52.ctx := ctx_cons Go.Proofs.Ytlfojobligplkaa.Fn.ctx51_ok (by kernel_rfl) sum52_ok

/-! jetsam/itv.unequal -/
def F68 : SFn := ⟨31, [(.cell (4) .true (2))], (.seq (.reg [(.mk (.some (2)) (.box (.t (0))) .none), (.mk (.some (3)) (.box (.t (1))) .none), (.mk (.some (4)) (.alloc [(.int Go.IntKind.i64 (Int.ofNat 0)), (.int Go.IntKind.i64 (Int.ofNat 0))]) .none)]) (.seq (.seq (.reg [(.mk (.some (5)) (.fld (0) (.t (3))) .none), (.mk (.some (6)) (.load .false .false (1) [(.some .i64)] (.t (5))) .none), (.mk (.some (7)) (.fld (1) (.t (3))) .none), (.mk (.some (8)) (.load .false .false (1) [(.some .i64)] (.t (7))) .none), (.mk (.some (9)) (.bin .neq (.t (6)) (.t (8))) .none)]) (.cond (.t (9)) (.seq (.reg [(.mk (.some (10)) (.load .false .true (2) [(.some .i64), (.some .i64)] (.t (2))) .none), (.mk .none (.store .false (2) (.t (4)) (.t (10))) .none)]) .ret) .skip)) (.seq (.seq (.reg [(.mk (.some (11)) (.fld (0) (.t (2))) .none), (.mk (.some (12)) (.load .false .false (1) [(.some .i64)] (.t (11))) .none), (.mk (.some (13)) (.fld (0) (.t (3))) .none), (.mk (.some (14)) (.load .false .false (1) [(.some .i64)] (.t (13))) .none), (.mk (.some (15)) (.bin .eql (.t (12)) (.t (14))) .none)]) (.cond (.t (15)) (.reg [(.mk (.some (16)) (.fld (0) (.t (2))) .none), (.mk (.some (17)) (.load .false .false (1) [(.some .i64)] (.t (16))) .none), (.mk (.some (18)) (.bin .add (.t (17)) (.c (.int Go.IntKind.i64 (Int.ofNat 1)))) .none), (.mk (.some (19)) (.fld (0) (.t (2))) .none), (.mk .none (.store .false (1) (.t (19)) (.t (18))) .none)]) .skip)) (.seq (.seq (.reg [(.mk (.some (20)) (.fld (1) (.t (2))) .none), (.mk (.some (21)) (.load .false .false (1) [(.some .i64)] (.t (20))) .none), (.mk (.some (22)) (.fld (0) (.t (3))) .none), (.mk (.some (23)) (.load .false .false (1) [(.some .i64)] (.t (22))) .none), (.mk (.some (24)) (.bin .eql (.t (21)) (.t (23))) .none)]) (.cond (.t (24)) (.reg [(.mk (.some (25)) (.fld (1) (.t (2))) .none), (.mk (.some (26)) (.load .false .false (1) [(.some .i64)] (.t (25))) .none), (.mk (.some (27)) (.bin .sub (.t (26)) (.c (.int Go.IntKind.i64 (Int.ofNat 1)))) .none), (.mk (.some (28)) (.fld (1) (.t (2))) .none), (.mk .none (.store .false (1) (.t (28)) (.t (27))) .none)]) .skip)) (.seq (.reg [(.mk (.some (29)) (.load .false .true (2) [(.some .i64), (.some .i64)] (.t (2))) .none), (.mk (.some (30)) (.call .false .false (.f (60)) [(.t (29))]) .none), (.mk .none (.store .false (2) (.t (4)) (.t (30))) .none)]) .ret)))))⟩

theorem F68_ok : sfn Try.prog hints 68 [] = some F68 := by kernel_rfl

def f68_0 (a0_0 : Int) (a0_1 : Int) (a1_0 : Int) (a1_1 : Int) : Int := bif a1_0 != a1_1 then (a0_0 : Int) else (bif a0_0 == a1_0 then bif a0_1 == a1_0 then (Go.Proofs.Ytlfojobligplkaa.Fn.f60_0 (Go.IntKind.i64.wrap (a0_0 + Int.ofNat 1)) (Go.IntKind.i64.wrap (a0_1 - Int.ofNat 1)) : Int) else ((Go.Proofs.Ytlfojobligplkaa.Fn.f60_0 (Go.IntKind.i64.wrap (a0_0 + Int.ofNat 1)) a0_1 : Int)) else (bif a0_1 == a1_0 then (Go.Proofs.Ytlfojobligplkaa.Fn.f60_0 a0_0 (Go.IntKind.i64.wrap (a0_1 - Int.ofNat 1)) : Int) else ((Go.Proofs.Ytlfojobligplkaa.Fn.f60_0 a0_0 a0_1 : Int))))

def f68_1 (a0_0 : Int) (a0_1 : Int) (a1_0 : Int) (a1_1 : Int) : Int := bif a1_0 != a1_1 then (a0_1 : Int) else (bif a0_0 == a1_0 then bif a0_1 == a1_0 then (Go.Proofs.Ytlfojobligplkaa.Fn.f60_1 (Go.IntKind.i64.wrap (a0_0 + Int.ofNat 1)) (Go.IntKind.i64.wrap (a0_1 - Int.ofNat 1)) : Int) else ((Go.Proofs.Ytlfojobligplkaa.Fn.f60_1 (Go.IntKind.i64.wrap (a0_0 + Int.ofNat 1)) a0_1 : Int)) else (bif a0_1 == a1_0 then (Go.Proofs.Ytlfojobligplkaa.Fn.f60_1 a0_0 (Go.IntKind.i64.wrap (a0_1 - Int.ofNat 1)) : Int) else ((Go.Proofs.Ytlfojobligplkaa.Fn.f60_1 a0_0 a0_1 : Int))))

theorem f68_sound (a0_0 : Int) (a0_1 : Int) (a1_0 : Int) (a1_1 : Int) : SoundAt Try.prog 68 [(.agg [(.v (.int Go.IntKind.i64 (a0_0))), (.v (.int Go.IntKind.i64 (a0_1)))]), (.agg [(.v (.int Go.IntKind.i64 (a1_0))), (.v (.int Go.IntKind.i64 (a1_1)))])] (Ret.mk (.agg [(.v (.int Go.IntKind.i64 (f68_0 a0_0 a0_1 a1_0 a1_1))), (.v (.int Go.IntKind.i64 (f68_1 a0_0 a0_1 a1_0 a1_1)))]) []) := by
  refine soundAt mixed Go.Proofs.Ytlfojobligplkaa.Fn.ctx52_ok F68_ok ?_
  generalize hR : (fun r' : Ret => r' = (Ret.mk (.agg [(.v (.int Go.IntKind.i64 (f68_0 a0_0 a0_1 a1_0 a1_1))), (.v (.int Go.IntKind.i64 (f68_1 a0_0 a0_1 a1_0 a1_1)))]) [])) = R
  refine (show wpF Go.Proofs.Ytlfojobligplkaa.Fn.ctx52 F68 [(.agg [(.v (.int Go.IntKind.i64 (a0_0))), (.v (.int Go.IntKind.i64 (a0_1)))]), (.agg [(.v (.int Go.IntKind.i64 (a1_0))), (.v (.int Go.IntKind.i64 (a1_1)))])] R = (bif a1_0 != a1_1 then (R (Ret.mk (.agg [(.v (.int Go.IntKind.i64 (a0_0))), (.v (.int Go.IntKind.i64 (a0_1)))]) [])) else (bif a0_0 == a1_0 then (bif a0_1 == a1_0 then (R (Ret.mk (.agg [(.v (.int Go.IntKind.i64 (Go.Proofs.Ytlfojobligplkaa.Fn.f60_0 (Go.IntKind.i64.wrap (a0_0 + Int.ofNat 1)) (Go.IntKind.i64.wrap (a0_1 - Int.ofNat 1))))), (.v (.int Go.IntKind.i64 (Go.Proofs.Ytlfojobligplkaa.Fn.f60_1 (Go.IntKind.i64.wrap (a0_0 + Int.ofNat 1)) (Go.IntKind.i64.wrap (a0_1 - Int.ofNat 1)))))]) [])) else (R (Ret.mk (.agg [(.v (.int Go.IntKind.i64 (Go.Proofs.Ytlfojobligplkaa.Fn.f60_0 (Go.IntKind.i64.wrap (a0_0 + Int.ofNat 1)) a0_1))), (.v (.int Go.IntKind.i64 (Go.Proofs.Ytlfojobligplkaa.Fn.f60_1 (Go.IntKind.i64.wrap (a0_0 + Int.ofNat 1)) a0_1)))]) []))) else (bif a0_1 == a1_0 then (R (Ret.mk (.agg [(.v (.int Go.IntKind.i64 (Go.Proofs.Ytlfojobligplkaa.Fn.f60_0 a0_0 (Go.IntKind.i64.wrap (a0_1 - Int.ofNat 1))))), (.v (.int Go.IntKind.i64 (Go.Proofs.Ytlfojobligplkaa.Fn.f60_1 a0_0 (Go.IntKind.i64.wrap (a0_1 - Int.ofNat 1)))))]) [])) else (R (Ret.mk (.agg [(.v (.int Go.IntKind.i64 (Go.Proofs.Ytlfojobligplkaa.Fn.f60_0 a0_0 a0_1))), (.v (.int Go.IntKind.i64 (Go.Proofs.Ytlfojobligplkaa.Fn.f60_1 a0_0 a0_1)))]) []))))) by kernel_rfl).mpr ?_
  subst hR
  unfold f68_0
  unfold f68_1
  refine cond_i (fun q => ?_) (fun q => ?_)
  · (try rewrite [q])
    rfl
  · (try rewrite [q])
    refine cond_i (fun q => ?_) (fun q => ?_)
    · (try rewrite [q])
      refine cond_i (fun q => ?_) (fun q => ?_)
      · (try rewrite [q])
        rfl
      · (try rewrite [q])
        rfl
    · (try rewrite [q])
      refine cond_i (fun q => ?_) (fun q => ?_)
      · (try rewrite [q])
        rfl
      · (try rewrite [q])
        rfl


def sum68 : List CV → Option (Bool × Ret)
  | [v0, v1] => some (okA [some .i64, some .i64] v0 && okA [some .i64, some .i64] v1, (Ret.mk (.agg [(.v (.int Go.IntKind.i64 (f68_0 (intC (cellA v0 0)) (intC (cellA v0 1)) (intC (cellA v1 0)) (intC (cellA v1 1))))), (.v (.int Go.IntKind.i64 (f68_1 (intC (cellA v0 0)) (intC (cellA v0 1)) (intC (cellA v1 0)) (intC (cellA v1 1)))))]) []))
  | _ => none

theorem sum68_ok : ∀ vs r, sum68 vs = some (true, r) → SoundAt Try.prog 68 vs r := by
  intro vs r h
  unfold sum68 at h
  split at h
  · simp only [Option.some.injEq, Prod.mk.injEq, Bool.and_eq_true, true_and] at h
    obtain ⟨⟨h0, h1⟩, rfl⟩ := h
    rename_i v0 v1
    refine okA_elim h0 (motive := fun v => SoundAt Try.prog 68 [v, v1] _) ?_
    refine okA_elim h1 (motive := fun v => SoundAt Try.prog 68 [_, v] _) ?_
    exact f68_sound _ _ _ _
  · cases h

def ctx68 : CtxQ := { Go.Proofs.Ytlfojobligplkaa.Fn.ctx52 with calls := (68, sum68) :: Go.Proofs.Ytlfojobligplkaa.Fn.ctx52.calls }

theorem ctx68_ok : CtxOk Try.prog ctx68.ctx := ctx_cons Go.Proofs.Ytlfojobligplkaa.Fn.ctx52_ok (by kernel_rfl) sum68_ok

/-! jetsam/jetsamref08.Holds -/
def F56 : SFn := ⟨40, [(.tmp (6))], (.seq (.reg [(.mk (.some (6)) (.mv (.c (.bool Bool.false))) .none)]) (.seq (.seq (.reg [(.mk (.some (7)) (.mv (.t (0))) .none)]) (.blk (0) (.seq (.reg [(.mk (.some (9)) (.bin .eql (.t (7)) (.c (.int Go.IntKind.i64 (Int.ofNat 1)))) .none), (.mk (.some (8)) (.mv (.t (9))) .none)]) (.cond (.t (8)) (.seq (.reg [(.mk (.some (10)) (.mv (.t (1))) .none), (.mk (.some (11)) (.mv (.t (2))) .none), (.mk (.some (12)) (.bin .eql (.t (10)) (.t (11))) .none), (.mk (.some (6)) (.mv (.t (12))) .none)]) .ret) (.seq (.reg [(.mk (.some (14)) (.bin .eql (.t (7)) (.c (.int Go.IntKind.i64 (Int.ofNat 2)))) .none), (.mk (.some (13)) (.mv (.t (14))) .none)]) (.cond (.t (13)) (.seq (.reg [(.mk (.some (15)) (.mv (.t (1))) .none), (.mk (.some (16)) (.mv (.t (2))) .none), (.mk (.some (17)) (.bin .neq (.t (15)) (.t (16))) .none), (.mk (.some (6)) (.mv (.t (17))) .none)]) .ret) (.seq (.reg [(.mk (.some (19)) (.bin .eql (.t (7)) (.c (.int Go.IntKind.i64 (Int.ofNat 3)))) .none), (.mk (.some (18)) (.mv (.t (19))) .none)]) (.cond (.t (18)) (.seq (.reg [(.mk (.some (20)) (.mv (.t (1))) .none), (.mk (.some (21)) (.mv (.t (2))) .none), (.mk (.some (22)) (.bin .lss (.t (20)) (.t (21))) .none), (.mk (.some (6)) (.mv (.t (22))) .none)]) .ret) (.seq (.reg [(.mk (.some (24)) (.bin .eql (.t (7)) (.c (.int Go.IntKind.i64 (Int.ofNat 4)))) .none), (.mk (.some (23)) (.mv (.t (24))) .none)]) (.cond (.t (23)) (.seq (.reg [(.mk (.some (25)) (.mv (.t (1))) .none), (.mk (.some (26)) (.mv (.t (2))) .none), (.mk (.some (27)) (.bin .leq (.t (25)) (.t (26))) .none), (.mk (.some (6)) (.mv (.t (27))) .none)]) .ret) (.seq (.reg [(.mk (.some (29)) (.bin .eql (.t (7)) (.c (.int Go.IntKind.i64 (Int.ofNat 5)))) .none), (.mk (.some (28)) (.mv (.t (29))) .none)]) (.cond (.t (28)) (.seq (.reg [(.mk (.some (30)) (.mv (.t (1))) .none), (.mk (.some (31)) (.mv (.t (2))) .none), (.mk (.some (32)) (.bin .gtr (.t (30)) (.t (31))) .none), (.mk (.some (6)) (.mv (.t (32))) .none)]) .ret) .skip)))))))))))) (.seq (.reg [(.mk (.some (33)) (.mv (.t (0))) .none), (.mk (.some (34)) (.bin .eql (.t (33)) (.c (.int Go.IntKind.i64 (Int.ofNat 6)))) .none), (.mk (.some (35)) (.mv (.t (34))) .none), (.mk (.some (36)) (.mv (.t (1))) (.some (.mk (35) .true))), (.mk (.some (37)) (.mv (.t (2))) (.some (.mk (35) .true))), (.mk (.some (38)) (.bin .geq (.t (36)) (.t (37))) (.some (.mk (35) .true))), (.mk (.some (39)) (.pick (.t (35)) (.t (38)) (.c (.bool Bool.false))) .none), (.mk (.some (6)) (.mv (.t (39))) .none)]) .ret)))⟩

theorem F56_ok : sfn Try.prog hints 56 [] = some F56 := by kernel_rfl

def f56_0 (a0 : Int) (a1 : Int) (a2 : Int) : Bool := bif a0 == Int.ofNat 1 then (a1 == a2) else (bif a0 == Int.ofNat 2 then (a1 != a2) else (bif a0 == Int.ofNat 3 then (Decidable.decide (a1 < a2)) else (bif a0 == Int.ofNat 4 then (Decidable.decide (a1 ≤ a2)) else (bif a0 == Int.ofNat 5 then (Decidable.decide (a1 > a2)) else (bif a0 == Int.ofNat 6 then (Decidable.decide (a1 ≥ a2)) else ((Bool.false)))))))

theorem f56_sound (a0 : Int) (a1 : Int) (a2 : Int) : SoundAt Try.prog 56 [(.one (.v (.int Go.IntKind.i64 (a0)))), (.one (.v (.int Go.IntKind.i64 (a1)))), (.one (.v (.int Go.IntKind.i64 (a2))))] (Ret.mk (.one (.v (.bool (f56_0 a0 a1 a2)))) []) := by
  refine soundAt mixed Go.Proofs.Ytlfojobligplkaa.Fn.ctx68_ok F56_ok ?_
  generalize hR : (fun r' : Ret => r' = (Ret.mk (.one (.v (.bool (f56_0 a0 a1 a2)))) [])) = R
  refine (show wpF Go.Proofs.Ytlfojobligplkaa.Fn.ctx68 F56 [(.one (.v (.int Go.IntKind.i64 (a0)))), (.one (.v (.int Go.IntKind.i64 (a1)))), (.one (.v (.int Go.IntKind.i64 (a2))))] R = (bif a0 == Int.ofNat 1 then (R (Ret.mk (.one (.v (.bool (a1 == a2)))) [])) else (bif a0 == Int.ofNat 2 then (R (Ret.mk (.one (.v (.bool (a1 != a2)))) [])) else (bif a0 == Int.ofNat 3 then (R (Ret.mk (.one (.v (.bool (Decidable.decide (a1 < a2))))) [])) else (bif a0 == Int.ofNat 4 then (R (Ret.mk (.one (.v (.bool (Decidable.decide (a1 ≤ a2))))) [])) else (bif a0 == Int.ofNat 5 then (R (Ret.mk (.one (.v (.bool (Decidable.decide (a1 > a2))))) [])) else (bif a0 == Int.ofNat 6 then (R (Ret.mk (.one (.v (.bool (Decidable.decide (a1 ≥ a2))))) [])) else (R (Ret.mk (.one (.v (.bool (Bool.false)))) [])))))))) by kernel_rfl).mpr ?_
  subst hR
  unfold f56_0
  refine cond_i (fun q => ?_) (fun q => ?_)
  · (try rewrite [q])
    rfl
  · (try rewrite [q])
    refine cond_i (fun q => ?_) (fun q => ?_)
    · (try rewrite [q])
      rfl
    · (try rewrite [q])
      refine cond_i (fun q => ?_) (fun q => ?_)
      · (try rewrite [q])
        rfl
      · (try rewrite [q])
        refine cond_i (fun q => ?_) (fun q => ?_)
        · (try rewrite [q])
          rfl
        · (try rewrite [q])
          refine cond_i (fun q => ?_) (fun q => ?_)
          · (try rewrite [q])
            rfl
          · (try rewrite [q])
            refine cond_i (fun q => ?_) (fun q => ?_)
            · (try rewrite [q])
              rfl
            · (try rewrite [q])
              rfl


def sum56 : List CV → Option (Bool × Ret)
  | [v0, v1, v2] => some (okO (some .i64) v0 && okO (some .i64) v1 && okO (some .i64) v2, (Ret.mk (.one (.v (.bool (f56_0 (intC (cellA v0 0)) (intC (cellA v1 0)) (intC (cellA v2 0)))))) []))
  | _ => none

theorem sum56_ok : ∀ vs r, sum56 vs = some (true, r) → SoundAt Try.prog 56 vs r := by
  intro vs r h
  unfold sum56 at h
  split at h
  · simp only [Option.some.injEq, Prod.mk.injEq, Bool.and_eq_true, true_and] at h
    obtain ⟨⟨⟨h0, h1⟩, h2⟩, rfl⟩ := h
    rename_i v0 v1 v2
    refine okO_elim h0 (motive := fun v => SoundAt Try.prog 56 [v, v1, v2] _) ?_
    refine okO_elim h1 (motive := fun v => SoundAt Try.prog 56 [_, v, v2] _) ?_
    refine okO_elim h2 (motive := fun v => SoundAt Try.prog 56 [_, _, v] _) ?_
    exact f56_sound _ _ _
  · cases h

def ctx56 : CtxQ := { Go.Proofs.Ytlfojobligplkaa.Fn.ctx68 with calls := (56, sum56) :: Go.Proofs.Ytlfojobligplkaa.Fn.ctx68.calls }

theorem ctx56_ok : CtxOk Try.prog ctx56.ctx := ctx_cons Go.Proofs.Ytlfojobligplkaa.Fn.ctx68_ok (by kernel_rfl) sum56_ok

/-! jetsam/jetsamlaw08.some -/
def F71 : SFn := ⟨38, [(.tmp (6))], (.seq (.reg [(.mk (.some (5)) (.box (.t (2))) .none), (.mk (.some (6)) (.mv (.c (.bool Bool.false))) .none)]) (.seq (.seq (.reg [(.mk (.some (7)) (.mv (.t (0))) .none)]) (.blk (0) (.seq (.reg [(.mk (.some (9)) (.bin .eql (.t (7)) (.c (.int Go.IntKind.i64 (Int.ofNat 1)))) .none), (.mk (.some (8)) (.mv (.t (9))) .none)]) (.cond (.t (8)) (.seq (.reg [(.mk (.some (10)) (.load .false .true (2) [(.some .i64), (.some .i64)] (.t (5))) .none), (.mk (.some (11)) (.mv (.t (1))) .none), (.mk (.some (12)) (.call .false .false (.f (49)) [(.t (10)), (.t (11))]) .none), (.mk (.some (6)) (.mv (.t (12))) .none)]) .ret) (.seq (.reg [(.mk (.some (14)) (.bin .eql (.t (7)) (.c (.int Go.IntKind.i64 (Int.ofNat 2)))) .none), (.mk (.some (13)) (.mv (.t (14))) .none)]) (.cond (.t (13)) (.seq (.reg [(.mk (.some (15)) (.fld (0) (.t (5))) .none), (.mk (.some (16)) (.load .false .false (1) [(.some .i64)] (.t (15))) .none), (.mk (.some (17)) (.mv (.t (1))) .none), (.mk (.some (18)) (.bin .neq (.t (16)) (.t (17))) .none), (.mk (.some (19)) (.mv (.t (18))) .none), (.mk (.some (20)) (.fld (1) (.t (5))) (.some (.mk (19) .false))), (.mk (.some (21)) (.load .false .false (1) [(.some .i64)] (.t (20))) (.some (.mk (19) .false))), (.mk (.some (22)) (.mv (.t (1))) (.some (.mk (19) .false))), (.mk (.some (23)) (.bin .neq (.t (21)) (.t (22))) (.some (.mk (19) .false))), (.mk (.some (24)) (.pick (.t (19)) (.c (.bool Bool.true)) (.t (23))) .none), (.mk (.some (6)) (.mv (.t (24))) .none)]) .ret) (.seq (.seq (.reg [(.mk (.some (26)) (.bin .eql (.t (7)) (.c (.int Go.IntKind.i64 (Int.ofNat 3)))) .none), (.mk (.some (25)) (.mv (.t (26))) .none)]) (.cond (.t (25)) .skip (.reg [(.mk (.some (27)) (.bin .eql (.t (7)) (.c (.int Go.IntKind.i64 (Int.ofNat 4)))) .none), (.mk (.some (25)) (.mv (.t (27))) .none)]))) (.cond (.t (25)) (.seq (.reg [(.mk (.some (28)) (.mv (.t (0))) .none), (.mk (.some (29)) (.mv (.t (1))) .none), (.mk (.some (30)) (.fld (1) (.t (5))) .none), (.mk (.some (31)) (.load .false .false (1) [(.some .i64)] (.t (30))) .none), (.mk (.some (32)) (.call .false .false (.f (56)) [(.t (28)), (.t (29)), (.t (31))]) .none), (.mk (.some (6)) (.mv (.t (32))) .none)]) .ret) .skip)))))))) (.seq (.reg [(.mk (.some (33)) (.mv (.t (0))) .none), (.mk (.some (34)) (.mv (.t (1))) .none), (.mk (.some (35)) (.fld (0) (.t (5))) .none), (.mk (.some (36)) (.load .false .false (1) [(.some .i64)] (.t (35))) .none), (.mk (.some (37)) (.call .false .false (.f (56)) [(.t (33)), (.t (34)), (.t (36))]) .none), (.mk (.some (6)) (.mv (.t (37))) .none)]) .ret)))⟩

theorem F71_ok : sfn Try.prog hints 71 [] = some F71 := by kernel_rfl

def f71_0 (a0 : Int) (a1 : Int) (a2_0 : Int) (a2_1 : Int) : Bool := bif a0 == Int.ofNat 1 then (bif Decidable.decide (a2_0 ≤ a1) then Decidable.decide (a1 ≤ a2_1) else Bool.false) else (bif a0 == Int.ofNat 2 then bif a2_0 != a1 then (Bool.true) else ((a2_1 != a1)) else (bif a0 == Int.ofNat 3 then (bif a0 == Int.ofNat 1 then a1 == a2_1 else bif a0 == Int.ofNat 2 then a1 != a2_1 else bif a0 == Int.ofNat 3 then Decidable.decide (a1 < a2_1) else bif a0 == Int.ofNat 4 then Decidable.decide (a1 ≤ a2_1) else bif a0 == Int.ofNat 5 then Decidable.decide (a1 > a2_1) else bif a0 == Int.ofNat 6 then Decidable.decide (a1 ≥ a2_1) else Bool.false) else (bif a0 == Int.ofNat 4 then (bif a0 == Int.ofNat 1 then a1 == a2_1 else bif a0 == Int.ofNat 2 then a1 != a2_1 else bif a0 == Int.ofNat 3 then Decidable.decide (a1 < a2_1) else bif a0 == Int.ofNat 4 then Decidable.decide (a1 ≤ a2_1) else bif a0 == Int.ofNat 5 then Decidable.decide (a1 > a2_1) else bif a0 == Int.ofNat 6 then Decidable.decide (a1 ≥ a2_1) else Bool.false) else ((bif a0 == Int.ofNat 1 then a1 == a2_0 else bif a0 == Int.ofNat 2 then a1 != a2_0 else bif a0 == Int.ofNat 3 then Decidable.decide (a1 < a2_0) else bif a0 == Int.ofNat 4 then Decidable.decide (a1 ≤ a2_0) else bif a0 == Int.ofNat 5 then Decidable.decide (a1 > a2_0) else bif a0 == Int.ofNat 6 then Decidable.decide (a1 ≥ a2_0) else Bool.false)))))

theorem f71_sound (a0 : Int) (a1 : Int) (a2_0 : Int) (a2_1 : Int) : SoundAt Try.prog 71 [(.one (.v (.int Go.IntKind.i64 (a0)))), (.one (.v (.int Go.IntKind.i64 (a1)))), (.agg [(.v (.int Go.IntKind.i64 (a2_0))), (.v (.int Go.IntKind.i64 (a2_1)))])] (Ret.mk (.one (.v (.bool (f71_0 a0 a1 a2_0 a2_1)))) []) := by
  refine soundAt mixed Go.Proofs.Ytlfojobligplkaa.Fn.ctx56_ok F71_ok ?_
  generalize hR : (fun r' : Ret => r' = (Ret.mk (.one (.v (.bool (f71_0 a0 a1 a2_0 a2_1)))) [])) = R
  refine (show wpF Go.Proofs.Ytlfojobligplkaa.Fn.ctx56 F71 [(.one (.v (.int Go.IntKind.i64 (a0)))), (.one (.v (.int Go.IntKind.i64 (a1)))), (.agg [(.v (.int Go.IntKind.i64 (a2_0))), (.v (.int Go.IntKind.i64 (a2_1)))])] R = (bif a0 == Int.ofNat 1 then (R (Ret.mk (.one (.v (.bool (bif Decidable.decide (a2_0 ≤ a1) then Decidable.decide (a1 ≤ a2_1) else Bool.false)))) [])) else (bif a0 == Int.ofNat 2 then (bif a2_0 != a1 then (R (Ret.mk (.one (.v (.bool (Bool.true)))) [])) else (R (Ret.mk (.one (.v (.bool (a2_1 != a1)))) []))) else (bif a0 == Int.ofNat 3 then (R (Ret.mk (.one (.v (.bool (bif a0 == Int.ofNat 1 then a1 == a2_1 else bif a0 == Int.ofNat 2 then a1 != a2_1 else bif a0 == Int.ofNat 3 then Decidable.decide (a1 < a2_1) else bif a0 == Int.ofNat 4 then Decidable.decide (a1 ≤ a2_1) else bif a0 == Int.ofNat 5 then Decidable.decide (a1 > a2_1) else bif a0 == Int.ofNat 6 then Decidable.decide (a1 ≥ a2_1) else Bool.false)))) [])) else (bif a0 == Int.ofNat 4 then (R (Ret.mk (.one (.v (.bool (bif a0 == Int.ofNat 1 then a1 == a2_1 else bif a0 == Int.ofNat 2 then a1 != a2_1 else bif a0 == Int.ofNat 3 then Decidable.decide (a1 < a2_1) else bif a0 == Int.ofNat 4 then Decidable.decide (a1 ≤ a2_1) else bif a0 == Int.ofNat 5 then Decidable.decide (a1 > a2_1) else bif a0 == Int.ofNat 6 then Decidable.decide (a1 ≥ a2_1) else Bool.false)))) [])) else (R (Ret.mk (.one (.v (.bool (bif a0 == Int.ofNat 1 then a1 == a2_0 else bif a0 == Int.ofNat 2 then a1 != a2_0 else bif a0 == Int.ofNat 3 then Decidable.decide (a1 < a2_0) else bif a0 == Int.ofNat 4 then Decidable.decide (a1 ≤ a2_0) else bif a0 == Int.ofNat 5 then Decidable.decide (a1 > a2_0) else bif a0 == Int.ofNat 6 then Decidable.decide (a1 ≥ a2_0) else Bool.false)))) [])))))) by kernel_rfl).mpr ?_
  subst hR
  unfold f71_0
  refine cond_i (fun q => ?_) (fun q => ?_)
  · (try rewrite [q])
    rfl
  · (try rewrite [q])
    refine cond_i (fun q => ?_) (fun q => ?_)
    · (try rewrite [q])
      refine cond_i (fun q => ?_) (fun q => ?_)
      · (try rewrite [q])
        rfl
      · (try rewrite [q])
        rfl
    · (try rewrite [q])
      refine cond_i (fun q => ?_) (fun q => ?_)
      · (try rewrite [q])
        rfl
      · (try rewrite [q])
        refine cond_i (fun q => ?_) (fun q => ?_)
        · (try rewrite [q])
          rfl
        · (try rewrite [q])
          rfl


def sum71 : List CV → Option (Bool × Ret)
  | [v0, v1, v2] => some (okO (some .i64) v0 && okO (some .i64) v1 && okA [some .i64, some .i64] v2, (Ret.mk (.one (.v (.bool (f71_0 (intC (cellA v0 0)) (intC (cellA v1 0)) (intC (cellA v2 0)) (intC (cellA v2 1)))))) []))
  | _ => none

theorem sum71_ok : ∀ vs r, sum71 vs = some (true, r) → SoundAt Try.prog 71 vs r := by
  intro vs r h
  unfold sum71 at h
  split at h
  · simp only [Option.some.injEq, Prod.mk.injEq, Bool.and_eq_true, true_and] at h
    obtain ⟨⟨⟨h0, h1⟩, h2⟩, rfl⟩ := h
    rename_i v0 v1 v2
    refine okO_elim h0 (motive := fun v => SoundAt Try.prog 71 [v, v1, v2] _) ?_
    refine okO_elim h1 (motive := fun v => SoundAt Try.prog 71 [_, v, v2] _) ?_
    refine okA_elim h2 (motive := fun v => SoundAt Try.prog 71 [_, _, v] _) ?_
    exact f71_sound _ _ _ _
  · cases h

def ctx71 : CtxQ := { Go.Proofs.Ytlfojobligplkaa.Fn.ctx56 with calls := (71, sum71) :: Go.Proofs.Ytlfojobligplkaa.Fn.ctx56.calls }

theorem ctx71_ok : CtxOk Try.prog ctx71.ctx := ctx_cons Go.Proofs.Ytlfojobligplkaa.Fn.ctx56_ok (by kernel_rfl) sum71_ok

end Go.Proofs.Ytlfojobligplkaa.Fn
