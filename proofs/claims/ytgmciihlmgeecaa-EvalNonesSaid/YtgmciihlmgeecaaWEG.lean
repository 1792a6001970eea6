import Derived.Test.YtgmciihlmgeecaaWE

import Derived.Test.YtgmciihlmgeecaaSpE2

/- The law's first look, walked. No conditions beyond those named. -/

namespace Go.Proofs.Ytgmciihlmgeecaa.Fn

open Go Go.RowKit Go.Proofs Go.Proofs.Ytgmciihlmgeecaa.Mt Go.Proofs.Ytgmciihlmgeecaa.Zm

set_option linter.unusedVariables false

set_option linter.unusedSimpArgs false

def cx71 (DD : Nat) : CtxW := ⟨⟨[(42, sum42), (53, sum53), (41, sum41), (75, sum75 3), (68, sum68 3)], []⟩, 2, []⟩


def F71 : SFn := ⟨44, [(.tmp 0)], (.seq (.reg [(o1 0 (.mv (.c (.bool .false))))]) (.seq (.reg [(o1 7 (.build [(.int .i64 0), (.int .i64 0), (.int .i64 0), (.slice .none 0 0)] [(0, (1, (.c (.int .i64 2))))])), (o1 8 (.build [(.int .i64 0), (.int .i64 0), (.int .i64 0), (.slice .none 0 0)] [(0, (1, (.c (.int .i64 1)))), (1, (1, (.c (.int .i64 1))))])), (o1 9 (.buildF 4 2 [(.int .i64 0), (.int .i64 0), (.int .i64 0), (.slice .none 0 0), (.int .i64 0), (.int .i64 0), (.int .i64 0), (.slice .none 0 0)] [(0, (.t 7)), (1, (.t 8))])), (o1 10 (.build [(.int .i64 0), (.int .i64 0), (.int .i64 0), (.slice .none 0 0)] [(0, (1, (.c (.int .i64 4)))), (3, (1, (.t 9)))])), (o1 1 (.alloc [(.int .i64 0), (.int .i64 0), (.int .i64 0), (.slice .none 0 0)])), (oN (.store .false 4 (.t 1) (.t 10)))]) (.seq (.reg [(o1 12 (.load .false .true 4 [] (.t 1))), (o1 13 (.call .false .false (.f 42) [(.c (.int .i64 1))])), (o1 14 (.call .false .false (.f 53) [(.c (.int .i64 2)), (.c (.int .i64 5))])), (o1 15 (.call .false .false (.f 41) [(.t 13), (.c (.int .i64 0)), (.t 14)])), (o1 16 (.call .false .false (.f 75) [(.t 12), (.t 15)])), (o1 11 (.mv (.t 16))), (o1 17 (.ext 0 (.t 11))), (o1 18 (.ext 1 (.t 11))), (o1 2 (.alloc [(.int .i64 0), (.int .i64 0)])), (o1 3 (.alloc [(.bool .false), (.bool .false)])), (oN (.store .false 2 (.t 2) (.t 17))), (oN (.store .false 2 (.t 3) (.t 18)))]) (.seq (.reg [(o1 20 (.load .false .true 4 [] (.t 1))), (o1 21 (.call .false .false (.f 68) [(.t 20)])), (o1 19 (.mv (.t 21))), (o1 22 (.ext 0 (.t 19))), (o1 23 (.ext 1 (.t 19))), (o1 24 (.ext 2 (.t 19))), (o1 4 (.mv (.t 22))), (o1 5 (.mv (.t 23))), (o1 6 (.mv (.t 24)))]) (.seq (.reg [(o1 25 (.load .false .true 2 [(.some .i64), (.some .i64)] (.t 2))), (o1 26 (.call .false .false (.f 53) [(.c (.int .i64 3)), (.c (.int .i64 6))])), (o1 27 (.eqA .false [(.some .i64), (.some .i64)] (.t 25) (.t 26))), (o1 28 (.mv (.t 27))), (oS 29 (.load .false .true 2 [.none, .none] (.t 3)) (.some (28, .true))), (oS 30 (.build [(.bool .false), (.bool .false)] []) (.some (28, .true))), (oS 31 (.eqA .false [.none, .none] (.t 29) (.t 30)) (.some (28, .true))), (o1 32 (.pick (.t 28) (.t 31) (.c (.bool .false)))), (o1 33 (.mv (.t 32))), (oS 34 (.mv (.t 4)) (.some (33, .true))), (oS 35 (.bin .eql (.t 34) (.c (.int .i64 0))) (.some (33, .true))), (o1 36 (.pick (.t 33) (.t 35) (.c (.bool .false)))), (o1 37 (.mv (.t 36))), (oS 38 (.mv (.t 5)) (.some (37, .true))), (oS 39 (.bin .eql (.t 38) (.c (.int .i64 1))) (.some (37, .true))), (o1 40 (.pick (.t 37) (.t 39) (.c (.bool .false)))), (o1 41 (.mv (.t 40))), (oS 42 (.mv (.t 6)) (.some (41, .true))), (o1 43 (.pick (.t 41) (.t 42) (.c (.bool .false)))), (o1 0 (.mv (.t 43)))]) .ret)))))⟩

theorem F71_ok : sfn Try.prog hints71 71 [] = some F71 := by kernel_rfl

theorem E71 (DD : Nat) (R : Ret → Prop) : wpFO (cx71 DD) F71 (.n 7 .e) [] R = (R (Ret.mk (.one (.v (.bool ((lin3 (linC 3 [Cell.v (Value.int .i64 4), Cell.v (Value.int .i64 0), Cell.v (Value.int .i64 0), Cell.sl 2 [Cell.v (Value.int .i64 2), Cell.v (Value.int .i64 0), Cell.v (Value.int .i64 0), Cell.sl 0 [], Cell.v (Value.int .i64 1), Cell.v (Value.int .i64 1), Cell.v (Value.int .i64 0), Cell.sl 0 []]])).2)))) [])) := by kernel_rfl

def f71_wp (DD : Nat) (R : Ret → Prop) : Prop := R (Ret.mk (.one (.v (.bool ((lin3 (linC 3 [Cell.v (Value.int .i64 4), Cell.v (Value.int .i64 0), Cell.v (Value.int .i64 0), Cell.sl 2 [Cell.v (Value.int .i64 2), Cell.v (Value.int .i64 0), Cell.v (Value.int .i64 0), Cell.sl 0 [], Cell.v (Value.int .i64 1), Cell.v (Value.int .i64 1), Cell.v (Value.int .i64 0), Cell.sl 0 []]])).2)))) [])

set_option maxRecDepth 100000 in
theorem f71_sound (DD : Nat) (hC : CtxOk Try.prog (cx71 DD).q.ctx) {r : Ret} (h : f71_wp DD (fun r' => r' = r)) : SoundAt Try.prog 71 [] r := by
  refine soundAtO (C := (cx71 DD)) (oc := (.n 7 .e)) mixed hC F71_ok ?_
  rewrite [E71 DD]
  unfold f71_wp at h
  exact h


end Go.Proofs.Ytgmciihlmgeecaa.Fn
