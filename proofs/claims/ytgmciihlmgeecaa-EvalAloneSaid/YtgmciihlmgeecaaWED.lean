import Derived.Test.YtgmciihlmgeecaaWE

import Derived.Test.YtgmciihlmgeecaaSpE3

/- The reference's functions of expressions, walked. No conditions beyond those named. -/
namespace Go.Proofs.Ytgmciihlmgeecaa.Fn
open Go Go.RowKit Go.Proofs Go.Proofs.Ytgmciihlmgeecaa.Mt Go.Proofs.Ytgmciihlmgeecaa.Zm
set_option linter.unusedVariables false
set_option linter.unusedSimpArgs false
def cx78 (DD : Nat) : CtxW := ⟨⟨[(78, sum78 DD)], []⟩, 16, []⟩
def F78_b0 : SC := (.seq (.seq (.reg [(o1 11 (.mv (.t 7))), (o1 12 (.fld 3 (.t 2))), (o1 13 (.load .false .false 1 [] (.t 12))), (o1 14 (.len (.t 13))), (o1 15 (.bin .lss (.t 11) (.t 14))), (o1 16 (.mv (.t 15))), (oS 17 (.mv (.t 7)) (.some (16, .true))), (oS 18 (.bin .lss (.t 17) (.c (.int .i64 2))) (.some (16, .true))), (o1 19 (.pick (.t 16) (.t 18) (.c (.bool .false))))]) (.cond (.t 19) .skip (.exit 0))) (.seq (.blk 1 (.seq (.reg [(o1 23 (.fld 3 (.t 2))), (o1 24 (.load .false .false 1 [] (.t 23))), (o1 25 (.mv (.t 7))), (o1 26 (.ixS 4 (.t 24) (.t 25))), (o1 27 (.load .true .true 4 [] (.t 26))), (o1 28 (.mv (.t 1))), (o1 29 (.call .false .false (.f 78) [(.t 27), (.t 28)])), (o1 22 (.mv (.t 29))), (o1 30 (.ext 0 (.t 22))), (o1 31 (.ext 1 (.t 22))), (o1 8 (.mv (.t 30))), (o1 9 (.mv (.t 31)))]) (.seq (.seq (.reg [(o1 32 (.mv (.t 9))), (o1 33 (.bin .neq (.t 32) (.c (.int .i64 0))))]) (.cond (.t 33) (.seq (.reg [(o1 34 (.mv (.t 9))), (o1 4 (.mv (.c (.int .i64 0)))), (o1 5 (.mv (.t 34)))]) .ret) .skip)) (.reg [(o1 35 (.mv (.t 7))), (o1 36 (.mv (.t 8))), (o1 37 (.ixA 2 1 (.t 6) (.t 35))), (oN (.store .false 1 (.t 37) (.t 36)))])))) (.reg [(o1 20 (.mv (.t 7))), (o1 21 (.bin .add (.t 20) (.c (.int .i64 1)))), (o1 7 (.mv (.t 21)))])))
def F78_c1 : SC := (.seq (.reg [(o1 10 (.mv (.c (.int .i64 0))))]) (.seq (.seq (.reg [(o1 38 (.fld 0 (.t 2))), (o1 39 (.load .false .false 1 [(.some .i64)] (.t 38)))]) (.blk 2 (.seq (.reg [(o1 41 (.bin .eql (.t 39) (.c (.int .i64 1)))), (o1 40 (.mv (.t 41)))]) (.cond (.t 40) (.reg [(o1 42 (.fld 1 (.t 2))), (o1 43 (.load .false .false 1 [(.some .i64)] (.t 42))), (o1 10 (.mv (.t 43)))]) (.seq (.reg [(o1 45 (.bin .eql (.t 39) (.c (.int .i64 2)))), (o1 44 (.mv (.t 45)))]) (.cond (.t 44) (.seq (.reg [(o1 46 (.fld 2 (.t 2))), (o1 47 (.load .false .false 1 [(.some .i64)] (.t 46))), (o1 48 (.bin .geq (.t 47) (.c (.int .i64 0)))), (o1 49 (.mv (.t 48))), (oS 50 (.fld 2 (.t 2)) (.some (49, .true))), (oS 51 (.load .false .false 1 [(.some .i64)] (.t 50)) (.some (49, .true))), (oS 52 (.mv (.t 1)) (.some (49, .true))), (oS 53 (.len (.t 52)) (.some (49, .true))), (oS 54 (.bin .lss (.t 51) (.t 53)) (.some (49, .true))), (o1 55 (.pick (.t 49) (.t 54) (.c (.bool .false))))]) (.cond (.t 55) (.reg [(o1 56 (.mv (.t 1))), (o1 57 (.fld 2 (.t 2))), (o1 58 (.load .false .false 1 [(.some .i64)] (.t 57))), (o1 59 (.ixS 1 (.t 56) (.t 58))), (o1 60 (.load .true .false 1 [(.some .i64)] (.t 59))), (o1 10 (.mv (.t 60)))]) .skip)) (.seq (.reg [(o1 62 (.bin .eql (.t 39) (.c (.int .i64 3)))), (o1 61 (.mv (.t 62)))]) (.cond (.t 61) (.reg [(o1 63 (.ixA 2 1 (.t 6) (.c (.int .i64 0)))), (o1 64 (.load .false .false 1 [(.some .i64)] (.t 63))), (o1 65 (.bin .sub (.c (.int .i64 0)) (.t 64))), (o1 10 (.mv (.t 65)))]) (.seq (.reg [(o1 67 (.bin .eql (.t 39) (.c (.int .i64 4)))), (o1 66 (.mv (.t 67)))]) (.cond (.t 66) (.reg [(o1 68 (.ixA 2 1 (.t 6) (.c (.int .i64 0)))), (o1 69 (.load .false .false 1 [(.some .i64)] (.t 68))), (o1 70 (.ixA 2 1 (.t 6) (.c (.int .i64 1)))), (o1 71 (.load .false .false 1 [(.some .i64)] (.t 70))), (o1 72 (.bin .add (.t 69) (.t 71))), (o1 10 (.mv (.t 72)))]) (.seq (.reg [(o1 74 (.bin .eql (.t 39) (.c (.int .i64 5)))), (o1 73 (.mv (.t 74)))]) (.cond (.t 73) (.reg [(o1 75 (.ixA 2 1 (.t 6) (.c (.int .i64 0)))), (o1 76 (.load .false .false 1 [(.some .i64)] (.t 75))), (o1 77 (.ixA 2 1 (.t 6) (.c (.int .i64 1)))), (o1 78 (.load .false .false 1 [(.some .i64)] (.t 77))), (o1 79 (.bin .sub (.t 76) (.t 78))), (o1 10 (.mv (.t 79)))]) (.seq (.reg [(o1 81 (.bin .eql (.t 39) (.c (.int .i64 6)))), (o1 80 (.mv (.t 81)))]) (.cond (.t 80) (.reg [(o1 82 (.ixA 2 1 (.t 6) (.c (.int .i64 0)))), (o1 83 (.load .false .false 1 [(.some .i64)] (.t 82))), (o1 84 (.ixA 2 1 (.t 6) (.c (.int .i64 1)))), (o1 85 (.load .false .false 1 [(.some .i64)] (.t 84))), (o1 86 (.bin .mul (.t 83) (.t 85))), (o1 10 (.mv (.t 86)))]) (.seq (.seq (.reg [(o1 88 (.bin .eql (.t 39) (.c (.int .i64 7)))), (o1 87 (.mv (.t 88)))]) (.cond (.t 87) .skip (.reg [(o1 89 (.bin .eql (.t 39) (.c (.int .i64 8)))), (o1 87 (.mv (.t 89)))]))) (.cond (.t 87) (.seq (.seq (.reg [(o1 90 (.ixA 2 1 (.t 6) (.c (.int .i64 1)))), (o1 91 (.load .false .false 1 [(.some .i64)] (.t 90))), (o1 92 (.bin .eql (.t 91) (.c (.int .i64 0))))]) (.cond (.t 92) (.seq (.reg [(o1 4 (.mv (.c (.int .i64 0)))), (o1 5 (.mv (.c (.int .i64 3))))]) .ret) .skip)) (.seq (.reg [(o1 93 (.fld 0 (.t 2))), (o1 94 (.load .false .false 1 [(.some .i64)] (.t 93))), (o1 95 (.bin .eql (.t 94) (.c (.int .i64 7))))]) (.cond (.t 95) (.reg [(o1 96 (.ixA 2 1 (.t 6) (.c (.int .i64 0)))), (o1 97 (.load .false .false 1 [(.some .i64)] (.t 96))), (o1 98 (.ixA 2 1 (.t 6) (.c (.int .i64 1)))), (o1 99 (.load .false .false 1 [(.some .i64)] (.t 98))), (o1 100 (.bin .quo (.t 97) (.t 99))), (o1 10 (.mv (.t 100)))]) (.reg [(o1 101 (.ixA 2 1 (.t 6) (.c (.int .i64 0)))), (o1 102 (.load .false .false 1 [(.some .i64)] (.t 101))), (o1 103 (.ixA 2 1 (.t 6) (.c (.int .i64 1)))), (o1 104 (.load .false .false 1 [(.some .i64)] (.t 103))), (o1 105 (.bin .rem (.t 102) (.t 104))), (o1 10 (.mv (.t 105)))])))) .skip)))))))))))))))) (.seq (.seq (.reg [(o1 106 (.mv (.t 10))), (o1 107 (.bin .lss (.t 106) (.c (.int .i64 (-2147483648))))), (o1 108 (.mv (.t 107))), (oS 109 (.mv (.t 10)) (.some (108, .false))), (oS 110 (.bin .gtr (.t 109) (.c (.int .i64 2147483647))) (.some (108, .false))), (o1 111 (.pick (.t 108) (.c (.bool .true)) (.t 110)))]) (.cond (.t 111) (.seq (.reg [(o1 4 (.mv (.c (.int .i64 0)))), (o1 5 (.mv (.c (.int .i64 2))))]) .ret) .skip)) (.seq (.reg [(o1 112 (.mv (.t 10))), (o1 4 (.mv (.t 112))), (o1 5 (.mv (.c (.int .i64 0))))]) .ret))))
def F78 : SFn := ⟨113, [(.tmp 4), (.tmp 5)], (.seq (.reg [(o1 2 (.box (.t 0))), (o1 4 (.mv (.c (.int .i64 0)))), (o1 5 (.mv (.c (.int .i64 0))))]) (.seq (.reg [(o1 6 (.alloc [(.int .i64 0), (.int .i64 0)]))]) (.seq (.seq (.reg [(o1 7 (.mv (.c (.int .i64 0))))]) (.blk 0 (.loop [1, 2, 6, 7] [2, 6] [] F78_b0))) F78_c1)))⟩
theorem F78_ok : sfn Try.prog hintsN 78 [([1, 2, 6, 7], ([2, 6], []))] = some F78 := by kernel_rfl
abbrev X78_0  := (Ret.mk (.tup [(.one (.v (.int .i64 0))), (.one (.v (.int .i64 2)))]) [])
abbrev X78_1  := (Ret.mk (.tup [(.one (.v (.int .i64 0))), (.one (.v (.int .i64 0)))]) [])
abbrev X78_2  := (Ret.mk (.tup [(.one (.v (.int .i64 0))), (.one (.v (.int .i64 3)))]) [])
abbrev X78_3 (p0 : List Cell) (p1 : Int) := (Ret.mk (.tup [(.one (.v (.int .i64 (intC (p0.getD (p1.toNat * 1) .dead))))), (.one (.v (.int .i64 0)))]) [])
abbrev X78_4 (p0 : List Cell) := ((intC (p0.getD 0 .dead)).tdiv (intC (p0.getD 1 .dead)))
abbrev X78_5 (p0 : Int) := (Ret.mk (.tup [(.one (.v (.int .i64 (p0)))), (.one (.v (.int .i64 0)))]) [])
abbrev X78_6 (p0 : List Cell) := (intC (p0.getD 0 .dead) + intC (p0.getD 1 .dead))
abbrev X78_7 (p0 : List Cell) := (intC (p0.getD 0 .dead) - intC (p0.getD 1 .dead))
abbrev X78_8 (p0 : List Cell) := (intC (p0.getD 0 .dead) * intC (p0.getD 1 .dead))
abbrev X78_9 (p0 : List Cell) := (Ret.mk (.tup [(.one (.v (.int .i64 ((intC (p0.getD 0 .dead)).tmod (intC (p0.getD 1 .dead)))))), (.one (.v (.int .i64 0)))]) [])
def I78_0_0 (DD : Nat) (a0_0 : Int) (a0_1 : Int) (a0_2 : Int) (a0_3n : Nat) (a0_3 : List Cell) (a1n : Nat) (a1 : List Cell) (y0_0 : Int) (y0_1 : Int) : St := (.mk (.no :: ((.one (.sl (a1n) (a1))) :: ((.box 2 0 0) :: (.no :: (.no :: (.no :: ((.box 6 0 0) :: ((.one (vi y0_0)) :: (n10 (n10 (n10 (n10 (n10 (n10 (n10 (n10 (n10 (n10 (.no :: (.no :: (.no :: (.no :: (.no :: []))))))))))))))))))))))) ([] :: ([] :: ([[(vi a0_0), (vi a0_1), (vi a0_2), (.sl (a0_3n) (a0_3))]] :: ([] :: ([] :: ([] :: ([[(vi y0_1), (.v (.int .i64 0))]] :: (e10 (e10 (e10 (e10 (e10 (e10 (e10 (e10 (e10 (e10 ([] :: ([] :: ([] :: ([] :: ([] :: ([] :: []))))))))))))))))))))))) (e10 (e10 (e10 (e10 (e10 (e10 (e10 (e10 (e10 (e10 (e10 ([] :: ([] :: ([] :: [])))))))))))))))
def I78_0_1 (DD : Nat) (a0_0 : Int) (a0_1 : Int) (a0_2 : Int) (a0_3n : Nat) (a0_3 : List Cell) (a1n : Nat) (a1 : List Cell) (y0m1_0 : Int) (y0m1_1 : List Cell) : St := (.mk (.no :: ((.one (.sl (a1n) (a1))) :: ((.box 2 0 0) :: (.no :: (.no :: (.no :: ((.box 6 0 0) :: ((.one (vi y0m1_0)) :: (n10 (n10 (n10 (n10 (n10 (n10 (n10 (n10 (n10 (n10 (.no :: (.no :: (.no :: (.no :: (.no :: []))))))))))))))))))))))) ([] :: ([] :: ([[(vi a0_0), (vi a0_1), (vi a0_2), (.sl (a0_3n) (a0_3))]] :: ([] :: ([] :: ([] :: ([(y0m1_1)] :: (e10 (e10 (e10 (e10 (e10 (e10 (e10 (e10 (e10 (e10 ([] :: ([] :: ([] :: ([] :: ([] :: ([] :: []))))))))))))))))))))))) (e10 (e10 (e10 (e10 (e10 (e10 (e10 (e10 (e10 (e10 (e10 ([] :: ([] :: ([] :: [])))))))))))))))
theorem E78_0_0 (DD : Nat) (a0_0 : Int) (a0_1 : Int) (a0_2 : Int) (a0_3n : Nat) (a0_3 : List Cell) (a1n : Nat) (a1 : List Cell) (y0_0 : Int) (y0_1 : Int) (N0 : Bool × St → Prop) (R : Ret → Prop) : wpO (cx78 DD) F78_b0 (.two (.n 0 (.two (.two .e .e) (.two (.two (.n 1 .e) (.n 0 (.two .e .e))) (.two (.two (.n 3 (.two (.two (.n 1 .e) (.n 0 (.two .e .e))) (.n 2 .e))) (.n 7 .e)) (.two (.two (.n 1 .e) (.n 0 (.two .e .e))) (.two (.two (.n 1 .e) (.n 0 (.two .e .e))) (.two (.two (.n 1 .e) (.n 0 (.two .e .e))) (.two (.two (.n 1 .e) (.n 0 (.two .e .e))) (.two (.n 1 .e) (.two (.n 0 .e) (.n 2 .e))))))))))) (.n 1 (.two (.two (.n 1 .e) (.n 0 (.two .e .e))) (.two (.two (.n 3 (.two (.two (.n 1 .e) (.n 0 (.two .e .e))) (.n 2 .e))) (.n 7 .e)) (.two (.two (.n 1 .e) (.n 0 (.two .e .e))) (.two (.two (.n 1 .e) (.n 0 (.two .e .e))) (.two (.two (.n 1 .e) (.n 0 (.two .e .e))) (.two (.two (.n 1 .e) (.n 0 (.two .e .e))) (.two (.n 1 .e) (.two (.n 0 .e) (.n 2 .e))))))))))) (I78_0_0 DD a0_0 a0_1 a0_2 a0_3n a0_3 a1n a1 y0_0 y0_1) (kLp (headW (cx78 DD).m [1, 2, 6, 7] [2, 6] []) N0 (kBlk 0 (kSeq (cx78 DD) F78_c1 (endO (cx78 DD).m F78.rs R)))) = (bif decide (y0_0 < (↑a0_3n : Int)) then (bif decide (y0_0 < 2) then (bif decide (0 ≤ y0_0) && decide (y0_0 < (↑a0_3n : Int)) && decide (y0_0.toNat * 4 < a0_3.length) then (bif decide (y0_0.toNat * 4 + 4 ≤ a0_3.length) then (letV (evRC DD (List.take 4 (List.drop (y0_0.toNat * 4) a0_3)) a1n (List.map intC a1)) (fun (u47 : Int × Int) => bif (List.take 4 (List.drop (y0_0.toNat * 4) a0_3)).all plainC && true && (okE DD (List.take 4 (List.drop (y0_0.toNat * 4) a0_3)) && okRowU 1 (.sl a1n a1)) && true && true && true && true && true then (bif u47.2 != 0 then (R (Ret.mk (.tup [(.one (.v (.int .i64 0))), (.one (.v (.int .i64 (u47.2))))]) [])) else (bif decide (0 ≤ y0_0) && decide (y0_0 < 2) then (bif decide (y0_0.toNat * 1 + 1 ≤ 2) then (N0 (([Cell.v (Value.int .i64 y0_1), Cell.v (Value.int .i64 0)].set (y0_0.toNat * 1) (Cell.v (Value.int .i64 u47.1))).all plainC && true && true, (I78_0_1 DD a0_0 a0_1 a0_2 a0_3n a0_3 a1n a1 (IntKind.i64.wrap (y0_0 + 1)) ([Cell.v (Value.int .i64 y0_1), Cell.v (Value.int .i64 0)].set (y0_0.toNat * 1) (Cell.v (Value.int .i64 u47.1)))))) else False) else False)) else False)) else False) else False) else (bif a0_0 == 1 then (bif decide (a0_1 < -2147483648) then (R X78_0) else (bif decide (a0_1 > 2147483647) then (R X78_0) else (R (X78_5 a0_1)))) else (bif a0_0 == 2 then (bif decide (a0_2 ≥ 0) then (bif decide (a0_2 < (↑a1n : Int)) then (bif decide (0 ≤ a0_2) && decide (a0_2 < (↑a1n : Int)) && decide (a0_2.toNat * 1 < a1.length) then (bif decide (a0_2.toNat * 1 + 1 ≤ a1.length) && okK (some .i64) (a1.getD (a0_2.toNat * 1) .dead) then (bif decide (intC (a1.getD (a0_2.toNat * 1) .dead) < -2147483648) then (R X78_0) else (bif decide (intC (a1.getD (a0_2.toNat * 1) .dead) > 2147483647) then (R X78_0) else (R (X78_3 a1 a0_2)))) else False) else False) else (R X78_1)) else (R X78_1)) else (bif a0_0 == 3 then (bif decide (IntKind.i64.wrap (0 - y0_1) < -2147483648) then (R X78_0) else (bif decide (IntKind.i64.wrap (0 - y0_1) > 2147483647) then (R X78_0) else (R (Ret.mk (.tup [(.one (.v (.int .i64 (IntKind.i64.wrap (0 - y0_1))))), (.one (.v (.int .i64 0)))]) [])))) else (bif a0_0 == 4 then (bif decide (IntKind.i64.wrap (y0_1 + 0) < -2147483648) then (R X78_0) else (bif decide (IntKind.i64.wrap (y0_1 + 0) > 2147483647) then (R X78_0) else (R (Ret.mk (.tup [(.one (.v (.int .i64 (IntKind.i64.wrap (y0_1 + 0))))), (.one (.v (.int .i64 0)))]) [])))) else (bif a0_0 == 5 then (bif decide (IntKind.i64.wrap (y0_1 - 0) < -2147483648) then (R X78_0) else (bif decide (IntKind.i64.wrap (y0_1 - 0) > 2147483647) then (R X78_0) else (R (Ret.mk (.tup [(.one (.v (.int .i64 (IntKind.i64.wrap (y0_1 - 0))))), (.one (.v (.int .i64 0)))]) [])))) else (bif a0_0 == 6 then (bif decide (IntKind.i64.wrap (y0_1 * 0) < -2147483648) then (R X78_0) else (bif decide (IntKind.i64.wrap (y0_1 * 0) > 2147483647) then (R X78_0) else (R (Ret.mk (.tup [(.one (.v (.int .i64 (IntKind.i64.wrap (y0_1 * 0))))), (.one (.v (.int .i64 0)))]) [])))) else (bif a0_0 == 7 then (R X78_2) else (bif a0_0 == 8 then (R X78_2) else (R X78_1)))))))))) else (bif a0_0 == 1 then (bif decide (a0_1 < -2147483648) then (R X78_0) else (bif decide (a0_1 > 2147483647) then (R X78_0) else (R (X78_5 a0_1)))) else (bif a0_0 == 2 then (bif decide (a0_2 ≥ 0) then (bif decide (a0_2 < (↑a1n : Int)) then (bif decide (0 ≤ a0_2) && decide (a0_2 < (↑a1n : Int)) && decide (a0_2.toNat * 1 < a1.length) then (bif decide (a0_2.toNat * 1 + 1 ≤ a1.length) && okK (some .i64) (a1.getD (a0_2.toNat * 1) .dead) then (bif decide (intC (a1.getD (a0_2.toNat * 1) .dead) < -2147483648) then (R X78_0) else (bif decide (intC (a1.getD (a0_2.toNat * 1) .dead) > 2147483647) then (R X78_0) else (R (X78_3 a1 a0_2)))) else False) else False) else (R X78_1)) else (R X78_1)) else (bif a0_0 == 3 then (bif decide (IntKind.i64.wrap (0 - y0_1) < -2147483648) then (R X78_0) else (bif decide (IntKind.i64.wrap (0 - y0_1) > 2147483647) then (R X78_0) else (R (Ret.mk (.tup [(.one (.v (.int .i64 (IntKind.i64.wrap (0 - y0_1))))), (.one (.v (.int .i64 0)))]) [])))) else (bif a0_0 == 4 then (bif decide (IntKind.i64.wrap (y0_1 + 0) < -2147483648) then (R X78_0) else (bif decide (IntKind.i64.wrap (y0_1 + 0) > 2147483647) then (R X78_0) else (R (Ret.mk (.tup [(.one (.v (.int .i64 (IntKind.i64.wrap (y0_1 + 0))))), (.one (.v (.int .i64 0)))]) [])))) else (bif a0_0 == 5 then (bif decide (IntKind.i64.wrap (y0_1 - 0) < -2147483648) then (R X78_0) else (bif decide (IntKind.i64.wrap (y0_1 - 0) > 2147483647) then (R X78_0) else (R (Ret.mk (.tup [(.one (.v (.int .i64 (IntKind.i64.wrap (y0_1 - 0))))), (.one (.v (.int .i64 0)))]) [])))) else (bif a0_0 == 6 then (bif decide (IntKind.i64.wrap (y0_1 * 0) < -2147483648) then (R X78_0) else (bif decide (IntKind.i64.wrap (y0_1 * 0) > 2147483647) then (R X78_0) else (R (Ret.mk (.tup [(.one (.v (.int .i64 (IntKind.i64.wrap (y0_1 * 0))))), (.one (.v (.int .i64 0)))]) [])))) else (bif a0_0 == 7 then (R X78_2) else (bif a0_0 == 8 then (R X78_2) else (R X78_1)))))))))) := by kernel_rfl
theorem E78_0_1 (DD : Nat) (a0_0 : Int) (a0_1 : Int) (a0_2 : Int) (a0_3n : Nat) (a0_3 : List Cell) (a1n : Nat) (a1 : List Cell) (y0m1_0 : Int) (y0m1_1 : List Cell) (N0 : Bool × St → Prop) (R : Ret → Prop) : wpO (cx78 DD) F78_b0 (.two (.n 0 (.two (.two .e .e) (.two (.two (.n 1 .e) (.n 0 (.two .e .e))) (.two (.two (.n 3 (.two (.two (.n 1 .e) (.n 0 (.two .e .e))) (.n 2 .e))) (.n 7 .e)) (.two (.two (.n 1 .e) (.n 0 (.two .e .e))) (.two (.two (.n 1 .e) (.n 0 (.two .e .e))) (.two (.two (.n 1 .e) (.n 0 (.two .e .e))) (.two (.two (.n 1 .e) (.n 0 (.two .e .e))) (.two (.n 0 (.two .e (.b true (.two (.n 1 .e) (.n 0 (.two .e .e)))))) (.two (.two .e (.b false (.two (.n 1 .e) (.n 0 (.two .e .e))))) (.n 2 .e))))))))))) (.n 1 (.two (.two (.n 1 .e) (.n 0 (.two .e .e))) (.two (.two (.n 3 (.two (.two (.n 1 .e) (.n 0 (.two .e .e))) (.n 2 .e))) (.n 7 .e)) (.two (.two (.n 1 .e) (.n 0 (.two .e .e))) (.two (.two (.n 1 .e) (.n 0 (.two .e .e))) (.two (.two (.n 1 .e) (.n 0 (.two .e .e))) (.two (.two (.n 1 .e) (.n 0 (.two .e .e))) (.two (.n 0 (.two .e (.b true (.two (.n 1 .e) (.n 0 (.two .e .e)))))) (.two (.two .e (.b false (.two (.n 1 .e) (.n 0 (.two .e .e))))) (.n 2 .e))))))))))) (I78_0_1 DD a0_0 a0_1 a0_2 a0_3n a0_3 a1n a1 y0m1_0 y0m1_1) (kLp (headW (cx78 DD).m [1, 2, 6, 7] [2, 6] []) N0 (kBlk 0 (kSeq (cx78 DD) F78_c1 (endO (cx78 DD).m F78.rs R)))) = (bif decide (y0m1_0 < (↑a0_3n : Int)) then (bif decide (y0m1_0 < 2) then (bif decide (0 ≤ y0m1_0) && decide (y0m1_0 < (↑a0_3n : Int)) && decide (y0m1_0.toNat * 4 < a0_3.length) then (bif decide (y0m1_0.toNat * 4 + 4 ≤ a0_3.length) then (letV (evRC DD (List.take 4 (List.drop (y0m1_0.toNat * 4) a0_3)) a1n (List.map intC a1)) (fun (u105 : Int × Int) => bif (List.take 4 (List.drop (y0m1_0.toNat * 4) a0_3)).all plainC && true && (okE DD (List.take 4 (List.drop (y0m1_0.toNat * 4) a0_3)) && okRowU 1 (.sl a1n a1)) && true && true && true && true && true then (bif u105.2 != 0 then (R (Ret.mk (.tup [(.one (.v (.int .i64 0))), (.one (.v (.int .i64 (u105.2))))]) [])) else (bif decide (0 ≤ y0m1_0) && decide (y0m1_0 < 2) then (bif decide (y0m1_0.toNat * 1 + 1 ≤ y0m1_1.length) then (N0 ((y0m1_1.set (y0m1_0.toNat * 1) (Cell.v (Value.int .i64 u105.1))).all plainC && true && true, (I78_0_1 DD a0_0 a0_1 a0_2 a0_3n a0_3 a1n a1 (IntKind.i64.wrap (y0m1_0 + 1)) (y0m1_1.set (y0m1_0.toNat * 1) (Cell.v (Value.int .i64 u105.1)))))) else False) else False)) else False)) else False) else False) else (bif a0_0 == 1 then (bif decide (a0_1 < -2147483648) then (R X78_0) else (bif decide (a0_1 > 2147483647) then (R X78_0) else (R (X78_5 a0_1)))) else (bif a0_0 == 2 then (bif decide (a0_2 ≥ 0) then (bif decide (a0_2 < (↑a1n : Int)) then (bif decide (0 ≤ a0_2) && decide (a0_2 < (↑a1n : Int)) && decide (a0_2.toNat * 1 < a1.length) then (bif decide (a0_2.toNat * 1 + 1 ≤ a1.length) && okK (some .i64) (a1.getD (a0_2.toNat * 1) .dead) then (bif decide (intC (a1.getD (a0_2.toNat * 1) .dead) < -2147483648) then (R X78_0) else (bif decide (intC (a1.getD (a0_2.toNat * 1) .dead) > 2147483647) then (R X78_0) else (R (X78_3 a1 a0_2)))) else False) else False) else (R X78_1)) else (R X78_1)) else (bif a0_0 == 3 then (bif decide (1 ≤ y0m1_1.length) && okK (some .i64) (y0m1_1.getD 0 .dead) then (bif decide (IntKind.i64.wrap (0 - intC (y0m1_1.getD 0 .dead)) < -2147483648) then (R X78_0) else (bif decide (IntKind.i64.wrap (0 - intC (y0m1_1.getD 0 .dead)) > 2147483647) then (R X78_0) else (R (Ret.mk (.tup [(.one (.v (.int .i64 (IntKind.i64.wrap (0 - intC (y0m1_1.getD 0 .dead)))))), (.one (.v (.int .i64 0)))]) [])))) else False) else (bif a0_0 == 4 then (bif decide (1 ≤ y0m1_1.length) && okK (some .i64) (y0m1_1.getD 0 .dead) then (bif decide (2 ≤ y0m1_1.length) && okK (some .i64) (y0m1_1.getD 1 .dead) then (bif decide (IntKind.i64.wrap (X78_6 y0m1_1) < -2147483648) then (R X78_0) else (bif decide (IntKind.i64.wrap (X78_6 y0m1_1) > 2147483647) then (R X78_0) else (R (Ret.mk (.tup [(.one (.v (.int .i64 (IntKind.i64.wrap (X78_6 y0m1_1))))), (.one (.v (.int .i64 0)))]) [])))) else False) else False) else (bif a0_0 == 5 then (bif decide (1 ≤ y0m1_1.length) && okK (some .i64) (y0m1_1.getD 0 .dead) then (bif decide (2 ≤ y0m1_1.length) && okK (some .i64) (y0m1_1.getD 1 .dead) then (bif decide (IntKind.i64.wrap (X78_7 y0m1_1) < -2147483648) then (R X78_0) else (bif decide (IntKind.i64.wrap (X78_7 y0m1_1) > 2147483647) then (R X78_0) else (R (Ret.mk (.tup [(.one (.v (.int .i64 (IntKind.i64.wrap (X78_7 y0m1_1))))), (.one (.v (.int .i64 0)))]) [])))) else False) else False) else (bif a0_0 == 6 then (bif decide (1 ≤ y0m1_1.length) && okK (some .i64) (y0m1_1.getD 0 .dead) then (bif decide (2 ≤ y0m1_1.length) && okK (some .i64) (y0m1_1.getD 1 .dead) then (bif decide (IntKind.i64.wrap (X78_8 y0m1_1) < -2147483648) then (R X78_0) else (bif decide (IntKind.i64.wrap (X78_8 y0m1_1) > 2147483647) then (R X78_0) else (R (Ret.mk (.tup [(.one (.v (.int .i64 (IntKind.i64.wrap (X78_8 y0m1_1))))), (.one (.v (.int .i64 0)))]) [])))) else False) else False) else (bif a0_0 == 7 then (bif decide (2 ≤ y0m1_1.length) && okK (some .i64) (y0m1_1.getD 1 .dead) then (bif intC (y0m1_1.getD 1 .dead) == 0 then (R X78_2) else ((a0_0 == 7) = true ∧ (bif decide (1 ≤ y0m1_1.length) && okK (some .i64) (y0m1_1.getD 0 .dead) then (bif decide (2 ≤ y0m1_1.length) && okK (some .i64) (y0m1_1.getD 1 .dead) then (bif intC (y0m1_1.getD 1 .dead) != 0 then (bif decide (IntKind.i64.wrap (X78_4 y0m1_1) < -2147483648) then (R X78_0) else (bif decide (IntKind.i64.wrap (X78_4 y0m1_1) > 2147483647) then (R X78_0) else (R (Ret.mk (.tup [(.one (.v (.int .i64 (IntKind.i64.wrap (X78_4 y0m1_1))))), (.one (.v (.int .i64 0)))]) [])))) else False) else False) else False))) else False) else (bif a0_0 == 8 then (bif decide (2 ≤ y0m1_1.length) && okK (some .i64) (y0m1_1.getD 1 .dead) then (bif intC (y0m1_1.getD 1 .dead) == 0 then (R X78_2) else ((a0_0 == 7) = false ∧ (bif decide (1 ≤ y0m1_1.length) && okK (some .i64) (y0m1_1.getD 0 .dead) then (bif decide (2 ≤ y0m1_1.length) && okK (some .i64) (y0m1_1.getD 1 .dead) then (bif intC (y0m1_1.getD 1 .dead) != 0 then (bif decide ((intC (y0m1_1.getD 0 .dead)).tmod (intC (y0m1_1.getD 1 .dead)) < -2147483648) then (R X78_0) else (bif decide ((intC (y0m1_1.getD 0 .dead)).tmod (intC (y0m1_1.getD 1 .dead)) > 2147483647) then (R X78_0) else (R (X78_9 y0m1_1)))) else False) else False) else False))) else False) else (R X78_1)))))))))) else (bif a0_0 == 1 then (bif decide (a0_1 < -2147483648) then (R X78_0) else (bif decide (a0_1 > 2147483647) then (R X78_0) else (R (X78_5 a0_1)))) else (bif a0_0 == 2 then (bif decide (a0_2 ≥ 0) then (bif decide (a0_2 < (↑a1n : Int)) then (bif decide (0 ≤ a0_2) && decide (a0_2 < (↑a1n : Int)) && decide (a0_2.toNat * 1 < a1.length) then (bif decide (a0_2.toNat * 1 + 1 ≤ a1.length) && okK (some .i64) (a1.getD (a0_2.toNat * 1) .dead) then (bif decide (intC (a1.getD (a0_2.toNat * 1) .dead) < -2147483648) then (R X78_0) else (bif decide (intC (a1.getD (a0_2.toNat * 1) .dead) > 2147483647) then (R X78_0) else (R (X78_3 a1 a0_2)))) else False) else False) else (R X78_1)) else (R X78_1)) else (bif a0_0 == 3 then (bif decide (1 ≤ y0m1_1.length) && okK (some .i64) (y0m1_1.getD 0 .dead) then (bif decide (IntKind.i64.wrap (0 - intC (y0m1_1.getD 0 .dead)) < -2147483648) then (R X78_0) else (bif decide (IntKind.i64.wrap (0 - intC (y0m1_1.getD 0 .dead)) > 2147483647) then (R X78_0) else (R (Ret.mk (.tup [(.one (.v (.int .i64 (IntKind.i64.wrap (0 - intC (y0m1_1.getD 0 .dead)))))), (.one (.v (.int .i64 0)))]) [])))) else False) else (bif a0_0 == 4 then (bif decide (1 ≤ y0m1_1.length) && okK (some .i64) (y0m1_1.getD 0 .dead) then (bif decide (2 ≤ y0m1_1.length) && okK (some .i64) (y0m1_1.getD 1 .dead) then (bif decide (IntKind.i64.wrap (X78_6 y0m1_1) < -2147483648) then (R X78_0) else (bif decide (IntKind.i64.wrap (X78_6 y0m1_1) > 2147483647) then (R X78_0) else (R (Ret.mk (.tup [(.one (.v (.int .i64 (IntKind.i64.wrap (X78_6 y0m1_1))))), (.one (.v (.int .i64 0)))]) [])))) else False) else False) else (bif a0_0 == 5 then (bif decide (1 ≤ y0m1_1.length) && okK (some .i64) (y0m1_1.getD 0 .dead) then (bif decide (2 ≤ y0m1_1.length) && okK (some .i64) (y0m1_1.getD 1 .dead) then (bif decide (IntKind.i64.wrap (X78_7 y0m1_1) < -2147483648) then (R X78_0) else (bif decide (IntKind.i64.wrap (X78_7 y0m1_1) > 2147483647) then (R X78_0) else (R (Ret.mk (.tup [(.one (.v (.int .i64 (IntKind.i64.wrap (X78_7 y0m1_1))))), (.one (.v (.int .i64 0)))]) [])))) else False) else False) else (bif a0_0 == 6 then (bif decide (1 ≤ y0m1_1.length) && okK (some .i64) (y0m1_1.getD 0 .dead) then (bif decide (2 ≤ y0m1_1.length) && okK (some .i64) (y0m1_1.getD 1 .dead) then (bif decide (IntKind.i64.wrap (X78_8 y0m1_1) < -2147483648) then (R X78_0) else (bif decide (IntKind.i64.wrap (X78_8 y0m1_1) > 2147483647) then (R X78_0) else (R (Ret.mk (.tup [(.one (.v (.int .i64 (IntKind.i64.wrap (X78_8 y0m1_1))))), (.one (.v (.int .i64 0)))]) [])))) else False) else False) else (bif a0_0 == 7 then (bif decide (2 ≤ y0m1_1.length) && okK (some .i64) (y0m1_1.getD 1 .dead) then (bif intC (y0m1_1.getD 1 .dead) == 0 then (R X78_2) else ((a0_0 == 7) = true ∧ (bif decide (1 ≤ y0m1_1.length) && okK (some .i64) (y0m1_1.getD 0 .dead) then (bif decide (2 ≤ y0m1_1.length) && okK (some .i64) (y0m1_1.getD 1 .dead) then (bif intC (y0m1_1.getD 1 .dead) != 0 then (bif decide (IntKind.i64.wrap (X78_4 y0m1_1) < -2147483648) then (R X78_0) else (bif decide (IntKind.i64.wrap (X78_4 y0m1_1) > 2147483647) then (R X78_0) else (R (Ret.mk (.tup [(.one (.v (.int .i64 (IntKind.i64.wrap (X78_4 y0m1_1))))), (.one (.v (.int .i64 0)))]) [])))) else False) else False) else False))) else False) else (bif a0_0 == 8 then (bif decide (2 ≤ y0m1_1.length) && okK (some .i64) (y0m1_1.getD 1 .dead) then (bif intC (y0m1_1.getD 1 .dead) == 0 then (R X78_2) else ((a0_0 == 7) = false ∧ (bif decide (1 ≤ y0m1_1.length) && okK (some .i64) (y0m1_1.getD 0 .dead) then (bif decide (2 ≤ y0m1_1.length) && okK (some .i64) (y0m1_1.getD 1 .dead) then (bif intC (y0m1_1.getD 1 .dead) != 0 then (bif decide ((intC (y0m1_1.getD 0 .dead)).tmod (intC (y0m1_1.getD 1 .dead)) < -2147483648) then (R X78_0) else (bif decide ((intC (y0m1_1.getD 0 .dead)).tmod (intC (y0m1_1.getD 1 .dead)) > 2147483647) then (R X78_0) else (R (X78_9 y0m1_1)))) else False) else False) else False))) else False) else (R X78_1)))))))))) := by kernel_rfl
theorem E78 (DD : Nat) (a0_0 : Int) (a0_1 : Int) (a0_2 : Int) (a0_3n : Nat) (a0_3 : List Cell) (a1n : Nat) (a1 : List Cell) (R : Ret → Prop) : wpFO (cx78 DD) F78 .e [(.agg [(.v (.int .i64 a0_0)), (.v (.int .i64 a0_1)), (.v (.int .i64 a0_2)), (.sl a0_3n a0_3)]), (.one (.sl a1n a1))] R = (LoopO (bodyX (cx78 DD) F78_b0) (headW (cx78 DD).m [1, 2, 6, 7] [2, 6] []) (kBlk 0 (kSeq (cx78 DD) F78_c1 (endO (cx78 DD).m F78.rs R))) (true, (I78_0_0 DD a0_0 a0_1 a0_2 a0_3n a0_3 a1n a1 0 0))) := by kernel_rfl
def f78_wp (DD : Nat) (a0_0 : Int) (a0_1 : Int) (a0_2 : Int) (a0_3n : Nat) (a0_3 : List Cell) (a1n : Nat) (a1 : List Cell) (R : Ret → Prop) : Prop := LoopP (fun (z0 : (Int × Int) ⊕ (Int × (List Cell))) (k0 : (Int × Int) ⊕ (Int × (List Cell)) → Prop) => (sumE (fun (z : Int × Int) => (fun (y0_0 : Int) (y0_1 : Int) => bif decide (y0_0 < (↑a0_3n : Int)) then (bif decide (y0_0 < 2) then (bif decide (0 ≤ y0_0) && decide (y0_0 < (↑a0_3n : Int)) && decide (y0_0.toNat * 4 < a0_3.length) then (bif decide (y0_0.toNat * 4 + 4 ≤ a0_3.length) then (letV (evRC DD (List.take 4 (List.drop (y0_0.toNat * 4) a0_3)) a1n (List.map intC a1)) (fun (u47 : Int × Int) => bif (List.take 4 (List.drop (y0_0.toNat * 4) a0_3)).all plainC && true && (okE DD (List.take 4 (List.drop (y0_0.toNat * 4) a0_3)) && okRowU 1 (.sl a1n a1)) && true && true && true && true && true then (bif u47.2 != 0 then (R (Ret.mk (.tup [(.one (.v (.int .i64 0))), (.one (.v (.int .i64 (u47.2))))]) [])) else (bif decide (0 ≤ y0_0) && decide (y0_0 < 2) then (bif decide (y0_0.toNat * 1 + 1 ≤ 2) then ((([Cell.v (Value.int .i64 y0_1), Cell.v (Value.int .i64 0)].set (y0_0.toNat * 1) (Cell.v (Value.int .i64 u47.1))).all plainC && true && true) = true ∧ k0 (Sum.inr ((IntKind.i64.wrap (y0_0 + 1)), ([Cell.v (Value.int .i64 y0_1), Cell.v (Value.int .i64 0)].set (y0_0.toNat * 1) (Cell.v (Value.int .i64 u47.1)))))) else False) else False)) else False)) else False) else False) else (bif a0_0 == 1 then (bif decide (a0_1 < -2147483648) then (R X78_0) else (bif decide (a0_1 > 2147483647) then (R X78_0) else (R (X78_5 a0_1)))) else (bif a0_0 == 2 then (bif decide (a0_2 ≥ 0) then (bif decide (a0_2 < (↑a1n : Int)) then (bif decide (0 ≤ a0_2) && decide (a0_2 < (↑a1n : Int)) && decide (a0_2.toNat * 1 < a1.length) then (bif decide (a0_2.toNat * 1 + 1 ≤ a1.length) && okK (some .i64) (a1.getD (a0_2.toNat * 1) .dead) then (bif decide (intC (a1.getD (a0_2.toNat * 1) .dead) < -2147483648) then (R X78_0) else (bif decide (intC (a1.getD (a0_2.toNat * 1) .dead) > 2147483647) then (R X78_0) else (R (X78_3 a1 a0_2)))) else False) else False) else (R X78_1)) else (R X78_1)) else (bif a0_0 == 3 then (bif decide (IntKind.i64.wrap (0 - y0_1) < -2147483648) then (R X78_0) else (bif decide (IntKind.i64.wrap (0 - y0_1) > 2147483647) then (R X78_0) else (R (Ret.mk (.tup [(.one (.v (.int .i64 (IntKind.i64.wrap (0 - y0_1))))), (.one (.v (.int .i64 0)))]) [])))) else (bif a0_0 == 4 then (bif decide (IntKind.i64.wrap (y0_1 + 0) < -2147483648) then (R X78_0) else (bif decide (IntKind.i64.wrap (y0_1 + 0) > 2147483647) then (R X78_0) else (R (Ret.mk (.tup [(.one (.v (.int .i64 (IntKind.i64.wrap (y0_1 + 0))))), (.one (.v (.int .i64 0)))]) [])))) else (bif a0_0 == 5 then (bif decide (IntKind.i64.wrap (y0_1 - 0) < -2147483648) then (R X78_0) else (bif decide (IntKind.i64.wrap (y0_1 - 0) > 2147483647) then (R X78_0) else (R (Ret.mk (.tup [(.one (.v (.int .i64 (IntKind.i64.wrap (y0_1 - 0))))), (.one (.v (.int .i64 0)))]) [])))) else (bif a0_0 == 6 then (bif decide (IntKind.i64.wrap (y0_1 * 0) < -2147483648) then (R X78_0) else (bif decide (IntKind.i64.wrap (y0_1 * 0) > 2147483647) then (R X78_0) else (R (Ret.mk (.tup [(.one (.v (.int .i64 (IntKind.i64.wrap (y0_1 * 0))))), (.one (.v (.int .i64 0)))]) [])))) else (bif a0_0 == 7 then (R X78_2) else (bif a0_0 == 8 then (R X78_2) else (R X78_1)))))))))) else (bif a0_0 == 1 then (bif decide (a0_1 < -2147483648) then (R X78_0) else (bif decide (a0_1 > 2147483647) then (R X78_0) else (R (X78_5 a0_1)))) else (bif a0_0 == 2 then (bif decide (a0_2 ≥ 0) then (bif decide (a0_2 < (↑a1n : Int)) then (bif decide (0 ≤ a0_2) && decide (a0_2 < (↑a1n : Int)) && decide (a0_2.toNat * 1 < a1.length) then (bif decide (a0_2.toNat * 1 + 1 ≤ a1.length) && okK (some .i64) (a1.getD (a0_2.toNat * 1) .dead) then (bif decide (intC (a1.getD (a0_2.toNat * 1) .dead) < -2147483648) then (R X78_0) else (bif decide (intC (a1.getD (a0_2.toNat * 1) .dead) > 2147483647) then (R X78_0) else (R (X78_3 a1 a0_2)))) else False) else False) else (R X78_1)) else (R X78_1)) else (bif a0_0 == 3 then (bif decide (IntKind.i64.wrap (0 - y0_1) < -2147483648) then (R X78_0) else (bif decide (IntKind.i64.wrap (0 - y0_1) > 2147483647) then (R X78_0) else (R (Ret.mk (.tup [(.one (.v (.int .i64 (IntKind.i64.wrap (0 - y0_1))))), (.one (.v (.int .i64 0)))]) [])))) else (bif a0_0 == 4 then (bif decide (IntKind.i64.wrap (y0_1 + 0) < -2147483648) then (R X78_0) else (bif decide (IntKind.i64.wrap (y0_1 + 0) > 2147483647) then (R X78_0) else (R (Ret.mk (.tup [(.one (.v (.int .i64 (IntKind.i64.wrap (y0_1 + 0))))), (.one (.v (.int .i64 0)))]) [])))) else (bif a0_0 == 5 then (bif decide (IntKind.i64.wrap (y0_1 - 0) < -2147483648) then (R X78_0) else (bif decide (IntKind.i64.wrap (y0_1 - 0) > 2147483647) then (R X78_0) else (R (Ret.mk (.tup [(.one (.v (.int .i64 (IntKind.i64.wrap (y0_1 - 0))))), (.one (.v (.int .i64 0)))]) [])))) else (bif a0_0 == 6 then (bif decide (IntKind.i64.wrap (y0_1 * 0) < -2147483648) then (R X78_0) else (bif decide (IntKind.i64.wrap (y0_1 * 0) > 2147483647) then (R X78_0) else (R (Ret.mk (.tup [(.one (.v (.int .i64 (IntKind.i64.wrap (y0_1 * 0))))), (.one (.v (.int .i64 0)))]) [])))) else (bif a0_0 == 7 then (R X78_2) else (bif a0_0 == 8 then (R X78_2) else (R X78_1)))))))))) z.1 z.2) (fun (z : Int × (List Cell)) => (fun (y0m1_0 : Int) (y0m1_1 : List Cell) => bif decide (y0m1_0 < (↑a0_3n : Int)) then (bif decide (y0m1_0 < 2) then (bif decide (0 ≤ y0m1_0) && decide (y0m1_0 < (↑a0_3n : Int)) && decide (y0m1_0.toNat * 4 < a0_3.length) then (bif decide (y0m1_0.toNat * 4 + 4 ≤ a0_3.length) then (letV (evRC DD (List.take 4 (List.drop (y0m1_0.toNat * 4) a0_3)) a1n (List.map intC a1)) (fun (u105 : Int × Int) => bif (List.take 4 (List.drop (y0m1_0.toNat * 4) a0_3)).all plainC && true && (okE DD (List.take 4 (List.drop (y0m1_0.toNat * 4) a0_3)) && okRowU 1 (.sl a1n a1)) && true && true && true && true && true then (bif u105.2 != 0 then (R (Ret.mk (.tup [(.one (.v (.int .i64 0))), (.one (.v (.int .i64 (u105.2))))]) [])) else (bif decide (0 ≤ y0m1_0) && decide (y0m1_0 < 2) then (bif decide (y0m1_0.toNat * 1 + 1 ≤ y0m1_1.length) then (((y0m1_1.set (y0m1_0.toNat * 1) (Cell.v (Value.int .i64 u105.1))).all plainC && true && true) = true ∧ k0 (Sum.inr ((IntKind.i64.wrap (y0m1_0 + 1)), (y0m1_1.set (y0m1_0.toNat * 1) (Cell.v (Value.int .i64 u105.1)))))) else False) else False)) else False)) else False) else False) else (bif a0_0 == 1 then (bif decide (a0_1 < -2147483648) then (R X78_0) else (bif decide (a0_1 > 2147483647) then (R X78_0) else (R (X78_5 a0_1)))) else (bif a0_0 == 2 then (bif decide (a0_2 ≥ 0) then (bif decide (a0_2 < (↑a1n : Int)) then (bif decide (0 ≤ a0_2) && decide (a0_2 < (↑a1n : Int)) && decide (a0_2.toNat * 1 < a1.length) then (bif decide (a0_2.toNat * 1 + 1 ≤ a1.length) && okK (some .i64) (a1.getD (a0_2.toNat * 1) .dead) then (bif decide (intC (a1.getD (a0_2.toNat * 1) .dead) < -2147483648) then (R X78_0) else (bif decide (intC (a1.getD (a0_2.toNat * 1) .dead) > 2147483647) then (R X78_0) else (R (X78_3 a1 a0_2)))) else False) else False) else (R X78_1)) else (R X78_1)) else (bif a0_0 == 3 then (bif decide (1 ≤ y0m1_1.length) && okK (some .i64) (y0m1_1.getD 0 .dead) then (bif decide (IntKind.i64.wrap (0 - intC (y0m1_1.getD 0 .dead)) < -2147483648) then (R X78_0) else (bif decide (IntKind.i64.wrap (0 - intC (y0m1_1.getD 0 .dead)) > 2147483647) then (R X78_0) else (R (Ret.mk (.tup [(.one (.v (.int .i64 (IntKind.i64.wrap (0 - intC (y0m1_1.getD 0 .dead)))))), (.one (.v (.int .i64 0)))]) [])))) else False) else (bif a0_0 == 4 then (bif decide (1 ≤ y0m1_1.length) && okK (some .i64) (y0m1_1.getD 0 .dead) then (bif decide (2 ≤ y0m1_1.length) && okK (some .i64) (y0m1_1.getD 1 .dead) then (bif decide (IntKind.i64.wrap (X78_6 y0m1_1) < -2147483648) then (R X78_0) else (bif decide (IntKind.i64.wrap (X78_6 y0m1_1) > 2147483647) then (R X78_0) else (R (Ret.mk (.tup [(.one (.v (.int .i64 (IntKind.i64.wrap (X78_6 y0m1_1))))), (.one (.v (.int .i64 0)))]) [])))) else False) else False) else (bif a0_0 == 5 then (bif decide (1 ≤ y0m1_1.length) && okK (some .i64) (y0m1_1.getD 0 .dead) then (bif decide (2 ≤ y0m1_1.length) && okK (some .i64) (y0m1_1.getD 1 .dead) then (bif decide (IntKind.i64.wrap (X78_7 y0m1_1) < -2147483648) then (R X78_0) else (bif decide (IntKind.i64.wrap (X78_7 y0m1_1) > 2147483647) then (R X78_0) else (R (Ret.mk (.tup [(.one (.v (.int .i64 (IntKind.i64.wrap (X78_7 y0m1_1))))), (.one (.v (.int .i64 0)))]) [])))) else False) else False) else (bif a0_0 == 6 then (bif decide (1 ≤ y0m1_1.length) && okK (some .i64) (y0m1_1.getD 0 .dead) then (bif decide (2 ≤ y0m1_1.length) && okK (some .i64) (y0m1_1.getD 1 .dead) then (bif decide (IntKind.i64.wrap (X78_8 y0m1_1) < -2147483648) then (R X78_0) else (bif decide (IntKind.i64.wrap (X78_8 y0m1_1) > 2147483647) then (R X78_0) else (R (Ret.mk (.tup [(.one (.v (.int .i64 (IntKind.i64.wrap (X78_8 y0m1_1))))), (.one (.v (.int .i64 0)))]) [])))) else False) else False) else (bif a0_0 == 7 then (bif decide (2 ≤ y0m1_1.length) && okK (some .i64) (y0m1_1.getD 1 .dead) then (bif intC (y0m1_1.getD 1 .dead) == 0 then (R X78_2) else (bif decide (1 ≤ y0m1_1.length) && okK (some .i64) (y0m1_1.getD 0 .dead) then (bif intC (y0m1_1.getD 1 .dead) != 0 then (bif decide (IntKind.i64.wrap (X78_4 y0m1_1) < -2147483648) then (R X78_0) else (bif decide (IntKind.i64.wrap (X78_4 y0m1_1) > 2147483647) then (R X78_0) else (R (Ret.mk (.tup [(.one (.v (.int .i64 (IntKind.i64.wrap (X78_4 y0m1_1))))), (.one (.v (.int .i64 0)))]) [])))) else False) else False)) else False) else (bif a0_0 == 8 then (bif decide (2 ≤ y0m1_1.length) && okK (some .i64) (y0m1_1.getD 1 .dead) then (bif intC (y0m1_1.getD 1 .dead) == 0 then (R X78_2) else (bif decide (1 ≤ y0m1_1.length) && okK (some .i64) (y0m1_1.getD 0 .dead) then (bif intC (y0m1_1.getD 1 .dead) != 0 then (bif decide ((intC (y0m1_1.getD 0 .dead)).tmod (intC (y0m1_1.getD 1 .dead)) < -2147483648) then (R X78_0) else (bif decide ((intC (y0m1_1.getD 0 .dead)).tmod (intC (y0m1_1.getD 1 .dead)) > 2147483647) then (R X78_0) else (R (X78_9 y0m1_1)))) else False) else False)) else False) else (R X78_1)))))))))) else (bif a0_0 == 1 then (bif decide (a0_1 < -2147483648) then (R X78_0) else (bif decide (a0_1 > 2147483647) then (R X78_0) else (R (X78_5 a0_1)))) else (bif a0_0 == 2 then (bif decide (a0_2 ≥ 0) then (bif decide (a0_2 < (↑a1n : Int)) then (bif decide (0 ≤ a0_2) && decide (a0_2 < (↑a1n : Int)) && decide (a0_2.toNat * 1 < a1.length) then (bif decide (a0_2.toNat * 1 + 1 ≤ a1.length) && okK (some .i64) (a1.getD (a0_2.toNat * 1) .dead) then (bif decide (intC (a1.getD (a0_2.toNat * 1) .dead) < -2147483648) then (R X78_0) else (bif decide (intC (a1.getD (a0_2.toNat * 1) .dead) > 2147483647) then (R X78_0) else (R (X78_3 a1 a0_2)))) else False) else False) else (R X78_1)) else (R X78_1)) else (bif a0_0 == 3 then (bif decide (1 ≤ y0m1_1.length) && okK (some .i64) (y0m1_1.getD 0 .dead) then (bif decide (IntKind.i64.wrap (0 - intC (y0m1_1.getD 0 .dead)) < -2147483648) then (R X78_0) else (bif decide (IntKind.i64.wrap (0 - intC (y0m1_1.getD 0 .dead)) > 2147483647) then (R X78_0) else (R (Ret.mk (.tup [(.one (.v (.int .i64 (IntKind.i64.wrap (0 - intC (y0m1_1.getD 0 .dead)))))), (.one (.v (.int .i64 0)))]) [])))) else False) else (bif a0_0 == 4 then (bif decide (1 ≤ y0m1_1.length) && okK (some .i64) (y0m1_1.getD 0 .dead) then (bif decide (2 ≤ y0m1_1.length) && okK (some .i64) (y0m1_1.getD 1 .dead) then (bif decide (IntKind.i64.wrap (X78_6 y0m1_1) < -2147483648) then (R X78_0) else (bif decide (IntKind.i64.wrap (X78_6 y0m1_1) > 2147483647) then (R X78_0) else (R (Ret.mk (.tup [(.one (.v (.int .i64 (IntKind.i64.wrap (X78_6 y0m1_1))))), (.one (.v (.int .i64 0)))]) [])))) else False) else False) else (bif a0_0 == 5 then (bif decide (1 ≤ y0m1_1.length) && okK (some .i64) (y0m1_1.getD 0 .dead) then (bif decide (2 ≤ y0m1_1.length) && okK (some .i64) (y0m1_1.getD 1 .dead) then (bif decide (IntKind.i64.wrap (X78_7 y0m1_1) < -2147483648) then (R X78_0) else (bif decide (IntKind.i64.wrap (X78_7 y0m1_1) > 2147483647) then (R X78_0) else (R (Ret.mk (.tup [(.one (.v (.int .i64 (IntKind.i64.wrap (X78_7 y0m1_1))))), (.one (.v (.int .i64 0)))]) [])))) else False) else False) else (bif a0_0 == 6 then (bif decide (1 ≤ y0m1_1.length) && okK (some .i64) (y0m1_1.getD 0 .dead) then (bif decide (2 ≤ y0m1_1.length) && okK (some .i64) (y0m1_1.getD 1 .dead) then (bif decide (IntKind.i64.wrap (X78_8 y0m1_1) < -2147483648) then (R X78_0) else (bif decide (IntKind.i64.wrap (X78_8 y0m1_1) > 2147483647) then (R X78_0) else (R (Ret.mk (.tup [(.one (.v (.int .i64 (IntKind.i64.wrap (X78_8 y0m1_1))))), (.one (.v (.int .i64 0)))]) [])))) else False) else False) else (bif a0_0 == 7 then (bif decide (2 ≤ y0m1_1.length) && okK (some .i64) (y0m1_1.getD 1 .dead) then (bif intC (y0m1_1.getD 1 .dead) == 0 then (R X78_2) else (bif decide (1 ≤ y0m1_1.length) && okK (some .i64) (y0m1_1.getD 0 .dead) then (bif intC (y0m1_1.getD 1 .dead) != 0 then (bif decide (IntKind.i64.wrap (X78_4 y0m1_1) < -2147483648) then (R X78_0) else (bif decide (IntKind.i64.wrap (X78_4 y0m1_1) > 2147483647) then (R X78_0) else (R (Ret.mk (.tup [(.one (.v (.int .i64 (IntKind.i64.wrap (X78_4 y0m1_1))))), (.one (.v (.int .i64 0)))]) [])))) else False) else False)) else False) else (bif a0_0 == 8 then (bif decide (2 ≤ y0m1_1.length) && okK (some .i64) (y0m1_1.getD 1 .dead) then (bif intC (y0m1_1.getD 1 .dead) == 0 then (R X78_2) else (bif decide (1 ≤ y0m1_1.length) && okK (some .i64) (y0m1_1.getD 0 .dead) then (bif intC (y0m1_1.getD 1 .dead) != 0 then (bif decide ((intC (y0m1_1.getD 0 .dead)).tmod (intC (y0m1_1.getD 1 .dead)) < -2147483648) then (R X78_0) else (bif decide ((intC (y0m1_1.getD 0 .dead)).tmod (intC (y0m1_1.getD 1 .dead)) > 2147483647) then (R X78_0) else (R (X78_9 y0m1_1)))) else False) else False)) else False) else (R X78_1)))))))))) z.1 z.2)) z0) (Sum.inl (0, 0))
set_option maxRecDepth 100000 in
theorem f78_sound (DD : Nat) (a0_0 : Int) (a0_1 : Int) (a0_2 : Int) (a0_3n : Nat) (a0_3 : List Cell) (a1n : Nat) (a1 : List Cell) (hC : CtxOk Try.prog (cx78 DD).q.ctx) {r : Ret} (h : f78_wp DD a0_0 a0_1 a0_2 a0_3n a0_3 a1n a1 (fun r' => r' = r)) : SoundAt Try.prog 78 [(.agg [(.v (.int .i64 a0_0)), (.v (.int .i64 a0_1)), (.v (.int .i64 a0_2)), (.sl a0_3n a0_3)]), (.one (.sl a1n a1))] r := by
 refine soundAtO (C := (cx78 DD)) (oc := .e) mixed hC F78_ok ?_
 rewrite [E78 DD a0_0 a0_1 a0_2 a0_3n a0_3 a1n a1]
 unfold f78_wp at h
 refine loop_of (I := (sumE (fun (z : Int × Int) => (I78_0_0 DD a0_0 a0_1 a0_2 a0_3n a0_3 a1n a1 z.1 z.2)) (fun (z : Int × (List Cell)) => (I78_0_1 DD a0_0 a0_1 a0_2 a0_3n a0_3 a1n a1 z.1 z.2)))) (fun z k0 h => ?_) h rfl rfl
 rcases z with z | z
 ·obtain ⟨y0_0, y0_1⟩ := z
  try dsimp only [sumE_l, sumE_r] at h
  refine bodyX_i (ob := (.two (.n 0 (.two (.two .e .e) (.two (.two (.n 1 .e) (.n 0 (.two .e .e))) (.two (.two (.n 3 (.two (.two (.n 1 .e) (.n 0 (.two .e .e))) (.n 2 .e))) (.n 7 .e)) (.two (.two (.n 1 .e) (.n 0 (.two .e .e))) (.two (.two (.n 1 .e) (.n 0 (.two .e .e))) (.two (.two (.n 1 .e) (.n 0 (.two .e .e))) (.two (.two (.n 1 .e) (.n 0 (.two .e .e))) (.two (.n 1 .e) (.two (.n 0 .e) (.n 2 .e))))))))))) (.n 1 (.two (.two (.n 1 .e) (.n 0 (.two .e .e))) (.two (.two (.n 3 (.two (.two (.n 1 .e) (.n 0 (.two .e .e))) (.n 2 .e))) (.n 7 .e)) (.two (.two (.n 1 .e) (.n 0 (.two .e .e))) (.two (.two (.n 1 .e) (.n 0 (.two .e .e))) (.two (.two (.n 1 .e) (.n 0 (.two .e .e))) (.two (.two (.n 1 .e) (.n 0 (.two .e .e))) (.two (.n 1 .e) (.two (.n 0 .e) (.n 2 .e)))))))))))) ?_
  try dsimp only [sumE_l, sumE_r]
  rewrite [E78_0_0 DD a0_0 a0_1 a0_2 a0_3n a0_3 a1n a1 y0_0 y0_1]
  refine cond_mapE h (fun q43 h => ?_) (fun q43 h => ?_)
  ·refine cond_mapE h (fun q44 h => ?_) (fun q44 h => ?_)
   ·refine ck_mapE h (fun q45 h => ck_mapE h (fun q46 h => letV_mapE h (fun u47 h => ck_mapE h (fun q48 h => ?_))))
    refine cond_mapE h (fun q49 h => ?_) (fun q49 h => ?_)
    ·exact h
    ·refine ck_mapE h (fun q50 h => ck_mapE h (fun q51 h => ?_))
     obtain ⟨q52, h⟩ := h
     exact again_i (y := (Sum.inr ((IntKind.i64.wrap (y0_0 + 1)), ([Cell.v (Value.int .i64 y0_1), Cell.v (Value.int .i64 0)].set (y0_0.toNat * 1) (Cell.v (Value.int .i64 u47.1)))))) q52 h
   ·refine cond_mapE h (fun q53 h => ?_) (fun q53 h => ?_)
    ·refine cond_mapE h (fun q54 h => ?_) (fun q54 h => ?_)
     ·exact h
     ·refine cond_mapE h (fun q55 h => ?_) (fun q55 h => ?_)
      ·exact h
      ·exact h
    ·refine cond_mapE h (fun q56 h => ?_) (fun q56 h => ?_)
     ·refine cond_mapE h (fun q57 h => ?_) (fun q57 h => ?_)
      ·refine cond_mapE h (fun q58 h => ?_) (fun q58 h => ?_)
       ·refine ck_mapE h (fun q59 h => ck_mapE h (fun q60 h => ?_))
        refine cond_mapE h (fun q61 h => ?_) (fun q61 h => ?_)
        ·exact h
        ·refine cond_mapE h (fun q62 h => ?_) (fun q62 h => ?_)
         ·exact h
         ·exact h
       ·exact h
      ·exact h
     ·refine cond_mapE h (fun q63 h => ?_) (fun q63 h => ?_)
      ·refine cond_mapE h (fun q64 h => ?_) (fun q64 h => ?_)
       ·exact h
       ·refine cond_mapE h (fun q65 h => ?_) (fun q65 h => ?_)
        ·exact h
        ·exact h
      ·refine cond_mapE h (fun q66 h => ?_) (fun q66 h => ?_)
       ·refine cond_mapE h (fun q67 h => ?_) (fun q67 h => ?_)
        ·exact h
        ·refine cond_mapE h (fun q68 h => ?_) (fun q68 h => ?_)
         ·exact h
         ·exact h
       ·refine cond_mapE h (fun q69 h => ?_) (fun q69 h => ?_)
        ·refine cond_mapE h (fun q70 h => ?_) (fun q70 h => ?_)
         ·exact h
         ·refine cond_mapE h (fun q71 h => ?_) (fun q71 h => ?_)
          ·exact h
          ·exact h
        ·refine cond_mapE h (fun q72 h => ?_) (fun q72 h => ?_)
         ·refine cond_mapE h (fun q73 h => ?_) (fun q73 h => ?_)
          ·exact h
          ·refine cond_mapE h (fun q74 h => ?_) (fun q74 h => ?_)
           ·exact h
           ·exact h
         ·refine cond_mapE h (fun q75 h => ?_) (fun q75 h => ?_)
          ·exact h
          ·refine cond_mapE h (fun q76 h => ?_) (fun q76 h => ?_)
           ·exact h
           ·exact h
  ·refine cond_mapE h (fun q77 h => ?_) (fun q77 h => ?_)
   ·refine cond_mapE h (fun q78 h => ?_) (fun q78 h => ?_)
    ·exact h
    ·refine cond_mapE h (fun q79 h => ?_) (fun q79 h => ?_)
     ·exact h
     ·exact h
   ·refine cond_mapE h (fun q80 h => ?_) (fun q80 h => ?_)
    ·refine cond_mapE h (fun q81 h => ?_) (fun q81 h => ?_)
     ·refine cond_mapE h (fun q82 h => ?_) (fun q82 h => ?_)
      ·refine ck_mapE h (fun q83 h => ck_mapE h (fun q84 h => ?_))
       refine cond_mapE h (fun q85 h => ?_) (fun q85 h => ?_)
       ·exact h
       ·refine cond_mapE h (fun q86 h => ?_) (fun q86 h => ?_)
        ·exact h
        ·exact h
      ·exact h
     ·exact h
    ·refine cond_mapE h (fun q87 h => ?_) (fun q87 h => ?_)
     ·refine cond_mapE h (fun q88 h => ?_) (fun q88 h => ?_)
      ·exact h
      ·refine cond_mapE h (fun q89 h => ?_) (fun q89 h => ?_)
       ·exact h
       ·exact h
     ·refine cond_mapE h (fun q90 h => ?_) (fun q90 h => ?_)
      ·refine cond_mapE h (fun q91 h => ?_) (fun q91 h => ?_)
       ·exact h
       ·refine cond_mapE h (fun q92 h => ?_) (fun q92 h => ?_)
        ·exact h
        ·exact h
      ·refine cond_mapE h (fun q93 h => ?_) (fun q93 h => ?_)
       ·refine cond_mapE h (fun q94 h => ?_) (fun q94 h => ?_)
        ·exact h
        ·refine cond_mapE h (fun q95 h => ?_) (fun q95 h => ?_)
         ·exact h
         ·exact h
       ·refine cond_mapE h (fun q96 h => ?_) (fun q96 h => ?_)
        ·refine cond_mapE h (fun q97 h => ?_) (fun q97 h => ?_)
         ·exact h
         ·refine cond_mapE h (fun q98 h => ?_) (fun q98 h => ?_)
          ·exact h
          ·exact h
        ·refine cond_mapE h (fun q99 h => ?_) (fun q99 h => ?_)
         ·exact h
         ·refine cond_mapE h (fun q100 h => ?_) (fun q100 h => ?_)
          ·exact h
          ·exact h
 ·obtain ⟨y0m1_0, y0m1_1⟩ := z
  try dsimp only [sumE_l, sumE_r] at h
  refine bodyX_i (ob := (.two (.n 0 (.two (.two .e .e) (.two (.two (.n 1 .e) (.n 0 (.two .e .e))) (.two (.two (.n 3 (.two (.two (.n 1 .e) (.n 0 (.two .e .e))) (.n 2 .e))) (.n 7 .e)) (.two (.two (.n 1 .e) (.n 0 (.two .e .e))) (.two (.two (.n 1 .e) (.n 0 (.two .e .e))) (.two (.two (.n 1 .e) (.n 0 (.two .e .e))) (.two (.two (.n 1 .e) (.n 0 (.two .e .e))) (.two (.n 0 (.two .e (.b true (.two (.n 1 .e) (.n 0 (.two .e .e)))))) (.two (.two .e (.b false (.two (.n 1 .e) (.n 0 (.two .e .e))))) (.n 2 .e))))))))))) (.n 1 (.two (.two (.n 1 .e) (.n 0 (.two .e .e))) (.two (.two (.n 3 (.two (.two (.n 1 .e) (.n 0 (.two .e .e))) (.n 2 .e))) (.n 7 .e)) (.two (.two (.n 1 .e) (.n 0 (.two .e .e))) (.two (.two (.n 1 .e) (.n 0 (.two .e .e))) (.two (.two (.n 1 .e) (.n 0 (.two .e .e))) (.two (.two (.n 1 .e) (.n 0 (.two .e .e))) (.two (.n 0 (.two .e (.b true (.two (.n 1 .e) (.n 0 (.two .e .e)))))) (.two (.two .e (.b false (.two (.n 1 .e) (.n 0 (.two .e .e))))) (.n 2 .e)))))))))))) ?_
  try dsimp only [sumE_l, sumE_r]
  rewrite [E78_0_1 DD a0_0 a0_1 a0_2 a0_3n a0_3 a1n a1 y0m1_0 y0m1_1]
  refine cond_mapE h (fun q101 h => ?_) (fun q101 h => ?_)
  ·refine cond_mapE h (fun q102 h => ?_) (fun q102 h => ?_)
   ·refine ck_mapE h (fun q103 h => ck_mapE h (fun q104 h => letV_mapE h (fun u105 h => ck_mapE h (fun q106 h => ?_))))
    refine cond_mapE h (fun q107 h => ?_) (fun q107 h => ?_)
    ·exact h
    ·refine ck_mapE h (fun q108 h => ck_mapE h (fun q109 h => ?_))
     obtain ⟨q110, h⟩ := h
     exact again_i (y := (Sum.inr ((IntKind.i64.wrap (y0m1_0 + 1)), (y0m1_1.set (y0m1_0.toNat * 1) (Cell.v (Value.int .i64 u105.1)))))) q110 h
   ·refine cond_mapE h (fun q111 h => ?_) (fun q111 h => ?_)
    ·refine cond_mapE h (fun q112 h => ?_) (fun q112 h => ?_)
     ·exact h
     ·refine cond_mapE h (fun q113 h => ?_) (fun q113 h => ?_)
      ·exact h
      ·exact h
    ·refine cond_mapE h (fun q114 h => ?_) (fun q114 h => ?_)
     ·refine cond_mapE h (fun q115 h => ?_) (fun q115 h => ?_)
      ·refine cond_mapE h (fun q116 h => ?_) (fun q116 h => ?_)
       ·refine ck_mapE h (fun q117 h => ck_mapE h (fun q118 h => ?_))
        refine cond_mapE h (fun q119 h => ?_) (fun q119 h => ?_)
        ·exact h
        ·refine cond_mapE h (fun q120 h => ?_) (fun q120 h => ?_)
         ·exact h
         ·exact h
       ·exact h
      ·exact h
     ·refine cond_mapE h (fun q121 h => ?_) (fun q121 h => ?_)
      ·refine ck_mapE h (fun q122 h => ?_)
       refine cond_mapE h (fun q123 h => ?_) (fun q123 h => ?_)
       ·exact h
       ·refine cond_mapE h (fun q124 h => ?_) (fun q124 h => ?_)
        ·exact h
        ·exact h
      ·refine cond_mapE h (fun q125 h => ?_) (fun q125 h => ?_)
       ·refine ck_mapE h (fun q126 h => ck_mapE h (fun q127 h => ?_))
        refine cond_mapE h (fun q128 h => ?_) (fun q128 h => ?_)
        ·exact h
        ·refine cond_mapE h (fun q129 h => ?_) (fun q129 h => ?_)
         ·exact h
         ·exact h
       ·refine cond_mapE h (fun q130 h => ?_) (fun q130 h => ?_)
        ·refine ck_mapE h (fun q131 h => ck_mapE h (fun q132 h => ?_))
         refine cond_mapE h (fun q133 h => ?_) (fun q133 h => ?_)
         ·exact h
         ·refine cond_mapE h (fun q134 h => ?_) (fun q134 h => ?_)
          ·exact h
          ·exact h
        ·refine cond_mapE h (fun q135 h => ?_) (fun q135 h => ?_)
         ·refine ck_mapE h (fun q136 h => ck_mapE h (fun q137 h => ?_))
          refine cond_mapE h (fun q138 h => ?_) (fun q138 h => ?_)
          ·exact h
          ·refine cond_mapE h (fun q139 h => ?_) (fun q139 h => ?_)
           ·exact h
           ·exact h
         ·refine cond_mapE h (fun q140 h => ?_) (fun q140 h => ?_)
          ·refine ck_mapE h (fun q141 h => ?_)
           refine cond_mapE h (fun q142 h => ?_) (fun q142 h => ?_)
           ·exact h
           ·refine ⟨q140, ?_⟩
            refine ck_mapE h (fun q143 h => ck_i q141 (ck_mapE h (fun q144 h => ?_)))
            refine cond_mapE h (fun q145 h => ?_) (fun q145 h => ?_)
            ·exact h
            ·refine cond_mapE h (fun q146 h => ?_) (fun q146 h => ?_)
             ·exact h
             ·exact h
          ·refine cond_mapE h (fun q147 h => ?_) (fun q147 h => ?_)
           ·refine ck_mapE h (fun q148 h => ?_)
            refine cond_mapE h (fun q149 h => ?_) (fun q149 h => ?_)
            ·exact h
            ·refine ⟨q140, ?_⟩
             refine ck_mapE h (fun q150 h => ck_i q148 (ck_mapE h (fun q151 h => ?_)))
             refine cond_mapE h (fun q152 h => ?_) (fun q152 h => ?_)
             ·exact h
             ·refine cond_mapE h (fun q153 h => ?_) (fun q153 h => ?_)
              ·exact h
              ·exact h
           ·exact h
  ·refine cond_mapE h (fun q154 h => ?_) (fun q154 h => ?_)
   ·refine cond_mapE h (fun q155 h => ?_) (fun q155 h => ?_)
    ·exact h
    ·refine cond_mapE h (fun q156 h => ?_) (fun q156 h => ?_)
     ·exact h
     ·exact h
   ·refine cond_mapE h (fun q157 h => ?_) (fun q157 h => ?_)
    ·refine cond_mapE h (fun q158 h => ?_) (fun q158 h => ?_)
     ·refine cond_mapE h (fun q159 h => ?_) (fun q159 h => ?_)
      ·refine ck_mapE h (fun q160 h => ck_mapE h (fun q161 h => ?_))
       refine cond_mapE h (fun q162 h => ?_) (fun q162 h => ?_)
       ·exact h
       ·refine cond_mapE h (fun q163 h => ?_) (fun q163 h => ?_)
        ·exact h
        ·exact h
      ·exact h
     ·exact h
    ·refine cond_mapE h (fun q164 h => ?_) (fun q164 h => ?_)
     ·refine ck_mapE h (fun q165 h => ?_)
      refine cond_mapE h (fun q166 h => ?_) (fun q166 h => ?_)
      ·exact h
      ·refine cond_mapE h (fun q167 h => ?_) (fun q167 h => ?_)
       ·exact h
       ·exact h
     ·refine cond_mapE h (fun q168 h => ?_) (fun q168 h => ?_)
      ·refine ck_mapE h (fun q169 h => ck_mapE h (fun q170 h => ?_))
       refine cond_mapE h (fun q171 h => ?_) (fun q171 h => ?_)
       ·exact h
       ·refine cond_mapE h (fun q172 h => ?_) (fun q172 h => ?_)
        ·exact h
        ·exact h
      ·refine cond_mapE h (fun q173 h => ?_) (fun q173 h => ?_)
       ·refine ck_mapE h (fun q174 h => ck_mapE h (fun q175 h => ?_))
        refine cond_mapE h (fun q176 h => ?_) (fun q176 h => ?_)
        ·exact h
        ·refine cond_mapE h (fun q177 h => ?_) (fun q177 h => ?_)
         ·exact h
         ·exact h
       ·refine cond_mapE h (fun q178 h => ?_) (fun q178 h => ?_)
        ·refine ck_mapE h (fun q179 h => ck_mapE h (fun q180 h => ?_))
         refine cond_mapE h (fun q181 h => ?_) (fun q181 h => ?_)
         ·exact h
         ·refine cond_mapE h (fun q182 h => ?_) (fun q182 h => ?_)
          ·exact h
          ·exact h
        ·refine cond_mapE h (fun q183 h => ?_) (fun q183 h => ?_)
         ·refine ck_mapE h (fun q184 h => ?_)
          refine cond_mapE h (fun q185 h => ?_) (fun q185 h => ?_)
          ·exact h
          ·refine ⟨q183, ?_⟩
           refine ck_mapE h (fun q186 h => ck_i q184 (ck_mapE h (fun q187 h => ?_)))
           refine cond_mapE h (fun q188 h => ?_) (fun q188 h => ?_)
           ·exact h
           ·refine cond_mapE h (fun q189 h => ?_) (fun q189 h => ?_)
            ·exact h
            ·exact h
         ·refine cond_mapE h (fun q190 h => ?_) (fun q190 h => ?_)
          ·refine ck_mapE h (fun q191 h => ?_)
           refine cond_mapE h (fun q192 h => ?_) (fun q192 h => ?_)
           ·exact h
           ·refine ⟨q183, ?_⟩
            refine ck_mapE h (fun q193 h => ck_i q191 (ck_mapE h (fun q194 h => ?_)))
            refine cond_mapE h (fun q195 h => ?_) (fun q195 h => ?_)
            ·exact h
            ·refine cond_mapE h (fun q196 h => ?_) (fun q196 h => ?_)
             ·exact h
             ·exact h
          ·exact h
end Go.Proofs.Ytgmciihlmgeecaa.Fn
