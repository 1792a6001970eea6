import Derived.Test.YtgmciihlmgeecaaWE

import Derived.Test.YtgmciihlmgeecaaSpE2

/- The reference's Linear, walked. No conditions beyond those named. -/

namespace Go.Proofs.Ytgmciihlmgeecaa.Fn

open Go Go.RowKit Go.Proofs Go.Proofs.Ytgmciihlmgeecaa.Mt Go.Proofs.Ytgmciihlmgeecaa.Zm

set_option linter.unusedVariables false

set_option linter.unusedSimpArgs false

def cx70 (DD : Nat) : CtxW := ⟨⟨[(70, sum70 DD)], []⟩, 16, []⟩


def F70 : SFn := ⟨118, [(.tmp 2), (.tmp 3), (.tmp 4)], (.seq (.reg [(o1 1 (.box (.t 0))), (o1 2 (.mv (.c (.int .i64 0)))), (o1 3 (.mv (.c (.int .i64 0)))), (o1 4 (.mv (.c (.bool .false))))]) (.seq (.reg [(o1 5 (.mv (.c (.int .i64 (-1))))), (o1 6 (.mv (.c (.int .i64 0)))), (o1 7 (.mv (.c (.bool .false))))]) (.seq (.blk 0 (.seq (.reg [(o1 15 (.fld 0 (.t 1))), (o1 16 (.load .false .false 1 [(.some .i64)] (.t 15))), (o1 17 (.bin .eql (.t 16) (.c (.int .i64 1)))), (o1 18 (.mv (.t 17))), (oS 19 (.fld 3 (.t 1)) (.some (18, .true))), (oS 20 (.load .false .false 1 [] (.t 19)) (.some (18, .true))), (oS 21 (.len (.t 20)) (.some (18, .true))), (oS 22 (.bin .eql (.t 21) (.c (.int .i64 0))) (.some (18, .true))), (o1 23 (.pick (.t 18) (.t 22) (.c (.bool .false)))), (o1 14 (.mv (.t 23)))]) (.cond (.t 14) (.reg [(o1 24 (.fld 1 (.t 1))), (o1 25 (.load .false .false 1 [(.some .i64)] (.t 24))), (o1 6 (.mv (.t 25))), (o1 7 (.mv (.c (.bool .true))))]) (.seq (.reg [(o1 27 (.fld 0 (.t 1))), (o1 28 (.load .false .false 1 [(.some .i64)] (.t 27))), (o1 29 (.bin .eql (.t 28) (.c (.int .i64 2)))), (o1 30 (.mv (.t 29))), (oS 31 (.fld 3 (.t 1)) (.some (30, .true))), (oS 32 (.load .false .false 1 [] (.t 31)) (.some (30, .true))), (oS 33 (.len (.t 32)) (.some (30, .true))), (oS 34 (.bin .eql (.t 33) (.c (.int .i64 0))) (.some (30, .true))), (o1 35 (.pick (.t 30) (.t 34) (.c (.bool .false)))), (o1 26 (.mv (.t 35)))]) (.cond (.t 26) (.reg [(o1 36 (.fld 2 (.t 1))), (o1 37 (.load .false .false 1 [(.some .i64)] (.t 36))), (o1 5 (.mv (.t 37))), (o1 7 (.mv (.c (.bool .true))))]) (.seq (.reg [(o1 39 (.fld 0 (.t 1))), (o1 40 (.load .false .false 1 [(.some .i64)] (.t 39))), (o1 41 (.bin .eql (.t 40) (.c (.int .i64 4)))), (o1 42 (.mv (.t 41))), (oS 43 (.fld 0 (.t 1)) (.some (42, .false))), (oS 44 (.load .false .false 1 [(.some .i64)] (.t 43)) (.some (42, .false))), (oS 45 (.bin .eql (.t 44) (.c (.int .i64 5))) (.some (42, .false))), (o1 46 (.pick (.t 42) (.c (.bool .true)) (.t 45))), (o1 47 (.mv (.t 46))), (oS 48 (.fld 3 (.t 1)) (.some (47, .true))), (oS 49 (.load .false .false 1 [] (.t 48)) (.some (47, .true))), (oS 50 (.len (.t 49)) (.some (47, .true))), (oS 51 (.bin .eql (.t 50) (.c (.int .i64 2))) (.some (47, .true))), (o1 52 (.pick (.t 47) (.t 51) (.c (.bool .false)))), (o1 38 (.mv (.t 52)))]) (.cond (.t 38) (.seq (.reg [(o1 54 (.fld 3 (.t 1))), (o1 55 (.load .false .false 1 [] (.t 54))), (o1 56 (.ixS 4 (.t 55) (.c (.int .i64 0)))), (o1 57 (.load .true .true 4 [] (.t 56))), (o1 58 (.call .false .false (.f 70) [(.t 57)])), (o1 53 (.mv (.t 58))), (o1 59 (.ext 0 (.t 53))), (o1 60 (.ext 1 (.t 53))), (o1 61 (.ext 2 (.t 53))), (o1 8 (.mv (.t 59))), (o1 9 (.mv (.t 60))), (o1 10 (.mv (.t 61)))]) (.seq (.reg [(o1 63 (.fld 3 (.t 1))), (o1 64 (.load .false .false 1 [] (.t 63))), (o1 65 (.ixS 4 (.t 64) (.c (.int .i64 1)))), (o1 66 (.load .true .true 4 [] (.t 65))), (o1 67 (.call .false .false (.f 70) [(.t 66)])), (o1 62 (.mv (.t 67))), (o1 68 (.ext 0 (.t 62))), (o1 69 (.ext 1 (.t 62))), (o1 70 (.ext 2 (.t 62))), (o1 11 (.mv (.t 68))), (o1 12 (.mv (.t 69))), (o1 13 (.mv (.t 70)))]) (.seq (.seq (.reg [(o1 71 (.mv (.t 10))), (o1 72 (.un .not (.t 71))), (o1 73 (.mv (.t 72))), (oS 74 (.mv (.t 13)) (.some (73, .false))), (oS 75 (.un .not (.t 74)) (.some (73, .false))), (o1 76 (.pick (.t 73) (.c (.bool .true)) (.t 75))), (o1 77 (.mv (.t 76))), (oS 78 (.mv (.t 8)) (.some (77, .false))), (oS 79 (.bin .geq (.t 78) (.c (.int .i64 0))) (.some (77, .false))), (oS 80 (.mv (.t 79)) (.some (77, .false))), (oS 81 (.mv (.t 11)) (.some (80, .true))), (oS 82 (.bin .geq (.t 81) (.c (.int .i64 0))) (.some (80, .true))), (oS 83 (.pick (.t 80) (.t 82) (.c (.bool .false))) (.some (77, .false))), (o1 84 (.pick (.t 77) (.c (.bool .true)) (.t 83))), (o1 85 (.mv (.t 84))), (oS 86 (.fld 0 (.t 1)) (.some (85, .false))), (oS 87 (.load .false .false 1 [(.some .i64)] (.t 86)) (.some (85, .false))), (oS 88 (.bin .eql (.t 87) (.c (.int .i64 5))) (.some (85, .false))), (oS 89 (.mv (.t 88)) (.some (85, .false))), (oS 90 (.mv (.t 11)) (.some (89, .true))), (oS 91 (.bin .geq (.t 90) (.c (.int .i64 0))) (.some (89, .true))), (oS 92 (.pick (.t 89) (.t 91) (.c (.bool .false))) (.some (85, .false))), (o1 93 (.pick (.t 85) (.c (.bool .true)) (.t 92)))]) (.cond (.t 93) (.seq (.reg [(o1 2 (.mv (.c (.int .i64 0)))), (o1 3 (.mv (.c (.int .i64 0)))), (o1 4 (.mv (.c (.bool .false))))]) .ret) .skip)) (.seq (.reg [(o1 94 (.mv (.t 8))), (o1 95 (.mv (.t 11))), (o1 96 (.mm .true [(.t 94), (.t 95)])), (o1 97 (.mv (.t 9))), (o1 98 (.mv (.t 12))), (o1 99 (.bin .add (.t 97) (.t 98))), (o1 5 (.mv (.t 96))), (o1 6 (.mv (.t 99))), (o1 7 (.mv (.c (.bool .true))))]) (.seq (.reg [(o1 100 (.fld 0 (.t 1))), (o1 101 (.load .false .false 1 [(.some .i64)] (.t 100))), (o1 102 (.bin .eql (.t 101) (.c (.int .i64 5))))]) (.cond (.t 102) (.reg [(o1 103 (.mv (.t 9))), (o1 104 (.mv (.t 12))), (o1 105 (.bin .sub (.t 103) (.t 104))), (o1 6 (.mv (.t 105)))]) .skip)))))) .skip))))))) (.seq (.seq (.reg [(o1 106 (.mv (.t 7))), (o1 107 (.un .not (.t 106))), (o1 108 (.mv (.t 107))), (oS 109 (.mv (.t 6)) (.some (108, .false))), (oS 110 (.bin .gtr (.t 109) (.c (.int .i64 1099511627776))) (.some (108, .false))), (o1 111 (.pick (.t 108) (.c (.bool .true)) (.t 110))), (o1 112 (.mv (.t 111))), (oS 113 (.mv (.t 6)) (.some (112, .false))), (oS 114 (.bin .lss (.t 113) (.c (.int .i64 (-1099511627776)))) (.some (112, .false))), (o1 115 (.pick (.t 112) (.c (.bool .true)) (.t 114)))]) (.cond (.t 115) (.seq (.reg [(o1 2 (.mv (.c (.int .i64 0)))), (o1 3 (.mv (.c (.int .i64 0)))), (o1 4 (.mv (.c (.bool .false))))]) .ret) .skip)) (.seq (.reg [(o1 116 (.mv (.t 5))), (o1 117 (.mv (.t 6))), (o1 2 (.mv (.t 116))), (o1 3 (.mv (.t 117))), (o1 4 (.mv (.c (.bool .true))))]) .ret)))))⟩

theorem F70_ok : sfn Try.prog hintsN 70 [] = some F70 := by kernel_rfl

theorem E70 (DD : Nat) (a0_0 : Int) (a0_1 : Int) (a0_2 : Int) (a0_3n : Nat) (a0_3 : List Cell) (R : Ret → Prop) : wpFO (cx70 DD) F70 (.two (.n 2 (.two (.n 1 (.two (.n 1 .e) (.n 0 (.two .e .e)))) (.b false (.n 3 (.b false (.n 1 (.b false (.n 8 .e)))))))) (.n 3 (.two (.n 2 (.two (.n 4 .e) (.b false (.n 1 (.b false (.n 8 .e)))))) (.n 3 (.two (.n 5 (.two (.two (.n 10 .e) (.n 0 (.two (.n 8 .e) (.n 1 (.two (.n 1 (.two (.n 4 .e) (.n 2 (.b false (.n 2 (.b false (.n 1 (.two (.n 1 .e) (.n 0 (.two .e .e)))))))))) (.n 5 (.b false (.n 2 (.b false (.n 1 (.two (.n 1 .e) (.n 0 (.two .e .e))))))))))))) (.n 4 .e))) (.n 1 (.two (.n 2 (.two (.two (.n 10 .e) (.n 0 (.two (.n 8 .e) (.n 1 (.two (.n 1 (.two (.n 4 .e) (.n 2 (.b true (.n 1 (.b false (.b true (.n 1 (.two (.n 1 .e) (.n 0 (.two .e .e))))))))))) (.n 5 (.b true (.n 1 (.two .e (.b true (.n 1 (.two (.n 1 .e) (.n 0 (.two .e .e)))))))))))))) (.n 4 .e))) (.n 8 .e)))))))) [(.agg [(.v (.int .i64 a0_0)), (.v (.int .i64 a0_1)), (.v (.int .i64 a0_2)), (.sl a0_3n a0_3)])] R = (bif a0_0 == 1 then (bif (↑a0_3n : Int) == 0 then (bif decide (a0_1 > 1099511627776) then (R (Ret.mk (.tup [(.one (.v (.int .i64 0))), (.one (.v (.int .i64 0))), (.one (.v (.bool .false)))]) [])) else (bif decide (a0_1 < -1099511627776) then (R (Ret.mk (.tup [(.one (.v (.int .i64 0))), (.one (.v (.int .i64 0))), (.one (.v (.bool .false)))]) [])) else (R (Ret.mk (.tup [(.one (.v (.int .i64 (-1)))), (.one (.v (.int .i64 (a0_1)))), (.one (.v (.bool .true)))]) [])))) else ((a0_0 == 2) = false ∧ ((a0_0 == 4) = false ∧ ((a0_0 == 5) = false ∧ (R (Ret.mk (.tup [(.one (.v (.int .i64 0))), (.one (.v (.int .i64 0))), (.one (.v (.bool .false)))]) [])))))) else (bif a0_0 == 2 then (bif (↑a0_3n : Int) == 0 then (R (Ret.mk (.tup [(.one (.v (.int .i64 (a0_2)))), (.one (.v (.int .i64 0))), (.one (.v (.bool .true)))]) [])) else ((a0_0 == 4) = false ∧ ((a0_0 == 5) = false ∧ (R (Ret.mk (.tup [(.one (.v (.int .i64 0))), (.one (.v (.int .i64 0))), (.one (.v (.bool .false)))]) []))))) else (bif a0_0 == 4 then (bif (↑a0_3n : Int) == 2 then (bif decide (0 < (↑a0_3n : Int)) && decide (0 < a0_3.length) then (bif decide (4 ≤ a0_3.length) then (letV (refC DD (List.take 4 a0_3)) (fun (u16 : (Int × Int) × Bool) => bif (List.take 4 a0_3).all plainC && true && okE DD (List.take 4 a0_3) && true && true && true && true && true then (bif decide (1 < (↑a0_3n : Int)) && decide (4 < a0_3.length) then (bif decide (8 ≤ a0_3.length) then (letV (refC DD (List.take 4 (List.drop 4 a0_3))) (fun (u20 : (Int × Int) × Bool) => bif (List.take 4 (List.drop 4 a0_3)).all plainC && true && okE DD (List.take 4 (List.drop 4 a0_3)) && true && true && true && true && true then (bif !u16.2 then (R (Ret.mk (.tup [(.one (.v (.int .i64 0))), (.one (.v (.int .i64 0))), (.one (.v (.bool .false)))]) [])) else (bif !u20.2 then (R (Ret.mk (.tup [(.one (.v (.int .i64 0))), (.one (.v (.int .i64 0))), (.one (.v (.bool .false)))]) [])) else (bif decide (u16.1.1 ≥ 0) then (bif decide (u20.1.1 ≥ 0) then (R (Ret.mk (.tup [(.one (.v (.int .i64 0))), (.one (.v (.int .i64 0))), (.one (.v (.bool .false)))]) [])) else ((a0_0 == 5) = false ∧ ((a0_0 == 5) = false ∧ (bif decide (IntKind.i64.wrap (u16.1.2 + u20.1.2) > 1099511627776) then (R (Ret.mk (.tup [(.one (.v (.int .i64 0))), (.one (.v (.int .i64 0))), (.one (.v (.bool .false)))]) [])) else (bif decide (IntKind.i64.wrap (u16.1.2 + u20.1.2) < -1099511627776) then (R (Ret.mk (.tup [(.one (.v (.int .i64 0))), (.one (.v (.int .i64 0))), (.one (.v (.bool .false)))]) [])) else (R (Ret.mk (.tup [(.one (.v (.int .i64 (if u20.1.1 > u16.1.1 then u20.1.1 else u16.1.1)))), (.one (.v (.int .i64 (IntKind.i64.wrap (u16.1.2 + u20.1.2))))), (.one (.v (.bool .true)))]) []))))))) else ((a0_0 == 5) = false ∧ ((a0_0 == 5) = false ∧ (bif decide (IntKind.i64.wrap (u16.1.2 + u20.1.2) > 1099511627776) then (R (Ret.mk (.tup [(.one (.v (.int .i64 0))), (.one (.v (.int .i64 0))), (.one (.v (.bool .false)))]) [])) else (bif decide (IntKind.i64.wrap (u16.1.2 + u20.1.2) < -1099511627776) then (R (Ret.mk (.tup [(.one (.v (.int .i64 0))), (.one (.v (.int .i64 0))), (.one (.v (.bool .false)))]) [])) else (R (Ret.mk (.tup [(.one (.v (.int .i64 (if u20.1.1 > u16.1.1 then u20.1.1 else u16.1.1)))), (.one (.v (.int .i64 (IntKind.i64.wrap (u16.1.2 + u20.1.2))))), (.one (.v (.bool .true)))]) []))))))))) else False)) else False) else False) else False)) else False) else False) else (R (Ret.mk (.tup [(.one (.v (.int .i64 0))), (.one (.v (.int .i64 0))), (.one (.v (.bool .false)))]) []))) else (bif a0_0 == 5 then (bif (↑a0_3n : Int) == 2 then (bif decide (0 < (↑a0_3n : Int)) && decide (0 < a0_3.length) then (bif decide (4 ≤ a0_3.length) then (letV (refC DD (List.take 4 a0_3)) (fun (u36 : (Int × Int) × Bool) => bif (List.take 4 a0_3).all plainC && true && okE DD (List.take 4 a0_3) && true && true && true && true && true then (bif decide (1 < (↑a0_3n : Int)) && decide (4 < a0_3.length) then (bif decide (8 ≤ a0_3.length) then (letV (refC DD (List.take 4 (List.drop 4 a0_3))) (fun (u40 : (Int × Int) × Bool) => bif (List.take 4 (List.drop 4 a0_3)).all plainC && true && okE DD (List.take 4 (List.drop 4 a0_3)) && true && true && true && true && true then (bif !u36.2 then (R (Ret.mk (.tup [(.one (.v (.int .i64 0))), (.one (.v (.int .i64 0))), (.one (.v (.bool .false)))]) [])) else (bif !u40.2 then (R (Ret.mk (.tup [(.one (.v (.int .i64 0))), (.one (.v (.int .i64 0))), (.one (.v (.bool .false)))]) [])) else (bif decide (u36.1.1 ≥ 0) then (bif decide (u40.1.1 ≥ 0) then (R (Ret.mk (.tup [(.one (.v (.int .i64 0))), (.one (.v (.int .i64 0))), (.one (.v (.bool .false)))]) [])) else ((a0_0 == 5) = true ∧ ((decide (u40.1.1 ≥ 0)) = false ∧ ((a0_0 == 5) = true ∧ (bif decide (IntKind.i64.wrap (u36.1.2 - u40.1.2) > 1099511627776) then (R (Ret.mk (.tup [(.one (.v (.int .i64 0))), (.one (.v (.int .i64 0))), (.one (.v (.bool .false)))]) [])) else (bif decide (IntKind.i64.wrap (u36.1.2 - u40.1.2) < -1099511627776) then (R (Ret.mk (.tup [(.one (.v (.int .i64 0))), (.one (.v (.int .i64 0))), (.one (.v (.bool .false)))]) [])) else (R (Ret.mk (.tup [(.one (.v (.int .i64 (if u40.1.1 > u36.1.1 then u40.1.1 else u36.1.1)))), (.one (.v (.int .i64 (IntKind.i64.wrap (u36.1.2 - u40.1.2))))), (.one (.v (.bool .true)))]) [])))))))) else ((a0_0 == 5) = true ∧ (bif decide (u40.1.1 ≥ 0) then (R (Ret.mk (.tup [(.one (.v (.int .i64 0))), (.one (.v (.int .i64 0))), (.one (.v (.bool .false)))]) [])) else ((a0_0 == 5) = true ∧ (bif decide (IntKind.i64.wrap (u36.1.2 - u40.1.2) > 1099511627776) then (R (Ret.mk (.tup [(.one (.v (.int .i64 0))), (.one (.v (.int .i64 0))), (.one (.v (.bool .false)))]) [])) else (bif decide (IntKind.i64.wrap (u36.1.2 - u40.1.2) < -1099511627776) then (R (Ret.mk (.tup [(.one (.v (.int .i64 0))), (.one (.v (.int .i64 0))), (.one (.v (.bool .false)))]) [])) else (R (Ret.mk (.tup [(.one (.v (.int .i64 (if u40.1.1 > u36.1.1 then u40.1.1 else u36.1.1)))), (.one (.v (.int .i64 (IntKind.i64.wrap (u36.1.2 - u40.1.2))))), (.one (.v (.bool .true)))]) [])))))))))) else False)) else False) else False) else False)) else False) else False) else (R (Ret.mk (.tup [(.one (.v (.int .i64 0))), (.one (.v (.int .i64 0))), (.one (.v (.bool .false)))]) []))) else (R (Ret.mk (.tup [(.one (.v (.int .i64 0))), (.one (.v (.int .i64 0))), (.one (.v (.bool .false)))]) [])))))) := by kernel_rfl

def f70_wp (DD : Nat) (a0_0 : Int) (a0_1 : Int) (a0_2 : Int) (a0_3n : Nat) (a0_3 : List Cell) (R : Ret → Prop) : Prop := bif a0_0 == 1 then (bif (↑a0_3n : Int) == 0 then (bif decide (a0_1 > 1099511627776) then (R (Ret.mk (.tup [(.one (.v (.int .i64 0))), (.one (.v (.int .i64 0))), (.one (.v (.bool .false)))]) [])) else (bif decide (a0_1 < -1099511627776) then (R (Ret.mk (.tup [(.one (.v (.int .i64 0))), (.one (.v (.int .i64 0))), (.one (.v (.bool .false)))]) [])) else (R (Ret.mk (.tup [(.one (.v (.int .i64 (-1)))), (.one (.v (.int .i64 (a0_1)))), (.one (.v (.bool .true)))]) [])))) else ((a0_0 == 2) = false ∧ ((a0_0 == 4) = false ∧ ((a0_0 == 5) = false ∧ (R (Ret.mk (.tup [(.one (.v (.int .i64 0))), (.one (.v (.int .i64 0))), (.one (.v (.bool .false)))]) [])))))) else (bif a0_0 == 2 then (bif (↑a0_3n : Int) == 0 then (R (Ret.mk (.tup [(.one (.v (.int .i64 (a0_2)))), (.one (.v (.int .i64 0))), (.one (.v (.bool .true)))]) [])) else ((a0_0 == 4) = false ∧ ((a0_0 == 5) = false ∧ (R (Ret.mk (.tup [(.one (.v (.int .i64 0))), (.one (.v (.int .i64 0))), (.one (.v (.bool .false)))]) []))))) else (bif a0_0 == 4 then (bif (↑a0_3n : Int) == 2 then (bif decide (0 < (↑a0_3n : Int)) && decide (0 < a0_3.length) then (bif decide (4 ≤ a0_3.length) then (letV (refC DD (List.take 4 a0_3)) (fun (u16 : (Int × Int) × Bool) => bif (List.take 4 a0_3).all plainC && true && okE DD (List.take 4 a0_3) && true && true && true && true && true then (bif decide (1 < (↑a0_3n : Int)) && decide (4 < a0_3.length) then (bif decide (8 ≤ a0_3.length) then (letV (refC DD (List.take 4 (List.drop 4 a0_3))) (fun (u20 : (Int × Int) × Bool) => bif (List.take 4 (List.drop 4 a0_3)).all plainC && true && okE DD (List.take 4 (List.drop 4 a0_3)) && true && true && true && true && true then (bif !u16.2 then (R (Ret.mk (.tup [(.one (.v (.int .i64 0))), (.one (.v (.int .i64 0))), (.one (.v (.bool .false)))]) [])) else (bif !u20.2 then (R (Ret.mk (.tup [(.one (.v (.int .i64 0))), (.one (.v (.int .i64 0))), (.one (.v (.bool .false)))]) [])) else (bif decide (u16.1.1 ≥ 0) then (bif decide (u20.1.1 ≥ 0) then (R (Ret.mk (.tup [(.one (.v (.int .i64 0))), (.one (.v (.int .i64 0))), (.one (.v (.bool .false)))]) [])) else ((a0_0 == 5) = false ∧ (bif decide (IntKind.i64.wrap (u16.1.2 + u20.1.2) > 1099511627776) then (R (Ret.mk (.tup [(.one (.v (.int .i64 0))), (.one (.v (.int .i64 0))), (.one (.v (.bool .false)))]) [])) else (bif decide (IntKind.i64.wrap (u16.1.2 + u20.1.2) < -1099511627776) then (R (Ret.mk (.tup [(.one (.v (.int .i64 0))), (.one (.v (.int .i64 0))), (.one (.v (.bool .false)))]) [])) else (R (Ret.mk (.tup [(.one (.v (.int .i64 (if u20.1.1 > u16.1.1 then u20.1.1 else u16.1.1)))), (.one (.v (.int .i64 (IntKind.i64.wrap (u16.1.2 + u20.1.2))))), (.one (.v (.bool .true)))]) [])))))) else ((a0_0 == 5) = false ∧ (bif decide (IntKind.i64.wrap (u16.1.2 + u20.1.2) > 1099511627776) then (R (Ret.mk (.tup [(.one (.v (.int .i64 0))), (.one (.v (.int .i64 0))), (.one (.v (.bool .false)))]) [])) else (bif decide (IntKind.i64.wrap (u16.1.2 + u20.1.2) < -1099511627776) then (R (Ret.mk (.tup [(.one (.v (.int .i64 0))), (.one (.v (.int .i64 0))), (.one (.v (.bool .false)))]) [])) else (R (Ret.mk (.tup [(.one (.v (.int .i64 (if u20.1.1 > u16.1.1 then u20.1.1 else u16.1.1)))), (.one (.v (.int .i64 (IntKind.i64.wrap (u16.1.2 + u20.1.2))))), (.one (.v (.bool .true)))]) [])))))))) else False)) else False) else False) else False)) else False) else False) else (R (Ret.mk (.tup [(.one (.v (.int .i64 0))), (.one (.v (.int .i64 0))), (.one (.v (.bool .false)))]) []))) else (bif a0_0 == 5 then (bif (↑a0_3n : Int) == 2 then (bif decide (0 < (↑a0_3n : Int)) && decide (0 < a0_3.length) then (bif decide (4 ≤ a0_3.length) then (letV (refC DD (List.take 4 a0_3)) (fun (u36 : (Int × Int) × Bool) => bif (List.take 4 a0_3).all plainC && true && okE DD (List.take 4 a0_3) && true && true && true && true && true then (bif decide (1 < (↑a0_3n : Int)) && decide (4 < a0_3.length) then (bif decide (8 ≤ a0_3.length) then (letV (refC DD (List.take 4 (List.drop 4 a0_3))) (fun (u40 : (Int × Int) × Bool) => bif (List.take 4 (List.drop 4 a0_3)).all plainC && true && okE DD (List.take 4 (List.drop 4 a0_3)) && true && true && true && true && true then (bif !u36.2 then (R (Ret.mk (.tup [(.one (.v (.int .i64 0))), (.one (.v (.int .i64 0))), (.one (.v (.bool .false)))]) [])) else (bif !u40.2 then (R (Ret.mk (.tup [(.one (.v (.int .i64 0))), (.one (.v (.int .i64 0))), (.one (.v (.bool .false)))]) [])) else (bif decide (u36.1.1 ≥ 0) then (bif decide (u40.1.1 ≥ 0) then (R (Ret.mk (.tup [(.one (.v (.int .i64 0))), (.one (.v (.int .i64 0))), (.one (.v (.bool .false)))]) [])) else (bif decide (IntKind.i64.wrap (u36.1.2 - u40.1.2) > 1099511627776) then (R (Ret.mk (.tup [(.one (.v (.int .i64 0))), (.one (.v (.int .i64 0))), (.one (.v (.bool .false)))]) [])) else (bif decide (IntKind.i64.wrap (u36.1.2 - u40.1.2) < -1099511627776) then (R (Ret.mk (.tup [(.one (.v (.int .i64 0))), (.one (.v (.int .i64 0))), (.one (.v (.bool .false)))]) [])) else (R (Ret.mk (.tup [(.one (.v (.int .i64 (if u40.1.1 > u36.1.1 then u40.1.1 else u36.1.1)))), (.one (.v (.int .i64 (IntKind.i64.wrap (u36.1.2 - u40.1.2))))), (.one (.v (.bool .true)))]) []))))) else (bif decide (u40.1.1 ≥ 0) then (R (Ret.mk (.tup [(.one (.v (.int .i64 0))), (.one (.v (.int .i64 0))), (.one (.v (.bool .false)))]) [])) else (bif decide (IntKind.i64.wrap (u36.1.2 - u40.1.2) > 1099511627776) then (R (Ret.mk (.tup [(.one (.v (.int .i64 0))), (.one (.v (.int .i64 0))), (.one (.v (.bool .false)))]) [])) else (bif decide (IntKind.i64.wrap (u36.1.2 - u40.1.2) < -1099511627776) then (R (Ret.mk (.tup [(.one (.v (.int .i64 0))), (.one (.v (.int .i64 0))), (.one (.v (.bool .false)))]) [])) else (R (Ret.mk (.tup [(.one (.v (.int .i64 (if u40.1.1 > u36.1.1 then u40.1.1 else u36.1.1)))), (.one (.v (.int .i64 (IntKind.i64.wrap (u36.1.2 - u40.1.2))))), (.one (.v (.bool .true)))]) [])))))))) else False)) else False) else False) else False)) else False) else False) else (R (Ret.mk (.tup [(.one (.v (.int .i64 0))), (.one (.v (.int .i64 0))), (.one (.v (.bool .false)))]) []))) else (R (Ret.mk (.tup [(.one (.v (.int .i64 0))), (.one (.v (.int .i64 0))), (.one (.v (.bool .false)))]) [])))))

set_option maxRecDepth 100000 in
theorem f70_sound (DD : Nat) (a0_0 : Int) (a0_1 : Int) (a0_2 : Int) (a0_3n : Nat) (a0_3 : List Cell) (hC : CtxOk Try.prog (cx70 DD).q.ctx) {r : Ret} (h : f70_wp DD a0_0 a0_1 a0_2 a0_3n a0_3 (fun r' => r' = r)) : SoundAt Try.prog 70 [(.agg [(.v (.int .i64 a0_0)), (.v (.int .i64 a0_1)), (.v (.int .i64 a0_2)), (.sl a0_3n a0_3)])] r := by
  refine soundAtO (C := (cx70 DD)) (oc := (.two (.n 2 (.two (.n 1 (.two (.n 1 .e) (.n 0 (.two .e .e)))) (.b false (.n 3 (.b false (.n 1 (.b false (.n 8 .e)))))))) (.n 3 (.two (.n 2 (.two (.n 4 .e) (.b false (.n 1 (.b false (.n 8 .e)))))) (.n 3 (.two (.n 5 (.two (.two (.n 10 .e) (.n 0 (.two (.n 8 .e) (.n 1 (.two (.n 1 (.two (.n 4 .e) (.n 2 (.b false (.n 2 (.b false (.n 1 (.two (.n 1 .e) (.n 0 (.two .e .e)))))))))) (.n 5 (.b false (.n 2 (.b false (.n 1 (.two (.n 1 .e) (.n 0 (.two .e .e))))))))))))) (.n 4 .e))) (.n 1 (.two (.n 2 (.two (.two (.n 10 .e) (.n 0 (.two (.n 8 .e) (.n 1 (.two (.n 1 (.two (.n 4 .e) (.n 2 (.b true (.n 1 (.b false (.b true (.n 1 (.two (.n 1 .e) (.n 0 (.two .e .e))))))))))) (.n 5 (.b true (.n 1 (.two .e (.b true (.n 1 (.two (.n 1 .e) (.n 0 (.two .e .e)))))))))))))) (.n 4 .e))) (.n 8 .e))))))))) mixed hC F70_ok ?_
  rewrite [E70 DD a0_0 a0_1 a0_2 a0_3n a0_3]
  unfold f70_wp at h
  refine cond_mapE h (fun q1 h => ?_) (fun q1 h => ?_)
  · skip
    refine cond_mapE h (fun q2 h => ?_) (fun q2 h => ?_)
    · skip
      refine cond_mapE h (fun q3 h => ?_) (fun q3 h => ?_)
      · skip
        exact h
      · skip
        refine cond_mapE h (fun q4 h => ?_) (fun q4 h => ?_)
        · skip
          exact h
        · skip
          exact h
    · skip
      refine and_mapE h (fun q5 h => and_mapE h (fun q6 h => and_mapE h (fun q7 h => ?_)))
      exact h
  · skip
    refine cond_mapE h (fun q8 h => ?_) (fun q8 h => ?_)
    · skip
      refine cond_mapE h (fun q9 h => ?_) (fun q9 h => ?_)
      · skip
        exact h
      · skip
        refine and_mapE h (fun q10 h => and_mapE h (fun q11 h => ?_))
        exact h
    · skip
      refine cond_mapE h (fun q12 h => ?_) (fun q12 h => ?_)
      · skip
        refine cond_mapE h (fun q13 h => ?_) (fun q13 h => ?_)
        · skip
          refine ck_mapE h (fun q14 h => ck_mapE h (fun q15 h => letV_mapE h (fun u16 h => ck_mapE h (fun q17 h => ck_mapE h (fun q18 h => ck_mapE h (fun q19 h => letV_mapE h (fun u20 h => ck_mapE h (fun q21 h => ?_))))))))
          refine cond_mapE h (fun q22 h => ?_) (fun q22 h => ?_)
          · skip
            exact h
          · skip
            refine cond_mapE h (fun q23 h => ?_) (fun q23 h => ?_)
            · skip
              exact h
            · skip
              refine cond_mapE h (fun q24 h => ?_) (fun q24 h => ?_)
              · skip
                refine cond_mapE h (fun q25 h => ?_) (fun q25 h => ?_)
                · skip
                  exact h
                · skip
                  refine and_mapE h (fun q26 h => ?_)
                  refine ⟨q26, ?_⟩
                  refine cond_mapE h (fun q27 h => ?_) (fun q27 h => ?_)
                  · skip
                    exact h
                  · skip
                    refine cond_mapE h (fun q28 h => ?_) (fun q28 h => ?_)
                    · skip
                      exact h
                    · skip
                      exact h
              · skip
                refine and_mapE h (fun q29 h => ?_)
                refine ⟨q29, ?_⟩
                refine cond_mapE h (fun q30 h => ?_) (fun q30 h => ?_)
                · skip
                  exact h
                · skip
                  refine cond_mapE h (fun q31 h => ?_) (fun q31 h => ?_)
                  · skip
                    exact h
                  · skip
                    exact h
        · skip
          exact h
      · skip
        refine cond_mapE h (fun q32 h => ?_) (fun q32 h => ?_)
        · skip
          refine cond_mapE h (fun q33 h => ?_) (fun q33 h => ?_)
          · skip
            refine ck_mapE h (fun q34 h => ck_mapE h (fun q35 h => letV_mapE h (fun u36 h => ck_mapE h (fun q37 h => ck_mapE h (fun q38 h => ck_mapE h (fun q39 h => letV_mapE h (fun u40 h => ck_mapE h (fun q41 h => ?_))))))))
            refine cond_mapE h (fun q42 h => ?_) (fun q42 h => ?_)
            · skip
              exact h
            · skip
              refine cond_mapE h (fun q43 h => ?_) (fun q43 h => ?_)
              · skip
                exact h
              · skip
                refine cond_mapE h (fun q44 h => ?_) (fun q44 h => ?_)
                · skip
                  refine cond_mapE h (fun q45 h => ?_) (fun q45 h => ?_)
                  · skip
                    exact h
                  · skip
                    refine ⟨q32, ?_⟩
                    refine ⟨q45, ?_⟩
                    refine ⟨q32, ?_⟩
                    refine cond_mapE h (fun q46 h => ?_) (fun q46 h => ?_)
                    · skip
                      exact h
                    · skip
                      refine cond_mapE h (fun q47 h => ?_) (fun q47 h => ?_)
                      · skip
                        exact h
                      · skip
                        exact h
                · skip
                  refine ⟨q32, ?_⟩
                  refine cond_mapE h (fun q48 h => ?_) (fun q48 h => ?_)
                  · skip
                    exact h
                  · skip
                    refine ⟨q32, ?_⟩
                    refine cond_mapE h (fun q49 h => ?_) (fun q49 h => ?_)
                    · skip
                      exact h
                    · skip
                      refine cond_mapE h (fun q50 h => ?_) (fun q50 h => ?_)
                      · skip
                        exact h
                      · skip
                        exact h
          · skip
            exact h
        · skip
          exact h


end Go.Proofs.Ytgmciihlmgeecaa.Fn
