import Derived.Test.YtgmciihlmgeecaaWI

import Derived.Test.YtgmciihlmgeecaaWNA

import Derived.Test.YtgmciihlmgeecaaSpE

/- Functions of expressions, walked. No conditions beyond those named. -/

namespace Go.Proofs.Ytgmciihlmgeecaa.Fn

open Go Go.RowKit Go.Proofs Go.Proofs.Ytgmciihlmgeecaa.Mt Go.Proofs.Ytgmciihlmgeecaa.Zm

set_option linter.unusedVariables false

set_option linter.unusedSimpArgs false

def cx103 (DD : Nat) : CtxW := ⟨⟨[(113, sum113 (DD + 1))], []⟩, 16, []⟩


def F103 : SFn := ⟨65, [(.cell 2 .true 2), (.tmp 3)], (.seq (.reg [(o1 1 (.box (.t 0))), (o1 2 (.alloc [(.int .i64 0), (.int .i64 0)])), (o1 3 (.mv (.c (.bool .false))))]) (.seq (.reg [(o1 6 (.build [(.int .i64 0), (.int .i64 0)] [(0, (1, (.c (.int .i64 (-1)))))])), (o1 4 (.alloc [(.int .i64 0), (.int .i64 0)])), (oN (.store .false 2 (.t 4) (.t 6))), (o1 5 (.mv (.c (.bool .false))))]) (.seq (.blk 0 (.seq (.reg [(o1 8 (.fld 0 (.t 1))), (o1 9 (.load .false .false 1 [(.some .i64)] (.t 8))), (o1 10 (.bin .eql (.t 9) (.c (.int .i64 1)))), (o1 11 (.mv (.t 10))), (oS 12 (.fld 3 (.t 1)) (.some (11, .true))), (oS 13 (.load .false .false 1 [] (.t 12)) (.some (11, .true))), (oS 14 (.len (.t 13)) (.some (11, .true))), (oS 15 (.bin .eql (.t 14) (.c (.int .i64 0))) (.some (11, .true))), (o1 16 (.pick (.t 11) (.t 15) (.c (.bool .false)))), (o1 7 (.mv (.t 16)))]) (.cond (.t 7) (.reg [(o1 17 (.fld 1 (.t 1))), (o1 18 (.load .false .false 1 [(.some .i64)] (.t 17))), (o1 19 (.build [(.int .i64 0), (.int .i64 0)] [(0, (1, (.c (.int .i64 (-1))))), (1, (1, (.t 18)))])), (oN (.store .false 2 (.t 4) (.t 19))), (o1 5 (.mv (.c (.bool .true))))]) (.seq (.reg [(o1 21 (.fld 0 (.t 1))), (o1 22 (.load .false .false 1 [(.some .i64)] (.t 21))), (o1 23 (.bin .eql (.t 22) (.c (.int .i64 2)))), (o1 24 (.mv (.t 23))), (oS 25 (.fld 3 (.t 1)) (.some (24, .true))), (oS 26 (.load .false .false 1 [] (.t 25)) (.some (24, .true))), (oS 27 (.len (.t 26)) (.some (24, .true))), (oS 28 (.bin .eql (.t 27) (.c (.int .i64 0))) (.some (24, .true))), (o1 29 (.pick (.t 24) (.t 28) (.c (.bool .false)))), (o1 20 (.mv (.t 29)))]) (.cond (.t 20) (.reg [(o1 30 (.fld 2 (.t 1))), (o1 31 (.load .false .false 1 [(.some .i64)] (.t 30))), (o1 32 (.build [(.int .i64 0), (.int .i64 0)] [(0, (1, (.t 31))), (1, (1, (.c (.int .i64 0))))])), (oN (.store .false 2 (.t 4) (.t 32))), (o1 5 (.mv (.c (.bool .true))))]) (.seq (.reg [(o1 34 (.fld 0 (.t 1))), (o1 35 (.load .false .false 1 [(.some .i64)] (.t 34))), (o1 36 (.bin .eql (.t 35) (.c (.int .i64 4)))), (o1 37 (.mv (.t 36))), (oS 38 (.fld 0 (.t 1)) (.some (37, .false))), (oS 39 (.load .false .false 1 [(.some .i64)] (.t 38)) (.some (37, .false))), (oS 40 (.bin .eql (.t 39) (.c (.int .i64 5))) (.some (37, .false))), (o1 41 (.pick (.t 37) (.c (.bool .true)) (.t 40))), (o1 42 (.mv (.t 41))), (oS 43 (.fld 3 (.t 1)) (.some (42, .true))), (oS 44 (.load .false .false 1 [] (.t 43)) (.some (42, .true))), (oS 45 (.len (.t 44)) (.some (42, .true))), (oS 46 (.bin .eql (.t 45) (.c (.int .i64 2))) (.some (42, .true))), (o1 47 (.pick (.t 42) (.t 46) (.c (.bool .false)))), (o1 33 (.mv (.t 47)))]) (.cond (.t 33) (.reg [(o1 49 (.load .false .true 4 [] (.t 1))), (o1 50 (.call .false .false (.f 113) [(.t 49)])), (o1 48 (.mv (.t 50))), (o1 51 (.ext 0 (.t 48))), (o1 52 (.ext 1 (.t 48))), (oN (.store .false 2 (.t 4) (.t 51))), (o1 5 (.mv (.t 52)))]) .skip))))))) (.seq (.reg [(o1 53 (.load .false .true 2 [(.some .i64), (.some .i64)] (.t 4))), (o1 54 (.mv (.t 5))), (o1 55 (.mv (.t 54))), (oS 56 (.fld 1 (.t 4)) (.some (55, .true))), (oS 57 (.load .false .false 1 [(.some .i64)] (.t 56)) (.some (55, .true))), (oS 58 (.bin .leq (.t 57) (.c (.int .i64 1099511627776))) (.some (55, .true))), (o1 59 (.pick (.t 55) (.t 58) (.c (.bool .false)))), (o1 60 (.mv (.t 59))), (oS 61 (.fld 1 (.t 4)) (.some (60, .true))), (oS 62 (.load .false .false 1 [(.some .i64)] (.t 61)) (.some (60, .true))), (oS 63 (.bin .geq (.t 62) (.c (.int .i64 (-1099511627776)))) (.some (60, .true))), (o1 64 (.pick (.t 60) (.t 63) (.c (.bool .false)))), (oN (.store .false 2 (.t 2) (.t 53))), (o1 3 (.mv (.t 64)))]) .ret))))⟩

theorem F103_ok : sfn Try.prog hintsN 103 [] = some F103 := by kernel_rfl

theorem E103 (DD : Nat) (a0_0 : Int) (a0_1 : Int) (a0_2 : Int) (a0_3n : Nat) (a0_3 : List Cell) (R : Ret → Prop) : wpFO (cx103 DD) F103 (.two (.n 2 (.two (.n 2 (.two (.n 1 .e) (.n 1 .e))) (.two (.n 2 (.b false (.two (.n 5 (.two (.two (.n 1 (.two (.n 1 .e) (.n 1 .e))) (.n 4 .e)) (.n 5 .e))) (.n 1 (.two (.n 2 (.two (.two (.n 1 (.two (.n 1 .e) (.n 1 .e))) (.n 4 .e)) (.n 5 .e))) (.n 9 .e)))))) (.n 3 (.two (.n 5 (.two (.two (.n 1 (.two (.n 1 .e) (.n 1 .e))) (.n 4 .e)) (.n 5 .e))) (.n 1 (.two (.n 2 (.two (.two (.n 1 (.two (.n 1 .e) (.n 1 .e))) (.n 4 .e)) (.n 5 .e))) (.n 9 .e)))))))) (.n 3 (.two (.n 2 (.two (.n 5 .e) (.two (.n 5 (.two (.two (.n 1 (.two (.n 1 .e) (.n 1 .e))) (.n 4 .e)) (.n 5 .e))) (.n 1 (.two (.n 2 (.two (.two (.n 1 (.two (.n 1 .e) (.n 1 .e))) (.n 4 .e)) (.n 5 .e))) (.n 9 .e)))))) (.n 3 (.two (.n 5 (.two (.two (.n 1 (.two (.n 1 .e) (.n 1 .e))) (.n 4 .e)) (.n 5 .e))) (.n 1 (.two (.n 2 (.two (.two (.n 1 (.two (.n 1 .e) (.n 1 .e))) (.n 4 .e)) (.n 5 .e))) (.n 9 .e)))))))) [(.agg [(.v (.int .i64 a0_0)), (.v (.int .i64 a0_1)), (.v (.int .i64 a0_2)), (.sl a0_3n a0_3)])] R = (bif a0_0 == 1 then (bif (↑a0_3n : Int) == 0 then (bif decide (a0_1 ≤ 1099511627776) then (R (Ret.mk (.tup [(.agg [(.v (.int .i64 (-1))), (.v (.int .i64 (a0_1)))]), (.one (.v (.bool (decide (a0_1 ≥ -1099511627776)))))]) [])) else (R (Ret.mk (.tup [(.agg [(.v (.int .i64 (-1))), (.v (.int .i64 (a0_1)))]), (.one (.v (.bool .false)))]) []))) else (bif a0_0 == 2 then (((↑a0_3n : Int) == 0) = false ∧ (bif a0_0 == 4 then (bif (↑a0_3n : Int) == 2 then (letV (pairC (DD + 1) [Cell.v (Value.int .i64 a0_0), Cell.v (Value.int .i64 a0_1), Cell.v (Value.int .i64 a0_2), Cell.sl a0_3n a0_3]) (fun (u7 : (Int × Int) × Bool) => bif okE (DD + 1) [Cell.v (Value.int .i64 a0_0), Cell.v (Value.int .i64 a0_1), Cell.v (Value.int .i64 a0_2), Cell.sl a0_3n a0_3] && decide (2 ≤ kN [Cell.v (Value.int .i64 a0_0), Cell.v (Value.int .i64 a0_1), Cell.v (Value.int .i64 a0_2), Cell.sl a0_3n a0_3]) && true && true && true && true && true then (bif u7.2 then (bif decide (u7.1.2 ≤ 1099511627776) then (R (Ret.mk (.tup [(.agg [(.v (.int .i64 (u7.1.1))), (.v (.int .i64 (u7.1.2)))]), (.one (.v (.bool (decide (u7.1.2 ≥ -1099511627776)))))]) [])) else (R (Ret.mk (.tup [(.agg [(.v (.int .i64 (u7.1.1))), (.v (.int .i64 (u7.1.2)))]), (.one (.v (.bool .false)))]) []))) else (R (Ret.mk (.tup [(.agg [(.v (.int .i64 (u7.1.1))), (.v (.int .i64 (u7.1.2)))]), (.one (.v (.bool .false)))]) []))) else False)) else (R (Ret.mk (.tup [(.agg [(.v (.int .i64 (-1))), (.v (.int .i64 0))]), (.one (.v (.bool .false)))]) []))) else (bif a0_0 == 5 then (bif (↑a0_3n : Int) == 2 then (letV (pairC (DD + 1) [Cell.v (Value.int .i64 a0_0), Cell.v (Value.int .i64 a0_1), Cell.v (Value.int .i64 a0_2), Cell.sl a0_3n a0_3]) (fun (u13 : (Int × Int) × Bool) => bif okE (DD + 1) [Cell.v (Value.int .i64 a0_0), Cell.v (Value.int .i64 a0_1), Cell.v (Value.int .i64 a0_2), Cell.sl a0_3n a0_3] && decide (2 ≤ kN [Cell.v (Value.int .i64 a0_0), Cell.v (Value.int .i64 a0_1), Cell.v (Value.int .i64 a0_2), Cell.sl a0_3n a0_3]) && true && true && true && true && true then (bif u13.2 then (bif decide (u13.1.2 ≤ 1099511627776) then (R (Ret.mk (.tup [(.agg [(.v (.int .i64 (u13.1.1))), (.v (.int .i64 (u13.1.2)))]), (.one (.v (.bool (decide (u13.1.2 ≥ -1099511627776)))))]) [])) else (R (Ret.mk (.tup [(.agg [(.v (.int .i64 (u13.1.1))), (.v (.int .i64 (u13.1.2)))]), (.one (.v (.bool .false)))]) []))) else (R (Ret.mk (.tup [(.agg [(.v (.int .i64 (u13.1.1))), (.v (.int .i64 (u13.1.2)))]), (.one (.v (.bool .false)))]) []))) else False)) else (R (Ret.mk (.tup [(.agg [(.v (.int .i64 (-1))), (.v (.int .i64 0))]), (.one (.v (.bool .false)))]) []))) else (R (Ret.mk (.tup [(.agg [(.v (.int .i64 (-1))), (.v (.int .i64 0))]), (.one (.v (.bool .false)))]) []))))) else (bif a0_0 == 4 then (bif (↑a0_3n : Int) == 2 then (letV (pairC (DD + 1) [Cell.v (Value.int .i64 a0_0), Cell.v (Value.int .i64 a0_1), Cell.v (Value.int .i64 a0_2), Cell.sl a0_3n a0_3]) (fun (u19 : (Int × Int) × Bool) => bif okE (DD + 1) [Cell.v (Value.int .i64 a0_0), Cell.v (Value.int .i64 a0_1), Cell.v (Value.int .i64 a0_2), Cell.sl a0_3n a0_3] && decide (2 ≤ kN [Cell.v (Value.int .i64 a0_0), Cell.v (Value.int .i64 a0_1), Cell.v (Value.int .i64 a0_2), Cell.sl a0_3n a0_3]) && true && true && true && true && true then (bif u19.2 then (bif decide (u19.1.2 ≤ 1099511627776) then (R (Ret.mk (.tup [(.agg [(.v (.int .i64 (u19.1.1))), (.v (.int .i64 (u19.1.2)))]), (.one (.v (.bool (decide (u19.1.2 ≥ -1099511627776)))))]) [])) else (R (Ret.mk (.tup [(.agg [(.v (.int .i64 (u19.1.1))), (.v (.int .i64 (u19.1.2)))]), (.one (.v (.bool .false)))]) []))) else (R (Ret.mk (.tup [(.agg [(.v (.int .i64 (u19.1.1))), (.v (.int .i64 (u19.1.2)))]), (.one (.v (.bool .false)))]) []))) else False)) else (R (Ret.mk (.tup [(.agg [(.v (.int .i64 (-1))), (.v (.int .i64 0))]), (.one (.v (.bool .false)))]) []))) else (bif a0_0 == 5 then (bif (↑a0_3n : Int) == 2 then (letV (pairC (DD + 1) [Cell.v (Value.int .i64 a0_0), Cell.v (Value.int .i64 a0_1), Cell.v (Value.int .i64 a0_2), Cell.sl a0_3n a0_3]) (fun (u25 : (Int × Int) × Bool) => bif okE (DD + 1) [Cell.v (Value.int .i64 a0_0), Cell.v (Value.int .i64 a0_1), Cell.v (Value.int .i64 a0_2), Cell.sl a0_3n a0_3] && decide (2 ≤ kN [Cell.v (Value.int .i64 a0_0), Cell.v (Value.int .i64 a0_1), Cell.v (Value.int .i64 a0_2), Cell.sl a0_3n a0_3]) && true && true && true && true && true then (bif u25.2 then (bif decide (u25.1.2 ≤ 1099511627776) then (R (Ret.mk (.tup [(.agg [(.v (.int .i64 (u25.1.1))), (.v (.int .i64 (u25.1.2)))]), (.one (.v (.bool (decide (u25.1.2 ≥ -1099511627776)))))]) [])) else (R (Ret.mk (.tup [(.agg [(.v (.int .i64 (u25.1.1))), (.v (.int .i64 (u25.1.2)))]), (.one (.v (.bool .false)))]) []))) else (R (Ret.mk (.tup [(.agg [(.v (.int .i64 (u25.1.1))), (.v (.int .i64 (u25.1.2)))]), (.one (.v (.bool .false)))]) []))) else False)) else (R (Ret.mk (.tup [(.agg [(.v (.int .i64 (-1))), (.v (.int .i64 0))]), (.one (.v (.bool .false)))]) []))) else (R (Ret.mk (.tup [(.agg [(.v (.int .i64 (-1))), (.v (.int .i64 0))]), (.one (.v (.bool .false)))]) [])))))) else (bif a0_0 == 2 then (bif (↑a0_3n : Int) == 0 then (R (Ret.mk (.tup [(.agg [(.v (.int .i64 (a0_2))), (.v (.int .i64 0))]), (.one (.v (.bool .true)))]) [])) else (bif a0_0 == 4 then (bif (↑a0_3n : Int) == 2 then (letV (pairC (DD + 1) [Cell.v (Value.int .i64 a0_0), Cell.v (Value.int .i64 a0_1), Cell.v (Value.int .i64 a0_2), Cell.sl a0_3n a0_3]) (fun (u33 : (Int × Int) × Bool) => bif okE (DD + 1) [Cell.v (Value.int .i64 a0_0), Cell.v (Value.int .i64 a0_1), Cell.v (Value.int .i64 a0_2), Cell.sl a0_3n a0_3] && decide (2 ≤ kN [Cell.v (Value.int .i64 a0_0), Cell.v (Value.int .i64 a0_1), Cell.v (Value.int .i64 a0_2), Cell.sl a0_3n a0_3]) && true && true && true && true && true then (bif u33.2 then (bif decide (u33.1.2 ≤ 1099511627776) then (R (Ret.mk (.tup [(.agg [(.v (.int .i64 (u33.1.1))), (.v (.int .i64 (u33.1.2)))]), (.one (.v (.bool (decide (u33.1.2 ≥ -1099511627776)))))]) [])) else (R (Ret.mk (.tup [(.agg [(.v (.int .i64 (u33.1.1))), (.v (.int .i64 (u33.1.2)))]), (.one (.v (.bool .false)))]) []))) else (R (Ret.mk (.tup [(.agg [(.v (.int .i64 (u33.1.1))), (.v (.int .i64 (u33.1.2)))]), (.one (.v (.bool .false)))]) []))) else False)) else (R (Ret.mk (.tup [(.agg [(.v (.int .i64 (-1))), (.v (.int .i64 0))]), (.one (.v (.bool .false)))]) []))) else (bif a0_0 == 5 then (bif (↑a0_3n : Int) == 2 then (letV (pairC (DD + 1) [Cell.v (Value.int .i64 a0_0), Cell.v (Value.int .i64 a0_1), Cell.v (Value.int .i64 a0_2), Cell.sl a0_3n a0_3]) (fun (u39 : (Int × Int) × Bool) => bif okE (DD + 1) [Cell.v (Value.int .i64 a0_0), Cell.v (Value.int .i64 a0_1), Cell.v (Value.int .i64 a0_2), Cell.sl a0_3n a0_3] && decide (2 ≤ kN [Cell.v (Value.int .i64 a0_0), Cell.v (Value.int .i64 a0_1), Cell.v (Value.int .i64 a0_2), Cell.sl a0_3n a0_3]) && true && true && true && true && true then (bif u39.2 then (bif decide (u39.1.2 ≤ 1099511627776) then (R (Ret.mk (.tup [(.agg [(.v (.int .i64 (u39.1.1))), (.v (.int .i64 (u39.1.2)))]), (.one (.v (.bool (decide (u39.1.2 ≥ -1099511627776)))))]) [])) else (R (Ret.mk (.tup [(.agg [(.v (.int .i64 (u39.1.1))), (.v (.int .i64 (u39.1.2)))]), (.one (.v (.bool .false)))]) []))) else (R (Ret.mk (.tup [(.agg [(.v (.int .i64 (u39.1.1))), (.v (.int .i64 (u39.1.2)))]), (.one (.v (.bool .false)))]) []))) else False)) else (R (Ret.mk (.tup [(.agg [(.v (.int .i64 (-1))), (.v (.int .i64 0))]), (.one (.v (.bool .false)))]) []))) else (R (Ret.mk (.tup [(.agg [(.v (.int .i64 (-1))), (.v (.int .i64 0))]), (.one (.v (.bool .false)))]) []))))) else (bif a0_0 == 4 then (bif (↑a0_3n : Int) == 2 then (letV (pairC (DD + 1) [Cell.v (Value.int .i64 a0_0), Cell.v (Value.int .i64 a0_1), Cell.v (Value.int .i64 a0_2), Cell.sl a0_3n a0_3]) (fun (u45 : (Int × Int) × Bool) => bif okE (DD + 1) [Cell.v (Value.int .i64 a0_0), Cell.v (Value.int .i64 a0_1), Cell.v (Value.int .i64 a0_2), Cell.sl a0_3n a0_3] && decide (2 ≤ kN [Cell.v (Value.int .i64 a0_0), Cell.v (Value.int .i64 a0_1), Cell.v (Value.int .i64 a0_2), Cell.sl a0_3n a0_3]) && true && true && true && true && true then (bif u45.2 then (bif decide (u45.1.2 ≤ 1099511627776) then (R (Ret.mk (.tup [(.agg [(.v (.int .i64 (u45.1.1))), (.v (.int .i64 (u45.1.2)))]), (.one (.v (.bool (decide (u45.1.2 ≥ -1099511627776)))))]) [])) else (R (Ret.mk (.tup [(.agg [(.v (.int .i64 (u45.1.1))), (.v (.int .i64 (u45.1.2)))]), (.one (.v (.bool .false)))]) []))) else (R (Ret.mk (.tup [(.agg [(.v (.int .i64 (u45.1.1))), (.v (.int .i64 (u45.1.2)))]), (.one (.v (.bool .false)))]) []))) else False)) else (R (Ret.mk (.tup [(.agg [(.v (.int .i64 (-1))), (.v (.int .i64 0))]), (.one (.v (.bool .false)))]) []))) else (bif a0_0 == 5 then (bif (↑a0_3n : Int) == 2 then (letV (pairC (DD + 1) [Cell.v (Value.int .i64 a0_0), Cell.v (Value.int .i64 a0_1), Cell.v (Value.int .i64 a0_2), Cell.sl a0_3n a0_3]) (fun (u51 : (Int × Int) × Bool) => bif okE (DD + 1) [Cell.v (Value.int .i64 a0_0), Cell.v (Value.int .i64 a0_1), Cell.v (Value.int .i64 a0_2), Cell.sl a0_3n a0_3] && decide (2 ≤ kN [Cell.v (Value.int .i64 a0_0), Cell.v (Value.int .i64 a0_1), Cell.v (Value.int .i64 a0_2), Cell.sl a0_3n a0_3]) && true && true && true && true && true then (bif u51.2 then (bif decide (u51.1.2 ≤ 1099511627776) then (R (Ret.mk (.tup [(.agg [(.v (.int .i64 (u51.1.1))), (.v (.int .i64 (u51.1.2)))]), (.one (.v (.bool (decide (u51.1.2 ≥ -1099511627776)))))]) [])) else (R (Ret.mk (.tup [(.agg [(.v (.int .i64 (u51.1.1))), (.v (.int .i64 (u51.1.2)))]), (.one (.v (.bool .false)))]) []))) else (R (Ret.mk (.tup [(.agg [(.v (.int .i64 (u51.1.1))), (.v (.int .i64 (u51.1.2)))]), (.one (.v (.bool .false)))]) []))) else False)) else (R (Ret.mk (.tup [(.agg [(.v (.int .i64 (-1))), (.v (.int .i64 0))]), (.one (.v (.bool .false)))]) []))) else (R (Ret.mk (.tup [(.agg [(.v (.int .i64 (-1))), (.v (.int .i64 0))]), (.one (.v (.bool .false)))]) [])))))) := by kernel_rfl

def f103_wp (DD : Nat) (a0_0 : Int) (a0_1 : Int) (a0_2 : Int) (a0_3n : Nat) (a0_3 : List Cell) (R : Ret → Prop) : Prop := bif a0_0 == 1 then (bif (↑a0_3n : Int) == 0 then (bif decide (a0_1 ≤ 1099511627776) then (R (Ret.mk (.tup [(.agg [(.v (.int .i64 (-1))), (.v (.int .i64 (a0_1)))]), (.one (.v (.bool (decide (a0_1 ≥ -1099511627776)))))]) [])) else (R (Ret.mk (.tup [(.agg [(.v (.int .i64 (-1))), (.v (.int .i64 (a0_1)))]), (.one (.v (.bool .false)))]) []))) else (bif a0_0 == 2 then (bif a0_0 == 4 then (bif (↑a0_3n : Int) == 2 then (letV (pairC (DD + 1) [Cell.v (Value.int .i64 a0_0), Cell.v (Value.int .i64 a0_1), Cell.v (Value.int .i64 a0_2), Cell.sl a0_3n a0_3]) (fun (u7 : (Int × Int) × Bool) => bif okE (DD + 1) [Cell.v (Value.int .i64 a0_0), Cell.v (Value.int .i64 a0_1), Cell.v (Value.int .i64 a0_2), Cell.sl a0_3n a0_3] && decide (2 ≤ kN [Cell.v (Value.int .i64 a0_0), Cell.v (Value.int .i64 a0_1), Cell.v (Value.int .i64 a0_2), Cell.sl a0_3n a0_3]) && true && true && true && true && true then (bif u7.2 then (bif decide (u7.1.2 ≤ 1099511627776) then (R (Ret.mk (.tup [(.agg [(.v (.int .i64 (u7.1.1))), (.v (.int .i64 (u7.1.2)))]), (.one (.v (.bool (decide (u7.1.2 ≥ -1099511627776)))))]) [])) else (R (Ret.mk (.tup [(.agg [(.v (.int .i64 (u7.1.1))), (.v (.int .i64 (u7.1.2)))]), (.one (.v (.bool .false)))]) []))) else (R (Ret.mk (.tup [(.agg [(.v (.int .i64 (u7.1.1))), (.v (.int .i64 (u7.1.2)))]), (.one (.v (.bool .false)))]) []))) else False)) else (R (Ret.mk (.tup [(.agg [(.v (.int .i64 (-1))), (.v (.int .i64 0))]), (.one (.v (.bool .false)))]) []))) else (bif a0_0 == 5 then (bif (↑a0_3n : Int) == 2 then (letV (pairC (DD + 1) [Cell.v (Value.int .i64 a0_0), Cell.v (Value.int .i64 a0_1), Cell.v (Value.int .i64 a0_2), Cell.sl a0_3n a0_3]) (fun (u13 : (Int × Int) × Bool) => bif okE (DD + 1) [Cell.v (Value.int .i64 a0_0), Cell.v (Value.int .i64 a0_1), Cell.v (Value.int .i64 a0_2), Cell.sl a0_3n a0_3] && decide (2 ≤ kN [Cell.v (Value.int .i64 a0_0), Cell.v (Value.int .i64 a0_1), Cell.v (Value.int .i64 a0_2), Cell.sl a0_3n a0_3]) && true && true && true && true && true then (bif u13.2 then (bif decide (u13.1.2 ≤ 1099511627776) then (R (Ret.mk (.tup [(.agg [(.v (.int .i64 (u13.1.1))), (.v (.int .i64 (u13.1.2)))]), (.one (.v (.bool (decide (u13.1.2 ≥ -1099511627776)))))]) [])) else (R (Ret.mk (.tup [(.agg [(.v (.int .i64 (u13.1.1))), (.v (.int .i64 (u13.1.2)))]), (.one (.v (.bool .false)))]) []))) else (R (Ret.mk (.tup [(.agg [(.v (.int .i64 (u13.1.1))), (.v (.int .i64 (u13.1.2)))]), (.one (.v (.bool .false)))]) []))) else False)) else (R (Ret.mk (.tup [(.agg [(.v (.int .i64 (-1))), (.v (.int .i64 0))]), (.one (.v (.bool .false)))]) []))) else (R (Ret.mk (.tup [(.agg [(.v (.int .i64 (-1))), (.v (.int .i64 0))]), (.one (.v (.bool .false)))]) [])))) else (bif a0_0 == 4 then (bif (↑a0_3n : Int) == 2 then (letV (pairC (DD + 1) [Cell.v (Value.int .i64 a0_0), Cell.v (Value.int .i64 a0_1), Cell.v (Value.int .i64 a0_2), Cell.sl a0_3n a0_3]) (fun (u19 : (Int × Int) × Bool) => bif okE (DD + 1) [Cell.v (Value.int .i64 a0_0), Cell.v (Value.int .i64 a0_1), Cell.v (Value.int .i64 a0_2), Cell.sl a0_3n a0_3] && decide (2 ≤ kN [Cell.v (Value.int .i64 a0_0), Cell.v (Value.int .i64 a0_1), Cell.v (Value.int .i64 a0_2), Cell.sl a0_3n a0_3]) && true && true && true && true && true then (bif u19.2 then (bif decide (u19.1.2 ≤ 1099511627776) then (R (Ret.mk (.tup [(.agg [(.v (.int .i64 (u19.1.1))), (.v (.int .i64 (u19.1.2)))]), (.one (.v (.bool (decide (u19.1.2 ≥ -1099511627776)))))]) [])) else (R (Ret.mk (.tup [(.agg [(.v (.int .i64 (u19.1.1))), (.v (.int .i64 (u19.1.2)))]), (.one (.v (.bool .false)))]) []))) else (R (Ret.mk (.tup [(.agg [(.v (.int .i64 (u19.1.1))), (.v (.int .i64 (u19.1.2)))]), (.one (.v (.bool .false)))]) []))) else False)) else (R (Ret.mk (.tup [(.agg [(.v (.int .i64 (-1))), (.v (.int .i64 0))]), (.one (.v (.bool .false)))]) []))) else (bif a0_0 == 5 then (bif (↑a0_3n : Int) == 2 then (letV (pairC (DD + 1) [Cell.v (Value.int .i64 a0_0), Cell.v (Value.int .i64 a0_1), Cell.v (Value.int .i64 a0_2), Cell.sl a0_3n a0_3]) (fun (u25 : (Int × Int) × Bool) => bif okE (DD + 1) [Cell.v (Value.int .i64 a0_0), Cell.v (Value.int .i64 a0_1), Cell.v (Value.int .i64 a0_2), Cell.sl a0_3n a0_3] && decide (2 ≤ kN [Cell.v (Value.int .i64 a0_0), Cell.v (Value.int .i64 a0_1), Cell.v (Value.int .i64 a0_2), Cell.sl a0_3n a0_3]) && true && true && true && true && true then (bif u25.2 then (bif decide (u25.1.2 ≤ 1099511627776) then (R (Ret.mk (.tup [(.agg [(.v (.int .i64 (u25.1.1))), (.v (.int .i64 (u25.1.2)))]), (.one (.v (.bool (decide (u25.1.2 ≥ -1099511627776)))))]) [])) else (R (Ret.mk (.tup [(.agg [(.v (.int .i64 (u25.1.1))), (.v (.int .i64 (u25.1.2)))]), (.one (.v (.bool .false)))]) []))) else (R (Ret.mk (.tup [(.agg [(.v (.int .i64 (u25.1.1))), (.v (.int .i64 (u25.1.2)))]), (.one (.v (.bool .false)))]) []))) else False)) else (R (Ret.mk (.tup [(.agg [(.v (.int .i64 (-1))), (.v (.int .i64 0))]), (.one (.v (.bool .false)))]) []))) else (R (Ret.mk (.tup [(.agg [(.v (.int .i64 (-1))), (.v (.int .i64 0))]), (.one (.v (.bool .false)))]) [])))))) else (bif a0_0 == 2 then (bif (↑a0_3n : Int) == 0 then (R (Ret.mk (.tup [(.agg [(.v (.int .i64 (a0_2))), (.v (.int .i64 0))]), (.one (.v (.bool .true)))]) [])) else (bif a0_0 == 4 then (bif (↑a0_3n : Int) == 2 then (letV (pairC (DD + 1) [Cell.v (Value.int .i64 a0_0), Cell.v (Value.int .i64 a0_1), Cell.v (Value.int .i64 a0_2), Cell.sl a0_3n a0_3]) (fun (u33 : (Int × Int) × Bool) => bif okE (DD + 1) [Cell.v (Value.int .i64 a0_0), Cell.v (Value.int .i64 a0_1), Cell.v (Value.int .i64 a0_2), Cell.sl a0_3n a0_3] && decide (2 ≤ kN [Cell.v (Value.int .i64 a0_0), Cell.v (Value.int .i64 a0_1), Cell.v (Value.int .i64 a0_2), Cell.sl a0_3n a0_3]) && true && true && true && true && true then (bif u33.2 then (bif decide (u33.1.2 ≤ 1099511627776) then (R (Ret.mk (.tup [(.agg [(.v (.int .i64 (u33.1.1))), (.v (.int .i64 (u33.1.2)))]), (.one (.v (.bool (decide (u33.1.2 ≥ -1099511627776)))))]) [])) else (R (Ret.mk (.tup [(.agg [(.v (.int .i64 (u33.1.1))), (.v (.int .i64 (u33.1.2)))]), (.one (.v (.bool .false)))]) []))) else (R (Ret.mk (.tup [(.agg [(.v (.int .i64 (u33.1.1))), (.v (.int .i64 (u33.1.2)))]), (.one (.v (.bool .false)))]) []))) else False)) else (R (Ret.mk (.tup [(.agg [(.v (.int .i64 (-1))), (.v (.int .i64 0))]), (.one (.v (.bool .false)))]) []))) else (bif a0_0 == 5 then (bif (↑a0_3n : Int) == 2 then (letV (pairC (DD + 1) [Cell.v (Value.int .i64 a0_0), Cell.v (Value.int .i64 a0_1), Cell.v (Value.int .i64 a0_2), Cell.sl a0_3n a0_3]) (fun (u39 : (Int × Int) × Bool) => bif okE (DD + 1) [Cell.v (Value.int .i64 a0_0), Cell.v (Value.int .i64 a0_1), Cell.v (Value.int .i64 a0_2), Cell.sl a0_3n a0_3] && decide (2 ≤ kN [Cell.v (Value.int .i64 a0_0), Cell.v (Value.int .i64 a0_1), Cell.v (Value.int .i64 a0_2), Cell.sl a0_3n a0_3]) && true && true && true && true && true then (bif u39.2 then (bif decide (u39.1.2 ≤ 1099511627776) then (R (Ret.mk (.tup [(.agg [(.v (.int .i64 (u39.1.1))), (.v (.int .i64 (u39.1.2)))]), (.one (.v (.bool (decide (u39.1.2 ≥ -1099511627776)))))]) [])) else (R (Ret.mk (.tup [(.agg [(.v (.int .i64 (u39.1.1))), (.v (.int .i64 (u39.1.2)))]), (.one (.v (.bool .false)))]) []))) else (R (Ret.mk (.tup [(.agg [(.v (.int .i64 (u39.1.1))), (.v (.int .i64 (u39.1.2)))]), (.one (.v (.bool .false)))]) []))) else False)) else (R (Ret.mk (.tup [(.agg [(.v (.int .i64 (-1))), (.v (.int .i64 0))]), (.one (.v (.bool .false)))]) []))) else (R (Ret.mk (.tup [(.agg [(.v (.int .i64 (-1))), (.v (.int .i64 0))]), (.one (.v (.bool .false)))]) []))))) else (bif a0_0 == 4 then (bif (↑a0_3n : Int) == 2 then (letV (pairC (DD + 1) [Cell.v (Value.int .i64 a0_0), Cell.v (Value.int .i64 a0_1), Cell.v (Value.int .i64 a0_2), Cell.sl a0_3n a0_3]) (fun (u45 : (Int × Int) × Bool) => bif okE (DD + 1) [Cell.v (Value.int .i64 a0_0), Cell.v (Value.int .i64 a0_1), Cell.v (Value.int .i64 a0_2), Cell.sl a0_3n a0_3] && decide (2 ≤ kN [Cell.v (Value.int .i64 a0_0), Cell.v (Value.int .i64 a0_1), Cell.v (Value.int .i64 a0_2), Cell.sl a0_3n a0_3]) && true && true && true && true && true then (bif u45.2 then (bif decide (u45.1.2 ≤ 1099511627776) then (R (Ret.mk (.tup [(.agg [(.v (.int .i64 (u45.1.1))), (.v (.int .i64 (u45.1.2)))]), (.one (.v (.bool (decide (u45.1.2 ≥ -1099511627776)))))]) [])) else (R (Ret.mk (.tup [(.agg [(.v (.int .i64 (u45.1.1))), (.v (.int .i64 (u45.1.2)))]), (.one (.v (.bool .false)))]) []))) else (R (Ret.mk (.tup [(.agg [(.v (.int .i64 (u45.1.1))), (.v (.int .i64 (u45.1.2)))]), (.one (.v (.bool .false)))]) []))) else False)) else (R (Ret.mk (.tup [(.agg [(.v (.int .i64 (-1))), (.v (.int .i64 0))]), (.one (.v (.bool .false)))]) []))) else (bif a0_0 == 5 then (bif (↑a0_3n : Int) == 2 then (letV (pairC (DD + 1) [Cell.v (Value.int .i64 a0_0), Cell.v (Value.int .i64 a0_1), Cell.v (Value.int .i64 a0_2), Cell.sl a0_3n a0_3]) (fun (u51 : (Int × Int) × Bool) => bif okE (DD + 1) [Cell.v (Value.int .i64 a0_0), Cell.v (Value.int .i64 a0_1), Cell.v (Value.int .i64 a0_2), Cell.sl a0_3n a0_3] && decide (2 ≤ kN [Cell.v (Value.int .i64 a0_0), Cell.v (Value.int .i64 a0_1), Cell.v (Value.int .i64 a0_2), Cell.sl a0_3n a0_3]) && true && true && true && true && true then (bif u51.2 then (bif decide (u51.1.2 ≤ 1099511627776) then (R (Ret.mk (.tup [(.agg [(.v (.int .i64 (u51.1.1))), (.v (.int .i64 (u51.1.2)))]), (.one (.v (.bool (decide (u51.1.2 ≥ -1099511627776)))))]) [])) else (R (Ret.mk (.tup [(.agg [(.v (.int .i64 (u51.1.1))), (.v (.int .i64 (u51.1.2)))]), (.one (.v (.bool .false)))]) []))) else (R (Ret.mk (.tup [(.agg [(.v (.int .i64 (u51.1.1))), (.v (.int .i64 (u51.1.2)))]), (.one (.v (.bool .false)))]) []))) else False)) else (R (Ret.mk (.tup [(.agg [(.v (.int .i64 (-1))), (.v (.int .i64 0))]), (.one (.v (.bool .false)))]) []))) else (R (Ret.mk (.tup [(.agg [(.v (.int .i64 (-1))), (.v (.int .i64 0))]), (.one (.v (.bool .false)))]) [])))))

set_option maxRecDepth 100000 in
theorem f103_sound (DD : Nat) (a0_0 : Int) (a0_1 : Int) (a0_2 : Int) (a0_3n : Nat) (a0_3 : List Cell) (hC : CtxOk Try.prog (cx103 DD).q.ctx) {r : Ret} (h : f103_wp DD a0_0 a0_1 a0_2 a0_3n a0_3 (fun r' => r' = r)) : SoundAt Try.prog 103 [(.agg [(.v (.int .i64 a0_0)), (.v (.int .i64 a0_1)), (.v (.int .i64 a0_2)), (.sl a0_3n a0_3)])] r := by
  refine soundAtO (C := (cx103 DD)) (oc := (.two (.n 2 (.two (.n 2 (.two (.n 1 .e) (.n 1 .e))) (.two (.n 2 (.b false (.two (.n 5 (.two (.two (.n 1 (.two (.n 1 .e) (.n 1 .e))) (.n 4 .e)) (.n 5 .e))) (.n 1 (.two (.n 2 (.two (.two (.n 1 (.two (.n 1 .e) (.n 1 .e))) (.n 4 .e)) (.n 5 .e))) (.n 9 .e)))))) (.n 3 (.two (.n 5 (.two (.two (.n 1 (.two (.n 1 .e) (.n 1 .e))) (.n 4 .e)) (.n 5 .e))) (.n 1 (.two (.n 2 (.two (.two (.n 1 (.two (.n 1 .e) (.n 1 .e))) (.n 4 .e)) (.n 5 .e))) (.n 9 .e)))))))) (.n 3 (.two (.n 2 (.two (.n 5 .e) (.two (.n 5 (.two (.two (.n 1 (.two (.n 1 .e) (.n 1 .e))) (.n 4 .e)) (.n 5 .e))) (.n 1 (.two (.n 2 (.two (.two (.n 1 (.two (.n 1 .e) (.n 1 .e))) (.n 4 .e)) (.n 5 .e))) (.n 9 .e)))))) (.n 3 (.two (.n 5 (.two (.two (.n 1 (.two (.n 1 .e) (.n 1 .e))) (.n 4 .e)) (.n 5 .e))) (.n 1 (.two (.n 2 (.two (.two (.n 1 (.two (.n 1 .e) (.n 1 .e))) (.n 4 .e)) (.n 5 .e))) (.n 9 .e))))))))) mixed hC F103_ok ?_
  rewrite [E103 DD a0_0 a0_1 a0_2 a0_3n a0_3]
  unfold f103_wp at h
  refine cond_mapE h (fun q1 h => ?_) (fun q1 h => ?_)
  · skip
    refine cond_mapE h (fun q2 h => ?_) (fun q2 h => ?_)
    · skip
      refine cond_mapE h (fun q3 h => ?_) (fun q3 h => ?_)
      · skip
        exact h
      · skip
        exact h
    · skip
      refine cond_mapE h (fun q4 h => ?_) (fun q4 h => ?_)
      · skip
        refine ⟨q2, ?_⟩
        refine cond_mapE h (fun q5 h => ?_) (fun q5 h => ?_)
        · skip
          refine cond_mapE h (fun q6 h => ?_) (fun q6 h => ?_)
          · skip
            refine letV_mapE h (fun u7 h => ck_mapE h (fun q8 h => ?_))
            refine cond_mapE h (fun q9 h => ?_) (fun q9 h => ?_)
            · skip
              refine cond_mapE h (fun q10 h => ?_) (fun q10 h => ?_)
              · skip
                exact h
              · skip
                exact h
            · skip
              exact h
          · skip
            exact h
        · skip
          refine cond_mapE h (fun q11 h => ?_) (fun q11 h => ?_)
          · skip
            refine cond_mapE h (fun q12 h => ?_) (fun q12 h => ?_)
            · skip
              refine letV_mapE h (fun u13 h => ck_mapE h (fun q14 h => ?_))
              refine cond_mapE h (fun q15 h => ?_) (fun q15 h => ?_)
              · skip
                refine cond_mapE h (fun q16 h => ?_) (fun q16 h => ?_)
                · skip
                  exact h
                · skip
                  exact h
              · skip
                exact h
            · skip
              exact h
          · skip
            exact h
      · skip
        refine cond_mapE h (fun q17 h => ?_) (fun q17 h => ?_)
        · skip
          refine cond_mapE h (fun q18 h => ?_) (fun q18 h => ?_)
          · skip
            refine letV_mapE h (fun u19 h => ck_mapE h (fun q20 h => ?_))
            refine cond_mapE h (fun q21 h => ?_) (fun q21 h => ?_)
            · skip
              refine cond_mapE h (fun q22 h => ?_) (fun q22 h => ?_)
              · skip
                exact h
              · skip
                exact h
            · skip
              exact h
          · skip
            exact h
        · skip
          refine cond_mapE h (fun q23 h => ?_) (fun q23 h => ?_)
          · skip
            refine cond_mapE h (fun q24 h => ?_) (fun q24 h => ?_)
            · skip
              refine letV_mapE h (fun u25 h => ck_mapE h (fun q26 h => ?_))
              refine cond_mapE h (fun q27 h => ?_) (fun q27 h => ?_)
              · skip
                refine cond_mapE h (fun q28 h => ?_) (fun q28 h => ?_)
                · skip
                  exact h
                · skip
                  exact h
              · skip
                exact h
            · skip
              exact h
          · skip
            exact h
  · skip
    refine cond_mapE h (fun q29 h => ?_) (fun q29 h => ?_)
    · skip
      refine cond_mapE h (fun q30 h => ?_) (fun q30 h => ?_)
      · skip
        exact h
      · skip
        refine cond_mapE h (fun q31 h => ?_) (fun q31 h => ?_)
        · skip
          refine cond_mapE h (fun q32 h => ?_) (fun q32 h => ?_)
          · skip
            refine letV_mapE h (fun u33 h => ck_mapE h (fun q34 h => ?_))
            refine cond_mapE h (fun q35 h => ?_) (fun q35 h => ?_)
            · skip
              refine cond_mapE h (fun q36 h => ?_) (fun q36 h => ?_)
              · skip
                exact h
              · skip
                exact h
            · skip
              exact h
          · skip
            exact h
        · skip
          refine cond_mapE h (fun q37 h => ?_) (fun q37 h => ?_)
          · skip
            refine cond_mapE h (fun q38 h => ?_) (fun q38 h => ?_)
            · skip
              refine letV_mapE h (fun u39 h => ck_mapE h (fun q40 h => ?_))
              refine cond_mapE h (fun q41 h => ?_) (fun q41 h => ?_)
              · skip
                refine cond_mapE h (fun q42 h => ?_) (fun q42 h => ?_)
                · skip
                  exact h
                · skip
                  exact h
              · skip
                exact h
            · skip
              exact h
          · skip
            exact h
    · skip
      refine cond_mapE h (fun q43 h => ?_) (fun q43 h => ?_)
      · skip
        refine cond_mapE h (fun q44 h => ?_) (fun q44 h => ?_)
        · skip
          refine letV_mapE h (fun u45 h => ck_mapE h (fun q46 h => ?_))
          refine cond_mapE h (fun q47 h => ?_) (fun q47 h => ?_)
          · skip
            refine cond_mapE h (fun q48 h => ?_) (fun q48 h => ?_)
            · skip
              exact h
            · skip
              exact h
          · skip
            exact h
        · skip
          exact h
      · skip
        refine cond_mapE h (fun q49 h => ?_) (fun q49 h => ?_)
        · skip
          refine cond_mapE h (fun q50 h => ?_) (fun q50 h => ?_)
          · skip
            refine letV_mapE h (fun u51 h => ck_mapE h (fun q52 h => ?_))
            refine cond_mapE h (fun q53 h => ?_) (fun q53 h => ?_)
            · skip
              refine cond_mapE h (fun q54 h => ?_) (fun q54 h => ?_)
              · skip
                exact h
              · skip
                exact h
            · skip
              exact h
          · skip
            exact h
        · skip
          exact h


def cx113 (DD : Nat) : CtxW := ⟨⟨[(103, sum103 DD)], []⟩, 16, []⟩


def F113 : SFn := ⟨70, [(.cell 2 .true 2), (.tmp 3)], (.seq (.reg [(o1 1 (.box (.t 0))), (o1 2 (.alloc [(.int .i64 0), (.int .i64 0)])), (o1 3 (.mv (.c (.bool .false))))]) (.seq (.reg [(o1 9 (.fld 3 (.t 1))), (o1 10 (.load .false .false 1 [] (.t 9))), (o1 11 (.ixS 4 (.t 10) (.c (.int .i64 0)))), (o1 12 (.load .true .true 4 [] (.t 11))), (o1 13 (.call .false .false (.f 103) [(.t 12)])), (o1 8 (.mv (.t 13))), (o1 14 (.ext 0 (.t 8))), (o1 15 (.ext 1 (.t 8))), (o1 4 (.alloc [(.int .i64 0), (.int .i64 0)])), (oN (.store .false 2 (.t 4) (.t 14))), (o1 5 (.mv (.t 15)))]) (.seq (.reg [(o1 17 (.fld 3 (.t 1))), (o1 18 (.load .false .false 1 [] (.t 17))), (o1 19 (.ixS 4 (.t 18) (.c (.int .i64 1)))), (o1 20 (.load .true .true 4 [] (.t 19))), (o1 21 (.call .false .false (.f 103) [(.t 20)])), (o1 16 (.mv (.t 21))), (o1 22 (.ext 0 (.t 16))), (o1 23 (.ext 1 (.t 16))), (o1 6 (.alloc [(.int .i64 0), (.int .i64 0)])), (oN (.store .false 2 (.t 6) (.t 22))), (o1 7 (.mv (.t 23)))]) (.seq (.blk 0 (.seq (.reg [(o1 25 (.mv (.t 5))), (o1 26 (.un .not (.t 25))), (o1 27 (.mv (.t 26))), (oS 28 (.mv (.t 7)) (.some (27, .false))), (oS 29 (.un .not (.t 28)) (.some (27, .false))), (o1 30 (.pick (.t 27) (.c (.bool .true)) (.t 29))), (o1 24 (.mv (.t 30)))]) (.cond (.t 24) (.seq (.reg [(o1 31 (.build [(.int .i64 0), (.int .i64 0)] [])), (oN (.store .false 2 (.t 2) (.t 31))), (o1 3 (.mv (.c (.bool .false))))]) .ret) (.seq (.reg [(o1 33 (.fld 0 (.t 6))), (o1 34 (.load .false .false 1 [(.some .i64)] (.t 33))), (o1 35 (.bin .neq (.t 34) (.c (.int .i64 (-1))))), (o1 36 (.mv (.t 35))), (oS 37 (.fld 0 (.t 1)) (.some (36, .true))), (oS 38 (.load .false .false 1 [(.some .i64)] (.t 37)) (.some (36, .true))), (oS 39 (.bin .eql (.t 38) (.c (.int .i64 5))) (.some (36, .true))), (oS 40 (.mv (.t 39)) (.some (36, .true))), (oS 41 (.fld 0 (.t 4)) (.some (40, .false))), (oS 42 (.load .false .false 1 [(.some .i64)] (.t 41)) (.some (40, .false))), (oS 43 (.bin .neq (.t 42) (.c (.int .i64 (-1)))) (.some (40, .false))), (oS 44 (.pick (.t 40) (.c (.bool .true)) (.t 43)) (.some (36, .true))), (o1 45 (.pick (.t 36) (.t 44) (.c (.bool .false)))), (o1 32 (.mv (.t 45)))]) (.cond (.t 32) (.seq (.reg [(o1 46 (.build [(.int .i64 0), (.int .i64 0)] [])), (oN (.store .false 2 (.t 2) (.t 46))), (o1 3 (.mv (.c (.bool .false))))]) .ret) (.seq (.reg [(o1 48 (.fld 0 (.t 1))), (o1 49 (.load .false .false 1 [(.some .i64)] (.t 48))), (o1 50 (.bin .eql (.t 49) (.c (.int .i64 5)))), (o1 47 (.mv (.t 50)))]) (.cond (.t 47) (.seq (.reg [(o1 51 (.fld 0 (.t 4))), (o1 52 (.load .false .false 1 [(.some .i64)] (.t 51))), (o1 53 (.fld 1 (.t 4))), (o1 54 (.load .false .false 1 [(.some .i64)] (.t 53))), (o1 55 (.fld 1 (.t 6))), (o1 56 (.load .false .false 1 [(.some .i64)] (.t 55))), (o1 57 (.bin .sub (.t 54) (.t 56))), (o1 58 (.build [(.int .i64 0), (.int .i64 0)] [(0, (1, (.t 52))), (1, (1, (.t 57)))])), (oN (.store .false 2 (.t 2) (.t 58))), (o1 3 (.mv (.c (.bool .true))))]) .ret) .skip))))))) (.seq (.reg [(o1 59 (.fld 0 (.t 4))), (o1 60 (.load .false .false 1 [(.some .i64)] (.t 59))), (o1 61 (.fld 0 (.t 6))), (o1 62 (.load .false .false 1 [(.some .i64)] (.t 61))), (o1 63 (.mm .true [(.t 60), (.t 62)])), (o1 64 (.fld 1 (.t 4))), (o1 65 (.load .false .false 1 [(.some .i64)] (.t 64))), (o1 66 (.fld 1 (.t 6))), (o1 67 (.load .false .false 1 [(.some .i64)] (.t 66))), (o1 68 (.bin .add (.t 65) (.t 67))), (o1 69 (.build [(.int .i64 0), (.int .i64 0)] [(0, (1, (.t 63))), (1, (1, (.t 68)))])), (oN (.store .false 2 (.t 2) (.t 69))), (o1 3 (.mv (.c (.bool .true))))]) .ret)))))⟩

theorem F113_ok : sfn Try.prog hintsN 113 [] = some F113 := by kernel_rfl

theorem E113 (DD : Nat) (a0_0 : Int) (a0_1 : Int) (a0_2 : Int) (a0_3n : Nat) (a0_3 : List Cell) (R : Ret → Prop) : wpFO (cx113 DD) F113 (.two (.n 1 .e) (.n 0 (.two .e (.two (.n 2 (.two (.n 3 .e) (.n 2 (.two .e (.b false .e))))) (.n 4 (.two .e .e)))))) [(.agg [(.v (.int .i64 a0_0)), (.v (.int .i64 a0_1)), (.v (.int .i64 a0_2)), (.sl a0_3n a0_3)])] R = (bif decide (0 < (↑a0_3n : Int)) && decide (0 < a0_3.length) then (bif decide (4 ≤ a0_3.length) then (letV (linC DD (List.take 4 a0_3)) (fun (u3 : (Int × Int) × Bool) => bif (List.take 4 a0_3).all plainC && true && okE DD (List.take 4 a0_3) && true && true && true && true && true then (bif decide (1 < (↑a0_3n : Int)) && decide (4 < a0_3.length) then (bif decide (8 ≤ a0_3.length) then (letV (linC DD (List.take 4 (List.drop 4 a0_3))) (fun (u7 : (Int × Int) × Bool) => bif (List.take 4 (List.drop 4 a0_3)).all plainC && true && okE DD (List.take 4 (List.drop 4 a0_3)) && true && true && true && true && true then (bif !u3.2 then (R (Ret.mk (.tup [(.agg [(.v (.int .i64 0)), (.v (.int .i64 0))]), (.one (.v (.bool .false)))]) [])) else (bif !u7.2 then (R (Ret.mk (.tup [(.agg [(.v (.int .i64 0)), (.v (.int .i64 0))]), (.one (.v (.bool .false)))]) [])) else (bif u7.1.1 != -1 then (bif a0_0 == 5 then (R (Ret.mk (.tup [(.agg [(.v (.int .i64 0)), (.v (.int .i64 0))]), (.one (.v (.bool .false)))]) [])) else (bif u3.1.1 != -1 then (R (Ret.mk (.tup [(.agg [(.v (.int .i64 0)), (.v (.int .i64 0))]), (.one (.v (.bool .false)))]) [])) else ((a0_0 == 5) = false ∧ (R (Ret.mk (.tup [(.agg [(.v (.int .i64 (if u7.1.1 > u3.1.1 then u7.1.1 else u3.1.1))), (.v (.int .i64 (IntKind.i64.wrap (u3.1.2 + u7.1.2))))]), (.one (.v (.bool .true)))]) []))))) else (bif a0_0 == 5 then (R (Ret.mk (.tup [(.agg [(.v (.int .i64 (u3.1.1))), (.v (.int .i64 (IntKind.i64.wrap (u3.1.2 - u7.1.2))))]), (.one (.v (.bool .true)))]) [])) else (R (Ret.mk (.tup [(.agg [(.v (.int .i64 (if u7.1.1 > u3.1.1 then u7.1.1 else u3.1.1))), (.v (.int .i64 (IntKind.i64.wrap (u3.1.2 + u7.1.2))))]), (.one (.v (.bool .true)))]) [])))))) else False)) else False) else False) else False)) else False) else False) := by kernel_rfl

def f113_wp (DD : Nat) (a0_0 : Int) (a0_1 : Int) (a0_2 : Int) (a0_3n : Nat) (a0_3 : List Cell) (R : Ret → Prop) : Prop := bif decide (0 < (↑a0_3n : Int)) && decide (0 < a0_3.length) then (bif decide (4 ≤ a0_3.length) then (letV (linC DD (List.take 4 a0_3)) (fun (u3 : (Int × Int) × Bool) => bif (List.take 4 a0_3).all plainC && true && okE DD (List.take 4 a0_3) && true && true && true && true && true then (bif decide (1 < (↑a0_3n : Int)) && decide (4 < a0_3.length) then (bif decide (8 ≤ a0_3.length) then (letV (linC DD (List.take 4 (List.drop 4 a0_3))) (fun (u7 : (Int × Int) × Bool) => bif (List.take 4 (List.drop 4 a0_3)).all plainC && true && okE DD (List.take 4 (List.drop 4 a0_3)) && true && true && true && true && true then (bif !u3.2 then (R (Ret.mk (.tup [(.agg [(.v (.int .i64 0)), (.v (.int .i64 0))]), (.one (.v (.bool .false)))]) [])) else (bif !u7.2 then (R (Ret.mk (.tup [(.agg [(.v (.int .i64 0)), (.v (.int .i64 0))]), (.one (.v (.bool .false)))]) [])) else (bif u7.1.1 != -1 then (bif a0_0 == 5 then (R (Ret.mk (.tup [(.agg [(.v (.int .i64 0)), (.v (.int .i64 0))]), (.one (.v (.bool .false)))]) [])) else (bif u3.1.1 != -1 then (R (Ret.mk (.tup [(.agg [(.v (.int .i64 0)), (.v (.int .i64 0))]), (.one (.v (.bool .false)))]) [])) else (R (Ret.mk (.tup [(.agg [(.v (.int .i64 (if u7.1.1 > u3.1.1 then u7.1.1 else u3.1.1))), (.v (.int .i64 (IntKind.i64.wrap (u3.1.2 + u7.1.2))))]), (.one (.v (.bool .true)))]) [])))) else (bif a0_0 == 5 then (R (Ret.mk (.tup [(.agg [(.v (.int .i64 (u3.1.1))), (.v (.int .i64 (IntKind.i64.wrap (u3.1.2 - u7.1.2))))]), (.one (.v (.bool .true)))]) [])) else (R (Ret.mk (.tup [(.agg [(.v (.int .i64 (if u7.1.1 > u3.1.1 then u7.1.1 else u3.1.1))), (.v (.int .i64 (IntKind.i64.wrap (u3.1.2 + u7.1.2))))]), (.one (.v (.bool .true)))]) [])))))) else False)) else False) else False) else False)) else False) else False

set_option maxRecDepth 100000 in
theorem f113_sound (DD : Nat) (a0_0 : Int) (a0_1 : Int) (a0_2 : Int) (a0_3n : Nat) (a0_3 : List Cell) (hC : CtxOk Try.prog (cx113 DD).q.ctx) {r : Ret} (h : f113_wp DD a0_0 a0_1 a0_2 a0_3n a0_3 (fun r' => r' = r)) : SoundAt Try.prog 113 [(.agg [(.v (.int .i64 a0_0)), (.v (.int .i64 a0_1)), (.v (.int .i64 a0_2)), (.sl a0_3n a0_3)])] r := by
  refine soundAtO (C := (cx113 DD)) (oc := (.two (.n 1 .e) (.n 0 (.two .e (.two (.n 2 (.two (.n 3 .e) (.n 2 (.two .e (.b false .e))))) (.n 4 (.two .e .e))))))) mixed hC F113_ok ?_
  rewrite [E113 DD a0_0 a0_1 a0_2 a0_3n a0_3]
  unfold f113_wp at h
  refine ck_mapE h (fun q1 h => ck_mapE h (fun q2 h => letV_mapE h (fun u3 h => ck_mapE h (fun q4 h => ck_mapE h (fun q5 h => ck_mapE h (fun q6 h => letV_mapE h (fun u7 h => ck_mapE h (fun q8 h => ?_))))))))
  refine cond_mapE h (fun q9 h => ?_) (fun q9 h => ?_)
  · skip
    exact h
  · skip
    refine cond_mapE h (fun q10 h => ?_) (fun q10 h => ?_)
    · skip
      exact h
    · skip
      refine cond_mapE h (fun q11 h => ?_) (fun q11 h => ?_)
      · skip
        refine cond_mapE h (fun q12 h => ?_) (fun q12 h => ?_)
        · skip
          exact h
        · skip
          refine cond_mapE h (fun q13 h => ?_) (fun q13 h => ?_)
          · skip
            exact h
          · skip
            refine ⟨q12, ?_⟩
            exact h
      · skip
        refine cond_mapE h (fun q14 h => ?_) (fun q14 h => ?_)
        · skip
          exact h
        · skip
          exact h


def cx68 (DD : Nat) : CtxW := ⟨⟨[(103, sum103 DD)], []⟩, 16, []⟩


def F68 : SFn := ⟨18, [(.tmp 2), (.tmp 3), (.tmp 4)], (.seq (.reg [(o1 1 (.box (.t 0))), (o1 2 (.mv (.c (.int .i64 0)))), (o1 3 (.mv (.c (.int .i64 0)))), (o1 4 (.mv (.c (.bool .false))))]) (.seq (.reg [(o1 8 (.load .false .true 4 [] (.t 1))), (o1 9 (.call .false .false (.f 103) [(.t 8)])), (o1 7 (.mv (.t 9))), (o1 10 (.ext 0 (.t 7))), (o1 11 (.ext 1 (.t 7))), (o1 5 (.alloc [(.int .i64 0), (.int .i64 0)])), (oN (.store .false 2 (.t 5) (.t 10))), (o1 6 (.mv (.t 11)))]) (.seq (.seq (.reg [(o1 12 (.mv (.t 6))), (o1 13 (.un .not (.t 12)))]) (.cond (.t 13) (.seq (.reg [(o1 2 (.mv (.c (.int .i64 0)))), (o1 3 (.mv (.c (.int .i64 0)))), (o1 4 (.mv (.c (.bool .false))))]) .ret) .skip)) (.seq (.reg [(o1 14 (.fld 0 (.t 5))), (o1 15 (.load .false .false 1 [(.some .i64)] (.t 14))), (o1 16 (.fld 1 (.t 5))), (o1 17 (.load .false .false 1 [(.some .i64)] (.t 16))), (o1 2 (.mv (.t 15))), (o1 3 (.mv (.t 17))), (o1 4 (.mv (.c (.bool .true))))]) .ret))))⟩

theorem F68_ok : sfn Try.prog hintsN 68 [] = some F68 := by kernel_rfl

theorem E68 (DD : Nat) (a0_0 : Int) (a0_1 : Int) (a0_2 : Int) (a0_3n : Nat) (a0_3 : List Cell) (R : Ret → Prop) : wpFO (cx68 DD) F68 (.two .e .e) [(.agg [(.v (.int .i64 a0_0)), (.v (.int .i64 a0_1)), (.v (.int .i64 a0_2)), (.sl a0_3n a0_3)])] R = (letV (linC DD [Cell.v (Value.int .i64 a0_0), Cell.v (Value.int .i64 a0_1), Cell.v (Value.int .i64 a0_2), Cell.sl a0_3n a0_3]) (fun (u1 : (Int × Int) × Bool) => bif okE DD [Cell.v (Value.int .i64 a0_0), Cell.v (Value.int .i64 a0_1), Cell.v (Value.int .i64 a0_2), Cell.sl a0_3n a0_3] && true && true && true && true && true then (bif !u1.2 then (R (Ret.mk (.tup [(.one (.v (.int .i64 0))), (.one (.v (.int .i64 0))), (.one (.v (.bool .false)))]) [])) else (R (Ret.mk (.tup [(.one (.v (.int .i64 (u1.1.1)))), (.one (.v (.int .i64 (u1.1.2)))), (.one (.v (.bool .true)))]) []))) else False)) := by kernel_rfl

def f68_wp (DD : Nat) (a0_0 : Int) (a0_1 : Int) (a0_2 : Int) (a0_3n : Nat) (a0_3 : List Cell) (R : Ret → Prop) : Prop := letV (linC DD [Cell.v (Value.int .i64 a0_0), Cell.v (Value.int .i64 a0_1), Cell.v (Value.int .i64 a0_2), Cell.sl a0_3n a0_3]) (fun (u1 : (Int × Int) × Bool) => bif okE DD [Cell.v (Value.int .i64 a0_0), Cell.v (Value.int .i64 a0_1), Cell.v (Value.int .i64 a0_2), Cell.sl a0_3n a0_3] && true && true && true && true && true then (bif !u1.2 then (R (Ret.mk (.tup [(.one (.v (.int .i64 0))), (.one (.v (.int .i64 0))), (.one (.v (.bool .false)))]) [])) else (R (Ret.mk (.tup [(.one (.v (.int .i64 (u1.1.1)))), (.one (.v (.int .i64 (u1.1.2)))), (.one (.v (.bool .true)))]) []))) else False)

set_option maxRecDepth 100000 in
theorem f68_sound (DD : Nat) (a0_0 : Int) (a0_1 : Int) (a0_2 : Int) (a0_3n : Nat) (a0_3 : List Cell) (hC : CtxOk Try.prog (cx68 DD).q.ctx) {r : Ret} (h : f68_wp DD a0_0 a0_1 a0_2 a0_3n a0_3 (fun r' => r' = r)) : SoundAt Try.prog 68 [(.agg [(.v (.int .i64 a0_0)), (.v (.int .i64 a0_1)), (.v (.int .i64 a0_2)), (.sl a0_3n a0_3)])] r := by
  refine soundAtO (C := (cx68 DD)) (oc := (.two .e .e)) mixed hC F68_ok ?_
  rewrite [E68 DD a0_0 a0_1 a0_2 a0_3n a0_3]
  unfold f68_wp at h
  refine letV_mapE h (fun u1 h => ck_mapE h (fun q2 h => ?_))
  refine cond_mapE h (fun q3 h => ?_) (fun q3 h => ?_)
  · skip
    exact h
  · skip
    exact h


def cx105 : CtxW := ⟨⟨[], []⟩, 16, []⟩


def F105 : SFn := ⟨18, [(.cell 4 .true 2)], (.seq (.reg [(o1 2 (.box (.t 0))), (o1 3 (.box (.t 1))), (o1 4 (.alloc [(.bool .false), (.bool .false)]))]) (.seq (.reg [(o1 5 (.fld 0 (.t 2))), (o1 6 (.load .false .false 1 [.none] (.t 5))), (o1 7 (.mv (.t 6))), (oS 8 (.fld 0 (.t 3)) (.some (7, .false))), (oS 9 (.load .false .false 1 [.none] (.t 8)) (.some (7, .false))), (o1 10 (.pick (.t 7) (.c (.bool .true)) (.t 9))), (o1 11 (.fld 1 (.t 2))), (o1 12 (.load .false .false 1 [.none] (.t 11))), (o1 13 (.mv (.t 12))), (oS 14 (.fld 1 (.t 3)) (.some (13, .false))), (oS 15 (.load .false .false 1 [.none] (.t 14)) (.some (13, .false))), (o1 16 (.pick (.t 13) (.c (.bool .true)) (.t 15))), (o1 17 (.build [(.bool .false), (.bool .false)] [(0, (1, (.t 10))), (1, (1, (.t 16)))])), (oN (.store .false 2 (.t 4) (.t 17)))]) .ret))⟩

theorem F105_ok : sfn Try.prog hints 105 [] = some F105 := by kernel_rfl

theorem E105 (a0_0 : Bool) (a0_1 : Bool) (a1_0 : Bool) (a1_1 : Bool) (R : Ret → Prop) : wpFO cx105 F105 (.two (.n 0 (.two (.n 0 .e) (.n 0 .e))) (.n 0 (.two (.n 0 .e) (.n 0 .e)))) [(.agg [(.v (.bool a0_0)), (.v (.bool a0_1))]), (.agg [(.v (.bool a1_0)), (.v (.bool a1_1))])] R = (bif a0_0 then (bif a0_1 then (R (Ret.mk (.agg [(.v (.bool .true)), (.v (.bool .true))]) [])) else (R (Ret.mk (.agg [(.v (.bool .true)), (.v (.bool (a1_1)))]) []))) else (bif a0_1 then (R (Ret.mk (.agg [(.v (.bool (a1_0))), (.v (.bool .true))]) [])) else (R (Ret.mk (.agg [(.v (.bool (a1_0))), (.v (.bool (a1_1)))]) [])))) := by kernel_rfl

def f105_wp (a0_0 : Bool) (a0_1 : Bool) (a1_0 : Bool) (a1_1 : Bool) (R : Ret → Prop) : Prop := bif a0_0 then (bif a0_1 then (R (Ret.mk (.agg [(.v (.bool .true)), (.v (.bool .true))]) [])) else (R (Ret.mk (.agg [(.v (.bool .true)), (.v (.bool (a1_1)))]) []))) else (bif a0_1 then (R (Ret.mk (.agg [(.v (.bool (a1_0))), (.v (.bool .true))]) [])) else (R (Ret.mk (.agg [(.v (.bool (a1_0))), (.v (.bool (a1_1)))]) [])))

set_option maxRecDepth 100000 in
theorem f105_sound (a0_0 : Bool) (a0_1 : Bool) (a1_0 : Bool) (a1_1 : Bool) (hC : CtxOk Try.prog cx105.q.ctx) {r : Ret} (h : f105_wp a0_0 a0_1 a1_0 a1_1 (fun r' => r' = r)) : SoundAt Try.prog 105 [(.agg [(.v (.bool a0_0)), (.v (.bool a0_1))]), (.agg [(.v (.bool a1_0)), (.v (.bool a1_1))])] r := by
  refine soundAtO (C := cx105) (oc := (.two (.n 0 (.two (.n 0 .e) (.n 0 .e))) (.n 0 (.two (.n 0 .e) (.n 0 .e))))) mixed hC F105_ok ?_
  rewrite [E105 a0_0 a0_1 a1_0 a1_1]
  unfold f105_wp at h
  refine cond_mapE h (fun q1 h => ?_) (fun q1 h => ?_)
  · skip
    refine cond_mapE h (fun q2 h => ?_) (fun q2 h => ?_)
    · skip
      exact h
    · skip
      exact h
  · skip
    refine cond_mapE h (fun q3 h => ?_) (fun q3 h => ?_)
    · skip
      exact h
    · skip
      exact h


def cx106 (DD : Nat) : CtxW := ⟨⟨[(75, sum75 DD), (44, sum44), (105, sum105), (114, sum114)], []⟩, 2, []⟩


def F106 : SFn := ⟨48, [(.cell 4 .true 2), (.cell 5 .true 2)], (.seq (.reg [(o1 2 (.box (.t 0))), (o1 3 (.box (.t 1))), (o1 4 (.alloc [(.int .i64 0), (.int .i64 0)])), (o1 5 (.alloc [(.bool .false), (.bool .false)]))]) (.seq (.reg [(o1 12 (.fld 3 (.t 2))), (o1 13 (.load .false .false 1 [] (.t 12))), (o1 14 (.ixS 4 (.t 13) (.c (.int .i64 0)))), (o1 15 (.load .true .true 4 [] (.t 14))), (o1 16 (.load .false .true 53 [] (.t 3))), (o1 17 (.call .false .false (.f 75) [(.t 15), (.t 16)])), (o1 11 (.mv (.t 17))), (o1 18 (.ext 0 (.t 11))), (o1 19 (.ext 1 (.t 11))), (o1 6 (.alloc [(.int .i64 0), (.int .i64 0)])), (o1 7 (.alloc [(.bool .false), (.bool .false)])), (oN (.store .false 2 (.t 6) (.t 18))), (oN (.store .false 2 (.t 7) (.t 19)))]) (.seq (.seq (.reg [(o1 20 (.load .false .true 2 [(.some .i64), (.some .i64)] (.t 6))), (o1 21 (.call .false .false (.f 44) [(.t 20)]))]) (.cond (.t 21) (.seq (.reg [(o1 22 (.load .false .true 2 [(.some .i64), (.some .i64)] (.t 6))), (o1 23 (.load .false .true 2 [.none, .none] (.t 7))), (oN (.store .false 2 (.t 4) (.t 22))), (oN (.store .false 2 (.t 5) (.t 23)))]) .ret) .skip)) (.seq (.reg [(o1 25 (.fld 3 (.t 2))), (o1 26 (.load .false .false 1 [] (.t 25))), (o1 27 (.ixS 4 (.t 26) (.c (.int .i64 1)))), (o1 28 (.load .true .true 4 [] (.t 27))), (o1 29 (.load .false .true 53 [] (.t 3))), (o1 30 (.call .false .false (.f 75) [(.t 28), (.t 29)])), (o1 24 (.mv (.t 30))), (o1 31 (.ext 0 (.t 24))), (o1 32 (.ext 1 (.t 24))), (o1 8 (.alloc [(.int .i64 0), (.int .i64 0)])), (o1 9 (.alloc [(.bool .false), (.bool .false)])), (oN (.store .false 2 (.t 8) (.t 31))), (oN (.store .false 2 (.t 9) (.t 32)))]) (.seq (.reg [(o1 33 (.load .false .true 2 [.none, .none] (.t 7))), (o1 34 (.load .false .true 2 [.none, .none] (.t 9))), (o1 35 (.call .false .false (.f 105) [(.t 33), (.t 34)])), (oN (.store .false 2 (.t 7) (.t 35)))]) (.seq (.reg [(o1 37 (.fld 0 (.t 2))), (o1 38 (.load .false .false 1 [(.some .i64)] (.t 37))), (o1 39 (.load .false .true 2 [(.some .i64), (.some .i64)] (.t 6))), (o1 40 (.load .false .true 2 [(.some .i64), (.some .i64)] (.t 8))), (o1 41 (.call .false .false (.f 114) [(.t 38), (.t 39), (.t 40)])), (o1 36 (.mv (.t 41))), (o1 42 (.ext 0 (.t 36))), (o1 43 (.ext 1 (.t 36))), (o1 10 (.alloc [(.int .i64 0), (.int .i64 0)])), (oN (.store .false 2 (.t 10) (.t 42))), (oN (.store .false 2 (.t 9) (.t 43)))]) (.seq (.reg [(o1 44 (.load .false .true 2 [(.some .i64), (.some .i64)] (.t 10))), (o1 45 (.load .false .true 2 [.none, .none] (.t 7))), (o1 46 (.load .false .true 2 [.none, .none] (.t 9))), (o1 47 (.call .false .false (.f 105) [(.t 45), (.t 46)])), (oN (.store .false 2 (.t 4) (.t 44))), (oN (.store .false 2 (.t 5) (.t 47)))]) .ret)))))))⟩

theorem F106_ok : sfn Try.prog hintsN 106 [] = some F106 := by kernel_rfl

theorem E106 (DD : Nat) (a0_0 : Int) (a0_1 : Int) (a0_2 : Int) (a0_3n : Nat) (a0_3 : List Cell) (a1_0 : Bool) (a1_1n : Nat) (a1_1 : List Cell) (a1_2 : Int) (a1_3 : Bool) (a1_4 : List Cell) (R : Ret → Prop) : wpFO (cx106 DD) F106 (.two .e .e) [(.agg [(.v (.int .i64 a0_0)), (.v (.int .i64 a0_1)), (.v (.int .i64 a0_2)), (.sl a0_3n a0_3)]), (.agg ((.v (.bool a1_0)) :: (.sl a1_1n a1_1) :: (.v (.int .i64 a1_2)) :: (.v (.bool a1_3)) :: a1_4))] R = (bif decide (0 < (↑a0_3n : Int)) && decide (0 < a0_3.length) then (bif decide (4 ≤ a0_3.length) then (bif a1_4.length + 4 == 53 then (letV (evalC DD (List.take 4 a0_3) a1_0 a1_1n (List.map intC a1_1)) (fun (u4 : (Int × Int) × Bool × Bool) => bif (List.take 4 a0_3).all plainC && (a1_4.all plainC && true) && (okE DD (List.take 4 a0_3) && (okSl 2 (.sl a1_1n a1_1) && true && true && (a1_4.all (isInt .i64) && a1_4.length == 49))) && true && true && true && true && true then (bif emptyP u4.1.1 u4.1.2 then (R (Ret.mk (.tup [(.agg [(.v (.int .i64 (u4.1.1))), (.v (.int .i64 (u4.1.2)))]), (.agg [(.v (.bool (u4.2.1))), (.v (.bool (u4.2.2)))])]) [])) else (bif decide (1 < (↑a0_3n : Int)) && decide (4 < a0_3.length) then (bif decide (8 ≤ a0_3.length) then (bif a1_4.length + 4 == 53 then (letV (evalC DD (List.take 4 (List.drop 4 a0_3)) a1_0 a1_1n (List.map intC a1_1)) (fun (u9 : (Int × Int) × Bool × Bool) => bif (List.take 4 (List.drop 4 a0_3)).all plainC && (a1_4.all plainC && true) && (okE DD (List.take 4 (List.drop 4 a0_3)) && (okSl 2 (.sl a1_1n a1_1) && true && true && (a1_4.all (isInt .i64) && a1_4.length == 49))) && true && true && true && true && true then (letV (doP a0_0 (u4.1.1, u4.1.2) (u9.1.1, u9.1.2)) (fun (u11 : (Int × Int) × Bool × Bool) => R (Ret.mk (.tup [(.agg [(.v (.int .i64 (u11.1.1))), (.v (.int .i64 (u11.1.2)))]), (.agg [(.v (.bool (u4.2.1 || u9.2.1 || u11.2.1))), (.v (.bool (u4.2.2 || u9.2.2 || u11.2.2)))])]) []))) else False)) else False) else False) else False)) else False)) else False) else False) else False) := by kernel_rfl

def f106_wp (DD : Nat) (a0_0 : Int) (a0_1 : Int) (a0_2 : Int) (a0_3n : Nat) (a0_3 : List Cell) (a1_0 : Bool) (a1_1n : Nat) (a1_1 : List Cell) (a1_2 : Int) (a1_3 : Bool) (a1_4 : List Cell) (R : Ret → Prop) : Prop := bif decide (0 < (↑a0_3n : Int)) && decide (0 < a0_3.length) then (bif decide (4 ≤ a0_3.length) then (bif a1_4.length + 4 == 53 then (letV (evalC DD (List.take 4 a0_3) a1_0 a1_1n (List.map intC a1_1)) (fun (u4 : (Int × Int) × Bool × Bool) => bif (List.take 4 a0_3).all plainC && (a1_4.all plainC && true) && (okE DD (List.take 4 a0_3) && (okSl 2 (.sl a1_1n a1_1) && true && true && (a1_4.all (isInt .i64) && a1_4.length == 49))) && true && true && true && true && true then (bif emptyP u4.1.1 u4.1.2 then (R (Ret.mk (.tup [(.agg [(.v (.int .i64 (u4.1.1))), (.v (.int .i64 (u4.1.2)))]), (.agg [(.v (.bool (u4.2.1))), (.v (.bool (u4.2.2)))])]) [])) else (bif decide (1 < (↑a0_3n : Int)) && decide (4 < a0_3.length) then (bif decide (8 ≤ a0_3.length) then (letV (evalC DD (List.take 4 (List.drop 4 a0_3)) a1_0 a1_1n (List.map intC a1_1)) (fun (u9 : (Int × Int) × Bool × Bool) => bif (List.take 4 (List.drop 4 a0_3)).all plainC && (a1_4.all plainC && true) && (okE DD (List.take 4 (List.drop 4 a0_3)) && (okSl 2 (.sl a1_1n a1_1) && true && true && (a1_4.all (isInt .i64) && a1_4.length == 49))) && true && true && true && true && true then (letV (doP a0_0 (u4.1.1, u4.1.2) (u9.1.1, u9.1.2)) (fun (u11 : (Int × Int) × Bool × Bool) => R (Ret.mk (.tup [(.agg [(.v (.int .i64 (u11.1.1))), (.v (.int .i64 (u11.1.2)))]), (.agg [(.v (.bool (u4.2.1 || u9.2.1 || u11.2.1))), (.v (.bool (u4.2.2 || u9.2.2 || u11.2.2)))])]) []))) else False)) else False) else False)) else False)) else False) else False) else False

set_option maxRecDepth 100000 in
theorem f106_sound (DD : Nat) (a0_0 : Int) (a0_1 : Int) (a0_2 : Int) (a0_3n : Nat) (a0_3 : List Cell) (a1_0 : Bool) (a1_1n : Nat) (a1_1 : List Cell) (a1_2 : Int) (a1_3 : Bool) (a1_4 : List Cell) (hC : CtxOk Try.prog (cx106 DD).q.ctx) {r : Ret} (h : f106_wp DD a0_0 a0_1 a0_2 a0_3n a0_3 a1_0 a1_1n a1_1 a1_2 a1_3 a1_4 (fun r' => r' = r)) : SoundAt Try.prog 106 [(.agg [(.v (.int .i64 a0_0)), (.v (.int .i64 a0_1)), (.v (.int .i64 a0_2)), (.sl a0_3n a0_3)]), (.agg ((.v (.bool a1_0)) :: (.sl a1_1n a1_1) :: (.v (.int .i64 a1_2)) :: (.v (.bool a1_3)) :: a1_4))] r := by
  refine soundAtO (C := (cx106 DD)) (oc := (.two .e .e)) mixed hC F106_ok ?_
  rewrite [E106 DD a0_0 a0_1 a0_2 a0_3n a0_3 a1_0 a1_1n a1_1 a1_2 a1_3 a1_4]
  unfold f106_wp at h
  refine ck_mapE h (fun q1 h => ck_mapE h (fun q2 h => ck_mapE h (fun q3 h => letV_mapE h (fun u4 h => ck_mapE h (fun q5 h => ?_)))))
  refine cond_mapE h (fun q6 h => ?_) (fun q6 h => ?_)
  · skip
    exact h
  · skip
    refine ck_mapE h (fun q7 h => ck_mapE h (fun q8 h => ck_i q3 (letV_mapE h (fun u9 h => ck_mapE h (fun q10 h => letV_mapE h (fun u11 h => ?_))))))
    exact h


def cx75 (DD : Nat) : CtxW := ⟨⟨[(30, sum30), (75, sum75 DD), (104, sum104), (105, sum105), (106, sum106 (DD + 1)), (36, sum36)], []⟩, 2, []⟩


def F75 : SFn := ⟨95, [(.cell 4 .true 2), (.cell 5 .true 2)], (.seq (.reg [(o1 2 (.box (.t 0))), (o1 3 (.box (.t 1))), (o1 4 (.alloc [(.int .i64 0), (.int .i64 0)])), (o1 5 (.alloc [(.bool .false), (.bool .false)]))]) (.seq (.blk 0 (.seq (.reg [(o1 11 (.fld 0 (.t 3))), (o1 12 (.load .false .false 1 [.none] (.t 11))), (o1 10 (.mv (.t 12)))]) (.cond (.t 10) .skip (.seq (.reg [(o1 14 (.fld 0 (.t 2))), (o1 15 (.load .false .false 1 [(.some .i64)] (.t 14))), (o1 16 (.bin .eql (.t 15) (.c (.int .i64 1)))), (o1 13 (.mv (.t 16)))]) (.cond (.t 13) (.seq (.reg [(o1 17 (.fld 1 (.t 2))), (o1 18 (.load .false .false 1 [(.some .i64)] (.t 17))), (o1 19 (.call .false .false (.f 30) [(.t 18)])), (o1 20 (.build [(.bool .false), (.bool .false)] [])), (oN (.store .false 2 (.t 4) (.t 19))), (oN (.store .false 2 (.t 5) (.t 20)))]) .ret) (.seq (.reg [(o1 22 (.fld 0 (.t 2))), (o1 23 (.load .false .false 1 [(.some .i64)] (.t 22))), (o1 24 (.bin .eql (.t 23) (.c (.int .i64 2)))), (o1 25 (.mv (.t 24))), (oS 26 (.fld 2 (.t 2)) (.some (25, .true))), (oS 27 (.load .false .false 1 [(.some .i64)] (.t 26)) (.some (25, .true))), (oS 28 (.bin .geq (.t 27) (.c (.int .i64 0))) (.some (25, .true))), (o1 29 (.pick (.t 25) (.t 28) (.c (.bool .false)))), (o1 30 (.mv (.t 29))), (oS 31 (.fld 2 (.t 2)) (.some (30, .true))), (oS 32 (.load .false .false 1 [(.some .i64)] (.t 31)) (.some (30, .true))), (oS 33 (.fld 1 (.t 3)) (.some (30, .true))), (oS 34 (.load .false .false 1 [] (.t 33)) (.some (30, .true))), (oS 35 (.len (.t 34)) (.some (30, .true))), (oS 36 (.bin .lss (.t 32) (.t 35)) (.some (30, .true))), (o1 37 (.pick (.t 30) (.t 36) (.c (.bool .false)))), (o1 21 (.mv (.t 37)))]) (.cond (.t 21) (.seq (.reg [(o1 38 (.fld 1 (.t 3))), (o1 39 (.load .false .false 1 [] (.t 38))), (o1 40 (.fld 2 (.t 2))), (o1 41 (.load .false .false 1 [(.some .i64)] (.t 40))), (o1 42 (.ixS 2 (.t 39) (.t 41))), (o1 43 (.load .true .true 2 [(.some .i64), (.some .i64)] (.t 42))), (o1 44 (.build [(.bool .false), (.bool .false)] [])), (oN (.store .false 2 (.t 4) (.t 43))), (oN (.store .false 2 (.t 5) (.t 44)))]) .ret) (.seq (.reg [(o1 46 (.fld 0 (.t 2))), (o1 47 (.load .false .false 1 [(.some .i64)] (.t 46))), (o1 48 (.bin .eql (.t 47) (.c (.int .i64 3)))), (o1 49 (.mv (.t 48))), (oS 50 (.fld 3 (.t 2)) (.some (49, .true))), (oS 51 (.load .false .false 1 [] (.t 50)) (.some (49, .true))), (oS 52 (.len (.t 51)) (.some (49, .true))), (oS 53 (.bin .eql (.t 52) (.c (.int .i64 1))) (.some (49, .true))), (o1 54 (.pick (.t 49) (.t 53) (.c (.bool .false)))), (o1 45 (.mv (.t 54)))]) (.cond (.t 45) (.seq (.reg [(o1 56 (.fld 3 (.t 2))), (o1 57 (.load .false .false 1 [] (.t 56))), (o1 58 (.ixS 4 (.t 57) (.c (.int .i64 0)))), (o1 59 (.load .true .true 4 [] (.t 58))), (o1 60 (.load .false .true 53 [] (.t 3))), (o1 61 (.call .false .false (.f 75) [(.t 59), (.t 60)])), (o1 55 (.mv (.t 61))), (o1 62 (.ext 0 (.t 55))), (o1 63 (.ext 1 (.t 55))), (o1 6 (.alloc [(.int .i64 0), (.int .i64 0)])), (o1 7 (.alloc [(.bool .false), (.bool .false)])), (oN (.store .false 2 (.t 6) (.t 62))), (oN (.store .false 2 (.t 7) (.t 63)))]) (.seq (.reg [(o1 65 (.load .false .true 2 [(.some .i64), (.some .i64)] (.t 6))), (o1 66 (.call .false .false (.f 104) [(.t 65)])), (o1 64 (.mv (.t 66))), (o1 67 (.ext 0 (.t 64))), (o1 68 (.ext 1 (.t 64))), (o1 8 (.alloc [(.int .i64 0), (.int .i64 0)])), (o1 9 (.alloc [(.bool .false), (.bool .false)])), (oN (.store .false 2 (.t 8) (.t 67))), (oN (.store .false 2 (.t 9) (.t 68)))]) (.seq (.reg [(o1 69 (.load .false .true 2 [(.some .i64), (.some .i64)] (.t 8))), (o1 70 (.load .false .true 2 [.none, .none] (.t 7))), (o1 71 (.load .false .true 2 [.none, .none] (.t 9))), (o1 72 (.call .false .false (.f 105) [(.t 70), (.t 71)])), (oN (.store .false 2 (.t 4) (.t 69))), (oN (.store .false 2 (.t 5) (.t 72)))]) .ret))) (.seq (.reg [(o1 74 (.fld 0 (.t 2))), (o1 75 (.load .false .false 1 [(.some .i64)] (.t 74))), (o1 76 (.bin .geq (.t 75) (.c (.int .i64 4)))), (o1 77 (.mv (.t 76))), (oS 78 (.fld 0 (.t 2)) (.some (77, .true))), (oS 79 (.load .false .false 1 [(.some .i64)] (.t 78)) (.some (77, .true))), (oS 80 (.bin .leq (.t 79) (.c (.int .i64 8))) (.some (77, .true))), (o1 81 (.pick (.t 77) (.t 80) (.c (.bool .false)))), (o1 82 (.mv (.t 81))), (oS 83 (.fld 3 (.t 2)) (.some (82, .true))), (oS 84 (.load .false .false 1 [] (.t 83)) (.some (82, .true))), (oS 85 (.len (.t 84)) (.some (82, .true))), (oS 86 (.bin .eql (.t 85) (.c (.int .i64 2))) (.some (82, .true))), (o1 87 (.pick (.t 82) (.t 86) (.c (.bool .false)))), (o1 73 (.mv (.t 87)))]) (.cond (.t 73) (.seq (.reg [(o1 88 (.load .false .true 4 [] (.t 2))), (o1 89 (.load .false .true 53 [] (.t 3))), (o1 90 (.call .false .false (.f 106) [(.t 88), (.t 89)])), (o1 91 (.ext 0 (.t 90))), (o1 92 (.ext 1 (.t 90))), (oN (.store .false 2 (.t 4) (.t 91))), (oN (.store .false 2 (.t 5) (.t 92)))]) .ret) .skip))))))))))) (.seq (.reg [(o1 93 (.call .false .false (.f 36) [])), (o1 94 (.build [(.bool .false), (.bool .false)] [])), (oN (.store .false 2 (.t 4) (.t 93))), (oN (.store .false 2 (.t 5) (.t 94)))]) .ret)))⟩

theorem F75_ok : sfn Try.prog hintsN 75 [] = some F75 := by kernel_rfl

theorem E75 (DD : Nat) (a0_0 : Int) (a0_1 : Int) (a0_2 : Int) (a0_3n : Nat) (a0_3 : List Cell) (a1_0 : Bool) (a1_1n : Nat) (a1_1 : List Cell) (a1_2 : Int) (a1_3 : Bool) (a1_4 : List Cell) (R : Ret → Prop) : wpFO (cx75 DD) F75 (.two .e (.two .e (.two (.n 1 (.two (.n 4 (.two .e (.two (.n 2 (.two .e (.two (.n 1 (.two (.n 2 (.two .e .e)) (.n 3 .e))) (.n 6 .e)))) (.n 3 (.two (.n 1 (.two (.n 2 (.two .e .e)) (.n 3 .e))) (.n 6 .e)))))) (.n 5 (.two (.n 2 (.two .e (.two (.n 1 (.two (.n 2 (.two .e .e)) (.n 3 .e))) (.n 6 .e)))) (.n 3 (.two (.n 1 (.two (.n 2 (.two .e .e)) (.n 3 .e))) (.n 6 .e))))))) (.n 8 (.two (.n 2 (.two .e (.two (.n 1 (.two (.n 2 (.two .e .e)) (.n 3 .e))) (.n 6 .e)))) (.n 3 (.two (.n 1 (.two (.n 2 (.two .e .e)) (.n 3 .e))) (.n 6 .e)))))))) [(.agg [(.v (.int .i64 a0_0)), (.v (.int .i64 a0_1)), (.v (.int .i64 a0_2)), (.sl a0_3n a0_3)]), (.agg ((.v (.bool a1_0)) :: (.sl a1_1n a1_1) :: (.v (.int .i64 a1_2)) :: (.v (.bool a1_3)) :: a1_4))] R = (bif a1_0 then (R (Ret.mk (.tup [(.agg [(.v (.int .i64 1)), (.v (.int .i64 0))]), (.agg [(.v (.bool .false)), (.v (.bool .false))])]) [])) else (bif a0_0 == 1 then (letV (ofP a0_1 a0_1) (fun (u3 : Int × Int) => R (Ret.mk (.tup [(.agg [(.v (.int .i64 (u3.1))), (.v (.int .i64 (u3.2)))]), (.agg [(.v (.bool .false)), (.v (.bool .false))])]) []))) else (bif a0_0 == 2 then (bif decide (a0_2 ≥ 0) then (bif decide (a0_2 < (↑a1_1n : Int)) then (bif decide (0 ≤ a0_2) && decide (a0_2 < (↑a1_1n : Int)) && decide (a0_2.toNat * 2 < a1_1.length) then (bif decide (a0_2.toNat * 2 + 2 ≤ a1_1.length) && (okK (some .i64) (a1_1.getD (a0_2.toNat * 2) .dead) && (okK (some .i64) (a1_1.getD (a0_2.toNat * 2 + 1) .dead) && true)) then (R (Ret.mk (.tup [(.agg [(.v (.int .i64 (intC (a1_1.getD (a0_2.toNat * 2) .dead)))), (.v (.int .i64 (intC (a1_1.getD (a0_2.toNat * 2 + 1) .dead))))]), (.agg [(.v (.bool .false)), (.v (.bool .false))])]) [])) else False) else False) else (bif a0_0 == 3 then (bif (↑a0_3n : Int) == 1 then (bif decide (0 < (↑a0_3n : Int)) && decide (0 < a0_3.length) then (bif decide (4 ≤ a0_3.length) then (bif a1_4.length + 4 == 53 then (letV (evalC DD (List.take 4 a0_3) a1_0 a1_1n (List.map intC a1_1)) (fun (u14 : (Int × Int) × Bool × Bool) => bif (List.take 4 a0_3).all plainC && (a1_4.all plainC && true) && (okE DD (List.take 4 a0_3) && (okSl 2 (.sl a1_1n a1_1) && true && true && (a1_4.all (isInt .i64) && a1_4.length == 49))) && true && true && true && true && true then (letV (negP (u14.1.1, u14.1.2)) (fun (u16 : (Int × Int) × Bool × Bool) => R (Ret.mk (.tup [(.agg [(.v (.int .i64 (u16.1.1))), (.v (.int .i64 (u16.1.2)))]), (.agg [(.v (.bool (u14.2.1 || u16.2.1))), (.v (.bool (u14.2.2 || u16.2.2)))])]) []))) else False)) else False) else False) else False) else (bif decide (a0_0 ≥ 4) then (bif decide (a0_0 ≤ 8) then (bif (↑a0_3n : Int) == 2 then (bif a1_4.length + 4 == 53 then (letV (twoC (DD + 1) [Cell.v (Value.int .i64 a0_0), Cell.v (Value.int .i64 a0_1), Cell.v (Value.int .i64 a0_2), Cell.sl a0_3n a0_3] a1_0 a1_1n (List.map intC a1_1)) (fun (u21 : (Int × Int) × Bool × Bool) => bif a1_4.all plainC && true && (okE (DD + 1) [Cell.v (Value.int .i64 a0_0), Cell.v (Value.int .i64 a0_1), Cell.v (Value.int .i64 a0_2), Cell.sl a0_3n a0_3] && (okSl 2 (.sl a1_1n a1_1) && true && true && (a1_4.all (isInt .i64) && a1_4.length == 49)) && decide (2 ≤ kN [Cell.v (Value.int .i64 a0_0), Cell.v (Value.int .i64 a0_1), Cell.v (Value.int .i64 a0_2), Cell.sl a0_3n a0_3])) && true && true && true && true && true then (R (Ret.mk (.tup [(.agg [(.v (.int .i64 (u21.1.1))), (.v (.int .i64 (u21.1.2)))]), (.agg [(.v (.bool (u21.2.1))), (.v (.bool (u21.2.2)))])]) [])) else False)) else False) else (R (Ret.mk (.tup [(.agg [(.v (.int .i64 1)), (.v (.int .i64 0))]), (.agg [(.v (.bool .false)), (.v (.bool .false))])]) []))) else (R (Ret.mk (.tup [(.agg [(.v (.int .i64 1)), (.v (.int .i64 0))]), (.agg [(.v (.bool .false)), (.v (.bool .false))])]) []))) else (R (Ret.mk (.tup [(.agg [(.v (.int .i64 1)), (.v (.int .i64 0))]), (.agg [(.v (.bool .false)), (.v (.bool .false))])]) [])))) else (bif decide (a0_0 ≥ 4) then (bif decide (a0_0 ≤ 8) then (bif (↑a0_3n : Int) == 2 then (bif a1_4.length + 4 == 53 then (letV (twoC (DD + 1) [Cell.v (Value.int .i64 a0_0), Cell.v (Value.int .i64 a0_1), Cell.v (Value.int .i64 a0_2), Cell.sl a0_3n a0_3] a1_0 a1_1n (List.map intC a1_1)) (fun (u27 : (Int × Int) × Bool × Bool) => bif a1_4.all plainC && true && (okE (DD + 1) [Cell.v (Value.int .i64 a0_0), Cell.v (Value.int .i64 a0_1), Cell.v (Value.int .i64 a0_2), Cell.sl a0_3n a0_3] && (okSl 2 (.sl a1_1n a1_1) && true && true && (a1_4.all (isInt .i64) && a1_4.length == 49)) && decide (2 ≤ kN [Cell.v (Value.int .i64 a0_0), Cell.v (Value.int .i64 a0_1), Cell.v (Value.int .i64 a0_2), Cell.sl a0_3n a0_3])) && true && true && true && true && true then (R (Ret.mk (.tup [(.agg [(.v (.int .i64 (u27.1.1))), (.v (.int .i64 (u27.1.2)))]), (.agg [(.v (.bool (u27.2.1))), (.v (.bool (u27.2.2)))])]) [])) else False)) else False) else (R (Ret.mk (.tup [(.agg [(.v (.int .i64 1)), (.v (.int .i64 0))]), (.agg [(.v (.bool .false)), (.v (.bool .false))])]) []))) else (R (Ret.mk (.tup [(.agg [(.v (.int .i64 1)), (.v (.int .i64 0))]), (.agg [(.v (.bool .false)), (.v (.bool .false))])]) []))) else (R (Ret.mk (.tup [(.agg [(.v (.int .i64 1)), (.v (.int .i64 0))]), (.agg [(.v (.bool .false)), (.v (.bool .false))])]) []))))) else (bif a0_0 == 3 then (bif (↑a0_3n : Int) == 1 then (bif decide (0 < (↑a0_3n : Int)) && decide (0 < a0_3.length) then (bif decide (4 ≤ a0_3.length) then (bif a1_4.length + 4 == 53 then (letV (evalC DD (List.take 4 a0_3) a1_0 a1_1n (List.map intC a1_1)) (fun (u34 : (Int × Int) × Bool × Bool) => bif (List.take 4 a0_3).all plainC && (a1_4.all plainC && true) && (okE DD (List.take 4 a0_3) && (okSl 2 (.sl a1_1n a1_1) && true && true && (a1_4.all (isInt .i64) && a1_4.length == 49))) && true && true && true && true && true then (letV (negP (u34.1.1, u34.1.2)) (fun (u36 : (Int × Int) × Bool × Bool) => R (Ret.mk (.tup [(.agg [(.v (.int .i64 (u36.1.1))), (.v (.int .i64 (u36.1.2)))]), (.agg [(.v (.bool (u34.2.1 || u36.2.1))), (.v (.bool (u34.2.2 || u36.2.2)))])]) []))) else False)) else False) else False) else False) else (bif decide (a0_0 ≥ 4) then (bif decide (a0_0 ≤ 8) then (bif (↑a0_3n : Int) == 2 then (bif a1_4.length + 4 == 53 then (letV (twoC (DD + 1) [Cell.v (Value.int .i64 a0_0), Cell.v (Value.int .i64 a0_1), Cell.v (Value.int .i64 a0_2), Cell.sl a0_3n a0_3] a1_0 a1_1n (List.map intC a1_1)) (fun (u41 : (Int × Int) × Bool × Bool) => bif a1_4.all plainC && true && (okE (DD + 1) [Cell.v (Value.int .i64 a0_0), Cell.v (Value.int .i64 a0_1), Cell.v (Value.int .i64 a0_2), Cell.sl a0_3n a0_3] && (okSl 2 (.sl a1_1n a1_1) && true && true && (a1_4.all (isInt .i64) && a1_4.length == 49)) && decide (2 ≤ kN [Cell.v (Value.int .i64 a0_0), Cell.v (Value.int .i64 a0_1), Cell.v (Value.int .i64 a0_2), Cell.sl a0_3n a0_3])) && true && true && true && true && true then (R (Ret.mk (.tup [(.agg [(.v (.int .i64 (u41.1.1))), (.v (.int .i64 (u41.1.2)))]), (.agg [(.v (.bool (u41.2.1))), (.v (.bool (u41.2.2)))])]) [])) else False)) else False) else (R (Ret.mk (.tup [(.agg [(.v (.int .i64 1)), (.v (.int .i64 0))]), (.agg [(.v (.bool .false)), (.v (.bool .false))])]) []))) else (R (Ret.mk (.tup [(.agg [(.v (.int .i64 1)), (.v (.int .i64 0))]), (.agg [(.v (.bool .false)), (.v (.bool .false))])]) []))) else (R (Ret.mk (.tup [(.agg [(.v (.int .i64 1)), (.v (.int .i64 0))]), (.agg [(.v (.bool .false)), (.v (.bool .false))])]) [])))) else (bif decide (a0_0 ≥ 4) then (bif decide (a0_0 ≤ 8) then (bif (↑a0_3n : Int) == 2 then (bif a1_4.length + 4 == 53 then (letV (twoC (DD + 1) [Cell.v (Value.int .i64 a0_0), Cell.v (Value.int .i64 a0_1), Cell.v (Value.int .i64 a0_2), Cell.sl a0_3n a0_3] a1_0 a1_1n (List.map intC a1_1)) (fun (u47 : (Int × Int) × Bool × Bool) => bif a1_4.all plainC && true && (okE (DD + 1) [Cell.v (Value.int .i64 a0_0), Cell.v (Value.int .i64 a0_1), Cell.v (Value.int .i64 a0_2), Cell.sl a0_3n a0_3] && (okSl 2 (.sl a1_1n a1_1) && true && true && (a1_4.all (isInt .i64) && a1_4.length == 49)) && decide (2 ≤ kN [Cell.v (Value.int .i64 a0_0), Cell.v (Value.int .i64 a0_1), Cell.v (Value.int .i64 a0_2), Cell.sl a0_3n a0_3])) && true && true && true && true && true then (R (Ret.mk (.tup [(.agg [(.v (.int .i64 (u47.1.1))), (.v (.int .i64 (u47.1.2)))]), (.agg [(.v (.bool (u47.2.1))), (.v (.bool (u47.2.2)))])]) [])) else False)) else False) else (R (Ret.mk (.tup [(.agg [(.v (.int .i64 1)), (.v (.int .i64 0))]), (.agg [(.v (.bool .false)), (.v (.bool .false))])]) []))) else (R (Ret.mk (.tup [(.agg [(.v (.int .i64 1)), (.v (.int .i64 0))]), (.agg [(.v (.bool .false)), (.v (.bool .false))])]) []))) else (R (Ret.mk (.tup [(.agg [(.v (.int .i64 1)), (.v (.int .i64 0))]), (.agg [(.v (.bool .false)), (.v (.bool .false))])]) []))))) else (bif a0_0 == 3 then (bif (↑a0_3n : Int) == 1 then (bif decide (0 < (↑a0_3n : Int)) && decide (0 < a0_3.length) then (bif decide (4 ≤ a0_3.length) then (bif a1_4.length + 4 == 53 then (letV (evalC DD (List.take 4 a0_3) a1_0 a1_1n (List.map intC a1_1)) (fun (u54 : (Int × Int) × Bool × Bool) => bif (List.take 4 a0_3).all plainC && (a1_4.all plainC && true) && (okE DD (List.take 4 a0_3) && (okSl 2 (.sl a1_1n a1_1) && true && true && (a1_4.all (isInt .i64) && a1_4.length == 49))) && true && true && true && true && true then (letV (negP (u54.1.1, u54.1.2)) (fun (u56 : (Int × Int) × Bool × Bool) => R (Ret.mk (.tup [(.agg [(.v (.int .i64 (u56.1.1))), (.v (.int .i64 (u56.1.2)))]), (.agg [(.v (.bool (u54.2.1 || u56.2.1))), (.v (.bool (u54.2.2 || u56.2.2)))])]) []))) else False)) else False) else False) else False) else (bif decide (a0_0 ≥ 4) then (bif decide (a0_0 ≤ 8) then (bif (↑a0_3n : Int) == 2 then (bif a1_4.length + 4 == 53 then (letV (twoC (DD + 1) [Cell.v (Value.int .i64 a0_0), Cell.v (Value.int .i64 a0_1), Cell.v (Value.int .i64 a0_2), Cell.sl a0_3n a0_3] a1_0 a1_1n (List.map intC a1_1)) (fun (u61 : (Int × Int) × Bool × Bool) => bif a1_4.all plainC && true && (okE (DD + 1) [Cell.v (Value.int .i64 a0_0), Cell.v (Value.int .i64 a0_1), Cell.v (Value.int .i64 a0_2), Cell.sl a0_3n a0_3] && (okSl 2 (.sl a1_1n a1_1) && true && true && (a1_4.all (isInt .i64) && a1_4.length == 49)) && decide (2 ≤ kN [Cell.v (Value.int .i64 a0_0), Cell.v (Value.int .i64 a0_1), Cell.v (Value.int .i64 a0_2), Cell.sl a0_3n a0_3])) && true && true && true && true && true then (R (Ret.mk (.tup [(.agg [(.v (.int .i64 (u61.1.1))), (.v (.int .i64 (u61.1.2)))]), (.agg [(.v (.bool (u61.2.1))), (.v (.bool (u61.2.2)))])]) [])) else False)) else False) else (R (Ret.mk (.tup [(.agg [(.v (.int .i64 1)), (.v (.int .i64 0))]), (.agg [(.v (.bool .false)), (.v (.bool .false))])]) []))) else (R (Ret.mk (.tup [(.agg [(.v (.int .i64 1)), (.v (.int .i64 0))]), (.agg [(.v (.bool .false)), (.v (.bool .false))])]) []))) else (R (Ret.mk (.tup [(.agg [(.v (.int .i64 1)), (.v (.int .i64 0))]), (.agg [(.v (.bool .false)), (.v (.bool .false))])]) [])))) else (bif decide (a0_0 ≥ 4) then (bif decide (a0_0 ≤ 8) then (bif (↑a0_3n : Int) == 2 then (bif a1_4.length + 4 == 53 then (letV (twoC (DD + 1) [Cell.v (Value.int .i64 a0_0), Cell.v (Value.int .i64 a0_1), Cell.v (Value.int .i64 a0_2), Cell.sl a0_3n a0_3] a1_0 a1_1n (List.map intC a1_1)) (fun (u67 : (Int × Int) × Bool × Bool) => bif a1_4.all plainC && true && (okE (DD + 1) [Cell.v (Value.int .i64 a0_0), Cell.v (Value.int .i64 a0_1), Cell.v (Value.int .i64 a0_2), Cell.sl a0_3n a0_3] && (okSl 2 (.sl a1_1n a1_1) && true && true && (a1_4.all (isInt .i64) && a1_4.length == 49)) && decide (2 ≤ kN [Cell.v (Value.int .i64 a0_0), Cell.v (Value.int .i64 a0_1), Cell.v (Value.int .i64 a0_2), Cell.sl a0_3n a0_3])) && true && true && true && true && true then (R (Ret.mk (.tup [(.agg [(.v (.int .i64 (u67.1.1))), (.v (.int .i64 (u67.1.2)))]), (.agg [(.v (.bool (u67.2.1))), (.v (.bool (u67.2.2)))])]) [])) else False)) else False) else (R (Ret.mk (.tup [(.agg [(.v (.int .i64 1)), (.v (.int .i64 0))]), (.agg [(.v (.bool .false)), (.v (.bool .false))])]) []))) else (R (Ret.mk (.tup [(.agg [(.v (.int .i64 1)), (.v (.int .i64 0))]), (.agg [(.v (.bool .false)), (.v (.bool .false))])]) []))) else (R (Ret.mk (.tup [(.agg [(.v (.int .i64 1)), (.v (.int .i64 0))]), (.agg [(.v (.bool .false)), (.v (.bool .false))])]) []))))))) := by kernel_rfl

def f75_wp (DD : Nat) (a0_0 : Int) (a0_1 : Int) (a0_2 : Int) (a0_3n : Nat) (a0_3 : List Cell) (a1_0 : Bool) (a1_1n : Nat) (a1_1 : List Cell) (a1_2 : Int) (a1_3 : Bool) (a1_4 : List Cell) (R : Ret → Prop) : Prop := bif a1_0 then (R (Ret.mk (.tup [(.agg [(.v (.int .i64 1)), (.v (.int .i64 0))]), (.agg [(.v (.bool .false)), (.v (.bool .false))])]) [])) else (bif a0_0 == 1 then (letV (ofP a0_1 a0_1) (fun (u3 : Int × Int) => R (Ret.mk (.tup [(.agg [(.v (.int .i64 (u3.1))), (.v (.int .i64 (u3.2)))]), (.agg [(.v (.bool .false)), (.v (.bool .false))])]) []))) else (bif a0_0 == 2 then (bif decide (a0_2 ≥ 0) then (bif decide (a0_2 < (↑a1_1n : Int)) then (bif decide (0 ≤ a0_2) && decide (a0_2 < (↑a1_1n : Int)) && decide (a0_2.toNat * 2 < a1_1.length) then (bif decide (a0_2.toNat * 2 + 2 ≤ a1_1.length) && (okK (some .i64) (a1_1.getD (a0_2.toNat * 2) .dead) && (okK (some .i64) (a1_1.getD (a0_2.toNat * 2 + 1) .dead) && true)) then (R (Ret.mk (.tup [(.agg [(.v (.int .i64 (intC (a1_1.getD (a0_2.toNat * 2) .dead)))), (.v (.int .i64 (intC (a1_1.getD (a0_2.toNat * 2 + 1) .dead))))]), (.agg [(.v (.bool .false)), (.v (.bool .false))])]) [])) else False) else False) else (bif a0_0 == 3 then (bif (↑a0_3n : Int) == 1 then (bif decide (0 < (↑a0_3n : Int)) && decide (0 < a0_3.length) then (bif decide (4 ≤ a0_3.length) then (bif a1_4.length + 4 == 53 then (letV (evalC DD (List.take 4 a0_3) a1_0 a1_1n (List.map intC a1_1)) (fun (u14 : (Int × Int) × Bool × Bool) => bif (List.take 4 a0_3).all plainC && (a1_4.all plainC && true) && (okE DD (List.take 4 a0_3) && (okSl 2 (.sl a1_1n a1_1) && true && true && (a1_4.all (isInt .i64) && a1_4.length == 49))) && true && true && true && true && true then (letV (negP (u14.1.1, u14.1.2)) (fun (u16 : (Int × Int) × Bool × Bool) => R (Ret.mk (.tup [(.agg [(.v (.int .i64 (u16.1.1))), (.v (.int .i64 (u16.1.2)))]), (.agg [(.v (.bool (u14.2.1 || u16.2.1))), (.v (.bool (u14.2.2 || u16.2.2)))])]) []))) else False)) else False) else False) else False) else (bif decide (a0_0 ≥ 4) then (bif decide (a0_0 ≤ 8) then (bif (↑a0_3n : Int) == 2 then (bif a1_4.length + 4 == 53 then (letV (twoC (DD + 1) [Cell.v (Value.int .i64 a0_0), Cell.v (Value.int .i64 a0_1), Cell.v (Value.int .i64 a0_2), Cell.sl a0_3n a0_3] a1_0 a1_1n (List.map intC a1_1)) (fun (u21 : (Int × Int) × Bool × Bool) => bif a1_4.all plainC && true && (okE (DD + 1) [Cell.v (Value.int .i64 a0_0), Cell.v (Value.int .i64 a0_1), Cell.v (Value.int .i64 a0_2), Cell.sl a0_3n a0_3] && (okSl 2 (.sl a1_1n a1_1) && true && true && (a1_4.all (isInt .i64) && a1_4.length == 49)) && decide (2 ≤ kN [Cell.v (Value.int .i64 a0_0), Cell.v (Value.int .i64 a0_1), Cell.v (Value.int .i64 a0_2), Cell.sl a0_3n a0_3])) && true && true && true && true && true then (R (Ret.mk (.tup [(.agg [(.v (.int .i64 (u21.1.1))), (.v (.int .i64 (u21.1.2)))]), (.agg [(.v (.bool (u21.2.1))), (.v (.bool (u21.2.2)))])]) [])) else False)) else False) else (R (Ret.mk (.tup [(.agg [(.v (.int .i64 1)), (.v (.int .i64 0))]), (.agg [(.v (.bool .false)), (.v (.bool .false))])]) []))) else (R (Ret.mk (.tup [(.agg [(.v (.int .i64 1)), (.v (.int .i64 0))]), (.agg [(.v (.bool .false)), (.v (.bool .false))])]) []))) else (R (Ret.mk (.tup [(.agg [(.v (.int .i64 1)), (.v (.int .i64 0))]), (.agg [(.v (.bool .false)), (.v (.bool .false))])]) [])))) else (bif decide (a0_0 ≥ 4) then (bif decide (a0_0 ≤ 8) then (bif (↑a0_3n : Int) == 2 then (bif a1_4.length + 4 == 53 then (letV (twoC (DD + 1) [Cell.v (Value.int .i64 a0_0), Cell.v (Value.int .i64 a0_1), Cell.v (Value.int .i64 a0_2), Cell.sl a0_3n a0_3] a1_0 a1_1n (List.map intC a1_1)) (fun (u27 : (Int × Int) × Bool × Bool) => bif a1_4.all plainC && true && (okE (DD + 1) [Cell.v (Value.int .i64 a0_0), Cell.v (Value.int .i64 a0_1), Cell.v (Value.int .i64 a0_2), Cell.sl a0_3n a0_3] && (okSl 2 (.sl a1_1n a1_1) && true && true && (a1_4.all (isInt .i64) && a1_4.length == 49)) && decide (2 ≤ kN [Cell.v (Value.int .i64 a0_0), Cell.v (Value.int .i64 a0_1), Cell.v (Value.int .i64 a0_2), Cell.sl a0_3n a0_3])) && true && true && true && true && true then (R (Ret.mk (.tup [(.agg [(.v (.int .i64 (u27.1.1))), (.v (.int .i64 (u27.1.2)))]), (.agg [(.v (.bool (u27.2.1))), (.v (.bool (u27.2.2)))])]) [])) else False)) else False) else (R (Ret.mk (.tup [(.agg [(.v (.int .i64 1)), (.v (.int .i64 0))]), (.agg [(.v (.bool .false)), (.v (.bool .false))])]) []))) else (R (Ret.mk (.tup [(.agg [(.v (.int .i64 1)), (.v (.int .i64 0))]), (.agg [(.v (.bool .false)), (.v (.bool .false))])]) []))) else (R (Ret.mk (.tup [(.agg [(.v (.int .i64 1)), (.v (.int .i64 0))]), (.agg [(.v (.bool .false)), (.v (.bool .false))])]) []))))) else (bif a0_0 == 3 then (bif (↑a0_3n : Int) == 1 then (bif decide (0 < (↑a0_3n : Int)) && decide (0 < a0_3.length) then (bif decide (4 ≤ a0_3.length) then (bif a1_4.length + 4 == 53 then (letV (evalC DD (List.take 4 a0_3) a1_0 a1_1n (List.map intC a1_1)) (fun (u34 : (Int × Int) × Bool × Bool) => bif (List.take 4 a0_3).all plainC && (a1_4.all plainC && true) && (okE DD (List.take 4 a0_3) && (okSl 2 (.sl a1_1n a1_1) && true && true && (a1_4.all (isInt .i64) && a1_4.length == 49))) && true && true && true && true && true then (letV (negP (u34.1.1, u34.1.2)) (fun (u36 : (Int × Int) × Bool × Bool) => R (Ret.mk (.tup [(.agg [(.v (.int .i64 (u36.1.1))), (.v (.int .i64 (u36.1.2)))]), (.agg [(.v (.bool (u34.2.1 || u36.2.1))), (.v (.bool (u34.2.2 || u36.2.2)))])]) []))) else False)) else False) else False) else False) else (bif decide (a0_0 ≥ 4) then (bif decide (a0_0 ≤ 8) then (bif (↑a0_3n : Int) == 2 then (bif a1_4.length + 4 == 53 then (letV (twoC (DD + 1) [Cell.v (Value.int .i64 a0_0), Cell.v (Value.int .i64 a0_1), Cell.v (Value.int .i64 a0_2), Cell.sl a0_3n a0_3] a1_0 a1_1n (List.map intC a1_1)) (fun (u41 : (Int × Int) × Bool × Bool) => bif a1_4.all plainC && true && (okE (DD + 1) [Cell.v (Value.int .i64 a0_0), Cell.v (Value.int .i64 a0_1), Cell.v (Value.int .i64 a0_2), Cell.sl a0_3n a0_3] && (okSl 2 (.sl a1_1n a1_1) && true && true && (a1_4.all (isInt .i64) && a1_4.length == 49)) && decide (2 ≤ kN [Cell.v (Value.int .i64 a0_0), Cell.v (Value.int .i64 a0_1), Cell.v (Value.int .i64 a0_2), Cell.sl a0_3n a0_3])) && true && true && true && true && true then (R (Ret.mk (.tup [(.agg [(.v (.int .i64 (u41.1.1))), (.v (.int .i64 (u41.1.2)))]), (.agg [(.v (.bool (u41.2.1))), (.v (.bool (u41.2.2)))])]) [])) else False)) else False) else (R (Ret.mk (.tup [(.agg [(.v (.int .i64 1)), (.v (.int .i64 0))]), (.agg [(.v (.bool .false)), (.v (.bool .false))])]) []))) else (R (Ret.mk (.tup [(.agg [(.v (.int .i64 1)), (.v (.int .i64 0))]), (.agg [(.v (.bool .false)), (.v (.bool .false))])]) []))) else (R (Ret.mk (.tup [(.agg [(.v (.int .i64 1)), (.v (.int .i64 0))]), (.agg [(.v (.bool .false)), (.v (.bool .false))])]) [])))) else (bif decide (a0_0 ≥ 4) then (bif decide (a0_0 ≤ 8) then (bif (↑a0_3n : Int) == 2 then (bif a1_4.length + 4 == 53 then (letV (twoC (DD + 1) [Cell.v (Value.int .i64 a0_0), Cell.v (Value.int .i64 a0_1), Cell.v (Value.int .i64 a0_2), Cell.sl a0_3n a0_3] a1_0 a1_1n (List.map intC a1_1)) (fun (u47 : (Int × Int) × Bool × Bool) => bif a1_4.all plainC && true && (okE (DD + 1) [Cell.v (Value.int .i64 a0_0), Cell.v (Value.int .i64 a0_1), Cell.v (Value.int .i64 a0_2), Cell.sl a0_3n a0_3] && (okSl 2 (.sl a1_1n a1_1) && true && true && (a1_4.all (isInt .i64) && a1_4.length == 49)) && decide (2 ≤ kN [Cell.v (Value.int .i64 a0_0), Cell.v (Value.int .i64 a0_1), Cell.v (Value.int .i64 a0_2), Cell.sl a0_3n a0_3])) && true && true && true && true && true then (R (Ret.mk (.tup [(.agg [(.v (.int .i64 (u47.1.1))), (.v (.int .i64 (u47.1.2)))]), (.agg [(.v (.bool (u47.2.1))), (.v (.bool (u47.2.2)))])]) [])) else False)) else False) else (R (Ret.mk (.tup [(.agg [(.v (.int .i64 1)), (.v (.int .i64 0))]), (.agg [(.v (.bool .false)), (.v (.bool .false))])]) []))) else (R (Ret.mk (.tup [(.agg [(.v (.int .i64 1)), (.v (.int .i64 0))]), (.agg [(.v (.bool .false)), (.v (.bool .false))])]) []))) else (R (Ret.mk (.tup [(.agg [(.v (.int .i64 1)), (.v (.int .i64 0))]), (.agg [(.v (.bool .false)), (.v (.bool .false))])]) []))))) else (bif a0_0 == 3 then (bif (↑a0_3n : Int) == 1 then (bif decide (0 < (↑a0_3n : Int)) && decide (0 < a0_3.length) then (bif decide (4 ≤ a0_3.length) then (bif a1_4.length + 4 == 53 then (letV (evalC DD (List.take 4 a0_3) a1_0 a1_1n (List.map intC a1_1)) (fun (u54 : (Int × Int) × Bool × Bool) => bif (List.take 4 a0_3).all plainC && (a1_4.all plainC && true) && (okE DD (List.take 4 a0_3) && (okSl 2 (.sl a1_1n a1_1) && true && true && (a1_4.all (isInt .i64) && a1_4.length == 49))) && true && true && true && true && true then (letV (negP (u54.1.1, u54.1.2)) (fun (u56 : (Int × Int) × Bool × Bool) => R (Ret.mk (.tup [(.agg [(.v (.int .i64 (u56.1.1))), (.v (.int .i64 (u56.1.2)))]), (.agg [(.v (.bool (u54.2.1 || u56.2.1))), (.v (.bool (u54.2.2 || u56.2.2)))])]) []))) else False)) else False) else False) else False) else (bif decide (a0_0 ≥ 4) then (bif decide (a0_0 ≤ 8) then (bif (↑a0_3n : Int) == 2 then (bif a1_4.length + 4 == 53 then (letV (twoC (DD + 1) [Cell.v (Value.int .i64 a0_0), Cell.v (Value.int .i64 a0_1), Cell.v (Value.int .i64 a0_2), Cell.sl a0_3n a0_3] a1_0 a1_1n (List.map intC a1_1)) (fun (u61 : (Int × Int) × Bool × Bool) => bif a1_4.all plainC && true && (okE (DD + 1) [Cell.v (Value.int .i64 a0_0), Cell.v (Value.int .i64 a0_1), Cell.v (Value.int .i64 a0_2), Cell.sl a0_3n a0_3] && (okSl 2 (.sl a1_1n a1_1) && true && true && (a1_4.all (isInt .i64) && a1_4.length == 49)) && decide (2 ≤ kN [Cell.v (Value.int .i64 a0_0), Cell.v (Value.int .i64 a0_1), Cell.v (Value.int .i64 a0_2), Cell.sl a0_3n a0_3])) && true && true && true && true && true then (R (Ret.mk (.tup [(.agg [(.v (.int .i64 (u61.1.1))), (.v (.int .i64 (u61.1.2)))]), (.agg [(.v (.bool (u61.2.1))), (.v (.bool (u61.2.2)))])]) [])) else False)) else False) else (R (Ret.mk (.tup [(.agg [(.v (.int .i64 1)), (.v (.int .i64 0))]), (.agg [(.v (.bool .false)), (.v (.bool .false))])]) []))) else (R (Ret.mk (.tup [(.agg [(.v (.int .i64 1)), (.v (.int .i64 0))]), (.agg [(.v (.bool .false)), (.v (.bool .false))])]) []))) else (R (Ret.mk (.tup [(.agg [(.v (.int .i64 1)), (.v (.int .i64 0))]), (.agg [(.v (.bool .false)), (.v (.bool .false))])]) [])))) else (bif decide (a0_0 ≥ 4) then (bif decide (a0_0 ≤ 8) then (bif (↑a0_3n : Int) == 2 then (bif a1_4.length + 4 == 53 then (letV (twoC (DD + 1) [Cell.v (Value.int .i64 a0_0), Cell.v (Value.int .i64 a0_1), Cell.v (Value.int .i64 a0_2), Cell.sl a0_3n a0_3] a1_0 a1_1n (List.map intC a1_1)) (fun (u67 : (Int × Int) × Bool × Bool) => bif a1_4.all plainC && true && (okE (DD + 1) [Cell.v (Value.int .i64 a0_0), Cell.v (Value.int .i64 a0_1), Cell.v (Value.int .i64 a0_2), Cell.sl a0_3n a0_3] && (okSl 2 (.sl a1_1n a1_1) && true && true && (a1_4.all (isInt .i64) && a1_4.length == 49)) && decide (2 ≤ kN [Cell.v (Value.int .i64 a0_0), Cell.v (Value.int .i64 a0_1), Cell.v (Value.int .i64 a0_2), Cell.sl a0_3n a0_3])) && true && true && true && true && true then (R (Ret.mk (.tup [(.agg [(.v (.int .i64 (u67.1.1))), (.v (.int .i64 (u67.1.2)))]), (.agg [(.v (.bool (u67.2.1))), (.v (.bool (u67.2.2)))])]) [])) else False)) else False) else (R (Ret.mk (.tup [(.agg [(.v (.int .i64 1)), (.v (.int .i64 0))]), (.agg [(.v (.bool .false)), (.v (.bool .false))])]) []))) else (R (Ret.mk (.tup [(.agg [(.v (.int .i64 1)), (.v (.int .i64 0))]), (.agg [(.v (.bool .false)), (.v (.bool .false))])]) []))) else (R (Ret.mk (.tup [(.agg [(.v (.int .i64 1)), (.v (.int .i64 0))]), (.agg [(.v (.bool .false)), (.v (.bool .false))])]) []))))))

set_option maxRecDepth 100000 in
theorem f75_sound (DD : Nat) (a0_0 : Int) (a0_1 : Int) (a0_2 : Int) (a0_3n : Nat) (a0_3 : List Cell) (a1_0 : Bool) (a1_1n : Nat) (a1_1 : List Cell) (a1_2 : Int) (a1_3 : Bool) (a1_4 : List Cell) (hC : CtxOk Try.prog (cx75 DD).q.ctx) {r : Ret} (h : f75_wp DD a0_0 a0_1 a0_2 a0_3n a0_3 a1_0 a1_1n a1_1 a1_2 a1_3 a1_4 (fun r' => r' = r)) : SoundAt Try.prog 75 [(.agg [(.v (.int .i64 a0_0)), (.v (.int .i64 a0_1)), (.v (.int .i64 a0_2)), (.sl a0_3n a0_3)]), (.agg ((.v (.bool a1_0)) :: (.sl a1_1n a1_1) :: (.v (.int .i64 a1_2)) :: (.v (.bool a1_3)) :: a1_4))] r := by
  refine soundAtO (C := (cx75 DD)) (oc := (.two .e (.two .e (.two (.n 1 (.two (.n 4 (.two .e (.two (.n 2 (.two .e (.two (.n 1 (.two (.n 2 (.two .e .e)) (.n 3 .e))) (.n 6 .e)))) (.n 3 (.two (.n 1 (.two (.n 2 (.two .e .e)) (.n 3 .e))) (.n 6 .e)))))) (.n 5 (.two (.n 2 (.two .e (.two (.n 1 (.two (.n 2 (.two .e .e)) (.n 3 .e))) (.n 6 .e)))) (.n 3 (.two (.n 1 (.two (.n 2 (.two .e .e)) (.n 3 .e))) (.n 6 .e))))))) (.n 8 (.two (.n 2 (.two .e (.two (.n 1 (.two (.n 2 (.two .e .e)) (.n 3 .e))) (.n 6 .e)))) (.n 3 (.two (.n 1 (.two (.n 2 (.two .e .e)) (.n 3 .e))) (.n 6 .e))))))))) mixed hC F75_ok ?_
  rewrite [E75 DD a0_0 a0_1 a0_2 a0_3n a0_3 a1_0 a1_1n a1_1 a1_2 a1_3 a1_4]
  unfold f75_wp at h
  refine cond_mapE h (fun q1 h => ?_) (fun q1 h => ?_)
  · skip
    exact h
  · skip
    refine cond_mapE h (fun q2 h => ?_) (fun q2 h => ?_)
    · skip
      refine letV_mapE h (fun u3 h => ?_)
      exact h
    · skip
      refine cond_mapE h (fun q4 h => ?_) (fun q4 h => ?_)
      · skip
        refine cond_mapE h (fun q5 h => ?_) (fun q5 h => ?_)
        · skip
          refine cond_mapE h (fun q6 h => ?_) (fun q6 h => ?_)
          · skip
            refine ck_mapE h (fun q7 h => ck_mapE h (fun q8 h => ?_))
            exact h
          · skip
            refine cond_mapE h (fun q9 h => ?_) (fun q9 h => ?_)
            · skip
              refine cond_mapE h (fun q10 h => ?_) (fun q10 h => ?_)
              · skip
                refine ck_mapE h (fun q11 h => ck_mapE h (fun q12 h => ck_mapE h (fun q13 h => letV_mapE h (fun u14 h => ck_mapE h (fun q15 h => letV_mapE h (fun u16 h => ?_))))))
                exact h
              · skip
                refine cond_mapE h (fun q17 h => ?_) (fun q17 h => ?_)
                · skip
                  refine cond_mapE h (fun q18 h => ?_) (fun q18 h => ?_)
                  · skip
                    refine cond_mapE h (fun q19 h => ?_) (fun q19 h => ?_)
                    · skip
                      refine ck_mapE h (fun q20 h => letV_mapE h (fun u21 h => ck_mapE h (fun q22 h => ?_)))
                      exact h
                    · skip
                      exact h
                  · skip
                    exact h
                · skip
                  exact h
            · skip
              refine cond_mapE h (fun q23 h => ?_) (fun q23 h => ?_)
              · skip
                refine cond_mapE h (fun q24 h => ?_) (fun q24 h => ?_)
                · skip
                  refine cond_mapE h (fun q25 h => ?_) (fun q25 h => ?_)
                  · skip
                    refine ck_mapE h (fun q26 h => letV_mapE h (fun u27 h => ck_mapE h (fun q28 h => ?_)))
                    exact h
                  · skip
                    exact h
                · skip
                  exact h
              · skip
                exact h
        · skip
          refine cond_mapE h (fun q29 h => ?_) (fun q29 h => ?_)
          · skip
            refine cond_mapE h (fun q30 h => ?_) (fun q30 h => ?_)
            · skip
              refine ck_mapE h (fun q31 h => ck_mapE h (fun q32 h => ck_mapE h (fun q33 h => letV_mapE h (fun u34 h => ck_mapE h (fun q35 h => letV_mapE h (fun u36 h => ?_))))))
              exact h
            · skip
              refine cond_mapE h (fun q37 h => ?_) (fun q37 h => ?_)
              · skip
                refine cond_mapE h (fun q38 h => ?_) (fun q38 h => ?_)
                · skip
                  refine cond_mapE h (fun q39 h => ?_) (fun q39 h => ?_)
                  · skip
                    refine ck_mapE h (fun q40 h => letV_mapE h (fun u41 h => ck_mapE h (fun q42 h => ?_)))
                    exact h
                  · skip
                    exact h
                · skip
                  exact h
              · skip
                exact h
          · skip
            refine cond_mapE h (fun q43 h => ?_) (fun q43 h => ?_)
            · skip
              refine cond_mapE h (fun q44 h => ?_) (fun q44 h => ?_)
              · skip
                refine cond_mapE h (fun q45 h => ?_) (fun q45 h => ?_)
                · skip
                  refine ck_mapE h (fun q46 h => letV_mapE h (fun u47 h => ck_mapE h (fun q48 h => ?_)))
                  exact h
                · skip
                  exact h
              · skip
                exact h
            · skip
              exact h
      · skip
        refine cond_mapE h (fun q49 h => ?_) (fun q49 h => ?_)
        · skip
          refine cond_mapE h (fun q50 h => ?_) (fun q50 h => ?_)
          · skip
            refine ck_mapE h (fun q51 h => ck_mapE h (fun q52 h => ck_mapE h (fun q53 h => letV_mapE h (fun u54 h => ck_mapE h (fun q55 h => letV_mapE h (fun u56 h => ?_))))))
            exact h
          · skip
            refine cond_mapE h (fun q57 h => ?_) (fun q57 h => ?_)
            · skip
              refine cond_mapE h (fun q58 h => ?_) (fun q58 h => ?_)
              · skip
                refine cond_mapE h (fun q59 h => ?_) (fun q59 h => ?_)
                · skip
                  refine ck_mapE h (fun q60 h => letV_mapE h (fun u61 h => ck_mapE h (fun q62 h => ?_)))
                  exact h
                · skip
                  exact h
              · skip
                exact h
            · skip
              exact h
        · skip
          refine cond_mapE h (fun q63 h => ?_) (fun q63 h => ?_)
          · skip
            refine cond_mapE h (fun q64 h => ?_) (fun q64 h => ?_)
            · skip
              refine cond_mapE h (fun q65 h => ?_) (fun q65 h => ?_)
              · skip
                refine ck_mapE h (fun q66 h => letV_mapE h (fun u67 h => ck_mapE h (fun q68 h => ?_)))
                exact h
              · skip
                exact h
            · skip
              exact h
          · skip
            exact h


end Go.Proofs.Ytgmciihlmgeecaa.Fn
