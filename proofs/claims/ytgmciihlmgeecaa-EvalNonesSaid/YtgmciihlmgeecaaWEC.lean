import Derived.Test.YtgmciihlmgeecaaWE

import Derived.Test.YtgmciihlmgeecaaSpE2

/- The laws' functions of expressions, walked. No conditions beyond those named. -/

namespace Go.Proofs.Ytgmciihlmgeecaa.Fn

open Go Go.RowKit Go.Proofs Go.Proofs.Ytgmciihlmgeecaa.Mt Go.Proofs.Ytgmciihlmgeecaa.Zm

set_option linter.unusedVariables false

set_option linter.unusedSimpArgs false

def cx67 (DD : Nat) : CtxW := ⟨⟨[(67, sum67 DD)], []⟩, 16, []⟩


def F67 : SFn := ⟨85, [(.cell 6 .true 4)], (.seq (.reg [(o1 3 (.box (.t 0))), (o1 6 (.alloc [(.int .i64 0), (.int .i64 0), (.int .i64 0), (.slice .none 0 0)]))]) (.seq (.seq (.reg [(o1 7 (.fld 0 (.t 3))), (o1 8 (.load .false .false 1 [(.some .i64)] (.t 7))), (o1 9 (.bin .geq (.t 8) (.c (.int .i64 4)))), (o1 10 (.mv (.t 9))), (oS 11 (.fld 0 (.t 3)) (.some (10, .true))), (oS 12 (.load .false .false 1 [(.some .i64)] (.t 11)) (.some (10, .true))), (oS 13 (.bin .leq (.t 12) (.c (.int .i64 8))) (.some (10, .true))), (o1 14 (.pick (.t 10) (.t 13) (.c (.bool .false)))), (o1 15 (.mv (.t 14))), (oS 16 (.fld 3 (.t 3)) (.some (15, .true))), (oS 17 (.load .false .false 1 [] (.t 16)) (.some (15, .true))), (oS 18 (.len (.t 17)) (.some (15, .true))), (oS 19 (.bin .eql (.t 18) (.c (.int .i64 2))) (.some (15, .true))), (o1 20 (.pick (.t 15) (.t 19) (.c (.bool .false)))), (o1 21 (.mv (.t 20))), (oS 22 (.mv (.t 1)) (.some (21, .true))), (oS 23 (.bin .gtr (.t 22) (.c (.int .i64 0))) (.some (21, .true))), (o1 24 (.pick (.t 21) (.t 23) (.c (.bool .false))))]) (.cond (.t 24) (.seq (.reg [(o1 25 (.fld 0 (.t 3))), (o1 26 (.load .false .false 1 [(.some .i64)] (.t 25))), (o1 27 (.fld 3 (.t 3))), (o1 28 (.load .false .false 1 [] (.t 27))), (o1 29 (.ixS 4 (.t 28) (.c (.int .i64 0)))), (o1 30 (.load .true .true 4 [] (.t 29))), (o1 31 (.mv (.t 1))), (o1 32 (.bin .sub (.t 31) (.c (.int .i64 1)))), (o1 33 (.mv (.t 2))), (o1 34 (.call .false .false (.f 67) [(.t 30), (.t 32), (.t 33)])), (o1 35 (.fld 3 (.t 3))), (o1 36 (.load .false .false 1 [] (.t 35))), (o1 37 (.ixS 4 (.t 36) (.c (.int .i64 1)))), (o1 38 (.load .true .true 4 [] (.t 37))), (o1 39 (.mv (.t 1))), (o1 40 (.bin .sub (.t 39) (.c (.int .i64 1)))), (o1 41 (.mv (.t 2))), (o1 42 (.call .false .false (.f 67) [(.t 38), (.t 40), (.t 41)])), (o1 43 (.buildS 93 4 2 [(.int .i64 0), (.int .i64 0), (.int .i64 0), (.slice .none 0 0), (.int .i64 0), (.int .i64 0), (.int .i64 0), (.slice .none 0 0)] [(0, (.t 34)), (1, (.t 42))])), (o1 44 (.build [(.int .i64 0), (.int .i64 0), (.int .i64 0), (.slice .none 0 0)] [(0, (1, (.t 26))), (3, (1, (.t 43)))])), (oN (.store .false 4 (.t 6) (.t 44)))]) .ret) .skip)) (.seq (.seq (.reg [(o1 45 (.fld 0 (.t 3))), (o1 46 (.load .false .false 1 [(.some .i64)] (.t 45))), (o1 47 (.bin .eql (.t 46) (.c (.int .i64 3)))), (o1 48 (.mv (.t 47))), (oS 49 (.fld 3 (.t 3)) (.some (48, .true))), (oS 50 (.load .false .false 1 [] (.t 49)) (.some (48, .true))), (oS 51 (.len (.t 50)) (.some (48, .true))), (oS 52 (.bin .eql (.t 51) (.c (.int .i64 1))) (.some (48, .true))), (o1 53 (.pick (.t 48) (.t 52) (.c (.bool .false)))), (o1 54 (.mv (.t 53))), (oS 55 (.mv (.t 1)) (.some (54, .true))), (oS 56 (.bin .gtr (.t 55) (.c (.int .i64 0))) (.some (54, .true))), (o1 57 (.pick (.t 54) (.t 56) (.c (.bool .false))))]) (.cond (.t 57) (.seq (.reg [(o1 58 (.fld 3 (.t 3))), (o1 59 (.load .false .false 1 [] (.t 58))), (o1 60 (.ixS 4 (.t 59) (.c (.int .i64 0)))), (o1 61 (.load .true .true 4 [] (.t 60))), (o1 62 (.mv (.t 1))), (o1 63 (.bin .sub (.t 62) (.c (.int .i64 1)))), (o1 64 (.mv (.t 2))), (o1 65 (.call .false .false (.f 67) [(.t 61), (.t 63), (.t 64)])), (o1 66 (.buildS 93 4 1 [(.int .i64 0), (.int .i64 0), (.int .i64 0), (.slice .none 0 0)] [(0, (.t 65))])), (o1 67 (.build [(.int .i64 0), (.int .i64 0), (.int .i64 0), (.slice .none 0 0)] [(0, (1, (.c (.int .i64 3)))), (3, (1, (.t 66)))])), (oN (.store .false 4 (.t 6) (.t 67)))]) .ret) .skip)) (.seq (.seq (.reg [(o1 68 (.fld 0 (.t 3))), (o1 69 (.load .false .false 1 [(.some .i64)] (.t 68))), (o1 70 (.bin .eql (.t 69) (.c (.int .i64 2))))]) (.cond (.t 70) (.seq (.reg [(o1 71 (.fld 2 (.t 3))), (o1 72 (.load .false .false 1 [(.some .i64)] (.t 71))), (o1 73 (.conv .u64 (.t 72))), (o1 74 (.mv (.t 2))), (o1 75 (.conv .u64 (.t 74))), (o1 76 (.bin .rem (.t 73) (.t 75))), (o1 77 (.conv .i64 (.t 76))), (o1 78 (.build [(.int .i64 0), (.int .i64 0), (.int .i64 0), (.slice .none 0 0)] [(0, (1, (.c (.int .i64 2)))), (2, (1, (.t 77)))])), (oN (.store .false 4 (.t 6) (.t 78)))]) .ret) .skip)) (.seq (.reg [(o1 79 (.fld 1 (.t 3))), (o1 80 (.load .false .false 1 [(.some .i64)] (.t 79))), (o1 81 (.conv .u64 (.t 80))), (o1 82 (.bin .rem (.t 81) (.c (.int .u64 2147483648)))), (o1 83 (.conv .i64 (.t 82))), (o1 84 (.build [(.int .i64 0), (.int .i64 0), (.int .i64 0), (.slice .none 0 0)] [(0, (1, (.c (.int .i64 1)))), (1, (1, (.t 83)))])), (oN (.store .false 4 (.t 6) (.t 84)))]) .ret)))))⟩

theorem F67_ok : sfn Try.prog hintsN 67 [] = some F67 := by kernel_rfl

theorem E67 (DD : Nat) (a0_0 : Int) (a0_1 : Int) (a0_2 : Int) (a0_3n : Nat) (a0_3 : List Cell) (a1 : Int) (a2 : Int) (R : Ret → Prop) : wpFO (cx67 DD) F67 (.two (.n 1 (.two (.n 2 (.two (.n 0 (.two .e (.two (.n 2 (.two (.n 0 (.b false (.two .e .e))) (.n 1 (.two .e .e)))) (.n 5 (.two .e .e))))) (.n 1 (.two (.n 2 (.two (.n 0 (.two .e (.two .e .e))) (.n 1 (.two .e .e)))) (.n 5 (.two .e .e)))))) (.n 5 (.two (.n 2 (.two (.n 0 (.two .e (.two .e .e))) (.n 1 (.two .e .e)))) (.n 5 (.two .e .e)))))) (.n 8 (.two (.n 2 (.two (.n 0 (.two .e (.two .e .e))) (.n 1 (.two .e .e)))) (.n 5 (.two .e .e))))) [(.agg [(.v (.int .i64 a0_0)), (.v (.int .i64 a0_1)), (.v (.int .i64 a0_2)), (.sl a0_3n a0_3)]), (.one (.v (.int .i64 a1))), (.one (.v (.int .i64 a2)))] R = (bif decide (a0_0 ≥ 4) then (bif decide (a0_0 ≤ 8) then (bif (↑a0_3n : Int) == 2 then (bif decide (a1 > 0) then (bif decide (0 < (↑a0_3n : Int)) && decide (0 < a0_3.length) then (bif decide (4 ≤ a0_3.length) then (bif (List.take 4 a0_3).all plainC && true && (okE DD (List.take 4 a0_3) && true && true && inB (IntKind.i64.wrap (a1 - 1)) && inB a2 && decide (0 < a2)) && true && true && true && true && true then (bif decide (1 < (↑a0_3n : Int)) && decide (4 < a0_3.length) then (bif decide (8 ≤ a0_3.length) then (bif (List.take 4 (List.drop 4 a0_3)).all plainC && true && (okE DD (List.take 4 (List.drop 4 a0_3)) && true && true && inB (IntKind.i64.wrap (a1 - 1)) && inB a2 && decide (0 < a2)) && true && true && true && true && true then (R (Ret.mk (.agg [(.v (.int .i64 (a0_0))), (.v (.int .i64 0)), (.v (.int .i64 0)), (.own 0 0)]) [(Tok.mk 93 4 2 [(.v (.int .i64 (kK (tameC DD (IntKind.i64.wrap (a1 - 1)) a2 (List.take 4 a0_3))))), (.v (.int .i64 (kV (tameC DD (IntKind.i64.wrap (a1 - 1)) a2 (List.take 4 a0_3))))), (.v (.int .i64 (kX (tameC DD (IntKind.i64.wrap (a1 - 1)) a2 (List.take 4 a0_3))))), (.sl (kN (tameC DD (IntKind.i64.wrap (a1 - 1)) a2 (List.take 4 a0_3))) (kL (tameC DD (IntKind.i64.wrap (a1 - 1)) a2 (List.take 4 a0_3)))), (.v (.int .i64 (kK (tameC DD (IntKind.i64.wrap (a1 - 1)) a2 (List.take 4 (List.drop 4 a0_3)))))), (.v (.int .i64 (kV (tameC DD (IntKind.i64.wrap (a1 - 1)) a2 (List.take 4 (List.drop 4 a0_3)))))), (.v (.int .i64 (kX (tameC DD (IntKind.i64.wrap (a1 - 1)) a2 (List.take 4 (List.drop 4 a0_3)))))), (.sl (kN (tameC DD (IntKind.i64.wrap (a1 - 1)) a2 (List.take 4 (List.drop 4 a0_3)))) (kL (tameC DD (IntKind.i64.wrap (a1 - 1)) a2 (List.take 4 (List.drop 4 a0_3)))))] .true)])) else False) else False) else False) else False) else False) else False) else (bif a0_0 == 3 then (bif (↑a0_3n : Int) == 1 then ((decide (a1 > 0)) = false ∧ (bif a0_0 == 2 then (bif IntKind.u64.wrap a2 != 0 then (R (Ret.mk (.agg [(.v (.int .i64 2)), (.v (.int .i64 0)), (.v (.int .i64 (IntKind.i64.wrap ((IntKind.u64.wrap a0_2).tmod (IntKind.u64.wrap a2))))), (.v (.slice .none 0 0))]) [])) else False) else (R (Ret.mk (.agg [(.v (.int .i64 1)), (.v (.int .i64 (IntKind.i64.wrap ((IntKind.u64.wrap a0_1).tmod 2147483648)))), (.v (.int .i64 0)), (.v (.slice .none 0 0))]) [])))) else (bif a0_0 == 2 then (bif IntKind.u64.wrap a2 != 0 then (R (Ret.mk (.agg [(.v (.int .i64 2)), (.v (.int .i64 0)), (.v (.int .i64 (IntKind.i64.wrap ((IntKind.u64.wrap a0_2).tmod (IntKind.u64.wrap a2))))), (.v (.slice .none 0 0))]) [])) else False) else (R (Ret.mk (.agg [(.v (.int .i64 1)), (.v (.int .i64 (IntKind.i64.wrap ((IntKind.u64.wrap a0_1).tmod 2147483648)))), (.v (.int .i64 0)), (.v (.slice .none 0 0))]) [])))) else (bif a0_0 == 2 then (bif IntKind.u64.wrap a2 != 0 then (R (Ret.mk (.agg [(.v (.int .i64 2)), (.v (.int .i64 0)), (.v (.int .i64 (IntKind.i64.wrap ((IntKind.u64.wrap a0_2).tmod (IntKind.u64.wrap a2))))), (.v (.slice .none 0 0))]) [])) else False) else (R (Ret.mk (.agg [(.v (.int .i64 1)), (.v (.int .i64 (IntKind.i64.wrap ((IntKind.u64.wrap a0_1).tmod 2147483648)))), (.v (.int .i64 0)), (.v (.slice .none 0 0))]) []))))) else (bif a0_0 == 3 then (bif (↑a0_3n : Int) == 1 then (bif decide (a1 > 0) then (bif decide (0 < (↑a0_3n : Int)) && decide (0 < a0_3.length) then (bif decide (4 ≤ a0_3.length) then (bif (List.take 4 a0_3).all plainC && true && (okE DD (List.take 4 a0_3) && true && true && inB (IntKind.i64.wrap (a1 - 1)) && inB a2 && decide (0 < a2)) && true && true && true && true && true then (R (Ret.mk (.agg [(.v (.int .i64 3)), (.v (.int .i64 0)), (.v (.int .i64 0)), (.own 0 0)]) [(Tok.mk 93 4 1 [(.v (.int .i64 (kK (tameC DD (IntKind.i64.wrap (a1 - 1)) a2 (List.take 4 a0_3))))), (.v (.int .i64 (kV (tameC DD (IntKind.i64.wrap (a1 - 1)) a2 (List.take 4 a0_3))))), (.v (.int .i64 (kX (tameC DD (IntKind.i64.wrap (a1 - 1)) a2 (List.take 4 a0_3))))), (.sl (kN (tameC DD (IntKind.i64.wrap (a1 - 1)) a2 (List.take 4 a0_3))) (kL (tameC DD (IntKind.i64.wrap (a1 - 1)) a2 (List.take 4 a0_3))))] .true)])) else False) else False) else False) else (bif a0_0 == 2 then (bif IntKind.u64.wrap a2 != 0 then (R (Ret.mk (.agg [(.v (.int .i64 2)), (.v (.int .i64 0)), (.v (.int .i64 (IntKind.i64.wrap ((IntKind.u64.wrap a0_2).tmod (IntKind.u64.wrap a2))))), (.v (.slice .none 0 0))]) [])) else False) else (R (Ret.mk (.agg [(.v (.int .i64 1)), (.v (.int .i64 (IntKind.i64.wrap ((IntKind.u64.wrap a0_1).tmod 2147483648)))), (.v (.int .i64 0)), (.v (.slice .none 0 0))]) [])))) else (bif a0_0 == 2 then (bif IntKind.u64.wrap a2 != 0 then (R (Ret.mk (.agg [(.v (.int .i64 2)), (.v (.int .i64 0)), (.v (.int .i64 (IntKind.i64.wrap ((IntKind.u64.wrap a0_2).tmod (IntKind.u64.wrap a2))))), (.v (.slice .none 0 0))]) [])) else False) else (R (Ret.mk (.agg [(.v (.int .i64 1)), (.v (.int .i64 (IntKind.i64.wrap ((IntKind.u64.wrap a0_1).tmod 2147483648)))), (.v (.int .i64 0)), (.v (.slice .none 0 0))]) [])))) else (bif a0_0 == 2 then (bif IntKind.u64.wrap a2 != 0 then (R (Ret.mk (.agg [(.v (.int .i64 2)), (.v (.int .i64 0)), (.v (.int .i64 (IntKind.i64.wrap ((IntKind.u64.wrap a0_2).tmod (IntKind.u64.wrap a2))))), (.v (.slice .none 0 0))]) [])) else False) else (R (Ret.mk (.agg [(.v (.int .i64 1)), (.v (.int .i64 (IntKind.i64.wrap ((IntKind.u64.wrap a0_1).tmod 2147483648)))), (.v (.int .i64 0)), (.v (.slice .none 0 0))]) []))))) else (bif a0_0 == 3 then (bif (↑a0_3n : Int) == 1 then (bif decide (a1 > 0) then (bif decide (0 < (↑a0_3n : Int)) && decide (0 < a0_3.length) then (bif decide (4 ≤ a0_3.length) then (bif (List.take 4 a0_3).all plainC && true && (okE DD (List.take 4 a0_3) && true && true && inB (IntKind.i64.wrap (a1 - 1)) && inB a2 && decide (0 < a2)) && true && true && true && true && true then (R (Ret.mk (.agg [(.v (.int .i64 3)), (.v (.int .i64 0)), (.v (.int .i64 0)), (.own 0 0)]) [(Tok.mk 93 4 1 [(.v (.int .i64 (kK (tameC DD (IntKind.i64.wrap (a1 - 1)) a2 (List.take 4 a0_3))))), (.v (.int .i64 (kV (tameC DD (IntKind.i64.wrap (a1 - 1)) a2 (List.take 4 a0_3))))), (.v (.int .i64 (kX (tameC DD (IntKind.i64.wrap (a1 - 1)) a2 (List.take 4 a0_3))))), (.sl (kN (tameC DD (IntKind.i64.wrap (a1 - 1)) a2 (List.take 4 a0_3))) (kL (tameC DD (IntKind.i64.wrap (a1 - 1)) a2 (List.take 4 a0_3))))] .true)])) else False) else False) else False) else (bif a0_0 == 2 then (bif IntKind.u64.wrap a2 != 0 then (R (Ret.mk (.agg [(.v (.int .i64 2)), (.v (.int .i64 0)), (.v (.int .i64 (IntKind.i64.wrap ((IntKind.u64.wrap a0_2).tmod (IntKind.u64.wrap a2))))), (.v (.slice .none 0 0))]) [])) else False) else (R (Ret.mk (.agg [(.v (.int .i64 1)), (.v (.int .i64 (IntKind.i64.wrap ((IntKind.u64.wrap a0_1).tmod 2147483648)))), (.v (.int .i64 0)), (.v (.slice .none 0 0))]) [])))) else (bif a0_0 == 2 then (bif IntKind.u64.wrap a2 != 0 then (R (Ret.mk (.agg [(.v (.int .i64 2)), (.v (.int .i64 0)), (.v (.int .i64 (IntKind.i64.wrap ((IntKind.u64.wrap a0_2).tmod (IntKind.u64.wrap a2))))), (.v (.slice .none 0 0))]) [])) else False) else (R (Ret.mk (.agg [(.v (.int .i64 1)), (.v (.int .i64 (IntKind.i64.wrap ((IntKind.u64.wrap a0_1).tmod 2147483648)))), (.v (.int .i64 0)), (.v (.slice .none 0 0))]) [])))) else (bif a0_0 == 2 then (bif IntKind.u64.wrap a2 != 0 then (R (Ret.mk (.agg [(.v (.int .i64 2)), (.v (.int .i64 0)), (.v (.int .i64 (IntKind.i64.wrap ((IntKind.u64.wrap a0_2).tmod (IntKind.u64.wrap a2))))), (.v (.slice .none 0 0))]) [])) else False) else (R (Ret.mk (.agg [(.v (.int .i64 1)), (.v (.int .i64 (IntKind.i64.wrap ((IntKind.u64.wrap a0_1).tmod 2147483648)))), (.v (.int .i64 0)), (.v (.slice .none 0 0))]) []))))) else (bif a0_0 == 3 then (bif (↑a0_3n : Int) == 1 then (bif decide (a1 > 0) then (bif decide (0 < (↑a0_3n : Int)) && decide (0 < a0_3.length) then (bif decide (4 ≤ a0_3.length) then (bif (List.take 4 a0_3).all plainC && true && (okE DD (List.take 4 a0_3) && true && true && inB (IntKind.i64.wrap (a1 - 1)) && inB a2 && decide (0 < a2)) && true && true && true && true && true then (R (Ret.mk (.agg [(.v (.int .i64 3)), (.v (.int .i64 0)), (.v (.int .i64 0)), (.own 0 0)]) [(Tok.mk 93 4 1 [(.v (.int .i64 (kK (tameC DD (IntKind.i64.wrap (a1 - 1)) a2 (List.take 4 a0_3))))), (.v (.int .i64 (kV (tameC DD (IntKind.i64.wrap (a1 - 1)) a2 (List.take 4 a0_3))))), (.v (.int .i64 (kX (tameC DD (IntKind.i64.wrap (a1 - 1)) a2 (List.take 4 a0_3))))), (.sl (kN (tameC DD (IntKind.i64.wrap (a1 - 1)) a2 (List.take 4 a0_3))) (kL (tameC DD (IntKind.i64.wrap (a1 - 1)) a2 (List.take 4 a0_3))))] .true)])) else False) else False) else False) else (bif a0_0 == 2 then (bif IntKind.u64.wrap a2 != 0 then (R (Ret.mk (.agg [(.v (.int .i64 2)), (.v (.int .i64 0)), (.v (.int .i64 (IntKind.i64.wrap ((IntKind.u64.wrap a0_2).tmod (IntKind.u64.wrap a2))))), (.v (.slice .none 0 0))]) [])) else False) else (R (Ret.mk (.agg [(.v (.int .i64 1)), (.v (.int .i64 (IntKind.i64.wrap ((IntKind.u64.wrap a0_1).tmod 2147483648)))), (.v (.int .i64 0)), (.v (.slice .none 0 0))]) [])))) else (bif a0_0 == 2 then (bif IntKind.u64.wrap a2 != 0 then (R (Ret.mk (.agg [(.v (.int .i64 2)), (.v (.int .i64 0)), (.v (.int .i64 (IntKind.i64.wrap ((IntKind.u64.wrap a0_2).tmod (IntKind.u64.wrap a2))))), (.v (.slice .none 0 0))]) [])) else False) else (R (Ret.mk (.agg [(.v (.int .i64 1)), (.v (.int .i64 (IntKind.i64.wrap ((IntKind.u64.wrap a0_1).tmod 2147483648)))), (.v (.int .i64 0)), (.v (.slice .none 0 0))]) [])))) else (bif a0_0 == 2 then (bif IntKind.u64.wrap a2 != 0 then (R (Ret.mk (.agg [(.v (.int .i64 2)), (.v (.int .i64 0)), (.v (.int .i64 (IntKind.i64.wrap ((IntKind.u64.wrap a0_2).tmod (IntKind.u64.wrap a2))))), (.v (.slice .none 0 0))]) [])) else False) else (R (Ret.mk (.agg [(.v (.int .i64 1)), (.v (.int .i64 (IntKind.i64.wrap ((IntKind.u64.wrap a0_1).tmod 2147483648)))), (.v (.int .i64 0)), (.v (.slice .none 0 0))]) []))))) := by kernel_rfl

def f67_wp (DD : Nat) (a0_0 : Int) (a0_1 : Int) (a0_2 : Int) (a0_3n : Nat) (a0_3 : List Cell) (a1 : Int) (a2 : Int) (R : Ret → Prop) : Prop := bif decide (a0_0 ≥ 4) then (bif decide (a0_0 ≤ 8) then (bif (↑a0_3n : Int) == 2 then (bif decide (a1 > 0) then (bif decide (0 < (↑a0_3n : Int)) && decide (0 < a0_3.length) then (bif decide (4 ≤ a0_3.length) then (bif (List.take 4 a0_3).all plainC && true && (okE DD (List.take 4 a0_3) && true && true && inB (IntKind.i64.wrap (a1 - 1)) && inB a2 && decide (0 < a2)) && true && true && true && true && true then (bif decide (1 < (↑a0_3n : Int)) && decide (4 < a0_3.length) then (bif decide (8 ≤ a0_3.length) then (bif (List.take 4 (List.drop 4 a0_3)).all plainC && true && (okE DD (List.take 4 (List.drop 4 a0_3)) && true && true && inB (IntKind.i64.wrap (a1 - 1)) && inB a2 && decide (0 < a2)) && true && true && true && true && true then (R (Ret.mk (.agg [(.v (.int .i64 (a0_0))), (.v (.int .i64 0)), (.v (.int .i64 0)), (.own 0 0)]) [(Tok.mk 93 4 2 [(.v (.int .i64 (kK (tameC DD (IntKind.i64.wrap (a1 - 1)) a2 (List.take 4 a0_3))))), (.v (.int .i64 (kV (tameC DD (IntKind.i64.wrap (a1 - 1)) a2 (List.take 4 a0_3))))), (.v (.int .i64 (kX (tameC DD (IntKind.i64.wrap (a1 - 1)) a2 (List.take 4 a0_3))))), (.sl (kN (tameC DD (IntKind.i64.wrap (a1 - 1)) a2 (List.take 4 a0_3))) (kL (tameC DD (IntKind.i64.wrap (a1 - 1)) a2 (List.take 4 a0_3)))), (.v (.int .i64 (kK (tameC DD (IntKind.i64.wrap (a1 - 1)) a2 (List.take 4 (List.drop 4 a0_3)))))), (.v (.int .i64 (kV (tameC DD (IntKind.i64.wrap (a1 - 1)) a2 (List.take 4 (List.drop 4 a0_3)))))), (.v (.int .i64 (kX (tameC DD (IntKind.i64.wrap (a1 - 1)) a2 (List.take 4 (List.drop 4 a0_3)))))), (.sl (kN (tameC DD (IntKind.i64.wrap (a1 - 1)) a2 (List.take 4 (List.drop 4 a0_3)))) (kL (tameC DD (IntKind.i64.wrap (a1 - 1)) a2 (List.take 4 (List.drop 4 a0_3)))))] .true)])) else False) else False) else False) else False) else False) else False) else (bif a0_0 == 3 then (bif (↑a0_3n : Int) == 1 then (bif a0_0 == 2 then (bif IntKind.u64.wrap a2 != 0 then (R (Ret.mk (.agg [(.v (.int .i64 2)), (.v (.int .i64 0)), (.v (.int .i64 (IntKind.i64.wrap ((IntKind.u64.wrap a0_2).tmod (IntKind.u64.wrap a2))))), (.v (.slice .none 0 0))]) [])) else False) else (R (Ret.mk (.agg [(.v (.int .i64 1)), (.v (.int .i64 (IntKind.i64.wrap ((IntKind.u64.wrap a0_1).tmod 2147483648)))), (.v (.int .i64 0)), (.v (.slice .none 0 0))]) []))) else (bif a0_0 == 2 then (bif IntKind.u64.wrap a2 != 0 then (R (Ret.mk (.agg [(.v (.int .i64 2)), (.v (.int .i64 0)), (.v (.int .i64 (IntKind.i64.wrap ((IntKind.u64.wrap a0_2).tmod (IntKind.u64.wrap a2))))), (.v (.slice .none 0 0))]) [])) else False) else (R (Ret.mk (.agg [(.v (.int .i64 1)), (.v (.int .i64 (IntKind.i64.wrap ((IntKind.u64.wrap a0_1).tmod 2147483648)))), (.v (.int .i64 0)), (.v (.slice .none 0 0))]) [])))) else (bif a0_0 == 2 then (bif IntKind.u64.wrap a2 != 0 then (R (Ret.mk (.agg [(.v (.int .i64 2)), (.v (.int .i64 0)), (.v (.int .i64 (IntKind.i64.wrap ((IntKind.u64.wrap a0_2).tmod (IntKind.u64.wrap a2))))), (.v (.slice .none 0 0))]) [])) else False) else (R (Ret.mk (.agg [(.v (.int .i64 1)), (.v (.int .i64 (IntKind.i64.wrap ((IntKind.u64.wrap a0_1).tmod 2147483648)))), (.v (.int .i64 0)), (.v (.slice .none 0 0))]) []))))) else (bif a0_0 == 3 then (bif (↑a0_3n : Int) == 1 then (bif decide (a1 > 0) then (bif decide (0 < (↑a0_3n : Int)) && decide (0 < a0_3.length) then (bif decide (4 ≤ a0_3.length) then (bif (List.take 4 a0_3).all plainC && true && (okE DD (List.take 4 a0_3) && true && true && inB (IntKind.i64.wrap (a1 - 1)) && inB a2 && decide (0 < a2)) && true && true && true && true && true then (R (Ret.mk (.agg [(.v (.int .i64 3)), (.v (.int .i64 0)), (.v (.int .i64 0)), (.own 0 0)]) [(Tok.mk 93 4 1 [(.v (.int .i64 (kK (tameC DD (IntKind.i64.wrap (a1 - 1)) a2 (List.take 4 a0_3))))), (.v (.int .i64 (kV (tameC DD (IntKind.i64.wrap (a1 - 1)) a2 (List.take 4 a0_3))))), (.v (.int .i64 (kX (tameC DD (IntKind.i64.wrap (a1 - 1)) a2 (List.take 4 a0_3))))), (.sl (kN (tameC DD (IntKind.i64.wrap (a1 - 1)) a2 (List.take 4 a0_3))) (kL (tameC DD (IntKind.i64.wrap (a1 - 1)) a2 (List.take 4 a0_3))))] .true)])) else False) else False) else False) else (bif a0_0 == 2 then (bif IntKind.u64.wrap a2 != 0 then (R (Ret.mk (.agg [(.v (.int .i64 2)), (.v (.int .i64 0)), (.v (.int .i64 (IntKind.i64.wrap ((IntKind.u64.wrap a0_2).tmod (IntKind.u64.wrap a2))))), (.v (.slice .none 0 0))]) [])) else False) else (R (Ret.mk (.agg [(.v (.int .i64 1)), (.v (.int .i64 (IntKind.i64.wrap ((IntKind.u64.wrap a0_1).tmod 2147483648)))), (.v (.int .i64 0)), (.v (.slice .none 0 0))]) [])))) else (bif a0_0 == 2 then (bif IntKind.u64.wrap a2 != 0 then (R (Ret.mk (.agg [(.v (.int .i64 2)), (.v (.int .i64 0)), (.v (.int .i64 (IntKind.i64.wrap ((IntKind.u64.wrap a0_2).tmod (IntKind.u64.wrap a2))))), (.v (.slice .none 0 0))]) [])) else False) else (R (Ret.mk (.agg [(.v (.int .i64 1)), (.v (.int .i64 (IntKind.i64.wrap ((IntKind.u64.wrap a0_1).tmod 2147483648)))), (.v (.int .i64 0)), (.v (.slice .none 0 0))]) [])))) else (bif a0_0 == 2 then (bif IntKind.u64.wrap a2 != 0 then (R (Ret.mk (.agg [(.v (.int .i64 2)), (.v (.int .i64 0)), (.v (.int .i64 (IntKind.i64.wrap ((IntKind.u64.wrap a0_2).tmod (IntKind.u64.wrap a2))))), (.v (.slice .none 0 0))]) [])) else False) else (R (Ret.mk (.agg [(.v (.int .i64 1)), (.v (.int .i64 (IntKind.i64.wrap ((IntKind.u64.wrap a0_1).tmod 2147483648)))), (.v (.int .i64 0)), (.v (.slice .none 0 0))]) []))))) else (bif a0_0 == 3 then (bif (↑a0_3n : Int) == 1 then (bif decide (a1 > 0) then (bif decide (0 < (↑a0_3n : Int)) && decide (0 < a0_3.length) then (bif decide (4 ≤ a0_3.length) then (bif (List.take 4 a0_3).all plainC && true && (okE DD (List.take 4 a0_3) && true && true && inB (IntKind.i64.wrap (a1 - 1)) && inB a2 && decide (0 < a2)) && true && true && true && true && true then (R (Ret.mk (.agg [(.v (.int .i64 3)), (.v (.int .i64 0)), (.v (.int .i64 0)), (.own 0 0)]) [(Tok.mk 93 4 1 [(.v (.int .i64 (kK (tameC DD (IntKind.i64.wrap (a1 - 1)) a2 (List.take 4 a0_3))))), (.v (.int .i64 (kV (tameC DD (IntKind.i64.wrap (a1 - 1)) a2 (List.take 4 a0_3))))), (.v (.int .i64 (kX (tameC DD (IntKind.i64.wrap (a1 - 1)) a2 (List.take 4 a0_3))))), (.sl (kN (tameC DD (IntKind.i64.wrap (a1 - 1)) a2 (List.take 4 a0_3))) (kL (tameC DD (IntKind.i64.wrap (a1 - 1)) a2 (List.take 4 a0_3))))] .true)])) else False) else False) else False) else (bif a0_0 == 2 then (bif IntKind.u64.wrap a2 != 0 then (R (Ret.mk (.agg [(.v (.int .i64 2)), (.v (.int .i64 0)), (.v (.int .i64 (IntKind.i64.wrap ((IntKind.u64.wrap a0_2).tmod (IntKind.u64.wrap a2))))), (.v (.slice .none 0 0))]) [])) else False) else (R (Ret.mk (.agg [(.v (.int .i64 1)), (.v (.int .i64 (IntKind.i64.wrap ((IntKind.u64.wrap a0_1).tmod 2147483648)))), (.v (.int .i64 0)), (.v (.slice .none 0 0))]) [])))) else (bif a0_0 == 2 then (bif IntKind.u64.wrap a2 != 0 then (R (Ret.mk (.agg [(.v (.int .i64 2)), (.v (.int .i64 0)), (.v (.int .i64 (IntKind.i64.wrap ((IntKind.u64.wrap a0_2).tmod (IntKind.u64.wrap a2))))), (.v (.slice .none 0 0))]) [])) else False) else (R (Ret.mk (.agg [(.v (.int .i64 1)), (.v (.int .i64 (IntKind.i64.wrap ((IntKind.u64.wrap a0_1).tmod 2147483648)))), (.v (.int .i64 0)), (.v (.slice .none 0 0))]) [])))) else (bif a0_0 == 2 then (bif IntKind.u64.wrap a2 != 0 then (R (Ret.mk (.agg [(.v (.int .i64 2)), (.v (.int .i64 0)), (.v (.int .i64 (IntKind.i64.wrap ((IntKind.u64.wrap a0_2).tmod (IntKind.u64.wrap a2))))), (.v (.slice .none 0 0))]) [])) else False) else (R (Ret.mk (.agg [(.v (.int .i64 1)), (.v (.int .i64 (IntKind.i64.wrap ((IntKind.u64.wrap a0_1).tmod 2147483648)))), (.v (.int .i64 0)), (.v (.slice .none 0 0))]) []))))) else (bif a0_0 == 3 then (bif (↑a0_3n : Int) == 1 then (bif decide (a1 > 0) then (bif decide (0 < (↑a0_3n : Int)) && decide (0 < a0_3.length) then (bif decide (4 ≤ a0_3.length) then (bif (List.take 4 a0_3).all plainC && true && (okE DD (List.take 4 a0_3) && true && true && inB (IntKind.i64.wrap (a1 - 1)) && inB a2 && decide (0 < a2)) && true && true && true && true && true then (R (Ret.mk (.agg [(.v (.int .i64 3)), (.v (.int .i64 0)), (.v (.int .i64 0)), (.own 0 0)]) [(Tok.mk 93 4 1 [(.v (.int .i64 (kK (tameC DD (IntKind.i64.wrap (a1 - 1)) a2 (List.take 4 a0_3))))), (.v (.int .i64 (kV (tameC DD (IntKind.i64.wrap (a1 - 1)) a2 (List.take 4 a0_3))))), (.v (.int .i64 (kX (tameC DD (IntKind.i64.wrap (a1 - 1)) a2 (List.take 4 a0_3))))), (.sl (kN (tameC DD (IntKind.i64.wrap (a1 - 1)) a2 (List.take 4 a0_3))) (kL (tameC DD (IntKind.i64.wrap (a1 - 1)) a2 (List.take 4 a0_3))))] .true)])) else False) else False) else False) else (bif a0_0 == 2 then (bif IntKind.u64.wrap a2 != 0 then (R (Ret.mk (.agg [(.v (.int .i64 2)), (.v (.int .i64 0)), (.v (.int .i64 (IntKind.i64.wrap ((IntKind.u64.wrap a0_2).tmod (IntKind.u64.wrap a2))))), (.v (.slice .none 0 0))]) [])) else False) else (R (Ret.mk (.agg [(.v (.int .i64 1)), (.v (.int .i64 (IntKind.i64.wrap ((IntKind.u64.wrap a0_1).tmod 2147483648)))), (.v (.int .i64 0)), (.v (.slice .none 0 0))]) [])))) else (bif a0_0 == 2 then (bif IntKind.u64.wrap a2 != 0 then (R (Ret.mk (.agg [(.v (.int .i64 2)), (.v (.int .i64 0)), (.v (.int .i64 (IntKind.i64.wrap ((IntKind.u64.wrap a0_2).tmod (IntKind.u64.wrap a2))))), (.v (.slice .none 0 0))]) [])) else False) else (R (Ret.mk (.agg [(.v (.int .i64 1)), (.v (.int .i64 (IntKind.i64.wrap ((IntKind.u64.wrap a0_1).tmod 2147483648)))), (.v (.int .i64 0)), (.v (.slice .none 0 0))]) [])))) else (bif a0_0 == 2 then (bif IntKind.u64.wrap a2 != 0 then (R (Ret.mk (.agg [(.v (.int .i64 2)), (.v (.int .i64 0)), (.v (.int .i64 (IntKind.i64.wrap ((IntKind.u64.wrap a0_2).tmod (IntKind.u64.wrap a2))))), (.v (.slice .none 0 0))]) [])) else False) else (R (Ret.mk (.agg [(.v (.int .i64 1)), (.v (.int .i64 (IntKind.i64.wrap ((IntKind.u64.wrap a0_1).tmod 2147483648)))), (.v (.int .i64 0)), (.v (.slice .none 0 0))]) []))))

set_option maxRecDepth 100000 in
theorem f67_sound (DD : Nat) (a0_0 : Int) (a0_1 : Int) (a0_2 : Int) (a0_3n : Nat) (a0_3 : List Cell) (a1 : Int) (a2 : Int) (hC : CtxOk Try.prog (cx67 DD).q.ctx) {r : Ret} (h : f67_wp DD a0_0 a0_1 a0_2 a0_3n a0_3 a1 a2 (fun r' => r' = r)) : SoundAt Try.prog 67 [(.agg [(.v (.int .i64 a0_0)), (.v (.int .i64 a0_1)), (.v (.int .i64 a0_2)), (.sl a0_3n a0_3)]), (.one (.v (.int .i64 a1))), (.one (.v (.int .i64 a2)))] r := by
  refine soundAtO (C := (cx67 DD)) (oc := (.two (.n 1 (.two (.n 2 (.two (.n 0 (.two .e (.two (.n 2 (.two (.n 0 (.b false (.two .e .e))) (.n 1 (.two .e .e)))) (.n 5 (.two .e .e))))) (.n 1 (.two (.n 2 (.two (.n 0 (.two .e (.two .e .e))) (.n 1 (.two .e .e)))) (.n 5 (.two .e .e)))))) (.n 5 (.two (.n 2 (.two (.n 0 (.two .e (.two .e .e))) (.n 1 (.two .e .e)))) (.n 5 (.two .e .e)))))) (.n 8 (.two (.n 2 (.two (.n 0 (.two .e (.two .e .e))) (.n 1 (.two .e .e)))) (.n 5 (.two .e .e)))))) mixed hC F67_ok ?_
  rewrite [E67 DD a0_0 a0_1 a0_2 a0_3n a0_3 a1 a2]
  unfold f67_wp at h
  refine cond_mapE h (fun q1 h => ?_) (fun q1 h => ?_)
  · skip
    refine cond_mapE h (fun q2 h => ?_) (fun q2 h => ?_)
    · skip
      refine cond_mapE h (fun q3 h => ?_) (fun q3 h => ?_)
      · skip
        refine cond_mapE h (fun q4 h => ?_) (fun q4 h => ?_)
        · skip
          refine ck_mapE h (fun q5 h => ck_mapE h (fun q6 h => ck_mapE h (fun q7 h => ck_mapE h (fun q8 h => ck_mapE h (fun q9 h => ck_mapE h (fun q10 h => ?_))))))
          exact h
        · skip
          refine cond_mapE h (fun q11 h => ?_) (fun q11 h => ?_)
          · skip
            refine cond_mapE h (fun q12 h => ?_) (fun q12 h => ?_)
            · skip
              refine ⟨q4, ?_⟩
              refine cond_mapE h (fun q13 h => ?_) (fun q13 h => ?_)
              · skip
                refine ck_mapE h (fun q14 h => ?_)
                exact h
              · skip
                exact h
            · skip
              refine cond_mapE h (fun q15 h => ?_) (fun q15 h => ?_)
              · skip
                refine ck_mapE h (fun q16 h => ?_)
                exact h
              · skip
                exact h
          · skip
            refine cond_mapE h (fun q17 h => ?_) (fun q17 h => ?_)
            · skip
              refine ck_mapE h (fun q18 h => ?_)
              exact h
            · skip
              exact h
      · skip
        refine cond_mapE h (fun q19 h => ?_) (fun q19 h => ?_)
        · skip
          refine cond_mapE h (fun q20 h => ?_) (fun q20 h => ?_)
          · skip
            refine cond_mapE h (fun q21 h => ?_) (fun q21 h => ?_)
            · skip
              refine ck_mapE h (fun q22 h => ck_mapE h (fun q23 h => ck_mapE h (fun q24 h => ?_)))
              exact h
            · skip
              refine cond_mapE h (fun q25 h => ?_) (fun q25 h => ?_)
              · skip
                refine ck_mapE h (fun q26 h => ?_)
                exact h
              · skip
                exact h
          · skip
            refine cond_mapE h (fun q27 h => ?_) (fun q27 h => ?_)
            · skip
              refine ck_mapE h (fun q28 h => ?_)
              exact h
            · skip
              exact h
        · skip
          refine cond_mapE h (fun q29 h => ?_) (fun q29 h => ?_)
          · skip
            refine ck_mapE h (fun q30 h => ?_)
            exact h
          · skip
            exact h
    · skip
      refine cond_mapE h (fun q31 h => ?_) (fun q31 h => ?_)
      · skip
        refine cond_mapE h (fun q32 h => ?_) (fun q32 h => ?_)
        · skip
          refine cond_mapE h (fun q33 h => ?_) (fun q33 h => ?_)
          · skip
            refine ck_mapE h (fun q34 h => ck_mapE h (fun q35 h => ck_mapE h (fun q36 h => ?_)))
            exact h
          · skip
            refine cond_mapE h (fun q37 h => ?_) (fun q37 h => ?_)
            · skip
              refine ck_mapE h (fun q38 h => ?_)
              exact h
            · skip
              exact h
        · skip
          refine cond_mapE h (fun q39 h => ?_) (fun q39 h => ?_)
          · skip
            refine ck_mapE h (fun q40 h => ?_)
            exact h
          · skip
            exact h
      · skip
        refine cond_mapE h (fun q41 h => ?_) (fun q41 h => ?_)
        · skip
          refine ck_mapE h (fun q42 h => ?_)
          exact h
        · skip
          exact h
  · skip
    refine cond_mapE h (fun q43 h => ?_) (fun q43 h => ?_)
    · skip
      refine cond_mapE h (fun q44 h => ?_) (fun q44 h => ?_)
      · skip
        refine cond_mapE h (fun q45 h => ?_) (fun q45 h => ?_)
        · skip
          refine ck_mapE h (fun q46 h => ck_mapE h (fun q47 h => ck_mapE h (fun q48 h => ?_)))
          exact h
        · skip
          refine cond_mapE h (fun q49 h => ?_) (fun q49 h => ?_)
          · skip
            refine ck_mapE h (fun q50 h => ?_)
            exact h
          · skip
            exact h
      · skip
        refine cond_mapE h (fun q51 h => ?_) (fun q51 h => ?_)
        · skip
          refine ck_mapE h (fun q52 h => ?_)
          exact h
        · skip
          exact h
    · skip
      refine cond_mapE h (fun q53 h => ?_) (fun q53 h => ?_)
      · skip
        refine ck_mapE h (fun q54 h => ?_)
        exact h
      · skip
        exact h


def cx69 (DD : Nat) : CtxW := ⟨⟨[(69, sum69 DD)], []⟩, 16, []⟩


def F69_b0 : SC := (.seq (.seq (.reg [(o1 12 (.mv (.t 4))), (o1 13 (.fld 3 (.t 1))), (o1 14 (.load .false .false 1 [] (.t 13))), (o1 15 (.len (.t 14))), (o1 16 (.bin .lss (.t 12) (.t 15)))]) (.cond (.t 16) .skip (.exit 0))) (.seq (.blk 1 (.reg [(o1 19 (.fld 3 (.t 3))), (o1 20 (.load .false .false 1 [] (.t 19))), (o1 21 (.fld 3 (.t 1))), (o1 22 (.load .false .false 1 [] (.t 21))), (o1 23 (.mv (.t 4))), (o1 24 (.ixS 4 (.t 22) (.t 23))), (o1 25 (.load .true .true 4 [] (.t 24))), (o1 26 (.call .false .false (.f 69) [(.t 25)])), (o1 27 (.buildS 99 4 1 [(.int .i64 0), (.int .i64 0), (.int .i64 0), (.slice .none 0 0)] [(0, (.t 26))])), (o1 28 (.app 99 4 48 [(.int .i64 0), (.int .i64 0), (.int .i64 0), (.slice .none 0 0)] (.t 20) (.t 27))), (o1 29 (.fld 3 (.t 3))), (oN (.store .false 1 (.t 29) (.t 28)))])) (.reg [(o1 17 (.mv (.t 4))), (o1 18 (.bin .add (.t 17) (.c (.int .i64 1)))), (o1 4 (.mv (.t 18)))])))

def F69_c1 : SC := (.seq (.reg [(o1 30 (.load .false .true 4 [] (.t 3))), (oN (.store .false 4 (.t 2) (.t 30)))]) .ret)

def F69 : SFn := ⟨31, [(.cell 2 .true 4)], (.seq (.reg [(o1 1 (.box (.t 0))), (o1 2 (.alloc [(.int .i64 0), (.int .i64 0), (.int .i64 0), (.slice .none 0 0)]))]) (.seq (.reg [(o1 5 (.fld 0 (.t 1))), (o1 6 (.load .false .false 1 [(.some .i64)] (.t 5))), (o1 7 (.fld 1 (.t 1))), (o1 8 (.load .false .false 1 [(.some .i64)] (.t 7))), (o1 9 (.fld 2 (.t 1))), (o1 10 (.load .false .false 1 [(.some .i64)] (.t 9))), (o1 11 (.build [(.int .i64 0), (.int .i64 0), (.int .i64 0), (.slice .none 0 0)] [(0, (1, (.t 6))), (1, (1, (.t 8))), (2, (1, (.t 10)))])), (o1 3 (.alloc [(.int .i64 0), (.int .i64 0), (.int .i64 0), (.slice .none 0 0)])), (oN (.store .false 4 (.t 3) (.t 11)))]) (.seq (.seq (.reg [(o1 4 (.mv (.c (.int .i64 0))))]) (.blk 0 (.loop [1, 2, 3, 4] [1, 2, 3] [28] F69_b0))) F69_c1)))⟩

theorem F69_ok : sfn Try.prog hintsN 69 [([1, 2, 3, 4], ([1, 2, 3], [28]))] = some F69 := by kernel_rfl

def I69_0_0 (DD : Nat) (a0_0 : Int) (a0_1 : Int) (a0_2 : Int) (a0_3n : Nat) (a0_3 : List Cell) : St := (.mk (.no :: ((.box 1 0 0) :: ((.box 2 0 0) :: ((.box 3 0 0) :: ((.one (.v (.int .i64 0))) :: (n10 (n10 (.no :: (.no :: (.no :: (.no :: (.no :: (.no :: []))))))))))))) ([] :: ([[(vi a0_0), (vi a0_1), (vi a0_2), (.sl (a0_3n) (a0_3))]] :: ([[(.v (.int .i64 0)), (.v (.int .i64 0)), (.v (.int .i64 0)), (.v (.slice .none 0 0))]] :: ([[(vi a0_0), (vi a0_1), (vi a0_2), (.v (.slice .none 0 0))]] :: (e10 (e10 ([] :: ([] :: ([] :: ([] :: ([] :: ([] :: ([] :: []))))))))))))) (e10 (e10 (e10 ([] :: [])))))

def I69_0_1 (DD : Nat) (a0_0 : Int) (a0_1 : Int) (a0_2 : Int) (a0_3n : Nat) (a0_3 : List Cell) (y0m1_0 : Int) (y0m1_1 : Nat) (y0m1_2 : List Cell) : St := (.mk (.no :: ((.box 1 0 0) :: ((.box 2 0 0) :: ((.box 3 0 0) :: ((.one (vi y0m1_0)) :: (n10 (n10 (.no :: (.no :: (.no :: (.no :: (.no :: (.no :: []))))))))))))) ([] :: ([[(vi a0_0), (vi a0_1), (vi a0_2), (.sl (a0_3n) (a0_3))]] :: ([[(.v (.int .i64 0)), (.v (.int .i64 0)), (.v (.int .i64 0)), (.v (.slice .none 0 0))]] :: ([[(vi a0_0), (vi a0_1), (vi a0_2), (.own 28 0)]] :: (e10 (e10 ([] :: ([] :: ([] :: ([] :: ([] :: ([] :: ([] :: []))))))))))))) (e10 (e10 ([] :: ([] :: ([] :: ([] :: ([] :: ([] :: ([] :: ([] :: ([(Tok.mk 99 4 (y0m1_1) (y0m1_2) .true)] :: ([] :: ([] :: []))))))))))))))

theorem E69_0_0 (DD : Nat) (a0_0 : Int) (a0_1 : Int) (a0_2 : Int) (a0_3n : Nat) (a0_3 : List Cell) (N0 : Bool × St → Prop) (R : Ret → Prop) : wpO (cx69 DD) F69_b0 (.two .e .e) (I69_0_0 DD a0_0 a0_1 a0_2 a0_3n a0_3) (kLp (headW (cx69 DD).m [1, 2, 3, 4] [1, 2, 3] [28]) N0 (kBlk 0 (kSeq (cx69 DD) F69_c1 (endO (cx69 DD).m F69.rs R)))) = (bif decide (0 < (↑a0_3n : Int)) then (bif decide (0 < (↑a0_3n : Int)) && decide (0 < a0_3.length) then (bif decide (4 ≤ a0_3.length) then (bif (List.take 4 a0_3).all plainC && true && (okE DD (List.take 4 a0_3) && okB DD (List.take 4 a0_3)) && true && true && true && true && true then (N0 (true, (I69_0_1 DD a0_0 a0_1 a0_2 a0_3n a0_3 1 1 ([Cell.v (Value.int .i64 (kK (List.take 4 a0_3))), Cell.v (Value.int .i64 (kV (List.take 4 a0_3))), Cell.v (Value.int .i64 (kX (List.take 4 a0_3))), Cell.sl (kN (List.take 4 a0_3)) (kL (List.take 4 a0_3))])))) else False) else False) else False) else (R (Ret.mk (.agg [(.v (.int .i64 (a0_0))), (.v (.int .i64 (a0_1))), (.v (.int .i64 (a0_2))), (.v (.slice .none 0 0))]) []))) := by kernel_rfl

theorem E69_0_1 (DD : Nat) (a0_0 : Int) (a0_1 : Int) (a0_2 : Int) (a0_3n : Nat) (a0_3 : List Cell) (y0m1_0 : Int) (y0m1_1 : Nat) (y0m1_2 : List Cell) (N0 : Bool × St → Prop) (R : Ret → Prop) : wpO (cx69 DD) F69_b0 (.two .e .e) (I69_0_1 DD a0_0 a0_1 a0_2 a0_3n a0_3 y0m1_0 y0m1_1 y0m1_2) (kLp (headW (cx69 DD).m [1, 2, 3, 4] [1, 2, 3] [28]) N0 (kBlk 0 (kSeq (cx69 DD) F69_c1 (endO (cx69 DD).m F69.rs R)))) = (bif decide (y0m1_0 < (↑a0_3n : Int)) then (bif decide (0 ≤ y0m1_0) && decide (y0m1_0 < (↑a0_3n : Int)) && decide (y0m1_0.toNat * 4 < a0_3.length) then (bif decide (y0m1_0.toNat * 4 + 4 ≤ a0_3.length) then (bif (List.take 4 (List.drop (y0m1_0.toNat * 4) a0_3)).all plainC && true && (okE DD (List.take 4 (List.drop (y0m1_0.toNat * 4) a0_3)) && okB DD (List.take 4 (List.drop (y0m1_0.toNat * 4) a0_3))) && true && true && true && true && true then (bif decide ((y0m1_1 + 1) * 48 ≤ 140737488355328) && true && true && true && true && true then (N0 (true, (I69_0_1 DD a0_0 a0_1 a0_2 a0_3n a0_3 (IntKind.i64.wrap (y0m1_0 + 1)) (y0m1_1 + 1) (y0m1_2 ++ [Cell.v (Value.int .i64 (kK (List.take 4 (List.drop (y0m1_0.toNat * 4) a0_3)))), Cell.v (Value.int .i64 (kV (List.take 4 (List.drop (y0m1_0.toNat * 4) a0_3)))), Cell.v (Value.int .i64 (kX (List.take 4 (List.drop (y0m1_0.toNat * 4) a0_3)))), Cell.sl (kN (List.take 4 (List.drop (y0m1_0.toNat * 4) a0_3))) (kL (List.take 4 (List.drop (y0m1_0.toNat * 4) a0_3)))])))) else False) else False) else False) else False) else (R (Ret.mk (.agg [(.v (.int .i64 (a0_0))), (.v (.int .i64 (a0_1))), (.v (.int .i64 (a0_2))), (.own 0 0)]) [(Tok.mk 99 4 (y0m1_1) (y0m1_2) .true)]))) := by kernel_rfl

theorem E69 (DD : Nat) (a0_0 : Int) (a0_1 : Int) (a0_2 : Int) (a0_3n : Nat) (a0_3 : List Cell) (R : Ret → Prop) : wpFO (cx69 DD) F69 .e [(.agg [(.v (.int .i64 a0_0)), (.v (.int .i64 a0_1)), (.v (.int .i64 a0_2)), (.sl a0_3n a0_3)])] R = (LoopO (bodyX (cx69 DD) F69_b0) (headW (cx69 DD).m [1, 2, 3, 4] [1, 2, 3] [28]) (kBlk 0 (kSeq (cx69 DD) F69_c1 (endO (cx69 DD).m F69.rs R))) (true, (I69_0_0 DD a0_0 a0_1 a0_2 a0_3n a0_3))) := by kernel_rfl

def f69_wp (DD : Nat) (a0_0 : Int) (a0_1 : Int) (a0_2 : Int) (a0_3n : Nat) (a0_3 : List Cell) (R : Ret → Prop) : Prop := LoopP (fun (z0 : (Unit) ⊕ (Int × Nat × (List Cell))) (k0 : (Unit) ⊕ (Int × Nat × (List Cell)) → Prop) => (sumE (fun (_ : Unit) => bif decide (0 < (↑a0_3n : Int)) then (bif decide (0 < (↑a0_3n : Int)) && decide (0 < a0_3.length) then (bif decide (4 ≤ a0_3.length) then (bif (List.take 4 a0_3).all plainC && true && (okE DD (List.take 4 a0_3) && okB DD (List.take 4 a0_3)) && true && true && true && true && true then (k0 (Sum.inr (1, 1, ([Cell.v (Value.int .i64 (kK (List.take 4 a0_3))), Cell.v (Value.int .i64 (kV (List.take 4 a0_3))), Cell.v (Value.int .i64 (kX (List.take 4 a0_3))), Cell.sl (kN (List.take 4 a0_3)) (kL (List.take 4 a0_3))])))) else False) else False) else False) else (R (Ret.mk (.agg [(.v (.int .i64 (a0_0))), (.v (.int .i64 (a0_1))), (.v (.int .i64 (a0_2))), (.v (.slice .none 0 0))]) []))) (fun (z : Int × Nat × (List Cell)) => (fun (y0m1_0 : Int) (y0m1_1 : Nat) (y0m1_2 : List Cell) => bif decide (y0m1_0 < (↑a0_3n : Int)) then (bif decide (0 ≤ y0m1_0) && decide (y0m1_0 < (↑a0_3n : Int)) && decide (y0m1_0.toNat * 4 < a0_3.length) then (bif decide (y0m1_0.toNat * 4 + 4 ≤ a0_3.length) then (bif (List.take 4 (List.drop (y0m1_0.toNat * 4) a0_3)).all plainC && true && (okE DD (List.take 4 (List.drop (y0m1_0.toNat * 4) a0_3)) && okB DD (List.take 4 (List.drop (y0m1_0.toNat * 4) a0_3))) && true && true && true && true && true then (bif decide ((y0m1_1 + 1) * 48 ≤ 140737488355328) && true && true && true && true && true then (k0 (Sum.inr ((IntKind.i64.wrap (y0m1_0 + 1)), (y0m1_1 + 1), (y0m1_2 ++ [Cell.v (Value.int .i64 (kK (List.take 4 (List.drop (y0m1_0.toNat * 4) a0_3)))), Cell.v (Value.int .i64 (kV (List.take 4 (List.drop (y0m1_0.toNat * 4) a0_3)))), Cell.v (Value.int .i64 (kX (List.take 4 (List.drop (y0m1_0.toNat * 4) a0_3)))), Cell.sl (kN (List.take 4 (List.drop (y0m1_0.toNat * 4) a0_3))) (kL (List.take 4 (List.drop (y0m1_0.toNat * 4) a0_3)))])))) else False) else False) else False) else False) else (R (Ret.mk (.agg [(.v (.int .i64 (a0_0))), (.v (.int .i64 (a0_1))), (.v (.int .i64 (a0_2))), (.own 0 0)]) [(Tok.mk 99 4 (y0m1_1) (y0m1_2) .true)]))) z.1 z.2.1 z.2.2)) z0) (Sum.inl ())

set_option maxRecDepth 100000 in
theorem f69_sound (DD : Nat) (a0_0 : Int) (a0_1 : Int) (a0_2 : Int) (a0_3n : Nat) (a0_3 : List Cell) (hC : CtxOk Try.prog (cx69 DD).q.ctx) {r : Ret} (h : f69_wp DD a0_0 a0_1 a0_2 a0_3n a0_3 (fun r' => r' = r)) : SoundAt Try.prog 69 [(.agg [(.v (.int .i64 a0_0)), (.v (.int .i64 a0_1)), (.v (.int .i64 a0_2)), (.sl a0_3n a0_3)])] r := by
  refine soundAtO (C := (cx69 DD)) (oc := .e) mixed hC F69_ok ?_
  rewrite [E69 DD a0_0 a0_1 a0_2 a0_3n a0_3]
  unfold f69_wp at h
  refine loop_of (I := (sumE (fun (z : Unit) => (I69_0_0 DD a0_0 a0_1 a0_2 a0_3n a0_3)) (fun (z : Int × Nat × (List Cell)) => (I69_0_1 DD a0_0 a0_1 a0_2 a0_3n a0_3 z.1 z.2.1 z.2.2)))) (fun z k0 h => ?_) h rfl rfl
  rcases z with z | z
  · skip
    skip
    try dsimp only [sumE_l, sumE_r] at h
    refine bodyX_i (ob := (.two .e .e)) ?_
    try dsimp only [sumE_l, sumE_r]
    rewrite [E69_0_0 DD a0_0 a0_1 a0_2 a0_3n a0_3 ]
    refine cond_mapE h (fun q18 h => ?_) (fun q18 h => ?_)
    · skip
      refine ck_mapE h (fun q19 h => ck_mapE h (fun q20 h => ck_mapE h (fun q21 h => ?_)))
      exact again_i (y := (Sum.inr (1, 1, ([Cell.v (Value.int .i64 (kK (List.take 4 a0_3))), Cell.v (Value.int .i64 (kV (List.take 4 a0_3))), Cell.v (Value.int .i64 (kX (List.take 4 a0_3))), Cell.sl (kN (List.take 4 a0_3)) (kL (List.take 4 a0_3))])))) rfl h
    · skip
      exact h
  · skip
    obtain ⟨y0m1_0, y0m1_1, y0m1_2⟩ := z
    try dsimp only [sumE_l, sumE_r] at h
    refine bodyX_i (ob := (.two .e .e)) ?_
    try dsimp only [sumE_l, sumE_r]
    rewrite [E69_0_1 DD a0_0 a0_1 a0_2 a0_3n a0_3 y0m1_0 y0m1_1 y0m1_2]
    refine cond_mapE h (fun q22 h => ?_) (fun q22 h => ?_)
    · skip
      refine ck_mapE h (fun q23 h => ck_mapE h (fun q24 h => ck_mapE h (fun q25 h => ck_mapE h (fun q26 h => ?_))))
      exact again_i (y := (Sum.inr ((IntKind.i64.wrap (y0m1_0 + 1)), (y0m1_1 + 1), (y0m1_2 ++ [Cell.v (Value.int .i64 (kK (List.take 4 (List.drop (y0m1_0.toNat * 4) a0_3)))), Cell.v (Value.int .i64 (kV (List.take 4 (List.drop (y0m1_0.toNat * 4) a0_3)))), Cell.v (Value.int .i64 (kX (List.take 4 (List.drop (y0m1_0.toNat * 4) a0_3)))), Cell.sl (kN (List.take 4 (List.drop (y0m1_0.toNat * 4) a0_3))) (kL (List.take 4 (List.drop (y0m1_0.toNat * 4) a0_3)))])))) rfl h
    · skip
      exact h


end Go.Proofs.Ytgmciihlmgeecaa.Fn
