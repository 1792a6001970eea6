import Derived.Test.YtlfojobligplkaaPuSets
import Derived.Test.YtlfojobligplkaaSpT
/- What is told of products and quotients of Itvs. Definitions alone. -/
namespace Go.Proofs.Ytlfojobligplkaa.Fn
open Go Go.Proofs.Ytlfojobligplkaa.Mt

def min2 (p q : Int) : Int := if q < p then q else p
def max2 (p q : Int) : Int := if q > p then q else p
def min4 (p q r s : Int) : Int := min2 (min2 (min2 p q) r) s
def max4 (p q r s : Int) : Int := max2 (max2 (max2 p q) r) s
def cor (f : Int → Int → Int) (a b c d : Int) : Int × Int := (min4 (f a c) (f a d) (f b c) (f b d), max4 (f a c) (f a d) (f b c) (f b d))
def sum63 : List CV → Option (Bool × Ret)
  | [v0, v1, v2] => match fnOf v0 with
    | some 64 => some (okA [some .i64, some .i64] v1 && okA [some .i64, some .i64] v2, Ret.mk (.tup [.one (.v (.int .i64 (cor f64_0 (intC (cellA v1 0)) (intC (cellA v1 1)) (intC (cellA v2 0)) (intC (cellA v2 1))).1)), .one (.v (.int .i64 (cor f64_0 (intC (cellA v1 0)) (intC (cellA v1 1)) (intC (cellA v2 0)) (intC (cellA v2 1))).2))]) [])
    | some 75 => some (okA [some .i64, some .i64] v1 && okA [some .i64, some .i64] v2 && (intC (cellA v2 0) != 0) && (intC (cellA v2 1) != 0), Ret.mk (.tup [.one (.v (.int .i64 (cor f75_0 (intC (cellA v1 0)) (intC (cellA v1 1)) (intC (cellA v2 0)) (intC (cellA v2 1))).1)), .one (.v (.int .i64 (cor f75_0 (intC (cellA v1 0)) (intC (cellA v1 1)) (intC (cellA v2 0)) (intC (cellA v2 1))).2))]) [])
    | _ => none
  | _ => none

def ofI (a b : Int) : Int × Int := nI (max a (-2147483648)) (min b 2147483647)
def outI (a b : Int) : Bool := decide (a < -2147483648) || decide (b > 2147483647)
/-- One sign of divisors more. -/
def quoS (a b : Int) (acc : Int × Int × Bool) (p : Int × Int) : Int × Int × Bool :=
  if p.1 > p.2 then acc else
    ((jI acc.1 acc.2.1 (ofI (cor f75_0 a b p.1 p.2).1 (cor f75_0 a b p.1 p.2).2).1 (ofI (cor f75_0 a b p.1 p.2).1 (cor f75_0 a b p.1 p.2).2).2).1,
     (jI acc.1 acc.2.1 (ofI (cor f75_0 a b p.1 p.2).1 (cor f75_0 a b p.1 p.2).2).1 (ofI (cor f75_0 a b p.1 p.2).1 (cor f75_0 a b p.1 p.2).2).2).2,
     acc.2.2 || outI (cor f75_0 a b p.1 p.2).1 (cor f75_0 a b p.1 p.2).2)
def quoP (a b c d : Int) : Int × Int × Bool := quoS a b (quoS a b (1, 0, false) (mI c d (-2147483648) (-1))) (mI c d 1 2147483647)
def sum74 : List CV → Option (Bool × Ret)
  | [v0, v1] => some (okA [some .i64, some .i64] v0 && okA [some .i64, some .i64] v1,
      Ret.mk (.tup [.agg [.v (.int .i64 (quoP (intC (cellA v0 0)) (intC (cellA v0 1)) (intC (cellA v1 0)) (intC (cellA v1 1))).1), .v (.int .i64 (quoP (intC (cellA v0 0)) (intC (cellA v0 1)) (intC (cellA v1 0)) (intC (cellA v1 1))).2.1)],
        .agg [.v (.bool (quoP (intC (cellA v0 0)) (intC (cellA v0 1)) (intC (cellA v1 0)) (intC (cellA v1 1))).2.2), .v (.bool false)]]) [])
  | _ => none

def restP (a b c d : Int) : Int × Int :=
  if a = b ∧ c = d then ofI (a.tmod c) (a.tmod c) else
    let most := max (max (max (0 - c) d) c) (0 - d) - 1
    ofI (max (min a 0) (0 - most)) (min (max b 0) most)
/-- What an operation makes of all of both: an Itv, an overflow, a division by nought. -/
def divP (k a b c d : Int) : Int × Int × Bool × Bool :=
  if c = 0 ∧ d = 0 then (1, 0, false, true)
  else if k = 8 then ((restP a b c d).1, (restP a b c d).2, false, decide (c ≤ 0) && decide (0 ≤ d))
  else ((quoP a b c d).1, (quoP a b c d).2.1, (quoP a b c d).2.2, decide (c ≤ 0) && decide (0 ≤ d))
def doP (k a b c d : Int) : Int × Int × Bool × Bool :=
  if a > b ∨ c > d then (1, 0, false, false)
  else if k = 4 then ((ofI (a + c) (b + d)).1, (ofI (a + c) (b + d)).2, outI (a + c) (b + d), false)
  else if k = 5 then ((ofI (a - d) (b - c)).1, (ofI (a - d) (b - c)).2, outI (a - d) (b - c), false)
  else if k = 6 then ((ofI (cor f64_0 a b c d).1 (cor f64_0 a b c d).2).1, (ofI (cor f64_0 a b c d).1 (cor f64_0 a b c d).2).2, outI (cor f64_0 a b c d).1 (cor f64_0 a b c d).2, false)
  else if k = 7 ∨ k = 8 then divP k a b c d
  else (1, 0, false, false)
def sum65 : List CV → Option (Bool × Ret)
  | [v0, v1, v2] => some (okO (some .i64) v0 && okA [some .i64, some .i64] v1 && okA [some .i64, some .i64] v2 && inB (intC (cellA v1 0)) && inB (intC (cellA v1 1)) && inB (intC (cellA v2 0)) && inB (intC (cellA v2 1)) && decide (intC (cellA v1 0) ≤ intC (cellA v1 1)) && decide (intC (cellA v2 0) ≤ intC (cellA v2 1)),
      Ret.mk (.tup [.agg [.v (.int .i64 (divP (intC (cellA v0 0)) (intC (cellA v1 0)) (intC (cellA v1 1)) (intC (cellA v2 0)) (intC (cellA v2 1))).1), .v (.int .i64 (divP (intC (cellA v0 0)) (intC (cellA v1 0)) (intC (cellA v1 1)) (intC (cellA v2 0)) (intC (cellA v2 1))).2.1)],
        .agg [.v (.bool (divP (intC (cellA v0 0)) (intC (cellA v1 0)) (intC (cellA v1 1)) (intC (cellA v2 0)) (intC (cellA v2 1))).2.2.1), .v (.bool (divP (intC (cellA v0 0)) (intC (cellA v1 0)) (intC (cellA v1 1)) (intC (cellA v2 0)) (intC (cellA v2 1))).2.2.2)]]) [])
  | _ => none
/-- Of all Itvs in range. -/
def sum25w : List CV → Option (Bool × Ret)
  | [v0, v1, v2] => some (okO (some .i64) v0 && okA [some .i64, some .i64] v1 && okA [some .i64, some .i64] v2 && inB (intC (cellA v1 0)) && inB (intC (cellA v1 1)) && inB (intC (cellA v2 0)) && inB (intC (cellA v2 1)),
      Ret.mk (.tup [.agg [.v (.int .i64 (doP (intC (cellA v0 0)) (intC (cellA v1 0)) (intC (cellA v1 1)) (intC (cellA v2 0)) (intC (cellA v2 1))).1), .v (.int .i64 (doP (intC (cellA v0 0)) (intC (cellA v1 0)) (intC (cellA v1 1)) (intC (cellA v2 0)) (intC (cellA v2 1))).2.1)],
        .agg [.v (.bool (doP (intC (cellA v0 0)) (intC (cellA v1 0)) (intC (cellA v1 1)) (intC (cellA v2 0)) (intC (cellA v2 1))).2.2.1), .v (.bool (doP (intC (cellA v0 0)) (intC (cellA v1 0)) (intC (cellA v1 1)) (intC (cellA v2 0)) (intC (cellA v2 1))).2.2.2)]]) [])
  | _ => none

end Go.Proofs.Ytlfojobligplkaa.Fn
