import Derived.Test.YtgmciihlmgeecaaSpZ2
/- What is told of the functions of Itvs. Definitions alone. -/
namespace Go.Proofs.Ytgmciihlmgeecaa.Fn
open Go Go.RowKit Go.Proofs.Ytgmciihlmgeecaa.Mt Go.Proofs.Ytgmciihlmgeecaa.Zm

def itC (v : CV) : Int × Int := (intC (cellA v 0), intC (cellA v 1))
def okI (v : CV) : Bool := okA [some .i64, some .i64] v
def erC (v : CV) : Bool × Bool := (boolC (cellA v 0), boolC (cellA v 1))
def okEr (v : CV) : Bool := okA [none, none] v
/-- An Itv, and errors. -/
def evRet (e : (Int × Int) × Bool × Bool) : Ret := Ret.mk (.tup [.agg [.v (.int .i64 e.1.1), .v (.int .i64 e.1.2)], .agg [.v (.bool e.2.1), .v (.bool e.2.2)]]) []
def ttRet (e : (Int × Int) × Int × Int) : Ret := Ret.mk (.tup [.agg [.v (.int .i64 e.1.1), .v (.int .i64 e.1.2)], .agg [.v (.int .i64 e.2.1), .v (.int .i64 e.2.2)]]) []
def inB (a : Int) : Bool := decide (-2147483648 ≤ a) && decide (a ≤ 2147483647)
def inP (p : Int × Int) : Bool := inB p.1 && inB p.2
/-- Of both. -/
def mI (p q : Int × Int) : Int × Int := if p.1 > p.2 ∨ q.1 > q.2 then (1, 0) else normP (max p.1 q.1) (min p.2 q.2)
def sum115 : List CV → Option (Bool × Ret)
  | [a, b] => some (okI a && okI b, itRet (mI (itC a) (itC b)))
  | _ => none
/-- Of either. -/
def joinI (p q : Int × Int) : Int × Int := if p.1 > p.2 then normP q.1 q.2 else if q.1 > q.2 then p else (min p.1 q.1, max p.2 q.2)
def sum128 : List CV → Option (Bool × Ret)
  | [a, b] => some (okI a && okI b, itRet (joinI (itC a) (itC b)))
  | _ => none
def sum81 : List CV → Option (Bool × Ret)
  | [a, n] => some (okI a && okO (some .i64) n, boRet (decide ((itC a).1 ≤ intC (cellA n 0)) && decide (intC (cellA n 0) ≤ (itC a).2)))
  | _ => none
def unequalP (p q : Int × Int) : Int × Int := if q.1 ≠ q.2 then p else normP (if p.1 = q.1 then p.1 + 1 else p.1) (if p.2 = q.1 then p.2 - 1 else p.2)
def sum116 : List CV → Option (Bool × Ret)
  | [a, b] => some (okI a && okI b && inP (itC a), itRet (unequalP (itC a) (itC b)))
  | _ => none
def belowP (p q : Int × Int) (s : Int) : Int × Int := mI p (ofP (-2147483648) (q.2 - s))
def aboveP (p q : Int × Int) (s : Int) : Int × Int := mI p (ofP (q.1 + s) 2147483647)
def sum117 : List CV → Option (Bool × Ret)
  | [a, b, s] => some (okI a && okI b && okO (some .i64) s && inP (itC b) && inB (intC (cellA s 0)), itRet (belowP (itC a) (itC b) (intC (cellA s 0))))
  | _ => none
def sum118 : List CV → Option (Bool × Ret)
  | [a, b, s] => some (okI a && okI b && okO (some .i64) s && inP (itC b) && inB (intC (cellA s 0)), itRet (aboveP (itC a) (itC b) (intC (cellA s 0))))
  | _ => none
def allI : Int × Int := (-2147483648, 2147483647)
/-- Two where a comparison holds, of ones in range. -/
def testQ (k : Int) (p q : Int × Int) : (Int × Int) × Int × Int :=
  if k = 1 then (mI p q, mI p q)
  else if k = 2 then (unequalP p q, unequalP q p)
  else if k = 3 then (belowP p q 1, aboveP q p 1)
  else if k = 4 then (belowP p q 0, aboveP q p 0)
  else if k = 5 then (aboveP p q 1, belowP q p 1)
  else if k = 6 then (aboveP p q 0, belowP q p 0)
  else ((1, 0), (1, 0))
def testP (k : Int) (p q : Int × Int) : (Int × Int) × Int × Int :=
  if (mI p allI).1 > (mI p allI).2 ∨ (mI q allI).1 > (mI q allI).2 then ((1, 0), (1, 0)) else testQ k (mI p allI) (mI q allI)
def sum108 : List CV → Option (Bool × Ret)
  | [k, a, b] => some (okO (some .i64) k && okI a && okI b, ttRet (testP (intC (cellA k 0)) (itC a) (itC b)))
  | _ => none
def outI (a b : Int) : Bool := decide (a < -2147483648) || decide (b > 2147483647)
def cutP (a b : Int) : (Int × Int) × Bool × Bool := (ofP a b, outI a b, false)
def sum121 : List CV → Option (Bool × Ret)
  | [a, b] => some (okO (some .i64) a && okO (some .i64) b, evRet (cutP (intC (cellA a 0)) (intC (cellA b 0))))
  | _ => none
def min4 (p q r s : Int) : Int := min (min (min p q) r) s
def max4 (p q r s : Int) : Int := max (max (max p q) r) s
/-- From the least to the greatest of four numbers: products, quotients. -/
def corM (p q : Int × Int) : Int × Int := (min4 (p.1 * q.1) (p.1 * q.2) (p.2 * q.1) (p.2 * q.2), max4 (p.1 * q.1) (p.1 * q.2) (p.2 * q.1) (p.2 * q.2))
def corD (p q : Int × Int) : Int × Int := (min4 (p.1.tdiv q.1) (p.1.tdiv q.2) (p.2.tdiv q.1) (p.2.tdiv q.2), max4 (p.1.tdiv q.1) (p.1.tdiv q.2) (p.2.tdiv q.1) (p.2.tdiv q.2))
def sum123 : List CV → Option (Bool × Ret)
  | [a, b] => some (okO (some .i64) a && okO (some .i64) b && inB (intC (cellA a 0)) && inB (intC (cellA b 0)), inRet (intC (cellA a 0) * intC (cellA b 0)))
  | _ => none
def sum127 : List CV → Option (Bool × Ret)
  | [a, b] => some (okO (some .i64) a && okO (some .i64) b && inB (intC (cellA a 0)) && inB (intC (cellA b 0)) && (intC (cellA b 0) != 0), inRet ((intC (cellA a 0)).tdiv (intC (cellA b 0))))
  | _ => none
def coRet (p : Int × Int) : Ret := Ret.mk (.tup [.one (.v (.int .i64 p.1)), .one (.v (.int .i64 p.2))]) []
def sum122 : List CV → Option (Bool × Ret)
  | [f, a, b] => match fnOf f with
    | some 123 => some (okI a && okI b && inP (itC a) && inP (itC b), coRet (corM (itC a) (itC b)))
    | some 127 => some (okI a && okI b && inP (itC a) && inP (itC b) && ((itC b).1 != 0) && ((itC b).2 != 0), coRet (corD (itC a) (itC b)))
    | _ => none
  | _ => none
/-- One sign of divisors more. -/
def quoS (p : Int × Int) (acc : (Int × Int) × Bool × Bool) (q : Int × Int) : (Int × Int) × Bool × Bool :=
  if q.1 > q.2 then acc else (joinI acc.1 (ofP (corD p q).1 (corD p q).2), acc.2.1 || outI (corD p q).1 (corD p q).2, false)
def quoP (p q : Int × Int) : (Int × Int) × Bool × Bool := quoS p (quoS p ((1, 0), false, false) (mI q (-2147483648, -1))) (mI q (1, 2147483647))
def sum126 : List CV → Option (Bool × Ret)
  | [a, b] => some (okI a && okI b && inP (itC a) && inP (itC b), evRet (quoP (itC a) (itC b)))
  | _ => none
def mostP (q : Int × Int) : Int := max (max (max (-q.1) q.2) q.1) (-q.2) - 1
def restP (p q : Int × Int) : Int × Int :=
  if p.1 = p.2 ∧ q.1 = q.2 then ofP (p.1.tmod q.1) (p.1.tmod q.1) else ofP (max (min p.1 0) (-mostP q)) (min (max p.2 0) (mostP q))
def sum125 : List CV → Option (Bool × Ret)
  | [a, b] => some (okI a && okI b && inP (itC a) && inP (itC b) && (((itC b).1 != 0) || ((itC b).2 != 0)), itRet (restP (itC a) (itC b)))
  | _ => none
def divP (k : Int) (p q : Int × Int) : (Int × Int) × Bool × Bool :=
  if q.1 = 0 ∧ q.2 = 0 then ((1, 0), false, true)
  else if k = 8 then (restP p q, false, decide (q.1 ≤ 0) && decide (0 ≤ q.2))
  else ((quoP p q).1, (quoP p q).2.1, decide (q.1 ≤ 0) && decide (0 ≤ q.2))
def sum124 : List CV → Option (Bool × Ret)
  | [k, a, b] => some (okO (some .i64) k && okI a && okI b && inP (itC a) && inP (itC b), evRet (divP (intC (cellA k 0)) (itC a) (itC b)))
  | _ => none
/-- What an operation makes of all of both, of ones in range. -/
def doQ (k : Int) (p q : Int × Int) : (Int × Int) × Bool × Bool :=
  if k = 4 then cutP (p.1 + q.1) (p.2 + q.2)
  else if k = 5 then cutP (p.1 - q.2) (p.2 - q.1)
  else if k = 6 then cutP (corM p q).1 (corM p q).2
  else if k = 7 ∨ k = 8 then divP k p q
  else ((1, 0), false, false)
def doP (k : Int) (p q : Int × Int) : (Int × Int) × Bool × Bool :=
  if p.1 > p.2 ∨ q.1 > q.2 ∨ (mI p allI).1 > (mI p allI).2 ∨ (mI q allI).1 > (mI q allI).2 then ((1, 0), false, false) else doQ k (mI p allI) (mI q allI)
def sum114 : List CV → Option (Bool × Ret)
  | [k, a, b] => some (okO (some .i64) k && okI a && okI b, evRet (doP (intC (cellA k 0)) (itC a) (itC b)))
  | _ => none
def negP (p : Int × Int) : (Int × Int) × Bool × Bool := doP 5 (0, 0) p
def sum104 : List CV → Option (Bool × Ret)
  | [a] => some (okI a, evRet (negP (itC a)))
  | _ => none

end Go.Proofs.Ytgmciihlmgeecaa.Fn
