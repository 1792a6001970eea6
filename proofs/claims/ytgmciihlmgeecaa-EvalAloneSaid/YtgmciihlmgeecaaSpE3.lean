import Derived.Test.YtgmciihlmgeecaaSpZ2
import Derived.Test.YtgmciihlmgeecaaMtFz
/- What is told of the functions of Nums. Definitions alone. -/
namespace Go.Proofs.Ytgmciihlmgeecaa.Fn
open Go Go.RowKit Go.Proofs.Ytgmciihlmgeecaa.Mt Go.Proofs.Ytgmciihlmgeecaa.Zm

def hintsN : Hints := { ow := [38, 60, 95], pt := [], pc := [87, 111] }
def itvsZ (z : Zo) : Nat → List Int
  | 0 => []
  | t + 1 => itvsZ z t ++ [(itvZ z t).1, (itvZ z t).2]
def numRe (z : Zo) : Ret := Ret.mk (.agg (.v (.bool z.2.1) :: .sl (capN z.1).toNat (ic .i64 (itvsZ z (capN z.1).toNat)) :: .v (.int .i64 z.1) :: .v (.bool z.2.1) :: ic .i64 z.2.2)) []
def okSl (s : Nat) : Cell → Bool
  | .sl n cs => cs.all (isInt .i64) && (cs.length == n * s)
  | _ => false
def okNum : CV → Bool
  | .agg (a :: r :: n :: b :: ds) => okK none a && okSl 2 r && isInt .i64 n && okK none b && (ds.all (isInt .i64) && (ds.length == 49))
  | _ => false
def uZ (v : CV) : Zo := (intC (cellA v 2), boolC (cellA v 3), ((cellsA v).drop 4).map intC)
def noneZ (n : Int) : Zo := (capN n, true, zeroL)
def heldZ (z : Zo) (x lo hi : Int) : Zo := if x < 0 ∨ z.1 ≤ x then z else if lo > hi then noneZ z.1 else boundZ (boundZ z x (-1) hi) (-1) x (wrap64 (-lo))

def sum93 : List CV → Option (Bool × Ret)
  | [z] => some (okZ z, numRe (zO z))
  | _ => none
def sum57 : List CV → Option (Bool × Ret)
  | [n] => some (okO (some .i64) n, numRe (noneZ (intC (cellA n 0))))
  | _ => none
def sum94 : List CV → Option (Bool × Ret)
  | [z, x, i] => some (okZ z && okO (some .i64) x && okA [some .i64, some .i64] i, zRe (heldZ (zO z) (intC (cellA x 0)) (intC (cellA i 0)) (intC (cellA i 1))))
  | _ => none
def sum42 : List CV → Option (Bool × Ret)
  | [n] => some (okO (some .i64) n, numRe (zerosZ (intC (cellA n 0))))
  | _ => none
def sum41 : List CV → Option (Bool × Ret)
  | [a, x, i] => some (okNum a && okO (some .i64) x && okA [some .i64, some .i64] i, numRe (heldZ (forgetZ (uZ a) (intC (cellA x 0))) (intC (cellA x 0)) (intC (cellA i 0)) (intC (cellA i 1))))
  | _ => none
def sum52 : List CV → Option (Bool × Ret)
  | [a, x, i] => some (okNum a && okO (some .i64) x && okA [some .i64, some .i64] i, numRe (heldZ (uZ a) (intC (cellA x 0)) (intC (cellA i 0)) (intC (cellA i 1))))
  | _ => none
def sum59 : List CV → Option (Bool × Ret)
  | [a, x, y, b] => some (okNum a && okO (some .i64) x && okO (some .i64) y && okO (some .i64) b, numRe (copyZ (uZ a) (intC (cellA x 0)) (intC (cellA y 0)) (intC (cellA b 0))))
  | _ => none
def sum73 : List CV → Option (Bool × Ret)
  | [a, b] => some (okNum a && okNum b, numRe (joinZ (uZ a) (uZ b)))
  | _ => none
def sum54 : List CV → Option (Bool × Ret)
  | [a, b] => some (okNum a && okNum b, boRet (withinZ (uZ a) (uZ b)))
  | _ => none
def sum60 : List CV → Option (Bool × Ret)
  | [a, v] => some (okNum a && okRU 1 v, boRet (!boolC (cellA a 0) && hasZ (uZ a) (rN (cellA v 0)) (rL (cellA v 0))))
  | _ => none
end Go.Proofs.Ytgmciihlmgeecaa.Fn

namespace Go.Proofs.Ytgmciihlmgeecaa.Fn
open Go Go.RowKit Go.Proofs.Ytgmciihlmgeecaa.Mt Go.Proofs.Ytgmciihlmgeecaa.Zm

end Go.Proofs.Ytgmciihlmgeecaa.Fn

namespace Go.Proofs.Ytgmciihlmgeecaa.Fn
open Go Go.RowKit Go.Proofs.Ytgmciihlmgeecaa.Mt Go.Proofs.Ytgmciihlmgeecaa.Zm

end Go.Proofs.Ytgmciihlmgeecaa.Fn

namespace Go.Proofs.Ytgmciihlmgeecaa.Fn
open Go Go.RowKit Go.Proofs.Ytgmciihlmgeecaa.Mt Go.Proofs.Ytgmciihlmgeecaa.Zm

end Go.Proofs.Ytgmciihlmgeecaa.Fn

namespace Go.Proofs.Ytgmciihlmgeecaa.Fn
open Go Go.RowKit Go.Proofs.Ytgmciihlmgeecaa.Mt Go.Proofs.Ytgmciihlmgeecaa.Zm

def itC (v : CV) : Int × Int := (intC (cellA v 0), intC (cellA v 1))
def okI (v : CV) : Bool := okA [some .i64, some .i64] v
def erC (v : CV) : Bool × Bool := (boolC (cellA v 0), boolC (cellA v 1))
def okEr (v : CV) : Bool := okA [none, none] v
def evRet (e : (Int × Int) × Bool × Bool) : Ret := Ret.mk (.tup [.agg [.v (.int .i64 e.1.1), .v (.int .i64 e.1.2)], .agg [.v (.bool e.2.1), .v (.bool e.2.2)]]) []
def inB (a : Int) : Bool := decide (-2147483648 ≤ a) && decide (a ≤ 2147483647)
def inP (p : Int × Int) : Bool := inB p.1 && inB p.2
def mI (p q : Int × Int) : Int × Int := if p.1 > p.2 ∨ q.1 > q.2 then (1, 0) else normP (max p.1 q.1) (min p.2 q.2)
def sum115 : List CV → Option (Bool × Ret)
  | [a, b] => some (okI a && okI b, itRet (mI (itC a) (itC b)))
  | _ => none
def joinI (p q : Int × Int) : Int × Int := if p.1 > p.2 then normP q.1 q.2 else if q.1 > q.2 then p else (min p.1 q.1, max p.2 q.2)
def sum128 : List CV → Option (Bool × Ret)
  | [a, b] => some (okI a && okI b, itRet (joinI (itC a) (itC b)))
  | _ => none
def sum81 : List CV → Option (Bool × Ret)
  | [a, n] => some (okI a && okO (some .i64) n, boRet (decide ((itC a).1 ≤ intC (cellA n 0)) && decide (intC (cellA n 0) ≤ (itC a).2)))
  | _ => none
def allI : Int × Int := (-2147483648, 2147483647)
def outI (a b : Int) : Bool := decide (a < -2147483648) || decide (b > 2147483647)
def cutP (a b : Int) : (Int × Int) × Bool × Bool := (ofP a b, outI a b, false)
def sum121 : List CV → Option (Bool × Ret)
  | [a, b] => some (okO (some .i64) a && okO (some .i64) b, evRet (cutP (intC (cellA a 0)) (intC (cellA b 0))))
  | _ => none
def min4 (p q r s : Int) : Int := min (min (min p q) r) s
def max4 (p q r s : Int) : Int := max (max (max p q) r) s
def corM (p q : Int × Int) : Int × Int := (min4 (p.1 * q.1) (p.1 * q.2) (p.2 * q.1) (p.2 * q.2), max4 (p.1 * q.1) (p.1 * q.2) (p.2 * q.1) (p.2 * q.2))
def corD (p q : Int × Int) : Int × Int := (min4 (p.1.tdiv q.1) (p.1.tdiv q.2) (p.2.tdiv q.1) (p.2.tdiv q.2), max4 (p.1.tdiv q.1) (p.1.tdiv q.2) (p.2.tdiv q.1) (p.2.tdiv q.2))
def sum123 : List CV → Option (Bool × Ret)
  | [a, b] => some (okO (some .i64) a && okO (some .i64) b && inB (intC (cellA a 0)) && inB (intC (cellA b 0)), inRet (intC (cellA a 0) * intC (cellA b 0)))
  | _ => none
def sum127 : List CV → Option (Bool × Ret)
  | [a, b] => some (okO (some .i64) a && okO (some .i64) b && inB (intC (cellA a 0)) && inB (intC (cellA b 0)) && (intC (cellA b 0) != 0), inRet ((intC (cellA a 0)).tdiv (intC (cellA b 0))))
  | _ => none
def coRet (p : Int × Int) : Ret := Ret.mk (.tup [.one (.v (.int .i64 p.1)), .one (.v (.int .i64 p.2))]) []
def sum122 : List CV → Option (Bool × Ret)
  | [f, a, b] => match fnOf f with
    | some 123 => some (okI a && okI b && inP (itC a) && inP (itC b), coRet (corM (itC a) (itC b)))
    | some 127 => some (okI a && okI b && inP (itC a) && inP (itC b) && ((itC b).1 != 0) && ((itC b).2 != 0), coRet (corD (itC a) (itC b)))
    | _ => none
  | _ => none
def quoS (p : Int × Int) (acc : (Int × Int) × Bool × Bool) (q : Int × Int) : (Int × Int) × Bool × Bool :=
  if q.1 > q.2 then acc else (joinI acc.1 (ofP (corD p q).1 (corD p q).2), acc.2.1 || outI (corD p q).1 (corD p q).2, false)
def quoP (p q : Int × Int) : (Int × Int) × Bool × Bool := quoS p (quoS p ((1, 0), false, false) (mI q (-2147483648, -1))) (mI q (1, 2147483647))
def sum126 : List CV → Option (Bool × Ret)
  | [a, b] => some (okI a && okI b && inP (itC a) && inP (itC b), evRet (quoP (itC a) (itC b)))
  | _ => none
def mostP (q : Int × Int) : Int := max (max (max (-q.1) q.2) q.1) (-q.2) - 1
def restP (p q : Int × Int) : Int × Int :=
  if p.1 = p.2 ∧ q.1 = q.2 then ofP (p.1.tmod q.1) (p.1.tmod q.1) else ofP (max (min p.1 0) (-mostP q)) (min (max p.2 0) (mostP q))
def sum125 : List CV → Option (Bool × Ret)
  | [a, b] => some (okI a && okI b && inP (itC a) && inP (itC b) && (((itC b).1 != 0) || ((itC b).2 != 0)), itRet (restP (itC a) (itC b)))
  | _ => none
def divP (k : Int) (p q : Int × Int) : (Int × Int) × Bool × Bool :=
  if q.1 = 0 ∧ q.2 = 0 then ((1, 0), false, true)
  else if k = 8 then (restP p q, false, decide (q.1 ≤ 0) && decide (0 ≤ q.2))
  else ((quoP p q).1, (quoP p q).2.1, decide (q.1 ≤ 0) && decide (0 ≤ q.2))
def sum124 : List CV → Option (Bool × Ret)
  | [k, a, b] => some (okO (some .i64) k && okI a && okI b && inP (itC a) && inP (itC b), evRet (divP (intC (cellA k 0)) (itC a) (itC b)))
  | _ => none
def doQ (k : Int) (p q : Int × Int) : (Int × Int) × Bool × Bool :=
  if k = 4 then cutP (p.1 + q.1) (p.2 + q.2)
  else if k = 5 then cutP (p.1 - q.2) (p.2 - q.1)
  else if k = 6 then cutP (corM p q).1 (corM p q).2
  else if k = 7 ∨ k = 8 then divP k p q
  else ((1, 0), false, false)
def doP (k : Int) (p q : Int × Int) : (Int × Int) × Bool × Bool :=
  if p.1 > p.2 ∨ q.1 > q.2 ∨ (mI p allI).1 > (mI p allI).2 ∨ (mI q allI).1 > (mI q allI).2 then ((1, 0), false, false) else doQ k (mI p allI) (mI q allI)
def sum114 : List CV → Option (Bool × Ret)
  | [k, a, b] => some (okO (some .i64) k && okI a && okI b, evRet (doP (intC (cellA k 0)) (itC a) (itC b)))
  | _ => none
def negP (p : Int × Int) : (Int × Int) × Bool × Bool := doP 5 (0, 0) p
def sum104 : List CV → Option (Bool × Ret)
  | [a] => some (okI a, evRet (negP (itC a)))
  | _ => none

end Go.Proofs.Ytgmciihlmgeecaa.Fn

namespace Go.Proofs.Ytgmciihlmgeecaa.Fn
open Go Go.RowKit Go.Proofs.Ytgmciihlmgeecaa.Mt Go.Proofs.Ytgmciihlmgeecaa.Zm

def rC : Cell → List Cell
  | .sl _ l => l
  | _ => []
def kK (cs : List Cell) : Int := intC (cs.getD 0 .dead)
def kV (cs : List Cell) : Int := intC (cs.getD 1 .dead)
def kX (cs : List Cell) : Int := intC (cs.getD 2 .dead)
def kN (cs : List Cell) : Nat := rN (cs.getD 3 .dead)
def kid (cs : List Cell) (i : Nat) : List Cell := ((rC (cs.getD 3 .dead)).drop (i * 4)).take 4
def okE : Nat → List Cell → Bool
  | 0, _ => false
  | d + 1, [a, b, c, .sl m ks] => isInt .i64 a && isInt .i64 b && isInt .i64 c && (ks.length == m * 4) && (List.range m).all fun i => okE d ((ks.drop (i * 4)).take 4)
  | _, _ => false
def okB : Nat → List Cell → Bool
  | 0, _ => true
  | d + 1, cs => decide (kN cs * 48 ≤ 140737488355328) && (List.range (kN cs)).all fun i => okB d (kid cs i)
def kL (cs : List Cell) : List Cell := rC (cs.getD 3 .dead)
def four (cs : List Cell) : List Cell := [.v (.int .i64 (kK cs)), .v (.int .i64 (kV cs)), .v (.int .i64 (kX cs)), .sl (kN cs) (kL cs)]

def farP (f : (Int × Int) × Bool) : (Int × Int) × Bool := (f.1, f.2 && decide (f.1.2 ≤ 1099511627776) && decide (-1099511627776 ≤ f.1.2))
def pairO (k : Int) (a b : (Int × Int) × Bool) : (Int × Int) × Bool :=
  if a.2 = false ∨ b.2 = false then ((0, 0), false)
  else if b.1.1 ≠ -1 ∧ (k = 5 ∨ a.1.1 ≠ -1) then ((0, 0), false)
  else if k = 5 then ((a.1.1, a.1.2 - b.1.2), true)
  else ((max a.1.1 b.1.1, a.1.2 + b.1.2), true)
def linO (cs : List Cell) (p : (Int × Int) × Bool) : (Int × Int) × Bool :=
  farP (if kK cs = 1 ∧ kN cs = 0 then ((-1, kV cs), true)
  else if kK cs = 2 ∧ kN cs = 0 then ((kX cs, 0), true)
  else if (kK cs = 4 ∨ kK cs = 5) ∧ kN cs = 2 then p else ((-1, 0), false))
def linC : Nat → List Cell → (Int × Int) × Bool
  | 0, _ => ((-1, 0), false)
  | d + 1, cs => linO cs (pairO (kK cs) (linC d (kid cs 0)) (linC d (kid cs 1)))
def pairC : Nat → List Cell → (Int × Int) × Bool
  | 0, _ => ((0, 0), false)
  | d + 1, cs => pairO (kK cs) (linC d (kid cs 0)) (linC d (kid cs 1))
def liRet (f : (Int × Int) × Bool) : Ret := Ret.mk (.tup [.agg [.v (.int .i64 f.1.1), .v (.int .i64 f.1.2)], .one (.v (.bool f.2))]) []
def sum103 (d : Nat) : List CV → Option (Bool × Ret)
  | [e] => some (okE d (cellsA e), liRet (linC d (cellsA e)))
  | _ => none
def sum113 (d : Nat) : List CV → Option (Bool × Ret)
  | [e] => some (okE d (cellsA e) && decide (2 ≤ kN (cellsA e)), liRet (pairC d (cellsA e)))
  | _ => none
def lin3 (f : (Int × Int) × Bool) : (Int × Int) × Bool := if f.2 = true then f else ((0, 0), false)
def l3Ret (f : (Int × Int) × Bool) : Ret := Ret.mk (.tup [.one (.v (.int .i64 f.1.1)), .one (.v (.int .i64 f.1.2)), .one (.v (.bool f.2))]) []
def sum68 (d : Nat) : List CV → Option (Bool × Ret)
  | [e] => some (okE d (cellsA e), l3Ret (lin3 (linC d (cellsA e))))
  | _ => none

def eiE (a b : Bool × Bool) : Bool × Bool := (a.1 || b.1, a.2 || b.2)
def erRet (p : Bool × Bool) : Ret := Ret.mk (.agg [.v (.bool p.1), .v (.bool p.2)]) []
def sum105 : List CV → Option (Bool × Ret)
  | [a, b] => some (okEr a && okEr b, erRet (eiE (erC a) (erC b)))
  | _ => none
def twoO (k : Int) (r s : (Int × Int) × Bool × Bool) : (Int × Int) × Bool × Bool :=
  if r.1.1 > r.1.2 then r else ((doP k r.1 s.1).1, eiE (eiE r.2 s.2) (doP k r.1 s.1).2)
def negO (r : (Int × Int) × Bool × Bool) : (Int × Int) × Bool × Bool := ((negP r.1).1, eiE r.2 (negP r.1).2)
def evalO (cs : List Cell) (nn : Bool) (m : Nat) (l : List Int) (a b : (Int × Int) × Bool × Bool) : (Int × Int) × Bool × Bool :=
  if nn = true then ((1, 0), false, false)
  else if kK cs = 1 then (ofP (kV cs) (kV cs), false, false)
  else if kK cs = 2 ∧ 0 ≤ kX cs ∧ kX cs < (m : Int) then ((l.getD ((kX cs).toNat * 2) 0, l.getD ((kX cs).toNat * 2 + 1) 0), false, false)
  else if kK cs = 3 ∧ kN cs = 1 then negO a
  else if (4 ≤ kK cs ∧ kK cs ≤ 8) ∧ kN cs = 2 then twoO (kK cs) a b
  else ((1, 0), false, false)
def evalC : Nat → List Cell → Bool → Nat → List Int → (Int × Int) × Bool × Bool
  | 0, _, _, _, _ => ((1, 0), false, false)
  | d + 1, cs, nn, m, l => evalO cs nn m l (evalC d (kid cs 0) nn m l) (evalC d (kid cs 1) nn m l)
def twoC : Nat → List Cell → Bool → Nat → List Int → (Int × Int) × Bool × Bool
  | 0, _, _, _, _ => ((1, 0), false, false)
  | d + 1, cs, nn, m, l => twoO (kK cs) (evalC d (kid cs 0) nn m l) (evalC d (kid cs 1) nn m l)
def sum75 (d : Nat) : List CV → Option (Bool × Ret)
  | [e, a] => some (okE d (cellsA e) && okNum a, evRet (evalC d (cellsA e) (boolC (cellA a 0)) (rN (cellA a 1)) (rL (cellA a 1))))
  | _ => none
def sum106 (d : Nat) : List CV → Option (Bool × Ret)
  | [e, a] => some (okE d (cellsA e) && okNum a && decide (2 ≤ kN (cellsA e)), evRet (twoC d (cellsA e) (boolC (cellA a 0)) (rN (cellA a 1)) (rL (cellA a 1))))
  | _ => none

def asRet (z : Zo) (p : Bool × Bool) : Ret := Ret.mk (.tup [.agg (.v (.bool z.2.1) :: .sl (capN z.1).toNat (ic .i64 (itvsZ z (capN z.1).toNat)) :: .v (.int .i64 z.1) :: .v (.bool z.2.1) :: ic .i64 z.2.2), .agg [.v (.bool p.1), .v (.bool p.2)]]) []
def asgZ (z : Zo) (m : Nat) (x : Int) (e : (Int × Int) × Bool × Bool) (f : (Int × Int) × Bool) : Zo :=
  if e.1.1 > e.1.2 then noneZ (m : Int)
  else if f.2 = true then heldZ (copyZ z x f.1.1 f.1.2) x e.1.1 e.1.2
  else heldZ (forgetZ z x) x e.1.1 e.1.2
def sum79 (d : Nat) : List CV → Option (Bool × Ret)
  | [a, x, e] => some (okE d (cellsA e) && okNum a && okO (some .i64) x,
      asRet (asgZ (uZ a) (rN (cellA a 1)) (intC (cellA x 0)) (evalC d (cellsA e) (boolC (cellA a 0)) (rN (cellA a 1)) (rL (cellA a 1))) (linC d (cellsA e)))
        (evalC d (cellsA e) (boolC (cellA a 0)) (rN (cellA a 1)) (rL (cellA a 1))).2)
  | _ => none
end Go.Proofs.Ytgmciihlmgeecaa.Fn

namespace Go.Proofs.Ytgmciihlmgeecaa.Fn
open Go Go.RowKit Go.Proofs.Ytgmciihlmgeecaa.Mt Go.Proofs.Ytgmciihlmgeecaa.Zm

def iv (x : Int) : Cell := .v (.int .i64 x)
def leafC (k n x : Int) : List Cell := [iv k, iv n, iv x, .sl 0 []]
def tameO (cs : List Cell) (deep vars : Int) (a b : List Cell) : List Cell :=
  if (4 ≤ kK cs ∧ kK cs ≤ 8) ∧ kN cs = 2 ∧ deep > 0 then [iv (kK cs), iv 0, iv 0, .sl 2 (a ++ b)]
  else if kK cs = 3 ∧ kN cs = 1 ∧ deep > 0 then [iv 3, iv 0, iv 0, .sl 1 a]
  else if kK cs = 2 then leafC 2 0 (IntKind.i64.wrap ((IntKind.u64.wrap (kX cs)).tmod (IntKind.u64.wrap vars)))
  else leafC 1 (IntKind.i64.wrap ((IntKind.u64.wrap (kV cs)).tmod 2147483648)) 0
def tameC : Nat → Int → Int → List Cell → List Cell
  | 0, _, _, _ => leafC 1 0 0
  | d + 1, deep, vars, cs => tameO cs deep vars (tameC d (deep - 1) vars (kid cs 0)) (tameC d (deep - 1) vars (kid cs 1))
def sum67 (d : Nat) : List CV → Option (Bool × Ret)
  | [e, deep, vars] => some (okE d (cellsA e) && okO (some .i64) deep && okO (some .i64) vars && inB (intC (cellA deep 0)) && inB (intC (cellA vars 0)) && decide (0 < intC (cellA vars 0)),
      Ret.mk (.agg (four (tameC d (intC (cellA deep 0)) (intC (cellA vars 0)) (cellsA e)))) [])
  | _ => none
def sum69 (d : Nat) : List CV → Option (Bool × Ret)
  | [e] => some (okE d (cellsA e) && okB d (cellsA e), Ret.mk (.agg (four (cellsA e))) [])
  | _ => none

def numR (cs : List Cell) (x y : Int) (m : Nat) (l : List Int) : Int :=
  if kK cs = 1 then kV cs
  else if kK cs = 2 then (if 0 ≤ kX cs ∧ kX cs < (m : Int) then l.getD (kX cs).toNat 0 else 0)
  else if kK cs = 3 then 0 - x
  else if kK cs = 4 then x + y
  else if kK cs = 5 then x - y
  else if kK cs = 6 then x * y
  else if kK cs = 7 then x.tdiv y
  else if kK cs = 8 then x.tmod y
  else 0
def opR (cs : List Cell) (x y : Int) (m : Nat) (l : List Int) : Int × Int :=
  if (kK cs = 7 ∨ kK cs = 8) ∧ y = 0 then (0, 3)
  else if numR cs x y m l < -2147483648 ∨ numR cs x y m l > 2147483647 then (0, 2)
  else (numR cs x y m l, 0)
def evRO (cs : List Cell) (m : Nat) (l : List Int) (a b : Int × Int) : Int × Int :=
  if 1 ≤ kN cs ∧ a.2 ≠ 0 then (0, a.2)
  else if 2 ≤ kN cs ∧ b.2 ≠ 0 then (0, b.2)
  else opR cs (if 1 ≤ kN cs then a.1 else 0) (if 2 ≤ kN cs then b.1 else 0) m l
def evRC : Nat → List Cell → Nat → List Int → Int × Int
  | 0, _, _, _ => (0, 0)
  | d + 1, cs, m, l => evRO cs m l (evRC d (kid cs 0) m l) (evRC d (kid cs 1) m l)
def sum78 (d : Nat) : List CV → Option (Bool × Ret)
  | [e, v] => some (okE d (cellsA e) && okRU 1 v, coRet (evRC d (cellsA e) (rN (cellA v 0)) (rL (cellA v 0))))
  | _ => none
def rowGo (l : List Int) (z : Zo) : Nat → Zo
  | 0 => z
  | t + 1 => heldZ (forgetZ (rowGo l z t) t) t (ofP (l.getD t 0) (l.getD t 0)).1 (ofP (l.getD t 0) (l.getD t 0)).2
def rowZ (l : List Int) (n : Nat) : Zo := rowGo l (zerosZ n) n
def hints71 : Hints := { hintsN with fz := [9] }
def sum71 : List CV → Option (Bool × Ret)
  | [] => some (true, boRet true)
  | _ => none

def rowA (r : CV) : List Int := [intC (cellA r 0), intC (cellA r 1), intC (cellA r 2)]
def rowB (r : CV) : List Int := [intC (cellA r 3), intC (cellA r 4), intC (cellA r 5)]
def rowV (r : CV) : List Int := if boolC (cellA r 6) = true then rowB r else rowA r
def okRows (r : CV) : Bool := okA [some .i32, some .i32, some .i32, some .i32, some .i32, some .i32, none] r && (inB (intC (cellA r 0)) && inB (intC (cellA r 1)) && inB (intC (cellA r 2)) && inB (intC (cellA r 3)) && inB (intC (cellA r 4)) && inB (intC (cellA r 5)))
def twoZ (a b : List Int) : Zo := joinZ (rowZ a 3) (rowZ b 3)
def numC (z : Zo) : List Cell := .v (.bool z.2.1) :: .sl (capN z.1).toNat (ic .i64 (itvsZ z (capN z.1).toNat)) :: .v (.int .i64 z.1) :: .v (.bool z.2.1) :: ic .i64 z.2.2
def sum77o : List CV → Option (Bool × Ret)
  | [r] => some (okRows r, Ret.mk (.tup [.agg (numC (twoZ (rowA r) (rowB r))), .one (.own 0 0)]) [⟨3, 1, 3, ic .i64 (rowV r), true⟩])
  | _ => none
end Go.Proofs.Ytgmciihlmgeecaa.Fn

namespace Go.Proofs.Ytgmciihlmgeecaa.Fn
open Go Go.RowKit Go.Proofs.Ytgmciihlmgeecaa.Mt Go.Proofs.Ytgmciihlmgeecaa.Zm

def numO (z : Zo) : Ret := Ret.mk (.agg (.v (.bool z.2.1) :: .own 0 0 :: .v (.int .i64 z.1) :: .v (.bool z.2.1) :: ic .i64 z.2.2)) [⟨32, 2, (capN z.1).toNat, ic .i64 (itvsZ z (capN z.1).toNat), true⟩]
def hintsA : Hints := { hintsN with pt := [93] }
def hintsB : Hints := { hintsN with ow := [38, 60, 95, 41], pt := [41, 42] }
def hintsC : Hints := { hintsN with ow := [38, 60, 95, 78, 80, 54], pt := [77, 80] }
def sum93o : List CV → Option (Bool × Ret)
  | [z] => some (okZ z && decide (0 < capN (zN z)), numO (zO z))
  | _ => none
def sum42o : List CV → Option (Bool × Ret)
  | [n] => some (okO (some .i64) n && decide (0 < capN (intC (cellA n 0))), numO (zerosZ (intC (cellA n 0))))
  | _ => none
def sum41o : List CV → Option (Bool × Ret)
  | [a, x, i] => some (okNum a && okO (some .i64) x && okA [some .i64, some .i64] i && decide (0 < capN (intC (cellA a 2))), numO (heldZ (forgetZ (uZ a) (intC (cellA x 0))) (intC (cellA x 0)) (intC (cellA i 0)) (intC (cellA i 1))))
  | _ => none
def sum80o : List CV → Option (Bool × Ret)
  | [v] => some (okRU 1 v && decide (1 ≤ rN (cellA v 0)) && decide (rN (cellA v 0) ≤ 6), numO (rowZ (rL (cellA v 0)) (rN (cellA v 0))))
  | _ => none

end Go.Proofs.Ytgmciihlmgeecaa.Fn
