import Derived.Test.YtlfojobligplkaaDoorFnBase
import Derived.Test.YtlfojobligplkaaDoorMtFz
import Derived.Test.YtlfojobligplkaaDoorMtRow2
/- What is told of the functions of Itvs, of channels' Elems and of their rules. Definitions alone. -/
namespace Go.Proofs.YtlfojobligplkaaDoor.Fn
open Go Go.RowKit Go.Proofs Go.Proofs.YtlfojobligplkaaDoor.Mt

def letV {α : Type} (x : α) (k : α → Prop) : Prop := k x
theorem letV_mapE {α : Type} {x : α} {F G : α → Prop} (h : letV x F) (hG : ∀ c, F c → G c) : letV x G := hG x h
theorem letV_j {α : Type} {x : α} {F : α → Prop} (h : ∀ c, x = c → F c) : letV x F := h x rfl
/-- Rows that are built and never written; rows that it is handed. -/
def hintsP : Hints := { hints with fz := [21, 22, 23], sp := [77, 79] }

def rowN : Cell → Nat
  | .sl n _ => n
  | _ => 0
def rowL : Cell → List Int
  | .sl _ cs => cs.map intC
  | _ => []
/-- A row of elements of s numbers, of no great length. -/
def okRow (s : Nat) : Cell → Bool
  | .sl n cs => cs.all (isInt .i64) && (cs.length == n * s) && decide (n ≤ 8796093022208)
  | .v (.slice none 0 0) => true
  | _ => false
def okEl : CV → Bool
  | .agg [a, b, c] => isInt .i64 a && isInt .i64 b && okRow 2 c
  | _ => false
def okChan : CV → Bool
  | .agg [a, b, c, d, e, f] => isInt .i64 a && isInt .i64 b && isInt .i64 c && isInt .i64 d && isInt .i64 e && plainC f
  | _ => false
def okR (s : Nat) : CV → Bool
  | .one c => okRow s c
  | _ => false

def elRet (e : Nat) (lo hi : Int) (n : Nat) (l : List Int) : Ret := Ret.mk (.agg [.v (.int .i64 lo), .v (.int .i64 hi), .own 0 0]) [⟨e, 2, n, ic .i64 l, true⟩]
def boRet (b : Bool) : Ret := Ret.mk (.one (.v (.bool b))) []
def twoRet (a b : Int) : Ret := Ret.mk (.agg [.v (.int .i64 a), .v (.int .i64 b)]) []
def itRet (p : Int × Int) : Ret := twoRet p.1 p.2

def nI (a b : Int) : Int × Int := if a > b then (1, 0) else (a, b)
def ofI (a b : Int) : Int × Int := nI (max a (-2147483648)) (min b 2147483647)
def jI (a b c d : Int) : Int × Int := if a > b then nI c d else if c > d then (a, b) else (min a c, max b d)
def noneL (t : Nat) : List Int := (List.replicate t [1, 0]).flatten
def pairAt (l : List Int) (j : Nat) : Int × Int := (l.getD (j * 2) 0, l.getD (j * 2 + 1) 0)
def setP (l : List Int) (j : Nat) (p : Int × Int) : List Int := (l.set (j * 2) p.1).set (j * 2 + 1) p.2
def sendP (size lo hi : Int) (n : Nat) (l : List Int) (tag ilo ihi : Int) : Int × Int × List Int :=
  if ilo > ihi ∨ tag < 0 ∨ tag ≥ (n : Int) then (lo, hi, l)
  else (0, min (IntKind.i64.wrap (hi + 1)) size, setP l tag.toNat (jI (pairAt l tag.toNat).1 (pairAt l tag.toNat).2 ilo ihi))
def msgOk (n : Nat) (l : List Int) (tag v : Int) : Bool := decide (0 ≤ tag) && decide (tag < (n : Int)) && (decide ((pairAt l tag.toNat).1 ≤ v) && decide (v ≤ (pairAt l tag.toNat).2))
def hasP (lo hi : Int) (n : Nat) (l : List Int) (m : Nat) (q : List Int) : Bool :=
  decide (lo ≤ (m : Int)) && decide ((m : Int) ≤ hi) && (List.range m).all fun i => msgOk n l (pairAt q i).1 (pairAt q i).2
def tagsL (n : Nat) (l : List Int) : List Int := ((List.range n).filter fun i => !(decide ((pairAt l i).1 > (pairAt l i).2))).map (fun i => Int.ofNat i)

def elN (v : CV) : Nat := rowN (cellA v 2)
def elL (v : CV) : List Int := rowL (cellA v 2)
def elLo (v : CV) : Int := intC (cellA v 0)
def elHi (v : CV) : Int := intC (cellA v 1)

/-! Itvs. -/
def sum16 : List CV → Option (Bool × Ret)
  | [a] => some (okA [some .i64, some .i64] a, boRet (decide (intC (cellA a 0) > intC (cellA a 1))))
  | _ => none
def sum14 : List CV → Option (Bool × Ret)
  | [] => some (true, twoRet 1 0)
  | _ => none
def sum24 : List CV → Option (Bool × Ret)
  | [a] => some (okA [some .i64, some .i64] a, itRet (nI (intC (cellA a 0)) (intC (cellA a 1))))
  | _ => none
def sum18 : List CV → Option (Bool × Ret)
  | [a, b] => some (okO (some .i64) a && okO (some .i64) b, itRet (ofI (intC (cellA a 0)) (intC (cellA b 0))))
  | _ => none
def sum7 : List CV → Option (Bool × Ret)
  | [a] => some (okO (some .i64) a, itRet (ofI (intC (cellA a 0)) (intC (cellA a 0))))
  | _ => none
def sum17 : List CV → Option (Bool × Ret)
  | [a, b] => some (okA [some .i64, some .i64] a && okA [some .i64, some .i64] b, itRet (jI (intC (cellA a 0)) (intC (cellA a 1)) (intC (cellA b 0)) (intC (cellA b 1))))
  | _ => none
def sum21 : List CV → Option (Bool × Ret)
  | [a, n] => some (okA [some .i64, some .i64] a && okO (some .i64) n, boRet (decide (intC (cellA a 0) ≤ intC (cellA n 0)) && decide (intC (cellA n 0) ≤ intC (cellA a 1))))
  | _ => none

/-! Elems. -/
def sum4 : List CV → Option (Bool × Ret)
  | [v] => some (okChan v && decide (1 ≤ intC (cellA v 4)) && decide (intC (cellA v 4) ≤ 1000), elRet 29 0 0 (intC (cellA v 4)).toNat (noneL (intC (cellA v 4)).toNat))
  | _ => none
def sum23 : List CV → Option (Bool × Ret)
  | [v] => some (okR 2 v, Ret.mk (.one (.own 0 0)) [⟨29, 2, rowN (cellA v 0), ic .i64 (rowL (cellA v 0)), true⟩])
  | _ => none
def sum15 : List CV → Option (Bool × Ret)
  | [v] => some (okEl v, elRet 29 (elLo v) (elHi v) (elN v) (elL v))
  | _ => none
def sum6 : List CV → Option (Bool × Ret)
  | [c, v, t, i] => some (okChan c && okEl v && okO (some .i64) t && okA [some .i64, some .i64] i,
      elRet 29 (sendP (intC (cellA c 1)) (elLo v) (elHi v) (elN v) (elL v) (intC (cellA t 0)) (intC (cellA i 0)) (intC (cellA i 1))).1 (sendP (intC (cellA c 1)) (elLo v) (elHi v) (elN v) (elL v) (intC (cellA t 0)) (intC (cellA i 0)) (intC (cellA i 1))).2.1 (elN v)
        (sendP (intC (cellA c 1)) (elLo v) (elHi v) (elN v) (elL v) (intC (cellA t 0)) (intC (cellA i 0)) (intC (cellA i 1))).2.2)
  | _ => none
def sum10 : List CV → Option (Bool × Ret)
  | [v, q] => some (okEl v && okR 2 q, boRet (hasP (elLo v) (elHi v) (elN v) (elL v) (rowN (cellA q 0)) (rowL (cellA q 0))))
  | _ => none
def sum13 : List CV → Option (Bool × Ret)
  | [v] => some (okEl v, Ret.mk (.one (.own 0 0)) [⟨3, 1, (tagsL (elN v) (elL v)).length, ic .i64 (tagsL (elN v) (elL v)), true⟩])
  | _ => none

/-! The rule of the law: from 0 by 0 to 1, from 1 by 1 to 0. -/
def okRule : Cell → Bool
  | .sl 2 [.sl 2 [.v (.int .i64 a), .v (.int .i64 b)], .sl 2 [.v (.int .i64 c), .v (.int .i64 d)]] => (a == 1) && (b == -1) && (c == -1) && (d == 0)
  | _ => false
def okCR : CV → Bool
  | .agg [a, b, c, d, e, f] => isInt .i64 a && isInt .i64 b && isInt .i64 c && isInt .i64 d && isInt .i64 e && okRule f
  | _ => false
def bitI (x : Int) : Bool := (x == 0) || (x == 1)
def setI (x : Int) : Bool := (x == 1) || (x == 2) || (x == 3)
/-- Where a set of states goes by a tag; whether one goes nowhere. -/
def stepN (s t : Int) : Int := if t = 0 then (if s = 2 then 0 else 2) else (if s = 1 then 0 else 1)
def stepB (s t : Int) : Bool := !((decide (s = 1) && decide (t = 0)) || (decide (s = 2) && decide (t = 1)))
def inS (s k : Int) : Bool := (decide (k = 0) && (decide (s = 1) || decide (s = 3))) || (decide (k = 1) && (decide (s = 2) || decide (s = 3)))
def allN (l : List Int) : Int := if l = [] then 1 else 3
def setL (s : Int) : List Int := if s = 1 then [0] else if s = 2 then [1] else [0, 1]
def okTags (l : List Int) : Bool := (l == []) || (l == [0]) || (l == [0, 1])
def okTg : CV → Bool
  | .one (.sl n cs) => cs.all (isInt .i64) && (cs.length == n) && okTags (cs.map intC)
  | _ => false
def sum5 : List CV → Option (Bool × Ret)
  | [] => some (true, Ret.mk (.one (.v (.int .u8 1))) [])
  | _ => none
def sum9 : List CV → Option (Bool × Ret)
  | [s, k] => some (okO (some .u8) s && okO (some .i64) k && setI (intC (cellA s 0)) && decide (0 ≤ intC (cellA k 0)) && decide (intC (cellA k 0) ≤ 7), boRet (inS (intC (cellA s 0)) (intC (cellA k 0))))
  | _ => none
def sum19 : List CV → Option (Bool × Ret)
  | [s] => some (okO (some .u8) s && setI (intC (cellA s 0)), Ret.mk (.one (.own 0 0)) [⟨3, 1, (setL (intC (cellA s 0))).length, ic .i64 (setL (intC (cellA s 0))), true⟩])
  | _ => none
def nextN (s t : Int) : Int := if s = t then 1 - s else -1
def sum20 : List CV → Option (Bool × Ret)
  | [c, s, t] => some (okCR c && okO (some .i64) s && okO (some .i64) t && bitI (intC (cellA s 0)) && bitI (intC (cellA t 0)), Ret.mk (.tup [.one (.v (.int .i64 (nextN (intC (cellA s 0)) (intC (cellA t 0))))), .one (.v (.bool (decide (intC (cellA s 0) = intC (cellA t 0)))))]) [])
  | _ => none
def sum8 : List CV → Option (Bool × Ret)
  | [c, s, t] => some (okCR c && okO (some .u8) s && okO (some .i64) t && setI (intC (cellA s 0)) && bitI (intC (cellA t 0)), Ret.mk (.tup [.one (.v (.int .u8 (stepN (intC (cellA s 0)) (intC (cellA t 0))))), .one (.v (.bool (stepB (intC (cellA s 0)) (intC (cellA t 0)))))]) [])
  | _ => none
def sum12 : List CV → Option (Bool × Ret)
  | [c, t] => some (okCR c && okTg t, Ret.mk (.one (.v (.int .u8 (allN (rowL (cellA t 0)))))) [])
  | _ => none
def sum11 : List CV → Option (Bool × Ret)
  | [] => some (true, boRet true)
  | _ => none

end Go.Proofs.YtlfojobligplkaaDoor.Fn
