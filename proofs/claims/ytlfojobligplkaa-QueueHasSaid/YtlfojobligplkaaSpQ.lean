import Derived.Test.YtlfojobligplkaaPuSets
import Derived.Test.YtlfojobligplkaaMtRow2
/- What is told of the functions of channels' Elems. Definitions alone. -/
namespace Go.Proofs.Ytlfojobligplkaa.Fn
open Go Go.Proofs.Ytlfojobligplkaa.Mt

def rowN : Cell → Nat
  | .sl n _ => n
  | _ => 0
def rowL : Cell → List Int
  | .sl _ cs => cs.map intC
  | _ => []
/-- A row of elements of s numbers, of no great length. -/
def okRow (s : Nat) : Cell → Bool
  | .sl n cs => cs.all (isInt .i64) && (cs.length == n * s) && decide (n ≤ 8796093022208)
  | .v (.slice none 0 0) => true
  | _ => false
/-- Of any length. -/
def okRowU (s : Nat) : Cell → Bool
  | .sl n cs => cs.all (isInt .i64) && (cs.length == n * s)
  | .v (.slice none 0 0) => true
  | _ => false
def okRU (s : Nat) : CV → Bool
  | .one c => okRowU s c
  | _ => false
def okEl : CV → Bool
  | .agg [a, b, c] => isInt .i64 a && isInt .i64 b && okRow 2 c
  | _ => false
def okChan : CV → Bool
  | .agg [a, b, c, d, e, f] => isInt .i64 a && isInt .i64 b && isInt .i64 c && isInt .i64 d && isInt .i64 e && plainC f
  | _ => false
def okR (s : Nat) : CV → Bool
  | .one c => okRow s c
  | _ => false

def elRet (e : Nat) (lo hi : Int) (n : Nat) (l : List Int) : Ret := Ret.mk (.agg [.v (.int .i64 lo), .v (.int .i64 hi), .own 0 0]) [⟨e, 2, n, ic .i64 l, true⟩]
def boRet (b : Bool) : Ret := Ret.mk (.one (.v (.bool b))) []

def noneL (t : Nat) : List Int := (List.replicate t [1, 0]).flatten
def pairAt (l : List Int) (j : Nat) : Int × Int := (l.getD (j * 2) 0, l.getD (j * 2 + 1) 0)
def setP (l : List Int) (j : Nat) (p : Int × Int) : List Int := (l.set (j * 2) p.1).set (j * 2 + 1) p.2
def sendP (size lo hi : Int) (n : Nat) (l : List Int) (tag ilo ihi : Int) : Int × Int × List Int :=
  if ilo > ihi ∨ tag < 0 ∨ tag ≥ (n : Int) then (lo, hi, l)
  else (0, min (IntKind.i64.wrap (hi + 1)) size, setP l tag.toNat (jI (pairAt l tag.toNat).1 (pairAt l tag.toNat).2 ilo ihi))
def msgOk (n : Nat) (l : List Int) (tag v : Int) : Bool := decide (0 ≤ tag) && decide (tag < (n : Int)) && (decide ((pairAt l tag.toNat).1 ≤ v) && decide (v ≤ (pairAt l tag.toNat).2))
def hasP (lo hi : Int) (n : Nat) (l : List Int) (m : Nat) (q : List Int) : Bool :=
  decide (lo ≤ (m : Int)) && decide ((m : Int) ≤ hi) && (List.range m).all fun i => msgOk n l (pairAt q i).1 (pairAt q i).2
def withB (a b : Int × Int) : Bool := decide (a.1 > a.2) || (decide (b.1 ≤ a.1) && decide (a.2 ≤ b.2))
def withinP (lo hi : Int) (n : Nat) (l : List Int) (lo' hi' : Int) (n' : Nat) (l' : List Int) : Bool :=
  decide (n = n') && withB (lo, hi) (lo', hi') && (List.range n).all fun i => withB (pairAt l i) (pairAt l' i)
def sameP (lo hi : Int) (n : Nat) (l : List Int) (lo' hi' : Int) (n' : Nat) (l' : List Int) : Bool := decide (lo = lo' ∧ hi = hi' ∧ n = n' ∧ l = l')
def opI (w : Bool) (a b : Int × Int) : Int × Int := if w then wI a.1 a.2 b.1 b.2 else jI a.1 a.2 b.1 b.2
def twoL (w : Bool) (n : Nat) (l l' : List Int) : List Int := ((List.range n).map fun i => [(opI w (pairAt l i) (pairAt l' i)).1, (opI w (pairAt l i) (pairAt l' i)).2]).flatten
def twoP (w : Bool) (lo hi : Int) (n : Nat) (l : List Int) (lo' hi' : Int) (n' : Nat) (l' : List Int) : Int × Int × List Int :=
  if n = n' then ((opI w (lo, hi) (lo', hi')).1, (opI w (lo, hi) (lo', hi')).2, twoL w n l l') else (lo, hi, l)
def tagsL (n : Nat) (l : List Int) : List Int := ((List.range n).filter fun i => !(decide ((pairAt l i).1 > (pairAt l i).2))).map (fun i => Int.ofNat i)

def elN (v : CV) : Nat := rowN (cellA v 2)
def elL (v : CV) : List Int := rowL (cellA v 2)
def elLo (v : CV) : Int := intC (cellA v 0)
def elHi (v : CV) : Int := intC (cellA v 1)

def sum57 : List CV → Option (Bool × Ret)
  | [v] => some (okO (some .i64) v && decide (1 ≤ intC (cellA v 0)) && decide (intC (cellA v 0) ≤ 1000), elRet 29 0 0 (intC (cellA v 0)).toNat (noneL (intC (cellA v 0)).toNat))
  | _ => none
def sum19 : List CV → Option (Bool × Ret)
  | [v] => some (okChan v && decide (1 ≤ intC (cellA v 4)) && decide (intC (cellA v 4) ≤ 1000), elRet 25 0 0 (intC (cellA v 4)).toNat (noneL (intC (cellA v 4)).toNat))
  | _ => none
def sum67 : List CV → Option (Bool × Ret)
  | [v] => some (okEl v, elRet 29 (elLo v) (elHi v) (elN v) (elL v))
  | _ => none
def sum59 : List CV → Option (Bool × Ret)
  | [v] => some (okEl v, elRet 25 (elLo v) (elHi v) (elN v) (elL v))
  | _ => none
def sum47 : List CV → Option (Bool × Ret)
  | [v] => some (okEl v, elRet 29 (elLo v) (elHi v) (elN v) (elL v))
  | _ => none
def sum35 : List CV → Option (Bool × Ret)
  | [v] => some (okEl v, elRet 25 (elLo v) (elHi v) (elN v) (elL v))
  | _ => none
def sum72 : List CV → Option (Bool × Ret)
  | [v] => some (okR 2 v, Ret.mk (.one (.own 0 0)) [⟨25, 2, rowN (cellA v 0), ic .i64 (rowL (cellA v 0)), true⟩])
  | _ => none
def sum58 : List CV → Option (Bool × Ret)
  | [s, v, t, i] => some (okO (some .i64) s && okEl v && okO (some .i64) t && okA [some .i64, some .i64] i,
      elRet 29 (sendP (intC (cellA s 0)) (elLo v) (elHi v) (elN v) (elL v) (intC (cellA t 0)) (intC (cellA i 0)) (intC (cellA i 1))).1 (sendP (intC (cellA s 0)) (elLo v) (elHi v) (elN v) (elL v) (intC (cellA t 0)) (intC (cellA i 0)) (intC (cellA i 1))).2.1 (elN v)
        (sendP (intC (cellA s 0)) (elLo v) (elHi v) (elN v) (elL v) (intC (cellA t 0)) (intC (cellA i 0)) (intC (cellA i 1))).2.2)
  | _ => none
def sum20 : List CV → Option (Bool × Ret)
  | [c, v, t, i] => some (okChan c && okEl v && okO (some .i64) t && okA [some .i64, some .i64] i,
      elRet 25 (sendP (intC (cellA c 1)) (elLo v) (elHi v) (elN v) (elL v) (intC (cellA t 0)) (intC (cellA i 0)) (intC (cellA i 1))).1 (sendP (intC (cellA c 1)) (elLo v) (elHi v) (elN v) (elL v) (intC (cellA t 0)) (intC (cellA i 0)) (intC (cellA i 1))).2.1 (elN v)
        (sendP (intC (cellA c 1)) (elLo v) (elHi v) (elN v) (elL v) (intC (cellA t 0)) (intC (cellA i 0)) (intC (cellA i 1))).2.2)
  | _ => none
def sum38 : List CV → Option (Bool × Ret)
  | [v, q] => some (okEl v && okR 2 q, boRet (hasP (elLo v) (elHi v) (elN v) (elL v) (rowN (cellA q 0)) (rowL (cellA q 0))))
  | _ => none
def sum22 : List CV → Option (Bool × Ret)
  | [v, q] => some (okEl v && okR 2 q, boRet (hasP (elLo v) (elHi v) (elN v) (elL v) (rowN (cellA q 0)) (rowL (cellA q 0))))
  | _ => none
def sum23 : List CV → Option (Bool × Ret)
  | [v, u] => some (okEl v && okEl u, boRet (withinP (elLo v) (elHi v) (elN v) (elL v) (elLo u) (elHi u) (elN u) (elL u)))
  | _ => none
def sum46 : List CV → Option (Bool × Ret)
  | [v, u] => some (okEl v && okEl u, boRet (sameP (elLo v) (elHi v) (elN v) (elL v) (elLo u) (elHi u) (elN u) (elL u)))
  | _ => none
def twoRet (e : Nat) (w : Bool) (v u : CV) : Ret := elRet e (twoP w (elLo v) (elHi v) (elN v) (elL v) (elLo u) (elHi u) (elN u) (elL u)).1 (twoP w (elLo v) (elHi v) (elN v) (elL v) (elLo u) (elHi u) (elN u) (elL u)).2.1 (elN v) (twoP w (elLo v) (elHi v) (elN v) (elL v) (elLo u) (elHi u) (elN u) (elL u)).2.2
def sum48 : List CV → Option (Bool × Ret)
  | [v, u, w] => some (okEl v && okEl u && okO none w, twoRet 29 (boolC (cellA w 0)) v u)
  | _ => none
def sum66 : List CV → Option (Bool × Ret)
  | [v, u, f] => match fnOf f with
    | some 45 => some (okEl v && okEl u, twoRet 25 false v u)
    | some 44 => some (okEl v && okEl u, twoRet 25 true v u)
    | _ => none
  | _ => none
def sum36 : List CV → Option (Bool × Ret)
  | [v, u] => some (okEl v && okEl u, twoRet 25 false v u)
  | _ => none
def sum37 : List CV → Option (Bool × Ret)
  | [v, u] => some (okEl v && okEl u, twoRet 25 true v u)
  | _ => none
def sum18 : List CV → Option (Bool × Ret)
  | [v] => some (okEl v, Ret.mk (.one (.own 0 0)) [⟨3, 1, (tagsL (elN v) (elL v)).length, ic .i64 (tagsL (elN v) (elL v)), true⟩])
  | _ => none

/-- A row of sends: so many of them. -/
def buildP (size : Int) (n : Nat) (row : List Int) : Nat → Int × Int × List Int
  | 0 => (0, 0, noneL n)
  | k + 1 => sendP size (buildP size n row k).1 (buildP size n row k).2.1 n (buildP size n row k).2.2 (row.getD (k * 3) 0)
      (nI (f31_0 (row.getD (k * 3 + 1) 0) (row.getD (k * 3 + 2) 0)) (f31_1 (row.getD (k * 3 + 1) 0) (row.getD (k * 3 + 2) 0))).1 (nI (f31_0 (row.getD (k * 3 + 1) 0) (row.getD (k * 3 + 2) 0)) (f31_1 (row.getD (k * 3 + 1) 0) (row.getD (k * 3 + 2) 0))).2
def buildR (t s : CV) (r : CV) : Int × Int × List Int := buildP (intC (cellA s 0)) (intC (cellA t 0)).toNat (rowL (cellA r 0)) (min (rowN (cellA r 0)) 20)
def sum16 : List CV → Option (Bool × Ret)
  | [t, s, r] => some (okO (some .i64) t && okO (some .i64) s && okRU 3 r && decide (1 ≤ intC (cellA t 0)) && decide (intC (cellA t 0) ≤ 1000) && decide (0 ≤ intC (cellA s 0)) && decide (intC (cellA s 0) ≤ 1000),
      Ret.mk (.tup [.agg [.v (.int .i64 (buildR t s r).1), .v (.int .i64 (buildR t s r).2.1), .own 0 0], .agg [.v (.int .i64 (buildR t s r).1), .v (.int .i64 (buildR t s r).2.1), .own 0 1], .one (.v (.bool true))])
        [⟨25, 2, (intC (cellA t 0)).toNat, ic .i64 (buildR t s r).2.2, true⟩, ⟨29, 2, (intC (cellA t 0)).toNat, ic .i64 (buildR t s r).2.2, true⟩])
  | _ => none
def sum17 : List CV → Option (Bool × Ret)
  | [] => some (true, boRet true)
  | _ => none

end Go.Proofs.Ytlfojobligplkaa.Fn
