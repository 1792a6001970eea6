import Derived.Test.YtgmciihlmgeecaaDoorFnBase
import Derived.Test.YtgmciihlmgeecaaDoorMtO2
import Derived.Test.YtgmciihlmgeecaaDoorMtRow2
import Derived.Test.YtgmciihlmgeecaaDoorZOps4
/- What is told of the functions of zones. Definitions alone. -/
namespace Go.Proofs.YtgmciihlmgeecaaDoor.Fn
open Go Go.RowKit Go.Proofs.YtgmciihlmgeecaaDoor.Mt Go.Proofs.YtgmciihlmgeecaaDoor.Zm

/-- What a call hands back, by a name. -/
def letV {α : Type} (x : α) (k : α → Prop) : Prop := k x
theorem letV_mapE {α : Type} {x : α} {F G : α → Prop} (h : letV x F) (hG : ∀ c, F c → G c) : letV x G := hG x h
theorem letV_i {α : Type} {x : α} {F : α → Prop} (h : ∀ c, c = x → F c) : letV x F := h x rfl
abbrev K49 : List (Option IntKind) := List.replicate 49 (some .i64)
def boRet (b : Bool) : Ret := Ret.mk (.one (.v (.bool b))) []
def inRet (n : Int) : Ret := Ret.mk (.one (.v (.int .i64 n))) []
def twoRet (a b : Int) : Ret := Ret.mk (.agg [.v (.int .i64 a), .v (.int .i64 b)]) []
def itRet (p : Int × Int) : Ret := twoRet p.1 p.2
/-- A zone's cells: how many variables, none, 49 bounds. -/
def okZ : CV → Bool
  | .agg (a :: b :: ds) => isInt .i64 a && okK none b && (ds.all (isInt .i64) && (ds.length == 49))
  | _ => false
def zN (v : CV) : Int := intC (cellA v 0)
def zB (v : CV) : Bool := boolC (cellA v 1)
def zD (v : CV) : List Int := ((cellsA v).drop 2).map intC
def zRet (n : Int) (b : Bool) (D : List Int) : Ret := Ret.mk (.agg (.v (.int .i64 n) :: .v (.bool b) :: ic .i64 D)) []
def zO (v : CV) : Zo := (zN v, zB v, zD v)
def zRe (z : Zo) : Ret := zRet z.1 z.2.1 z.2.2
/-- A row of numbers, a nil one too. -/
def okRowU (s : Nat) : Cell → Bool
  | .sl n cs => cs.all (isInt .i64) && (cs.length == n * s)
  | .v (.slice none 0 0) => true
  | _ => false
def okRU (s : Nat) : CV → Bool
  | .one c => okRowU s c
  | _ => false
def rN : Cell → Nat
  | .sl n _ => n
  | _ => 0
def rL : Cell → List Int
  | .sl _ cs => cs.map intC
  | _ => []

def sum91 : List CV → Option (Bool × Ret)
  | [v] => some (okO (some .i64) v, boRet (okN (intC (cellA v 0))))
  | _ => none
def sum85 : List CV → Option (Bool × Ret)
  | [z, x] => some (okZ z && okO (some .i64) x, boRet (varP (zN z) (zB z) (intC (cellA x 0))))
  | _ => none
def sum84 : List CV → Option (Bool × Ret)
  | [z, x] => some (okZ z && okO (some .i64) x, boRet (norP (zN z) (zB z) (intC (cellA x 0))))
  | _ => none
def sum112 : List CV → Option (Bool × Ret)
  | [n] => some (okO (some .i64) n, zRet (intC (cellA n 0)) true zeroL)
  | _ => none
def psum111 (cs : List Cell) : List CV → Option (Bool × List Cell)
  | [] => some (okZ (.agg cs) && okN (zN (.agg cs)), .v (.int .i64 (zN (.agg cs))) :: .v (.bool (zB (.agg cs))) :: ic .i64 (ownT (zN (.agg cs)).toNat (zD (.agg cs))))
  | _ => none
def psum87 (cs : List Cell) : List CV → Option (Bool × List Cell)
  | [r] => some (okZ (.agg cs) && okN (zN (.agg cs)) && okO (some .i64) r && decide (0 ≤ intC (cellA r 0)) && decide (intC (cellA r 0) ≤ 6),
      .v (.int .i64 (zN (.agg cs))) :: .v (.bool (zB (.agg cs))) :: ic .i64 (forT (intC (cellA r 0)).toNat ((zN (.agg cs)).toNat + 1) (zD (.agg cs))))
  | _ => none
def sum83 : List CV → Option (Bool × Ret)
  | [z] => some (okZ z, zRe (closeZ (zO z)))
  | _ => none
def sum25 : List CV → Option (Bool × Ret)
  | [n] => some (okO (some .i64) n, zRe (topZ (intC (cellA n 0))))
  | _ => none
def sum26 : List CV → Option (Bool × Ret)
  | [z, x, y, b] => some (okZ z && okO (some .i64) x && okO (some .i64) y && okO (some .i64) b, zRe (boundZ (zO z) (intC (cellA x 0)) (intC (cellA y 0)) (intC (cellA b 0))))
  | _ => none
def in16 (x : Int) : Bool := decide (-1 ≤ x) && decide (x ≤ 5)
def sum37 : List CV → Option (Bool × Ret)
  | [z, x] => some (okZ z && okO (some .i64) x, zRe (forgetZ (zO z) (intC (cellA x 0))))
  | _ => none
def sum86 : List CV → Option (Bool × Ret)
  | [z, r, b] => some (okZ z && okN (zN z) && okO (some .i64) r && okO (some .i64) b && decide (0 ≤ intC (cellA r 0)) && decide (intC (cellA r 0) ≤ 6), zRe (movZ (zO z) (intC (cellA r 0)) (intC (cellA b 0))))
  | _ => none
def sum27 : List CV → Option (Bool × Ret)
  | [z, x, y, b] => some (okZ z && okO (some .i64) x && okO (some .i64) y && okO (some .i64) b, zRe (copyZ (zO z) (intC (cellA x 0)) (intC (cellA y 0)) (intC (cellA b 0))))
  | _ => none
def sum36 : List CV → Option (Bool × Ret)
  | [] => some (true, twoRet 1 0)
  | _ => none
def normP (a b : Int) : Int × Int := if a > b then (1, 0) else (a, b)
def ofP (a b : Int) : Int × Int := normP (max a (-2147483648)) (min b 2147483647)
def emptyP (a b : Int) : Bool := decide (a > b)
def sum44 : List CV → Option (Bool × Ret)
  | [v] => some (okA [some .i64, some .i64] v, boRet (emptyP (intC (cellA v 0)) (intC (cellA v 1))))
  | _ => none
def sum97 : List CV → Option (Bool × Ret)
  | [v] => some (okA [some .i64, some .i64] v, itRet (normP (intC (cellA v 0)) (intC (cellA v 1))))
  | _ => none
def sum53 : List CV → Option (Bool × Ret)
  | [a, b] => some (okO (some .i64) a && okO (some .i64) b, itRet (ofP (intC (cellA a 0)) (intC (cellA b 0))))
  | _ => none
def sum30 : List CV → Option (Bool × Ret)
  | [a] => some (okO (some .i64) a, itRet (ofP (intC (cellA a 0)) (intC (cellA a 0))))
  | _ => none
def itvZ (z : Zo) (x : Int) : Int × Int := if varP z.1 z.2.1 x then ofP (wrap64 (- g z.2.2 0 (x + 1).toNat)) (g z.2.2 (x + 1).toNat 0) else (1, 0)
def sum29 : List CV → Option (Bool × Ret)
  | [z, x] => some (okZ z && okO (some .i64) x, itRet (itvZ (zO z) (intC (cellA x 0))))
  | _ => none
def atP (l : List Int) (i : Int) : Int := if i = 0 then 0 else l.getD (i - 1).toNat 0
def sum92 : List CV → Option (Bool × Ret)
  | [v, i] => some (okRU 1 v && okO (some .i64) i && decide (0 ≤ intC (cellA i 0)) && decide (intC (cellA i 0) ≤ (rN (cellA v 0) : Int)) && decide (intC (cellA i 0) ≤ 6), inRet (atP (rL (cellA v 0)) (intC (cellA i 0))))
  | _ => none
/-- Are numbers had? -/
def hasZ (z : Zo) (m : Nat) (l : List Int) : Bool :=
  !z.2.1 && okN z.1 && decide ((m : Int) = z.1) && (List.range (z.1.toNat + 1)).all fun i => decide (-2147483648 ≤ atP l i) && decide (atP l i ≤ 2147483647) && (List.range (z.1.toNat + 1)).all fun j => decide (wrap64 (atP l i - atP l j) ≤ g z.2.2 i j)
def sum38 : List CV → Option (Bool × Ret)
  | [z, v] => some (okZ z && okRU 1 v, boRet (hasZ (zO z) (rN (cellA v 0)) (rL (cellA v 0))))
  | _ => none
def sum96 : List CV → Option (Bool × Ret)
  | [a, b] => some (okZ a && okZ b, boRet (alikeZ (zO a) (zO b)))
  | _ => none
def sum47 : List CV → Option (Bool × Ret)
  | [a, b] => some (okZ a && okZ b, boRet (withinZ (zO a) (zO b)))
  | _ => none
def sum48 : List CV → Option (Bool × Ret)
  | [z] => some (okZ z, boRet (rightZ (zO z)))
  | _ => none
end Go.Proofs.YtgmciihlmgeecaaDoor.Fn
