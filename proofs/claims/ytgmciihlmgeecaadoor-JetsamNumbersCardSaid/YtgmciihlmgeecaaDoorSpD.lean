import Derived.Test.YtgmciihlmgeecaaDoorSpN
/- What is told of the functions that the law calls, by the seat's numbers. Definitions alone. -/
namespace Go.Proofs.YtgmciihlmgeecaaDoor.Fn
open Go Go.RowKit Go.Proofs.YtgmciihlmgeecaaDoor.Mt Go.Proofs.YtgmciihlmgeecaaDoor.Zm

def sum4d : List CV → Option (Bool × Ret) := sum41
def sum5d : List CV → Option (Bool × Ret) := sum51
def sum6d : List CV → Option (Bool × Ret) := sum53
def sum7d : List CV → Option (Bool × Ret) := sum59
def sum8d : List CV → Option (Bool × Ret) := sum52
def sum9d : List CV → Option (Bool × Ret)
  | [] => some (true, boRet true)
  | _ => none
def sum10d : List CV → Option (Bool × Ret) := sum45
def sum11d : List CV → Option (Bool × Ret) := sum29
def sum12d : List CV → Option (Bool × Ret) := sum30
def sum13d : List CV → Option (Bool × Ret) := sum54
def sum14d : List CV → Option (Bool × Ret) := sum60
end Go.Proofs.YtgmciihlmgeecaaDoor.Fn
