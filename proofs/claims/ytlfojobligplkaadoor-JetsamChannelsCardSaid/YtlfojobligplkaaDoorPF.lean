import Derived.Test.YtlfojobligplkaaDoorRows
import Derived.JoinedOf
import Derived.WalkKit
import Derived.ProofKit
/- Facts of the program that each row's closed facts need. No conditions. -/
namespace Go.Proofs.YtlfojobligplkaaDoor.PF
open Go Go.Proofs
theorem and_i {a b : Bool} (h : a = true) (h' : b = true) : (a && b) = true := by rw [h, h']; rfl
/-- The word of the order of beginnings, sign by sign. -/
def signs : List Char := List.map Char.ofNat [104, 97, 114, 110, 101, 115, 115, 32, 55, 57, 100, 54, 49, 55, 48, 56, 56, 55, 97, 54, 102, 99, 53, 54, 48, 100, 101, 51, 100, 57, 50, 48, 50, 54, 101, 54, 100, 55, 102, 55, 101, 54, 100, 97, 99, 50, 99, 99, 54, 54, 53, 100, 56, 48, 49, 56, 56, 55, 56, 52, 57, 52, 100, 50, 102, 99, 57, 56, 99, 56, 57, 55, 32, 99, 117, 116, 32, 97, 116, 32, 106, 101, 116, 115, 97, 109, 47, 106, 101, 116, 115, 97, 109, 116, 111, 112, 46, 74, 101, 116, 115, 97, 109, 67, 104, 97, 110, 110, 101, 108, 115]
theorem order : Tryd.prog.initOrder.toList = signs := by
  have e : Tryd.prog.initOrder = String.ofList signs := by kernel_rfl
  rw [e]; exact String.toList_ofList
def cutC : List Char := List.map Char.ofNat [99, 117, 116]
def restL : List (List Char) := List.map (List.map Char.ofNat) [[97, 116], [106, 101, 116, 115, 97, 109, 47, 106, 101, 116, 115, 97, 109, 116, 111, 112, 46, 74, 101, 116, 115, 97, 109, 67, 104, 97, 110, 110, 101, 108, 115]]
theorem words : behindMainWord (wordsSigns signs) = cutC :: restL := by kernel_rfl
theorem strip (ws : List (List Char)) : stripLifts liftWords (cutC :: ws) = ([], cutC :: ws) := by kernel_rfl
theorem enterP (P : Program) (h : P.initOrder.toList = signs) (h2 : P.laysLater = false) (h3 : P.bearsReflect = false) (h4 : P.doorFits [] = true) : P.mayEnter = true := by
  unfold Program.mayEnter
  rw [h, words]
  dsimp only
  rw [strip]
  dsimp only
  rw [h2, h3, h4]
  generalize restL = ws
  kernel_rfl
theorem makeP (P : Program) (h : P.initOrder.toList = signs) : P.make = some .cut := by
  unfold Program.make
  rw [h, words]
  dsimp only
  generalize restL = ws
  kernel_rfl
theorem later : Tryd.prog.laysLater = false := by kernel_rfl
theorem reflect : Tryd.prog.bearsReflect = false := by kernel_rfl
theorem fits : Tryd.prog.doorFits [] = true := by kernel_rfl
theorem enter : Tryd.prog.mayEnter = true := enterP _ order later reflect fits
theorem lifts : Tryd.prog.liftsFinal = false := by
  unfold Program.liftsFinal Program.headLifts
  rw [order, words, strip]
  generalize restL = ws
  kernel_rfl
theorem make : Tryd.prog.make = some .cut := makeP _ order
end Go.Proofs.YtlfojobligplkaaDoor.PF
