import Derived.Test.YtlfojobligplkaaDoorProg
import Derived.Test.YtlfojobligplkaaDoorMtRow
/- The program's functions, each by what the evaluator finds: what all of them need. No conditions. -/
namespace Go.Proofs.YtlfojobligplkaaDoor.Fn
open Go Go.RowKit Go.Proofs.YtlfojobligplkaaDoor.Mt

theorem mixed : Tryd.prog.follows .mixedOrders = true := by kernel_rfl
def hints : Hints := { ow := [6, 10, 12, 13, 15, 23], pt := [4, 6, 13, 15, 19, 23] }
def ctx0 : CtxQ := {}
theorem ctx0_ok : CtxOk Tryd.prog ctx0.ctx := ctx_nil

/-! Short forms of what is printed. -/
abbrev K51 : List (Option IntKind) := some .i64 :: none :: List.replicate 49 (some .i64)
abbrev n10 (l : List CV) : List CV := .no :: .no :: .no :: .no :: .no :: .no :: .no :: .no :: .no :: .no :: l
abbrev e10 {α : Type} (l : List (List α)) : List (List α) := [] :: [] :: [] :: [] :: [] :: [] :: [] :: [] :: [] :: [] :: l
abbrev oS (d : Nat) (p : SOp) (g : Option (Nat × Bool)) : SOper := ⟨some d, p, g⟩
abbrev oN (p : SOp) : SOper := ⟨none, p, none⟩
abbrev vi (x : Int) : Cell := .v (.int .i64 x)
abbrev vb (x : Bool) : Cell := .v (.bool x)
abbrev o1 (d : Nat) (p : SOp) : SOper := ⟨some d, p, none⟩

end Go.Proofs.YtlfojobligplkaaDoor.Fn
