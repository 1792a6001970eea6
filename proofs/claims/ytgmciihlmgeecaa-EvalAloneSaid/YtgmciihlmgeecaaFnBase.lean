import Derived.Test.YtgmciihlmgeecaaProg
import Derived.Test.YtgmciihlmgeecaaMtRow
/- The program's functions, each by what the evaluator finds: what all of them need. No conditions. -/
namespace Go.Proofs.Ytgmciihlmgeecaa.Fn
open Go Go.RowKit Go.Proofs.Ytgmciihlmgeecaa.Mt

theorem mixed : Try.prog.follows .mixedOrders = true := by kernel_rfl
def hints : Hints := { ow := [38, 41, 45, 50, 52, 54, 56, 58, 59, 60, 68, 69, 70, 73, 74, 75, 76, 78, 79, 82, 95, 103, 106, 107, 109, 110, 113, 120], pt := [41, 42, 50, 51, 52, 57, 58, 59, 73, 74, 76, 77, 79, 80, 93, 109, 110, 120], pc := [87, 111] }
abbrev K51 : List (Option IntKind) := some .i64 :: none :: List.replicate 49 (some .i64)
abbrev n10 (l : List CV) : List CV := .no :: .no :: .no :: .no :: .no :: .no :: .no :: .no :: .no :: .no :: l
abbrev e10 {α : Type} (l : List (List α)) : List (List α) := [] :: [] :: [] :: [] :: [] :: [] :: [] :: [] :: [] :: [] :: l
abbrev oS (d : Nat) (p : SOp) (g : Option (Nat × Bool)) : SOper := ⟨some d, p, g⟩
abbrev oN (p : SOp) : SOper := ⟨none, p, none⟩
abbrev vi (x : Int) : Cell := .v (.int .i64 x)
abbrev vb (x : Bool) : Cell := .v (.bool x)
abbrev o1 (d : Nat) (p : SOp) : SOper := ⟨some d, p, none⟩

end Go.Proofs.Ytgmciihlmgeecaa.Fn
