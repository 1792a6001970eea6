import Derived.Test.YtgmciihlmgeecaaDoorFnBase
import Derived.Test.YtgmciihlmgeecaaDoorMtRun
import Derived.Test.YtgmciihlmgeecaaDoorMtRow2
import Derived.Test.YtgmciihlmgeecaaDoorShelf
/- The lexer at one text, and the law's first look. No conditions. -/
namespace Go.Proofs.YtgmciihlmgeecaaDoor.Fn
open Go Go.RowKit Go.Proofs Go.Proofs.YtgmciihlmgeecaaDoor.Mt
set_option linter.unusedVariables false

def tab48 : List (List CV × Ret) := [([.one (.v (.string ⟨#[49, 48]⟩)), .one (.v (.string ⟨#[48, 49, 50, 51, 52, 53, 54, 55, 56, 57]⟩))], Ret.mk (.one (.v (.string ⟨#[]⟩))) [])]
def tab49 : List (List CV × Ret) := [([.one (.v (.string ⟨#[49, 48]⟩)), .one (.v (.int .i64 10)), .one (.v (.int .i64 32))], Ret.mk (.tup [.one (.v (.int .i64 10)), .one (.v .nilIface)]) [])]
def tab50 : List (List CV × Ret) := [([.one (.v (.string ⟨#[123, 125, 40, 41, 59, 44, 46, 61, 60, 62, 43, 45, 42, 47, 37]⟩)), .one (.v (.int .u8 61))], Ret.mk (.one (.v (.int .i64 7))) []), ([.one (.v (.string ⟨#[123, 125, 40, 41, 59, 44, 46, 61, 60, 62, 43, 45, 42, 47, 37]⟩)), .one (.v (.int .u8 59))], Ret.mk (.one (.v (.int .i64 4))) [])]
theorem at48_0 : SoundAt Tryd.prog 48 [.one (.v (.string ⟨#[49, 48]⟩)), .one (.v (.string ⟨#[48, 49, 50, 51, 52, 53, 54, 55, 56, 57]⟩))] (Ret.mk (.one (.v (.string ⟨#[]⟩))) []) := shelf_trim
theorem tab48_ok : ∀ vs r, tabL tab48 vs = some (true, r) → SoundAt Tryd.prog 48 vs r := tab_ok fun p hp => by
  simp only [tab48, List.mem_cons, List.mem_nil_iff, or_false] at hp
  subst hp; exact at48_0
theorem at49_0 : SoundAt Tryd.prog 49 [.one (.v (.string ⟨#[49, 48]⟩)), .one (.v (.int .i64 10)), .one (.v (.int .i64 32))] (Ret.mk (.tup [.one (.v (.int .i64 10)), .one (.v .nilIface)]) []) := shelf_par
theorem tab49_ok : ∀ vs r, tabL tab49 vs = some (true, r) → SoundAt Tryd.prog 49 vs r := tab_ok fun p hp => by
  simp only [tab49, List.mem_cons, List.mem_nil_iff, or_false] at hp
  subst hp; exact at49_0
theorem at50_0 : SoundAt Tryd.prog 50 [.one (.v (.string ⟨#[123, 125, 40, 41, 59, 44, 46, 61, 60, 62, 43, 45, 42, 47, 37]⟩)), .one (.v (.int .u8 61))] (Ret.mk (.one (.v (.int .i64 7))) []) := shelf_ixb _ _ _ (by decide)
theorem at50_1 : SoundAt Tryd.prog 50 [.one (.v (.string ⟨#[123, 125, 40, 41, 59, 44, 46, 61, 60, 62, 43, 45, 42, 47, 37]⟩)), .one (.v (.int .u8 59))] (Ret.mk (.one (.v (.int .i64 4))) []) := shelf_ixb _ _ _ (by decide)
theorem tab50_ok : ∀ vs r, tabL tab50 vs = some (true, r) → SoundAt Tryd.prog 50 vs r := tab_ok fun p hp => by
  simp only [tab50, List.mem_cons, List.mem_nil_iff, or_false] at hp
  rcases hp with rfl | rfl
  · exact at50_0
  · exact at50_1
def tab41 : List (List CV × Ret) := [([.one (.v (.int .u8 120))], Ret.mk (.one (.v (.bool true))) []), ([.one (.v (.int .u8 61))], Ret.mk (.one (.v (.bool false))) []), ([.one (.v (.int .u8 49))], Ret.mk (.one (.v (.bool false))) []), ([.one (.v (.int .u8 59))], Ret.mk (.one (.v (.bool false))) []), ([.one (.v (.int .u8 32))], Ret.mk (.one (.v (.bool false))) []), ([.one (.v (.int .u8 48))], Ret.mk (.one (.v (.bool false))) [])]
def cxl41 : CtxW := ⟨⟨[], []⟩, 16, []⟩
theorem cxl41_ok : CtxOk Tryd.prog cxl41.q.ctx := ctx_nil
theorem at41_0 : SoundAt Tryd.prog 41 [.one (.v (.int .u8 120))] (Ret.mk (.one (.v (.bool true))) []) := at_run (H := {}) (hd := []) (C := cxl41) (N := 20) mixed cxl41_ok (by kernel_rfl)
theorem at41_1 : SoundAt Tryd.prog 41 [.one (.v (.int .u8 61))] (Ret.mk (.one (.v (.bool false))) []) := at_run (H := {}) (hd := []) (C := cxl41) (N := 20) mixed cxl41_ok (by kernel_rfl)
theorem at41_2 : SoundAt Tryd.prog 41 [.one (.v (.int .u8 49))] (Ret.mk (.one (.v (.bool false))) []) := at_run (H := {}) (hd := []) (C := cxl41) (N := 20) mixed cxl41_ok (by kernel_rfl)
theorem at41_3 : SoundAt Tryd.prog 41 [.one (.v (.int .u8 59))] (Ret.mk (.one (.v (.bool false))) []) := at_run (H := {}) (hd := []) (C := cxl41) (N := 20) mixed cxl41_ok (by kernel_rfl)
theorem at41_4 : SoundAt Tryd.prog 41 [.one (.v (.int .u8 32))] (Ret.mk (.one (.v (.bool false))) []) := at_run (H := {}) (hd := []) (C := cxl41) (N := 20) mixed cxl41_ok (by kernel_rfl)
theorem at41_5 : SoundAt Tryd.prog 41 [.one (.v (.int .u8 48))] (Ret.mk (.one (.v (.bool false))) []) := at_run (H := {}) (hd := []) (C := cxl41) (N := 20) mixed cxl41_ok (by kernel_rfl)
theorem tab41_ok : ∀ vs r, tabL tab41 vs = some (true, r) → SoundAt Tryd.prog 41 vs r := tab_ok fun p hp => by
  simp only [tab41, List.mem_cons, List.mem_nil_iff, or_false] at hp
  rcases hp with rfl | rfl | rfl | rfl | rfl | rfl
  · exact at41_0
  · exact at41_1
  · exact at41_2
  · exact at41_3
  · exact at41_4
  · exact at41_5
def tab44 : List (List CV × Ret) := [([.one (.v (.int .u8 61))], Ret.mk (.one (.v (.bool false))) []), ([.one (.v (.int .u8 49))], Ret.mk (.one (.v (.bool true))) []), ([.one (.v (.int .u8 59))], Ret.mk (.one (.v (.bool false))) []), ([.one (.v (.int .u8 32))], Ret.mk (.one (.v (.bool false))) []), ([.one (.v (.int .u8 48))], Ret.mk (.one (.v (.bool true))) [])]
def cxl44 : CtxW := ⟨⟨[], []⟩, 16, []⟩
theorem cxl44_ok : CtxOk Tryd.prog cxl44.q.ctx := ctx_nil
theorem at44_0 : SoundAt Tryd.prog 44 [.one (.v (.int .u8 61))] (Ret.mk (.one (.v (.bool false))) []) := at_run (H := {}) (hd := []) (C := cxl44) (N := 20) mixed cxl44_ok (by kernel_rfl)
theorem at44_1 : SoundAt Tryd.prog 44 [.one (.v (.int .u8 49))] (Ret.mk (.one (.v (.bool true))) []) := at_run (H := {}) (hd := []) (C := cxl44) (N := 20) mixed cxl44_ok (by kernel_rfl)
theorem at44_2 : SoundAt Tryd.prog 44 [.one (.v (.int .u8 59))] (Ret.mk (.one (.v (.bool false))) []) := at_run (H := {}) (hd := []) (C := cxl44) (N := 20) mixed cxl44_ok (by kernel_rfl)
theorem at44_3 : SoundAt Tryd.prog 44 [.one (.v (.int .u8 32))] (Ret.mk (.one (.v (.bool false))) []) := at_run (H := {}) (hd := []) (C := cxl44) (N := 20) mixed cxl44_ok (by kernel_rfl)
theorem at44_4 : SoundAt Tryd.prog 44 [.one (.v (.int .u8 48))] (Ret.mk (.one (.v (.bool true))) []) := at_run (H := {}) (hd := []) (C := cxl44) (N := 20) mixed cxl44_ok (by kernel_rfl)
theorem tab44_ok : ∀ vs r, tabL tab44 vs = some (true, r) → SoundAt Tryd.prog 44 vs r := tab_ok fun p hp => by
  simp only [tab44, List.mem_cons, List.mem_nil_iff, or_false] at hp
  rcases hp with rfl | rfl | rfl | rfl | rfl
  · exact at44_0
  · exact at44_1
  · exact at44_2
  · exact at44_3
  · exact at44_4
def tab43 : List (List CV × Ret) := [([.one (.v (.string ⟨#[120, 32, 61, 32, 49, 48, 32, 59]⟩))], Ret.mk (.one (.v (.int .i64 1))) []), ([.one (.v (.string ⟨#[49, 48, 32, 59]⟩))], Ret.mk (.one (.v (.int .i64 2))) [])]
def cxl43 : CtxW := ⟨⟨[(41, tabL tab41), (44, tabL tab44)], []⟩, 16, []⟩
theorem cxl43_ok : CtxOk Tryd.prog cxl43.q.ctx := (ctx_cons (g := 41) (ctx_cons (g := 44) ctx_nil (by kernel_rfl) tab44_ok) (by kernel_rfl) tab41_ok)
theorem at43_0 : SoundAt Tryd.prog 43 [.one (.v (.string ⟨#[120, 32, 61, 32, 49, 48, 32, 59]⟩))] (Ret.mk (.one (.v (.int .i64 1))) []) := at_run (H := {}) (hd := [([0, 2, 3], [], [])]) (C := cxl43) (N := 20) mixed cxl43_ok (by kernel_rfl)
theorem at43_1 : SoundAt Tryd.prog 43 [.one (.v (.string ⟨#[49, 48, 32, 59]⟩))] (Ret.mk (.one (.v (.int .i64 2))) []) := at_run (H := {}) (hd := [([0, 2, 3], [], [])]) (C := cxl43) (N := 20) mixed cxl43_ok (by kernel_rfl)
theorem tab43_ok : ∀ vs r, tabL tab43 vs = some (true, r) → SoundAt Tryd.prog 43 vs r := tab_ok fun p hp => by
  simp only [tab43, List.mem_cons, List.mem_nil_iff, or_false] at hp
  rcases hp with rfl | rfl
  · exact at43_0
  · exact at43_1
def tab47 : List (List CV × Ret) := [([.one (.v (.string ⟨#[120]⟩))], Ret.mk (.one (.v (.bool false))) [])]
def cxl47 : CtxW := ⟨⟨[], []⟩, 16, []⟩
theorem cxl47_ok : CtxOk Tryd.prog cxl47.q.ctx := ctx_nil
theorem at47_0 : SoundAt Tryd.prog 47 [.one (.v (.string ⟨#[120]⟩))] (Ret.mk (.one (.v (.bool false))) []) := at_run (H := {}) (hd := []) (C := cxl47) (N := 20) mixed cxl47_ok (by kernel_rfl)
theorem tab47_ok : ∀ vs r, tabL tab47 vs = some (true, r) → SoundAt Tryd.prog 47 vs r := tab_ok fun p hp => by
  simp only [tab47, List.mem_cons, List.mem_nil_iff, or_false] at hp
  subst hp; exact at47_0
def tab42 : List (List CV × Ret) := [([.one (.v (.string ⟨#[120]⟩))], Ret.mk (.tup [.agg [.v (.int .i64 1), .v (.string ⟨#[120]⟩), .v (.int .i64 0), .v (.int .i64 0)], .one (.v (.int .i64 0))]) [])]
def cxl42 : CtxW := ⟨⟨[(47, tabL tab47)], []⟩, 16, []⟩
theorem cxl42_ok : CtxOk Tryd.prog cxl42.q.ctx := (ctx_cons (g := 47) ctx_nil (by kernel_rfl) tab47_ok)
theorem at42_0 : SoundAt Tryd.prog 42 [.one (.v (.string ⟨#[120]⟩))] (Ret.mk (.tup [.agg [.v (.int .i64 1), .v (.string ⟨#[120]⟩), .v (.int .i64 0), .v (.int .i64 0)], .one (.v (.int .i64 0))]) []) := at_run (H := {}) (hd := []) (C := cxl42) (N := 20) mixed cxl42_ok (by kernel_rfl)
theorem tab42_ok : ∀ vs r, tabL tab42 vs = some (true, r) → SoundAt Tryd.prog 42 vs r := tab_ok fun p hp => by
  simp only [tab42, List.mem_cons, List.mem_nil_iff, or_false] at hp
  subst hp; exact at42_0
def tab45 : List (List CV × Ret) := [([.one (.v (.string ⟨#[49, 48]⟩))], Ret.mk (.tup [.one (.v (.int .i64 10)), .one (.v (.int .i64 0))]) [])]
def cxl45 : CtxW := ⟨⟨[(48, tabL tab48), (49, tabL tab49)], []⟩, 16, []⟩
theorem cxl45_ok : CtxOk Tryd.prog cxl45.q.ctx := (ctx_cons (g := 48) (ctx_cons (g := 49) ctx_nil (by kernel_rfl) tab49_ok) (by kernel_rfl) tab48_ok)
theorem at45_0 : SoundAt Tryd.prog 45 [.one (.v (.string ⟨#[49, 48]⟩))] (Ret.mk (.tup [.one (.v (.int .i64 10)), .one (.v (.int .i64 0))]) []) := at_run (H := {}) (hd := []) (C := cxl45) (N := 20) mixed cxl45_ok (by kernel_rfl)
theorem tab45_ok : ∀ vs r, tabL tab45 vs = some (true, r) → SoundAt Tryd.prog 45 vs r := tab_ok fun p hp => by
  simp only [tab45, List.mem_cons, List.mem_nil_iff, or_false] at hp
  subst hp; exact at45_0
def tab46 : List (List CV × Ret) := [([.one (.v (.string ⟨#[61, 32, 49, 48, 32, 59]⟩))], Ret.mk (.one (.v (.int .i64 1))) []), ([.one (.v (.string ⟨#[59]⟩))], Ret.mk (.one (.v (.int .i64 1))) [])]
def cxl46 : CtxW := ⟨⟨[(50, tabL tab50)], []⟩, 16, []⟩
theorem cxl46_ok : CtxOk Tryd.prog cxl46.q.ctx := (ctx_cons (g := 50) ctx_nil (by kernel_rfl) tab50_ok)
theorem at46_0 : SoundAt Tryd.prog 46 [.one (.v (.string ⟨#[61, 32, 49, 48, 32, 59]⟩))] (Ret.mk (.one (.v (.int .i64 1))) []) := at_run (H := {}) (hd := []) (C := cxl46) (N := 20) mixed cxl46_ok (by kernel_rfl)
theorem at46_1 : SoundAt Tryd.prog 46 [.one (.v (.string ⟨#[59]⟩))] (Ret.mk (.one (.v (.int .i64 1))) []) := at_run (H := {}) (hd := []) (C := cxl46) (N := 20) mixed cxl46_ok (by kernel_rfl)
theorem tab46_ok : ∀ vs r, tabL tab46 vs = some (true, r) → SoundAt Tryd.prog 46 vs r := tab_ok fun p hp => by
  simp only [tab46, List.mem_cons, List.mem_nil_iff, or_false] at hp
  rcases hp with rfl | rfl
  · exact at46_0
  · exact at46_1
def tab35 : List (List CV × Ret) := [([.one (.v (.string ⟨#[120, 32, 61, 32, 49, 48, 32, 59]⟩))], Ret.mk (.tup [.agg [.v (.int .i64 1), .v (.string ⟨#[120]⟩), .v (.int .i64 0), .v (.int .i64 0)], .one (.v (.int .i64 0))]) []), ([.one (.v (.string ⟨#[61, 32, 49, 48, 32, 59]⟩))], Ret.mk (.tup [.agg [.v (.int .i64 3), .v (.string ⟨#[61]⟩), .v (.int .i64 0), .v (.int .i64 0)], .one (.v (.int .i64 0))]) []), ([.one (.v (.string ⟨#[49, 48, 32, 59]⟩))], Ret.mk (.tup [.agg [.v (.int .i64 2), .v (.string ⟨#[49, 48]⟩), .v (.int .i64 10), .v (.int .i64 0)], .one (.v (.int .i64 0))]) []), ([.one (.v (.string ⟨#[59]⟩))], Ret.mk (.tup [.agg [.v (.int .i64 3), .v (.string ⟨#[59]⟩), .v (.int .i64 0), .v (.int .i64 0)], .one (.v (.int .i64 0))]) [])]
def cxl35 : CtxW := ⟨⟨[(41, tabL tab41), (44, tabL tab44), (43, tabL tab43), (42, tabL tab42), (45, tabL tab45), (46, tabL tab46)], []⟩, 16, []⟩
theorem cxl35_ok : CtxOk Tryd.prog cxl35.q.ctx := (ctx_cons (g := 41) (ctx_cons (g := 44) (ctx_cons (g := 43) (ctx_cons (g := 42) (ctx_cons (g := 45) (ctx_cons (g := 46) ctx_nil (by kernel_rfl) tab46_ok) (by kernel_rfl) tab45_ok) (by kernel_rfl) tab42_ok) (by kernel_rfl) tab43_ok) (by kernel_rfl) tab44_ok) (by kernel_rfl) tab41_ok)
theorem at35_0 : SoundAt Tryd.prog 35 [.one (.v (.string ⟨#[120, 32, 61, 32, 49, 48, 32, 59]⟩))] (Ret.mk (.tup [.agg [.v (.int .i64 1), .v (.string ⟨#[120]⟩), .v (.int .i64 0), .v (.int .i64 0)], .one (.v (.int .i64 0))]) []) := at_run (H := {}) (hd := []) (C := cxl35) (N := 20) mixed cxl35_ok (by kernel_rfl)
theorem at35_1 : SoundAt Tryd.prog 35 [.one (.v (.string ⟨#[61, 32, 49, 48, 32, 59]⟩))] (Ret.mk (.tup [.agg [.v (.int .i64 3), .v (.string ⟨#[61]⟩), .v (.int .i64 0), .v (.int .i64 0)], .one (.v (.int .i64 0))]) []) := at_run (H := {}) (hd := []) (C := cxl35) (N := 20) mixed cxl35_ok (by kernel_rfl)
theorem at35_2 : SoundAt Tryd.prog 35 [.one (.v (.string ⟨#[49, 48, 32, 59]⟩))] (Ret.mk (.tup [.agg [.v (.int .i64 2), .v (.string ⟨#[49, 48]⟩), .v (.int .i64 10), .v (.int .i64 0)], .one (.v (.int .i64 0))]) []) := at_run (H := {}) (hd := []) (C := cxl35) (N := 20) mixed cxl35_ok (by kernel_rfl)
theorem at35_3 : SoundAt Tryd.prog 35 [.one (.v (.string ⟨#[59]⟩))] (Ret.mk (.tup [.agg [.v (.int .i64 3), .v (.string ⟨#[59]⟩), .v (.int .i64 0), .v (.int .i64 0)], .one (.v (.int .i64 0))]) []) := at_run (H := {}) (hd := []) (C := cxl35) (N := 20) mixed cxl35_ok (by kernel_rfl)
theorem tab35_ok : ∀ vs r, tabL tab35 vs = some (true, r) → SoundAt Tryd.prog 35 vs r := tab_ok fun p hp => by
  simp only [tab35, List.mem_cons, List.mem_nil_iff, or_false] at hp
  rcases hp with rfl | rfl | rfl | rfl
  · exact at35_0
  · exact at35_1
  · exact at35_2
  · exact at35_3
def tab21 : List (List CV × Ret) := [([.one (.v (.string ⟨#[120, 32, 61, 32, 49, 48, 32, 59]⟩))], Ret.mk (.tup [.one (.own 0 0), .one (.v (.int .i64 0)), .one (.v (.int .i64 0))]) [⟨56, 4, 4, [.v (.int .i64 1), .v (.string ⟨#[120]⟩), .v (.int .i64 0), .v (.int .i64 0), .v (.int .i64 3), .v (.string ⟨#[61]⟩), .v (.int .i64 0), .v (.int .i64 2), .v (.int .i64 2), .v (.string ⟨#[49, 48]⟩), .v (.int .i64 10), .v (.int .i64 4), .v (.int .i64 3), .v (.string ⟨#[59]⟩), .v (.int .i64 0), .v (.int .i64 7)], true⟩])]
def cxl21 : CtxW := ⟨⟨[(35, tabL tab35)], []⟩, 16, []⟩
theorem cxl21_ok : CtxOk Tryd.prog cxl21.q.ctx := (ctx_cons (g := 35) ctx_nil (by kernel_rfl) tab35_ok)
theorem at21_0 : SoundAt Tryd.prog 21 [.one (.v (.string ⟨#[120, 32, 61, 32, 49, 48, 32, 59]⟩))] (Ret.mk (.tup [.one (.own 0 0), .one (.v (.int .i64 0)), .one (.v (.int .i64 0))]) [⟨56, 4, 4, [.v (.int .i64 1), .v (.string ⟨#[120]⟩), .v (.int .i64 0), .v (.int .i64 0), .v (.int .i64 3), .v (.string ⟨#[61]⟩), .v (.int .i64 0), .v (.int .i64 2), .v (.int .i64 2), .v (.string ⟨#[49, 48]⟩), .v (.int .i64 10), .v (.int .i64 4), .v (.int .i64 3), .v (.string ⟨#[59]⟩), .v (.int .i64 0), .v (.int .i64 7)], true⟩]) := at_run (H := {}) (hd := [([0, 2, 3, 4, 5, 6], [], [41])]) (C := cxl21) (N := 20) mixed cxl21_ok (by kernel_rfl)
theorem tab21_ok : ∀ vs r, tabL tab21 vs = some (true, r) → SoundAt Tryd.prog 21 vs r := tab_ok fun p hp => by
  simp only [tab21, List.mem_cons, List.mem_nil_iff, or_false] at hp
  subst hp; exact at21_0
def tab9 : List (List CV × Ret) := [([], Ret.mk (.one (.v (.bool true))) [])]
def cxl9 : CtxW := ⟨⟨[(21, tabL tab21)], []⟩, 16, []⟩
theorem cxl9_ok : CtxOk Tryd.prog cxl9.q.ctx := (ctx_cons (g := 21) ctx_nil (by kernel_rfl) tab21_ok)
theorem at9_0 : SoundAt Tryd.prog 9 [] (Ret.mk (.one (.v (.bool true))) []) := at_run (H := { pt := [21] }) (hd := []) (C := cxl9) (N := 20) mixed cxl9_ok (by kernel_rfl)
theorem tab9_ok : ∀ vs r, tabL tab9 vs = some (true, r) → SoundAt Tryd.prog 9 vs r := tab_ok fun p hp => by
  simp only [tab9, List.mem_cons, List.mem_nil_iff, or_false] at hp
  subst hp; exact at9_0

end Go.Proofs.YtgmciihlmgeecaaDoor.Fn