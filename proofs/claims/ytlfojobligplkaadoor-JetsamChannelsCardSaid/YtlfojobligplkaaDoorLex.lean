import Derived.Test.YtlfojobligplkaaDoorFnBase
import Derived.Test.YtlfojobligplkaaDoorMtRun
import Derived.Test.YtlfojobligplkaaDoorMtRow2
import Derived.Test.YtlfojobligplkaaDoorShelf
/- The lexer at one text, and the law's first look. No conditions. -/
namespace Go.Proofs.YtlfojobligplkaaDoor.Fn
open Go Go.RowKit Go.Proofs Go.Proofs.YtlfojobligplkaaDoor.Mt
set_option linter.unusedVariables false

def tab33 : List (List CV × Ret) := [([.one (.v (.string ⟨#[49, 48]⟩)), .one (.v (.string ⟨#[48, 49, 50, 51, 52, 53, 54, 55, 56, 57]⟩))], Ret.mk (.one (.v (.string ⟨#[]⟩))) [])]
def tab34 : List (List CV × Ret) := [([.one (.v (.string ⟨#[49, 48]⟩)), .one (.v (.int .i64 10)), .one (.v (.int .i64 32))], Ret.mk (.tup [.one (.v (.int .i64 10)), .one (.v .nilIface)]) [])]
def tab35 : List (List CV × Ret) := [([.one (.v (.string ⟨#[123, 125, 40, 41, 59, 44, 46, 61, 60, 62, 43, 45, 42, 47, 37]⟩)), .one (.v (.int .u8 61))], Ret.mk (.one (.v (.int .i64 7))) []), ([.one (.v (.string ⟨#[123, 125, 40, 41, 59, 44, 46, 61, 60, 62, 43, 45, 42, 47, 37]⟩)), .one (.v (.int .u8 59))], Ret.mk (.one (.v (.int .i64 4))) [])]
theorem at33_0 : SoundAt Tryd.prog 33 [.one (.v (.string ⟨#[49, 48]⟩)), .one (.v (.string ⟨#[48, 49, 50, 51, 52, 53, 54, 55, 56, 57]⟩))] (Ret.mk (.one (.v (.string ⟨#[]⟩))) []) := shelf_trim
theorem tab33_ok : ∀ vs r, tabL tab33 vs = some (true, r) → SoundAt Tryd.prog 33 vs r := tab_ok fun p hp => by
  simp only [tab33, List.mem_cons, List.mem_nil_iff, or_false] at hp
  subst hp; exact at33_0
theorem at34_0 : SoundAt Tryd.prog 34 [.one (.v (.string ⟨#[49, 48]⟩)), .one (.v (.int .i64 10)), .one (.v (.int .i64 32))] (Ret.mk (.tup [.one (.v (.int .i64 10)), .one (.v .nilIface)]) []) := shelf_par
theorem tab34_ok : ∀ vs r, tabL tab34 vs = some (true, r) → SoundAt Tryd.prog 34 vs r := tab_ok fun p hp => by
  simp only [tab34, List.mem_cons, List.mem_nil_iff, or_false] at hp
  subst hp; exact at34_0
theorem at35_0 : SoundAt Tryd.prog 35 [.one (.v (.string ⟨#[123, 125, 40, 41, 59, 44, 46, 61, 60, 62, 43, 45, 42, 47, 37]⟩)), .one (.v (.int .u8 61))] (Ret.mk (.one (.v (.int .i64 7))) []) := shelf_ixb _ _ _ (by decide)
theorem at35_1 : SoundAt Tryd.prog 35 [.one (.v (.string ⟨#[123, 125, 40, 41, 59, 44, 46, 61, 60, 62, 43, 45, 42, 47, 37]⟩)), .one (.v (.int .u8 59))] (Ret.mk (.one (.v (.int .i64 4))) []) := shelf_ixb _ _ _ (by decide)
theorem tab35_ok : ∀ vs r, tabL tab35 vs = some (true, r) → SoundAt Tryd.prog 35 vs r := tab_ok fun p hp => by
  simp only [tab35, List.mem_cons, List.mem_nil_iff, or_false] at hp
  rcases hp with rfl | rfl
  · exact at35_0
  · exact at35_1
def tab26 : List (List CV × Ret) := [([.one (.v (.int .u8 120))], Ret.mk (.one (.v (.bool true))) []), ([.one (.v (.int .u8 61))], Ret.mk (.one (.v (.bool false))) []), ([.one (.v (.int .u8 49))], Ret.mk (.one (.v (.bool false))) []), ([.one (.v (.int .u8 59))], Ret.mk (.one (.v (.bool false))) []), ([.one (.v (.int .u8 32))], Ret.mk (.one (.v (.bool false))) []), ([.one (.v (.int .u8 48))], Ret.mk (.one (.v (.bool false))) [])]
def cxl26 : CtxW := ⟨⟨[], []⟩, 16, []⟩
theorem cxl26_ok : CtxOk Tryd.prog cxl26.q.ctx := ctx_nil
theorem at26_0 : SoundAt Tryd.prog 26 [.one (.v (.int .u8 120))] (Ret.mk (.one (.v (.bool true))) []) := at_run (H := {}) (hd := []) (C := cxl26) (N := 20) mixed cxl26_ok (by kernel_rfl)
theorem at26_1 : SoundAt Tryd.prog 26 [.one (.v (.int .u8 61))] (Ret.mk (.one (.v (.bool false))) []) := at_run (H := {}) (hd := []) (C := cxl26) (N := 20) mixed cxl26_ok (by kernel_rfl)
theorem at26_2 : SoundAt Tryd.prog 26 [.one (.v (.int .u8 49))] (Ret.mk (.one (.v (.bool false))) []) := at_run (H := {}) (hd := []) (C := cxl26) (N := 20) mixed cxl26_ok (by kernel_rfl)
theorem at26_3 : SoundAt Tryd.prog 26 [.one (.v (.int .u8 59))] (Ret.mk (.one (.v (.bool false))) []) := at_run (H := {}) (hd := []) (C := cxl26) (N := 20) mixed cxl26_ok (by kernel_rfl)
theorem at26_4 : SoundAt Tryd.prog 26 [.one (.v (.int .u8 32))] (Ret.mk (.one (.v (.bool false))) []) := at_run (H := {}) (hd := []) (C := cxl26) (N := 20) mixed cxl26_ok (by kernel_rfl)
theorem at26_5 : SoundAt Tryd.prog 26 [.one (.v (.int .u8 48))] (Ret.mk (.one (.v (.bool false))) []) := at_run (H := {}) (hd := []) (C := cxl26) (N := 20) mixed cxl26_ok (by kernel_rfl)
theorem tab26_ok : ∀ vs r, tabL tab26 vs = some (true, r) → SoundAt Tryd.prog 26 vs r := tab_ok fun p hp => by
  simp only [tab26, List.mem_cons, List.mem_nil_iff, or_false] at hp
  rcases hp with rfl | rfl | rfl | rfl | rfl | rfl
  · exact at26_0
  · exact at26_1
  · exact at26_2
  · exact at26_3
  · exact at26_4
  · exact at26_5
def tab29 : List (List CV × Ret) := [([.one (.v (.int .u8 61))], Ret.mk (.one (.v (.bool false))) []), ([.one (.v (.int .u8 49))], Ret.mk (.one (.v (.bool true))) []), ([.one (.v (.int .u8 59))], Ret.mk (.one (.v (.bool false))) []), ([.one (.v (.int .u8 32))], Ret.mk (.one (.v (.bool false))) []), ([.one (.v (.int .u8 48))], Ret.mk (.one (.v (.bool true))) [])]
def cxl29 : CtxW := ⟨⟨[], []⟩, 16, []⟩
theorem cxl29_ok : CtxOk Tryd.prog cxl29.q.ctx := ctx_nil
theorem at29_0 : SoundAt Tryd.prog 29 [.one (.v (.int .u8 61))] (Ret.mk (.one (.v (.bool false))) []) := at_run (H := {}) (hd := []) (C := cxl29) (N := 20) mixed cxl29_ok (by kernel_rfl)
theorem at29_1 : SoundAt Tryd.prog 29 [.one (.v (.int .u8 49))] (Ret.mk (.one (.v (.bool true))) []) := at_run (H := {}) (hd := []) (C := cxl29) (N := 20) mixed cxl29_ok (by kernel_rfl)
theorem at29_2 : SoundAt Tryd.prog 29 [.one (.v (.int .u8 59))] (Ret.mk (.one (.v (.bool false))) []) := at_run (H := {}) (hd := []) (C := cxl29) (N := 20) mixed cxl29_ok (by kernel_rfl)
theorem at29_3 : SoundAt Tryd.prog 29 [.one (.v (.int .u8 32))] (Ret.mk (.one (.v (.bool false))) []) := at_run (H := {}) (hd := []) (C := cxl29) (N := 20) mixed cxl29_ok (by kernel_rfl)
theorem at29_4 : SoundAt Tryd.prog 29 [.one (.v (.int .u8 48))] (Ret.mk (.one (.v (.bool true))) []) := at_run (H := {}) (hd := []) (C := cxl29) (N := 20) mixed cxl29_ok (by kernel_rfl)
theorem tab29_ok : ∀ vs r, tabL tab29 vs = some (true, r) → SoundAt Tryd.prog 29 vs r := tab_ok fun p hp => by
  simp only [tab29, List.mem_cons, List.mem_nil_iff, or_false] at hp
  rcases hp with rfl | rfl | rfl | rfl | rfl
  · exact at29_0
  · exact at29_1
  · exact at29_2
  · exact at29_3
  · exact at29_4
def tab28 : List (List CV × Ret) := [([.one (.v (.string ⟨#[120, 32, 61, 32, 49, 48, 32, 59]⟩))], Ret.mk (.one (.v (.int .i64 1))) []), ([.one (.v (.string ⟨#[49, 48, 32, 59]⟩))], Ret.mk (.one (.v (.int .i64 2))) [])]
def cxl28 : CtxW := ⟨⟨[(26, tabL tab26), (29, tabL tab29)], []⟩, 16, []⟩
theorem cxl28_ok : CtxOk Tryd.prog cxl28.q.ctx := (ctx_cons (g := 26) (ctx_cons (g := 29) ctx_nil (by kernel_rfl) tab29_ok) (by kernel_rfl) tab26_ok)
theorem at28_0 : SoundAt Tryd.prog 28 [.one (.v (.string ⟨#[120, 32, 61, 32, 49, 48, 32, 59]⟩))] (Ret.mk (.one (.v (.int .i64 1))) []) := at_run (H := {}) (hd := [([0, 2, 3], [], [])]) (C := cxl28) (N := 20) mixed cxl28_ok (by kernel_rfl)
theorem at28_1 : SoundAt Tryd.prog 28 [.one (.v (.string ⟨#[49, 48, 32, 59]⟩))] (Ret.mk (.one (.v (.int .i64 2))) []) := at_run (H := {}) (hd := [([0, 2, 3], [], [])]) (C := cxl28) (N := 20) mixed cxl28_ok (by kernel_rfl)
theorem tab28_ok : ∀ vs r, tabL tab28 vs = some (true, r) → SoundAt Tryd.prog 28 vs r := tab_ok fun p hp => by
  simp only [tab28, List.mem_cons, List.mem_nil_iff, or_false] at hp
  rcases hp with rfl | rfl
  · exact at28_0
  · exact at28_1
def tab32 : List (List CV × Ret) := [([.one (.v (.string ⟨#[120]⟩))], Ret.mk (.one (.v (.bool false))) [])]
def cxl32 : CtxW := ⟨⟨[], []⟩, 16, []⟩
theorem cxl32_ok : CtxOk Tryd.prog cxl32.q.ctx := ctx_nil
theorem at32_0 : SoundAt Tryd.prog 32 [.one (.v (.string ⟨#[120]⟩))] (Ret.mk (.one (.v (.bool false))) []) := at_run (H := {}) (hd := []) (C := cxl32) (N := 20) mixed cxl32_ok (by kernel_rfl)
theorem tab32_ok : ∀ vs r, tabL tab32 vs = some (true, r) → SoundAt Tryd.prog 32 vs r := tab_ok fun p hp => by
  simp only [tab32, List.mem_cons, List.mem_nil_iff, or_false] at hp
  subst hp; exact at32_0
def tab27 : List (List CV × Ret) := [([.one (.v (.string ⟨#[120]⟩))], Ret.mk (.tup [.agg [.v (.int .i64 1), .v (.string ⟨#[120]⟩), .v (.int .i64 0), .v (.int .i64 0)], .one (.v (.int .i64 0))]) [])]
def cxl27 : CtxW := ⟨⟨[(32, tabL tab32)], []⟩, 16, []⟩
theorem cxl27_ok : CtxOk Tryd.prog cxl27.q.ctx := (ctx_cons (g := 32) ctx_nil (by kernel_rfl) tab32_ok)
theorem at27_0 : SoundAt Tryd.prog 27 [.one (.v (.string ⟨#[120]⟩))] (Ret.mk (.tup [.agg [.v (.int .i64 1), .v (.string ⟨#[120]⟩), .v (.int .i64 0), .v (.int .i64 0)], .one (.v (.int .i64 0))]) []) := at_run (H := {}) (hd := []) (C := cxl27) (N := 20) mixed cxl27_ok (by kernel_rfl)
theorem tab27_ok : ∀ vs r, tabL tab27 vs = some (true, r) → SoundAt Tryd.prog 27 vs r := tab_ok fun p hp => by
  simp only [tab27, List.mem_cons, List.mem_nil_iff, or_false] at hp
  subst hp; exact at27_0
def tab30 : List (List CV × Ret) := [([.one (.v (.string ⟨#[49, 48]⟩))], Ret.mk (.tup [.one (.v (.int .i64 10)), .one (.v (.int .i64 0))]) [])]
def cxl30 : CtxW := ⟨⟨[(33, tabL tab33), (34, tabL tab34)], []⟩, 16, []⟩
theorem cxl30_ok : CtxOk Tryd.prog cxl30.q.ctx := (ctx_cons (g := 33) (ctx_cons (g := 34) ctx_nil (by kernel_rfl) tab34_ok) (by kernel_rfl) tab33_ok)
theorem at30_0 : SoundAt Tryd.prog 30 [.one (.v (.string ⟨#[49, 48]⟩))] (Ret.mk (.tup [.one (.v (.int .i64 10)), .one (.v (.int .i64 0))]) []) := at_run (H := {}) (hd := []) (C := cxl30) (N := 20) mixed cxl30_ok (by kernel_rfl)
theorem tab30_ok : ∀ vs r, tabL tab30 vs = some (true, r) → SoundAt Tryd.prog 30 vs r := tab_ok fun p hp => by
  simp only [tab30, List.mem_cons, List.mem_nil_iff, or_false] at hp
  subst hp; exact at30_0
def tab31 : List (List CV × Ret) := [([.one (.v (.string ⟨#[61, 32, 49, 48, 32, 59]⟩))], Ret.mk (.one (.v (.int .i64 1))) []), ([.one (.v (.string ⟨#[59]⟩))], Ret.mk (.one (.v (.int .i64 1))) [])]
def cxl31 : CtxW := ⟨⟨[(35, tabL tab35)], []⟩, 16, []⟩
theorem cxl31_ok : CtxOk Tryd.prog cxl31.q.ctx := (ctx_cons (g := 35) ctx_nil (by kernel_rfl) tab35_ok)
theorem at31_0 : SoundAt Tryd.prog 31 [.one (.v (.string ⟨#[61, 32, 49, 48, 32, 59]⟩))] (Ret.mk (.one (.v (.int .i64 1))) []) := at_run (H := {}) (hd := []) (C := cxl31) (N := 20) mixed cxl31_ok (by kernel_rfl)
theorem at31_1 : SoundAt Tryd.prog 31 [.one (.v (.string ⟨#[59]⟩))] (Ret.mk (.one (.v (.int .i64 1))) []) := at_run (H := {}) (hd := []) (C := cxl31) (N := 20) mixed cxl31_ok (by kernel_rfl)
theorem tab31_ok : ∀ vs r, tabL tab31 vs = some (true, r) → SoundAt Tryd.prog 31 vs r := tab_ok fun p hp => by
  simp only [tab31, List.mem_cons, List.mem_nil_iff, or_false] at hp
  rcases hp with rfl | rfl
  · exact at31_0
  · exact at31_1
def tab25 : List (List CV × Ret) := [([.one (.v (.string ⟨#[120, 32, 61, 32, 49, 48, 32, 59]⟩))], Ret.mk (.tup [.agg [.v (.int .i64 1), .v (.string ⟨#[120]⟩), .v (.int .i64 0), .v (.int .i64 0)], .one (.v (.int .i64 0))]) []), ([.one (.v (.string ⟨#[61, 32, 49, 48, 32, 59]⟩))], Ret.mk (.tup [.agg [.v (.int .i64 3), .v (.string ⟨#[61]⟩), .v (.int .i64 0), .v (.int .i64 0)], .one (.v (.int .i64 0))]) []), ([.one (.v (.string ⟨#[49, 48, 32, 59]⟩))], Ret.mk (.tup [.agg [.v (.int .i64 2), .v (.string ⟨#[49, 48]⟩), .v (.int .i64 10), .v (.int .i64 0)], .one (.v (.int .i64 0))]) []), ([.one (.v (.string ⟨#[59]⟩))], Ret.mk (.tup [.agg [.v (.int .i64 3), .v (.string ⟨#[59]⟩), .v (.int .i64 0), .v (.int .i64 0)], .one (.v (.int .i64 0))]) [])]
def cxl25 : CtxW := ⟨⟨[(26, tabL tab26), (29, tabL tab29), (28, tabL tab28), (27, tabL tab27), (30, tabL tab30), (31, tabL tab31)], []⟩, 16, []⟩
theorem cxl25_ok : CtxOk Tryd.prog cxl25.q.ctx := (ctx_cons (g := 26) (ctx_cons (g := 29) (ctx_cons (g := 28) (ctx_cons (g := 27) (ctx_cons (g := 30) (ctx_cons (g := 31) ctx_nil (by kernel_rfl) tab31_ok) (by kernel_rfl) tab30_ok) (by kernel_rfl) tab27_ok) (by kernel_rfl) tab28_ok) (by kernel_rfl) tab29_ok) (by kernel_rfl) tab26_ok)
theorem at25_0 : SoundAt Tryd.prog 25 [.one (.v (.string ⟨#[120, 32, 61, 32, 49, 48, 32, 59]⟩))] (Ret.mk (.tup [.agg [.v (.int .i64 1), .v (.string ⟨#[120]⟩), .v (.int .i64 0), .v (.int .i64 0)], .one (.v (.int .i64 0))]) []) := at_run (H := {}) (hd := []) (C := cxl25) (N := 20) mixed cxl25_ok (by kernel_rfl)
theorem at25_1 : SoundAt Tryd.prog 25 [.one (.v (.string ⟨#[61, 32, 49, 48, 32, 59]⟩))] (Ret.mk (.tup [.agg [.v (.int .i64 3), .v (.string ⟨#[61]⟩), .v (.int .i64 0), .v (.int .i64 0)], .one (.v (.int .i64 0))]) []) := at_run (H := {}) (hd := []) (C := cxl25) (N := 20) mixed cxl25_ok (by kernel_rfl)
theorem at25_2 : SoundAt Tryd.prog 25 [.one (.v (.string ⟨#[49, 48, 32, 59]⟩))] (Ret.mk (.tup [.agg [.v (.int .i64 2), .v (.string ⟨#[49, 48]⟩), .v (.int .i64 10), .v (.int .i64 0)], .one (.v (.int .i64 0))]) []) := at_run (H := {}) (hd := []) (C := cxl25) (N := 20) mixed cxl25_ok (by kernel_rfl)
theorem at25_3 : SoundAt Tryd.prog 25 [.one (.v (.string ⟨#[59]⟩))] (Ret.mk (.tup [.agg [.v (.int .i64 3), .v (.string ⟨#[59]⟩), .v (.int .i64 0), .v (.int .i64 0)], .one (.v (.int .i64 0))]) []) := at_run (H := {}) (hd := []) (C := cxl25) (N := 20) mixed cxl25_ok (by kernel_rfl)
theorem tab25_ok : ∀ vs r, tabL tab25 vs = some (true, r) → SoundAt Tryd.prog 25 vs r := tab_ok fun p hp => by
  simp only [tab25, List.mem_cons, List.mem_nil_iff, or_false] at hp
  rcases hp with rfl | rfl | rfl | rfl
  · exact at25_0
  · exact at25_1
  · exact at25_2
  · exact at25_3
def tab22 : List (List CV × Ret) := [([.one (.v (.string ⟨#[120, 32, 61, 32, 49, 48, 32, 59]⟩))], Ret.mk (.tup [.one (.own 0 0), .one (.v (.int .i64 0)), .one (.v (.int .i64 0))]) [⟨63, 4, 4, [.v (.int .i64 1), .v (.string ⟨#[120]⟩), .v (.int .i64 0), .v (.int .i64 0), .v (.int .i64 3), .v (.string ⟨#[61]⟩), .v (.int .i64 0), .v (.int .i64 2), .v (.int .i64 2), .v (.string ⟨#[49, 48]⟩), .v (.int .i64 10), .v (.int .i64 4), .v (.int .i64 3), .v (.string ⟨#[59]⟩), .v (.int .i64 0), .v (.int .i64 7)], true⟩])]
def cxl22 : CtxW := ⟨⟨[(25, tabL tab25)], []⟩, 16, []⟩
theorem cxl22_ok : CtxOk Tryd.prog cxl22.q.ctx := (ctx_cons (g := 25) ctx_nil (by kernel_rfl) tab25_ok)
theorem at22_0 : SoundAt Tryd.prog 22 [.one (.v (.string ⟨#[120, 32, 61, 32, 49, 48, 32, 59]⟩))] (Ret.mk (.tup [.one (.own 0 0), .one (.v (.int .i64 0)), .one (.v (.int .i64 0))]) [⟨63, 4, 4, [.v (.int .i64 1), .v (.string ⟨#[120]⟩), .v (.int .i64 0), .v (.int .i64 0), .v (.int .i64 3), .v (.string ⟨#[61]⟩), .v (.int .i64 0), .v (.int .i64 2), .v (.int .i64 2), .v (.string ⟨#[49, 48]⟩), .v (.int .i64 10), .v (.int .i64 4), .v (.int .i64 3), .v (.string ⟨#[59]⟩), .v (.int .i64 0), .v (.int .i64 7)], true⟩]) := at_run (H := {}) (hd := [([0, 2, 3, 4, 5, 6], [], [41])]) (C := cxl22) (N := 20) mixed cxl22_ok (by kernel_rfl)
theorem tab22_ok : ∀ vs r, tabL tab22 vs = some (true, r) → SoundAt Tryd.prog 22 vs r := tab_ok fun p hp => by
  simp only [tab22, List.mem_cons, List.mem_nil_iff, or_false] at hp
  subst hp; exact at22_0
def tab11 : List (List CV × Ret) := [([], Ret.mk (.one (.v (.bool true))) [])]
def cxl11 : CtxW := ⟨⟨[(22, tabL tab22)], []⟩, 16, []⟩
theorem cxl11_ok : CtxOk Tryd.prog cxl11.q.ctx := (ctx_cons (g := 22) ctx_nil (by kernel_rfl) tab22_ok)
theorem at11_0 : SoundAt Tryd.prog 11 [] (Ret.mk (.one (.v (.bool true))) []) := at_run (H := { pt := [22] }) (hd := []) (C := cxl11) (N := 20) mixed cxl11_ok (by kernel_rfl)
theorem tab11_ok : ∀ vs r, tabL tab11 vs = some (true, r) → SoundAt Tryd.prog 11 vs r := tab_ok fun p hp => by
  simp only [tab11, List.mem_cons, List.mem_nil_iff, or_false] at hp
  subst hp; exact at11_0

end Go.Proofs.YtlfojobligplkaaDoor.Fn