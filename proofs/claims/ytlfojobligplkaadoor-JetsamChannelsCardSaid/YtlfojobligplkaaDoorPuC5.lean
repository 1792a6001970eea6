import Derived.Test.YtlfojobligplkaaDoorPuC4
import Derived.Test.YtlfojobligplkaaDoorMtRun
/- Functions of rules, at the law's own rule: what is told of each is so. No conditions. -/
namespace Go.Proofs.YtlfojobligplkaaDoor.Fn
open Go Go.RowKit Go.Proofs Go.Proofs.YtlfojobligplkaaDoor.Mt
set_option linter.unusedVariables false
set_option linter.unusedSimpArgs false
set_option maxRecDepth 100000

theorem set_elim {x : Int} (h : setI x = true) : x = 1 ∨ x = 2 ∨ x = 3 := by
  unfold setI at h
  simp only [Bool.or_eq_true, beq_iff_eq] at h
  omega
theorem bit_elim {x : Int} (h : bitI x = true) : x = 0 ∨ x = 1 := by
  unfold bitI at h
  simp only [Bool.or_eq_true, beq_iff_eq] at h
  exact h
/-- The law's channel. -/
def chC (c0 c1 c2 c3 c4 : Int) : CV := .agg [.v (.int .i64 c0), .v (.int .i64 c1), .v (.int .i64 c2), .v (.int .i64 c3), .v (.int .i64 c4), .sl 2 [.sl 2 [.v (.int .i64 1), .v (.int .i64 (-1))], .sl 2 [.v (.int .i64 (-1)), .v (.int .i64 0)]]]
theorem rule_elim {f : Cell} (h : okRule f = true) : f = .sl 2 [.sl 2 [.v (.int .i64 1), .v (.int .i64 (-1))], .sl 2 [.v (.int .i64 (-1)), .v (.int .i64 0)]] := by
  unfold okRule at h
  split at h
  · simp only [Bool.and_eq_true, beq_iff_eq] at h
    obtain ⟨⟨⟨rfl, rfl⟩, rfl⟩, rfl⟩ := h
    rfl
  · cases h
theorem cr_elim {v : CV} (h : okCR v = true) : ∃ c0 c1 c2 c3 c4, v = chC c0 c1 c2 c3 c4 := by
  unfold okCR at h
  split at h
  · rename_i a b c d e f
    simp only [Bool.and_eq_true] at h
    obtain ⟨⟨⟨⟨⟨h0, h1⟩, h2⟩, h3⟩, h4⟩, h5⟩ := h
    have g : ∀ {c : Cell}, isInt .i64 c = true → c = .v (.int .i64 (intC c)) := fun h => (okK_asK (k := some .i64) h).symm
    have e5 := rule_elim h5
    subst e5
    refine ⟨intC a, intC b, intC c, intC d, intC e, ?_⟩
    unfold chC
    rw [← g h0, ← g h1, ← g h2, ← g h3, ← g h4]
  · cases h
theorem sum5_ok : ∀ vs r, sum5 vs = some (true, r) → SoundAt Tryd.prog 5 vs r := fun vs r h => by
  cases vs with
  | nil => cases h; exact at_run (H := hints) (hd := []) (C := ⟨⟨[], []⟩, 16, []⟩) (N := 4) mixed ctx_nil (by kernel_rfl)
  | cons a t => cases h
theorem at9_1_0 : SoundAt Tryd.prog 9 [.one (.v (.int .u8 1)), .one (.v (.int .i64 0))] (boRet (inS 1 0)) := at_run (H := hints) (hd := []) (C := ⟨⟨[], []⟩, 16, []⟩) (N := 4) mixed ctx_nil (by kernel_rfl)
theorem at9_1_1 : SoundAt Tryd.prog 9 [.one (.v (.int .u8 1)), .one (.v (.int .i64 1))] (boRet (inS 1 1)) := at_run (H := hints) (hd := []) (C := ⟨⟨[], []⟩, 16, []⟩) (N := 4) mixed ctx_nil (by kernel_rfl)
theorem at9_1_2 : SoundAt Tryd.prog 9 [.one (.v (.int .u8 1)), .one (.v (.int .i64 2))] (boRet (inS 1 2)) := at_run (H := hints) (hd := []) (C := ⟨⟨[], []⟩, 16, []⟩) (N := 4) mixed ctx_nil (by kernel_rfl)
theorem at9_1_3 : SoundAt Tryd.prog 9 [.one (.v (.int .u8 1)), .one (.v (.int .i64 3))] (boRet (inS 1 3)) := at_run (H := hints) (hd := []) (C := ⟨⟨[], []⟩, 16, []⟩) (N := 4) mixed ctx_nil (by kernel_rfl)
theorem at9_1_4 : SoundAt Tryd.prog 9 [.one (.v (.int .u8 1)), .one (.v (.int .i64 4))] (boRet (inS 1 4)) := at_run (H := hints) (hd := []) (C := ⟨⟨[], []⟩, 16, []⟩) (N := 4) mixed ctx_nil (by kernel_rfl)
theorem at9_1_5 : SoundAt Tryd.prog 9 [.one (.v (.int .u8 1)), .one (.v (.int .i64 5))] (boRet (inS 1 5)) := at_run (H := hints) (hd := []) (C := ⟨⟨[], []⟩, 16, []⟩) (N := 4) mixed ctx_nil (by kernel_rfl)
theorem at9_1_6 : SoundAt Tryd.prog 9 [.one (.v (.int .u8 1)), .one (.v (.int .i64 6))] (boRet (inS 1 6)) := at_run (H := hints) (hd := []) (C := ⟨⟨[], []⟩, 16, []⟩) (N := 4) mixed ctx_nil (by kernel_rfl)
theorem at9_1_7 : SoundAt Tryd.prog 9 [.one (.v (.int .u8 1)), .one (.v (.int .i64 7))] (boRet (inS 1 7)) := at_run (H := hints) (hd := []) (C := ⟨⟨[], []⟩, 16, []⟩) (N := 4) mixed ctx_nil (by kernel_rfl)
theorem at9_2_0 : SoundAt Tryd.prog 9 [.one (.v (.int .u8 2)), .one (.v (.int .i64 0))] (boRet (inS 2 0)) := at_run (H := hints) (hd := []) (C := ⟨⟨[], []⟩, 16, []⟩) (N := 4) mixed ctx_nil (by kernel_rfl)
theorem at9_2_1 : SoundAt Tryd.prog 9 [.one (.v (.int .u8 2)), .one (.v (.int .i64 1))] (boRet (inS 2 1)) := at_run (H := hints) (hd := []) (C := ⟨⟨[], []⟩, 16, []⟩) (N := 4) mixed ctx_nil (by kernel_rfl)
theorem at9_2_2 : SoundAt Tryd.prog 9 [.one (.v (.int .u8 2)), .one (.v (.int .i64 2))] (boRet (inS 2 2)) := at_run (H := hints) (hd := []) (C := ⟨⟨[], []⟩, 16, []⟩) (N := 4) mixed ctx_nil (by kernel_rfl)
theorem at9_2_3 : SoundAt Tryd.prog 9 [.one (.v (.int .u8 2)), .one (.v (.int .i64 3))] (boRet (inS 2 3)) := at_run (H := hints) (hd := []) (C := ⟨⟨[], []⟩, 16, []⟩) (N := 4) mixed ctx_nil (by kernel_rfl)
theorem at9_2_4 : SoundAt Tryd.prog 9 [.one (.v (.int .u8 2)), .one (.v (.int .i64 4))] (boRet (inS 2 4)) := at_run (H := hints) (hd := []) (C := ⟨⟨[], []⟩, 16, []⟩) (N := 4) mixed ctx_nil (by kernel_rfl)
theorem at9_2_5 : SoundAt Tryd.prog 9 [.one (.v (.int .u8 2)), .one (.v (.int .i64 5))] (boRet (inS 2 5)) := at_run (H := hints) (hd := []) (C := ⟨⟨[], []⟩, 16, []⟩) (N := 4) mixed ctx_nil (by kernel_rfl)
theorem at9_2_6 : SoundAt Tryd.prog 9 [.one (.v (.int .u8 2)), .one (.v (.int .i64 6))] (boRet (inS 2 6)) := at_run (H := hints) (hd := []) (C := ⟨⟨[], []⟩, 16, []⟩) (N := 4) mixed ctx_nil (by kernel_rfl)
theorem at9_2_7 : SoundAt Tryd.prog 9 [.one (.v (.int .u8 2)), .one (.v (.int .i64 7))] (boRet (inS 2 7)) := at_run (H := hints) (hd := []) (C := ⟨⟨[], []⟩, 16, []⟩) (N := 4) mixed ctx_nil (by kernel_rfl)
theorem at9_3_0 : SoundAt Tryd.prog 9 [.one (.v (.int .u8 3)), .one (.v (.int .i64 0))] (boRet (inS 3 0)) := at_run (H := hints) (hd := []) (C := ⟨⟨[], []⟩, 16, []⟩) (N := 4) mixed ctx_nil (by kernel_rfl)
theorem at9_3_1 : SoundAt Tryd.prog 9 [.one (.v (.int .u8 3)), .one (.v (.int .i64 1))] (boRet (inS 3 1)) := at_run (H := hints) (hd := []) (C := ⟨⟨[], []⟩, 16, []⟩) (N := 4) mixed ctx_nil (by kernel_rfl)
theorem at9_3_2 : SoundAt Tryd.prog 9 [.one (.v (.int .u8 3)), .one (.v (.int .i64 2))] (boRet (inS 3 2)) := at_run (H := hints) (hd := []) (C := ⟨⟨[], []⟩, 16, []⟩) (N := 4) mixed ctx_nil (by kernel_rfl)
theorem at9_3_3 : SoundAt Tryd.prog 9 [.one (.v (.int .u8 3)), .one (.v (.int .i64 3))] (boRet (inS 3 3)) := at_run (H := hints) (hd := []) (C := ⟨⟨[], []⟩, 16, []⟩) (N := 4) mixed ctx_nil (by kernel_rfl)
theorem at9_3_4 : SoundAt Tryd.prog 9 [.one (.v (.int .u8 3)), .one (.v (.int .i64 4))] (boRet (inS 3 4)) := at_run (H := hints) (hd := []) (C := ⟨⟨[], []⟩, 16, []⟩) (N := 4) mixed ctx_nil (by kernel_rfl)
theorem at9_3_5 : SoundAt Tryd.prog 9 [.one (.v (.int .u8 3)), .one (.v (.int .i64 5))] (boRet (inS 3 5)) := at_run (H := hints) (hd := []) (C := ⟨⟨[], []⟩, 16, []⟩) (N := 4) mixed ctx_nil (by kernel_rfl)
theorem at9_3_6 : SoundAt Tryd.prog 9 [.one (.v (.int .u8 3)), .one (.v (.int .i64 6))] (boRet (inS 3 6)) := at_run (H := hints) (hd := []) (C := ⟨⟨[], []⟩, 16, []⟩) (N := 4) mixed ctx_nil (by kernel_rfl)
theorem at9_3_7 : SoundAt Tryd.prog 9 [.one (.v (.int .u8 3)), .one (.v (.int .i64 7))] (boRet (inS 3 7)) := at_run (H := hints) (hd := []) (C := ⟨⟨[], []⟩, 16, []⟩) (N := 4) mixed ctx_nil (by kernel_rfl)
theorem sum9_ok : ∀ vs r, sum9 vs = some (true, r) → SoundAt Tryd.prog 9 vs r := by
  intro vs r h
  unfold sum9 at h
  split at h
  · simp only [Option.some.injEq, Prod.mk.injEq, Bool.and_eq_true, decide_eq_true_eq] at h
    obtain ⟨⟨⟨⟨⟨h0, h1⟩, h2⟩, h3⟩, h4⟩, rfl⟩ := h
    obtain ⟨x0, rfl⟩ := int_elimK h0
    obtain ⟨x1, rfl⟩ := int_elimK h1
    have h2' : setI x0 = true := h2
    have h3' : 0 ≤ x1 := h3
    have h4' : x1 ≤ 7 := h4
    rcases set_elim h2' with rfl | rfl | rfl
    · rcases (show x1 = 0 ∨ x1 = 1 ∨ x1 = 2 ∨ x1 = 3 ∨ x1 = 4 ∨ x1 = 5 ∨ x1 = 6 ∨ x1 = 7 by omega) with rfl | rfl | rfl | rfl | rfl | rfl | rfl | rfl
      · exact at9_1_0
      · exact at9_1_1
      · exact at9_1_2
      · exact at9_1_3
      · exact at9_1_4
      · exact at9_1_5
      · exact at9_1_6
      · exact at9_1_7
    · rcases (show x1 = 0 ∨ x1 = 1 ∨ x1 = 2 ∨ x1 = 3 ∨ x1 = 4 ∨ x1 = 5 ∨ x1 = 6 ∨ x1 = 7 by omega) with rfl | rfl | rfl | rfl | rfl | rfl | rfl | rfl
      · exact at9_2_0
      · exact at9_2_1
      · exact at9_2_2
      · exact at9_2_3
      · exact at9_2_4
      · exact at9_2_5
      · exact at9_2_6
      · exact at9_2_7
    · rcases (show x1 = 0 ∨ x1 = 1 ∨ x1 = 2 ∨ x1 = 3 ∨ x1 = 4 ∨ x1 = 5 ∨ x1 = 6 ∨ x1 = 7 by omega) with rfl | rfl | rfl | rfl | rfl | rfl | rfl | rfl
      · exact at9_3_0
      · exact at9_3_1
      · exact at9_3_2
      · exact at9_3_3
      · exact at9_3_4
      · exact at9_3_5
      · exact at9_3_6
      · exact at9_3_7
  · cases h
theorem at19_1 : SoundAt Tryd.prog 19 [.one (.v (.int .u8 1))] (Ret.mk (.one (.own 0 0)) [⟨3, 1, (setL 1).length, ic .i64 (setL 1), true⟩]) := at_run (H := hints) (hd := [([0, 3, 5], ([], [14]))]) (C := ⟨⟨[(9, sum9)], []⟩, 16, []⟩) (N := 12) mixed (ctx_cons (g := 9) ctx_nil (by kernel_rfl) sum9_ok) (by kernel_rfl)
theorem at19_2 : SoundAt Tryd.prog 19 [.one (.v (.int .u8 2))] (Ret.mk (.one (.own 0 0)) [⟨3, 1, (setL 2).length, ic .i64 (setL 2), true⟩]) := at_run (H := hints) (hd := [([0, 3, 5], ([], [14]))]) (C := ⟨⟨[(9, sum9)], []⟩, 16, []⟩) (N := 12) mixed (ctx_cons (g := 9) ctx_nil (by kernel_rfl) sum9_ok) (by kernel_rfl)
theorem at19_3 : SoundAt Tryd.prog 19 [.one (.v (.int .u8 3))] (Ret.mk (.one (.own 0 0)) [⟨3, 1, (setL 3).length, ic .i64 (setL 3), true⟩]) := at_run (H := hints) (hd := [([0, 3, 5], ([], [14]))]) (C := ⟨⟨[(9, sum9)], []⟩, 16, []⟩) (N := 12) mixed (ctx_cons (g := 9) ctx_nil (by kernel_rfl) sum9_ok) (by kernel_rfl)
theorem sum19_ok : ∀ vs r, sum19 vs = some (true, r) → SoundAt Tryd.prog 19 vs r := by
  intro vs r h
  unfold sum19 at h
  split at h
  · simp only [Option.some.injEq, Prod.mk.injEq, Bool.and_eq_true, decide_eq_true_eq] at h
    obtain ⟨⟨h0, h2⟩, rfl⟩ := h
    obtain ⟨x0, rfl⟩ := int_elimK h0
    have h2' : setI x0 = true := h2
    rcases set_elim h2' with rfl | rfl | rfl
    · exact at19_1
    · exact at19_2
    · exact at19_3
  · cases h
theorem at20_0_0 (c0 c1 c2 c3 c4 : Int) : SoundAt Tryd.prog 20 [chC c0 c1 c2 c3 c4, .one (.v (.int .i64 0)), .one (.v (.int .i64 0))] (Ret.mk (.tup [.one (.v (.int .i64 (nextN 0 0))), .one (.v (.bool (decide ((0 : Int) = 0))))]) []) := at_run (H := hints) (hd := []) (C := ⟨⟨[], []⟩, 16, []⟩) (N := 4) mixed ctx_nil (by kernel_rfl)
theorem at20_0_1 (c0 c1 c2 c3 c4 : Int) : SoundAt Tryd.prog 20 [chC c0 c1 c2 c3 c4, .one (.v (.int .i64 0)), .one (.v (.int .i64 1))] (Ret.mk (.tup [.one (.v (.int .i64 (nextN 0 1))), .one (.v (.bool (decide ((0 : Int) = 1))))]) []) := at_run (H := hints) (hd := []) (C := ⟨⟨[], []⟩, 16, []⟩) (N := 4) mixed ctx_nil (by kernel_rfl)
theorem at20_1_0 (c0 c1 c2 c3 c4 : Int) : SoundAt Tryd.prog 20 [chC c0 c1 c2 c3 c4, .one (.v (.int .i64 1)), .one (.v (.int .i64 0))] (Ret.mk (.tup [.one (.v (.int .i64 (nextN 1 0))), .one (.v (.bool (decide ((1 : Int) = 0))))]) []) := at_run (H := hints) (hd := []) (C := ⟨⟨[], []⟩, 16, []⟩) (N := 4) mixed ctx_nil (by kernel_rfl)
theorem at20_1_1 (c0 c1 c2 c3 c4 : Int) : SoundAt Tryd.prog 20 [chC c0 c1 c2 c3 c4, .one (.v (.int .i64 1)), .one (.v (.int .i64 1))] (Ret.mk (.tup [.one (.v (.int .i64 (nextN 1 1))), .one (.v (.bool (decide ((1 : Int) = 1))))]) []) := at_run (H := hints) (hd := []) (C := ⟨⟨[], []⟩, 16, []⟩) (N := 4) mixed ctx_nil (by kernel_rfl)
theorem sum20_ok : ∀ vs r, sum20 vs = some (true, r) → SoundAt Tryd.prog 20 vs r := by
  intro vs r h
  unfold sum20 at h
  split at h
  · simp only [Option.some.injEq, Prod.mk.injEq, Bool.and_eq_true] at h
    obtain ⟨⟨⟨⟨⟨h0, h1⟩, h2⟩, h3⟩, h4⟩, rfl⟩ := h
    obtain ⟨c0, c1, c2, c3, c4, rfl⟩ := cr_elim h0
    obtain ⟨x0, rfl⟩ := int_elimK h1
    obtain ⟨x1, rfl⟩ := int_elimK h2
    have h3' : bitI x0 = true := h3
    have h4' : bitI x1 = true := h4
    rcases bit_elim h3' with rfl | rfl <;> rcases bit_elim h4' with rfl | rfl
    · exact at20_0_0 c0 c1 c2 c3 c4
    · exact at20_0_1 c0 c1 c2 c3 c4
    · exact at20_1_0 c0 c1 c2 c3 c4
    · exact at20_1_1 c0 c1 c2 c3 c4
  · cases h
theorem cx8_ok : CtxOk Tryd.prog (CtxW.q ⟨⟨[(19, sum19), (20, sum20)], []⟩, 16, []⟩).ctx := (ctx_cons (g := 19) (ctx_cons (g := 20) ctx_nil (by kernel_rfl) sum20_ok) (by kernel_rfl) sum19_ok)
theorem at8_1_0 (c0 c1 c2 c3 c4 : Int) : SoundAt Tryd.prog 8 [chC c0 c1 c2 c3 c4, .one (.v (.int .u8 1)), .one (.v (.int .i64 0))] (Ret.mk (.tup [.one (.v (.int .u8 (stepN 1 0))), .one (.v (.bool (stepB 1 0)))]) []) := at_run (H := hints) (hd := [([2, 3, 8, 9, 20, 21, 22], ([3], [20]))]) (C := ⟨⟨[(19, sum19), (20, sum20)], []⟩, 16, []⟩) (N := 12) mixed cx8_ok (by kernel_rfl)
theorem at8_1_1 (c0 c1 c2 c3 c4 : Int) : SoundAt Tryd.prog 8 [chC c0 c1 c2 c3 c4, .one (.v (.int .u8 1)), .one (.v (.int .i64 1))] (Ret.mk (.tup [.one (.v (.int .u8 (stepN 1 1))), .one (.v (.bool (stepB 1 1)))]) []) := at_run (H := hints) (hd := [([2, 3, 8, 9, 20, 21, 22], ([3], [20]))]) (C := ⟨⟨[(19, sum19), (20, sum20)], []⟩, 16, []⟩) (N := 12) mixed cx8_ok (by kernel_rfl)
theorem at8_2_0 (c0 c1 c2 c3 c4 : Int) : SoundAt Tryd.prog 8 [chC c0 c1 c2 c3 c4, .one (.v (.int .u8 2)), .one (.v (.int .i64 0))] (Ret.mk (.tup [.one (.v (.int .u8 (stepN 2 0))), .one (.v (.bool (stepB 2 0)))]) []) := at_run (H := hints) (hd := [([2, 3, 8, 9, 20, 21, 22], ([3], [20]))]) (C := ⟨⟨[(19, sum19), (20, sum20)], []⟩, 16, []⟩) (N := 12) mixed cx8_ok (by kernel_rfl)
theorem at8_2_1 (c0 c1 c2 c3 c4 : Int) : SoundAt Tryd.prog 8 [chC c0 c1 c2 c3 c4, .one (.v (.int .u8 2)), .one (.v (.int .i64 1))] (Ret.mk (.tup [.one (.v (.int .u8 (stepN 2 1))), .one (.v (.bool (stepB 2 1)))]) []) := at_run (H := hints) (hd := [([2, 3, 8, 9, 20, 21, 22], ([3], [20]))]) (C := ⟨⟨[(19, sum19), (20, sum20)], []⟩, 16, []⟩) (N := 12) mixed cx8_ok (by kernel_rfl)
theorem at8_3_0 (c0 c1 c2 c3 c4 : Int) : SoundAt Tryd.prog 8 [chC c0 c1 c2 c3 c4, .one (.v (.int .u8 3)), .one (.v (.int .i64 0))] (Ret.mk (.tup [.one (.v (.int .u8 (stepN 3 0))), .one (.v (.bool (stepB 3 0)))]) []) := at_run (H := hints) (hd := [([2, 3, 8, 9, 20, 21, 22], ([3], [20]))]) (C := ⟨⟨[(19, sum19), (20, sum20)], []⟩, 16, []⟩) (N := 12) mixed cx8_ok (by kernel_rfl)
theorem at8_3_1 (c0 c1 c2 c3 c4 : Int) : SoundAt Tryd.prog 8 [chC c0 c1 c2 c3 c4, .one (.v (.int .u8 3)), .one (.v (.int .i64 1))] (Ret.mk (.tup [.one (.v (.int .u8 (stepN 3 1))), .one (.v (.bool (stepB 3 1)))]) []) := at_run (H := hints) (hd := [([2, 3, 8, 9, 20, 21, 22], ([3], [20]))]) (C := ⟨⟨[(19, sum19), (20, sum20)], []⟩, 16, []⟩) (N := 12) mixed cx8_ok (by kernel_rfl)
theorem sum8_ok : ∀ vs r, sum8 vs = some (true, r) → SoundAt Tryd.prog 8 vs r := by
  intro vs r h
  unfold sum8 at h
  split at h
  · simp only [Option.some.injEq, Prod.mk.injEq, Bool.and_eq_true] at h
    obtain ⟨⟨⟨⟨⟨h0, h1⟩, h2⟩, h3⟩, h4⟩, rfl⟩ := h
    obtain ⟨c0, c1, c2, c3, c4, rfl⟩ := cr_elim h0
    obtain ⟨x0, rfl⟩ := int_elimK h1
    obtain ⟨x1, rfl⟩ := int_elimK h2
    have h3' : setI x0 = true := h3
    have h4' : bitI x1 = true := h4
    rcases set_elim h3' with rfl | rfl | rfl <;> rcases bit_elim h4' with rfl | rfl
    · exact at8_1_0 c0 c1 c2 c3 c4
    · exact at8_1_1 c0 c1 c2 c3 c4
    · exact at8_2_0 c0 c1 c2 c3 c4
    · exact at8_2_1 c0 c1 c2 c3 c4
    · exact at8_3_0 c0 c1 c2 c3 c4
    · exact at8_3_1 c0 c1 c2 c3 c4
  · cases h
theorem cx12_ok : CtxOk Tryd.prog (CtxW.q ⟨⟨[(8, sum8), (5, sum5)], []⟩, 16, []⟩).ctx := (ctx_cons (g := 8) (ctx_cons (g := 5) ctx_nil (by kernel_rfl) sum5_ok) (by kernel_rfl) sum8_ok)
theorem at12_0 (c0 c1 c2 c3 c4 : Int) : SoundAt Tryd.prog 12 [chC c0 c1 c2 c3 c4, .one (.sl 0 [])] (Ret.mk (.one (.v (.int .u8 (allN [])))) []) := at_run (H := hints) (hd := [([1, 2, 5, 6], ([2], [])), ([1, 2, 5, 6, 16, 17, 18], ([2], []))]) (C := ⟨⟨[(8, sum8), (5, sum5)], []⟩, 16, []⟩) (N := 12) mixed cx12_ok (by kernel_rfl)
theorem at12_1 (c0 c1 c2 c3 c4 : Int) : SoundAt Tryd.prog 12 [chC c0 c1 c2 c3 c4, .one (.sl 1 [.v (.int .i64 0)])] (Ret.mk (.one (.v (.int .u8 (allN [0])))) []) := at_run (H := hints) (hd := [([1, 2, 5, 6], ([2], [])), ([1, 2, 5, 6, 16, 17, 18], ([2], []))]) (C := ⟨⟨[(8, sum8), (5, sum5)], []⟩, 16, []⟩) (N := 12) mixed cx12_ok (by kernel_rfl)
theorem at12_2 (c0 c1 c2 c3 c4 : Int) : SoundAt Tryd.prog 12 [chC c0 c1 c2 c3 c4, .one (.sl 2 [.v (.int .i64 0), .v (.int .i64 1)])] (Ret.mk (.one (.v (.int .u8 (allN [0, 1])))) []) := at_run (H := hints) (hd := [([1, 2, 5, 6], ([2], [])), ([1, 2, 5, 6, 16, 17, 18], ([2], []))]) (C := ⟨⟨[(8, sum8), (5, sum5)], []⟩, 16, []⟩) (N := 12) mixed cx12_ok (by kernel_rfl)
theorem tg_elim {v : CV} (h : okTg v = true) : v = .one (.sl 0 []) ∨ v = .one (.sl 1 [.v (.int .i64 0)]) ∨ v = .one (.sl 2 [.v (.int .i64 0), .v (.int .i64 1)]) := by
  unfold okTg at h
  split at h
  · rename_i n cs
    simp only [Bool.and_eq_true, beq_iff_eq] at h
    obtain ⟨⟨h1, h2⟩, h3⟩ := h
    have g : ∀ {c : Cell}, isInt .i64 c = true → c = .v (.int .i64 (intC c)) := fun h => (okK_asK (k := some .i64) h).symm
    unfold okTags at h3
    simp only [Bool.or_eq_true, beq_iff_eq] at h3
    rcases h3 with (h3 | h3) | h3
    · cases cs with
      | nil => subst h2; exact .inl rfl
      | cons a t => cases h3
    · cases cs with
      | nil => cases h3
      | cons a t => cases t with
        | cons b u => simp at h3
        | nil =>
          simp only [List.all_cons, List.all_nil, Bool.and_true] at h1
          simp only [List.map_cons, List.map_nil, List.cons.injEq, and_true] at h3
          have := g h1
          rw [h3] at this
          subst this; subst h2
          exact .inr (.inl rfl)
    · cases cs with
      | nil => cases h3
      | cons a t => cases t with
        | nil => simp at h3
        | cons b u => cases u with
          | cons c v => simp at h3
          | nil =>
            simp only [List.all_cons, List.all_nil, Bool.and_true, Bool.and_eq_true] at h1
            simp only [List.map_cons, List.map_nil, List.cons.injEq, and_true] at h3
            have e1 := g h1.1
            have e2 := g h1.2
            rw [h3.1] at e1
            rw [h3.2] at e2
            subst e1; subst e2; subst h2
            exact .inr (.inr rfl)
  · cases h
theorem sum12_ok : ∀ vs r, sum12 vs = some (true, r) → SoundAt Tryd.prog 12 vs r := by
  intro vs r h
  unfold sum12 at h
  split at h
  · simp only [Option.some.injEq, Prod.mk.injEq, Bool.and_eq_true] at h
    obtain ⟨⟨h0, h1⟩, rfl⟩ := h
    obtain ⟨c0, c1, c2, c3, c4, rfl⟩ := cr_elim h0
    rcases tg_elim h1 with rfl | rfl | rfl
    · exact at12_0 c0 c1 c2 c3 c4
    · exact at12_1 c0 c1 c2 c3 c4
    · exact at12_2 c0 c1 c2 c3 c4
  · cases h
end Go.Proofs.YtlfojobligplkaaDoor.Fn
