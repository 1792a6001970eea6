import Derived.Test.YtgmciihlmgeecaaPuE2
import Derived.Test.YtgmciihlmgeecaaPuE3
import Derived.Test.YtgmciihlmgeecaaPuE6
import Derived.Test.YtgmciihlmgeecaaPuN1
import Derived.Test.YtgmciihlmgeecaaWLEvalNones
/- EvalNones: the law's function tells true. Conditions: none beyond its arguments' types, and that no row of the argument is too long. -/
namespace Go.Proofs.Ytgmciihlmgeecaa.Fn
open Go Go.RowKit Go.Proofs.Ytgmciihlmgeecaa.Mt Go.Proofs.Ytgmciihlmgeecaa.Zm
set_option linter.unusedVariables false
set_option linter.unusedSimpArgs false

theorem eval_no {D : Nat} {cs : List Cell} {m : Nat} {l : List Int} : evalC D cs true m l = ((1, 0), false, false) := by
  cases D with
  | zero => rfl
  | succ d => unfold evalC evalO; rw [if_pos rfl]
theorem four_lit (u : List Cell) : [Cell.v (Value.int IntKind.i64 (kK u)), Cell.v (Value.int IntKind.i64 (kV u)), Cell.v (Value.int IntKind.i64 (kX u)), Cell.sl (kN u) (kL u)] = four u := by unfold four; rfl

theorem asg_no {z : Zo} {m : Nat} {x : Int} {e f} (h : e = (((1 : Int), (0 : Int)), false, false)) : asgZ z m x e f = noneZ (m : Int) := by
  subst h; unfold asgZ; rw [if_pos (by decide)]
theorem ass_no {z : Zo} {m : Nat} {k : Int} {t f g} (h : t.1.1 > t.1.2 ∨ t.2.1 > t.2.2) : assZ z m k t f g = noneZ (m : Int) := by
  unfold assZ; rw [if_pos h]
theorem side_no : sideO ((1, 0), false, false) ((1, 0), false, false) = ((1, 0), (1, 0), false, false) := rfl
theorem no_b {n : Int} : (noneZ n).2.1 = true := by unfold noneZ; rfl
theorem none2_ok : numOk true (Cell.sl 2 [Cell.v (Value.int IntKind.i64 (itvZ (noneZ 2) 0).1), Cell.v (Value.int IntKind.i64 (itvZ (noneZ 2) 0).2), Cell.v (Value.int IntKind.i64 (itvZ (noneZ 2) 1).1), Cell.v (Value.int IntKind.i64 (itvZ (noneZ 2) 1).2)]) ((noneZ 2).1, true, List.map intC (List.replicate 49 (Cell.v (Value.int IntKind.i64 0)))) = true := by decide +kernel
theorem topL2 : List.map intC (Cell.v (Value.int IntKind.i64 0) :: Cell.v (Value.int IntKind.i64 2147483648) :: Cell.v (Value.int IntKind.i64 2147483648) :: Cell.v (Value.int IntKind.i64 0) :: Cell.v (Value.int IntKind.i64 0) :: Cell.v (Value.int IntKind.i64 0) :: Cell.v (Value.int IntKind.i64 0) :: Cell.v (Value.int IntKind.i64 2147483647) :: Cell.v (Value.int IntKind.i64 0) :: Cell.v (Value.int IntKind.i64 4294967295) :: Cell.v (Value.int IntKind.i64 0) :: Cell.v (Value.int IntKind.i64 0) :: Cell.v (Value.int IntKind.i64 0) :: Cell.v (Value.int IntKind.i64 0) :: Cell.v (Value.int IntKind.i64 2147483647) :: Cell.v (Value.int IntKind.i64 4294967295) :: List.replicate 33 (Cell.v (Value.int IntKind.i64 0))) = (topZ 2).2.2 := by decide +kernel
theorem top2_ok : numOk (topZ 2).2.1 (Cell.sl 2 [Cell.v (Value.int IntKind.i64 (itvZ (topZ 2) 0).1), Cell.v (Value.int IntKind.i64 (itvZ (topZ 2) 0).2), Cell.v (Value.int IntKind.i64 (itvZ (topZ 2) 1).1), Cell.v (Value.int IntKind.i64 (itvZ (topZ 2) 1).2)]) (topZ 2) = true := by decide +kernel
set_option maxHeartbeats 4000000 in
theorem f23_pure (DD : Nat) (a b c : Int) (n : Nat) (l : List Cell) (x : Int) (h : okE DD (ex a b c n l) = true) (hB : okB DD (ex a b c n l) = true) : f23_wp DD a b c n l x (fun r' => r' = boRet true) := by
  obtain ⟨t1, t2⟩ := tame_ok DD 6 2 (ex a b c n l) h
  have ft := four_tame DD 6 2 (ex a b c n l)
  have h' : okE DD [.v (.int .i64 a), .v (.int .i64 b), .v (.int .i64 c), .sl n l] = true := h
  have hB' : okB DD [.v (.int .i64 a), .v (.int .i64 b), .v (.int .i64 c), .sl n l] = true := hB
  have t1 : okE DD (tameC DD 6 2 [.v (.int .i64 a), .v (.int .i64 b), .v (.int .i64 c), .sl n l]) = true := t1
  have t2 : okB DD (tameC DD 6 2 [.v (.int .i64 a), .v (.int .i64 b), .v (.int .i64 c), .sl n l]) = true := t2
  have ft : four (tameC DD 6 2 [.v (.int .i64 a), .v (.int .i64 b), .v (.int .i64 c), .sl n l]) = tameC DD 6 2 [.v (.int .i64 a), .v (.int .i64 b), .v (.int .i64 c), .sl n l] := ft
  unfold f23_wp
  generalize tameC DD 6 2 [.v (.int .i64 a), .v (.int .i64 b), .v (.int .i64 c), .sl n l] = t at *
  simp only [four_lit]
  refine ck_i (by simp only [h', hB']; rfl) ?_
  refine letV_j fun u2 _ => ?_
  refine ck_i (by simp only [h']; rfl) ?_
  refine letV_j fun u4 _ => letV_j fun u5 _ => letV_j fun u6 _ => letV_j fun u7 _ => ?_
  refine ck_i (by simp only [h']; rfl) ?_
  refine letV_j fun u9 _ => letV_j fun u10 _ => letV_j fun u11 _ => letV_j fun u12 _ => letV_j fun u13 _ => ?_
  refine ck_i (by simp only [h', okC_ic]; rfl) ?_
  refine letV_j fun u15 e15 => letV_j fun u16 e16 => letV_j fun u17 e17 => letV_j fun u18 _ => letV_j fun u19 _ => ?_
  subst e15 e16 e17
  refine ck_i (by simp only [h', okC_ic, Bool.and_true, Bool.true_and, topL2, Prod.eta]; exact top2_ok) ?_
  refine letV_j fun u21 e21 => ?_
  subst e21
  simp only [ft]
  refine ck_i (by simp only [h']; rfl) ?_
  refine ck_i (by simp only [t1, t2]; rfl) ?_
  refine letV_j fun u24 e24 => letV_j fun u25 _ => letV_j fun u26 _ => letV_j fun u27 e27 => ?_
  subst e24
  rw [no_b, eval_no] at e27
  subst e27
  refine ck_i (by simp only [t1]; rfl) ?_
  refine letV_j fun u29 e29 => letV_j fun u30 _ => letV_j fun u31 _ => letV_j fun u32 e32 => ?_
  subst e29 e32
  simp only [ft]
  refine ck_i (by simp only [t1, t2]; rfl) ?_
  refine letV_j fun u34 e34 => letV_j fun u35 e35 => ?_
  rw [no_b, eval_no] at e35
  subst e35
  rw [no_b, eval_no, asg_no rfl] at e34
  subst e34
  refine ck_i (by simp only [t1, okC_ic]; rfl) ?_
  refine ck_i (by rw [ic_len]; rfl) ?_
  refine letV_j fun u38 e38 => letV_j fun u39 e39 => letV_j fun u40 e40 => letV_j fun u41 e41 => ?_
  subst e38 e39 e40 e41
  simp only [ft]
  refine ck_i (by simp only [t1, t2]; rfl) ?_
  refine letV_j fun u43 e43 => ?_
  subst e43
  simp only [ft]
  refine ck_i (by simp only [t1, t2]; rfl) ?_
  refine letV_j fun u45 e45 => letV_j fun u46 e46 => ?_
  rw [no_b, eval_no, side_no] at e46
  subst e46
  rw [no_b, eval_no, side_no, ass_no (by decide)] at e45
  subst e45
  refine ck_i ?_ ?_
  · simp only [t1, okC_ic, Bool.and_true, Bool.true_and]
    exact none2_ok
  refine ck_i (by rw [ic_len]; rfl) ?_
  exact ⟨rfl, rfl, rfl, rfl, rfl, rfl⟩

theorem cx23_ok (d : Nat) : CtxOk Try.prog (cx23 d).q.ctx := (ctx_cons (g := 69) (ctx_cons (g := 68) (ctx_cons (g := 51) (ctx_cons (g := 75) (ctx_cons (g := 79) (ctx_cons (g := 76) (ctx_cons (g := 67) (ctx_cons (g := 57) (ctx_cons (g := 71) (ctx_cons (g := 44) ctx_nil (by kernel_rfl) sum44_ok) (by kernel_rfl) sum71_ok) (by kernel_rfl) sum57_ok) (by kernel_rfl) (sum67_ok d)) (by kernel_rfl) (sum76_ok d)) (by kernel_rfl) (sum79_ok d)) (by kernel_rfl) (sum75_ok d)) (by kernel_rfl) sum51_ok) (by kernel_rfl) (sum68_ok d)) (by kernel_rfl) (sum69_ok d))
theorem f23_law (cs : List Cell) (x : Int) {D : Nat} (h : TyC Try.prog D 93 cs) (_ : (Lit.int .i64 x).wf = true) (hB : okB D cs = true) :
    SoundAt Try.prog 23 [.agg cs, .one (.v (.int .i64 x))] (boRet true) := by
  have o := okE_ty D cs h
  obtain ⟨d', hd, a, b, c, n, l, rfl, _, _⟩ := okE_elim o
  exact f23_sound D a b c n l x (cx23_ok D) (f23_pure D a b c n l x o hB)

end Go.Proofs.Ytgmciihlmgeecaa.Fn
