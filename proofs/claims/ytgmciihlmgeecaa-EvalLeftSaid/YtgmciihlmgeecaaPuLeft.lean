import Derived.Test.YtgmciihlmgeecaaPuE2
import Derived.Test.YtgmciihlmgeecaaPuE6
import Derived.Test.YtgmciihlmgeecaaPuBox
import Derived.Test.YtgmciihlmgeecaaWLEvalLeft
/- EvalLeft: the law's function tells true. Conditions: none beyond its arguments' types. -/
namespace Go.Proofs.Ytgmciihlmgeecaa.Fn
open Go Go.RowKit Go.Proofs.Ytgmciihlmgeecaa.Mt Go.Proofs.Ytgmciihlmgeecaa.Zm
set_option linter.unusedVariables false
set_option linter.unusedSimpArgs false

def badL : List Cell := ex 7 0 0 2 (ex 2 0 0 0 [] ++ ex 1 0 0 0 [])
def bigL : List Cell := ex 4 0 0 2 (ex 1 2147483647 0 0 [] ++ ex 1 1 0 0 [])
theorem big_ev (d m : Nat) (l : List Int) : evalC (d + 2) bigL false m l = ((1, 0), true, false) := rfl
theorem bad_ev (d : Nat) {n : Int} (h1 : -2147483648 ≤ n) (h2 : n ≤ 2147483647) : evalC (d + 2) badL false 1 [n, n] = ((1, 0), false, true) := by
  show twoO 7 (evalC (d + 1) (ex 2 0 0 0 []) false 1 [n, n]) (evalC (d + 1) (ex 1 0 0 0 []) false 1 [n, n]) = _
  have e1 : evalC (d + 1) (ex 2 0 0 0 []) false 1 [n, n] = ((n, n), false, false) := rfl
  have e2 : evalC (d + 1) (ex 1 0 0 0 []) false 1 [n, n] = ((0, 0), false, false) := rfl
  rw [e1, e2]
  have e3 : mI (n, n) allI = (n, n) := by
    unfold mI allI normP
    rw [if_neg (by dsimp only; omega)]
    dsimp only
    rw [show max n (-2147483648) = n by omega, show min n 2147483647 = n by omega, if_neg (by omega)]
  have e4 : mI (0, 0) allI = (0, 0) := rfl
  have e5 : doP 7 (n, n) (0, 0) = ((1, 0), false, true) := by
    unfold doP
    rw [e3, e4, if_neg (by dsimp only; omega)]
    rfl
  unfold twoO
  rw [e5, if_neg (by dsimp only; omega)]
  rfl
theorem left_two {k : Int} (hk : 4 ≤ k ∧ k ≤ 8) (d m : Nat) (l : List Int) {a b : List Cell} (ha : a.length = 4) (e : Bool × Bool) (h : evalC d a false m l = ((1, 0), e)) : evalC (d + 1) (ex k 0 0 2 (a ++ b)) false m l = ((1, 0), e) := by
  show evalO (ex k 0 0 2 (a ++ b)) false m l (evalC d (kid (ex k 0 0 2 (a ++ b)) 0) false m l) _ = _
  rw [kid_two0 ha, h]
  unfold evalO
  rw [show kK (ex k 0 0 2 (a ++ b)) = k from rfl, show kN (ex k 0 0 2 (a ++ b)) = 2 from rfl, if_neg (by decide), if_neg (by omega), if_neg (by omega), if_neg (by omega), if_pos ⟨hk, rfl⟩]
  unfold twoO
  rw [if_pos (show (1 : Int) > 0 by omega)]

set_option maxHeartbeats 2000000 in
set_option maxRecDepth 100000 in
theorem f20_pure (DD : Nat) (a0 a1 : Int) (h : -2147483648 ≤ a0 ∧ a0 ≤ 2147483647) : f20_wp DD a0 a1 (fun r' => r' = boRet true) := by
  have hk := mod_in (a := a1) (m := 5) (by omega) (by omega)
  unfold f20_wp
  rw [w64 (a := a0) (by omega) (by omega)]
  generalize IntKind.i64.wrap ((IntKind.u64.wrap a1).tmod 5) = j at *
  rw [w64 (a := 4 + j) (by omega) (by omega)]
  obtain ⟨k, rfl⟩ : ∃ k, j = k - 4 := ⟨j + 4, by omega⟩
  rw [show 4 + (k - 4) = k by omega]
  refine letV_j fun z0 h0 => ?_
  have b0 : IsBox 1 (fun _ => 0) (fun _ => 0) z0 := by rw [← h0]; exact zeros_box (n := 1) (by omega)
  have l0 : z0.2.2.length = 49 := b0.gd.len
  clear h0
  refine letV_j fun q hq => ?_
  obtain rfl : q = (a0, a0) := by
    rw [← hq]
    unfold ofP normP
    rw [show max a0 (-2147483648) = a0 by omega, show min a0 2147483647 = a0 by omega, if_neg (by omega)]
  clear hq
  refine letV_j fun z hz => ?_
  simp only [map_ic, Prod.eta] at hz
  have b1 := box_held b0 (x := 0) (lo := a0) (hi := a0) (by omega) (by omega) (by omega) (by omega)
  rw [hz] at b1
  clear hz
  have gz := b1.gd
  have lz : z.2.2.length = 49 := gz.len
  have cz : (capN z.1).toNat = 1 := by rw [gz.hn]; rfl
  have nz : z.2.1 = false := b1.some
  have iz : itvZ z 0 = (a0, a0) := by
    rw [box_itv b1 (by omega)]
    show (-(if (1 : Nat) = 1 then -a0 else 0), (if (1 : Nat) = 1 then a0 else 0)) = (a0, a0)
    rw [if_pos rfl, if_pos rfl, Int.neg_neg]
  have sz : itvsZ z 1 = [a0, a0] := by
    show [] ++ [(itvZ z ((0 : Nat) : Int)).1, (itvZ z ((0 : Nat) : Int)).2] = _
    rw [show ((0 : Nat) : Int) = 0 from rfl, iz]; rfl
  have oz := okSl_itvs (z := z) (t := (capN z.1).toNat)
  have nk := numOk_z (z := z)
  rw [cz, sz] at oz nk
  simp only [map_ic, Prod.eta, cz, sz]
  simp only [nz]
  rw [nz] at nk
  clear b0 b1
  refine ck_i (by simp [plain_ic, ics, l0]) ?_
  refine ck_i (by simp [ic_len, lz]) (ck_i (by simp [ic_len, lz]) ?_)
  have x1 := bad_ev 1 h.1 h.2
  have x2 := big_ev 1 1 [a0, a0]
  have x3 := bad_ev 2 h.1 h.2
  have x4 := big_ev 2 1 [a0, a0]
  have y1 := left_two (k := k) (by omega) 3 1 [a0, a0] (a := badL) (b := bigL) rfl _ x1
  have y2 := left_two (k := k) (by omega) 3 1 [a0, a0] (a := bigL) (b := badL) rfl _ x2
  refine letV_j fun u7 h7 => ?_
  obtain rfl : u7 = ((1, 0), false, true) := by rw [← h7]; exact y1
  clear h7
  refine ck_i (by simp [ics, lz, oz]) ?_
  refine letV_j fun u9 h9 => ?_
  obtain rfl : u9 = ((1, 0), true, false) := by rw [← h9]; exact y2
  clear h9
  have s1 : sideO (evalC 4 badL false 1 [a0, a0]) (evalC 4 bigL false 1 [a0, a0]) = ((1, 0), (1, 0), false, true) := by rw [x3, x4]; rfl
  refine letV_j fun u10 h10 => ?_
  obtain rfl : u10 = noneZ 1 := by
    rw [← h10]
    show assZ z 1 1 (testP 1 (sideO (evalC 4 badL false 1 [a0, a0]) (evalC 4 bigL false 1 [a0, a0])).1 (sideO (evalC 4 badL false 1 [a0, a0]) (evalC 4 bigL false 1 [a0, a0])).2.1) _ _ = _
    rw [s1]
    unfold assZ
    rw [if_pos (by decide)]; rfl
  clear h10
  refine letV_j fun u11 h11 => ?_
  obtain rfl : u11 = ((1, 0), (1, 0), false, true) := by rw [← h11]; exact s1
  refine ck_i (by simp [ics, lz, oz, nk]) ?_
  refine ck_i rfl ?_
  exact ⟨rfl, rfl, rfl, rfl, rfl, rfl⟩
theorem f20_law (a0 a1 : Int) (h0 : (Lit.int .i32 a0).wf = true) (_ : (Lit.int .i64 a1).wf = true) : SoundAt Try.prog 20 [.one (.v (.int .i32 a0)), .one (.v (.int .i64 a1))] (boRet true) := by
  refine f20_sound 0 a0 a1 ?_ (f20_pure 0 a0 a1 (by simp [Lit.wf, IntKind.min, IntKind.max, IntKind.bits, IntKind.signed] at h0; omega))
  exact ctx_cons (g := 42) (ctx_cons (g := 30) (ctx_cons (g := 41) (ctx_cons (g := 75) (ctx_cons (g := 76) (ctx_cons (g := 71) (ctx_cons (g := 44) ctx_nil (by kernel_rfl) sum44_ok) (by kernel_rfl) sum71_ok) (by kernel_rfl) (sum76_ok 4)) (by kernel_rfl) (sum75_ok 4)) (by kernel_rfl) sum41_ok) (by kernel_rfl) sum30_ok) (by kernel_rfl) sum42_ok

end Go.Proofs.Ytgmciihlmgeecaa.Fn
