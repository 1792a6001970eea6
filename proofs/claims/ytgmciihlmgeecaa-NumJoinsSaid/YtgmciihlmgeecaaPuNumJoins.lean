import Derived.Test.YtgmciihlmgeecaaPuN5
import Derived.Test.YtgmciihlmgeecaaPuN6
import Derived.Test.YtgmciihlmgeecaaPuZD
import Derived.Test.YtgmciihlmgeecaaWLNumJoins
/- NumJoins: the law's function tells true. Conditions: none beyond its arguments' types. -/
namespace Go.Proofs.Ytgmciihlmgeecaa.Fn
open Go Go.RowKit Go.Proofs.Ytgmciihlmgeecaa.Mt Go.Proofs.Ytgmciihlmgeecaa.Zm
set_option linter.unusedVariables false
set_option linter.unusedSimpArgs false

theorem okRowU_ic {s n : Nat} {l : List Int} (h : l.length = n * s) : okRowU s (.sl n (ic .i64 l)) = true := by
  simp only [okRowU, Bool.and_eq_true, beq_iff_eq, ic_len]
  exact ⟨ic_all fun _ => rfl, h⟩
theorem same_refl (z : Zo) : sameZ z z = true := by unfold sameZ; exact decide_eq_true rfl
theorem good_of {n : Nat} {z : Zo} (h : Gd n z) : goodZ z = true := good_iff.2 ⟨n, h⟩
theorem numOk_self {n : Nat} {u : Zo} (h : Gd n u) : numOk u.2.1 (.sl (capN u.1).toNat (ic .i64 (itvsZ u (capN u.1).toNat))) u = true := by simp [numOk, eqRow]
theorem applyN_gd {n : Nat} {z : Zo} (h : Gd n z) {m : Nat} {l : List Int} : Gd n (applyN z m l) := by
  unfold applyN
  split
  · exact h
  · exact rowsN_gd h l _

set_option maxHeartbeats 4000000 in
theorem f18_pure (a0 : Int) (n : Nat) (l : List Int) (hl : l.length = n * 6) (n2 : Nat) (l2 : List Int) (hl2 : l2.length = n2 * 6) : f18_wp a0 n (ic .i64 l) n2 (ic .i64 l2) (fun r' => r' = boRet true) := by
  have hk7 := mod_in (a := a0) (m := 7) (by omega) (by omega)
  have ro := okRowU_ic hl
  have ro2 := okRowU_ic hl2
  unfold f18_wp
  generalize IntKind.i64.wrap ((IntKind.u64.wrap a0).tmod 7) = kk at *
  obtain ⟨K, rfl⟩ : ∃ K : Nat, kk = K := ⟨kk.toNat, by omega⟩
  have K6 : K ≤ 6 := by omega
  have zl : List.map intC (List.replicate 49 (Cell.v (Value.int .i64 0))) = zeroL := by rw [rep_ic, map_ic]
  have oK : okN (K : Int) = true := by unfold okN; simp; omega
  have gN := noneZ_gd K6
  refine letV_j fun u1 h1 => ?_
  refine letV_j fun u2 h2 => ?_
  obtain rfl : u1 = u2 := by rw [← h1, ← h2, zeroN_eq K6]
  have g1 : Gd K u1 := by rw [← h1]; exact zeros_gd K6
  have l1 : u1.2.2.length = 49 := g1.len
  have m1 : zeroL = u1.2.2 := by rw [← h1]; rfl
  have s1 : sameZ (u1.1, u1.2.1, zeroL) u1 = true := by rw [m1]; exact same_refl _
  have d1 : goodZ u1 = true := good_of g1
  have o1 := okSl_itvs (z := u1) (t := (capN u1.1).toNat)
  have n1 := numOk_self g1
  simp only [zl, map_ic, Prod.eta]
  refine ck_i (by (first | with_reducible rfl | ((try simp only [ics]) <;> simp [ics, *] <;> omega))) ?_
  refine letV_j fun u4 h4 => ?_
  have g4 := applyN_gd g1 (m := n) (l := l)
  rw [h4] at g4
  have l4 : u4.2.2.length = 49 := g4.len
  have oN4 := g4.okN
  have o4 := okSl_itvs (z := u4) (t := (capN u4.1).toNat)
  clear h4
  have x1 := h1
  have x2 := h2
  clear h1 h2 m1 gN
  (repeat ((first | with_reducible apply ck_i | with_reducible apply And.intro); · (first | with_reducible rfl | ((try simp only [ics]) <;> simp [ics, *] <;> omega))))
  refine letV_j fun u8 h8 => ?_
  obtain rfl : u1 = u8 := by rw [← h8, x1]
  clear h8
  refine letV_j fun u9 h9 => ?_
  obtain rfl : u1 = u9 := by rw [← h9, x2]
  clear h9 x1 x2
  (repeat ((first | with_reducible apply ck_i | with_reducible apply And.intro); · (first | with_reducible rfl | ((try simp only [ics]) <;> simp [ics, *] <;> omega))))
  refine letV_j fun u11 h11 => ?_
  have g11 := applyN_gd g1 (m := n2) (l := l2)
  rw [h11] at g11
  have l11 : u11.2.2.length = 49 := g11.len
  have oN11 := g11.okN
  have o11 := okSl_itvs (z := u11) (t := (capN u11.1).toNat)
  clear h11
  (repeat ((first | with_reducible apply ck_i | with_reducible apply And.intro); · (first | with_reducible rfl | ((try simp only [ics]) <;> simp [ics, *] <;> omega))))
  have gj := join_gd g4 g11
  have gw := widen_gd g4 g11
  have ej := joinR_eq g4 g11
  have ew := widenR_eq g4 g11
  have er := withinR_eq g4 g11
  have w1 := within_join1 g4 g11
  refine letV_j fun u17 h17 => ?_
  have x17 := h17
  rw [h17] at gj ej w1
  have l17 : u17.2.2.length = 49 := gj.len
  have o17 := okSl_itvs (z := u17) (t := (capN u17.1).toNat)
  have s17 : sameZ u17 u17 = true := same_refl _
  have d17 : goodZ u17 = true := good_of gj
  have n17 := numOk_self gj
  clear h17
  (repeat ((first | with_reducible apply ck_i | with_reducible apply And.intro); · (first | with_reducible rfl | ((try simp only [ics]) <;> simp [ics, *] <;> omega))))
  refine letV_j fun u21 h21 => ?_
  obtain rfl : u17 = u21 := by rw [← h21]; exact ej.symm
  clear h21 ej
  (repeat ((first | with_reducible apply ck_i | with_reducible apply And.intro); · (first | with_reducible rfl | ((try simp only [ics]) <;> simp [ics, *] <;> omega))))
  refine letV_j fun u24 h24 => ?_
  rw [h24] at gw ew
  have l24 : u24.2.2.length = 49 := gw.len
  have o24 := okSl_itvs (z := u24) (t := (capN u24.1).toNat)
  have s24 : sameZ u24 u24 = true := same_refl _
  have d24 : goodZ u24 = true := good_of gw
  have n24 := numOk_self gw
  clear h24
  (repeat ((first | with_reducible apply ck_i | with_reducible apply And.intro); · (first | with_reducible rfl | ((try simp only [ics]) <;> simp [ics, *] <;> omega))))
  refine letV_j fun u26 h26 => ?_
  obtain rfl : u24 = u26 := by rw [← h26]; exact ew.symm
  clear h26 ew
  (repeat ((first | with_reducible apply ck_i | with_reducible apply And.intro); · (first | with_reducible rfl | ((try simp only [ics]) <;> simp [ics, *] <;> omega))))
  refine letV_j fun u32 h32 => ?_
  obtain rfl : u17 = u32 := by rw [← h32, x17]
  clear h32 x17
  (repeat ((first | with_reducible apply ck_i | with_reducible apply And.intro); · (first | with_reducible rfl | ((try simp only [ics]) <;> simp [ics, *] <;> omega))))
  have gN := noneZ_gd K6
  refine letV_j fun u36 h36 => ?_
  have o36 := okSl_itvs (z := u36) (t := (capN u36.1).toNat)
  have w6 : withinZ (u36.1, u36.2.1, zeroL) u4 = true := by
    have e : (u36.1, u36.2.1, zeroL) = noneZ K := by rw [← h36]; rfl
    rw [e]
    exact (Zm.within_iff gN g4).2 (.inl rfl)
  clear h36
  (repeat ((first | with_reducible apply ck_i | with_reducible apply And.intro); · (first | with_reducible rfl | ((try simp only [ics]) <;> simp [ics, *] <;> omega))))
  rw [w6]; rfl
theorem cx18_ok : CtxOk Try.prog cx18.q.ctx := (ctx_cons (g := 42) (ctx_cons (g := 72) (ctx_cons (g := 58) (ctx_cons (g := 43) (ctx_cons (g := 73) (ctx_cons (g := 63) (ctx_cons (g := 56) (ctx_cons (g := 74) (ctx_cons (g := 64) (ctx_cons (g := 54) (ctx_cons (g := 65) (ctx_cons (g := 57) ctx_nil (by kernel_rfl) sum57_ok) (by kernel_rfl) sum65_ok) (by kernel_rfl) sum54_ok) (by kernel_rfl) sum64_ok) (by kernel_rfl) sum74_ok) (by kernel_rfl) sum56_ok) (by kernel_rfl) sum63_ok) (by kernel_rfl) sum73_ok) (by kernel_rfl) sum43_ok) (by kernel_rfl) sum58_ok) (by kernel_rfl) sum72_ok) (by kernel_rfl) sum42_ok)
theorem f18_true (a0 : Int) (n : Nat) (cs : List Cell) (n2 : Nat) (cs2 : List Cell) (_ : (Lit.int .i64 a0).wf = true) {D : Nat} (h : TyC Try.prog D 72 [.sl n cs]) {D2 : Nat} (h2 : TyC Try.prog D2 72 [.sl n2 cs2]) : f18_wp a0 n cs n2 cs2 (fun r' => r' = boRet true) := by
  obtain ⟨l, rfl, e, _⟩ := row_ints (k := .i64) (S := [3, 53, 79, 80]) (s := 6) (by kernel_rfl) Try.underlying72 (by decide) (by kernel_rfl) (by decide) h
  obtain ⟨l2, rfl, e2, _⟩ := row_ints (k := .i64) (S := [3, 53, 79, 80]) (s := 6) (by kernel_rfl) Try.underlying72 (by decide) (by kernel_rfl) (by decide) h2
  exact f18_pure a0 n l e n2 l2 e2

end Go.Proofs.Ytgmciihlmgeecaa.Fn
