import Derived.Test.YtgmciihlmgeecaaPuE3
import Derived.Test.YtgmciihlmgeecaaWEG
/- Expressions that can be; those that are handed in. Conditions: those that each lemma names. -/
namespace Go.Proofs.Ytgmciihlmgeecaa.Fn
open Go Go.RowKit Go.Proofs.Ytgmciihlmgeecaa.Mt Go.Proofs.Ytgmciihlmgeecaa.Zm
set_option linter.unusedVariables false
set_option linter.unusedSimpArgs false

theorem f71_spec (DD : Nat) : f71_wp DD (fun r' => r' = boRet true) := by
  unfold f71_wp
  show (_ : Ret) = _
  kernel_rfl
theorem sum71_ok : ∀ vs r, sum71 vs = some (true, r) → SoundAt Try.prog 71 vs r := by
  intro vs r h
  unfold sum71 at h
  split at h
  · simp only [Option.some.injEq, Prod.mk.injEq, true_and] at h
    subst h
    exact f71_sound 0 (ctx_cons (g := 42) (ctx_cons (g := 53) (ctx_cons (g := 41) (ctx_cons (g := 75) (ctx_cons (g := 68) ctx_nil (by kernel_rfl) (sum68_ok 3)) (by kernel_rfl) (sum75_ok 3)) (by kernel_rfl) sum41_ok) (by kernel_rfl) sum53_ok) (by kernel_rfl) sum42_ok) (f71_spec 0)
  · cases h

theorem okE_of {d : Nat} {a b c : Int} {n : Nat} {l : List Cell} (h1 : l.length = n * 4) (h2 : ∀ i, i < n → okE d ((l.drop (i * 4)).take 4) = true) : okE (d + 1) (ex a b c n l) = true := by
  unfold okE
  simp only [Bool.and_eq_true, beq_iff_eq, List.all_eq_true, List.mem_range]
  exact ⟨⟨⟨⟨rfl, rfl⟩, rfl⟩, h1⟩, h2⟩
theorem okB_of {d : Nat} {a b c : Int} {n : Nat} {l : List Cell} (h1 : n * 48 ≤ 140737488355328) (h2 : ∀ i, i < n → okB d ((l.drop (i * 4)).take 4) = true) : okB (d + 1) (ex a b c n l) = true := by
  unfold okB
  simp only [Bool.and_eq_true, decide_eq_true_eq, List.all_eq_true, List.mem_range]
  exact ⟨h1, h2⟩
theorem tame_len (d : Nat) (deep vars : Int) (cs : List Cell) : (tameC d deep vars cs).length = 4 := by
  obtain ⟨k, n, x, m, l, e⟩ := tameC_ex d deep vars cs
  rw [e]; rfl
theorem two_0 {a b : List Cell} (ha : a.length = 4) : List.take 4 (List.drop (0 * 4) (a ++ b)) = a := by
  rw [Nat.zero_mul, List.drop_zero, List.take_append_of_le_length (by omega), List.take_of_length_le (by omega)]
theorem two_1 {a b : List Cell} (ha : a.length = 4) (hb : b.length = 4) : List.take 4 (List.drop (1 * 4) (a ++ b)) = b := by
  rw [Nat.one_mul, List.drop_append, List.drop_of_length_le (by omega), List.nil_append, ha, Nat.sub_self, List.drop_zero, List.take_of_length_le (by omega)]
theorem one_0 {a : List Cell} (ha : a.length = 4) : List.take 4 (List.drop (0 * 4) a) = a := by
  rw [Nat.zero_mul, List.drop_zero, List.take_of_length_le (by omega)]
theorem leaf_ok (d : Nat) (k n x : Int) : okE (d + 1) (leafC k n x) = true ∧ okB (d + 1) (leafC k n x) = true := ⟨okE_of (n := 0) (l := []) rfl fun i hi => by omega, okB_of (n := 0) (l := []) (by omega) fun i hi => by omega⟩
theorem tame_ok : ∀ (d : Nat) (deep vars : Int) (cs : List Cell), okE d cs = true → okE d (tameC d deep vars cs) = true ∧ okB d (tameC d deep vars cs) = true
  | 0, _, _, _, h => by cases h
  | d + 1, deep, vars, cs, h => by
    obtain ⟨d', hd, a, b, c, n, l, rfl, _, _⟩ := okE_elim h
    obtain ⟨_, h2⟩ := okE_kid h
    have l0 := tame_len d (deep - 1) vars (kid (ex a b c n l) 0)
    have l1 := tame_len d (deep - 1) vars (kid (ex a b c n l) 1)
    show okE (d + 1) (tameO (ex a b c n l) deep vars _ _) = true ∧ okB (d + 1) (tameO (ex a b c n l) deep vars _ _) = true
    unfold tameO
    rw [show kN (ex a b c n l) = n from rfl]
    split
    · rename_i q
      obtain ⟨e0, b0⟩ := tame_ok d (deep - 1) vars _ (h2 0 (by omega))
      obtain ⟨e1, b1⟩ := tame_ok d (deep - 1) vars _ (h2 1 (by omega))
      refine ⟨okE_of (n := 2) (by rw [List.length_append, l0, l1]) fun i hi => ?_, okB_of (n := 2) (by omega) fun i hi => ?_⟩
      · rcases (show i = 0 ∨ i = 1 by omega) with rfl | rfl
        · rw [two_0 l0]; exact e0
        · rw [two_1 l0 l1]; exact e1
      · rcases (show i = 0 ∨ i = 1 by omega) with rfl | rfl
        · rw [two_0 l0]; exact b0
        · rw [two_1 l0 l1]; exact b1
    · split
      · rename_i q
        obtain ⟨e0, b0⟩ := tame_ok d (deep - 1) vars _ (h2 0 (by omega))
        refine ⟨okE_of (n := 1) (by rw [l0]) fun i hi => ?_, okB_of (n := 1) (by omega) fun i hi => ?_⟩
        · obtain rfl : i = 0 := by omega
          rw [one_0 l0]; exact e0
        · obtain rfl : i = 0 := by omega
          rw [one_0 l0]; exact b0
      · split
        · exact leaf_ok _ _ _ _
        · exact leaf_ok _ _ _ _
theorem mod_big (a : Int) : 0 ≤ IntKind.i64.wrap ((IntKind.u64.wrap a).tmod 2147483648) ∧ IntKind.i64.wrap ((IntKind.u64.wrap a).tmod 2147483648) < 2147483648 := by
  have h0 : 0 ≤ IntKind.u64.wrap a := u64_nonneg a
  have h1 := Int.tmod_nonneg 2147483648 h0
  have h2 := Int.tmod_lt_of_pos (IntKind.u64.wrap a) (show (0 : Int) < 2147483648 by omega)
  rw [w64 (by omega) (by omega)]
  omega
theorem tame_cases (d : Nat) (deep vars : Int) (cs : List Cell) (h : okE (d + 1) cs = true) (hv : 0 < vars ∧ vars ≤ 1000) :
    (∃ k, (4 ≤ k ∧ k ≤ 8) ∧ tameC (d + 1) deep vars cs = ex k 0 0 2 (tameC d (deep - 1) vars (kid cs 0) ++ tameC d (deep - 1) vars (kid cs 1)) ∧ okE d (kid cs 0) = true ∧ okE d (kid cs 1) = true) ∨
    (tameC (d + 1) deep vars cs = ex 3 0 0 1 (tameC d (deep - 1) vars (kid cs 0)) ∧ okE d (kid cs 0) = true) ∨
    (∃ x, (0 ≤ x ∧ x < vars) ∧ tameC (d + 1) deep vars cs = ex 2 0 x 0 []) ∨
    (∃ n, (0 ≤ n ∧ n ≤ 2147483647) ∧ tameC (d + 1) deep vars cs = ex 1 n 0 0 []) := by
  obtain ⟨d', hd, a, b, c, n, l, rfl, _, _⟩ := okE_elim h
  obtain ⟨_, h2⟩ := okE_kid h
  show (∃ k, _ ∧ tameO (ex a b c n l) deep vars _ _ = _ ∧ _ ∧ _) ∨ (tameO (ex a b c n l) deep vars _ _ = _ ∧ _) ∨ (∃ x, _ ∧ tameO (ex a b c n l) deep vars _ _ = _) ∨ (∃ n', _ ∧ tameO (ex a b c n l) deep vars _ _ = _)
  unfold tameO
  rw [show kN (ex a b c n l) = n from rfl, show kK (ex a b c n l) = a from rfl, show kX (ex a b c n l) = c from rfl, show kV (ex a b c n l) = b from rfl]
  split
  · rename_i q
    exact .inl ⟨a, q.1, rfl, h2 0 (by omega), h2 1 (by omega)⟩
  · split
    · exact .inr (.inl ⟨rfl, h2 0 (by omega)⟩)
    · split
      · have m := mod_in (a := c) (m := vars) (by omega) (by omega)
        rw [IntWalk.u64_in vars ⟨by omega, by omega⟩]
        exact .inr (.inr (.inl ⟨_, m, rfl⟩))
      · have m := mod_big b
        exact .inr (.inr (.inr ⟨_, by omega, rfl⟩))
theorem kid_two0 {k : Int} {a b : List Cell} (ha : a.length = 4) : kid (ex k 0 0 2 (a ++ b)) 0 = a := two_0 ha
theorem kid_two1 {k : Int} {a b : List Cell} (ha : a.length = 4) (hb : b.length = 4) : kid (ex k 0 0 2 (a ++ b)) 1 = b := two_1 ha hb
theorem kid_one {k : Int} {a : List Cell} (ha : a.length = 4) : kid (ex k 0 0 1 a) 0 = a := one_0 ha

theorem okE_mono : ∀ (d : Nat) (cs : List Cell), okE d cs = true → okE (d + 1) cs = true
  | 0, _, h => by cases h
  | d + 1, cs, h => by
    obtain ⟨d', hd, a, b, c, n, l, rfl, h1, h2⟩ := okE_elim h
    obtain rfl : d' = d := by omega
    exact okE_of h1 fun i hi => okE_mono d' _ (h2 i hi)
set_option maxRecDepth 100000 in
theorem fields93 : ∃ fs, Try.prog.underlying 93 = some (.struct fs) ∧ fs.toList.map (fun f => (f.type, f.offset)) = [(3, 0), (3, 1), (3, 2), (91, 3)] := by
  refine ⟨_, Try.underlying93, ?_⟩
  rfl
set_option maxRecDepth 100000 in
theorem ty_int {D : Nat} {cs : List Cell} (h : TyC Try.prog D 3 cs) : ∃ n, cs = [.v (.int .i64 n)] := by
  cases D with
  | zero => exact h.elim
  | succ D =>
    unfold TyC at h
    rw [Try.underlying3] at h
    obtain ⟨n, e, _⟩ := h
    exact ⟨n, e⟩
set_option maxRecDepth 100000 in
theorem okE_ty : ∀ (D : Nat) (cs : List Cell), TyC Try.prog D 93 cs → okE D cs = true := by
  intro D
  induction D using Nat.strongRecOn with
  | ind D ih =>
    intro cs h
    cases D with
    | zero => exact h.elim
    | succ D =>
      obtain ⟨fs, hfs, hm⟩ := fields93
      unfold TyC at h
      rw [hfs] at h
      obtain ⟨hl, hf⟩ := h
      have c93 : Try.prog.cellsOf 93 = 4 := by kernel_rfl
      have c3 : Try.prog.cellsOf 3 = 1 := by kernel_rfl
      have c91 : Try.prog.cellsOf 91 = 1 := by kernel_rfl
      rw [c93] at hl
      have key : ∀ (t o : Nat), (t, o) ∈ fs.toList.map (fun f => (f.type, f.offset)) → TyC Try.prog D t ((cs.drop o).take (Try.prog.cellsOf t)) := fun t o hmem => by
        rw [List.mem_map] at hmem
        obtain ⟨f, h1, h2⟩ := hmem
        simp only [Prod.mk.injEq] at h2
        obtain ⟨rfl, rfl⟩ := h2
        exact hf f h1
      rw [hm] at key
      have k0 := key 3 0 (by simp)
      have k1 := key 3 1 (by simp)
      have k2 := key 3 2 (by simp)
      have k3 := key 91 3 (by simp)
      rw [c3] at k0 k1 k2
      rw [c91] at k3
      match cs, hl with
      | [x0, x1, x2, x3], _ =>
        obtain ⟨a, ea⟩ := ty_int k0
        obtain ⟨b, eb⟩ := ty_int k1
        obtain ⟨c, ec⟩ := ty_int k2
        simp only [List.drop_zero, List.drop_succ_cons, List.take_succ_cons, List.take_zero, List.cons.injEq, and_true] at ea eb ec k3
        subst ea; subst eb; subst ec
        cases D with
        | zero => exact k3.elim
        | succ D =>
          unfold TyC at k3
          rw [Try.underlying91] at k3
          obtain ⟨n, es, e, h1, _, h2⟩ := k3
          simp only [List.cons.injEq, and_true] at e
          subst e
          rw [c93] at h1 h2
          exact okE_of h1 fun i hi => okE_mono _ _ (ih D (by omega) _ (h2 i hi))

end Go.Proofs.Ytgmciihlmgeecaa.Fn
