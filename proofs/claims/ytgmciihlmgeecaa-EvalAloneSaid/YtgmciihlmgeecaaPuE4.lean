import Derived.Test.YtgmciihlmgeecaaPuE
import Derived.Test.YtgmciihlmgeecaaWED
/- The reference's Eval and Holds: what is told of each is so. Conditions: those that each lemma names. -/
namespace Go.Proofs.Ytgmciihlmgeecaa.Fn
open Go Go.RowKit Go.Proofs.Ytgmciihlmgeecaa.Mt Go.Proofs.Ytgmciihlmgeecaa.Zm
set_option linter.unusedVariables false
set_option linter.unusedSimpArgs false

theorem opR_in (cs : List Cell) (x y : Int) (m : Nat) (l : List Int) : -2147483648 ≤ (opR cs x y m l).1 ∧ (opR cs x y m l).1 ≤ 2147483647 := by
  unfold opR
  split
  · dsimp only; omega
  · split
    · dsimp only; omega
    · dsimp only; omega
theorem evRC_in (d : Nat) (cs : List Cell) (m : Nat) (l : List Int) : -2147483648 ≤ (evRC d cs m l).1 ∧ (evRC d cs m l).1 ≤ 2147483647 := by
  cases d with
  | zero => exact ⟨by show (-2147483648 : Int) ≤ 0; omega, by show (0 : Int) ≤ 2147483647; omega⟩
  | succ d =>
    unfold evRC evRO
    split
    · dsimp only; omega
    · split
      · dsimp only; omega
      · exact opR_in _ _ _ _ _
def inO (v : Int) : Int × Int := if v < -2147483648 ∨ v > 2147483647 then (0, 2) else (v, 0)
theorem rng (v : Int) : bif decide (v < -2147483648) then (Ret.mk (.tup [.one (.v (.int .i64 0)), .one (.v (.int .i64 2))]) [] = coRet (inO v)) else (bif decide (v > 2147483647) then (Ret.mk (.tup [.one (.v (.int .i64 0)), .one (.v (.int .i64 2))]) [] = coRet (inO v)) else (Ret.mk (.tup [.one (.v (.int .i64 v)), .one (.v (.int .i64 0))]) [] = coRet (inO v))) := by
  unfold inO
  refine cond_i (fun q => ?_) (fun q => cond_i (fun q2 => ?_) (fun q2 => ?_))
  · rw [if_pos (.inl (of_decide_eq_true q))]; rfl
  · rw [if_pos (.inr (of_decide_eq_true q2))]; rfl
  · rw [if_neg (by rintro (x | x); exact of_decide_eq_false q x; exact of_decide_eq_false q2 x)]; rfl
section
variable {b c x y : Int} {n m : Nat} {l : List Cell} {vl : List Int}
theorem op1 : opR (ex 1 b c n l) x y m vl = inO b := by unfold opR; rw [if_neg (fun h => by rcases h.1 with h | h <;> cases h)]; rfl
theorem op2 : opR (ex 2 b c n l) x y m vl = inO (if 0 ≤ c ∧ c < (m : Int) then vl.getD c.toNat 0 else 0) := by unfold opR; rw [if_neg (fun h => by rcases h.1 with h | h <;> cases h)]; rfl
theorem op3 : opR (ex 3 b c n l) x y m vl = inO (0 - x) := by unfold opR; rw [if_neg (fun h => by rcases h.1 with h | h <;> cases h)]; rfl
theorem op4 : opR (ex 4 b c n l) x y m vl = inO (x + y) := by unfold opR; rw [if_neg (fun h => by rcases h.1 with h | h <;> cases h)]; rfl
theorem op5 : opR (ex 5 b c n l) x y m vl = inO (x - y) := by unfold opR; rw [if_neg (fun h => by rcases h.1 with h | h <;> cases h)]; rfl
theorem op6 : opR (ex 6 b c n l) x y m vl = inO (x * y) := by unfold opR; rw [if_neg (fun h => by rcases h.1 with h | h <;> cases h)]; rfl
theorem op7 (h : y ≠ 0) : opR (ex 7 b c n l) x y m vl = inO (x.tdiv y) := by unfold opR; rw [if_neg (fun t => h t.2)]; rfl
theorem op8 (h : y ≠ 0) : opR (ex 8 b c n l) x y m vl = inO (x.tmod y) := by unfold opR; rw [if_neg (fun t => h t.2)]; rfl
theorem op70 : opR (ex 7 b c n l) x 0 m vl = (0, 3) := by unfold opR; rw [if_pos ⟨.inl rfl, rfl⟩]
theorem op80 : opR (ex 8 b c n l) x 0 m vl = (0, 3) := by unfold opR; rw [if_pos ⟨.inr rfl, rfl⟩]
theorem op0 {a : Int} (h : ¬ (1 ≤ a ∧ a ≤ 8)) : opR (ex a b c n l) x y m vl = (0, 0) := by
  unfold opR
  have e : numR (ex a b c n l) x y m vl = 0 := by
    unfold numR
    rw [show kK (ex a b c n l) = a from rfl]
    rw [if_neg (by omega), if_neg (by omega), if_neg (by omega), if_neg (by omega), if_neg (by omega), if_neg (by omega), if_neg (by omega), if_neg (by omega)]
  rw [show kK (ex a b c n l) = a from rfl, if_neg (by omega), e]
  rfl
end

set_option maxHeartbeats 4000000 in
theorem f78_spec (DD : Nat) (a b c : Int) (n : Nat) (l : List Cell) (h : okE (DD + 1) (ex a b c n l) = true) (vn : Nat) (vl : List Int) (hvl : vl.length = vn * 1) :
    f78_wp DD a b c n l vn (ic .i64 vl) (fun r' => r' = coRet (evRC (DD + 1) (ex a b c n l) vn vl)) := by
  obtain ⟨hl, h2⟩ := okE_kid h
  have ro : okRowU 1 (.sl vn (ic .i64 vl)) = true := by
    simp only [okRowU, Bool.and_eq_true, beq_iff_eq, ic_len]
    exact ⟨ic_all fun _ => rfl, hvl⟩
  have e : evRC (DD + 1) (ex a b c n l) vn vl = evRO (ex a b c n l) vn vl (evRC DD (List.take 4 l) vn vl) (evRC DD (List.take 4 (List.drop 4 l)) vn vl) := by
    show evRO (ex a b c n l) vn vl (evRC DD (kid (ex a b c n l) 0) vn vl) (evRC DD (kid (ex a b c n l) 1) vn vl) = _
    rw [kid_0, kid_1]
  have r0 := evRC_in DD (List.take 4 l) vn vl
  have r1 := evRC_in DD (List.take 4 (List.drop 4 l)) vn vl
  rw [e]
  clear e
  have kn : kN (ex a b c n l) = n := rfl
  unfold evRO
  rw [kn]
  unfold f78_wp
  (try delta X78_9); (try delta X78_8); (try delta X78_7); (try delta X78_6); (try delta X78_5); (try delta X78_4); (try delta X78_3); (try delta X78_2); (try delta X78_1); (try delta X78_0)
  simp only [map_ic]
  have m00 := (0 : Int)
  have p0 : List.drop ((0 : Int).toNat * 4) l = l := rfl
  have p1 : List.drop ((1 : Int).toNat * 4) l = List.drop 4 l := rfl
  generalize h0e : evRC DD (List.take 4 l) vn vl = x0 at *
  generalize h1e : evRC DD (List.take 4 (List.drop 4 l)) vn vl = x1 at *
  refine LoopP.ind (I := sumE (fun z => z = ((0 : Int), (0 : Int))) (fun z => (z.1 = 1 ∧ 1 ≤ n ∧ x0.2 = 0 ∧ z.2 = [.v (.int .i64 x0.1), .v (.int .i64 0)]) ∨ (z.1 = 2 ∧ 2 ≤ n ∧ x0.2 = 0 ∧ x1.2 = 0 ∧ z.2 = [.v (.int .i64 x0.1), .v (.int .i64 x1.1)]))) (μ := sumE (fun _ => 3) (fun z => (2 - z.1).toNat)) ?_ rfl
  rintro (⟨i, y⟩ | ⟨i, cs⟩) k0 hI hk
  · dsimp only [sumE_l] at hI ⊢
    simp only [Prod.mk.injEq] at hI
    obtain ⟨rfl, rfl⟩ := hI
    refine cond_i (fun q => ?_) (fun q => ?_)
    · have q : (0 : Int) < n := of_decide_eq_true q
      have o0 := h2 0 (by omega)
      rw [kid_0] at o0
      refine cond_i (fun _ => ?_) (fun t => absurd t (by decide))
      refine ck_i (by simp; omega) (ck_i (by simp; omega) ?_)
      rw [p0, h0e]
      refine ck_i (by simp only [(okE_plain o0).1, o0, ro]; rfl) ?_
      refine cond_i (fun t => ?_) (fun t => ?_)
      · have t : x0.2 ≠ 0 := by simpa using t
        rw [if_pos ⟨by omega, t⟩]; rfl
      · have t : x0.2 = 0 := by simpa using t
        refine ck_i rfl (ck_i rfl ⟨rfl, ?_⟩)
        exact hk (.inr (1, [.v (.int .i64 x0.1), .v (.int .i64 0)])) (.inl ⟨rfl, by omega, t, rfl⟩) (by dsimp only [sumE_l, sumE_r]; omega)
    · have q : ¬ (0 : Int) < n := of_decide_eq_false q
      rw [if_neg (by omega), if_neg (by omega), if_neg (by omega), if_neg (by omega)]
      clear hk r0 r1
      by_cases h1 : a = 1
      · subst h1
        refine cond_i (fun _ => ?_) (fun t => absurd t (by decide))
        rw [op1]; exact rng b
      refine cond_i (fun t => absurd (by simpa using t) h1) (fun _ => ?_)
      by_cases h2 : a = 2
      · subst h2
        refine cond_i (fun _ => ?_) (fun t => absurd t (by decide))
        rw [op2]
        refine cond_i (fun t => ?_) (fun t => ?_)
        · have t : c ≥ 0 := of_decide_eq_true t
          refine cond_i (fun t2 => ?_) (fun t2 => ?_)
          · have t2 : c < vn := of_decide_eq_true t2
            rw [if_pos ⟨t, t2⟩]
            refine ck_i (by simp [ic_len, hvl]; omega) (ck_i (by simp only [okK_ic, Nat.mul_one, ic_len, hvl]; simp; omega) ?_)
            simp only [int_get, Nat.mul_one]
            exact rng _
          · rw [if_neg (fun z => of_decide_eq_false t2 z.2)]; rfl
        · rw [if_neg (fun z => of_decide_eq_false t z.1)]; rfl
      refine cond_i (fun t => absurd (by simpa using t) h2) (fun _ => ?_)
      by_cases h3 : a = 3
      · subst h3
        refine cond_i (fun _ => ?_) (fun t => absurd t (by decide))
        rw [op3]
        rw [w64 (a := 0 - 0) (by omega) (by omega)]
        exact rng _
      refine cond_i (fun t => absurd (by simpa using t) h3) (fun _ => ?_)
      by_cases h4 : a = 4
      · subst h4
        refine cond_i (fun _ => ?_) (fun t => absurd t (by decide))
        rw [op4]
        rw [w64 (a := 0 + 0) (by omega) (by omega)]
        exact rng _
      refine cond_i (fun t => absurd (by simpa using t) h4) (fun _ => ?_)
      by_cases h5 : a = 5
      · subst h5
        refine cond_i (fun _ => ?_) (fun t => absurd t (by decide))
        rw [op5]
        rw [w64 (a := 0 - 0) (by omega) (by omega)]
        exact rng _
      refine cond_i (fun t => absurd (by simpa using t) h5) (fun _ => ?_)
      by_cases h6 : a = 6
      · subst h6
        refine cond_i (fun _ => ?_) (fun t => absurd t (by decide))
        rw [op6]
        rw [w64 (a := 0 * 0) (by omega) (by omega)]
        exact rng _
      refine cond_i (fun t => absurd (by simpa using t) h6) (fun _ => ?_)
      by_cases h7 : a = 7
      · subst h7
        refine cond_i (fun _ => ?_) (fun t => absurd t (by decide))
        rw [op70]; rfl
      refine cond_i (fun t => absurd (by simpa using t) h7) (fun _ => ?_)
      by_cases h8 : a = 8
      · subst h8
        refine cond_i (fun _ => ?_) (fun t => absurd t (by decide))
        rw [op80]; rfl
      refine cond_i (fun t => absurd (by simpa using t) h8) (fun _ => ?_)
      rw [op0 (by omega)]; rfl
  · dsimp only [sumE_r] at hI ⊢
    refine cond_i (fun q => ?_) (fun q => ?_)
    · have q : i < n := of_decide_eq_true q
      refine cond_i (fun q2 => ?_) (fun q2 => ?_)
      · have q2 : i < 2 := of_decide_eq_true q2
        rcases hI with ⟨rfl, hn, t0, rfl⟩ | ⟨rfl, _⟩
        · have o1 := h2 1 (by omega)
          rw [kid_1] at o1
          refine ck_i (by simp; omega) (ck_i (by simp; omega) ?_)
          rw [p1, h1e]
          refine ck_i (by simp only [(okE_plain o1).1, o1, ro]; rfl) ?_
          refine cond_i (fun t => ?_) (fun t => ?_)
          · have t : x1.2 ≠ 0 := by simpa using t
            rw [if_neg (fun z => z.2 t0), if_pos ⟨by omega, t⟩]; rfl
          · have t : x1.2 = 0 := by simpa using t
            refine ck_i rfl (ck_i rfl ⟨rfl, ?_⟩)
            exact hk (.inr (2, [.v (.int .i64 x0.1), .v (.int .i64 x1.1)])) (.inr ⟨rfl, by omega, t0, t, rfl⟩) (by dsimp only [sumE_r]; omega)
        · omega
      · have q2 : ¬ i < 2 := of_decide_eq_false q2
        obtain ⟨X, Y, rfl, ex, ey⟩ : ∃ X Y, cs = [.v (.int .i64 X), .v (.int .i64 Y)] ∧ (X = x0.1 ∧ x0.2 = 0) ∧ (Y = x1.1 ∧ x1.2 = 0) := by
          rcases hI with ⟨rfl, _⟩ | ⟨rfl, _, t0, t1, rfl⟩
          · omega
          · exact ⟨_, _, rfl, ⟨rfl, t0⟩, rfl, t1⟩
        rw [if_neg (fun z => z.2 ex.2), if_neg (fun z => z.2 ey.2), if_pos (by omega), if_pos (by omega), ← ex.1, ← ey.1]
        rw [← ex.1] at r0
        rw [← ey.1] at r1
        have rm := mul_in r0 r1
        have rd := div_in (b := Y) r0
        clear hk
        by_cases h1 : a = 1
        · subst h1
          refine cond_i (fun _ => ?_) (fun t => absurd t (by decide))
          rw [op1]; exact rng b
        refine cond_i (fun t => absurd (by simpa using t) h1) (fun _ => ?_)
        by_cases h2 : a = 2
        · subst h2
          refine cond_i (fun _ => ?_) (fun t => absurd t (by decide))
          rw [op2]
          refine cond_i (fun t => ?_) (fun t => ?_)
          · have t : c ≥ 0 := of_decide_eq_true t
            refine cond_i (fun t2 => ?_) (fun t2 => ?_)
            · have t2 : c < vn := of_decide_eq_true t2
              rw [if_pos ⟨t, t2⟩]
              refine ck_i (by simp [ic_len, hvl]; omega) (ck_i (by simp only [okK_ic, Nat.mul_one, ic_len, hvl]; simp; omega) ?_)
              simp only [int_get, Nat.mul_one]
              exact rng _
            · rw [if_neg (fun z => of_decide_eq_false t2 z.2)]; rfl
          · rw [if_neg (fun z => of_decide_eq_false t z.1)]; rfl
        refine cond_i (fun t => absurd (by simpa using t) h2) (fun _ => ?_)
        by_cases h3 : a = 3
        · subst h3
          refine cond_i (fun _ => ?_) (fun t => absurd t (by decide))
          refine ck_i rfl ?_
          rw [op3]
          simp only [List.getD_cons_zero, List.getD_cons_succ, intC]
          rw [w64 (a := 0 - X) (by omega) (by omega)]
          exact rng _
        refine cond_i (fun t => absurd (by simpa using t) h3) (fun _ => ?_)
        by_cases h4 : a = 4
        · subst h4
          refine cond_i (fun _ => ?_) (fun t => absurd t (by decide))
          refine ck_i rfl ?_
          refine ck_i rfl ?_
          rw [op4]
          simp only [List.getD_cons_zero, List.getD_cons_succ, intC]
          rw [w64 (a := X + Y) (by omega) (by omega)]
          exact rng _
        refine cond_i (fun t => absurd (by simpa using t) h4) (fun _ => ?_)
        by_cases h5 : a = 5
        · subst h5
          refine cond_i (fun _ => ?_) (fun t => absurd t (by decide))
          refine ck_i rfl ?_
          refine ck_i rfl ?_
          rw [op5]
          simp only [List.getD_cons_zero, List.getD_cons_succ, intC]
          rw [w64 (a := X - Y) (by omega) (by omega)]
          exact rng _
        refine cond_i (fun t => absurd (by simpa using t) h5) (fun _ => ?_)
        by_cases h6 : a = 6
        · subst h6
          refine cond_i (fun _ => ?_) (fun t => absurd t (by decide))
          refine ck_i rfl ?_
          refine ck_i rfl ?_
          rw [op6]
          simp only [List.getD_cons_zero, List.getD_cons_succ, intC]
          rw [w64 (a := X * Y) (by omega) (by omega)]
          exact rng _
        refine cond_i (fun t => absurd (by simpa using t) h6) (fun _ => ?_)
        by_cases h7 : a = 7
        · subst h7
          refine cond_i (fun _ => ?_) (fun t => absurd t (by decide))
          refine ck_i rfl ?_
          simp only [List.getD_cons_zero, List.getD_cons_succ, intC]
          refine cond_i (fun t => ?_) (fun t => ?_)
          · have t : Y = 0 := by simpa using t
            subst t
            rw [op70]; rfl
          · have t : Y ≠ 0 := by simpa using t
            refine ck_i rfl (ck_i (by simpa using t) ?_)
            rw [op7 t]
            rw [w64 (a := X.tdiv Y) (by omega) (by omega)]
            exact rng _
        refine cond_i (fun t => absurd (by simpa using t) h7) (fun _ => ?_)
        by_cases h8 : a = 8
        · subst h8
          refine cond_i (fun _ => ?_) (fun t => absurd t (by decide))
          refine ck_i rfl ?_
          simp only [List.getD_cons_zero, List.getD_cons_succ, intC]
          refine cond_i (fun t => ?_) (fun t => ?_)
          · have t : Y = 0 := by simpa using t
            subst t
            rw [op80]; rfl
          · have t : Y ≠ 0 := by simpa using t
            refine ck_i rfl (ck_i (by simpa using t) ?_)
            rw [op8 t]
            exact rng _
        refine cond_i (fun t => absurd (by simpa using t) h8) (fun _ => ?_)
        rw [op0 (by omega)]; rfl
    · have q : ¬ i < n := of_decide_eq_false q
      obtain ⟨X, Y, rfl, e1, rX, rY⟩ : ∃ X Y, cs = [.v (.int .i64 X), .v (.int .i64 Y)] ∧ (if 1 ≤ n ∧ x0.2 ≠ 0 then ((0 : Int), x0.2) else if 2 ≤ n ∧ x1.2 ≠ 0 then (0, x1.2) else opR (ex a b c n l) (if 1 ≤ n then x0.1 else 0) (if 2 ≤ n then x1.1 else 0) vn vl) = opR (ex a b c n l) X Y vn vl ∧ (-2147483648 ≤ X ∧ X ≤ 2147483647) ∧ (-2147483648 ≤ Y ∧ Y ≤ 2147483647) := by
        rcases hI with ⟨rfl, hn, t0, rfl⟩ | ⟨rfl, hn, t0, t1, rfl⟩
        · exact ⟨_, _, rfl, by rw [if_neg (fun z => z.2 t0), if_neg (by omega), if_pos (by omega), if_neg (by omega)], r0, by omega⟩
        · exact ⟨_, _, rfl, by rw [if_neg (fun z => z.2 t0), if_neg (fun z => z.2 t1), if_pos (by omega), if_pos (by omega)], r0, r1⟩
      rw [e1]
      have r0 := rX
      have r1 := rY
      have rm := mul_in r0 r1
      have rd := div_in (b := Y) r0
      clear hk e1 hI
      by_cases h1 : a = 1
      · subst h1
        refine cond_i (fun _ => ?_) (fun t => absurd t (by decide))
        rw [op1]; exact rng b
      refine cond_i (fun t => absurd (by simpa using t) h1) (fun _ => ?_)
      by_cases h2 : a = 2
      · subst h2
        refine cond_i (fun _ => ?_) (fun t => absurd t (by decide))
        rw [op2]
        refine cond_i (fun t => ?_) (fun t => ?_)
        · have t : c ≥ 0 := of_decide_eq_true t
          refine cond_i (fun t2 => ?_) (fun t2 => ?_)
          · have t2 : c < vn := of_decide_eq_true t2
            rw [if_pos ⟨t, t2⟩]
            refine ck_i (by simp [ic_len, hvl]; omega) (ck_i (by simp only [okK_ic, Nat.mul_one, ic_len, hvl]; simp; omega) ?_)
            simp only [int_get, Nat.mul_one]
            exact rng _
          · rw [if_neg (fun z => of_decide_eq_false t2 z.2)]; rfl
        · rw [if_neg (fun z => of_decide_eq_false t z.1)]; rfl
      refine cond_i (fun t => absurd (by simpa using t) h2) (fun _ => ?_)
      by_cases h3 : a = 3
      · subst h3
        refine cond_i (fun _ => ?_) (fun t => absurd t (by decide))
        refine ck_i rfl ?_
        rw [op3]
        simp only [List.getD_cons_zero, List.getD_cons_succ, intC]
        rw [w64 (a := 0 - X) (by omega) (by omega)]
        exact rng _
      refine cond_i (fun t => absurd (by simpa using t) h3) (fun _ => ?_)
      by_cases h4 : a = 4
      · subst h4
        refine cond_i (fun _ => ?_) (fun t => absurd t (by decide))
        refine ck_i rfl ?_
        refine ck_i rfl ?_
        rw [op4]
        simp only [List.getD_cons_zero, List.getD_cons_succ, intC]
        rw [w64 (a := X + Y) (by omega) (by omega)]
        exact rng _
      refine cond_i (fun t => absurd (by simpa using t) h4) (fun _ => ?_)
      by_cases h5 : a = 5
      · subst h5
        refine cond_i (fun _ => ?_) (fun t => absurd t (by decide))
        refine ck_i rfl ?_
        refine ck_i rfl ?_
        rw [op5]
        simp only [List.getD_cons_zero, List.getD_cons_succ, intC]
        rw [w64 (a := X - Y) (by omega) (by omega)]
        exact rng _
      refine cond_i (fun t => absurd (by simpa using t) h5) (fun _ => ?_)
      by_cases h6 : a = 6
      · subst h6
        refine cond_i (fun _ => ?_) (fun t => absurd t (by decide))
        refine ck_i rfl ?_
        refine ck_i rfl ?_
        rw [op6]
        simp only [List.getD_cons_zero, List.getD_cons_succ, intC]
        rw [w64 (a := X * Y) (by omega) (by omega)]
        exact rng _
      refine cond_i (fun t => absurd (by simpa using t) h6) (fun _ => ?_)
      by_cases h7 : a = 7
      · subst h7
        refine cond_i (fun _ => ?_) (fun t => absurd t (by decide))
        refine ck_i rfl ?_
        simp only [List.getD_cons_zero, List.getD_cons_succ, intC]
        refine cond_i (fun t => ?_) (fun t => ?_)
        · have t : Y = 0 := by simpa using t
          subst t
          rw [op70]; rfl
        · have t : Y ≠ 0 := by simpa using t
          refine ck_i rfl (ck_i (by simpa using t) ?_)
          rw [op7 t]
          rw [w64 (a := X.tdiv Y) (by omega) (by omega)]
          exact rng _
      refine cond_i (fun t => absurd (by simpa using t) h7) (fun _ => ?_)
      by_cases h8 : a = 8
      · subst h8
        refine cond_i (fun _ => ?_) (fun t => absurd t (by decide))
        refine ck_i rfl ?_
        simp only [List.getD_cons_zero, List.getD_cons_succ, intC]
        refine cond_i (fun t => ?_) (fun t => ?_)
        · have t : Y = 0 := by simpa using t
          subst t
          rw [op80]; rfl
        · have t : Y ≠ 0 := by simpa using t
          refine ck_i rfl (ck_i (by simpa using t) ?_)
          rw [op8 t]
          exact rng _
      refine cond_i (fun t => absurd (by simpa using t) h8) (fun _ => ?_)
      rw [op0 (by omega)]; rfl
theorem sum78_ok : ∀ d vs r, sum78 d vs = some (true, r) → SoundAt Try.prog 78 vs r := by
  intro d
  induction d with
  | zero =>
    intro vs r h
    unfold sum78 at h
    split at h
    · simp only [Option.some.injEq, Prod.mk.injEq, Bool.and_eq_true] at h; exact absurd h.1.1 (by unfold okE; simp)
    · cases h
  | succ d ih =>
    intro vs r h
    unfold sum78 at h
    split at h
    · rename_i e v
      simp only [Option.some.injEq, Prod.mk.injEq, Bool.and_eq_true] at h
      obtain ⟨⟨h0, h1⟩, rfl⟩ := h
      have hv := okE_agg h0
      obtain ⟨d', hd', a, b, c, n, l, e1, _, _⟩ := okE_elim h0
      obtain ⟨vn, vl, hl5, en5, el5, tr5⟩ := row_elimG (g := 78) h1
      rw [e1] at h0 hv ⊢
      rw [hv]
      simp only [en5, el5]
      refine tr5 [_] [] _ ?_
      exact f78_sound d a b c n l _ _ (ctx_cons (g := 78) ctx_nil (by kernel_rfl) ih) (f78_spec d a b c n l h0 vn vl hl5)
    · cases h

end Go.Proofs.Ytgmciihlmgeecaa.Fn
