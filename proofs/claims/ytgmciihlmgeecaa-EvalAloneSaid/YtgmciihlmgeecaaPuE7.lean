import Derived.Test.YtgmciihlmgeecaaPuN6
import Derived.Test.YtgmciihlmgeecaaPuI
import Derived.Test.YtgmciihlmgeecaaWEF
/- Rows of numbers: what is told of the law's functions is so. Conditions: those that each lemma names. -/
namespace Go.Proofs.Ytgmciihlmgeecaa.Fn
open Go Go.RowKit Go.Proofs.Ytgmciihlmgeecaa.Mt Go.Proofs.Ytgmciihlmgeecaa.Zm
set_option linter.unusedVariables false
set_option linter.unusedSimpArgs false

theorem rowGo_len {l : List Int} {z : Zo} (h : z.2.2.length = 49) (t : Nat) : (rowGo l z t).2.2.length = 49 := by
  induction t with
  | zero => exact h
  | succ t ih => rw [rowGo]; exact heldZ_len (forgetZ_len ih)
set_option maxHeartbeats 4000000 in
theorem f77_spec (a0 a1 a2 b0 b1 b2 : Int) (w : Bool) (ha0 : inB a0 = true) (ha1 : inB a1 = true) (ha2 : inB a2 = true) (hb0 : inB b0 = true) (hb1 : inB b1 = true) (hb2 : inB b2 = true) :
    f77_wp a0 a1 a2 b0 b1 b2 w (fun r' => r' = Ret.mk (.tup [.agg (numC (twoZ [a0, a1, a2] [b0, b1, b2])), .one (.own 0 0)]) [⟨3, 1, 3, ic .i64 (if w = true then [b0, b1, b2] else [a0, a1, a2]), true⟩]) := by
  have ha0 := inB_iff.1 ha0
  have ha1 := inB_iff.1 ha1
  have ha2 := inB_iff.1 ha2
  have hb0 := inB_iff.1 hb0
  have hb1 := inB_iff.1 hb1
  have hb2 := inB_iff.1 hb2
  unfold f77_wp
  (try delta X77_2); (try delta X77_1); (try delta X77_0)
  rw [w64 (a := a0) (by omega) (by omega), w64 (a := a1) (by omega) (by omega), w64 (a := a2) (by omega) (by omega), w64 (a := b0) (by omega) (by omega), w64 (a := b1) (by omega) (by omega), w64 (a := b2) (by omega) (by omega)]
  refine letV_j fun z hz => ?_
  refine letV_j fun p1 h1 => letV_j fun p2 h2 => letV_j fun p3 h3 => ?_
  refine letV_j fun z' hz' => ?_
  obtain rfl : z = z' := by rw [← hz, ← hz']
  refine letV_j fun q1 g1 => letV_j fun q2 g2 => letV_j fun q3 g3 => ?_
  obtain rfl : p1 = q1 := by rw [← h1, ← g1]
  obtain rfl : p2 = q2 := by rw [← h2, ← g2]
  obtain rfl : p3 = q3 := by rw [← h3, ← g3]
  have lz : z.2.2.length = 49 := by rw [← hz]; exact zeroL_len
  have cz : (capN z.1).toNat = 3 := by rw [← hz]; rfl
  have sz : itvsZ z 3 = [p1.1, p1.2, p2.1, p2.2, p3.1, p3.2] := by rw [← h1, ← h2, ← h3]; rfl
  have mz : List.replicate 49 (Cell.v (Value.int .i64 0)) = ic .i64 z.2.2 := by rw [← hz]; exact rep_ic
  have eA : rowZ [a0, a1, a2] 3 = rowGo [a0, a1, a2] z 3 := by unfold rowZ; rw [← hz]; rfl
  have eB : rowZ [b0, b1, b2] 3 = rowGo [b0, b1, b2] z 3 := by unfold rowZ; rw [← hz]; rfl
  have e1 : [Cell.v (Value.int .i64 p1.1), Cell.v (Value.int .i64 p1.2), Cell.v (Value.int .i64 p2.1), Cell.v (Value.int .i64 p2.2), Cell.v (Value.int .i64 p3.1), Cell.v (Value.int .i64 p3.2)] = ic .i64 (itvsZ z 3) := by rw [sz]; rfl
  rw [mz, e1]
  unfold twoZ
  rw [eA, eB]
  clear hz hz' h1 h2 h3 g1 g2 g3 mz e1 eA eB sz
  have fA : ∀ i : Int, 0 ≤ i → i < 3 → okK (some .i32) ([Cell.v (.int .i32 a0), Cell.v (.int .i32 a1), Cell.v (.int .i32 a2), Cell.v (.int .i32 b0), Cell.v (.int .i32 b1), Cell.v (.int .i32 b2), Cell.v (.bool w)].getD i.toNat .dead) = true ∧ intC ([Cell.v (.int .i32 a0), Cell.v (.int .i32 a1), Cell.v (.int .i32 a2), Cell.v (.int .i32 b0), Cell.v (.int .i32 b1), Cell.v (.int .i32 b2), Cell.v (.bool w)].getD i.toNat .dead) = [a0, a1, a2].getD i.toNat 0 ∧ IntKind.i64.wrap ([a0, a1, a2].getD i.toNat 0) = [a0, a1, a2].getD i.toNat 0 := fun i h0 h3 => by
    rcases (show i = 0 ∨ i = 1 ∨ i = 2 by omega) with rfl | rfl | rfl
    · exact ⟨rfl, rfl, w64 (a := a0) (by omega) (by omega)⟩
    · exact ⟨rfl, rfl, w64 (a := a1) (by omega) (by omega)⟩
    · exact ⟨rfl, rfl, w64 (a := a2) (by omega) (by omega)⟩
  have fB : ∀ i : Int, 0 ≤ i → i < 3 → okK (some .i32) ([Cell.v (.int .i32 b0), Cell.v (.int .i32 b1), Cell.v (.int .i32 b2), Cell.v (.bool w)].getD i.toNat .dead) = true ∧ intC ([Cell.v (.int .i32 b0), Cell.v (.int .i32 b1), Cell.v (.int .i32 b2), Cell.v (.bool w)].getD i.toNat .dead) = [b0, b1, b2].getD i.toNat 0 ∧ IntKind.i64.wrap ([b0, b1, b2].getD i.toNat 0) = [b0, b1, b2].getD i.toNat 0 := fun i h0 h3 => by
    rcases (show i = 0 ∨ i = 1 ∨ i = 2 by omega) with rfl | rfl | rfl
    · exact ⟨rfl, rfl, w64 (a := b0) (by omega) (by omega)⟩
    · exact ⟨rfl, rfl, w64 (a := b1) (by omega) (by omega)⟩
    · exact ⟨rfl, rfl, w64 (a := b2) (by omega) (by omega)⟩
  refine LoopP.ind (I := fun s => 0 ≤ s.1 ∧ s.1 ≤ 3 ∧ s.2 = ((rowGo [a0, a1, a2] z s.1.toNat).2.1, (capN (rowGo [a0, a1, a2] z s.1.toNat).1).toNat, ic .i64 (itvsZ (rowGo [a0, a1, a2] z s.1.toNat) (capN (rowGo [a0, a1, a2] z s.1.toNat).1).toNat), (rowGo [a0, a1, a2] z s.1.toNat).1, (rowGo [a0, a1, a2] z s.1.toNat).2.1, ic .i64 (rowGo [a0, a1, a2] z s.1.toNat).2.2, (rowGo [b0, b1, b2] z s.1.toNat).2.1, (capN (rowGo [b0, b1, b2] z s.1.toNat).1).toNat, ic .i64 (itvsZ (rowGo [b0, b1, b2] z s.1.toNat) (capN (rowGo [b0, b1, b2] z s.1.toNat).1).toNat), (rowGo [b0, b1, b2] z s.1.toNat).1, (rowGo [b0, b1, b2] z s.1.toNat).2.1, ic .i64 (rowGo [b0, b1, b2] z s.1.toNat).2.2)) (μ := fun s => (3 - s.1).toNat) ?_ ⟨by dsimp only; omega, by dsimp only; omega, by dsimp only; rw [show rowGo [a0, a1, a2] z (0 : Int).toNat = z from rfl, show rowGo [b0, b1, b2] z (0 : Int).toNat = z from rfl, cz]⟩
  rintro ⟨i, c, rn, rc, N, B, D, c', rn', rc', N', B', D'⟩ k0 ⟨i1, i2, i3⟩ hk
  dsimp only at i1 i2 i3 ⊢
  simp only [Prod.mk.injEq] at i3
  obtain ⟨rfl, rfl, rfl, rfl, rfl, rfl, rfl, rfl, rfl, rfl, rfl, rfl⟩ := i3
  have lA := rowGo_len (l := [a0, a1, a2]) lz i.toNat
  have lB := rowGo_len (l := [b0, b1, b2]) lz i.toNat
  simp only [Nat.mul_one, map_ic, Prod.eta]
  refine cond_i (fun q => ?_) (fun q => ?_)
  · have q : i < 3 := of_decide_eq_true q
    obtain ⟨x1, x2, x3⟩ := fA i i1 q
    obtain ⟨y1, y2, y3⟩ := fB i i1 q
    rw [x1, x2, x3, y1, y2, y3]
    have hk' := hk (i + 1, (rowGo [a0, a1, a2] z (i + 1).toNat).2.1, (capN (rowGo [a0, a1, a2] z (i + 1).toNat).1).toNat, ic .i64 (itvsZ (rowGo [a0, a1, a2] z (i + 1).toNat) (capN (rowGo [a0, a1, a2] z (i + 1).toNat).1).toNat), (rowGo [a0, a1, a2] z (i + 1).toNat).1, (rowGo [a0, a1, a2] z (i + 1).toNat).2.1, ic .i64 (rowGo [a0, a1, a2] z (i + 1).toNat).2.2, (rowGo [b0, b1, b2] z (i + 1).toNat).2.1, (capN (rowGo [b0, b1, b2] z (i + 1).toNat).1).toNat, ic .i64 (itvsZ (rowGo [b0, b1, b2] z (i + 1).toNat) (capN (rowGo [b0, b1, b2] z (i + 1).toNat).1).toNat), (rowGo [b0, b1, b2] z (i + 1).toNat).1, (rowGo [b0, b1, b2] z (i + 1).toNat).2.1, ic .i64 (rowGo [b0, b1, b2] z (i + 1).toNat).2.2) ⟨by dsimp only; omega, by dsimp only; omega, rfl⟩ (by dsimp only; omega)
    rw [show (i + 1).toNat = i.toNat + 1 by omega] at hk'
    unfold rowGo at hk'
    rw [show ((i.toNat : Nat) : Int) = i by omega] at hk'
    clear hk x1 x2 x3 y1 y2 y3 fA fB
    generalize rowGo [a0, a1, a2] z i.toNat = V at *
    generalize rowGo [b0, b1, b2] z i.toNat = W at *
    generalize [a0, a1, a2].getD i.toNat 0 = va at *
    generalize [b0, b1, b2].getD i.toNat 0 = vb at *
    have oV := okSl_itvs (z := V) (t := (capN V.1).toNat)
    have oW := okSl_itvs (z := W) (t := (capN W.1).toNat)
    rw [wr1 (show -1000 ≤ i by omega) (show i ≤ 1000 by omega)]
    refine ck_i (by simp [ic_len, lA]) (ck_i (by simp; omega) (ck_i (by simp; omega) ?_))
    refine letV_j fun p hp => ?_
    rw [hp] at hk'
    refine letV_j fun u hu => ?_
    rw [hu] at hk'
    have lu : u.2.2.length = 49 := by rw [← hu]; exact heldZ_len (forgetZ_len lA)
    clear hu hp
    refine ck_i (by simp [ics, lA, oV]) (ck_i (by simp [ic_len, lB]) (ck_i (by simp; omega) ?_))
    refine letV_j fun p hp => ?_
    rw [hp] at hk'
    refine letV_j fun v hv => ?_
    rw [hv] at hk'
    have lv : v.2.2.length = 49 := by rw [← hv]; exact heldZ_len (forgetZ_len lB)
    clear hv hp
    refine ck_i (by simp [ics, lB, oW]) ?_
    refine ck_i (by simp [ics, lu, lA]) (ck_i (by simp [ics, lv, lB]) ⟨by simp [ics], ?_⟩)
    exact hk'
  · have q : ¬ i < 3 := of_decide_eq_false q
    rw [show i.toNat = 3 by omega] at *
    clear hk fA fB
    generalize rowGo [a0, a1, a2] z 3 = V at *
    generalize rowGo [b0, b1, b2] z 3 = W at *
    have oV := okSl_itvs (z := V) (t := (capN V.1).toNat)
    have oW := okSl_itvs (z := W) (t := (capN W.1).toNat)
    refine cond_i (fun qw => ?_) (fun qw => ?_)
    · subst qw
      refine ck_i (by simp [ic_len, lA]) (ck_i (by simp [ic_len, lB]) ?_)
      refine letV_j fun u hu => ?_
      have lu : u.2.2.length = 49 := by rw [← hu]; exact joinZ_len lA lB
      rw [hu]
      clear hu
      refine ck_i (by simp [ics, lA, lB, oV, oW]) ?_
      (repeat ((first | with_reducible apply ck_i | with_reducible apply And.intro); · (first | with_reducible rfl | ((try simp only [ics]) <;> simp [ics, *] <;> omega)))); rfl
    · subst qw
      refine ck_i (by simp [ic_len, lA]) (ck_i (by simp [ic_len, lB]) ?_)
      refine letV_j fun u hu => ?_
      have lu : u.2.2.length = 49 := by rw [← hu]; exact joinZ_len lA lB
      rw [hu]
      clear hu
      refine ck_i (by simp [ics, lA, lB, oV, oW]) ?_
      (repeat ((first | with_reducible apply ck_i | with_reducible apply And.intro); · (first | with_reducible rfl | ((try simp only [ics]) <;> simp [ics, *] <;> omega)))); rfl
theorem cx77_ok : CtxOk Try.prog cx77.q.ctx := (ctx_cons (g := 42) (ctx_cons (g := 30) (ctx_cons (g := 41) (ctx_cons (g := 73) ctx_nil (by kernel_rfl) sum73_ok) (by kernel_rfl) sum41_ok) (by kernel_rfl) sum30_ok) (by kernel_rfl) sum42_ok)
theorem rows_elim {v : CV} (h : okRows v = true) : ∃ (a0 a1 a2 b0 b1 b2 : Int) (w : Bool), v = .agg [.v (.int .i32 a0), .v (.int .i32 a1), .v (.int .i32 a2), .v (.int .i32 b0), .v (.int .i32 b1), .v (.int .i32 b2), .v (.bool w)] ∧ inB a0 = true ∧ inB a1 = true ∧ inB a2 = true ∧ inB b0 = true ∧ inB b1 = true ∧ inB b2 = true := by
  unfold okRows at h
  simp only [Bool.and_eq_true] at h
  obtain ⟨h0, ⟨⟨⟨⟨h1, h2⟩, h3⟩, h4⟩, h5⟩, h6⟩ := h
  obtain ⟨a0, a1, a2, b0, b1, b2, w, rfl⟩ : ∃ (a0 a1 a2 b0 b1 b2 : Int) (w : Bool), v = .agg [.v (.int .i32 a0), .v (.int .i32 a1), .v (.int .i32 a2), .v (.int .i32 b0), .v (.int .i32 b1), .v (.int .i32 b2), .v (.bool w)] :=
    okA_elim h0 (motive := fun v => ∃ (a0 a1 a2 b0 b1 b2 : Int) (w : Bool), v = .agg [.v (.int .i32 a0), .v (.int .i32 a1), .v (.int .i32 a2), .v (.int .i32 b0), .v (.int .i32 b1), .v (.int .i32 b2), .v (.bool w)]) ⟨_, _, _, _, _, _, _, rfl⟩
  exact ⟨a0, a1, a2, b0, b1, b2, w, rfl, h1, h2, h3, h4, h5, h6⟩
theorem sum77o_ok : ∀ vs r, sum77o vs = some (true, r) → SoundAt Try.prog 77 vs r := by
  intro vs r h
  unfold sum77o at h
  split at h
  · simp only [Option.some.injEq, Prod.mk.injEq] at h
    obtain ⟨h0, rfl⟩ := h
    obtain ⟨a0, a1, a2, b0, b1, b2, w, rfl, h1, h2, h3, h4, h5, h6⟩ := rows_elim h0
    exact f77_sound a0 a1 a2 b0 b1 b2 w cx77_ok (f77_spec a0 a1 a2 b0 b1 b2 w h1 h2 h3 h4 h5 h6)
  · cases h
end Go.Proofs.Ytgmciihlmgeecaa.Fn
