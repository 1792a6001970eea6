import Derived.Test.YtlfojobligplkaaPuQ4
import Derived.Test.YtlfojobligplkaaPuClone
/- The functions of Elems: what is told of each is so. No conditions. -/
namespace Go.Proofs.Ytlfojobligplkaa.Fn
open Go Go.RowKit Go.Proofs.Ytlfojobligplkaa.Mt
set_option linter.unusedVariables false
set_option linter.unusedSimpArgs false

theorem f48_spec (lo hi : Int) (n : Nat) (l : List Int) (lo2 hi2 : Int) (n2 : Nat) (l2 : List Int) (wd : Bool) (hl : l.length = n * 2) (hl2 : l2.length = n2 * 2) (hn : n ≤ 8796093022208) :
    f48_wp lo hi n (ic .i64 l) lo2 hi2 n2 (ic .i64 l2) wd (fun r' => r' = elRet 29 (twoP wd lo hi n l lo2 hi2 n2 l2).1 (twoP wd lo hi n l lo2 hi2 n2 l2).2.1 n (twoP wd lo hi n l lo2 hi2 n2 l2).2.2) := by
  unfold f48_wp
  rw [ic_map]
  refine ck_i (okc (okRow_ic hl hn)) ?_
  refine cond_i (fun q => ?_) (fun q => ?_)
  · have e : twoP wd lo hi n l lo2 hi2 n2 l2 = (lo, hi, l) := if_neg (fun e => by subst e; simp at q)
    rw [e]; rfl
  have q : n = n2 := by
    have q : (n : Int) = n2 := by simpa using q
    omega
  subst q
  have e : twoP wd lo hi n l lo2 hi2 n l2 = _ := if_pos rfl
  rw [e]
  cases wd with
  | true =>
    refine LoopP.ind (I := fun z => 0 ≤ z.1 ∧ z.1 ≤ (n : Int) ∧ z.2 = ic .i64 (twoU true l l2 z.1.toNat)) (μ := fun z => ((n : Int) - z.1).toNat) ?_ ⟨by dsimp only; omega, by dsimp only; omega, by simp [twoU, twoL]⟩
    rintro ⟨i, cs⟩ k0 ⟨i1, i2, i3⟩ hk
    dsimp only at i1 i2 i3 ⊢
    subst i3
    refine cond_i (fun q => ?_) (fun q => ?_)
    · have q := of_decide_eq_true q
      obtain ⟨r1, r2, r3, r4⟩ := rd2 hl i1 q
      obtain ⟨s1, s2, s3, s4⟩ := rd2 hl2 i1 q
      have w : IntKind.i64.wrap (i + 1) = i + 1 := i64_id (by omega) (by omega)
      have tl := twoU_len (w := true) (l' := l2) hl (show i.toNat ≤ n by omega)
      refine ck_i r1 (ck_i r2 (ck_i s1 (ck_i s2 (ck_i (by simp; omega) (ck_i ?_ (ck_i ?_ ?_))))))
      · rw [ic_len, tl]; simp; omega
      · rw [r3, r4, s3, s4, (join8_eq ..).1, (join8_eq ..).2, pair_set, ic_len, setP_len, tl]; simp; omega
      rw [r3, r4, s3, s4, w, (join8_eq ..).1, (join8_eq ..).2, (widen8_eq ..).1, (widen8_eq ..).2, pair_set, pair_set, setP_twice]
      refine hk _ ⟨by dsimp only; omega, by dsimp only; omega, ?_⟩ (by dsimp only; omega)
      dsimp only
      rw [show (i + 1).toNat = i.toNat + 1 by omega, ← twoU_succ (by omega)]
      rfl
    · have q := of_decide_eq_false q
      have e : i.toNat = n := by omega
      rw [(widen8_eq ..).1, (widen8_eq ..).2, e]
      show Ret.mk _ _ = _
      unfold twoU
      rw [List.drop_of_length_le (by omega), List.append_nil]
      rfl
  | false =>
    refine LoopP.ind (I := fun z => 0 ≤ z.1 ∧ z.1 ≤ (n : Int) ∧ z.2 = ic .i64 (twoU false l l2 z.1.toNat)) (μ := fun z => ((n : Int) - z.1).toNat) ?_ ⟨by dsimp only; omega, by dsimp only; omega, by simp [twoU, twoL]⟩
    rintro ⟨i, cs⟩ k0 ⟨i1, i2, i3⟩ hk
    dsimp only at i1 i2 i3 ⊢
    subst i3
    refine cond_i (fun q => ?_) (fun q => ?_)
    · have q := of_decide_eq_true q
      obtain ⟨r1, r2, r3, r4⟩ := rd2 hl i1 q
      obtain ⟨s1, s2, s3, s4⟩ := rd2 hl2 i1 q
      have w : IntKind.i64.wrap (i + 1) = i + 1 := i64_id (by omega) (by omega)
      refine ck_i r1 (ck_i r2 (ck_i s1 (ck_i s2 (ck_i (by simp; omega) (ck_i ?_ ?_)))))
      · rw [ic_len, twoU_len hl (by omega)]; simp; omega
      rw [r3, r4, s3, s4, w, (join8_eq ..).1, (join8_eq ..).2, pair_set]
      refine hk _ ⟨by dsimp only; omega, by dsimp only; omega, ?_⟩ (by dsimp only; omega)
      dsimp only
      rw [show (i + 1).toNat = i.toNat + 1 by omega, ← twoU_succ (by omega)]
      rfl
    · have q := of_decide_eq_false q
      have e : i.toNat = n := by omega
      rw [(join8_eq ..).1, (join8_eq ..).2, e]
      show Ret.mk _ _ = _
      unfold twoU
      rw [List.drop_of_length_le (by omega), List.append_nil]
      rfl

theorem cx57_ok : CtxOk Try.prog cx57.q.ctx := ctx_nil

theorem sum57_ok : ∀ vs r, sum57 vs = some (true, r) → SoundAt Try.prog 57 vs r := by
  intro vs r h
  unfold sum57 at h
  split at h
  · rename_i v
    simp only [Option.some.injEq, Prod.mk.injEq, Bool.and_eq_true, decide_eq_true_eq] at h
    obtain ⟨⟨⟨h0, h1⟩, h2⟩, rfl⟩ := h
    refine okO_elim h0 (motive := fun v => SoundAt Try.prog 57 [v] _) ?_
    exact f57_sound _ cx57_ok (f57_spec _ h1 h2)
  · cases h

theorem cx19_ok : CtxOk Try.prog cx19.q.ctx := (ctx_cons (g := 21) (ctx_cons (g := 43) ctx_nil (by kernel_rfl) sum43_ok) (by kernel_rfl) sum21_ok)

theorem chan_elim {v : CV} (h : okChan v = true) : ∃ c0 c1 c2 c3 c4 cr, v = .agg [.v (.int .i64 c0), .v (.int .i64 c1), .v (.int .i64 c2), .v (.int .i64 c3), .v (.int .i64 c4), cr] := by
  unfold okChan at h
  split at h
  · rename_i a b c d e f
    simp only [Bool.and_eq_true] at h
    obtain ⟨⟨⟨⟨⟨h0, h1⟩, h2⟩, h3⟩, h4⟩, _⟩ := h
    have g : ∀ {c : Cell}, isInt .i64 c = true → c = .v (.int .i64 (intC c)) := fun h => (okK_asK (k := some .i64) h).symm
    exact ⟨intC a, intC b, intC c, intC d, intC e, f, by rw [← g h0, ← g h1, ← g h2, ← g h3, ← g h4]⟩
  · cases h

theorem sum19_ok : ∀ vs r, sum19 vs = some (true, r) → SoundAt Try.prog 19 vs r := by
  intro vs r h
  unfold sum19 at h
  split at h
  · rename_i v
    simp only [Option.some.injEq, Prod.mk.injEq, Bool.and_eq_true, decide_eq_true_eq] at h
    obtain ⟨⟨⟨h0, h1⟩, h2⟩, rfl⟩ := h
    obtain ⟨c0, c1, c2, c3, c4, cr, rfl⟩ := chan_elim h0
    exact f19_sound c0 c1 c2 c3 c4 cr cx19_ok (f19_spec c0 c1 c2 c3 c4 cr h1 h2)
  · cases h

theorem cx67_ok : CtxOk Try.prog cx67.q.ctx := ctx_nil

theorem sum67_ok : ∀ vs r, sum67 vs = some (true, r) → SoundAt Try.prog 67 vs r := by
  intro vs r h
  unfold sum67 at h
  split at h
  · rename_i v
    simp only [Option.some.injEq, Prod.mk.injEq, Bool.and_eq_true, decide_eq_true_eq] at h
    obtain ⟨h0, rfl⟩ := h
    exact el_elim (pre := []) (post := []) (f := fun lo hi n l => elRet 29 lo hi n l) h0 fun lo hi n l hl hn => f67_sound _ _ _ _ cx67_ok (f67_spec lo hi n l hl hn)
  · cases h

theorem sum72_ok : ∀ vs r, sum72 vs = some (true, r) → SoundAt Try.prog 72 vs r := by
  intro vs r h
  unfold sum72 at h
  split at h
  · rename_i v
    simp only [Option.some.injEq, Prod.mk.injEq] at h
    obtain ⟨h0, rfl⟩ := h
    exact row_elim (s := 2) (pre := []) (post := []) (f := fun n l => Ret.mk (.one (.own 0 0)) [⟨25, 2, n, ic .i64 l, true⟩]) h0 fun n l hl hn => f72_clone n l hl hn
  · cases h

theorem cx59_ok : CtxOk Try.prog cx59.q.ctx := (ctx_cons (g := 72) ctx_nil (by kernel_rfl) sum72_ok)

theorem sum59_ok : ∀ vs r, sum59 vs = some (true, r) → SoundAt Try.prog 59 vs r := by
  intro vs r h
  unfold sum59 at h
  split at h
  · rename_i v
    simp only [Option.some.injEq, Prod.mk.injEq, Bool.and_eq_true, decide_eq_true_eq] at h
    obtain ⟨h0, rfl⟩ := h
    exact el_elim (pre := []) (post := []) (f := fun lo hi n l => elRet 25 lo hi n l) h0 fun lo hi n l hl hn => f59_sound _ _ _ _ cx59_ok (f59_spec lo hi n l hl hn)
  · cases h

theorem cx47_ok : CtxOk Try.prog cx47.q.ctx := ctx_nil

theorem sum47_ok : ∀ vs r, sum47 vs = some (true, r) → SoundAt Try.prog 47 vs r := by
  intro vs r h
  unfold sum47 at h
  split at h
  · rename_i v
    simp only [Option.some.injEq, Prod.mk.injEq, Bool.and_eq_true, decide_eq_true_eq] at h
    obtain ⟨h0, rfl⟩ := h
    exact el_elim (pre := []) (post := []) (f := fun lo hi n l => elRet 29 lo hi n l) h0 fun lo hi n l hl hn => by
      have k := f47_sound _ _ _ _ cx47_ok (f47_spec lo hi n l hl hn)
      by_cases h : n = 0
      · subst h
        obtain rfl : l = [] := List.eq_nil_of_length_eq_zero (by omega)
        exact sound_own rfl rfl k
      · rw [if_neg h] at k
        exact k
  · cases h

theorem cx35_ok : CtxOk Try.prog cx35.q.ctx := ctx_nil

theorem sum35_ok : ∀ vs r, sum35 vs = some (true, r) → SoundAt Try.prog 35 vs r := by
  intro vs r h
  unfold sum35 at h
  split at h
  · rename_i v
    simp only [Option.some.injEq, Prod.mk.injEq, Bool.and_eq_true, decide_eq_true_eq] at h
    obtain ⟨h0, rfl⟩ := h
    exact el_elim (pre := []) (post := []) (f := fun lo hi n l => elRet 25 lo hi n l) h0 fun lo hi n l hl hn => by
      have k := f35_sound _ _ _ _ cx35_ok (f35_spec lo hi n l hl hn)
      by_cases h : n = 0
      · subst h
        obtain rfl : l = [] := List.eq_nil_of_length_eq_zero (by omega)
        exact sound_own rfl rfl k
      · rw [if_neg h] at k
        exact k
  · cases h

theorem cx58_ok : CtxOk Try.prog cx58.q.ctx := (ctx_cons (g := 67) (ctx_cons (g := 50) ctx_nil (by kernel_rfl) sum50_ok) (by kernel_rfl) sum67_ok)

theorem sum58_ok : ∀ vs r, sum58 vs = some (true, r) → SoundAt Try.prog 58 vs r := by
  intro vs r h
  unfold sum58 at h
  split at h
  · rename_i s v t i
    simp only [Option.some.injEq, Prod.mk.injEq, Bool.and_eq_true, decide_eq_true_eq] at h
    obtain ⟨⟨⟨⟨h0, h1⟩, h2⟩, h3⟩, rfl⟩ := h
    refine okO_elim h0 (motive := fun x => SoundAt Try.prog 58 [x, v, t, i] _) ?_
    refine okO_elim h2 (motive := fun x => SoundAt Try.prog 58 [_, v, x, i] _) ?_
    refine okA_elim h3 (motive := fun x => SoundAt Try.prog 58 [_, v, _, x] _) ?_
    exact el_elim (pre := [_]) (post := [_, _]) (f := fun lo hi n l => elRet 29 (sendP (intC (cellA s 0)) lo hi n l (intC (cellA t 0)) (intC (cellA i 0)) (intC (cellA i 1))).1 (sendP (intC (cellA s 0)) lo hi n l (intC (cellA t 0)) (intC (cellA i 0)) (intC (cellA i 1))).2.1 n (sendP (intC (cellA s 0)) lo hi n l (intC (cellA t 0)) (intC (cellA i 0)) (intC (cellA i 1))).2.2) h1
      fun lo hi n l hl hn => f58_sound _ _ _ _ _ _ _ _ cx58_ok (f58_spec _ lo hi n l _ _ _ hl hn)
  · cases h

theorem cx20_ok : CtxOk Try.prog cx20.q.ctx := (ctx_cons (g := 59) (ctx_cons (g := 29) (ctx_cons (g := 45) ctx_nil (by kernel_rfl) sum45_ok) (by kernel_rfl) sum29_ok) (by kernel_rfl) sum59_ok)

theorem sum20_ok : ∀ vs r, sum20 vs = some (true, r) → SoundAt Try.prog 20 vs r := by
  intro vs r h
  unfold sum20 at h
  split at h
  · rename_i s v t i
    simp only [Option.some.injEq, Prod.mk.injEq, Bool.and_eq_true, decide_eq_true_eq] at h
    obtain ⟨⟨⟨⟨h0, h1⟩, h2⟩, h3⟩, rfl⟩ := h
    obtain ⟨c0, c1, c2, c3, c4, cr, rfl⟩ := chan_elim h0
    refine okO_elim h2 (motive := fun x => SoundAt Try.prog 20 [_, v, x, i] _) ?_
    refine okA_elim h3 (motive := fun x => SoundAt Try.prog 20 [_, v, _, x] _) ?_
    exact el_elim (pre := [_]) (post := [_, _]) (f := fun lo hi n l => elRet 25 (sendP c1 lo hi n l (intC (cellA t 0)) (intC (cellA i 0)) (intC (cellA i 1))).1 (sendP c1 lo hi n l (intC (cellA t 0)) (intC (cellA i 0)) (intC (cellA i 1))).2.1 n (sendP c1 lo hi n l (intC (cellA t 0)) (intC (cellA i 0)) (intC (cellA i 1))).2.2) h1
      fun lo hi n l hl hn => f20_sound _ _ _ _ _ _ _ _ _ _ _ _ _ cx20_ok (f20_spec c0 c1 c2 c3 c4 cr lo hi n l _ _ _ hl hn)
  · cases h

theorem cx38_ok : CtxOk Try.prog cx38.q.ctx := (ctx_cons (g := 49) ctx_nil (by kernel_rfl) sum49_ok)

theorem sum38_ok : ∀ vs r, sum38 vs = some (true, r) → SoundAt Try.prog 38 vs r := by
  intro vs r h
  unfold sum38 at h
  split at h
  · rename_i v q
    simp only [Option.some.injEq, Prod.mk.injEq, Bool.and_eq_true, decide_eq_true_eq] at h
    obtain ⟨⟨h0, h1⟩, rfl⟩ := h
    exact el_elim (pre := []) (post := [q]) (f := fun lo hi n l => boRet (hasP lo hi n l (rowN (cellA q 0)) (rowL (cellA q 0)))) h0 fun lo hi n l hl hn =>
      row_elim (s := 2) (pre := [_]) (post := []) (f := fun m k => boRet (hasP lo hi n l m k)) h1 fun m k hk hm => f38_sound _ _ _ _ _ _ cx38_ok (f38_spec lo hi n l m k hl hk hm)
  · cases h

theorem cx22_ok : CtxOk Try.prog cx22.q.ctx := (ctx_cons (g := 27) ctx_nil (by kernel_rfl) sum27_ok)

theorem sum22_ok : ∀ vs r, sum22 vs = some (true, r) → SoundAt Try.prog 22 vs r := by
  intro vs r h
  unfold sum22 at h
  split at h
  · rename_i v q
    simp only [Option.some.injEq, Prod.mk.injEq, Bool.and_eq_true, decide_eq_true_eq] at h
    obtain ⟨⟨h0, h1⟩, rfl⟩ := h
    exact el_elim (pre := []) (post := [q]) (f := fun lo hi n l => boRet (hasP lo hi n l (rowN (cellA q 0)) (rowL (cellA q 0)))) h0 fun lo hi n l hl hn =>
      row_elim (s := 2) (pre := [_]) (post := []) (f := fun m k => boRet (hasP lo hi n l m k)) h1 fun m k hk hm => f22_sound _ _ _ _ _ _ cx22_ok (f22_spec lo hi n l m k hl hk hm)
  · cases h

theorem cx23_ok : CtxOk Try.prog cx23.q.ctx := (ctx_cons (g := 42) ctx_nil (by kernel_rfl) sum42_ok)

theorem sum23_ok : ∀ vs r, sum23 vs = some (true, r) → SoundAt Try.prog 23 vs r := by
  intro vs r h
  unfold sum23 at h
  split at h
  · rename_i v u
    simp only [Option.some.injEq, Prod.mk.injEq, Bool.and_eq_true, decide_eq_true_eq] at h
    obtain ⟨⟨h0, h1⟩, rfl⟩ := h
    exact el_elim (pre := []) (post := [u]) (f := fun lo hi n l => boRet (withinP lo hi n l (elLo u) (elHi u) (elN u) (elL u))) h0 fun lo hi n l hl hn =>
      el_elim (pre := [_]) (post := []) (f := fun lo2 hi2 n2 l2 => boRet (withinP lo hi n l lo2 hi2 n2 l2)) h1 fun lo2 hi2 n2 l2 hl2 hn2 => f23_sound _ _ _ _ _ _ _ _ cx23_ok (f23_spec lo hi n l lo2 hi2 n2 l2 hl hl2 hn)
  · cases h

theorem cx46_ok : CtxOk Try.prog cx46.q.ctx := ctx_nil

theorem sum46_ok : ∀ vs r, sum46 vs = some (true, r) → SoundAt Try.prog 46 vs r := by
  intro vs r h
  unfold sum46 at h
  split at h
  · rename_i v u
    simp only [Option.some.injEq, Prod.mk.injEq, Bool.and_eq_true, decide_eq_true_eq] at h
    obtain ⟨⟨h0, h1⟩, rfl⟩ := h
    exact el_elim (pre := []) (post := [u]) (f := fun lo hi n l => boRet (sameP lo hi n l (elLo u) (elHi u) (elN u) (elL u))) h0 fun lo hi n l hl hn =>
      el_elim (pre := [_]) (post := []) (f := fun lo2 hi2 n2 l2 => boRet (sameP lo hi n l lo2 hi2 n2 l2)) h1 fun lo2 hi2 n2 l2 hl2 hn2 => f46_sound _ _ _ _ _ _ _ _ cx46_ok (f46_spec lo hi n l lo2 hi2 n2 l2 hl hl2 hn)
  · cases h

theorem cx48_ok : CtxOk Try.prog cx48.q.ctx := (ctx_cons (g := 67) (ctx_cons (g := 50) (ctx_cons (g := 51) ctx_nil (by kernel_rfl) sum51_ok) (by kernel_rfl) sum50_ok) (by kernel_rfl) sum67_ok)

theorem sum48_ok : ∀ vs r, sum48 vs = some (true, r) → SoundAt Try.prog 48 vs r := by
  intro vs r h
  unfold sum48 at h
  split at h
  · rename_i v u w
    simp only [Option.some.injEq, Prod.mk.injEq, Bool.and_eq_true, decide_eq_true_eq] at h
    obtain ⟨⟨⟨h0, h1⟩, h2⟩, rfl⟩ := h
    refine okO_elim h2 (motive := fun x => SoundAt Try.prog 48 [v, u, x] _) ?_
    exact el_elim (pre := []) (post := [u, _]) (f := fun lo hi n l => elRet 29 (twoP (boolC (cellA w 0)) lo hi n l (elLo u) (elHi u) (elN u) (elL u)).1 (twoP (boolC (cellA w 0)) lo hi n l (elLo u) (elHi u) (elN u) (elL u)).2.1 n (twoP (boolC (cellA w 0)) lo hi n l (elLo u) (elHi u) (elN u) (elL u)).2.2) h0 fun lo hi n l hl hn =>
      el_elim (pre := [_]) (post := [_]) (f := fun lo2 hi2 n2 l2 => elRet 29 (twoP (boolC (cellA w 0)) lo hi n l lo2 hi2 n2 l2).1 (twoP (boolC (cellA w 0)) lo hi n l lo2 hi2 n2 l2).2.1 n (twoP (boolC (cellA w 0)) lo hi n l lo2 hi2 n2 l2).2.2) h1 fun lo2 hi2 n2 l2 hl2 hn2 => f48_sound _ _ _ _ _ _ _ _ _ cx48_ok (f48_spec lo hi n l lo2 hi2 n2 l2 _ hl hl2 hn)
  · cases h

theorem cx66j_ok : CtxOk Try.prog cx66j.q.ctx := (ctx_cons (g := 59) (ctx_cons (g := 45) ctx_nil (by kernel_rfl) sum45_ok) (by kernel_rfl) sum59_ok)

theorem cx66w_ok : CtxOk Try.prog cx66w.q.ctx := (ctx_cons (g := 59) (ctx_cons (g := 44) ctx_nil (by kernel_rfl) sum44_ok) (by kernel_rfl) sum59_ok)

theorem sum66_ok : ∀ vs r, sum66 vs = some (true, r) → SoundAt Try.prog 66 vs r := by
  intro vs r h
  unfold sum66 at h
  split at h
  · rename_i v u f
    split at h
    · rename_i hf
      have ef := fn_const hf
      subst ef
      simp only [Option.some.injEq, Prod.mk.injEq, Bool.and_eq_true] at h
      obtain ⟨⟨h0, h1⟩, rfl⟩ := h
      exact el_elim (pre := []) (post := [u, _]) (f := fun lo hi n l => elRet 25 (twoP false lo hi n l (elLo u) (elHi u) (elN u) (elL u)).1 (twoP false lo hi n l (elLo u) (elHi u) (elN u) (elL u)).2.1 n (twoP false lo hi n l (elLo u) (elHi u) (elN u) (elL u)).2.2) h0 fun lo hi n l hl hn =>
        el_elim (pre := [_]) (post := [_]) (f := fun lo2 hi2 n2 l2 => elRet 25 (twoP false lo hi n l lo2 hi2 n2 l2).1 (twoP false lo hi n l lo2 hi2 n2 l2).2.1 n (twoP false lo hi n l lo2 hi2 n2 l2).2.2) h1 fun lo2 hi2 n2 l2 hl2 hn2 => f66j_sound _ _ _ _ _ _ _ _ cx66j_ok (f66j_spec lo hi n l lo2 hi2 n2 l2 hl hl2 hn)
    · rename_i hf
      have ef := fn_const hf
      subst ef
      simp only [Option.some.injEq, Prod.mk.injEq, Bool.and_eq_true] at h
      obtain ⟨⟨h0, h1⟩, rfl⟩ := h
      exact el_elim (pre := []) (post := [u, _]) (f := fun lo hi n l => elRet 25 (twoP true lo hi n l (elLo u) (elHi u) (elN u) (elL u)).1 (twoP true lo hi n l (elLo u) (elHi u) (elN u) (elL u)).2.1 n (twoP true lo hi n l (elLo u) (elHi u) (elN u) (elL u)).2.2) h0 fun lo hi n l hl hn =>
        el_elim (pre := [_]) (post := [_]) (f := fun lo2 hi2 n2 l2 => elRet 25 (twoP true lo hi n l lo2 hi2 n2 l2).1 (twoP true lo hi n l lo2 hi2 n2 l2).2.1 n (twoP true lo hi n l lo2 hi2 n2 l2).2.2) h1 fun lo2 hi2 n2 l2 hl2 hn2 => f66w_sound _ _ _ _ _ _ _ _ cx66w_ok (f66w_spec lo hi n l lo2 hi2 n2 l2 hl hl2 hn)
    · cases h
  · cases h

theorem cx36_ok : CtxOk Try.prog cx36.q.ctx := (ctx_cons (g := 66) ctx_nil (by kernel_rfl) sum66_ok)

theorem sum36_ok : ∀ vs r, sum36 vs = some (true, r) → SoundAt Try.prog 36 vs r := by
  intro vs r h
  unfold sum36 at h
  split at h
  · rename_i v u
    simp only [Option.some.injEq, Prod.mk.injEq, Bool.and_eq_true, decide_eq_true_eq] at h
    obtain ⟨⟨h0, h1⟩, rfl⟩ := h
    exact el_elim (pre := []) (post := [u]) (f := fun lo hi n l => elRet 25 (twoP false lo hi n l (elLo u) (elHi u) (elN u) (elL u)).1 (twoP false lo hi n l (elLo u) (elHi u) (elN u) (elL u)).2.1 n (twoP false lo hi n l (elLo u) (elHi u) (elN u) (elL u)).2.2) h0 fun lo hi n l hl hn =>
      el_elim (pre := [_]) (post := []) (f := fun lo2 hi2 n2 l2 => elRet 25 (twoP false lo hi n l lo2 hi2 n2 l2).1 (twoP false lo hi n l lo2 hi2 n2 l2).2.1 n (twoP false lo hi n l lo2 hi2 n2 l2).2.2) h1 fun lo2 hi2 n2 l2 hl2 hn2 => f36_sound _ _ _ _ _ _ _ _ cx36_ok (f36_spec lo hi n l lo2 hi2 n2 l2 hl hl2 hn hn2)
  · cases h

theorem cx37_ok : CtxOk Try.prog cx37.q.ctx := (ctx_cons (g := 66) ctx_nil (by kernel_rfl) sum66_ok)

theorem sum37_ok : ∀ vs r, sum37 vs = some (true, r) → SoundAt Try.prog 37 vs r := by
  intro vs r h
  unfold sum37 at h
  split at h
  · rename_i v u
    simp only [Option.some.injEq, Prod.mk.injEq, Bool.and_eq_true, decide_eq_true_eq] at h
    obtain ⟨⟨h0, h1⟩, rfl⟩ := h
    exact el_elim (pre := []) (post := [u]) (f := fun lo hi n l => elRet 25 (twoP true lo hi n l (elLo u) (elHi u) (elN u) (elL u)).1 (twoP true lo hi n l (elLo u) (elHi u) (elN u) (elL u)).2.1 n (twoP true lo hi n l (elLo u) (elHi u) (elN u) (elL u)).2.2) h0 fun lo hi n l hl hn =>
      el_elim (pre := [_]) (post := []) (f := fun lo2 hi2 n2 l2 => elRet 25 (twoP true lo hi n l lo2 hi2 n2 l2).1 (twoP true lo hi n l lo2 hi2 n2 l2).2.1 n (twoP true lo hi n l lo2 hi2 n2 l2).2.2) h1 fun lo2 hi2 n2 l2 hl2 hn2 => f37_sound _ _ _ _ _ _ _ _ cx37_ok (f37_spec lo hi n l lo2 hi2 n2 l2 hl hl2 hn hn2)
  · cases h

theorem cx18_ok : CtxOk Try.prog cx18.q.ctx := (ctx_cons (g := 29) ctx_nil (by kernel_rfl) sum29_ok)

theorem sum18_ok : ∀ vs r, sum18 vs = some (true, r) → SoundAt Try.prog 18 vs r := by
  intro vs r h
  unfold sum18 at h
  split at h
  · rename_i v
    simp only [Option.some.injEq, Prod.mk.injEq, Bool.and_eq_true, decide_eq_true_eq] at h
    obtain ⟨h0, rfl⟩ := h
    exact el_elim (pre := []) (post := []) (f := fun lo hi n l => Ret.mk (.one (.own 0 0)) [⟨3, 1, (tagsL n l).length, ic .i64 (tagsL n l), true⟩]) h0 fun lo hi n l hl hn => by
      have k := f18_sound _ _ _ _ cx18_ok (f18_spec lo hi n l hl hn)
      by_cases h : tagsL n l = []
      · have e : tagsRet n l = _ := if_pos h
        rw [e] at k
        show SoundAt Try.prog 18 _ (Ret.mk _ [⟨3, 1, (tagsL n l).length, ic .i64 (tagsL n l), true⟩])
        rw [h]
        exact sound_own1 k
      · have e : tagsRet n l = _ := if_neg h
        rw [e] at k
        exact k
  · cases h

theorem cx17_ok : CtxOk Try.prog cx17.q.ctx := (ctx_cons (g := 19) (ctx_cons (g := 24) (ctx_cons (g := 20) (ctx_cons (g := 22) (ctx_cons (g := 18) ctx_nil (by kernel_rfl) sum18_ok) (by kernel_rfl) sum22_ok) (by kernel_rfl) sum20_ok) (by kernel_rfl) sum24_ok) (by kernel_rfl) sum19_ok)

theorem sum17_ok : ∀ vs r, sum17 vs = some (true, r) → SoundAt Try.prog 17 vs r := by
  intro vs r h
  unfold sum17 at h
  split at h
  · simp only [Option.some.injEq, Prod.mk.injEq, true_and] at h
    subst h
    exact f17_sound cx17_ok rfl
  · cases h

end Go.Proofs.Ytlfojobligplkaa.Fn
