import Derived.Test.YtgmciihlmgeecaaPuEW
import Derived.Test.YtgmciihlmgeecaaPuE2
import Derived.Test.YtgmciihlmgeecaaPuE4
import Derived.Test.YtgmciihlmgeecaaPuE7
import Derived.Test.YtgmciihlmgeecaaWLEvalHas
/- EvalHas: the law's function tells true. Conditions: none beyond its arguments' types. -/
namespace Go.Proofs.Ytgmciihlmgeecaa.Fn
open Go Go.RowKit Go.Proofs.Ytgmciihlmgeecaa.Mt Go.Proofs.Ytgmciihlmgeecaa.Zm
set_option linter.unusedVariables false
set_option linter.unusedSimpArgs false

theorem inV3 {a b c : Int} (h0 : In a) (h1 : In b) (h2 : In c) : InV [a, b, c] := fun x hx => by
  simp at hx; unfold In at *; rcases hx with rfl | rfl | rfl <;> assumption
theorem k3 (a : Int) : 0 ≤ IntKind.i64.wrap ((IntKind.u64.wrap a).tmod 3) ∧ IntKind.i64.wrap ((IntKind.u64.wrap a).tmod 3) < 3 := mod_in (a := a) (m := 3) (by omega) (by omega)
theorem f22_pure (DD : Nat) (a b c : Int) (n : Nat) (l : List Cell) (x0 x1 x2 y0 y1 y2 : Int) (w : Bool) (kk : Int) (h : okE DD (ex a b c n l) = true)
    (h0 : In x0) (h1 : In x1) (h2 : In x2) (h3 : In y0) (h4 : In y1) (h5 : In y2) : f22_wp DD a b c n l x0 x1 x2 y0 y1 y2 w kk (fun r' => r' = boRet true) := by
  obtain ⟨t1, t2⟩ := tame_ok DD 6 3 (ex a b c n l) h
  have two := two_has h0 h1 h2 h3 h4 h5
  have rv : ∃ V, rowV (RR22 x0 x1 x2 y0 y1 y2 w) = V ∧ V.length = 3 ∧ InV V ∧ Pt 3 (vF V) (twoZ [x0, x1, x2] [y0, y1, y2]) := by
    cases w with
    | true => exact ⟨[y0, y1, y2], rfl, rfl, inV3 h3 h4 h5, two.2.2⟩
    | false => exact ⟨[x0, x1, x2], rfl, rfl, inV3 h0 h1 h2, two.2.1⟩
  obtain ⟨V, hV, lV, iV, pV⟩ := rv
  have gz := two.1
  clear two
  obtain ⟨k, m, x, m', l', et⟩ := tameC_ex DD 6 3 (ex a b c n l)
  have hk := k3 kk
  have b0 : inB x0 = true := inB_iff.2 h0
  have b1 : inB x1 = true := inB_iff.2 h1
  have b2 : inB x2 = true := inB_iff.2 h2
  have b3 : inB y0 = true := inB_iff.2 h3
  have b4 : inB y1 = true := inB_iff.2 h4
  have b5 : inB y2 = true := inB_iff.2 h5
  unfold f22_wp
  rw [hV]
  generalize IntKind.i64.wrap ((IntKind.u64.wrap kk).tmod 3) = K at *
  refine letV_j fun u hu => ?_
  have hu : tameC DD 6 3 (ex a b c n l) = u := hu
  rw [hu] at t1 t2 et
  have law := fun {z : Zo} (g : Gd 3 z) (p : Pt 3 (vF V) z) => evalHas_law (D := DD) g lV iV p hk hu h rfl rfl rfl
  clear hu
  subst et
  have h : okE DD [.v (.int .i64 a), .v (.int .i64 b), .v (.int .i64 c), .sl n l] = true := h
  refine ck_i (by simp only [h]; rfl) ?_
  have e : [Cell.v (Value.int .i64 (kK (ex k m x m' l'))), Cell.v (Value.int .i64 (kV (ex k m x m' l'))), Cell.v (Value.int .i64 (kX (ex k m x m' l'))), Cell.sl (kN (ex k m x m' l')) (kL (ex k m x m' l'))] = ex k m x m' l' := rfl
  rw [e]
  refine letV_j fun z hz => ?_
  have hz : twoZ [x0, x1, x2] [y0, y1, y2] = z := hz
  rw [hz] at gz pV
  have law := law gz pV
  clear hz hV
  have zn := gz.hn
  have zl := gz.len
  have zb := pV.1
  have hs := has_true gz iV pV
  obtain ⟨zn', zb', zD⟩ := z
  obtain rfl : zn' = 3 := zn
  obtain rfl : zb' = false := zb
  have cn : (capN 3).toNat = 3 := rfl
  dsimp only at zl law ⊢
  simp only [map_ic, cn] at law ⊢
  generalize evalC DD (ex k m x m' l') false 3 (itvsZ (3, false, zD) 3) = E at *
  generalize linC DD (ex k m x m' l') = F at *
  generalize evRC DD (ex k m x m' l') 3 V = R at *
  obtain ⟨g1, o2, o3, o4, o5⟩ := law
  refine ck_i (by simp [ics, b0, b1, b2, b3, b4, b5]) ?_
  refine ck_i (by simp [ics, zl]) ?_
  refine letV_j fun r hr => ?_
  subst hr
  refine ck_i (by simp [ics, t1, lV, okRowU]) ?_
  refine ck_i (by simp [ics, t1, t2]) ?_
  refine ck_i (by simp [ics, zl]) ?_
  refine letV_j fun e1 he1 => ?_
  subst he1
  refine ck_i (by simp [ics, t1, zl, okSl, itvsZ_len]) ?_
  refine letV_j fun y hy => ?_
  rw [hy] at g1 o4
  clear hy
  refine letV_j fun e2 he2 => ?_
  subst he2
  have yn := g1.hn
  have yl := g1.len
  have cy : (capN y.1).toNat = 3 := by rw [yn]; rfl
  have ny : ((y.1, y.2.1, y.2.2) : Zo) = y := rfl
  have rt : rightN y.2.1 (.sl (capN y.1).toNat (ic .i64 (itvsZ y (capN y.1).toNat))) y = true := by unfold rightN; rw [right_gd g1]; simp [eqRow]
  simp only [ny]
  refine ck_i (by simp [ics, t1, zl, okSl, itvsZ_len]) ?_
  refine ck_i (by simp [ics, yl]) ?_
  refine ck_i (by simp [ics, zl, okSl, itvsZ_len, okRowU, lV]) ?_
  refine ⟨by rw [hs]; rfl, by simp, ?_⟩
  refine ck_i (by simp [ics, yl]) ?_
  refine ck_i (by simp [ics, yl, okSl, itvsZ_len]) ?_
  refine ⟨by rw [rt]; rfl, ?_⟩
  refine cond_i (fun q => ?_) (fun q => ?_)
  · have q : R.2 = 2 := by simpa using q
    refine ⟨by rw [o2 q]; rfl, by rw [q]; rfl, ?_⟩
    exact cond_i (fun _ => rfl) (fun p => absurd p (by rw [q]; decide))
  refine cond_i (fun q3 => ?_) (fun q3 => ?_)
  · have q3 : R.2 = 3 := by simpa using q3
    refine ⟨by rw [o3 q3]; rfl, ?_⟩
    exact cond_i (fun _ => rfl) (fun p => absurd p (by rw [q3]; decide))
  refine cond_i (fun _ => rfl) (fun p => ?_)
  have r0 : R.2 = 0 := by simpa using p
  obtain ⟨q1, q2, q3⟩ := o4 r0
  unfold Hs at q1
  have hs2 := has_true g1 q3 q2
  have es : ([] ++ ic .i64 V).set (K.toNat * 1) (.v (.int .i64 R.1)) = ic .i64 (V.set K.toNat R.1) := by rw [List.nil_append, Nat.mul_one, ic_set]
  rw [es]
  refine ck_i (by simp [ics, lV]) (ck_i (by simp; omega) (ck_i (by simp [ics, lV]; omega) ⟨by simp; exact q1, ck_i (by simp [ics, yl, okSl, itvsZ_len, okRowU, lV]) ?_⟩))
  show Ret.mk _ _ = _
  rw [map_ic, hs2, q2.1]; rfl
theorem cx22_ok (d : Nat) : CtxOk Try.prog (cx22 d).q.ctx := (ctx_cons (g := 67) (ctx_cons (g := 77) (ctx_cons (g := 78) (ctx_cons (g := 69) (ctx_cons (g := 75) (ctx_cons (g := 79) (ctx_cons (g := 71) (ctx_cons (g := 60) (ctx_cons (g := 45) (ctx_cons (g := 81) ctx_nil (by kernel_rfl) sum81_ok) (by kernel_rfl) sum45_ok) (by kernel_rfl) sum60_ok) (by kernel_rfl) sum71_ok) (by kernel_rfl) (sum79_ok d)) (by kernel_rfl) (sum75_ok d)) (by kernel_rfl) (sum69_ok d)) (by kernel_rfl) (sum78_ok d)) (by kernel_rfl) sum77_ok) (by kernel_rfl) (sum67_ok d))
theorem f22_law (cs : List Cell) (x0 x1 x2 y0 y1 y2 : Int) (w : Bool) (kk : Int) {D : Nat} (h : TyC Try.prog D 93 cs)
    (h0 : (Lit.int .i32 x0).wf = true) (h1 : (Lit.int .i32 x1).wf = true) (h2 : (Lit.int .i32 x2).wf = true) (h3 : (Lit.int .i32 y0).wf = true) (h4 : (Lit.int .i32 y1).wf = true) (h5 : (Lit.int .i32 y2).wf = true) (_ : (Lit.int .i64 kk).wf = true) :
    SoundAt Try.prog 22 [.agg cs, .agg [.v (.int .i32 x0), .v (.int .i32 x1), .v (.int .i32 x2), .v (.int .i32 y0), .v (.int .i32 y1), .v (.int .i32 y2), .v (.bool w)], .one (.v (.int .i64 kk))] (boRet true) := by
  have wf : ∀ {x : Int}, (Lit.int .i32 x).wf = true → In x := fun h => by simp [Lit.wf, IntKind.min, IntKind.max, IntKind.bits, IntKind.signed] at h; unfold In; omega
  have o := okE_ty D cs h
  obtain ⟨d', hd, a, b, c, n, l, rfl, _, _⟩ := okE_elim o
  exact f22_sound D a b c n l x0 x1 x2 y0 y1 y2 w kk (cx22_ok D) (f22_pure D a b c n l x0 x1 x2 y0 y1 y2 w kk o (wf h0) (wf h1) (wf h2) (wf h3) (wf h4) (wf h5))

end Go.Proofs.Ytgmciihlmgeecaa.Fn
