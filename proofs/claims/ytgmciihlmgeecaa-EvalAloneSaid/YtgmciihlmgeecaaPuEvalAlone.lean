import Derived.Test.YtgmciihlmgeecaaPuEX
import Derived.Test.YtgmciihlmgeecaaPuE2
import Derived.Test.YtgmciihlmgeecaaPuE4
import Derived.Test.YtgmciihlmgeecaaPuEO
import Derived.Test.YtgmciihlmgeecaaWLEvalAlone
/- EvalAlone: the law's function tells true. Conditions: none beyond its arguments' types. -/
namespace Go.Proofs.Ytgmciihlmgeecaa.Fn
open Go Go.RowKit Go.Proofs.Ytgmciihlmgeecaa.Mt Go.Proofs.Ytgmciihlmgeecaa.Zm
set_option linter.unusedVariables false
set_option linter.unusedSimpArgs false

theorem bne_no {a b : Bool} (h : a = b) : (a != b) = false := by subst h; cases a <;> rfl
theorem k3 (a : Int) : 0 ≤ IntKind.i64.wrap ((IntKind.u64.wrap a).tmod 3) ∧ IntKind.i64.wrap ((IntKind.u64.wrap a).tmod 3) < 3 := mod_in (a := a) (m := 3) (by omega) (by omega)
theorem inV3 {a b c : Int} (h0 : In a) (h1 : In b) (h2 : In c) : InV [a, b, c] := fun x hx => by
  simp at hx; unfold In at *; rcases hx with rfl | rfl | rfl <;> assumption
set_option maxHeartbeats 4000000 in
theorem f21_pure (DD : Nat) (a b c : Int) (n : Nat) (l : List Cell) (x0 x1 x2 kk : Int) (h : okE DD (ex a b c n l) = true) (h0 : In x0) (h1 : In x1) (h2 : In x2) : f21_wp DD a b c n l x0 x1 x2 kk (fun r' => r' = boRet true) := by
  obtain ⟨t1, t2⟩ := tame_ok DD 6 3 (ex a b c n l) h
  have ft := four_tame DD 6 3 (ex a b c n l)
  have sz := two_sg h0 h1 h2
  have iV := inV3 h0 h1 h2
  have hk := k3 kk
  have b0 : inB x0 = true := inB_iff.2 h0
  have b1 : inB x1 = true := inB_iff.2 h1
  have b2 : inB x2 = true := inB_iff.2 h2
  unfold f21_wp
  (try delta X21_5); (try delta X21_4); (try delta X21_3); (try delta X21_2); (try delta X21_1); (try delta X21_0)
  generalize IntKind.i64.wrap ((IntKind.u64.wrap kk).tmod 3) = K at *
  refine letV_j fun u hu => ?_
  have hu : tameC DD 6 3 (ex a b c n l) = u := hu
  have law := evalAlone_law (D := DD) sz rfl iV hk hu h rfl rfl rfl
  rw [hu] at t1 t2 ft
  clear hu
  have h : okE DD (EX21 a b c n l) = true := h
  refine ck_i (by simp only [h]; rfl) ?_
  refine letV_j fun z hz => ?_
  have hz : twoZ [x0, x1, x2] [x0, x1, x2] = z := hz
  rw [hz] at law sz
  clear hz
  have zn := sz.gd.hn
  have zl := sz.gd.len
  have zb := sz.pt.1
  have cz : (capN z.1).toNat = 3 := by rw [zn]; rfl
  have oz : okSl 2 (Cell.sl 3 (ic .i64 (itvsZ z 3))) = true := by simp [ics, okSl, itvsZ_len]
  have eV : [Cell.v (Value.int .i64 x0), Cell.v (Value.int .i64 x1), Cell.v (Value.int .i64 x2)] = ic .i64 [x0, x1, x2] := rfl
  rw [eV]
  simp only [ft, map_ic, Prod.eta, ic_set, Nat.mul_one]
  simp only [zb, cz]
  generalize evalC DD u false 3 (itvsZ z 3) = E at *
  generalize linC DD u = F at *
  generalize evRC DD u 3 [x0, x1, x2] = r at *
  obtain ⟨l1, l2, l3, l4⟩ := law
  refine ck_i (by simp [ics, b0, b1, b2]) ?_
  refine ck_i (by simp [ics, zl]) ?_
  refine letV_j fun r' hr => ?_
  subst hr
  refine ck_i (by simp [ics, t1]) ?_
  refine ck_i (by simp [ics, t1, t2]) ?_
  refine ck_i (by simp [ics, zl]) ?_
  refine letV_j fun e1 he1 => ?_
  subst he1
  refine ck_i (by simp [ics, t1, zl, oz]) ?_
  refine letV_j fun y hy => ?_
  refine letV_j fun e2 he2 => ?_
  subst he2
  have gy : Gd 3 y := by rw [← hy]; exact asg_gd sz.gd rfl
  rw [hy] at l3 l4
  clear hy
  have yl := gy.len
  have yn := gy.hn
  have cy : (capN y.1).toNat = 3 := by rw [yn]; rfl
  have oy : okSl 2 (Cell.sl 3 (ic .i64 (itvsZ y 3))) = true := by simp [ics, okSl, itvsZ_len]
  simp only [cy]
  refine ck_i (by simp [ics, t1, zl, oz]) ?_
  refine ck_i (by simp [ics, yl]) ?_
  have c1 : (E.2.1 != (r.2 == 2)) = false := bne_no (by
    rw [l1]
    by_cases q : r.2 = 0
    · rw [exO_0 q, q]; rfl
    · rw [exO_1 q]; rfl)
  have c2 : (E.2.2 != (r.2 == 3)) = false := bne_no (by
    rw [l1]
    by_cases q : r.2 = 0
    · rw [exO_0 q, q]; rfl
    · rw [exO_1 q]; rfl)
  refine ⟨c1, c2, ?_⟩
  refine cond_i (fun q => ?_) (fun q => ?_)
  · have q : r.2 ≠ 0 := by simpa using q
    refine ⟨by rw [l1, exO_1 q]; rfl, ?_⟩
    show Ret.mk _ _ = _
    rw [l3 q]; rfl
  · have q : r.2 = 0 := by simpa using q
    obtain ⟨m1, m2, m3, m4⟩ := l4 q
    refine ck_i (by simp; omega) ?_
    refine ck_i (by simp; omega) ?_
    refine letV_j fun p hp => ?_
    rw [ofP_one m1] at hp
    subst hp
    refine ⟨by rw [l1, exO_0 q]; simp, ?_⟩
    rw [← m2] at m3 ⊢
    have lW : (List.set [x0, x1, x2] K.toNat r.1).length = 3 := by rw [List.length_set]; rfl
    generalize List.set [x0, x1, x2] K.toNat r.1 = W at *
    have hs := has_true gy m4 m3.pt
    have wi := within_refl gy
    refine ck_i (by simp [ics, yl]) ?_
    refine ck_i (by simp [ics, yl, oy, okRowU, lW]) ?_
    refine ⟨by rw [hs, m3.pt.1]; rfl, ?_⟩
    refine letV_j fun w1 e1 => ?_
    subst e1
    simp only [cy]
    refine ck_i (by simp [ics, noSl_ic, okRowU, lW]) ?_
    refine ck_i (by simp [ics, yl, oy]) ?_
    refine ⟨wi, ?_⟩
    refine letV_j fun w1 e1 => ?_
    subst e1
    simp only [cy]
    refine ck_i (by simp [ics, noSl_ic, okRowU, lW]) ?_
    refine ck_i (by simp [ics, yl, oy]) ?_
    show Ret.mk _ _ = _
    rw [wi]; rfl
theorem cx21_ok (d : Nat) : CtxOk Try.prog (cx21 d).q.ctx := (ctx_cons (g := 67) (ctx_cons (g := 77) (ctx_cons (g := 78) (ctx_cons (g := 69) (ctx_cons (g := 75) (ctx_cons (g := 79) (ctx_cons (g := 71) (ctx_cons (g := 44) (ctx_cons (g := 30) (ctx_cons (g := 60) (ctx_cons (g := 80) (ctx_cons (g := 54) ctx_nil (by kernel_rfl) sum54_ok) (by kernel_rfl) sum80o_ok) (by kernel_rfl) sum60_ok) (by kernel_rfl) sum30_ok) (by kernel_rfl) sum44_ok) (by kernel_rfl) sum71_ok) (by kernel_rfl) (sum79_ok d)) (by kernel_rfl) (sum75_ok d)) (by kernel_rfl) (sum69_ok d)) (by kernel_rfl) (sum78_ok d)) (by kernel_rfl) sum77o_ok) (by kernel_rfl) (sum67_ok d))
theorem f21_law (cs : List Cell) (x0 x1 x2 kk : Int) {D : Nat} (h : TyC Try.prog D 93 cs) (h0 : (Lit.int .i32 x0).wf = true) (h1 : (Lit.int .i32 x1).wf = true) (h2 : (Lit.int .i32 x2).wf = true) (_ : (Lit.int .i64 kk).wf = true) :
    SoundAt Try.prog 21 [.agg cs, .agg [.v (.int .i32 x0), .v (.int .i32 x1), .v (.int .i32 x2)], .one (.v (.int .i64 kk))] (boRet true) := by
  have wf : ∀ {x : Int}, (Lit.int .i32 x).wf = true → In x := fun h => by simp [Lit.wf, IntKind.min, IntKind.max, IntKind.bits, IntKind.signed] at h; unfold In; omega
  have o := okE_ty D cs h
  obtain ⟨d', hd, a, b, c, n, l, rfl, _, _⟩ := okE_elim o
  exact f21_sound D a b c n l x0 x1 x2 kk (cx21_ok D) (f21_pure D a b c n l x0 x1 x2 kk o (wf h0) (wf h1) (wf h2))

end Go.Proofs.Ytgmciihlmgeecaa.Fn
