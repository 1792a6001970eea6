import Derived.Test.YtlfojobligplkaaDoorPuC2
import Derived.WalkSpells
/- slices.Clone makes a row of its own of the same cells, whether the row is nil or not. Conditions: those that each lemma names. -/
namespace Go.Proofs.YtlfojobligplkaaDoor.Fn
open Go Go.RowKit Go.Proofs Go.Proofs.YtlfojobligplkaaDoor.Mt
set_option linter.unusedVariables false
set_option linter.unusedSimpArgs false

def cL : Code → Code
  | .seq a _ => a
  | c => c
def cR : Code → Code
  | .seq _ b => b
  | c => c
def opsIn : Code → Array Oper
  | .region _ ops _ => ops
  | _ => #[]
noncomputable def cB : Code := (Tryd.f23.body).getD .skip
noncomputable def clOps : Array Oper := opsIn (cL (cL (cR cB)))
noncomputable def clO (i : Nat) : Oper := (clOps[i]?).getD { dst := none, op := .move (.tmp 0), type := 0, pos := "", after := #[], guard := none }

section
variable {P : Program} {W0 : Base} {S0 : Nat → Prop} {φ : Nat → Nat → Nat} {γ : Nat → Nat → Value} {st : St} {a : Act} {w : World}

/-- One step whose value is known, whatever the text's order asks. -/
theorem one_wp {ops : Array Oper} {i : Nat} {o : Oper} (hi : ops[i]? = some o) (hg : o.guard = none) {u : Value} {v : CV} (hR : Rep W0 S0 φ γ st a w) (hrun : (execOp a.eval o).run P w = .ok (.value u) w) (hv : RelV w (envOf W0 S0 φ γ st w) v u)
    {K : Act → World → Prop} {Q : Exit → Act → World → Prop} (hK : ∀ φ' γ' u w', Rep W0 S0 φ' γ' (applyR o.dst st { val := v }) (a.put o.dst u) w' → K (a.put o.dst u) w') : wpOp P ops Q i K a w := by
  unfold wpOp
  rw [hi]
  have hw := wanted_rel (ops := ops) (o := o) (g := none) (by rw [hg]; rfl) hR (show wantedC st none = some true from rfl)
  simp only [hw, if_true]
  exact .inl ((Sound1.pure hR hrun hv).wp K Q fun φ' γ' u w' h => hK φ' γ' u w' h)
end

theorem retrel_own1 {w w' : World} {S : Nat → Prop} {u : Value} {γ : Nat → Value} {e s : Nat} (hr : RetRel w w' S (Ret.mk (.one (.v (.slice none 0 0))) []) u γ) : RetRel w w' S (Ret.mk (.one (.own 0 0)) [⟨e, s, 0, [], true⟩]) u (fun _ => .slice none 0 0) := by
  refine ⟨hr.bel, fun j t hj => ?_, fun j j' b' hj hj' h1 _ => by simp [Value.ownBlock] at h1, ?_⟩
  · cases j with
    | zero =>
      simp at hj
      subst hj
      exact ⟨[], ⟨by simp, .inl ⟨rfl, rfl⟩⟩, rfl, fun j c u h => by simp at h⟩
    | succ j => simp at hj
  · have hu : u = .slice none 0 0 := rel_v (show RelV w' _ (.one (.v (.slice none 0 0))) u from hr.val)
    subst hu
    exact ⟨⟨rfl, Nat.zero_lt_one⟩, rfl, rfl⟩

theorem end_fin {P : Program} {fn : Func} {rs : List SRes} (h4 : ccRes P fn.results.toList = some rs) (h6 : rs.length ≤ 3) {m : Nat} {r : Ret} {S : Nat → Prop} {w w' : World} {φ' : Nat → Nat → Nat} {γ' : Nat → Nat → Value} {o : Orc} {e : Ex} {s : St} {a' : Act}
    (hK : endO m rs (fun r' => r' = r) o e s) (hR' : Rep ⟨w, fun _ => False⟩ S φ' γ' s a' w') (he : ∀ i, e ≠ .exit i) :
    a'.defers = [] ∧ ∃ v, (results fn a'.tmps).run P w' = .ok v w' ∧ ∃ u γ, Ending.returned v = .returned u ∧ RetRel w w' S r u γ := by
  have hK' : (match resQ s rs with
    | some q => bif q.1 then (match retW m s q.2 with
      | some r' => bif r'.1 then r'.2 = r else False
      | none => False) else False
    | none => False) := by
    cases e with
    | exit i => exact absurd rfl (he i)
    | norm => exact hK
    | ret => exact hK
  cases hq : resQ s rs with
  | none => rw [hq] at hK'; exact hK'.elim
  | some q =>
    rw [hq] at hK'
    simp only at hK'
    cases hb : q.1 with
    | false => rw [hb] at hK'; exact hK'.elim
    | true =>
      rw [hb] at hK'
      simp only [cond_true] at hK'
      cases hr : retW m s q.2 with
      | none => rw [hr] at hK'; exact hK'.elim
      | some r' =>
        rw [hr] at hK'
        simp only at hK'
        cases hb2 : r'.1 with
        | false => rw [hb2] at hK'; exact hK'.elim
        | true =>
        rw [hb2] at hK'
        simp only [cond_true] at hK'
        subst hK'
        obtain ⟨u, hu, hv⟩ := run_results h4 h6 hR' hq hb
        obtain ⟨γn, hrr⟩ := ret_rel hR'.mem hv (retW_sound hr hb2)
        exact ⟨hR'.dfr, u, hu, u, γn, rfl, hrr⟩

def clS0 : SC := .reg [⟨some 2, .mv (.c (.slice none 0 0)), none⟩]
theorem cl0 : cc Tryd.prog hints [] (cL cB) [] = some (clS0, []) := by kernel_rfl
def clS1 : SC := .cond (.t 4) (.seq (.reg [⟨some 2, .mv (.c (.slice none 0 0)), none⟩]) .ret) .skip
theorem cl1 : cc Tryd.prog hints [] (cR (cL (cR cB))) [] = some (clS1, []) := by kernel_rfl
def clS2 : SC := .seq (.reg [⟨some 5, .buildS 29 2 0 [] [], none⟩, ⟨some 6, .mv (.t 0), none⟩, ⟨some 7, .app 29 2 16 [.int .i64 0, .int .i64 0] (.t 5) (.t 6), none⟩, ⟨some 2, .mv (.t 7), none⟩]) .ret
theorem cl2 : cc Tryd.prog hints [] (cR (cR cB)) [] = some (clS2, []) := by kernel_rfl

def clSt (n : Nat) (cs : List Cell) : St := setB (applyR (some 4) (applyR (some 3) (applyR (some 2) (Mt.start 8 [.one (.sl n cs)]) { val := .one (.v (.slice none 0 0)) }) { val := .one (.sl n cs) }) { val := .one (.v (.bool false)) }) 4 false
theorem cl2_wp (n : Nat) (cs : List Cell) (R : Ret → Prop) : wpO {} clS2 .e (clSt n cs) (endO 16 [.tmp 2] R) = (bif (decide ((0 + n) * 16 ≤ 140737488355328) && true && true && true && true && (cs.length == n * 2)) then R (Ret.mk (.one (.own 0 0)) [⟨29, 2, 0 + n, cs, true⟩]) else False) := by kernel_rfl

theorem f23_clone (n : Nat) (l : List Int) (hl : l.length = n * 2) (hn : n ≤ 8796093022208) : SoundAt Tryd.prog 23 [.one (.sl n (ic .i64 l))] (Ret.mk (.one (.own 0 0)) [⟨29, 2, n, ic .i64 l, true⟩]) := by
  intro w S us hA
  obtain ⟨hlen, hrel⟩ := hA
  obtain ⟨u0, rfl⟩ : ∃ u, us = [u] := by
    match us, hlen with
    | [u], _ => exact ⟨u, rfl⟩
  have h0 := hrel 0 _ u0 rfl rfl
  refine calls_of_wp (fn := Tryd.f23) (c := .seq (cL cB) (.seq (.seq (.region 1 clOps false) (cR (cL (cR cB)))) (cR (cR cB)))) (by kernel_rfl) (by kernel_rfl) ?_
  have hR : Rep ⟨w, fun _ => False⟩ S (fun _ _ => 0) (fun _ _ => undef) (Mt.start 8 [.one (.sl n (ic .i64 l))]) { tmps := #[u0] ++ Array.replicate (Tryd.f23.ntmps - #[u0].size) undef, defers := [] } w := by
    refine ⟨⟨⟨rfl, rfl, rfl, Nat.le_refl _, fun _ _ _ => rfl⟩, fun d k cs hc => absurd hc tat_empty, fun d k cs d' k' cs' hc => absurd hc tat_empty, fun d k t ht => absurd ht tat_empty, fun d k t d' k' t' b ht => absurd ht tat_empty, fun d k t d' k' cs ht => absurd ht tat_empty⟩, rfl, ?_, ?_⟩
    · rfl
    · intro i c u hc hu
      refine tms_at (vs := [.one (.sl n (ic .i64 l))]) (us := [u0]) (n := 8) rfl (R := fun c u => RelV w (envOf ⟨w, fun _ => False⟩ S (fun _ _ => 0) (fun _ _ => undef) (Mt.start 8 [.one (.sl n (ic .i64 l))]) w) c u) (fun j v u hv hu => ?_) (fun u => trivial) i c u hc hu
      have hr := hrel j v u hv hu
      have : Le w (argEnv w S) w (envOf ⟨w, fun _ => False⟩ S (fun _ _ => 0) (fun _ _ => undef) (Mt.start 8 [.one (.sl n (ic .i64 l))]) w) :=
        ⟨fun b hb => ⟨⟨hb.1, fun _ => hb.2, fun d k cs hc => absurd hc tat_empty, fun d k t ht => absurd ht tat_empty⟩, rfl⟩, fun d k hB => hB.elim, fun d k hT => hT.elim⟩
      exact RelV.of1 (hr.mono this)
  have hC : CtxOk Tryd.prog (CtxW.q {}).ctx := ctx_nil
  have hS : SzA [] 8 (Mt.start 8 [.one (.sl n (ic .i64 l))]) := ⟨⟨rfl, rfl⟩, fun p b hb => (by cases hb), rfl⟩
  refine wp_seq (code_wpO (C := {}) (oc := .e) (K := fun _ e s => e = .norm ∧ s = (applyR (some 2) (Mt.start 8 [.one (.sl n (ic .i64 l))]) { val := .one (.v (.slice none 0 0)) })) mixed hC cl0 rfl (v0 := none) (fun e => by cases e) ⟨rfl, rfl⟩ hR hS (fun v e => by cases e) fun o e s φ1 γ1 a1 w1 hK hR1 hs1 _ => ?_)
  obtain ⟨rfl, rfl⟩ := hK
  refine wp_seq (wp_seq (wp_region ?_))
  show wpOps Tryd.prog clOps _ [0, 1] a1 w1
  rw [wpOps_cons]
  have hT0 := hR1.getT 0
  refine one_wp (o := clO 0) (by kernel_rfl) (by kernel_rfl) hR1 (u := a1.tmps.getD 0 undef) (v := .one (.sl n (ic .i64 l))) ?_ hT0 ?_
  · have : (clO 0).op = .move (.tmp 0) := by kernel_rfl
    unfold execOp
    rw [this]; rfl
  intro φ2 γ2 u2 w2 hR2
  rw [wpOps_cons]
  have d0 : (clO 0).dst = some 3 := by kernel_rfl
  rw [d0] at hR2 ⊢
  have hT3 := hR2.getT 3
  obtain ⟨A, cap, hA3, hnil⟩ : ∃ A cap, (a1.put (some 3) u2).tmps.getD 3 undef = .slice A n cap ∧ (A = none → ic .i64 l = []) := by
    have h3 : RelC1 w2 (envOf ⟨w, fun _ => False⟩ S φ2 γ2 _ w2) (.sl n (ic .i64 l)) ((a1.put (some 3) u2).tmps.getD 3 undef) := hT3
    have h3' : RelC w2 _ (.sl n (ic .i64 l)) ((a1.put (some 3) u2).tmps.getD 3 undef) := h3
    generalize (a1.put (some 3) u2).tmps.getD 3 undef = z at h3'
    cases h3' with
    | sl xs hn' hl' hx hr =>
      refine ⟨_, _, rfl, fun hA => ?_⟩
      apply Classical.byContradiction
      intro hne
      obtain ⟨b, hb, _⟩ := hx hne
      rw [hA] at hb; cases hb
  refine one_wp (o := clO 1) (by kernel_rfl) (by kernel_rfl) hR2 (u := .bool A.isNone) (v := .one (.v (.bool A.isNone))) ?_ (RelC.v rfl) ?_
  · have : (clO 1).op = .binOp .eql 30 (.tmp 3) (.const (.slice none 0 0)) 30 := by kernel_rfl
    unfold execOp
    rw [this]
    have e3 : (a1.put (some 3) u2).eval (.tmp 3) = .slice A n cap := hA3
    have ec : (a1.put (some 3) u2).eval (.const (.slice none 0 0)) = .slice none 0 0 := rfl
    simp [e3, ec, eqGuard, Lib.run_eql_slice_nil w2 30 29 A n cap 0 0 Tryd.underlying30]
  intro φ3 γ3 u3 w3 hR3
  have d1 : (clO 1).dst = some 4 := by kernel_rfl
  rw [d1] at hR3 ⊢
  have hS3 : SzA [] 8 (applyR (some 4) (applyR (some 3) (applyR (some 2) (Mt.start 8 [.one (.sl n (ic .i64 l))]) { val := .one (.v (.slice none 0 0)) }) { val := .one (.sl n (ic .i64 l)) }) { val := .one (.v (.bool A.isNone)) }) := ⟨⟨rfl, rfl⟩, fun p b hb => (by cases hb), rfl⟩
  have hres : ccRes Tryd.prog Tryd.f23.results.toList = some [.tmp 2] := by kernel_rfl
  show (cR (cL (cR cB))).wp Tryd.prog _ _ _
  cases A with
  | none =>
    have hl0 : l = [] := by
      have := hnil rfl
      cases l with
      | nil => rfl
      | cons x l => cases this
    have hn0 : n = 0 := by rw [hl0] at hl; simp at hl; omega
    refine code_wpO (C := {}) (oc := .n 0 .e) (K := fun o e s => e = .ret ∧ endO 16 [.tmp 2] (fun r' => r' = Ret.mk (.one (.v (.slice none 0 0))) []) o e s) mixed hC cl1 rfl (v0 := none) (fun e => by cases e) ?_ hR3 hS3 (fun v e => by cases e) fun o e s φ4 γ4 a4 w4 hK hR4 hs4 _ => ?_
    · exact ⟨rfl, rfl⟩
    obtain ⟨rfl, hK⟩ := hK
    have fin := end_fin (fn := Tryd.f23) hres (by decide) hK hR4 (fun i e => by cases e)
    have conv : a4.defers = [] ∧ ∃ v, (results Tryd.f23 a4.tmps).run Tryd.prog w4 = .ok v w4 ∧ ∃ u γ, Ending.returned v = .returned u ∧ RetRel w w4 S (Ret.mk (.one (.own 0 0)) [⟨29, 2, n, ic .i64 l, true⟩]) u γ := by
      obtain ⟨g1, v, g2, u, γ, g3, g4⟩ := fin
      refine ⟨g1, v, g2, u, (fun _ => .slice none 0 0), g3, ?_⟩
      rw [hl0, hn0]
      exact retrel_own1 g4
    exact conv
  | some A =>
    refine code_wpO (C := {}) (oc := .n 0 .e) (K := fun _ e s => e = .norm ∧ s = setB (applyR (some 4) (applyR (some 3) (applyR (some 2) (Mt.start 8 [.one (.sl n (ic .i64 l))]) { val := .one (.v (.slice none 0 0)) }) { val := .one (.sl n (ic .i64 l)) }) { val := .one (.v (.bool false)) }) 4 false) mixed hC cl1 rfl (v0 := none) (fun e => by cases e) ?_ hR3 hS3 (fun v e => by cases e) fun o e s φ4 γ4 a4 w4 hK hR4 hs4 _ => ?_
    · exact ⟨rfl, rfl⟩
    obtain ⟨rfl, rfl⟩ := hK
    show (cR (cR cB)).wp Tryd.prog _ _ _
    refine code_wpO (C := {}) (oc := .e) (K := endO 16 [.tmp 2] (fun r' => r' = Ret.mk (.one (.own 0 0)) [⟨29, 2, n, ic .i64 l, true⟩])) mixed hC cl2 rfl (v0 := none) (fun e => by cases e) ?_ hR4 hs4 (fun v e => by cases e) fun o e s φ5 γ5 a5 w5 hK hR5 hs5 _ => ?_
    · show wpO {} clS2 .e (clSt n (ic .i64 l)) _
      rw [cl2_wp]
      have hc : (decide ((0 + n) * 16 ≤ 140737488355328) && true && true && true && true && ((ic .i64 l).length == n * 2)) = true := by
        rw [ic_len, hl]; simp; omega
      rw [hc, Nat.zero_add]
      rfl
    · cases e with
      | ret => exact end_fin (fn := Tryd.f23) hres (by decide) hK hR5 (fun i e => by cases e)
      | exit i => exact hK.elim
      | norm => exact end_fin (fn := Tryd.f23) hres (by decide) hK hR5 (fun i e => by cases e)

end Go.Proofs.YtlfojobligplkaaDoor.Fn
