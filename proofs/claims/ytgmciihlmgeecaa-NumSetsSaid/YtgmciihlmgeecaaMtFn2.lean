import Derived.Test.YtgmciihlmgeecaaMtFn
/- What is told of a function is so, if the evaluator finds it. Conditions: those that each lemma names. -/
namespace Go.Proofs.Ytgmciihlmgeecaa.Mt
open Go Go.RowKit

/-- A function that is handed a variable's address: its first slot, for good. -/
def startP (n : Nat) (cs : List Cell) (vs : List CV) : St :=
  { tm := (.box 0 0 0 :: vs) ++ List.replicate (n - (vs.length + 1)) .no, bx := [cs] :: List.replicate (vs.length + (n - (vs.length + 1))) [], tk := [] :: List.replicate (vs.length + (n - (vs.length + 1))) [] }

def endP (R : List Cell → Prop) (e : Ex) (st : St) : Prop := match e with
  | .exit _ => False
  | _ => match st.tm.getD 0 .no with
    | .box d k 0 => match tat st.bx d k with
      | some cs => R cs
      | none => False
    | _ => False

def wpP (C : CtxQ) (F : SFn) (cs : List Cell) (vs : List CV) (R : List Cell → Prop) : Prop := wpQ C F.code (startP F.n cs vs) (endP R)

section
variable {P : Program} {C : CtxQ}

theorem sfn_spec {H : Hints} {g : Nat} {hd : Heads} {F : SFn} (h : sfn P H g hd = some F) :
    ∃ fn code hd', P.funcs[g]? = some fn ∧ fn.body = some code ∧ cc P H (aliases P H code []) code hd = some (F.code, hd') ∧ ccRes P fn.results.toList = some F.rs ∧ oneC F.code = true ∧ F.rs.length ≤ 3 ∧ fn.ntmps = F.n := by
  simp only [sfn, Option.bind_eq_some_iff] at h
  obtain ⟨fn, h1, code, h2, x, h3, rs, h4, h5⟩ := h
  split at h5
  · rename_i hc
    simp only [Option.some.injEq] at h5
    subst h5
    exact ⟨fn, code, x.2, h1, h2, h3, h4, hc.1, hc.2, rfl⟩
  · cases h5

theorem tat_empty {α : Type} {m d k : Nat} {x : α} : tat (List.replicate m ([] : List α)) d k ≠ some x := by
  unfold tat
  rw [List.getD_eq_getElem?_getD, List.getElem?_replicate]
  split <;> simp

theorem tms_at {vs : List CV} {us : List Value} (hl : vs.length = us.length) {n : Nat} {R : CV → Value → Prop} (h : ∀ (j : Nat) (v : CV) (u : Value), vs[j]? = some v → us[j]? = some u → R v u) (hno : ∀ u, R .no u) (i : Nat) (c : CV) (u : Value)
    (hc : (vs ++ List.replicate (n - vs.length) CV.no)[i]? = some c) (hu : (us.toArray ++ Array.replicate (n - us.toArray.size) undef)[i]? = some u) : R c u := by
  by_cases hi : i < vs.length
  · rw [List.getElem?_append_left hi] at hc
    rw [Array.getElem?_append_left (by simpa using (by omega : i < us.length))] at hu
    exact h i c u hc (by simpa using hu)
  · rw [List.getElem?_append_right (by omega), List.getElem?_replicate] at hc
    split at hc
    · simp only [Option.some.injEq] at hc; subst hc; exact hno u
    · cases hc

theorem soundAt (hm : P.follows .mixedOrders = true) (hC : CtxOk P C.ctx) {H : Hints} {g : Nat} {hd : Heads} {F : SFn} (hF : sfn P H g hd = some F) {vs : List CV} {r : Ret} (h : wpF C F vs (fun r' => r' = r)) : SoundAt P g vs r := by
  obtain ⟨fn, code, hd', h1, h2, h3, h4, h5, h6, h7⟩ := sfn_spec hF
  intro w S us hA
  obtain ⟨hl, hrel⟩ := hA
  refine calls_of_wp h1 h2 ?_
  have hR : Rep ⟨w, fun _ => False⟩ S (fun _ _ => 0) (fun _ _ => undef) (start F.n vs) { tmps := us.toArray ++ Array.replicate (fn.ntmps - us.toArray.size) undef, defers := [] } w := by
    refine ⟨⟨⟨rfl, rfl, rfl, Nat.le_refl _, fun _ _ _ => rfl⟩, fun d k cs hc => absurd hc tat_empty, fun d k cs d' k' cs' hc => absurd hc tat_empty, fun d k t ht => absurd ht tat_empty, fun d k t d' k' t' b ht => absurd ht tat_empty, fun d k t d' k' cs ht => absurd ht tat_empty⟩, rfl, ?_, ?_⟩
    · simp [start, h7, hl]
    · intro i c u hc hu
      rw [h7] at hu
      refine tms_at hl (R := fun c u => RelV w (envOf ⟨w, fun _ => False⟩ S (fun _ _ => 0) (fun _ _ => undef) (start F.n vs) w) c u) (fun j v u hv hu => ?_) (fun u => trivial) i c u hc hu
      have hr := hrel j v u hv hu
      have : Le w (argEnv w S) w (envOf ⟨w, fun _ => False⟩ S (fun _ _ => 0) (fun _ _ => undef) (start F.n vs) w) :=
        ⟨fun b hb => ⟨⟨hb.1, fun _ => hb.2, fun d k cs hc => absurd hc tat_empty, fun d k t ht => absurd ht tat_empty⟩, rfl⟩, fun d k hB => hB.elim, fun d k hT => hT.elim⟩
      exact RelV.of1 (hr.mono this)
  have hS : SzA (aliases P H code []) (start F.n vs).tm.length (start F.n vs) := by
    refine ⟨⟨by simp [start], by simp [start]⟩, fun p b _ i k off hp => ?_, rfl⟩
    exfalso
    have hT := hR.getT p
    rw [hp] at hT
    obtain ⟨⟨cs, hcs⟩, _⟩ := hT
    exact tat_empty hcs
  refine code_wp (n := (start F.n vs).tm.length) hm hC h3 h5 (v0 := none) (fun e => by cases e) h hR hS (fun v e => by cases e) fun e s φ' γ' a' w' hK hR' _ _ => ?_
  have fin : ∀ e : Ex, endQ F.rs (fun r' => r' = r) e s → (∀ i, e ≠ .exit i) → a'.defers = [] ∧ ∃ v, (results fn a'.tmps).run P w' = .ok v w' ∧ ∃ u γ, Ending.returned v = .returned u ∧ RetRel w w' S r u γ := by
    intro e hK he
    have hK' : (match resQ s F.rs with
      | some q => bif q.1 then (match retQ s q.2 with
        | some r' => r' = r
        | none => False) else False
      | none => False) := by
      cases e with
      | exit i => exact absurd rfl (he i)
      | norm => exact hK
      | ret => exact hK
    cases hq : resQ s F.rs with
    | none => rw [hq] at hK'; exact hK'.elim
    | some q =>
      rw [hq] at hK'
      simp only at hK'
      cases hb : q.1 with
      | false => rw [hb] at hK'; exact hK'.elim
      | true =>
        rw [hb] at hK'
        simp only [cond_true] at hK'
        cases hr : retQ s q.2 with
        | none => rw [hr] at hK'; exact hK'.elim
        | some r' =>
          rw [hr] at hK'
          simp only at hK'
          subst hK'
          obtain ⟨u, hu, hv⟩ := run_results h4 h6 hR' hq hb
          obtain ⟨γn, hrr⟩ := ret_rel hR'.mem hv hr
          exact ⟨hR'.dfr, u, hu, u, γn, rfl, hrr⟩
  cases e with
  | norm => exact fin .norm hK (fun i e => by cases e)
  | ret => exact fin .ret hK (fun i e => by cases e)
  | exit i => exact hK.elim

theorem psoundAt (hm : P.follows .mixedOrders = true) (hC : CtxOk P C.ctx) {H : Hints} {g : Nat} {hd : Heads} {F : SFn} (hF : sfn P H g hd = some F) (hz : noDst0 F.code = true) (hrs : F.rs = []) (hal : ∀ code, (P.funcs[g]?).bind (·.body) = some code → lookA (aliases P H code []) 0 = none)
    {cs : List Cell} {vs : List CV} {cs' : List Cell} (hfl : cs.all flatC = true) (hfl' : cs'.all flatC = true) (h : wpP C F cs vs (fun r => r = cs')) : PSoundAt P g cs vs cs' := by
  obtain ⟨fn, code, hd', h1, h2, h3, h4, h5, h6, h7⟩ := sfn_spec hF
  have ha0 := hal code (by rw [h1]; exact h2)
  intro w S b T ws us hb hcs hS hA
  obtain ⟨hl, hrel⟩ := hA
  refine calls_of_wp h1 h2 ?_
  have bx0 : ∀ {d k : Nat} {c : List Cell}, tat (startP F.n cs vs).bx d k = some c → d = 0 ∧ k = 0 ∧ c = cs := by
    intro d k c hc
    cases d with
    | zero =>
      cases k with
      | zero => simp only [startP, tat, List.getD_cons_zero, List.getElem?_cons_zero, Option.some.injEq] at hc; exact ⟨rfl, rfl, hc.symm⟩
      | succ k => simp [startP, tat] at hc
    | succ d => exact absurd (show tat (List.replicate (vs.length + (F.n - (vs.length + 1))) []) d k = some c from hc) tat_empty
  have tk0 : ∀ {d k : Nat} {t : Tok}, tat (startP F.n cs vs).tk d k ≠ some t := by
    intro d k t ht
    cases d with
    | zero => simp [startP, tat] at ht
    | succ d => exact absurd (show tat (List.replicate (vs.length + (F.n - (vs.length + 1))) []) d k = some t from ht) tat_empty
  have hbs : b < w.heap.size := (Array.getElem?_eq_some_iff.1 hb).1
  have hR : Rep ⟨w, (· = b)⟩ S (fun _ _ => b) (fun _ _ => undef) (startP F.n cs vs) { tmps := #[.pointer (some ⟨b, 0, none⟩)] ++ us.toArray ++ Array.replicate (fn.ntmps - (#[Value.pointer (some ⟨b, 0, none⟩)] ++ us.toArray).size) undef, defers := [] } w := by
    refine ⟨⟨⟨rfl, rfl, rfl, Nat.le_refl _, fun _ _ _ => rfl⟩, fun d k c hc => ?_, fun d k c d' k' c' hc hc' _ => ?_, fun d k t ht => absurd ht tk0, fun d k t d' k' t' b ht => absurd ht tk0, fun d k t d' k' cs ht => absurd ht tk0⟩, rfl, ?_, ?_⟩
    · obtain ⟨rfl, rfl, rfl⟩ := bx0 hc
      exact ⟨.inr rfl, ws.toArray, T, hb, by simpa using flat_relL hcs hfl⟩
    · obtain ⟨rfl, rfl, _⟩ := bx0 hc
      obtain ⟨rfl, rfl, _⟩ := bx0 hc'
      exact ⟨rfl, rfl⟩
    · simp [startP, h7, hl]; omega
    · intro i c u hc hu
      have hu' : ((.pointer (some ⟨b, 0, none⟩) :: us).toArray ++ Array.replicate (F.n - (Value.pointer (some ⟨b, 0, none⟩) :: us).toArray.size) undef)[i]? = some u := by
        rw [← hu, h7]
        congr 1
        apply Array.toList_inj.1
        simp
      refine tms_at (vs := .box 0 0 0 :: vs) (us := .pointer (some ⟨b, 0, none⟩) :: us) (by simp [hl]) (R := fun c u => RelV w (envOf ⟨w, (· = b)⟩ S (fun _ _ => b) (fun _ _ => undef) (startP F.n cs vs) w) c u) (fun j v u hv hu => ?_) (fun u => trivial) i c u (by simpa [startP] using hc) hu'
      cases j with
      | zero =>
        simp only [List.getElem?_cons_zero, Option.some.injEq] at hv hu
        subst hv; subst hu
        exact ⟨⟨cs, rfl⟩, rfl⟩
      | succ j =>
        have hr := hrel j v u hv hu
        have : Le w (argEnv w S) w (envOf ⟨w, (· = b)⟩ S (fun _ _ => b) (fun _ _ => undef) (startP F.n cs vs) w) :=
          ⟨fun b' hb' => ⟨⟨hb'.1, fun _ => hb'.2, fun d k c _ e => hS b' hb'.2 e.symm, fun d k t ht => absurd ht tk0⟩, rfl⟩, fun d k hB => hB.elim, fun d k hT => hT.elim⟩
        exact RelV.of1 (hr.mono this)
  have hS' : SzA (aliases P H code []) (startP F.n cs vs).tm.length (startP F.n cs vs) := by
    refine ⟨⟨by simp [startP], by simp [startP]⟩, fun p b' hp i k off hv => ?_, rfl⟩
    exfalso
    cases p with
    | zero => rw [ha0] at hp; cases hp
    | succ p =>
      have hv' : (vs ++ List.replicate (F.n - (vs.length + 1)) CV.no).getD p .no = .box i k off := hv
      rw [List.getD_eq_getElem?_getD] at hv'
      by_cases hlt : p < vs.length
      · rw [List.getElem?_append_left hlt, List.getElem?_eq_getElem hlt, Option.getD_some] at hv'
        have := hrel p _ _ (List.getElem?_eq_getElem hlt) (List.getElem?_eq_getElem (by omega))
        rw [hv'] at this
        exact this
      · rw [List.getElem?_append_right (by omega), List.getElem?_replicate] at hv'
        split at hv' <;> cases hv'
  refine code_wp (n := (startP F.n cs vs).tm.length) hm hC h3 h5 (v0 := some (.pointer (some ⟨b, 0, none⟩))) (fun _ => hz) h hR hS' (fun v e => by simp only [Option.some.injEq] at e; subst e; rw [Array.append_assoc, Array.getElem?_append_left (by simp)]; rfl) fun e s φ' γ' a' w' hK hR' _ hz' => ?_
  have fin : ∀ e : Ex, endP (fun r => r = cs') e s → (∀ i, e ≠ .exit i) → a'.defers = [] ∧ ∃ v, (results fn a'.tmps).run P w' = .ok v w' ∧ ((∃ u, Ending.returned v = .returned u) ∧ w'.os = w.os ∧ w'.tape = w.tape ∧ w'.output = w.output ∧ w.heap.size ≤ w'.heap.size ∧ (∀ k, k < w.heap.size → k ≠ b → w'.heap[k]? = w.heap[k]?) ∧
      ∃ (ws' : List Value) (T' : TypeId), w'.heap[b]? = some (.cells ws'.toArray T' (0, 0)) ∧ RelP w' (fun _ => False) cs' ws') := by
    intro e hK he
    have hK' : (match s.tm.getD 0 .no with
      | .box d k 0 => (match tat s.bx d k with
        | some cs => cs = cs'
        | none => False)
      | _ => False) := by
      cases e with
      | exit i => exact absurd rfl (he i)
      | norm => exact hK
      | ret => exact hK
    split at hK'
    · rename_i d k e0
      cases hc : tat s.bx d k with
      | none => rw [hc] at hK'; exact hK'.elim
      | some c =>
        rw [hc] at hK'
        simp only at hK'
        subst hK'
        have hT := hR'.getT 0
        rw [e0] at hT
        have hp : a'.tmps.getD 0 undef = .pointer (some ⟨φ' d k, 0, none⟩) := hT.2
        rw [Array.getD_eq_getD_getElem?, hz' _ rfl] at hp
        simp only [Option.getD_some, Value.pointer.injEq, Option.some.injEq, Addr.mk.injEq, and_true] at hp
        obtain ⟨_, us', T', hg, hr⟩ := hR'.mem.bxs d k c hc
        rw [← hp] at hg
        have hres : (results fn a'.tmps).run P w' = .ok (.tuple #[]) w' := by
          have he : fn.results = #[] := by
            rw [hrs] at h4
            cases hl : fn.results.toList with
            | nil => exact Array.toList_inj.1 hl
            | cons x l =>
              rw [hl] at h4
              obtain ⟨_, _, e, _⟩ := ccRes_cons h4
              cases e
          exact results_none he _ _ _
        refine ⟨hR'.dfr, _, hres, ⟨_, rfl⟩, hR'.mem.bel.os, hR'.mem.bel.tape, hR'.mem.bel.output, hR'.mem.bel.size, fun k hk hne => hR'.mem.bel.block k hk hne, us'.toList, T', by simpa using hg, ?_⟩
        exact (flat_relL (E' := { (envOf ⟨w, (· = b)⟩ S φ' γ' s w') with F := fun _ => False }) (w' := w') hr hfl').toP (List.all_eq_true.2 fun c hc => by
          have := List.all_eq_true.1 hfl' c hc
          cases c <;> first | rfl | (cases this; done))
    · exact hK'.elim
  cases e with
  | norm => exact fin .norm hK (fun i e => by cases e)
  | ret => exact fin .ret hK (fun i e => by cases e)
  | exit i => exact hK.elim

end
end Go.Proofs.Ytgmciihlmgeecaa.Mt
