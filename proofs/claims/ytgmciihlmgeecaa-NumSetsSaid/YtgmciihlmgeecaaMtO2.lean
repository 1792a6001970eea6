import Derived.Test.YtgmciihlmgeecaaMtO
/- What is told of a function is so, if the evaluator with decisions finds it. Conditions: those that each lemma names. -/
namespace Go.Proofs.Ytgmciihlmgeecaa.Mt
open Go Go.RowKit
section
variable {P : Program} {W0 : Base} {S0 : Nat → Prop} {φ : Nat → Nat → Nat} {γ : Nat → Nat → Value} {st st' : St} {a : Act} {w w' : World} {A : Alias}

theorem code_wpO (hm : P.follows .mixedOrders = true) {C : CtxW} (hC : CtxOk P C.q.ctx) {H : Hints} {n : Nat} : ∀ {code : Code} {hd hd' : Heads} {sc : SC}, cc P H A code hd = some (sc, hd') → oneC sc = true → ∀ {v0 : Option Value}, (v0.isSome = true → noDst0 sc = true) →
    ∀ {st : St} {φ : Nat → Nat → Nat} {γ : Nat → Nat → Value} {a : Act} {w : World} {oc : Orc} {K : Orc → Ex → St → Prop} {Q : Exit → Act → World → Prop}, wpO C sc oc st K → Rep W0 S0 φ γ st a w → SzA A n st → Slot0 v0 a →
      (∀ o e s φ' γ' a' w', K o e s → Rep W0 S0 φ' γ' s a' w' → SzA A n s → Slot0 v0 a' → Q (exOf e) a' w') → code.wp P Q a w := by
  intro code
  induction code with
  | skip =>
    intro hd hd' sc hcc h1 v0 h0 st φ γ a w oc K Q hw hR hs hz hQ
    simp only [cc, Option.some.injEq, Prod.mk.injEq] at hcc
    obtain ⟨rfl, rfl⟩ := hcc
    exact wp_skip (hQ oc .norm st φ γ a w hw hR hs hz)
  | region id ops draw =>
    intro hd hd' sc hcc h1 v0 h0 st φ γ a w oc K Q hw hR hs hz hQ
    simp only [cc, Option.bind_eq_some_iff] at hcc
    obtain ⟨s, hso, hcc⟩ := hcc
    split at hcc
    · rename_i hc
      simp only [Option.some.injEq, Prod.mk.injEq] at hcc
      obtain ⟨rfl, rfl⟩ := hcc
      obtain ⟨s', o', hev, hK⟩ := opsO_sound (fun o ho => List.all_eq_true.1 h1 o ho) (show opsO C s oc st (fun o s => K o .norm s) from hw)
      obtain ⟨k1, k2, k3⟩ := evOps_keep s st s' (fun o ho => List.all_eq_true.1 hc.2.2 o ho) hs.1 hs.2.1 hev
      exact region_wp hm hC hso hc.1 hc.2.2 hev hR hs.1 hs.2.1 (fun so hso hv => by have := List.all_eq_true.1 (h0 hv) so hso; simpa using this) hz fun φ' γ' a' w' hR' hz' => hQ o' .norm s' φ' γ' a' w' hK hR' ⟨k1, k2, k3.trans hs.2.2⟩ hz'
    · cases hcc
  | seq x y ihx ihy =>
    intro hd hd' sc hcc h1 v0 h0 st φ γ a w oc K Q hw hR hs hz hQ
    simp only [cc, Option.bind_eq_some_iff, Option.map_eq_some_iff, Prod.mk.injEq] at hcc
    obtain ⟨⟨sx, h2⟩, hx, ⟨sy, h3⟩, hy, rfl, rfl⟩ := hcc
    simp only [oneC, Bool.and_eq_true] at h1
    simp only [noDst0, Bool.and_eq_true] at h0
    refine wp_seq (ihx hx h1.1 (fun h => (h0 h).1) hw hR hs hz fun o e s φ' γ' a' w' hK hR' hs' hz' => ?_)
    cases e with
    | norm => exact ihy hy h1.2 (fun h => (h0 h).2) hK hR' hs' hz' hQ
    | exit i => exact hQ o (.exit i) s φ' γ' a' w' hK hR' hs' hz'
    | ret => exact hQ o .ret s φ' γ' a' w' hK hR' hs' hz'
  | cond c x y ihx ihy =>
    intro hd hd' sc hcc h1 v0 h0 st φ γ a w oc K Q hw hR hs hz hQ
    simp only [cc, Option.bind_eq_some_iff, Option.map_eq_some_iff, Prod.mk.injEq] at hcc
    obtain ⟨s, hsx, ⟨sx, h2⟩, hx, ⟨sy, h3⟩, hy, rfl, rfl⟩ := hcc
    simp only [oneC, Bool.and_eq_true] at h1
    simp only [noDst0, Bool.and_eq_true] at h0
    simp only [wpO] at hw
    split at hw
    · rename_i j
      split at hw
      · rename_i q hq
        have hv := cond_rel hsx hR (show getX st (.t j) = .one (.v (.bool q)) from hq)
        rcases brO_elim hw with ⟨rfl, oc', hw⟩ | ⟨rfl, oc', hw⟩
        · rw [setB_same hq] at hw
          exact wp_cond_true hv (ihx hx h1.1 (fun h => (h0 h).1) hw hR hs hz hQ)
        · rw [setB_same hq] at hw
          exact wp_cond_false hv (ihy hy h1.2 (fun h => (h0 h).2) hw hR hs hz hQ)
      · exact hw.elim
    · rename_i q
      have hv := cond_rel hsx hR (show getX st (.c (.bool q)) = .one (.v (.bool q)) from rfl)
      cases q with
      | true => exact wp_cond_true hv (ihx hx h1.1 (fun h => (h0 h).1) hw hR hs hz hQ)
      | false => exact wp_cond_false hv (ihy hy h1.2 (fun h => (h0 h).2) hw hR hs hz hQ)
    · exact hw.elim
  | block id c ih =>
    intro hd hd' sc hcc h1 v0 h0 st φ γ a w oc K Q hw hR hs hz hQ
    simp only [cc, Option.map_eq_some_iff, Prod.mk.injEq] at hcc
    obtain ⟨⟨sx, h2⟩, hx, rfl, rfl⟩ := hcc
    refine wp_block (ih hx h1 h0 hw hR hs hz fun o e s φ' γ' a' w' hK hR' hs' hz' => ?_)
    cases e with
    | norm => exact hQ o .norm s φ' γ' a' w' hK hR' hs' hz'
    | exit i =>
      show if i = id then Q .normal a' w' else Q (.exit i) a' w'
      by_cases e : i = id
      · subst e
        rw [if_pos rfl]
        exact hQ o .norm s φ' γ' a' w' (by simpa using hK) hR' hs' hz'
      · rw [if_neg e]
        exact hQ o (.exit i) s φ' γ' a' w' (by simpa [show (i == id) = false from by simpa using e] using hK) hR' hs' hz'
    | ret => exact hQ o .ret s φ' γ' a' w' hK hR' hs' hz'
  | loop c ih =>
    intro hd hd' sc hcc h1 v0 h0 st φ γ a w oc K Q hw hR hs hz hQ
    cases hd with
    | nil => simp [cc] at hcc
    | cons l r =>
      obtain ⟨ls, lb, lt⟩ := l
      simp only [cc, Option.map_eq_some_iff, Prod.mk.injEq] at hcc
      obtain ⟨⟨sx, h2⟩, hx, rfl, rfl⟩ := hcc
      obtain ⟨N, hN⟩ := (show LoopO (bodyX C sx) (headW C.m ls lb lt) K (headW C.m ls lb lt st) from hw)
      refine wp_loop_rounds N ?_
      clear hw
      induction N generalizing st φ γ a w with
      | zero => exact hN.elim
      | succ N ihN =>
        rw [rounds_succ]
        obtain ⟨hq, ob, hN⟩ := hN
        rw [headW_eq hq] at hN
        refine ih hx h1 h0 (st := headC ls lb lt st) hN (head_rep ls lb lt hR) ⟨head_sz ls lb lt hs.1, head_alias ls lb lt hs.2.1, ?_⟩ hz fun o e s φ' γ' a' w' hK hR' hs' hz' => ?_
        · show (keepTm ls lb lt st 0 st.tm).length = n
          rw [keepTm_len]; exact hs.2.2
        · cases e with
          | norm => exact ihN hR' hs' hz' hK
          | exit i => exact hQ o (.exit i) s φ' γ' a' w' hK hR' hs' hz'
          | ret => exact hQ o .ret s φ' γ' a' w' hK hR' hs' hz'
  | exit id =>
    intro hd hd' sc hcc h1 v0 h0 st φ γ a w oc K Q hw hR hs hz hQ
    simp only [cc, Option.some.injEq, Prod.mk.injEq] at hcc
    obtain ⟨rfl, rfl⟩ := hcc
    exact wp_exit (hQ oc (.exit id) st φ γ a w hw hR hs hz)
  | ret =>
    intro hd hd' sc hcc h1 v0 h0 st φ γ a w oc K Q hw hR hs hz hQ
    simp only [cc, Option.some.injEq, Prod.mk.injEq] at hcc
    obtain ⟨rfl, rfl⟩ := hcc
    exact wp_ret (hQ oc .ret st φ γ a w hw hR hs hz)
  | _ => intro hd hd' sc hcc; simp [cc] at hcc


theorem ownC_plain {c : Cell} (h : plainC c = true) : ownC c = [] := by
  cases c <;> first | rfl | (cases h; done)
theorem ownV1_take {m : Nat} {v : CV} (h : restOk1 m v = true) : ownV1 (retW.takeV1 m v) = ownV1 v := by
  cases v with
  | agg cs =>
    show (cs.take m).flatMap ownC = cs.flatMap ownC
    have h' : (cs.drop m).flatMap ownC = [] := by
      rw [List.flatMap_eq_nil_iff]
      intro c hc
      exact ownC_plain (List.all_eq_true.1 (show (cs.drop m).all plainC = true from h) c hc)
    have := List.take_append_drop m cs
    calc (cs.take m).flatMap ownC = (cs.take m).flatMap ownC ++ (cs.drop m).flatMap ownC := by rw [h', List.append_nil]
      _ = cs.flatMap ownC := by rw [← List.flatMap_append, this]
  | _ => rfl
theorem ownV_take {m : Nat} {v : CV} (h : restOk m v = true) : ownV (retW.takeV m v) = ownV v := by
  cases v with
  | tup vs =>
    show (vs.map (retW.takeV1 m)).flatMap ownV1 = vs.flatMap ownV1
    have h' := List.all_eq_true.1 (show vs.all (restOk1 m) = true from h)
    clear h
    induction vs with
    | nil => rfl
    | cons v vs ih =>
      rw [List.map_cons, List.flatMap_cons, List.flatMap_cons, ownV1_take (h' v (by simp)), ih fun x hx => h' x (by simp [hx])]
  | agg cs => exact ownV1_take (m := m) (v := .agg cs) h
  | _ => rfl
theorem retC_plain {ms : List (Nat × Nat)} {c : Cell} (h : plainC c = true) : retC ms c = c := by
  cases c <;> first | rfl | (cases h; done)
theorem mapV1_ret {ms : List (Nat × Nat)} {m : Nat} {v : CV} (h : restOk1 m v = true) : mapV1 (retC ms) m v = retV1 ms v := by
  cases v with
  | agg cs =>
    show CV.agg _ = _
    rw [mapN_eq (fun c hc => retC_plain hc) h]
    show _ = bif cs.all plainC then CV.agg cs else .agg (cs.map (retC ms))
    cases hp : cs.all plainC with
    | false => rfl
    | true =>
      have : cs.map (retC ms) = cs.map id := List.map_congr_left fun c hc => retC_plain (List.all_eq_true.1 hp c hc)
      simp [this]
  | _ => rfl
theorem mapV_ret {ms : List (Nat × Nat)} {m : Nat} {v : CV} (h : restOk m v = true) : mapV (retC ms) m v = retV ms v := by
  cases v with
  | tup vs =>
    simp only [mapV, retV, CV.tup.injEq]
    exact List.map_congr_left fun v hv => mapV1_ret (List.all_eq_true.1 h v hv)
  | agg cs => exact mapV1_ret (m := m) (v := .agg cs) h
  | _ => rfl
theorem retW_sound {m : Nat} {v : CV} {q : Bool × Ret} (h : retW m st v = some q) (hq : q.1 = true) : retQ st v = some q.2 := by
  simp only [retW, Option.map_eq_some_iff] at h
  obtain ⟨ts, hts, rfl⟩ := h
  simp only at hq
  rw [ownV_take hq] at hts ⊢
  simp only [retQ, hts, Option.map_some, mapV_ret hq]

theorem soundAtO (hm : P.follows .mixedOrders = true) {C : CtxW} (hC : CtxOk P C.q.ctx) {H : Hints} {g : Nat} {hd : Heads} {F : SFn} (hF : sfn P H g hd = some F) {vs : List CV} {r : Ret} {oc : Orc} (h : wpFO C F oc vs (fun r' => r' = r)) : SoundAt P g vs r := by
  obtain ⟨fn, code, hd', h1, h2, h3, h4, h5, h6, h7⟩ := sfn_spec hF
  intro w S us hA
  obtain ⟨hl, hrel⟩ := hA
  refine calls_of_wp h1 h2 ?_
  have hR : Rep ⟨w, fun _ => False⟩ S (fun _ _ => 0) (fun _ _ => undef) (start F.n vs) { tmps := us.toArray ++ Array.replicate (fn.ntmps - us.toArray.size) undef, defers := [] } w := by
    refine ⟨⟨⟨rfl, rfl, rfl, Nat.le_refl _, fun _ _ _ => rfl⟩, fun d k cs hc => absurd hc tat_empty, fun d k cs d' k' cs' hc => absurd hc tat_empty, fun d k t ht => absurd ht tat_empty, fun d k t d' k' t' b ht => absurd ht tat_empty, fun d k t d' k' cs ht => absurd ht tat_empty⟩, rfl, ?_, ?_⟩
    · simp [start, h7, hl]
    · intro i c u hc hu
      rw [h7] at hu
      refine tms_at hl (R := fun c u => RelV w (envOf ⟨w, fun _ => False⟩ S (fun _ _ => 0) (fun _ _ => undef) (start F.n vs) w) c u) (fun j v u hv hu => ?_) (fun u => trivial) i c u hc hu
      have hr := hrel j v u hv hu
      have : Le w (argEnv w S) w (envOf ⟨w, fun _ => False⟩ S (fun _ _ => 0) (fun _ _ => undef) (start F.n vs) w) :=
        ⟨fun b hb => ⟨⟨hb.1, fun _ => hb.2, fun d k cs hc => absurd hc tat_empty, fun d k t ht => absurd ht tat_empty⟩, rfl⟩, fun d k hB => hB.elim, fun d k hT => hT.elim⟩
      exact RelV.of1 (hr.mono this)
  have hS : SzA (aliases P H code []) (start F.n vs).tm.length (start F.n vs) := by
    refine ⟨⟨by simp [start], by simp [start]⟩, fun p b _ i k off hp => ?_, rfl⟩
    exfalso
    have hT := hR.getT p
    rw [hp] at hT
    obtain ⟨⟨cs, hcs⟩, _⟩ := hT
    exact tat_empty hcs
  refine code_wpO (n := (start F.n vs).tm.length) hm hC h3 h5 (v0 := none) (fun e => by cases e) h hR hS (fun v e => by cases e) fun o e s φ' γ' a' w' hK hR' _ _ => ?_
  have fin : ∀ e : Ex, endO C.m F.rs (fun r' => r' = r) o e s → (∀ i, e ≠ .exit i) → a'.defers = [] ∧ ∃ v, (results fn a'.tmps).run P w' = .ok v w' ∧ ∃ u γ, Ending.returned v = .returned u ∧ RetRel w w' S r u γ := by
    intro e hK he
    have hK' : (match resQ s F.rs with
      | some q => bif q.1 then (match retW C.m s q.2 with
        | some r' => bif r'.1 then r'.2 = r else False
        | none => False) else False
      | none => False) := by
      cases e with
      | exit i => exact absurd rfl (he i)
      | norm => exact hK
      | ret => exact hK
    cases hq : resQ s F.rs with
    | none => rw [hq] at hK'; exact hK'.elim
    | some q =>
      rw [hq] at hK'
      simp only at hK'
      cases hb : q.1 with
      | false => rw [hb] at hK'; exact hK'.elim
      | true =>
        rw [hb] at hK'
        simp only [cond_true] at hK'
        cases hr : retW C.m s q.2 with
        | none => rw [hr] at hK'; exact hK'.elim
        | some r' =>
          rw [hr] at hK'
          simp only at hK'
          cases hb2 : r'.1 with
          | false => rw [hb2] at hK'; exact hK'.elim
          | true =>
          rw [hb2] at hK'
          simp only [cond_true] at hK'
          subst hK'
          obtain ⟨u, hu, hv⟩ := run_results h4 h6 hR' hq hb
          obtain ⟨γn, hrr⟩ := ret_rel hR'.mem hv (retW_sound hr hb2)
          exact ⟨hR'.dfr, u, hu, u, γn, rfl, hrr⟩
  cases e with
  | norm => exact fin .norm hK (fun i e => by cases e)
  | ret => exact fin .ret hK (fun i e => by cases e)
  | exit i => exact hK.elim

theorem psoundAtO (hm : P.follows .mixedOrders = true) {C : CtxW} (hC : CtxOk P C.q.ctx) {H : Hints} {g : Nat} {hd : Heads} {F : SFn} (hF : sfn P H g hd = some F) (hz : noDst0 F.code = true) (hrs : F.rs = []) (hal : ∀ code, (P.funcs[g]?).bind (·.body) = some code → lookA (aliases P H code []) 0 = none)
    {cs : List Cell} {vs : List CV} {cs' : List Cell} (hfl : cs.all flatC = true) (hfl' : cs'.all flatC = true) {oc : Orc} (h : wpPO C F oc cs vs (fun r => r = cs')) : PSoundAt P g cs vs cs' := by
  obtain ⟨fn, code, hd', h1, h2, h3, h4, h5, h6, h7⟩ := sfn_spec hF
  have ha0 := hal code (by rw [h1]; exact h2)
  intro w S b T ws us hb hcs hS hA
  obtain ⟨hl, hrel⟩ := hA
  refine calls_of_wp h1 h2 ?_
  have bx0 : ∀ {d k : Nat} {c : List Cell}, tat (startP F.n cs vs).bx d k = some c → d = 0 ∧ k = 0 ∧ c = cs := by
    intro d k c hc
    cases d with
    | zero =>
      cases k with
      | zero => simp only [startP, tat, List.getD_cons_zero, List.getElem?_cons_zero, Option.some.injEq] at hc; exact ⟨rfl, rfl, hc.symm⟩
      | succ k => simp [startP, tat] at hc
    | succ d => exact absurd (show tat (List.replicate (vs.length + (F.n - (vs.length + 1))) []) d k = some c from hc) tat_empty
  have tk0 : ∀ {d k : Nat} {t : Tok}, tat (startP F.n cs vs).tk d k ≠ some t := by
    intro d k t ht
    cases d with
    | zero => simp [startP, tat] at ht
    | succ d => exact absurd (show tat (List.replicate (vs.length + (F.n - (vs.length + 1))) []) d k = some t from ht) tat_empty
  have hbs : b < w.heap.size := (Array.getElem?_eq_some_iff.1 hb).1
  have hR : Rep ⟨w, (· = b)⟩ S (fun _ _ => b) (fun _ _ => undef) (startP F.n cs vs) { tmps := #[.pointer (some ⟨b, 0, none⟩)] ++ us.toArray ++ Array.replicate (fn.ntmps - (#[Value.pointer (some ⟨b, 0, none⟩)] ++ us.toArray).size) undef, defers := [] } w := by
    refine ⟨⟨⟨rfl, rfl, rfl, Nat.le_refl _, fun _ _ _ => rfl⟩, fun d k c hc => ?_, fun d k c d' k' c' hc hc' _ => ?_, fun d k t ht => absurd ht tk0, fun d k t d' k' t' b ht => absurd ht tk0, fun d k t d' k' cs ht => absurd ht tk0⟩, rfl, ?_, ?_⟩
    · obtain ⟨rfl, rfl, rfl⟩ := bx0 hc
      exact ⟨.inr rfl, ws.toArray, T, hb, by simpa using flat_relL hcs hfl⟩
    · obtain ⟨rfl, rfl, _⟩ := bx0 hc
      obtain ⟨rfl, rfl, _⟩ := bx0 hc'
      exact ⟨rfl, rfl⟩
    · simp [startP, h7, hl]; omega
    · intro i c u hc hu
      have hu' : ((.pointer (some ⟨b, 0, none⟩) :: us).toArray ++ Array.replicate (F.n - (Value.pointer (some ⟨b, 0, none⟩) :: us).toArray.size) undef)[i]? = some u := by
        rw [← hu, h7]
        congr 1
        apply Array.toList_inj.1
        simp
      refine tms_at (vs := .box 0 0 0 :: vs) (us := .pointer (some ⟨b, 0, none⟩) :: us) (by simp [hl]) (R := fun c u => RelV w (envOf ⟨w, (· = b)⟩ S (fun _ _ => b) (fun _ _ => undef) (startP F.n cs vs) w) c u) (fun j v u hv hu => ?_) (fun u => trivial) i c u (by simpa [startP] using hc) hu'
      cases j with
      | zero =>
        simp only [List.getElem?_cons_zero, Option.some.injEq] at hv hu
        subst hv; subst hu
        exact ⟨⟨cs, rfl⟩, rfl⟩
      | succ j =>
        have hr := hrel j v u hv hu
        have : Le w (argEnv w S) w (envOf ⟨w, (· = b)⟩ S (fun _ _ => b) (fun _ _ => undef) (startP F.n cs vs) w) :=
          ⟨fun b' hb' => ⟨⟨hb'.1, fun _ => hb'.2, fun d k c _ e => hS b' hb'.2 e.symm, fun d k t ht => absurd ht tk0⟩, rfl⟩, fun d k hB => hB.elim, fun d k hT => hT.elim⟩
        exact RelV.of1 (hr.mono this)
  have hS' : SzA (aliases P H code []) (startP F.n cs vs).tm.length (startP F.n cs vs) := by
    refine ⟨⟨by simp [startP], by simp [startP]⟩, fun p b' hp i k off hv => ?_, rfl⟩
    exfalso
    cases p with
    | zero => rw [ha0] at hp; cases hp
    | succ p =>
      have hv' : (vs ++ List.replicate (F.n - (vs.length + 1)) CV.no).getD p .no = .box i k off := hv
      rw [List.getD_eq_getElem?_getD] at hv'
      by_cases hlt : p < vs.length
      · rw [List.getElem?_append_left hlt, List.getElem?_eq_getElem hlt, Option.getD_some] at hv'
        have := hrel p _ _ (List.getElem?_eq_getElem hlt) (List.getElem?_eq_getElem (by omega))
        rw [hv'] at this
        exact this
      · rw [List.getElem?_append_right (by omega), List.getElem?_replicate] at hv'
        split at hv' <;> cases hv'
  refine code_wpO (n := (startP F.n cs vs).tm.length) hm hC h3 h5 (v0 := some (.pointer (some ⟨b, 0, none⟩))) (fun _ => hz) h hR hS' (fun v e => by simp only [Option.some.injEq] at e; subst e; rw [Array.append_assoc, Array.getElem?_append_left (by simp)]; rfl) fun o e s φ' γ' a' w' hK hR' _ hz' => ?_
  have fin : ∀ e : Ex, endPO (fun r => r = cs') o e s → (∀ i, e ≠ .exit i) → a'.defers = [] ∧ ∃ v, (results fn a'.tmps).run P w' = .ok v w' ∧ ((∃ u, Ending.returned v = .returned u) ∧ w'.os = w.os ∧ w'.tape = w.tape ∧ w'.output = w.output ∧ w.heap.size ≤ w'.heap.size ∧ (∀ k, k < w.heap.size → k ≠ b → w'.heap[k]? = w.heap[k]?) ∧
      ∃ (ws' : List Value) (T' : TypeId), w'.heap[b]? = some (.cells ws'.toArray T' (0, 0)) ∧ RelP w' (fun _ => False) cs' ws') := by
    intro e hK he
    have hK' : (match s.tm.getD 0 .no with
      | .box d k 0 => (match tat s.bx d k with
        | some cs => cs = cs'
        | none => False)
      | _ => False) := by
      cases e with
      | exit i => exact absurd rfl (he i)
      | norm => exact hK
      | ret => exact hK
    split at hK'
    · rename_i d k e0
      cases hc : tat s.bx d k with
      | none => rw [hc] at hK'; exact hK'.elim
      | some c =>
        rw [hc] at hK'
        simp only at hK'
        subst hK'
        have hT := hR'.getT 0
        rw [e0] at hT
        have hp : a'.tmps.getD 0 undef = .pointer (some ⟨φ' d k, 0, none⟩) := hT.2
        rw [Array.getD_eq_getD_getElem?, hz' _ rfl] at hp
        simp only [Option.getD_some, Value.pointer.injEq, Option.some.injEq, Addr.mk.injEq, and_true] at hp
        obtain ⟨_, us', T', hg, hr⟩ := hR'.mem.bxs d k c hc
        rw [← hp] at hg
        have hres : (results fn a'.tmps).run P w' = .ok (.tuple #[]) w' := by
          have he : fn.results = #[] := by
            rw [hrs] at h4
            cases hl : fn.results.toList with
            | nil => exact Array.toList_inj.1 hl
            | cons x l =>
              rw [hl] at h4
              obtain ⟨_, _, e, _⟩ := ccRes_cons h4
              cases e
          exact results_none he _ _ _
        refine ⟨hR'.dfr, _, hres, ⟨_, rfl⟩, hR'.mem.bel.os, hR'.mem.bel.tape, hR'.mem.bel.output, hR'.mem.bel.size, fun k hk hne => hR'.mem.bel.block k hk hne, us'.toList, T', by simpa using hg, ?_⟩
        exact (flat_relL (E' := { (envOf ⟨w, (· = b)⟩ S φ' γ' s w') with F := fun _ => False }) (w' := w') hr hfl').toP (List.all_eq_true.2 fun c hc => by
          have := List.all_eq_true.1 hfl' c hc
          cases c <;> first | rfl | (cases this; done))
    · exact hK'.elim
  cases e with
  | norm => exact fin .norm hK (fun i e => by cases e)
  | ret => exact fin .ret hK (fun i e => by cases e)
  | exit i => exact hK.elim

end
end Go.Proofs.Ytgmciihlmgeecaa.Mt
