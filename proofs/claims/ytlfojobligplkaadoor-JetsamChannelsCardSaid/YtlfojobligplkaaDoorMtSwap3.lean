import Derived.Test.YtlfojobligplkaaDoorMtCall2
/- Each operation does what the evaluator says. Conditions: those that each lemma names. -/
namespace Go.Proofs.YtlfojobligplkaaDoor.Mt
open Go Go.RowKit
section
variable {P : Program} {W0 : Base} {S0 : Nat → Prop} {φ : Nat → Nat → Nat} {γ : Nat → Nat → Value} {st st' : St} {a : Act} {w w' : World}

theorem flat_relL {E E' : Env} {cs : List Cell} {us : List Value} (h : RelL w E cs us) (hf : cs.all flatC = true) : RelL w' E' cs us :=
  ⟨h.1, fun j c u hc hu => (h.2 j c u hc hu).flat (List.all_eq_true.1 hf c (List.mem_of_getElem? hc))⟩

/-- A call that is handed a variable's address. -/
theorem pcall_wp {C : Ctx} (hC : CtxOk P C) {o : Oper} {g : Nat} {p : Operand} {xs : List Operand} {args : Array Operand} (hargs : args.toList = p :: xs) {ts : Array TypeId} (ho : o.op = .call { callee := .value (.func g), args := args, argTypes := ts })
    {sp : SX} {ss : List SX} (hp : ccX p = some sp) (hx : ccXs xs = some ss) (hR : Rep W0 S0 φ γ st a w) {d : Nat} {r : Res} (hev : evOp C d st (.pcall g sp ss) = some r) : SoundW P W0 S0 o st a w r := by
  intro K Q hK
  have hP := ccX_rel hp hR
  simp only [evOp] at hev
  split at hev
  · rename_i i k e1
    simp only [Option.bind_eq_some_iff] at hev
    obtain ⟨cs, hcs, vs, hvs, cs', hcs', hev⟩ := hev
    split at hev
    · rename_i hcond
      obtain ⟨hlen, hflat, hflat'⟩ := hcond
      simp only [Option.some.injEq] at hev
      subst hev
      rw [e1] at hP
      have hpv : a.eval p = .pointer (some ⟨φ i k, 0, none⟩) := hP.2
      obtain ⟨hgok, hsound⟩ := hC.pcall g cs vs cs' hcs'
      have hA := argsOf_rel (ow := false) hR hx hvs
      obtain ⟨hb, us, T, hg, hr⟩ := hR.mem.bxs i k cs hcs
      have hrun : (execOp a.eval o).run P w = .ok (.enter g (args.map a.eval)) w := by
        unfold execOp
        rw [ho]
        have : a.eval (.func g) = .func (.func g) #[] #[] := rfl
        simp [resolve, this, Deferred.ofValue, invoke, run_callFunc hgok]
      unfold Oper.wp
      rw [hrun]
      show Calls P g _ w _
      have hcalls := hsound hflat w _ (φ i k) T us.toList (xs.map a.eval) (by simpa using hg) (flat_relL hr hflat) (fun k' hk' e => by subst e; exact (hk'.2.2.1 i k cs hcs) rfl) hA
      have e2 : (#[.pointer (some ⟨φ i k, 0, none⟩)] ++ (xs.map a.eval).toArray) = args.map a.eval := by
        apply Array.toList_inj.1
        rw [Array.toList_map, hargs]
        simp [hpv]
      rw [e2] at hcalls
      refine hcalls.mono ?_
      rintro e w' ⟨⟨u, rfl⟩, h1, h2, h3, h4, h5, ws', T', h6, h7⟩
      show K (a.put o.dst u) w'
      have hfl : RelL w (envOf W0 S0 φ γ st w) cs' ws' := flat_relL (RelP.toL (E := { (envOf W0 S0 φ γ st w) with F := fun _ => False }) h7) hflat'
      obtain ⟨hm2, hle2⟩ := hR.mem.writeAny hcs hfl (match o.dst with | some d => st.tm.set d .no | none => st.tm) h6 h1 h2 h3 h4 h5
      exact hK φ γ u w' (hR.put o.dst { val := .no, wb := some (i, k, cs') } u hm2 hle2 fun _ _ => trivial)
    · cases hev
  · cases hev

theorem fnOf_spec {v : CV} {g : Nat} (h : fnOf v = some g) : v = .one (.v (.func (.func g) #[] #[])) := by
  unfold fnOf at h
  split at h
  · rename_i g' fs cs
    split at h
    · rename_i hc
      simp only [Option.some.injEq] at h
      subst h
      rw [Array.eq_empty_of_size_eq_zero hc.1, Array.eq_empty_of_size_eq_zero hc.2]
    · cases h
  · cases h

/-- Tables of the same length. -/
def Sz (st : St) : Prop := st.bx.length = st.tm.length ∧ st.tk.length = st.tm.length

theorem op_wp0 {C : Ctx} (hC : CtxOk P C) {H : Hints} {el : List Tmp} {o : Oper} {so : SOp} (hcc : ccOp0 P H el o = some so) (hR : Rep W0 S0 φ γ st a w) (hmk : makes so = true → ∃ d, o.dst = some d ∧ d < st.tm.length) (hsz : Sz st) {r : Res}
    (hev : evOp C (o.dst.getD 0) st so = some r) : SoundW P W0 S0 o st a w r := by
  obtain ⟨hsb, hst⟩ := hsz
  have dst : makes so = true → ∃ d, o.dst = some d ∧ d < st.bx.length ∧ d < st.tk.length ∧ o.dst.getD 0 = d := fun hm => by
    obtain ⟨d, h1, h2⟩ := hmk hm
    exact ⟨d, h1, by rw [hsb]; exact h2, by rw [hst]; exact h2, by rw [h1]; rfl⟩
  cases hop : o.op with
  | move x =>
    simp only [ccOp0, hop, Option.map_eq_some_iff] at hcc
    obtain ⟨s, hs, rfl⟩ := hcc
    exact (mv_sound (.inl hop) hs hR hev).wp
  | assign x =>
    simp only [ccOp0, hop, Option.map_eq_some_iff] at hcc
    obtain ⟨s, hs, rfl⟩ := hcc
    exact (mv_sound (.inr hop) hs hR hev).wp
  | pick c x y =>
    simp only [ccOp0, hop, Option.map_eq_some_iff, Option.bind_eq_some_iff] at hcc
    obtain ⟨sc, hc, sx, hx, sy, hy, rfl⟩ := hcc
    exact (pick_sound hop hc hx hy hR hev).wp
  | alloc t =>
    simp only [ccOp0, hop, Option.map_eq_some_iff] at hcc
    obtain ⟨z, hz, rfl⟩ := hcc
    obtain ⟨d, h1, h2, _, h3⟩ := dst rfl
    rw [h3] at hev
    exact (alloc_sound hop hz h1 h2 hR hev).wp
  | box t x =>
    simp only [ccOp0, hop, Option.map_eq_some_iff] at hcc
    obtain ⟨s, hs, rfl⟩ := hcc
    obtain ⟨d, h1, h2, _, h3⟩ := dst rfl
    rw [h3] at hev
    exact (box_sound hop hs h1 h2 hR hev).wp
  | load t p => exact (load_sound hop hcc hR hev).wp
  | store t p x => exact (store_sound hop hcc hR hev).wp
  | fieldAddr t x f =>
    simp only [ccOp0, hop] at hcc
    split at hcc
    · rename_i fs hu
      simp only [Option.bind_eq_some_iff] at hcc
      obtain ⟨g, hg, n, hn, hcc⟩ := hcc
      split at hcc
      · cases hcc
      · rename_i hn0
        simp only [Option.map_eq_some_iff] at hcc
        obtain ⟨s, hs, rfl⟩ := hcc
        exact (fld_sound hop hu hg hn hn0 hs hR hev).wp
    · cases hcc
  | indexAddr t x i =>
    simp only [ccOp0, hop] at hcc
    split at hcc
    · rename_i n e hu
      simp only [Option.bind_eq_some_iff] at hcc
      obtain ⟨m, hm, hcc⟩ := hcc
      split at hcc
      · cases hcc
      · simp only [Option.map_eq_some_iff, Option.bind_eq_some_iff] at hcc
        obtain ⟨sx, hx, si, hi, rfl⟩ := hcc
        exact (ixA_sound hop hu hm hx hi hR hev).wp
    · rename_i e hu
      simp only [Option.bind_eq_some_iff] at hcc
      obtain ⟨m, hm, hcc⟩ := hcc
      split at hcc
      · cases hcc
      · simp only [Option.map_eq_some_iff, Option.bind_eq_some_iff] at hcc
        obtain ⟨sx, hx, si, hi, rfl⟩ := hcc
        exact (ixS_sound hop hu hm hx hi hR hev).wp
    · cases hcc
  | index t x i =>
    simp only [ccOp0, hop] at hcc
    split at hcc
    · rename_i n e hu
      simp only [Option.bind_eq_some_iff] at hcc
      obtain ⟨⟨ag, m⟩, hm, hcc⟩ := hcc
      split at hcc
      · simp only [Option.map_eq_some_iff, Option.bind_eq_some_iff] at hcc
        obtain ⟨sx, hx, si, hi, rfl⟩ := hcc
        exact (ixV_sound hop hu hm hx hi hR hev).wp
      · cases hcc
    · cases hcc
  | field t x f =>
    simp only [ccOp0, hop] at hcc
    split at hcc
    · rename_i fs hu
      simp only [Option.bind_eq_some_iff, Option.map_eq_some_iff] at hcc
      obtain ⟨g, hg, ⟨ag, n⟩, hn, s, hs, rfl⟩ := hcc
      exact (fldV_sound hop hu hg hn hs hR hev).wp
    · cases hcc
  | build t parts =>
    simp only [ccOp0, hop] at hcc
    split at hcc
    · rename_i fs hu
      simp only [Option.bind_eq_some_iff] at hcc
      obtain ⟨z, hz, ps, hps, hcc⟩ := hcc
      split at hcc
      · rename_i hall
        simp only [Option.some.injEq] at hcc
        subst hcc
        exact (build_sound hop hu hz hps (fun f hf => List.all_eq_true.1 hall f hf) hR hev).wp
      · cases hcc
    · rename_i n e hu
      simp only [Option.bind_eq_some_iff, Option.map_eq_some_iff] at hcc
      obtain ⟨z, hz, m, hm, ps, hps, rfl⟩ := hcc
      exact (buildR_sound hop hu hz hm hps hR hev).wp
    · cases hcc
  | buildSlice t n parts =>
    simp only [ccOp0, hop] at hcc
    split at hcc
    · rename_i e hu
      simp only [Option.bind_eq_some_iff] at hcc
      obtain ⟨m, hm, z, hz0, ps, hps, hcc⟩ := hcc
      split at hcc
      · rename_i hc
        simp only [Option.some.injEq] at hcc
        cases hz : isFz H o.dst with
        | true =>
          rw [hz, cond_true] at hcc
          subst hcc
          exact (buildF_sound hop hu hm hz0 hps hc.1 hc.2.1 hc.2.2 hR hev).wp
        | false =>
        rw [hz, cond_false] at hcc
        subst hcc
        obtain ⟨d, h1, _, h2, h3⟩ := dst rfl
        rw [h3] at hev
        exact (buildS_sound hop hu hm hz0 hps hc.1 hc.2.1 hc.2.2 h1 h2 hR hev).wp
      · cases hcc
    · cases hcc
  | binOp b t x y t' =>
    simp only [ccOp0, hop, Option.bind_eq_some_iff] at hcc
    obtain ⟨sx, hx, sy, hy, hcc⟩ := hcc
    split at hcc
    · split at hcc
      · simp only [Option.some.injEq] at hcc
        subst hcc
        exact (bin_sound hop hx hy hR hev).wp
      · cases hcc
    · rename_i hu
      split at hcc
      · simp only [Option.some.injEq] at hcc
        subst hcc
        exact (binB_sound (ne := false) hop hu hx hy hR hev).wp
      · simp only [Option.some.injEq] at hcc
        subst hcc
        exact (binB_sound (ne := true) hop hu hx hy hR hev).wp
      · cases hcc
    · rename_i fs hu
      simp only [Option.bind_eq_some_iff] at hcc
      obtain ⟨ks, hks, hcc⟩ := hcc
      split at hcc
      · rename_i hg
        have ha : aggT P t = true := by simp [aggT, hu]
        split at hcc
        · simp only [Option.some.injEq] at hcc
          subst hcc
          exact (eqA_sound (ne := false) hop hks ha hg hx hy hR hev).wp
        · simp only [Option.some.injEq] at hcc
          subst hcc
          exact (eqA_sound (ne := true) hop hks ha hg hx hy hR hev).wp
        · cases hcc
      · cases hcc
    · rename_i n e hu
      simp only [Option.bind_eq_some_iff] at hcc
      obtain ⟨ks, hks, hcc⟩ := hcc
      split at hcc
      · rename_i hg
        have ha : aggT P t = true := by simp [aggT, hu]
        split at hcc
        · simp only [Option.some.injEq] at hcc
          subst hcc
          exact (eqA_sound (ne := false) hop hks ha hg hx hy hR hev).wp
        · simp only [Option.some.injEq] at hcc
          subst hcc
          exact (eqA_sound (ne := true) hop hks ha hg hx hy hR hev).wp
        · cases hcc
      · cases hcc
    · cases hcc
  | unOp u t x =>
    simp only [ccOp0, hop, Option.map_eq_some_iff] at hcc
    obtain ⟨s, hs, rfl⟩ := hcc
    exact (un_sound hop hs hR hev).wp
  | convert s t x =>
    simp only [ccOp0, hop] at hcc
    split at hcc
    · rename_i k k' h1 h2
      simp only [Option.map_eq_some_iff] at hcc
      obtain ⟨sx, hx, rfl⟩ := hcc
      exact (conv_sound hop h1 h2 hx hR hev).wp
    · cases hcc
  | extract x i =>
    simp only [ccOp0, hop, Option.map_eq_some_iff] at hcc
    obtain ⟨s, hs, rfl⟩ := hcc
    exact (ext_sound hop hs hR hev).wp
  | slice t x lo hi mx =>
    cases mx with
    | some m => simp [ccOp0, hop] at hcc
    | none =>
      simp only [ccOp0, hop] at hcc
      split at hcc
      · rename_i e hu
        simp only [Option.bind_eq_some_iff, Option.map_eq_some_iff] at hcc
        obtain ⟨m, hm, sx, hx, sl, hl, sh, hh, rfl⟩ := hcc
        cases hb : isSp H sx with
        | false =>
          rw [hb] at hev
          exact (slc_sound hop hu hm hx hl hh hR hev).wp
        | true =>
          rw [hb] at hev
          exact (slc_sound hop hu hm hx hl hh hR (slp_slc hev)).wp
      · cases hcc
  | nilCheck x =>
    simp only [ccOp0, hop, Option.map_eq_some_iff] at hcc
    obtain ⟨s, hs, rfl⟩ := hcc
    exact (nilc_sound hop hs hR hev).wp
  | call c =>
    obtain ⟨callee, args, ats⟩ := c
    simp only [ccOp0, hop, ccCall] at hcc
    split at hcc
    · split at hcc
      · rename_i x t h1 h2
        split at hcc
        · rename_i e hu
          simp only [Option.map_eq_some_iff] at hcc
          obtain ⟨s, hs, rfl⟩ := hcc
          have e1 : args = #[x] := by apply Array.toList_inj.1; rw [h1]
          have e2 : ats = #[t] := by apply Array.toList_inj.1; rw [h2]
          subst e1; subst e2
          exact (len_sound hop hu hs hR hev).wp
        · cases hcc
      · rename_i x xs _ h1
        simp only [Option.map_eq_some_iff] at hcc
        obtain ⟨s, hs, rfl⟩ := hcc
        exact (mm_sound (mx := false) hop (by rw [h1]; exact hs) hR hev).wp
      · rename_i x xs _ h1
        simp only [Option.map_eq_some_iff] at hcc
        obtain ⟨s, hs, rfl⟩ := hcc
        exact (mm_sound (mx := true) hop (by rw [h1]; exact hs) hR hev).wp
      · rename_i s x t t' h1 h2
        split at hcc
        · rename_i htt
          subst htt
          split at hcc
          · rename_i e hu
            simp only [Option.bind_eq_some_iff] at hcc
            obtain ⟨i, hi, z, hz, ss, hs, sx, hx, hcc⟩ := hcc
            split at hcc
            · rename_i hc
              simp only [Option.some.injEq] at hcc
              subst hcc
              have e1 : args = #[s, x] := by apply Array.toList_inj.1; rw [h1]
              have e2 : ats = #[t, t] := by apply Array.toList_inj.1; rw [h2]
              subst e1; subst e2
              obtain ⟨d, h3, _, h4, h5⟩ := dst rfl
              rw [h5] at hev
              exact (app_sound hop hu hi hz hc.1 hc.2.1 hc.2.2 hs hx h3 h4 hR hev).wp
            · cases hcc
          · cases hcc
        · cases hcc
      · cases hcc
    · rename_i f
      split at hcc
      · split at hcc
        · rename_i p xs h1
          simp only [Option.bind_eq_some_iff, Option.map_eq_some_iff] at hcc
          obtain ⟨sp, hp, ss, hss, rfl⟩ := hcc
          exact pcall_wp hC h1 hop hp hss hR hev
        · cases hcc
      · simp only [Option.map_eq_some_iff] at hcc
        obtain ⟨ss, hss, rfl⟩ := hcc
        simp only [evOp, Option.bind_eq_some_iff] at hev
        obtain ⟨g, e1, hev⟩ := hev
        have hg : f = g := by simpa [getX, fnOf] using e1
        subst hg
        refine call_wp hC hop rfl hss (d := o.dst.getD 0) (fun hpt => ?_) hR hev
        obtain ⟨d, h1, _, h2, h3⟩ := dst (by rw [hpt]; rfl)
        rw [h3]; exact ⟨h1, h2⟩
    · rename_i t
      simp only [Option.map_eq_some_iff] at hcc
      obtain ⟨ss, hss, rfl⟩ := hcc
      simp only [evOp, Option.bind_eq_some_iff] at hev
      obtain ⟨g, e1, hev⟩ := hev
      have hf : a.eval (.tmp t) = .func (.func g) #[] #[] := by
        have h := ccX_rel (x := .tmp t) rfl hR
        rw [fnOf_spec e1] at h
        exact rel_v h
      exact call_wp hC hop hf hss (d := o.dst.getD 0) (fun hpt => by cases hpt) hR hev
    · cases hcc
  | _ => simp [ccOp0, hop] at hcc

/-! ### One operation of a region -/

theorem Rep.skip (h : Rep W0 S0 φ γ st a w) (dst : Option Nat) : Rep W0 S0 φ γ (skipR dst st) (a.put dst undef) w := by
  cases dst with
  | none => exact h
  | some d => exact h.pure (some d) (v := .un) rfl

theorem wanted_rel {ops : Array Oper} {o : Oper} {g : Option (Nat × Bool)} (hg : ccGuard ops o.guard = some g) (hR : Rep W0 S0 φ γ st a w) {q : Bool} (hq : wantedC st g = some q) : Region.wanted o (yielded ops a.tmps) = q := by
  unfold Region.wanted
  cases hgd : o.guard with
  | none =>
    rw [hgd] at hg
    simp only [ccGuard, Option.some.injEq] at hg
    subst hg
    simp only [wantedC, Option.some.injEq] at hq
    subst hq
    rfl
  | some jb =>
    obtain ⟨j, b⟩ := jb
    rw [hgd] at hg
    simp only [ccGuard, Option.map_eq_some_iff] at hg
    obtain ⟨d, hd, rfl⟩ := hg
    simp only [wantedC] at hq
    have hT := hR.getT d
    simp only [yielded, hd, Option.bind_some]
    split at hq
    · rename_i b' e
      rw [e] at hT
      have hv := rel_v hT
      simp only [Option.some.injEq] at hq
      subst hq
      by_cases hlt : d < a.tmps.size
      · rw [Array.getElem?_eq_getElem hlt]
        rw [Array.getD_eq_getD_getElem?, Array.getElem?_eq_getElem hlt, Option.getD_some] at hv
        rw [hv]
        cases b' <;> cases b <;> rfl
      · rw [Array.getD_eq_getD_getElem?, Array.getElem?_eq_none (by omega)] at hv
        cases hv
    · rename_i e
      rw [e] at hT
      have hv : a.tmps.getD d undef = undef := hT
      simp only [Option.some.injEq] at hq
      subst hq
      by_cases hlt : d < a.tmps.size
      · rw [Array.getElem?_eq_getElem hlt]
        rw [Array.getD_eq_getD_getElem?, Array.getElem?_eq_getElem hlt, Option.getD_some] at hv
        rw [hv]
        rfl
      · rw [Array.getElem?_eq_none (by omega)]
        rfl
    · cases hq

theorem makes_plain {H : Hints} {s : SOp} : makes (plainOf H s) = makes s := by
  cases s with
  | ixS m x i => simp only [plainOf]; cases isSp H x <;> rfl
  | load el ag n ks p => cases el with
    | false => rfl
    | true => simp only [plainOf]; cases isSp H p <;> rfl
  | _ => rfl
theorem op_wp {C : Ctx} (hC : CtxOk P C) {H : Hints} {el : List Tmp} {o : Oper} {so : SOp} (hcc : ccOp P H el o = some so) (hR : Rep W0 S0 φ γ st a w) (hmk : makes so = true → ∃ d, o.dst = some d ∧ d < st.tm.length) (hsz : Sz st) {r : Res}
    (hev : evOp C (o.dst.getD 0) st so = some r) : SoundW P W0 S0 o st a w r := by
  unfold ccOp at hcc
  cases h : ccOp0 P H el o with
  | some s =>
    rw [h] at hcc
    simp only [Option.some.injEq] at hcc
    subst hcc
    exact op_wp0 hC h hR (fun hm => hmk (by rw [makes_plain]; exact hm)) hsz (plain_ev hev)
  | none =>
    rw [h] at hcc
    exact (pur_sound hcc hR hev).wp

theorem step_wp {C : Ctx} (hC : CtxOk P C) {H : Hints} {el : List Tmp} {ops : Array Oper} {i : Nat} {o : Oper} (hi : ops[i]? = some o) {so : SOp} (hcc : ccOp P H el o = some so) {g : Option (Nat × Bool)} (hg : ccGuard ops o.guard = some g)
    (hR : Rep W0 S0 φ γ st a w) (hsz : Sz st) (hev : stepC C ⟨o.dst, so, g⟩ st = some st') {K : Act → World → Prop} {Q : Exit → Act → World → Prop} (hK : ∀ φ' γ' u w', Rep W0 S0 φ' γ' st' (a.put o.dst u) w' → K (a.put o.dst u) w') : wpOp P ops Q i K a w := by
  unfold wpOp
  rw [hi]
  simp only [stepC] at hev
  split at hev
  · rename_i hq
    have hw := wanted_rel hg hR hq
    simp only [hw, if_true]
    split at hev
    · cases hev
    · rename_i hmk
      simp only [Option.map_eq_some_iff] at hev
      obtain ⟨r, hr, rfl⟩ := hev
      refine .inl (op_wp hC hcc hR (fun hm => ?_) hsz hr K Q fun φ' γ' u w' h => hK φ' γ' _ w' h)
      cases hd : o.dst with
      | none => exact absurd ⟨hm, by simp [hd]⟩ hmk
      | some d => exact ⟨d, rfl, Nat.lt_of_not_le fun hle => hmk ⟨hm, by simpa [hd] using hle⟩⟩
  · rename_i hq
    have hw := wanted_rel hg hR hq
    simp only [hw]
    simp only [Option.some.injEq] at hev
    subst hev
    exact hK φ γ _ w (hR.skip o.dst)
  · cases hev

end
end Go.Proofs.YtlfojobligplkaaDoor.Mt

/-! Two operations that don't touch each other's slots, variables and rows may come in either order. Conditions: those that each lemma names. -/
namespace Go.Proofs.YtlfojobligplkaaDoor.Mt
open Go Go.RowKit
section
variable {C : Ctx} {d : Nat} {st st' : St}

def RefT (v : CV) (d k : Nat) : Prop := v = .one (.own d k) ∨ (∃ off, v = .elo d k off) ∨ ∃ cs, v = .agg cs ∧ Cell.own d k ∈ cs

theorem getX_eq {s : SX} (h : ∀ i ∈ sxT s, st'.tm.getD i .no = st.tm.getD i .no) : getX st' s = getX st s := by
  cases s with
  | t i => exact h i (by simp [sxT])
  | _ => rfl

def KeepT (st st' : St) (v : CV) : Prop := ∀ d k t, RefT v d k → liveTok st d k = some t → liveTok st' d k = some t

theorem contents_mono {c : Cell} {p : Nat × List Cell} (hT : KeepT st st' (.one c)) (h : contents st c = some p) : contents st' c = some p := by
  cases c with
  | own d k =>
    simp only [contents, Option.map_eq_some_iff] at h ⊢
    obtain ⟨t, ht, rfl⟩ := h
    exact ⟨t, hT d k t (.inl rfl) ht, rfl⟩
  | v x => cases x <;> first | exact h | (rename_i A n c; cases A <;> cases n <;> cases c <;> exact h)
  | sl n cs => exact h
  | dead => exact h

theorem shareC_mono {c c' : Cell} (hT : ∀ d k t, c = .own d k → liveTok st d k = some t → liveTok st' d k = some t) (h : shareC st c = some c') : shareC st' c = some c' := by
  cases c with
  | own d k =>
    simp only [shareC, Option.map_eq_some_iff] at h ⊢
    obtain ⟨t, ht, rfl⟩ := h
    exact ⟨t, hT d k t rfl ht, rfl⟩
  | v x => exact h
  | sl n cs => exact h
  | dead => exact h

theorem shareL_mono : ∀ {cs cs' : List Cell}, (∀ d k t, Cell.own d k ∈ cs → liveTok st d k = some t → liveTok st' d k = some t) → shareL st cs = some cs' → shareL st' cs = some cs'
  | [], _, _, h => h
  | c :: cs, cs', hT, h => by
    simp only [shareL, Option.bind_eq_some_iff, Option.map_eq_some_iff] at h ⊢
    obtain ⟨c', hc, r, hr, rfl⟩ := h
    exact ⟨c', shareC_mono (fun d k t e => hT d k t (by rw [e]; simp)) hc, r, shareL_mono (fun d k t e => hT d k t (by simp [e])) hr, rfl⟩

theorem argOf_mono {ow : Bool} {v v' : CV} (hT : ow = true → KeepT st st' v) (h : argOf ow st v = some v') : argOf ow st' v = some v' := by
  cases v <;> simp only [argOf] at h ⊢ <;> first | (cases h; done) | skip
  case one c =>
    cases ow with
    | true =>
      simp only [cond_true, Option.map_eq_some_iff] at h ⊢
      obtain ⟨c', hc, rfl⟩ := h
      exact ⟨c', shareC_mono (fun d k t e => hT rfl d k t (.inl (by rw [e]))) hc, rfl⟩
    | false => exact h
  case agg cs =>
    cases ow with
    | true =>
      simp only [cond_true, Option.map_eq_some_iff] at h ⊢
      obtain ⟨c', hc, rfl⟩ := h
      exact ⟨c', shareL_mono (fun d k t e => hT rfl d k t (.inr (.inr ⟨cs, rfl, e⟩))) hc, rfl⟩
    | false => exact h

theorem argsOf_mono {ow : Bool} : ∀ {xs : List SX} {vs : List CV}, (∀ i ∈ xs.flatMap sxT, st'.tm.getD i .no = st.tm.getD i .no) → (ow = true → ∀ s ∈ xs, KeepT st st' (getX st s)) → argsOf ow st xs = some vs → argsOf ow st' xs = some vs
  | [], _, _, _, h => h
  | x :: xs, vs, hX, hT, h => by
    simp only [argsOf, Option.bind_eq_some_iff, Option.map_eq_some_iff] at h ⊢
    obtain ⟨v, hv, r, hr, rfl⟩ := h
    have e : getX st' x = getX st x := getX_eq fun i hi => hX i (by simp [hi])
    refine ⟨v, by rw [e]; exact argOf_mono (fun ho => hT ho x (by simp)) hv, r, argsOf_mono (fun i hi => hX i (by simp at hi ⊢; exact .inr hi)) (fun ho s hs => hT ho s (by simp [hs])) hr, rfl⟩

theorem partsA_eq : ∀ {ps : List (Nat × Nat × SX)}, (∀ i ∈ ps.flatMap (fun p => sxT p.2.2), st'.tm.getD i .no = st.tm.getD i .no) → partsA st' ps = partsA st ps
  | [], _ => rfl
  | (off, size, x) :: r, hX => by
    have e : getX st' x = getX st x := getX_eq fun i hi => hX i (by simp [hi])
    simp only [partsA, e, partsA_eq (ps := r) fun i hi => hX i (by rw [List.flatMap_cons]; exact List.mem_append_right _ hi)]

theorem partsS_eq {esz : Nat} : ∀ {ps : List (Nat × SX)}, (∀ i ∈ ps.flatMap (fun p => sxT p.2), st'.tm.getD i .no = st.tm.getD i .no) → partsS esz st' ps = partsS esz st ps
  | [], _ => rfl
  | (off, x) :: r, hX => by
    have e : getX st' x = getX st x := getX_eq fun i hi => hX i (by simp [hi])
    simp only [partsS, e, partsS_eq (ps := r) fun i hi => hX i (by rw [List.flatMap_cons]; exact List.mem_append_right _ hi)]

theorem boundOf_eq {n : Nat} {x : Option SX} (hX : ∀ i ∈ (x.map sxT).getD [], st'.tm.getD i .no = st.tm.getD i .no) : boundOf st' n x = boundOf st n x := by
  cases x with
  | none => rfl
  | some s => simp only [boundOf, getX_eq (s := s) hX]

theorem evOp_mono {op : SOp} {r : Res} (hX : ∀ i ∈ slotsOf op, st'.tm.getD i .no = st.tm.getD i .no) (hlb : makes op = true → tlen st'.bx d = tlen st.bx d) (hlt : makes op = true → tlen st'.tk d = tlen st.tk d)
    (hB : (footOf op).rb = true → ∀ p, ptrOf op = some p → ∀ i k off cs, st.tm.getD p .no = .box i k off → tat st.bx i k = some cs → tat st'.bx i k = some cs)
    (hT : (footOf op).rt = true → ∀ s ∈ slotsOf op, KeepT st st' (st.tm.getD s .no)) (h : evOp C d st op = some r) : evOp C d st' op = some r := by
  have hS : (footOf op).rt = true → ∀ s : SX, (∀ i ∈ sxT s, i ∈ slotsOf op) → KeepT st st' (getX st s) := by
    intro hr s hs
    cases s with
    | t i => exact hT hr i (hs i (by simp [sxT]))
    | c x => intro d k t hh; rcases hh with hh | ⟨_, hh⟩ | ⟨_, hh, _⟩ <;> cases hh
    | f x => intro d k t hh; rcases hh with hh | ⟨_, hh⟩ | ⟨_, hh, _⟩ <;> cases hh
  cases op with
  | mv x => simpa only [evOp, getX_eq (s := x) hX] using h
  | pick c x y =>
    simp only [slotsOf, List.mem_append] at hX
    simpa only [evOp, getX_eq (s := c) fun i hi => hX i (.inl (.inl hi)), getX_eq (s := x) fun i hi => hX i (.inl (.inr hi)), getX_eq (s := y) fun i hi => hX i (.inr hi)] using h
  | alloc z => simpa only [evOp, hlb rfl] using h
  | box x => simpa only [evOp, getX_eq (s := x) hX, hlb rfl] using h
  | load el ag n ks p =>
    have e := getX_eq (s := p) hX
    simp only [evOp, e] at h ⊢
    cases el with
    | false =>
      cases hp : getX st p <;> simp only [hp] at h ⊢ <;> first | (cases h; done) | skip
      rename_i i k off
      simp only [Option.bind_eq_some_iff] at h ⊢
      obtain ⟨cs, hcs, h⟩ := h
      refine ⟨cs, ?_, h⟩
      cases p with
      | t q => exact hB rfl q rfl i k off cs hp hcs
      | c x => cases hp
      | f x => cases hp
    | true =>
      cases hp : getX st p <;> simp only [hp] at h ⊢ <;> first | (cases h; done) | (exact h) | skip
      rename_i i k off
      simp only [Option.bind_eq_some_iff] at h ⊢
      obtain ⟨t, ht, h⟩ := h
      exact ⟨t, hS rfl p (fun i hi => hi) i k t (by rw [hp]; exact .inr (.inl ⟨off, rfl⟩)) ht, h⟩
  | store el n p x =>
    simp only [slotsOf, List.mem_append] at hX
    have e := getX_eq (s := p) fun i hi => hX i (.inl hi)
    have e2 := getX_eq (s := x) fun i hi => hX i (.inr hi)
    simp only [evOp, e, e2, Option.bind_eq_some_iff] at h ⊢
    obtain ⟨us, hus, h⟩ := h
    refine ⟨us, hus, ?_⟩
    split at h
    · rename_i hn
      rw [if_pos hn]
      cases el with
      | false =>
        cases hp : getX st p <;> simp only [hp] at h ⊢ <;> first | (cases h; done) | skip
        rename_i i k off
        simp only [Option.bind_eq_some_iff] at h ⊢
        obtain ⟨cs, hcs, h⟩ := h
        refine ⟨cs, ?_, h⟩
        cases p with
        | t q => exact hB rfl q rfl i k off cs hp hcs
        | c x => cases hp
        | f x => cases hp
      | true =>
        cases hp : getX st p <;> simp only [hp] at h ⊢ <;> first | (cases h; done) | skip
        rename_i i k off
        cases hpl : us.all plainC with
        | false => rw [hpl] at h; cases h
        | true =>
          rw [hpl] at h
          simp only [cond_true, Option.bind_eq_some_iff] at h ⊢
          obtain ⟨t, ht, h⟩ := h
          exact ⟨t, hS rfl p (fun i hi => by simp [slotsOf, hi]) i k t (by rw [hp]; exact .inr (.inl ⟨off, rfl⟩)) ht, h⟩
    · cases h
  | fld o x => simpa only [evOp, getX_eq (s := x) hX] using h
  | ixA len esz x y =>
    simp only [slotsOf, List.mem_append] at hX
    simpa only [evOp, getX_eq (s := x) fun i hi => hX i (.inl hi), getX_eq (s := y) fun i hi => hX i (.inr hi)] using h
  | ixS esz x y =>
    simp only [slotsOf, List.mem_append] at hX
    have e := getX_eq (s := x) fun i hi => hX i (.inl hi)
    have e2 := getX_eq (s := y) fun i hi => hX i (.inr hi)
    simp only [evOp, e, e2] at h ⊢
    split at h
    · exact h
    · rename_i h1 h2
      simp only [Option.bind_eq_some_iff] at h ⊢
      obtain ⟨t, ht, h⟩ := h
      exact ⟨t, hS rfl x (fun i hi => by simp [slotsOf, hi]) _ _ t (by rw [h1]; exact .inl rfl) ht, h⟩
    · cases h
  | ixp esz x y =>
    simp only [slotsOf, List.mem_append] at hX
    simpa only [evOp, getX_eq (s := x) fun i hi => hX i (.inl hi), getX_eq (s := y) fun i hi => hX i (.inr hi)] using h
  | ldp ag n ks x => simpa only [evOp, getX_eq (s := x) hX] using h
  | ixV ag len esz ks x y =>
    simp only [slotsOf, List.mem_append] at hX
    simpa only [evOp, getX_eq (s := x) fun i hi => hX i (.inl hi), getX_eq (s := y) fun i hi => hX i (.inr hi)] using h
  | fldV ag off n ks x => simpa only [evOp, getX_eq (s := x) hX] using h
  | build z ps => simpa only [evOp, partsA_eq (ps := ps) hX] using h
  | buildS e esz n z ps => simpa only [evOp, partsS_eq (ps := ps) hX, hlt rfl] using h
  | buildF esz n z ps => simpa only [evOp, partsS_eq (ps := ps) hX] using h
  | bin o x y =>
    simp only [slotsOf, List.mem_append] at hX
    simpa only [evOp, getX_eq (s := x) fun i hi => hX i (.inl hi), getX_eq (s := y) fun i hi => hX i (.inr hi)] using h
  | binB o x y =>
    simp only [slotsOf, List.mem_append] at hX
    simpa only [evOp, getX_eq (s := x) fun i hi => hX i (.inl hi), getX_eq (s := y) fun i hi => hX i (.inr hi)] using h
  | eqA o ks x y =>
    simp only [slotsOf, List.mem_append] at hX
    simpa only [evOp, getX_eq (s := x) fun i hi => hX i (.inl hi), getX_eq (s := y) fun i hi => hX i (.inr hi)] using h
  | un o x => simpa only [evOp, getX_eq (s := x) hX] using h
  | conv k x => simpa only [evOp, getX_eq (s := x) hX] using h
  | ext i x => simpa only [evOp, getX_eq (s := x) hX] using h
  | nilc x => simpa only [evOp, getX_eq (s := x) hX] using h
  | len x =>
    simp only [evOp, getX_eq (s := x) hX] at h ⊢
    cases hx : getX st x <;> simp only [hx] at h ⊢ <;> first | (cases h; done) | skip
    rename_i c
    simp only [Option.map_eq_some_iff] at h ⊢
    obtain ⟨p, hp, rfl⟩ := h
    exact ⟨p, contents_mono (by have := hS rfl x (fun i hi => hi); rw [hx] at this; exact this) hp, rfl⟩
  | mm mx xs =>
    have e : xs.map (getX st') = xs.map (getX st) := List.map_congr_left fun s hs => getX_eq fun i hi => hX i (List.mem_flatMap.2 ⟨s, hs, hi⟩)
    simpa only [evOp, e] using h
  | pur f xs =>
    have e : xs.map (getX st') = xs.map (getX st) := List.map_congr_left fun s hs => getX_eq fun i hi => hX i (List.mem_flatMap.2 ⟨s, hs, hi⟩)
    simpa only [evOp, e] using h
  | app e esz bytes z s x =>
    simp only [slotsOf, List.mem_append] at hX
    have e1 := getX_eq (s := s) fun i hi => hX i (.inl hi)
    have e2 := getX_eq (s := x) fun i hi => hX i (.inr hi)
    simp only [evOp, e1, e2] at h ⊢
    split at h
    · rename_i i k c h1 h2
      simp only [Option.bind_eq_some_iff] at h ⊢
      obtain ⟨t, ht, p, hp, h⟩ := h
      refine ⟨t, hS rfl s (fun i hi => by simp [slotsOf, hi]) _ _ t (by rw [h1]; exact .inl rfl) ht, p, contents_mono (by have := hS rfl x (fun i hi => by simp [slotsOf, hi]); rw [h2] at this; exact this) hp, ?_⟩
      rw [tlen_set] at h ⊢
      rw [hlt rfl]
      exact h
    · rename_i c h1 h2
      simp only [Option.bind_eq_some_iff] at h ⊢
      obtain ⟨p, hp, h⟩ := h
      refine ⟨p, contents_mono (by have := hS rfl x (fun i hi => by simp [slotsOf, hi]); rw [h2] at this; exact this) hp, ?_⟩
      rw [hlt rfl]
      exact h
    · cases h
  | slp esz s lo hi =>
    simp only [slotsOf, List.mem_append] at hX
    have e1 := getX_eq (s := s) fun i hi => hX i (.inl (.inl hi))
    have e2 : ∀ n, boundOf st' n lo = boundOf st n lo := fun n => boundOf_eq fun i hi => hX i (.inl (.inr hi))
    have e3 : ∀ n, boundOf st' n hi = boundOf st n hi := fun n => boundOf_eq fun i hi => hX i (.inr hi)
    simpa only [evOp, e1, e2, e3] using h
  | slc esz s lo hi =>
    simp only [slotsOf, List.mem_append] at hX
    have e1 := getX_eq (s := s) fun i hi => hX i (.inl (.inl hi))
    have e2 : ∀ n, boundOf st' n lo = boundOf st n lo := fun n => boundOf_eq fun i hi => hX i (.inl (.inr hi))
    have e3 : ∀ n, boundOf st' n hi = boundOf st n hi := fun n => boundOf_eq fun i hi => hX i (.inr hi)
    simp only [evOp, e1, e2, e3] at h ⊢
    split at h
    · exact h
    · rename_i h1
      simp only [Option.bind_eq_some_iff] at h ⊢
      obtain ⟨t, ht, h⟩ := h
      exact ⟨t, hS rfl s (fun i hi => by simp [slotsOf, hi]) _ _ t (by rw [h1]; exact .inl rfl) ht, h⟩
    · exact h
    · cases h
  | call ow pt f xs =>
    simp only [slotsOf, List.mem_append] at hX
    have e1 := getX_eq (s := f) fun i hi => hX i (.inl hi)
    simp only [evOp, e1, Option.bind_eq_some_iff] at h ⊢
    obtain ⟨g, hg, h⟩ := h
    refine ⟨g, hg, ?_⟩
    simp only [doCall, Option.bind_eq_some_iff] at h ⊢
    obtain ⟨vs, hvs, ret, hret, h⟩ := h
    refine ⟨vs, argsOf_mono (fun i hi => hX i (.inr hi)) (fun ho s hs => hS (by simp [footOf, ho]) s fun i hi => by simp only [slotsOf, List.mem_append]; exact .inr (List.mem_flatMap.2 ⟨s, hs, hi⟩)) hvs, ret, hret, ?_⟩
    cases pt with
    | false => exact h
    | true => rw [hlt rfl]; exact h
  | pcall g p xs =>
    simp only [slotsOf, List.mem_append] at hX
    have e1 := getX_eq (s := p) fun i hi => hX i (.inl hi)
    simp only [evOp, e1] at h ⊢
    split at h
    · rename_i i k h1
      simp only [Option.bind_eq_some_iff] at h ⊢
      obtain ⟨cs, hcs, vs, hvs, h⟩ := h
      refine ⟨cs, ?_, vs, argsOf_mono (fun i hi => hX i (.inr hi)) (fun ho => by cases ho) hvs, h⟩
      cases p with
      | t q => exact hB rfl q rfl i k 0 cs h1 hcs
      | c x => cases h1
      | f x => cases h1
    · cases h

end
end Go.Proofs.YtlfojobligplkaaDoor.Mt

/-! Steps that don't touch each other may come in either order; what an earlier state has is there later. Conditions: those that each lemma names. -/
namespace Go.Proofs.YtlfojobligplkaaDoor.Mt
open Go Go.RowKit

/-! ### Tables -/
section
variable {α : Type}

theorem tset_tset {T : List (List α)} {i k i' k' : Nat} {x y : α} (hi : i < T.length) (hi' : i' < T.length) (h : ¬ (i = i' ∧ k = k')) : tset (tset T i k x) i' k' y = tset (tset T i' k' y) i k x := by
  unfold tset
  by_cases e : i = i'
  · subst e
    rw [getD_set hi, if_pos rfl, getD_set hi, if_pos rfl, List.set_set, List.set_set, List.set_comm _ _ (fun e => h ⟨rfl, e⟩)]
  · rw [getD_set hi, if_neg (Ne.symm e), getD_set hi', if_neg e, List.set_comm _ _ e]

theorem tpush_tpush {T : List (List α)} {d d' : Nat} {xs ys : List α} (hd : d < T.length) (hd' : d' < T.length) (h : d ≠ d') : tpush (tpush T d xs) d' ys = tpush (tpush T d' ys) d xs := by
  unfold tpush
  rw [getD_set hd, if_neg (Ne.symm h), getD_set hd', if_neg h, List.set_comm _ _ h]

theorem tset_tpush {T : List (List α)} {i k d : Nat} {x y : α} {xs : List α} (hx : tat T i k = some y) (hd : d < T.length) : tpush (tset T i k x) d xs = tset (tpush T d xs) i k x := by
  obtain ⟨hi, hk⟩ := tat_lt hx
  unfold tset tpush
  by_cases e : i = d
  · subst e
    rw [getD_set hi, if_pos rfl, getD_set hi, if_pos rfl, List.set_set, List.set_set]
    congr 1
    rw [List.set_append_left _ _ hk]
  · rw [getD_set hi, if_neg (Ne.symm e), getD_set hd, if_neg e, List.set_comm _ _ e]

theorem upd_comm {T : List (List α)} {w1 w2 : Option (Nat × Nat × α)} {d1 d2 : Nat} {p1 p2 : List α} (h1 : ∀ i k x, w1 = some (i, k, x) → ∃ y, tat T i k = some y) (h2 : ∀ i k x, w2 = some (i, k, x) → ∃ y, tat T i k = some y)
    (hne : ∀ i k x i' k' x', w1 = some (i, k, x) → w2 = some (i', k', x') → ¬ (i = i' ∧ k = k')) (g1 : p1 ≠ [] → d1 < T.length) (g2 : p2 ≠ [] → d2 < T.length) (hd : p1 ≠ [] → p2 ≠ [] → d1 ≠ d2) :
    upd (upd T w1 d1 p1) w2 d2 p2 = upd (upd T w2 d2 p2) w1 d1 p1 := by
  have c1 : ∀ {U : List (List α)} {i k : Nat} {x : α}, U.length = T.length → (tset U i k x).length = T.length := fun h => by rw [tset_length]; exact h
  have c2 : ∀ {U : List (List α)} {d : Nat} {xs : List α}, U.length = T.length → (tpush U d xs).length = T.length := fun h => by rw [tpush_length]; exact h
  cases w1 with
  | none => cases w2 with
    | none => cases p1 with
      | nil => rfl
      | cons a l => cases p2 with
        | nil => rfl
        | cons b m => exact tpush_tpush (g1 (by simp)) (g2 (by simp)) (hd (by simp) (by simp))
    | some v =>
      obtain ⟨i', k', x'⟩ := v
      obtain ⟨y', hy'⟩ := h2 i' k' x' rfl
      cases p1 with
      | nil => rfl
      | cons a l =>
        have e := tset_tpush (x := x') (xs := a :: l) hy' (g1 (by simp))
        cases p2 with
        | nil => exact e.symm
        | cons b m =>
          show tpush (tset (tpush T d1 (a :: l)) i' k' x') d2 (b :: m) = tpush (tpush (tset T i' k' x') d2 (b :: m)) d1 (a :: l)
          rw [← e, tpush_tpush (by rw [tset_length]; exact g1 (by simp)) (by rw [tset_length]; exact g2 (by simp)) (hd (by simp) (by simp))]
  | some v =>
    obtain ⟨i, k, x⟩ := v
    obtain ⟨y, hy⟩ := h1 i k x rfl
    cases w2 with
    | none => cases p2 with
      | nil => cases p1 <;> rfl
      | cons b m =>
        have e := tset_tpush (x := x) (xs := b :: m) hy (g2 (by simp))
        cases p1 with
        | nil => exact e
        | cons a l =>
          show tpush (tpush (tset T i k x) d1 (a :: l)) d2 (b :: m) = tpush (tset (tpush T d2 (b :: m)) i k x) d1 (a :: l)
          rw [← e, tpush_tpush (by rw [tset_length]; exact g1 (by simp)) (by rw [tset_length]; exact g2 (by simp)) (hd (by simp) (by simp))]
    | some v' =>
      obtain ⟨i', k', x'⟩ := v'
      obtain ⟨y', hy'⟩ := h2 i' k' x' rfl
      have hn := hne i k x i' k' x' rfl rfl
      have e0 := tset_tset (x := x) (y := x') (tat_lt hy).1 (tat_lt hy').1 hn
      have hy1 : tat (tset T i' k' x') i k = some y := by rw [tat_set hy', if_neg hn]; exact hy
      have hy2 : tat (tset T i k x) i' k' = some y' := by rw [tat_set hy, if_neg (fun e => hn ⟨e.1.symm, e.2.symm⟩)]; exact hy'
      cases p1 with
      | nil => cases p2 with
        | nil => exact e0
        | cons b m =>
          show tpush (tset (tset T i k x) i' k' x') d2 (b :: m) = tset (tpush (tset T i' k' x') d2 (b :: m)) i k x
          rw [e0]
          exact tset_tpush hy1 (by rw [tset_length]; exact g2 (by simp))
      | cons a l => cases p2 with
        | nil =>
          show tset (tpush (tset T i k x) d1 (a :: l)) i' k' x' = tpush (tset (tset T i' k' x') i k x) d1 (a :: l)
          rw [← e0]
          exact (tset_tpush hy2 (by rw [tset_length]; exact g1 (by simp))).symm
        | cons b m =>
          show tpush (tset (tpush (tset T i k x) d1 (a :: l)) i' k' x') d2 (b :: m) = tpush (tset (tpush (tset T i' k' x') d2 (b :: m)) i k x) d1 (a :: l)
          rw [← tset_tpush (x := x') (xs := a :: l) hy2 (by rw [tset_length]; exact g1 (by simp)), ← tset_tpush (x := x) (xs := b :: m) hy1 (by rw [tset_length]; exact g2 (by simp)), e0]
          exact tpush_tpush (by rw [tset_length, tset_length]; exact g1 (by simp)) (by rw [tset_length, tset_length]; exact g2 (by simp)) (hd (by simp) (by simp))

theorem upd_length {T : List (List α)} {w : Option (Nat × Nat × α)} {d : Nat} {p : List α} : (upd T w d p).length = T.length := by
  unfold upd
  cases w with
  | none => cases p with
    | nil => rfl
    | cons a l => simp only [tpush_length]
  | some v => cases p with
    | nil => exact tset_length _ _ _
    | cons a l => exact (tpush_length _ _).trans (tset_length _ _ _)

theorem upd_tlen {T : List (List α)} {w : Option (Nat × Nat × α)} {d : Nat} {p : List α} (hd : p ≠ [] → d < T.length) {d' : Nat} (h : p ≠ [] → d ≠ d') : tlen (upd T w d p) d' = tlen T d' := by
  have push : ∀ (U : List (List α)) (a : α) (l : List α), U.length = T.length → p = a :: l → tlen (tpush U d (a :: l)) d' = tlen U d' := by
    intro U a l hU hp
    unfold tlen tpush
    rw [getD_set (by rw [hU]; exact hd (by rw [hp]; simp)), if_neg (Ne.symm (h (by rw [hp]; simp)))]
  unfold upd
  cases w with
  | none => cases p with
    | nil => rfl
    | cons a l => exact push T a l rfl rfl
  | some v => cases p with
    | nil => exact tlen_set _ _ _ _
    | cons a l => exact (push _ a l (tset_length _ _ _) rfl).trans (tlen_set _ _ _ _)

theorem upd_tat {T : List (List α)} {w : Option (Nat × Nat × α)} {d : Nat} {p : List α} {i k : Nat} {x : α} (hx : tat T i k = some x) (hw : ∀ y, w ≠ some (i, k, y)) (hv : ∀ i k y, w = some (i, k, y) → ∃ z, tat T i k = some z) : tat (upd T w d p) i k = some x := by
  unfold upd
  cases w with
  | none => cases p with
    | nil => exact hx
    | cons a l => exact tat_push_old _ _ hx
  | some v =>
    obtain ⟨i', k', y⟩ := v
    obtain ⟨z, hz⟩ := hv i' k' y rfl
    have e : tat (tset T i' k' y) i k = some x := by rw [tat_set hz, if_neg (fun e => hw y (by rw [e.1, e.2]))]; exact hx
    cases p with
    | nil => exact e
    | cons a l => exact tat_push_old _ _ e

theorem upd_valid {T : List (List α)} {w : Option (Nat × Nat × α)} {d : Nat} {p : List α} {i k : Nat} {x : α} (hx : tat T i k = some x) (hv : ∀ i k y, w = some (i, k, y) → ∃ z, tat T i k = some z) : ∃ y, tat (upd T w d p) i k = some y := by
  unfold upd
  cases w with
  | none => cases p with
    | nil => exact ⟨_, hx⟩
    | cons a l => exact ⟨_, tat_push_old _ _ hx⟩
  | some v =>
    obtain ⟨i', k', y⟩ := v
    obtain ⟨z, hz⟩ := hv i' k' y rfl
    have e : ∃ q, tat (tset T i' k' y) i k = some q := by
      rw [tat_set hz]
      split
      · exact ⟨_, rfl⟩
      · exact ⟨_, hx⟩
    obtain ⟨q, e⟩ := e
    cases p with
    | nil => exact ⟨q, e⟩
    | cons a l => exact ⟨q, tat_push_old _ _ e⟩
end

section
variable {C : Ctx} {A : Alias} {st st' s1 s2 s3 : St}

theorem applyR_eq (dst : Option Nat) (st : St) (r : Res) : applyR dst st r = { tm := match dst with | some d => st.tm.set d r.val | none => st.tm, bx := upd st.bx r.wb (dst.getD 0) r.pb, tk := upd st.tk r.wt (dst.getD 0) r.pt } := rfl

/-- What an operation's result may be. -/
structure Fits (st : St) (op : SOp) (r : Res) : Prop where
  mks : r.pb ≠ [] ∨ r.pt ≠ [] → makes op = true
  wb : ∀ i k cs, r.wb = some (i, k, cs) → (footOf op).wb = true ∧ (∃ p off, ptrOf op = some p ∧ st.tm.getD p .no = .box i k off) ∧ ∃ cs0, tat st.bx i k = some cs0
  wt : ∀ i k t, r.wt = some (i, k, t) → (footOf op).wt = true ∧ ∃ t0, tat st.tk i k = some t0

theorem Fits.pure {st : St} {op : SOp} {v : CV} : Fits st op { val := v } := ⟨fun h => (by rcases h with h | h <;> exact absurd rfl h), fun _ _ _ h => (by cases h), fun _ _ _ h => (by cases h)⟩

theorem evOp_fits {d : Nat} {op : SOp} {r : Res} (h : evOp C d st op = some r) : Fits st op r := by
  cases op with
  | alloc z => simp only [evOp, Option.some.injEq] at h; subst h; exact ⟨fun _ => rfl, fun _ _ _ h => (by cases h), fun _ _ _ h => (by cases h)⟩
  | box x => simp only [evOp, Option.map_eq_some_iff] at h; obtain ⟨cs, _, rfl⟩ := h; exact ⟨fun _ => rfl, fun _ _ _ h => (by cases h), fun _ _ _ h => (by cases h)⟩
  | buildS e esz n z ps => simp only [evOp, Option.bind_eq_some_iff, Option.map_eq_some_iff] at h; obtain ⟨_, _, cs, _, rfl⟩ := h; exact ⟨fun _ => rfl, fun _ _ _ h => (by cases h), fun _ _ _ h => (by cases h)⟩
  | buildF esz n z ps => simp only [evOp, Option.bind_eq_some_iff, Option.map_eq_some_iff] at h; obtain ⟨_, _, cs, _, rfl⟩ := h; exact .pure
  | store el n p x =>
    simp only [evOp, Option.bind_eq_some_iff] at h
    obtain ⟨us, hus, h⟩ := h
    split at h
    · cases el with
      | false =>
        cases hp : getX st p <;> simp only [hp] at h <;> first | (cases h; done) | skip
        rename_i i k off
        simp only [Option.bind_eq_some_iff, Option.map_eq_some_iff] at h
        obtain ⟨cs, hcs, cs', _, rfl⟩ := h
        refine ⟨fun h => (by rcases h with h | h <;> exact absurd rfl h), fun i' k' cs2 h => ?_, fun _ _ _ h => (by cases h)⟩
        simp only [Option.some.injEq, Prod.mk.injEq] at h
        obtain ⟨rfl, rfl, rfl⟩ := h
        cases p with
        | t q => exact ⟨rfl, ⟨q, off, rfl, hp⟩, cs, hcs⟩
        | c x => cases hp
        | f x => cases hp
      | true =>
        cases hp : getX st p <;> simp only [hp] at h <;> first | (cases h; done) | skip
        rename_i i k off
        cases hpl : us.all plainC with
        | false => rw [hpl] at h; cases h
        | true =>
          rw [hpl] at h
          simp only [cond_true, Option.bind_eq_some_iff, Option.map_eq_some_iff] at h
          obtain ⟨t, ht, cs', _, rfl⟩ := h
          refine ⟨fun h => (by rcases h with h | h <;> exact absurd rfl h), fun _ _ _ h => (by cases h), fun i' k' cs2 h => ?_⟩
          simp only [Option.some.injEq, Prod.mk.injEq] at h
          obtain ⟨rfl, rfl, rfl⟩ := h
          exact ⟨rfl, t, (live_tat ht).1⟩
    · cases h
  | app e esz bytes z s x =>
    simp only [evOp] at h
    split at h
    · simp only [Option.bind_eq_some_iff] at h
      obtain ⟨t, ht, p, hp, h⟩ := h
      split at h
      · simp only [Option.some.injEq] at h
        subst h
        refine ⟨fun _ => rfl, fun _ _ _ h => (by cases h), fun i' k' cs2 h => ?_⟩
        simp only [Option.some.injEq, Prod.mk.injEq] at h
        obtain ⟨rfl, rfl, rfl⟩ := h
        exact ⟨rfl, t, (live_tat ht).1⟩
      · cases h
    · simp only [Option.bind_eq_some_iff] at h
      obtain ⟨p, hp, h⟩ := h
      split at h
      · simp only [Option.some.injEq] at h
        subst h
        exact ⟨fun _ => rfl, fun _ _ _ h => (by cases h), fun _ _ _ h => (by cases h)⟩
      · cases h
    · cases h
  | slp esz s lo hi =>
    simp only [evOp] at h
    split at h
    · simp only [Option.bind_eq_some_iff] at h
      obtain ⟨l, _, hh, _, h⟩ := h
      split at h
      · simp only [Option.some.injEq] at h; subst h; exact .pure
      · cases h
    · simp only [Option.bind_eq_some_iff] at h
      obtain ⟨l, _, hh, _, h⟩ := h
      split at h
      · simp only [Option.some.injEq] at h; subst h; exact .pure
      · cases h
    · cases h
  | slc esz s lo hi =>
    simp only [evOp] at h
    split at h
    · simp only [Option.bind_eq_some_iff] at h
      obtain ⟨l, _, hh, _, h⟩ := h
      split at h
      · simp only [Option.some.injEq] at h; subst h; exact .pure
      · cases h
    · simp only [Option.bind_eq_some_iff] at h
      obtain ⟨t, ht, l, _, hh, _, h⟩ := h
      split at h
      · simp only [Option.some.injEq] at h
        subst h
        refine ⟨fun h => (by rcases h with h | h <;> exact absurd rfl h), fun _ _ _ h => (by cases h), fun i' k' cs2 h => ?_⟩
        simp only [Option.some.injEq, Prod.mk.injEq] at h
        obtain ⟨rfl, rfl, rfl⟩ := h
        exact ⟨rfl, t, (live_tat ht).1⟩
      · cases h
    · simp only [Option.bind_eq_some_iff] at h
      obtain ⟨l, _, hh, _, h⟩ := h
      split at h
      · simp only [Option.some.injEq] at h; subst h; exact .pure
      · cases h
    · cases h
  | call ow pt f xs =>
    simp only [evOp, doCall, Option.bind_eq_some_iff] at h
    obtain ⟨g, _, vs, _, ret, _, h⟩ := h
    split at h
    · rename_i hc
      simp only [Option.some.injEq] at h
      subst h
      refine ⟨fun h => ?_, fun _ _ _ h => (by cases h), fun _ _ _ h => (by cases h)⟩
      cases pt with
      | true => rfl
      | false =>
        rcases h with h | h
        · exact absurd rfl h
        · exact absurd (List.eq_nil_of_length_eq_zero (hc.2.1 rfl)) h
    · cases h
  | pcall g p xs =>
    simp only [evOp] at h
    split at h
    · rename_i i k h1
      simp only [Option.bind_eq_some_iff] at h
      obtain ⟨cs, hcs, vs, _, cs', _, h⟩ := h
      split at h
      · simp only [Option.some.injEq] at h
        subst h
        refine ⟨fun h => (by rcases h with h | h <;> exact absurd rfl h), fun i' k' cs2 h => ?_, fun _ _ _ h => (by cases h)⟩
        simp only [Option.some.injEq, Prod.mk.injEq] at h
        obtain ⟨rfl, rfl, rfl⟩ := h
        cases p with
        | t q => exact ⟨rfl, ⟨q, 0, rfl, h1⟩, cs, hcs⟩
        | c x => cases h1
        | f x => cases h1
      · cases h
    · cases h
  | ldp ag n ks p =>
    simp only [evOp] at h
    split at h
    · simp only [Option.map_eq_some_iff] at h; obtain ⟨_, _, rfl⟩ := h; exact .pure
    · cases h
  | load el ag n ks p =>
    simp only [evOp] at h
    split at h
    · simp only [Option.bind_eq_some_iff, Option.map_eq_some_iff] at h; obtain ⟨_, _, _, _, rfl⟩ := h; exact .pure
    · simp only [Option.map_eq_some_iff] at h; obtain ⟨_, _, rfl⟩ := h; exact .pure
    · simp only [Option.bind_eq_some_iff, Option.map_eq_some_iff] at h; obtain ⟨_, _, _, _, rfl⟩ := h; exact .pure
    · cases h
  | _ =>
    simp only [evOp] at h
    first
      | (simp only [Option.some.injEq] at h; subst h; exact .pure)
      | (simp only [Option.map_eq_some_iff] at h; obtain ⟨_, _, rfl⟩ := h; exact .pure)
      | (simp only [Option.bind_eq_some_iff, Option.map_eq_some_iff] at h; obtain ⟨_, _, _, _, rfl⟩ := h; exact .pure)
      | (repeat' split at h
         all_goals first
           | (cases h; done)
           | (simp only [Option.some.injEq] at h; subst h; exact .pure)
           | (simp only [Option.map_eq_some_iff] at h; obtain ⟨_, _, rfl⟩ := h; exact .pure)
           | (simp only [Option.bind_eq_some_iff] at h; obtain ⟨_, _, h⟩ := h; split at h <;> first | (cases h; done) | (simp only [Option.some.injEq] at h; subst h; exact .pure)))
end
end Go.Proofs.YtlfojobligplkaaDoor.Mt

/-! Two steps that are free of each other come in either order; a step that is free of all before it may come first. Conditions: those that each lemma names. -/
namespace Go.Proofs.YtlfojobligplkaaDoor.Mt
open Go Go.RowKit
section
variable {C : Ctx} {A : Alias} {st st' s1 s2 s3 : St}

/-- What the list of addresses tells is so. -/
def AInv (A : Alias) (st : St) : Prop := ∀ p b, lookA A p = some b → ∀ i k off, st.tm.getD p .no = .box i k off → i = b

theorem getD_put (dst : Option Nat) (tm : List CV) (v : CV) (i : Nat) (h : dst ≠ some i) : (match dst with | some d => tm.set d v | none => tm).getD i .no = tm.getD i .no := by
  cases dst with
  | none => rfl
  | some d =>
    have hne : d ≠ i := fun e => h (by rw [e])
    simp only [List.getD_eq_getElem?_getD, List.getElem?_set_ne hne]

theorem len_put (dst : Option Nat) (tm : List CV) (v : CV) : (match dst with | some d => tm.set d v | none => tm).length = tm.length := by
  cases dst <;> simp

/-- What a step's result may be. -/
structure Good (o : SOper) (st : St) (r : Res) : Prop where
  fit : Fits st o.op r
  push : r.pb ≠ [] ∨ r.pt ≠ [] → ∃ d, o.dst = some d ∧ d < st.tm.length

theorem skip_eq (dst : Option Nat) (st : St) : (match dst with | some d => { st with tm := st.tm.set d .un } | none => st) = applyR dst st { val := .un } := by
  cases dst <;> rfl

theorem step_mono {o : SOper} (hX : ∀ i ∈ looks o, st'.tm.getD i .no = st.tm.getD i .no) (hl : st'.tm.length = st.tm.length) (hlb : ∀ d, o.dst = some d → tlen st'.bx d = tlen st.bx d) (hlt : ∀ d, o.dst = some d → tlen st'.tk d = tlen st.tk d)
    (hB : (footOf o.op).rb = true → ∀ p, ptrOf o.op = some p → ∀ i k off cs, st.tm.getD p .no = .box i k off → tat st.bx i k = some cs → tat st'.bx i k = some cs)
    (hT : (footOf o.op).rt = true → ∀ s ∈ slotsOf o.op, KeepT st st' (st.tm.getD s .no)) (h : stepC C o st = some s1) :
    ∃ r, s1 = applyR o.dst st r ∧ stepC C o st' = some (applyR o.dst st' r) ∧ Good o st r := by
  have hw : wantedC st' o.guard = wantedC st o.guard := by
    cases hg : o.guard with
    | none => rfl
    | some jw =>
      obtain ⟨j, w⟩ := jw
      simp only [wantedC]
      rw [hX j (by simp [looks, hg])]
  unfold stepC at h ⊢
  rw [hw]
  split at h
  · rename_i hq
    split at h
    · cases h
    · rename_i hmk
      simp only [Option.map_eq_some_iff] at h
      obtain ⟨r, hr, rfl⟩ := h
      have hd : makes o.op = true → ∃ d, o.dst = some d ∧ d < st.tm.length := fun hm => by
        cases hdst : o.dst with
        | none => exact absurd ⟨hm, by simp [hdst]⟩ hmk
        | some d => exact ⟨d, rfl, Nat.lt_of_not_le fun hle => hmk ⟨hm, by simpa [hdst] using hle⟩⟩
      have hf := evOp_fits hr
      refine ⟨r, rfl, ?_, ⟨hf, fun hp => hd (hf.mks hp)⟩⟩
      simp only [hl, hmk, if_false]
      rw [evOp_mono (fun i hi => hX i (by simp [looks, hi])) (fun hm => by obtain ⟨d, h1, _⟩ := hd hm; rw [h1]; exact hlb d h1) (fun hm => by obtain ⟨d, h1, _⟩ := hd hm; rw [h1]; exact hlt d h1) hB hT hr]
      rfl
  · simp only [Option.some.injEq] at h
    subst h
    exact ⟨{ val := .un }, skip_eq _ _, congrArg some (skip_eq _ _), ⟨.pure, fun hp => by rcases hp with hp | hp <;> exact absurd rfl hp⟩⟩
  · cases h

theorem step_good {o : SOper} (h : stepC C o st = some s1) : ∃ r, s1 = applyR o.dst st r ∧ Good o st r := by
  obtain ⟨r, h1, _, h3⟩ := step_mono (st' := st) (fun _ _ => rfl) rfl (fun _ _ => rfl) (fun _ _ => rfl) (fun _ _ _ _ _ _ _ _ h => h) (fun _ _ _ _ _ _ _ h => h) h
  exact ⟨r, h1, h3⟩

theorem step_sz {o : SOper} (hs : Sz st) (h : stepC C o st = some s1) : Sz s1 ∧ s1.tm.length = st.tm.length := by
  obtain ⟨r, rfl, _⟩ := step_good h
  refine ⟨⟨?_, ?_⟩, len_put _ _ _⟩
  · exact (upd_length).trans (hs.1.trans (len_put _ _ _).symm)
  · exact (upd_length).trans (hs.2.trans (len_put _ _ _).symm)

theorem step_alias {o : SOper} (ha : aliasOp A o = true) (hA : AInv A st) (h : stepC C o st = some s1) : AInv A s1 := by
  intro p b hb i k off hp
  by_cases e : o.dst = some p
  · simp only [aliasOp, e, hb] at ha
    unfold stepC at h
    split at h
    · split at h
      · cases h
      · simp only [Option.map_eq_some_iff] at h
        obtain ⟨r, hr, rfl⟩ := h
        have hv : r.val = .box i k off := by
          simp only [applyR, e, List.getD_eq_getElem?_getD] at hp
          by_cases hlt : p < st.tm.length
          · rw [List.getElem?_set_self hlt] at hp; exact hp
          · rw [List.getElem?_eq_none (by simp; omega)] at hp; cases hp
        have follow : ∀ q, lookA A q = some b → (∃ i' k' off', st.tm.getD q .no = .box i' k' off' ∧ i' = i) → i = b := by
          rintro q hq ⟨i', k', off', h1, rfl⟩
          exact hA q b hq _ _ _ h1
        have sh : ∀ (o' : Nat) (v : CV), shift o' v = some r.val → ∃ k' off', v = .box i k' off' := by
          intro o' v hh
          rw [hv] at hh
          cases v <;> simp only [shift] at hh <;> first | (cases hh; done) | skip
          simp only [Option.some.injEq, CV.box.injEq] at hh
          obtain ⟨rfl, rfl, _⟩ := hh
          exact ⟨_, _, rfl⟩
        split at ha
        · rename_i z hop
          rw [hop] at hr
          simp only [evOp, Option.some.injEq] at hr
          rw [← hr] at hv
          simp only [CV.box.injEq] at hv
          rw [e] at hv
          simp only [Option.getD_some] at hv
          rw [beq_iff_eq] at ha
          omega
        · rename_i z hop
          rw [hop] at hr
          simp only [evOp, Option.map_eq_some_iff] at hr
          obtain ⟨cs, _, hr⟩ := hr
          rw [← hr] at hv
          simp only [CV.box.injEq] at hv
          rw [e] at hv
          simp only [Option.getD_some] at hv
          rw [beq_iff_eq] at ha
          omega
        · rename_i o' q hop
          rw [hop] at hr
          simp only [evOp, Option.map_eq_some_iff] at hr
          obtain ⟨v, hv', rfl⟩ := hr
          obtain ⟨k', off', h1⟩ := sh _ _ hv'
          exact follow q (by simpa using ha) ⟨_, k', off', h1, rfl⟩
        · rename_i l m q j hop
          rw [hop] at hr
          simp only [evOp] at hr
          split at hr
          · split at hr
            · simp only [Option.map_eq_some_iff] at hr
              obtain ⟨v, hv', rfl⟩ := hr
              obtain ⟨k', off', h1⟩ := sh _ _ hv'
              exact follow q (by simpa using ha) ⟨_, k', off', h1, rfl⟩
            · cases hr
          · cases hr
        · rename_i q hop
          rw [hop] at hr
          simp only [evOp, Option.some.injEq] at hr
          rw [← hr] at hv
          exact follow q (by simpa using ha) ⟨_, k, off, hv, rfl⟩
        · rename_i q hop
          rw [hop] at hr
          simp only [evOp] at hr
          split at hr
          · rename_i i' k' o' h1
            simp only [Option.some.injEq] at hr
            rw [← hr] at hv
            simp only [CV.box.injEq] at hv
            exact follow q (by simpa using ha) ⟨_, k', o', h1, hv.1⟩
          · simp only [Option.some.injEq] at hr; rw [← hr] at hv; cases hv
          · simp only [Option.some.injEq] at hr; rw [← hr] at hv; cases hv
          · cases hr
        · cases ha
    · simp only [Option.some.injEq] at h
      subst h
      rw [e] at hp
      simp only [List.getD_eq_getElem?_getD] at hp
      by_cases hlt : p < st.tm.length
      · rw [List.getElem?_set_self hlt] at hp; cases hp
      · rw [List.getElem?_eq_none (by simp; omega)] at hp; cases hp
    · cases h
  · obtain ⟨r, rfl, _⟩ := step_good h
    exact hA p b hb i k off ((getD_put _ _ _ _ e).symm.trans hp)

/-! ### Free of each other -/

theorem freeS_symm {x y : SOper} (h : freeS A x y = true) : freeS A y x = true := by
  simp only [freeS, Bool.and_eq_true, Bool.not_eq_true'] at h ⊢
  obtain ⟨h1, h2⟩ := h
  constructor
  · simp only [apartS, Bool.and_eq_true] at h1 ⊢
    cases hx : x.dst with
    | none => cases hy : y.dst with
      | none => simp
      | some d => simpa [hx, hy] using h1
    | some e => cases hy : y.dst with
      | none => simpa [hx, hy] using h1
      | some d =>
        simp only [hx, hy, Bool.and_eq_true, Bool.not_eq_true', beq_eq_false_iff_ne, ne_eq, Option.some.injEq] at h1 ⊢
        exact ⟨⟨h1.2, fun e => h1.1.2 e.symm⟩, h1.1.1⟩
  · have ho : otherB A y.op x.op = otherB A x.op y.op := by
      unfold otherB
      cases baseOf A x.op <;> cases baseOf A y.op <;> first | rfl | simp [bne, Bool.beq_comm]
    simp only [clash] at h2 ⊢
    rw [ho]
    revert h2
    generalize (footOf x.op).wb = a1; generalize (footOf x.op).rb = a2; generalize (footOf x.op).wt = a3; generalize (footOf x.op).rt = a4
    generalize (footOf y.op).wb = b1; generalize (footOf y.op).rb = b2; generalize (footOf y.op).wt = b3; generalize (footOf y.op).rt = b4
    generalize otherB A x.op y.op = c
    revert a1 a2 a3 a4 b1 b2 b3 b4 c
    decide

theorem apart_spec {x y : SOper} (h : freeS A x y = true) : (∀ i ∈ looks y, x.dst ≠ some i) ∧ (∀ d, y.dst = some d → x.dst ≠ some d) := by
  simp only [freeS, apartS, Bool.and_eq_true] at h
  cases hx : x.dst with
  | none => exact ⟨fun _ _ h => (by cases h), fun _ _ h => (by cases h)⟩
  | some d =>
    simp only [hx, Bool.and_eq_true, Bool.not_eq_true', beq_eq_false_iff_ne, ne_eq] at h
    obtain ⟨⟨⟨h1, h2⟩, _⟩, _⟩ := h
    refine ⟨fun i hi e => ?_, fun e he e2 => ?_⟩
    · simp only [Option.some.injEq] at e
      subst e
      rw [List.contains_eq_mem, decide_eq_false_iff_not] at h1
      exact h1 hi
    · exact h2 (he.trans e2.symm)

theorem wb_rb {op : SOp} (h : (footOf op).wb = true) : (footOf op).rb = true := by
  cases op with
  | load el ag n ks p => cases el <;> first | (cases h; done) | rfl
  | store el n p x => cases el <;> first | (cases h; done) | rfl
  | _ => first | (cases h; done) | rfl

theorem noclash_b {x y : SOper} (h : freeS A x y = true) (hA : AInv A st) {rx : Res} (hg : Good x st rx) (hr : (footOf y.op).rb = true) {p : Nat} (hp : ptrOf y.op = some p) {i k off : Nat} (hv : st.tm.getD p .no = .box i k off) (z : List Cell) : rx.wb ≠ some (i, k, z) := by
  intro e
  obtain ⟨hw, ⟨px, ox, h1, h2⟩, _⟩ := hg.fit.wb i k z e
  simp only [freeS, clash, Bool.and_eq_true, Bool.not_eq_true', Bool.or_eq_false_iff, hw, hr] at h
  have ho : otherB A x.op y.op = true := by
    have := h.2.1.1
    cases hq : otherB A x.op y.op with
    | true => rfl
    | false => rw [hq] at this; simp at this
  unfold otherB baseOf at ho
  rw [h1, hp] at ho
  simp only [Option.bind_some] at ho
  split at ho
  · rename_i a b ha hb
    have e1 := hA px a ha _ _ _ h2
    have e2 := hA p b hb _ _ _ hv
    rw [← e1, ← e2] at ho
    simp at ho
  · cases ho

theorem noclash_t {x y : SOper} (h : freeS A x y = true) {rx : Res} (hg : Good x st rx) (hr : (footOf y.op).rt = true ∨ (footOf y.op).wt = true) {i k : Nat} (z : Tok) : rx.wt ≠ some (i, k, z) := by
  intro e
  obtain ⟨hw, _⟩ := hg.fit.wt i k z e
  simp only [freeS, clash, Bool.and_eq_true, Bool.not_eq_true', Bool.or_eq_false_iff, hw] at h
  have := h.2.1.2
  rcases hr with hr | hr <;> rw [hr] at this <;> simp at this

theorem Good.vb {o : SOper} {r : Res} (h : Good o st r) : ∀ i k y, r.wb = some (i, k, y) → ∃ z, tat st.bx i k = some z := fun i k y e => (h.fit.wb i k y e).2.2
theorem Good.vt {o : SOper} {r : Res} (h : Good o st r) : ∀ i k y, r.wt = some (i, k, y) → ∃ z, tat st.tk i k = some z := fun i k y e => (h.fit.wt i k y e).2

/-- What y looks at is there behind x as it was. -/
theorem keeps_b {x y : SOper} (h : freeS A x y = true) (hA : AInv A st) {rx : Res} (hg : Good x st rx) : (footOf y.op).rb = true → ∀ p, ptrOf y.op = some p → ∀ i k off cs, st.tm.getD p .no = .box i k off → tat st.bx i k = some cs → tat (applyR x.dst st rx).bx i k = some cs :=
  fun hr _ hp _ _ _ _ hv hc => upd_tat hc (noclash_b h hA hg hr hp hv) hg.vb

theorem keeps_t {x y : SOper} (h : freeS A x y = true) {rx : Res} (hg : Good x st rx) (hr : (footOf y.op).rt = true) {d k : Nat} {t : Tok} (ht : tat st.tk d k = some t) : tat (applyR x.dst st rx).tk d k = some t := upd_tat ht (noclash_t h hg (.inl hr)) hg.vt

theorem live_of {d k : Nat} {t : Tok} (h : tat st.tk d k = some t) (hl : t.live = true) : liveTok st d k = some t := by
  simp [liveTok, h, hl]

theorem lens_b {x y : SOper} (h : freeS A x y = true) (hs : Sz st) {rx : Res} (hg : Good x st rx) : ∀ d, y.dst = some d → tlen (applyR x.dst st rx).bx d = tlen st.bx d := by
  intro d hd
  refine upd_tlen (fun hp => ?_) fun hp => ?_
  · obtain ⟨e, h1, h2⟩ := hg.push (.inl hp); rw [h1, hs.1]; exact h2
  · obtain ⟨e, h1, h2⟩ := hg.push (.inl hp); rw [h1]; exact fun e' => (apart_spec h).2 d hd (by rw [h1, ← e']; rfl)
theorem lens_t {x y : SOper} (h : freeS A x y = true) (hs : Sz st) {rx : Res} (hg : Good x st rx) : ∀ d, y.dst = some d → tlen (applyR x.dst st rx).tk d = tlen st.tk d := by
  intro d hd
  refine upd_tlen (fun hp => ?_) fun hp => ?_
  · obtain ⟨e, h1, h2⟩ := hg.push (.inr hp); rw [h1, hs.2]; exact h2
  · obtain ⟨e, h1, h2⟩ := hg.push (.inr hp); rw [h1]; exact fun e' => (apart_spec h).2 d hd (by rw [h1, ← e']; rfl)

theorem moved {x y : SOper} (h : freeS A x y = true) (hs : Sz st) (hA : AInv A st) {rx : Res} (hg : Good x st rx) (hy : stepC C y st = some s2) : ∃ r, s2 = applyR y.dst st r ∧ stepC C y (applyR x.dst st rx) = some (applyR y.dst (applyR x.dst st rx) r) ∧ Good y st r :=
  step_mono (fun i hi => getD_put _ _ _ _ ((apart_spec h).1 i hi)) (len_put _ _ _) (lens_b h hs hg) (lens_t h hs hg) (keeps_b h hA hg) (fun hr _ _ _ _ _ _ hl => live_of (keeps_t h hg hr (live_tat hl).1) (live_tat hl).2) hy

theorem applyR_comm {x y : SOper} (h : freeS A x y = true) (hs : Sz st) (hA : AInv A st) {rx ry : Res} (hx : Good x st rx) (hy : Good y st ry) : applyR y.dst (applyR x.dst st rx) ry = applyR x.dst (applyR y.dst st ry) rx := by
  have hd : ∀ d, y.dst = some d → x.dst ≠ some d := (apart_spec h).2
  have tm : (match y.dst with | some d => (match x.dst with | some d => st.tm.set d rx.val | none => st.tm).set d ry.val | none => (match x.dst with | some d => st.tm.set d rx.val | none => st.tm)) = (match x.dst with | some d => (match y.dst with | some d => st.tm.set d ry.val | none => st.tm).set d rx.val | none => (match y.dst with | some d => st.tm.set d ry.val | none => st.tm)) := by
    cases hxd : x.dst with
    | none => cases y.dst <;> rfl
    | some d => cases hyd : y.dst with
      | none => rfl
      | some e =>
        have hne : d ≠ e := fun q => hd e hyd (by rw [hxd, q])
        simp only [List.set_comm _ _ hne]
  have bx : upd (upd st.bx rx.wb (x.dst.getD 0) rx.pb) ry.wb (y.dst.getD 0) ry.pb = upd (upd st.bx ry.wb (y.dst.getD 0) ry.pb) rx.wb (x.dst.getD 0) rx.pb := by
    refine upd_comm hx.vb hy.vb (fun i k z i' k' z' e1 e2 e => ?_) (fun hp => ?_) (fun hp => ?_) fun hp1 hp2 e => ?_
    · obtain ⟨rfl, rfl⟩ := e
      obtain ⟨hw, ⟨p, off, h1, h2⟩, _⟩ := hy.fit.wb i k z' e2
      exact noclash_b h hA hx (wb_rb hw) h1 h2 z e1
    · obtain ⟨e, h1, h2⟩ := hx.push (.inl hp); rw [h1, hs.1]; exact h2
    · obtain ⟨e, h1, h2⟩ := hy.push (.inl hp); rw [h1, hs.1]; exact h2
    · obtain ⟨d1, h1, _⟩ := hx.push (.inl hp1)
      obtain ⟨d2, h2, _⟩ := hy.push (.inl hp2)
      rw [h1, h2] at e
      exact hd d2 h2 (by rw [h1]; exact congrArg some e)
  have tk : upd (upd st.tk rx.wt (x.dst.getD 0) rx.pt) ry.wt (y.dst.getD 0) ry.pt = upd (upd st.tk ry.wt (y.dst.getD 0) ry.pt) rx.wt (x.dst.getD 0) rx.pt := by
    refine upd_comm hx.vt hy.vt (fun i k z i' k' z' e1 e2 e => ?_) (fun hp => ?_) (fun hp => ?_) fun hp1 hp2 e => ?_
    · exact noclash_t h hx (.inr (hy.fit.wt i' k' z' e2).1) z e1
    · obtain ⟨e, h1, h2⟩ := hx.push (.inr hp); rw [h1, hs.2]; exact h2
    · obtain ⟨e, h1, h2⟩ := hy.push (.inr hp); rw [h1, hs.2]; exact h2
    · obtain ⟨d1, h1, _⟩ := hx.push (.inr hp1)
      obtain ⟨d2, h2, _⟩ := hy.push (.inr hp2)
      rw [h1, h2] at e
      exact hd d2 h2 (by rw [h1]; exact congrArg some e)
  unfold applyR
  simp only [St.mk.injEq]
  exact ⟨tm, bx, tk⟩

theorem diamond {x y : SOper} (h : freeS A x y = true) (hs : Sz st) (hA : AInv A st) (hx : stepC C x st = some s1) (hy : stepC C y st = some s2) : ∃ s3, stepC C x s2 = some s3 ∧ stepC C y s1 = some s3 := by
  obtain ⟨rx, rfl, gx⟩ := step_good hx
  obtain ⟨ry, rfl, gy⟩ := step_good hy
  obtain ⟨ry', e1, h1, gy'⟩ := moved h hs hA gx hy
  obtain ⟨rx', e2, h2, gx'⟩ := moved (freeS_symm h) hs hA gy hx
  refine ⟨_, h2, ?_⟩
  rw [h1, e1, ← applyR_comm h hs hA gx' gy', ← e2]

/-- What an operation's slots speak of is there. -/
def Scoped (o : SOper) (st : St) : Prop := ∀ s ∈ slotsOf o.op, (∀ i k off, st.tm.getD s .no = .box i k off → ∃ cs, tat st.bx i k = some cs) ∧ ∀ d k, RefT (st.tm.getD s .no) d k → ∃ t, tat st.tk d k = some t

theorem ptr_slot {op : SOp} {p : Nat} (h : ptrOf op = some p) : p ∈ slotsOf op := by
  unfold ptrOf at h
  split at h
  all_goals first
    | (simp only [Option.some.injEq] at h; subst h; simp [slotsOf, sxT])
    | (cases h)

theorem scoped_step {x y : SOper} (h : freeS A x y = true) (hsc : Scoped y st) (hx : stepC C x st = some s1) : Scoped y s1 := by
  obtain ⟨rx, rfl, gx⟩ := step_good hx
  intro s hs
  have e : (applyR x.dst st rx).tm.getD s .no = st.tm.getD s .no := getD_put _ _ _ _ ((apart_spec h).1 s (by simp [looks, hs]))
  rw [e]
  refine ⟨fun i k off hv => ?_, fun d k hv => ?_⟩
  · obtain ⟨cs, hc⟩ := (hsc s hs).1 i k off hv
    exact upd_valid hc gx.vb
  · obtain ⟨t, hc⟩ := (hsc s hs).2 d k hv
    exact upd_valid hc gx.vt

theorem back {x y : SOper} (h : freeS A x y = true) (hs : Sz st) (hA : AInv A st) (hsc : Scoped y st) (hx : stepC C x st = some s1) (hy : stepC C y s1 = some s3) : ∃ s2, stepC C y st = some s2 := by
  obtain ⟨rx, rfl, gx⟩ := step_good hx
  have sl : ∀ i ∈ looks y, st.tm.getD i .no = (applyR x.dst st rx).tm.getD i .no := fun i hi => (getD_put _ _ _ _ ((apart_spec h).1 i hi)).symm
  obtain ⟨r, _, h1, _⟩ := step_mono (st := applyR x.dst st rx) (st' := st) sl (len_put _ _ _).symm (fun d hd => (lens_b h hs gx d hd).symm) (fun d hd => (lens_t h hs gx d hd).symm)
    (fun hr p hp i k off cs hv hc => by
      rw [← sl p (by simp [looks, ptr_slot hp])] at hv
      obtain ⟨cs0, h0⟩ := (hsc p (ptr_slot hp)).1 i k off hv
      have := keeps_b h hA gx hr p hp i k off cs0 hv h0
      rw [this] at hc
      rw [h0, hc])
    (fun hr s hs' d k t hv hl => by
      rw [← sl s (by simp [looks, hs'])] at hv
      obtain ⟨t0, h0⟩ := (hsc s hs').2 d k hv
      have e := keeps_t h gx hr h0
      have := (live_tat hl).1
      rw [e] at this
      simp only [Option.some.injEq] at this
      subst this
      exact live_of h0 (live_tat hl).2) hy
  exact ⟨_, h1⟩

/-- A step that is free of all before it may come first. -/
theorem bubble {y : SOper} : ∀ (xs : List SOper) (st : St) (s : St), (∀ x ∈ xs, freeS A x y = true ∧ aliasOp A x = true) → Sz st → AInv A st → Scoped y st → evOps C (xs ++ [y]) st = some s →
    ∃ s1, stepC C y st = some s1 ∧ evOps C xs s1 = some s
  | [], st, s, _, _, _, _, h => by
    simp only [List.nil_append, evOps, Option.bind_eq_some_iff] at h
    obtain ⟨s1, h1, h2⟩ := h
    exact ⟨s1, h1, h2⟩
  | x :: xs, st, s, hf, hs, hA, hsc, h => by
    rw [List.cons_append] at h
    simp only [evOps, Option.bind_eq_some_iff] at h
    obtain ⟨s1, h1, h2⟩ := h
    obtain ⟨f1, f2⟩ := hf x (by simp)
    obtain ⟨t, h3, h4⟩ := bubble xs s1 s (fun x hx => hf x (by simp [hx])) (step_sz hs h1).1 (step_alias f2 hA h1) (scoped_step f1 hsc h1) h2
    obtain ⟨s2, h5⟩ := back f1 hs hA hsc h1 h3
    obtain ⟨s3, h6, h7⟩ := diamond f1 hs hA h1 h5
    rw [h3] at h7
    simp only [Option.some.injEq] at h7
    subst h7
    exact ⟨s2, h5, by simp only [evOps, h6, Option.bind_some, h4]⟩

theorem evOps_append : ∀ (xs ys : List SOper) (st : St), evOps C (xs ++ ys) st = (evOps C xs st).bind (evOps C ys)
  | [], ys, st => rfl
  | x :: xs, ys, st => by
    simp only [List.cons_append, evOps]
    cases stepC C x st with
    | none => rfl
    | some s => exact evOps_append xs ys s

end
end Go.Proofs.YtlfojobligplkaaDoor.Mt
