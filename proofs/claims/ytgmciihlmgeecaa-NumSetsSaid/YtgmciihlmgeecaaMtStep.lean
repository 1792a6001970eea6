import Derived.Test.YtgmciihlmgeecaaMtCall2
/- Each operation does what the evaluator says. Conditions: those that each lemma names. -/
namespace Go.Proofs.Ytgmciihlmgeecaa.Mt
open Go Go.RowKit
section
variable {P : Program} {W0 : Base} {S0 : Nat → Prop} {φ : Nat → Nat → Nat} {γ : Nat → Nat → Value} {st st' : St} {a : Act} {w w' : World}

theorem flat_relL {E E' : Env} {cs : List Cell} {us : List Value} (h : RelL w E cs us) (hf : cs.all flatC = true) : RelL w' E' cs us :=
  ⟨h.1, fun j c u hc hu => (h.2 j c u hc hu).flat (List.all_eq_true.1 hf c (List.mem_of_getElem? hc))⟩

/-- A call that is handed a variable's address. -/
theorem pcall_wp {C : Ctx} (hC : CtxOk P C) {o : Oper} {g : Nat} {p : Operand} {xs : List Operand} {args : Array Operand} (hargs : args.toList = p :: xs) {ts : Array TypeId} (ho : o.op = .call { callee := .value (.func g), args := args, argTypes := ts })
    {sp : SX} {ss : List SX} (hp : ccX p = some sp) (hx : ccXs xs = some ss) (hR : Rep W0 S0 φ γ st a w) {d : Nat} {r : Res} (hev : evOp C d st (.pcall g sp ss) = some r) : SoundW P W0 S0 o st a w r := by
  intro K Q hK
  have hP := ccX_rel hp hR
  simp only [evOp] at hev
  split at hev
  · rename_i i k e1
    simp only [Option.bind_eq_some_iff] at hev
    obtain ⟨cs, hcs, vs, hvs, cs', hcs', hev⟩ := hev
    split at hev
    · rename_i hcond
      obtain ⟨hlen, hflat, hflat'⟩ := hcond
      simp only [Option.some.injEq] at hev
      subst hev
      rw [e1] at hP
      have hpv : a.eval p = .pointer (some ⟨φ i k, 0, none⟩) := hP.2
      obtain ⟨hgok, hsound⟩ := hC.pcall g cs vs cs' hcs'
      have hA := argsOf_rel (ow := false) hR hx hvs
      obtain ⟨hb, us, T, hg, hr⟩ := hR.mem.bxs i k cs hcs
      have hrun : (execOp a.eval o).run P w = .ok (.enter g (args.map a.eval)) w := by
        unfold execOp
        rw [ho]
        have : a.eval (.func g) = .func (.func g) #[] #[] := rfl
        simp [resolve, this, Deferred.ofValue, invoke, run_callFunc hgok]
      unfold Oper.wp
      rw [hrun]
      show Calls P g _ w _
      have hcalls := hsound hflat w _ (φ i k) T us.toList (xs.map a.eval) (by simpa using hg) (flat_relL hr hflat) (fun k' hk' e => by subst e; exact (hk'.2.2.1 i k cs hcs) rfl) hA
      have e2 : (#[.pointer (some ⟨φ i k, 0, none⟩)] ++ (xs.map a.eval).toArray) = args.map a.eval := by
        apply Array.toList_inj.1
        rw [Array.toList_map, hargs]
        simp [hpv]
      rw [e2] at hcalls
      refine hcalls.mono ?_
      rintro e w' ⟨⟨u, rfl⟩, h1, h2, h3, h4, h5, ws', T', h6, h7⟩
      show K (a.put o.dst u) w'
      have hfl : RelL w (envOf W0 S0 φ γ st w) cs' ws' := flat_relL (RelP.toL (E := { (envOf W0 S0 φ γ st w) with F := fun _ => False }) h7) hflat'
      obtain ⟨hm2, hle2⟩ := hR.mem.writeAny hcs hfl (match o.dst with | some d => st.tm.set d .no | none => st.tm) h6 h1 h2 h3 h4 h5
      exact hK φ γ u w' (hR.put o.dst { val := .no, wb := some (i, k, cs') } u hm2 hle2 fun _ _ => trivial)
    · cases hev
  · cases hev

theorem fnOf_spec {v : CV} {g : Nat} (h : fnOf v = some g) : v = .one (.v (.func (.func g) #[] #[])) := by
  unfold fnOf at h
  split at h
  · rename_i g' fs cs
    split at h
    · rename_i hc
      simp only [Option.some.injEq] at h
      subst h
      rw [Array.eq_empty_of_size_eq_zero hc.1, Array.eq_empty_of_size_eq_zero hc.2]
    · cases h
  · cases h

/-- Tables of the same length. -/
def Sz (st : St) : Prop := st.bx.length = st.tm.length ∧ st.tk.length = st.tm.length

theorem op_wp {C : Ctx} (hC : CtxOk P C) {H : Hints} {el : List Tmp} {o : Oper} {so : SOp} (hcc : ccOp P H el o = some so) (hR : Rep W0 S0 φ γ st a w) (hmk : makes so = true → ∃ d, o.dst = some d ∧ d < st.tm.length) (hsz : Sz st) {r : Res}
    (hev : evOp C (o.dst.getD 0) st so = some r) : SoundW P W0 S0 o st a w r := by
  obtain ⟨hsb, hst⟩ := hsz
  have dst : makes so = true → ∃ d, o.dst = some d ∧ d < st.bx.length ∧ d < st.tk.length ∧ o.dst.getD 0 = d := fun hm => by
    obtain ⟨d, h1, h2⟩ := hmk hm
    exact ⟨d, h1, by rw [hsb]; exact h2, by rw [hst]; exact h2, by rw [h1]; rfl⟩
  cases hop : o.op with
  | move x =>
    simp only [ccOp, hop, Option.map_eq_some_iff] at hcc
    obtain ⟨s, hs, rfl⟩ := hcc
    exact (mv_sound (.inl hop) hs hR hev).wp
  | assign x =>
    simp only [ccOp, hop, Option.map_eq_some_iff] at hcc
    obtain ⟨s, hs, rfl⟩ := hcc
    exact (mv_sound (.inr hop) hs hR hev).wp
  | pick c x y =>
    simp only [ccOp, hop, Option.map_eq_some_iff, Option.bind_eq_some_iff] at hcc
    obtain ⟨sc, hc, sx, hx, sy, hy, rfl⟩ := hcc
    exact (pick_sound hop hc hx hy hR hev).wp
  | alloc t =>
    simp only [ccOp, hop, Option.map_eq_some_iff] at hcc
    obtain ⟨z, hz, rfl⟩ := hcc
    obtain ⟨d, h1, h2, _, h3⟩ := dst rfl
    rw [h3] at hev
    exact (alloc_sound hop hz h1 h2 hR hev).wp
  | box t x =>
    simp only [ccOp, hop, Option.map_eq_some_iff] at hcc
    obtain ⟨s, hs, rfl⟩ := hcc
    obtain ⟨d, h1, h2, _, h3⟩ := dst rfl
    rw [h3] at hev
    exact (box_sound hop hs h1 h2 hR hev).wp
  | load t p => exact (load_sound hop hcc hR hev).wp
  | store t p x => exact (store_sound hop hcc hR hev).wp
  | fieldAddr t x f =>
    simp only [ccOp, hop] at hcc
    split at hcc
    · rename_i fs hu
      simp only [Option.bind_eq_some_iff] at hcc
      obtain ⟨g, hg, n, hn, hcc⟩ := hcc
      split at hcc
      · cases hcc
      · rename_i hn0
        simp only [Option.map_eq_some_iff] at hcc
        obtain ⟨s, hs, rfl⟩ := hcc
        exact (fld_sound hop hu hg hn hn0 hs hR hev).wp
    · cases hcc
  | indexAddr t x i =>
    simp only [ccOp, hop] at hcc
    split at hcc
    · rename_i n e hu
      simp only [Option.bind_eq_some_iff] at hcc
      obtain ⟨m, hm, hcc⟩ := hcc
      split at hcc
      · cases hcc
      · simp only [Option.map_eq_some_iff, Option.bind_eq_some_iff] at hcc
        obtain ⟨sx, hx, si, hi, rfl⟩ := hcc
        exact (ixA_sound hop hu hm hx hi hR hev).wp
    · rename_i e hu
      simp only [Option.bind_eq_some_iff] at hcc
      obtain ⟨m, hm, hcc⟩ := hcc
      split at hcc
      · cases hcc
      · simp only [Option.map_eq_some_iff, Option.bind_eq_some_iff] at hcc
        obtain ⟨sx, hx, si, hi, rfl⟩ := hcc
        exact (ixS_sound hop hu hm hx hi hR hev).wp
    · cases hcc
  | index t x i =>
    simp only [ccOp, hop] at hcc
    split at hcc
    · rename_i n e hu
      simp only [Option.bind_eq_some_iff] at hcc
      obtain ⟨⟨ag, m⟩, hm, hcc⟩ := hcc
      split at hcc
      · simp only [Option.map_eq_some_iff, Option.bind_eq_some_iff] at hcc
        obtain ⟨sx, hx, si, hi, rfl⟩ := hcc
        exact (ixV_sound hop hu hm hx hi hR hev).wp
      · cases hcc
    · cases hcc
  | field t x f =>
    simp only [ccOp, hop] at hcc
    split at hcc
    · rename_i fs hu
      simp only [Option.bind_eq_some_iff, Option.map_eq_some_iff] at hcc
      obtain ⟨g, hg, ⟨ag, n⟩, hn, s, hs, rfl⟩ := hcc
      exact (fldV_sound hop hu hg hn hs hR hev).wp
    · cases hcc
  | build t parts =>
    simp only [ccOp, hop] at hcc
    split at hcc
    · rename_i fs hu
      simp only [Option.bind_eq_some_iff] at hcc
      obtain ⟨z, hz, ps, hps, hcc⟩ := hcc
      split at hcc
      · rename_i hall
        simp only [Option.some.injEq] at hcc
        subst hcc
        exact (build_sound hop hu hz hps (fun f hf => List.all_eq_true.1 hall f hf) hR hev).wp
      · cases hcc
    · rename_i n e hu
      simp only [Option.bind_eq_some_iff, Option.map_eq_some_iff] at hcc
      obtain ⟨z, hz, m, hm, ps, hps, rfl⟩ := hcc
      exact (buildR_sound hop hu hz hm hps hR hev).wp
    · cases hcc
  | buildSlice t n parts =>
    simp only [ccOp, hop] at hcc
    split at hcc
    · rename_i e hu
      simp only [Option.bind_eq_some_iff] at hcc
      obtain ⟨m, hm, z, hz, ps, hps, hcc⟩ := hcc
      split at hcc
      · rename_i hc
        simp only [Option.some.injEq] at hcc
        subst hcc
        obtain ⟨d, h1, _, h2, h3⟩ := dst rfl
        rw [h3] at hev
        exact (buildS_sound hop hu hm hz hps hc.1 hc.2.1 hc.2.2 h1 h2 hR hev).wp
      · cases hcc
    · cases hcc
  | binOp b t x y t' =>
    simp only [ccOp, hop, Option.bind_eq_some_iff] at hcc
    obtain ⟨sx, hx, sy, hy, hcc⟩ := hcc
    split at hcc
    · split at hcc
      · simp only [Option.some.injEq] at hcc
        subst hcc
        exact (bin_sound hop hx hy hR hev).wp
      · cases hcc
    · rename_i hu
      split at hcc
      · simp only [Option.some.injEq] at hcc
        subst hcc
        exact (binB_sound (ne := false) hop hu hx hy hR hev).wp
      · simp only [Option.some.injEq] at hcc
        subst hcc
        exact (binB_sound (ne := true) hop hu hx hy hR hev).wp
      · cases hcc
    · rename_i fs hu
      simp only [Option.bind_eq_some_iff] at hcc
      obtain ⟨ks, hks, hcc⟩ := hcc
      split at hcc
      · rename_i hg
        have ha : aggT P t = true := by simp [aggT, hu]
        split at hcc
        · simp only [Option.some.injEq] at hcc
          subst hcc
          exact (eqA_sound (ne := false) hop hks ha hg hx hy hR hev).wp
        · simp only [Option.some.injEq] at hcc
          subst hcc
          exact (eqA_sound (ne := true) hop hks ha hg hx hy hR hev).wp
        · cases hcc
      · cases hcc
    · rename_i n e hu
      simp only [Option.bind_eq_some_iff] at hcc
      obtain ⟨ks, hks, hcc⟩ := hcc
      split at hcc
      · rename_i hg
        have ha : aggT P t = true := by simp [aggT, hu]
        split at hcc
        · simp only [Option.some.injEq] at hcc
          subst hcc
          exact (eqA_sound (ne := false) hop hks ha hg hx hy hR hev).wp
        · simp only [Option.some.injEq] at hcc
          subst hcc
          exact (eqA_sound (ne := true) hop hks ha hg hx hy hR hev).wp
        · cases hcc
      · cases hcc
    · cases hcc
  | unOp u t x =>
    simp only [ccOp, hop, Option.map_eq_some_iff] at hcc
    obtain ⟨s, hs, rfl⟩ := hcc
    exact (un_sound hop hs hR hev).wp
  | convert s t x =>
    simp only [ccOp, hop] at hcc
    split at hcc
    · rename_i k k' h1 h2
      simp only [Option.map_eq_some_iff] at hcc
      obtain ⟨sx, hx, rfl⟩ := hcc
      exact (conv_sound hop h1 h2 hx hR hev).wp
    · cases hcc
  | extract x i =>
    simp only [ccOp, hop, Option.map_eq_some_iff] at hcc
    obtain ⟨s, hs, rfl⟩ := hcc
    exact (ext_sound hop hs hR hev).wp
  | slice t x lo hi mx =>
    cases mx with
    | some m => simp [ccOp, hop] at hcc
    | none =>
      simp only [ccOp, hop] at hcc
      split at hcc
      · rename_i e hu
        simp only [Option.bind_eq_some_iff, Option.map_eq_some_iff] at hcc
        obtain ⟨m, hm, sx, hx, sl, hl, sh, hh, rfl⟩ := hcc
        cases hb : isSp H sx with
        | false =>
          rw [hb] at hev
          exact (slc_sound hop hu hm hx hl hh hR hev).wp
        | true =>
          rw [hb] at hev
          exact (slc_sound hop hu hm hx hl hh hR (slp_slc hev)).wp
      · cases hcc
  | nilCheck x =>
    simp only [ccOp, hop, Option.map_eq_some_iff] at hcc
    obtain ⟨s, hs, rfl⟩ := hcc
    exact (nilc_sound hop hs hR hev).wp
  | call c =>
    obtain ⟨callee, args, ats⟩ := c
    simp only [ccOp, hop, ccCall] at hcc
    split at hcc
    · split at hcc
      · rename_i x t h1 h2
        split at hcc
        · rename_i e hu
          simp only [Option.map_eq_some_iff] at hcc
          obtain ⟨s, hs, rfl⟩ := hcc
          have e1 : args = #[x] := by apply Array.toList_inj.1; rw [h1]
          have e2 : ats = #[t] := by apply Array.toList_inj.1; rw [h2]
          subst e1; subst e2
          exact (len_sound hop hu hs hR hev).wp
        · cases hcc
      · rename_i x xs _ h1
        simp only [Option.map_eq_some_iff] at hcc
        obtain ⟨s, hs, rfl⟩ := hcc
        exact (mm_sound (mx := false) hop (by rw [h1]; exact hs) hR hev).wp
      · rename_i x xs _ h1
        simp only [Option.map_eq_some_iff] at hcc
        obtain ⟨s, hs, rfl⟩ := hcc
        exact (mm_sound (mx := true) hop (by rw [h1]; exact hs) hR hev).wp
      · rename_i s x t t' h1 h2
        split at hcc
        · rename_i htt
          subst htt
          split at hcc
          · rename_i e hu
            simp only [Option.bind_eq_some_iff] at hcc
            obtain ⟨i, hi, z, hz, ss, hs, sx, hx, hcc⟩ := hcc
            split at hcc
            · rename_i hc
              simp only [Option.some.injEq] at hcc
              subst hcc
              have e1 : args = #[s, x] := by apply Array.toList_inj.1; rw [h1]
              have e2 : ats = #[t, t] := by apply Array.toList_inj.1; rw [h2]
              subst e1; subst e2
              obtain ⟨d, h3, _, h4, h5⟩ := dst rfl
              rw [h5] at hev
              exact (app_sound hop hu hi hz hc.1 hc.2.1 hc.2.2 hs hx h3 h4 hR hev).wp
            · cases hcc
          · cases hcc
        · cases hcc
      · cases hcc
    · rename_i f
      split at hcc
      · split at hcc
        · rename_i p xs h1
          simp only [Option.bind_eq_some_iff, Option.map_eq_some_iff] at hcc
          obtain ⟨sp, hp, ss, hss, rfl⟩ := hcc
          exact pcall_wp hC h1 hop hp hss hR hev
        · cases hcc
      · simp only [Option.map_eq_some_iff] at hcc
        obtain ⟨ss, hss, rfl⟩ := hcc
        simp only [evOp, Option.bind_eq_some_iff] at hev
        obtain ⟨g, e1, hev⟩ := hev
        have hg : f = g := by simpa [getX, fnOf] using e1
        subst hg
        refine call_wp hC hop rfl hss (d := o.dst.getD 0) (fun hpt => ?_) hR hev
        obtain ⟨d, h1, _, h2, h3⟩ := dst (by rw [hpt]; rfl)
        rw [h3]; exact ⟨h1, h2⟩
    · rename_i t
      simp only [Option.map_eq_some_iff] at hcc
      obtain ⟨ss, hss, rfl⟩ := hcc
      simp only [evOp, Option.bind_eq_some_iff] at hev
      obtain ⟨g, e1, hev⟩ := hev
      have hf : a.eval (.tmp t) = .func (.func g) #[] #[] := by
        have h := ccX_rel (x := .tmp t) rfl hR
        rw [fnOf_spec e1] at h
        exact rel_v h
      exact call_wp hC hop hf hss (d := o.dst.getD 0) (fun hpt => by cases hpt) hR hev
    · cases hcc
  | _ => simp [ccOp, hop] at hcc

/-! ### One operation of a region -/

theorem Rep.skip (h : Rep W0 S0 φ γ st a w) (dst : Option Nat) : Rep W0 S0 φ γ (skipR dst st) (a.put dst undef) w := by
  cases dst with
  | none => exact h
  | some d => exact h.pure (some d) (v := .un) rfl

theorem wanted_rel {ops : Array Oper} {o : Oper} {g : Option (Nat × Bool)} (hg : ccGuard ops o.guard = some g) (hR : Rep W0 S0 φ γ st a w) {q : Bool} (hq : wantedC st g = some q) : Region.wanted o (yielded ops a.tmps) = q := by
  unfold Region.wanted
  cases hgd : o.guard with
  | none =>
    rw [hgd] at hg
    simp only [ccGuard, Option.some.injEq] at hg
    subst hg
    simp only [wantedC, Option.some.injEq] at hq
    subst hq
    rfl
  | some jb =>
    obtain ⟨j, b⟩ := jb
    rw [hgd] at hg
    simp only [ccGuard, Option.map_eq_some_iff] at hg
    obtain ⟨d, hd, rfl⟩ := hg
    simp only [wantedC] at hq
    have hT := hR.getT d
    simp only [yielded, hd, Option.bind_some]
    split at hq
    · rename_i b' e
      rw [e] at hT
      have hv := rel_v hT
      simp only [Option.some.injEq] at hq
      subst hq
      by_cases hlt : d < a.tmps.size
      · rw [Array.getElem?_eq_getElem hlt]
        rw [Array.getD_eq_getD_getElem?, Array.getElem?_eq_getElem hlt, Option.getD_some] at hv
        rw [hv]
        cases b' <;> cases b <;> rfl
      · rw [Array.getD_eq_getD_getElem?, Array.getElem?_eq_none (by omega)] at hv
        cases hv
    · rename_i e
      rw [e] at hT
      have hv : a.tmps.getD d undef = undef := hT
      simp only [Option.some.injEq] at hq
      subst hq
      by_cases hlt : d < a.tmps.size
      · rw [Array.getElem?_eq_getElem hlt]
        rw [Array.getD_eq_getD_getElem?, Array.getElem?_eq_getElem hlt, Option.getD_some] at hv
        rw [hv]
        rfl
      · rw [Array.getElem?_eq_none (by omega)]
        rfl
    · cases hq

theorem step_wp {C : Ctx} (hC : CtxOk P C) {H : Hints} {el : List Tmp} {ops : Array Oper} {i : Nat} {o : Oper} (hi : ops[i]? = some o) {so : SOp} (hcc : ccOp P H el o = some so) {g : Option (Nat × Bool)} (hg : ccGuard ops o.guard = some g)
    (hR : Rep W0 S0 φ γ st a w) (hsz : Sz st) (hev : stepC C ⟨o.dst, so, g⟩ st = some st') {K : Act → World → Prop} {Q : Exit → Act → World → Prop} (hK : ∀ φ' γ' u w', Rep W0 S0 φ' γ' st' (a.put o.dst u) w' → K (a.put o.dst u) w') : wpOp P ops Q i K a w := by
  unfold wpOp
  rw [hi]
  simp only [stepC] at hev
  split at hev
  · rename_i hq
    have hw := wanted_rel hg hR hq
    simp only [hw, if_true]
    split at hev
    · cases hev
    · rename_i hmk
      simp only [Option.map_eq_some_iff] at hev
      obtain ⟨r, hr, rfl⟩ := hev
      refine .inl (op_wp hC hcc hR (fun hm => ?_) hsz hr K Q fun φ' γ' u w' h => hK φ' γ' _ w' h)
      cases hd : o.dst with
      | none => exact absurd ⟨hm, by simp [hd]⟩ hmk
      | some d => exact ⟨d, rfl, Nat.lt_of_not_le fun hle => hmk ⟨hm, by simpa [hd] using hle⟩⟩
  · rename_i hq
    have hw := wanted_rel hg hR hq
    simp only [hw]
    simp only [Option.some.injEq] at hev
    subst hev
    exact hK φ γ _ w (hR.skip o.dst)
  · cases hev

end
end Go.Proofs.Ytgmciihlmgeecaa.Mt
