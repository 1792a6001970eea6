import Derived.Test.YtgmciihlmgeecaaMtWrite
/- The operations that build values, make variables, store and append do what the evaluator says. Conditions: those that each lemma names. -/
namespace Go.Proofs.Ytgmciihlmgeecaa.Mt
open Go Go.RowKit
section
variable {P : Program} {W0 : Base} {S0 : Nat → Prop} {φ : Nat → Nat → Nat} {γ : Nat → Nat → Value} {st st' : St} {a : Act} {w w' : World}

theorem zero_info {t : TypeId} {z : List Value} (h : zeroT P t = some z) : ∃ i v, P.info? t = some i ∧ i.zero = some v ∧ v.cells.toList = z ∧ ∀ x ∈ z, x.oneCell' = true := by
  unfold zeroT at h
  cases hq : P.info? t with
  | none => rw [hq] at h; cases h
  | some i =>
    rw [hq] at h
    simp only [Option.bind_some] at h
    cases hz : i.zero with
    | none => rw [hz] at h; cases h
    | some v =>
      rw [hz] at h
      simp only [Option.bind_some] at h
      split at h
      · rename_i hall
        simp only [Option.some.injEq] at h
        subst h
        exact ⟨i, v, rfl, hz, rfl, List.all_eq_true.1 hall⟩
      · cases h

theorem run_zeroT {t : TypeId} {i : TypeInfo} {v : Value} (hi : P.info? t = some i) (hz : i.zero = some v) : (zeroValue t).run P w = .ok v w := by
  simp [zeroValue, typeInfo, hi, hz]

theorem vals_relL (E : Env) {z : List Value} (h : ∀ x ∈ z, x.oneCell' = true) : RelL w E (z.map .v) z := by
  refine ⟨by simp, fun j c u hc hu => ?_⟩
  rw [List.getElem?_map, hu] at hc
  simp only [Option.map_some, Option.some.injEq] at hc
  subst hc
  exact RelC.v (h u (List.mem_of_getElem? hu))
theorem vals_relP (F : Nat → Prop) {z : List Value} (h : ∀ x ∈ z, x.oneCell' = true) : RelP w F (z.map .v) z := by
  refine ⟨by simp, fun j c u hc hu => ?_⟩
  rw [List.getElem?_map, hu] at hc
  simp only [Option.map_some, Option.some.injEq] at hc
  subst hc
  exact RelC.v (h u (List.mem_of_getElem? hu))

theorem below_alloc (w : World) (o : Obj) : Below w.heap.size w (w.alloc o) := (Below.refl _ _).alloc (Nat.le_refl _) o

/-- A new variable, in slot d. -/
theorem newbox_sound {o : Oper} {d : Nat} (hd : o.dst = some d) (hlt : d < st.bx.length) {cs : List Cell} {v : Value} {T : TypeId} (hR : Rep W0 S0 φ γ st a w) (hr : RelL w (envOf W0 S0 φ γ st w) cs v.cells.toList)
    (hrun : (execOp a.eval o).run P w = .ok (.value (.pointer (some ⟨w.heap.size, 0, none⟩))) (w.alloc (.cells v.cells T))) : Sound1 P W0 S0 o st a w { val := .box d (tlen st.bx d) 0, pb := [cs] } := by
  obtain ⟨hm, hle⟩ := hR.mem.newBox hlt T hr (st.tm.set d (.box d (tlen st.bx d) 0))
  refine ⟨fun d' k' => if d' = d ∧ k' = tlen st.bx d then w.heap.size else φ d' k', γ, .pointer (some ⟨w.heap.size, 0, none⟩), w.alloc (.cells v.cells T), .inl hrun, ?_⟩
  rw [hd]
  refine hR.put (some d) { val := .box d (tlen st.bx d) 0, pb := [cs] } _ hm hle fun d' hd' => ?_
  simp only [Option.some.injEq] at hd'
  subst hd'
  refine ⟨⟨cs, ?_⟩, ?_⟩
  · show tat (tpush st.bx d [cs]) d (tlen st.bx d) = some cs
    rw [tat_push hlt, if_pos ⟨rfl, Nat.le_refl _⟩, Nat.sub_self]; rfl
  · show _ = Value.pointer (some ⟨(if d = d ∧ tlen st.bx d = tlen st.bx d then w.heap.size else φ d (tlen st.bx d)), 0, none⟩)
    rw [if_pos ⟨rfl, rfl⟩]

theorem alloc_sound {o : Oper} {t : TypeId} (ho : o.op = .alloc t) {z : List Value} (hz : zeroT P t = some z) {d : Nat} (hd : o.dst = some d) (hlt : d < st.bx.length) (hR : Rep W0 S0 φ γ st a w) {C : Ctx} {r : Res} (hev : evOp C d st (.alloc z) = some r) : Sound1 P W0 S0 o st a w r := by
  simp only [evOp, Option.some.injEq] at hev
  subst hev
  obtain ⟨i, v, hi, hzv, hvz, h1⟩ := zero_info hz
  refine newbox_sound hd hlt (v := v) (T := t) hR (by rw [hvz]; exact vals_relL _ h1) ?_
  unfold execOp
  rw [ho]
  simp [Instr.alloc, run_zeroT hi hzv, newVar, newRow]

theorem box_sound {o : Oper} {t : TypeId} {x : Operand} (ho : o.op = .box t x) {s : SX} (hx : ccX x = some s) {d : Nat} (hd : o.dst = some d) (hlt : d < st.bx.length) (hR : Rep W0 S0 φ γ st a w) {C : Ctx} {r : Res} (hev : evOp C d st (.box s) = some r) : Sound1 P W0 S0 o st a w r := by
  simp only [evOp, Option.map_eq_some_iff] at hev
  obtain ⟨cs, hc, rfl⟩ := hev
  refine newbox_sound hd hlt (v := a.eval x) (T := t) hR ((ccX_rel hx hR).cells hc) ?_
  unfold execOp
  rw [ho]
  simp [Instr.box, newVar, newRow]

/-! ### Building a value -/

theorem partsA_rel {fs : Array Field} (hR : Rep W0 S0 φ γ st a w) : ∀ (ps : List (Nat × Operand)) (ss : List (Nat × Nat × SX)) (cs : List (Nat × Nat × List Cell)), ccPartsA P fs ps = some ss → partsA st ss = some cs →
    cs.length = ps.length ∧ ∀ (j : Nat) (p : Nat × Nat × List Cell) (q : Nat × Operand), cs[j]? = some p → ps[j]? = some q → (∃ f, fs[q.1]? = some f ∧ p.1 = f.offset ∧ sizeT P f.type = some p.2.1) ∧ RelL w (envOf W0 S0 φ γ st w) p.2.2 (a.eval q.2).cells.toList
  | [], ss, cs, h1, h2 => by
    simp only [ccPartsA, Option.some.injEq] at h1
    subst h1
    simp only [partsA, Option.some.injEq] at h2
    subst h2
    exact ⟨rfl, fun j p q h => by simp at h⟩
  | (i, x) :: ps, ss, cs, h1, h2 => by
    simp only [ccPartsA, Option.bind_eq_some_iff, Option.map_eq_some_iff] at h1
    obtain ⟨f, hf, n, hn, s, hs, ss', hss, rfl⟩ := h1
    simp only [partsA, Option.bind_eq_some_iff, Option.map_eq_some_iff] at h2
    obtain ⟨us, hu, cs', hcs, rfl⟩ := h2
    obtain ⟨hl, hr⟩ := partsA_rel hR ps ss' cs' hss hcs
    refine ⟨by simp [hl], fun j p q h3 h4 => ?_⟩
    cases j with
    | zero => simp at h3 h4; subst h3; subst h4; exact ⟨⟨f, hf, rfl, hn⟩, (ccX_rel hs hR).cells hu⟩
    | succ j => exact hr j p q h3 h4

theorem partsR_rel {n : Nat} (hR : Rep W0 S0 φ γ st a w) : ∀ (ps : List (Nat × Operand)) (ss : List (Nat × Nat × SX)) (cs : List (Nat × Nat × List Cell)), ccPartsR n ps = some ss → partsA st ss = some cs →
    cs.length = ps.length ∧ ∀ (j : Nat) (p : Nat × Nat × List Cell) (q : Nat × Operand), cs[j]? = some p → ps[j]? = some q → (p.1 = q.1 * n ∧ p.2.1 = n) ∧ RelL w (envOf W0 S0 φ γ st w) p.2.2 (a.eval q.2).cells.toList
  | [], ss, cs, h1, h2 => by
    simp only [ccPartsR, Option.some.injEq] at h1
    subst h1
    simp only [partsA, Option.some.injEq] at h2
    subst h2
    exact ⟨rfl, fun j p q h => by simp at h⟩
  | (i, x) :: ps, ss, cs, h1, h2 => by
    simp only [ccPartsR, Option.bind_eq_some_iff, Option.map_eq_some_iff] at h1
    obtain ⟨s, hs, ss', hss, rfl⟩ := h1
    simp only [partsA, Option.bind_eq_some_iff, Option.map_eq_some_iff] at h2
    obtain ⟨us, hu, cs', hcs, rfl⟩ := h2
    obtain ⟨hl, hr⟩ := partsR_rel hR ps ss' cs' hss hcs
    refine ⟨by simp [hl], fun j p q h3 h4 => ?_⟩
    cases j with
    | zero => simp at h3 h4; subst h3; subst h4; exact ⟨⟨rfl, rfl⟩, (ccX_rel hs hR).cells hu⟩
    | succ j => exact hr j p q h3 h4

theorem partsS_rel {m : Nat} (hR : Rep W0 S0 φ γ st a w) : ∀ (ps : List (Nat × Operand)) (ss : List (Nat × SX)) (cs : List (Nat × Nat × List Cell)), ccParts ps = some ss → partsS m st ss = some cs →
    cs.length = ps.length ∧ ∀ (j : Nat) (p : Nat × Nat × List Cell) (q : Nat × Operand), cs[j]? = some p → ps[j]? = some q → (p.1 = q.1 * m ∧ p.2.1 = m) ∧ RelP w (Fx W0 S0 φ γ st w) p.2.2 (a.eval q.2).cells.toList
  | [], ss, cs, h1, h2 => by
    simp only [ccParts, Option.some.injEq] at h1
    subst h1
    simp only [partsS, Option.some.injEq] at h2
    subst h2
    exact ⟨rfl, fun j p q h => by simp at h⟩
  | (i, x) :: ps, ss, cs, h1, h2 => by
    simp only [ccParts, Option.bind_eq_some_iff, Option.map_eq_some_iff] at h1
    obtain ⟨s, hs, ss', hss, rfl⟩ := h1
    simp only [partsS, Option.bind_eq_some_iff] at h2
    obtain ⟨us, hu, h2⟩ := h2
    cases hpl : us.all plainC with
    | false => rw [hpl] at h2; cases h2
    | true =>
      rw [hpl] at h2
      simp only [cond_true, Option.map_eq_some_iff] at h2
      obtain ⟨cs', hcs, rfl⟩ := h2
      obtain ⟨hl, hr⟩ := partsS_rel hR ps ss' cs' hss hcs
      refine ⟨by simp [hl], fun j p q h3 h4 => ?_⟩
      cases j with
      | zero => simp at h3 h4; subst h3; subst h4; exact ⟨⟨rfl, rfl⟩, ((ccX_rel hs hR).cells hu).toP hpl⟩
      | succ j => exact hr j p q h3 h4

theorem run_places {fs : Array Field} (hall : ∀ f ∈ fs.toList, (sizeT P f.type).isSome = true) :
    (fs.mapM fun f => do pure (f.offset, ← sizeOf f.type) : Sem (Array (Nat × Nat))).run P w = .ok (fs.map fun f => (f.offset, (sizeT P f.type).getD 0)) w := by
  obtain ⟨l⟩ := fs
  simp only [List.mapM_toArray, List.map_toArray, Sem.run_map]
  have : ∀ l : List Field, (∀ f ∈ l, (sizeT P f.type).isSome = true) → (l.mapM fun f => do pure (f.offset, ← sizeOf f.type) : Sem (List (Nat × Nat))).run P w = .ok (l.map fun f => (f.offset, (sizeT P f.type).getD 0)) w := by
    intro l
    induction l with
    | nil => intro _; simp
    | cons f l ih =>
      intro h
      obtain ⟨n, hn⟩ := Option.isSome_iff_exists.1 (h f (by simp))
      have ih := ih fun g hg => h g (by simp [hg])
      simp only [bind_pure_comp] at ih
      simp [List.mapM_cons, run_sizeT hn, hn, ih]
  have h := this l hall
  simp only [bind_pure_comp] at h ⊢
  rw [h]
  rfl

theorem build_sound {o : Oper} {t : TypeId} {parts : Array (Nat × Operand)} (ho : o.op = .build t parts) {fs : Array Field} (hu : P.underlying t = some (.struct fs)) {z : List Value} (hz : zeroT P t = some z) {ss : List (Nat × Nat × SX)} (hp : ccPartsA P fs parts.toList = some ss)
    (hall : ∀ f ∈ fs.toList, (sizeT P f.type).isSome = true) (hR : Rep W0 S0 φ γ st a w) {C : Ctx} {d : Nat} {r : Res} (hev : evOp C d st (.build z ss) = some r) : Sound1 P W0 S0 o st a w r := by
  simp only [evOp, Option.bind_eq_some_iff, Option.map_eq_some_iff] at hev
  obtain ⟨ps, hps, cs, hcs, rfl⟩ := hev
  obtain ⟨i, v, hi, hzv, hvz, h1⟩ := zero_info hz
  obtain ⟨hl, hr⟩ := partsA_rel hR parts.toList ss ps hp hps
  obtain ⟨us, hfill, hrel⟩ := fill_rel (R := RelC1 w (envOf W0 S0 φ γ st w)) (place := fun j => (fs.map fun f => (f.offset, (sizeT P f.type).getD 0))[j]?) ps (parts.map fun p => (p.1, a.eval p.2)).toList (z.map .v) cs v.cells hcs (by rw [hvz]; exact vals_relL _ h1)
    (by simp [hl]) (fun j p q h3 h4 => by
      rw [Array.toList_map, List.getElem?_map, Option.map_eq_some_iff] at h4
      obtain ⟨q', hq', rfl⟩ := h4
      obtain ⟨⟨f, hf, hp1, hp2⟩, hrr⟩ := hr j p q' h3 hq'
      refine ⟨?_, hrr⟩
      rw [Array.getElem?_map, hf]
      simp [hp1, hp2])
  refine Sound1.pure hR (u := .agg us) ?_ ⟨us.toList, rfl, hrel⟩
  have hpl := run_places (P := P) (w := w) hall
  unfold execOp
  rw [ho]
  simp only [bind_pure_comp] at hpl
  simp [Instr.build, run_zeroT hi hzv, run_underlying hu, hpl]
  rw [show (parts.toList.map fun x => (x.1, a.eval x.2)) = (parts.map fun p => (p.1, a.eval p.2)).toList by simp]
  have hf2 := hfill
  simp only [Array.getElem?_map] at hf2
  rw [hf2]
  rfl

theorem buildR_sound {o : Oper} {t e : TypeId} {parts : Array (Nat × Operand)} (ho : o.op = .build t parts) {len : Nat} (hu : P.underlying t = some (.array len e)) {z : List Value} (hz : zeroT P t = some z) {n : Nat} (hn : sizeT P e = some n) {ss : List (Nat × Nat × SX)} (hp : ccPartsR n parts.toList = some ss)
    (hR : Rep W0 S0 φ γ st a w) {C : Ctx} {d : Nat} {r : Res} (hev : evOp C d st (.build z ss) = some r) : Sound1 P W0 S0 o st a w r := by
  simp only [evOp, Option.bind_eq_some_iff, Option.map_eq_some_iff] at hev
  obtain ⟨ps, hps, cs, hcs, rfl⟩ := hev
  obtain ⟨i, v, hi, hzv, hvz, h1⟩ := zero_info hz
  obtain ⟨hl, hr⟩ := partsR_rel hR parts.toList ss ps hp hps
  obtain ⟨us, hfill, hrel⟩ := fill_rel (R := RelC1 w (envOf W0 S0 φ γ st w)) (place := fun j => some (j * n, n)) ps (parts.map fun p => (p.1, a.eval p.2)).toList (z.map .v) cs v.cells hcs (by rw [hvz]; exact vals_relL _ h1)
    (by simp [hl]) (fun j p q h3 h4 => by
      rw [Array.toList_map, List.getElem?_map, Option.map_eq_some_iff] at h4
      obtain ⟨q', hq', rfl⟩ := h4
      obtain ⟨⟨hp1, hp2⟩, hrr⟩ := hr j p q' h3 hq'
      exact ⟨by simp [hp1, hp2], hrr⟩)
  refine Sound1.pure hR (u := .agg us) ?_ ⟨us.toList, rfl, hrel⟩
  unfold execOp
  rw [ho]
  simp [Instr.build, run_zeroT hi hzv, run_underlying hu, run_sizeT hn]
  rw [show (parts.toList.map fun x => (x.1, a.eval x.2)) = (parts.map fun p => (p.1, a.eval p.2)).toList by simp]
  rw [hfill]
  rfl

end
end Go.Proofs.Ytgmciihlmgeecaa.Mt
