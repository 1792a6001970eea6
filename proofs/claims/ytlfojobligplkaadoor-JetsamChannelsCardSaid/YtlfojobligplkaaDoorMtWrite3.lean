import Derived.Test.YtlfojobligplkaaDoorMtRead2
/- The operations that make or write memory (but calls) do what the evaluator says. Conditions: those that each lemma names. -/
namespace Go.Proofs.YtlfojobligplkaaDoor.Mt
open Go Go.RowKit
section
variable {P : Program} {W0 : Base} {S0 : Nat → Prop} {φ : Nat → Nat → Nat} {γ : Nat → Nat → Value} {st st' : St} {a : Act} {w w' : World}

/-! ### A row that grows -/

theorem Mem.appendTok (h : Mem W0 S0 φ γ st w) {i k : Nat} {t t' : Tok} (ht : tat st.tk i k = some t) (htl : t.live = true) (hdead : t'.live = false) {d : Nat} (hd : d < st.tk.length) {v' : Value}
    (hg : w.grownBy w' (γ i k).ownBlock) (nt : Tok) {xs' : List Value} (hown : w'.ownsRow W0.w.heap.size nt.e nt.sz v' nt.n xs')
    (hblk : v'.ownBlock = (γ i k).ownBlock ∨ ∃ b, v'.ownBlock = some b ∧ w.heap.size ≤ b) (hr : RelP w (Fx W0 S0 φ γ st w) nt.cs xs') (tm : List CV) :
    let st' : St := { tm := tm, bx := st.bx, tk := tpush (tset st.tk i k t') d [nt] }
    let γ' := fun d' k' => if d' = d ∧ k' = tlen st.tk d then v' else γ d' k'
    Mem W0 S0 φ γ' st' w' ∧ Le w (envOf W0 S0 φ γ st w) w' (envOf W0 S0 φ γ' st' w') := by
  intro st' γ'
  have hsz : W0.w.heap.size ≤ w.heap.size := h.bel.size
  have hbk : ∀ b, (γ i k).ownBlock = some b → W0.w.heap.size ≤ b ∧ b < w.heap.size := fun b hb => h.tlt ht htl hb
  have hold : ∀ d' k' u, tat st.tk d' k' = some u → γ' d' k' = γ d' k' := by
    intro d' k' u hc
    have hlt := (tat_lt hc).2
    refine if_neg ?_
    rintro ⟨rfl, rfl⟩; omega
  have hcase : ∀ d' k' u, tat st'.tk d' k' = some u → u.live = true → (tat st.tk d' k' = some u ∧ γ' d' k' = γ d' k' ∧ ¬ (d' = i ∧ k' = k)) ∨ (d' = d ∧ k' = tlen st.tk d ∧ u = nt ∧ γ' d' k' = v') := by
    intro d' k' u hc hul
    have hd' : d < (tset st.tk i k t').length := by rw [tset_length]; exact hd
    rw [show st'.tk = tpush (tset st.tk i k t') d [nt] from rfl, tat_push hd', tlen_set] at hc
    split at hc
    · rename_i he
      have hk : k' - tlen st.tk d = 0 := by
        apply Classical.byContradiction
        intro hn
        rw [List.getElem?_eq_none (by simp; omega)] at hc
        simp at hc
      rw [hk] at hc
      simp at hc
      have hk2 : k' = tlen st.tk d := by omega
      exact .inr ⟨he.1, hk2, hc.symm, if_pos ⟨he.1, hk2⟩⟩
    · rw [tat_set ht] at hc
      split at hc
      · simp at hc; subst hc; rw [hdead] at hul; cases hul
      · rename_i he2; exact .inl ⟨hc, hold _ _ _ hc, he2⟩
  have hvne : ∀ b, b < w.heap.size → (γ i k).ownBlock ≠ some b → v'.ownBlock ≠ some b := by
    intro b hb hne e
    rcases hblk with h1 | ⟨b', h1, h2⟩
    · exact hne (by rw [← h1]; exact e)
    · rw [h1] at e; simp at e; omega
  have hsame : ∀ b, b < w.heap.size → (γ i k).ownBlock ≠ some b → w'.heap[b]? = w.heap[b]? := fun b hb hne => hg.block b hb (fun e => hne e.symm)
  have hle : Le w (envOf W0 S0 φ γ st w) w' (envOf W0 S0 φ γ' st' w') := by
    refine ⟨fun b hF => ⟨⟨Nat.lt_of_lt_of_le hF.1 hg.size, hF.2.1, hF.2.2.1, fun d' k' u hu hul => ?_⟩, hsame b hF.1 (hF.2.2.2 i k t ht htl)⟩, fun d' k' hB => ⟨hB, rfl⟩, fun d' k' hT => ?_⟩
    · rcases hcase d' k' u hu hul with ⟨a1, a2, _⟩ | ⟨_, _, _, a4⟩
      · rw [a2]; exact hF.2.2.2 d' k' u a1 hul
      · rw [a4]; exact hvne b hF.1 (hF.2.2.2 i k t ht htl)
    · obtain ⟨u, hu⟩ := hT
      refine ⟨?_, hold _ _ _ hu⟩
      have : ∃ u', tat (tset st.tk i k t') d' k' = some u' := by
        rw [tat_set ht]
        split
        · exact ⟨_, rfl⟩
        · exact ⟨_, hu⟩
      obtain ⟨u', hu'⟩ := this
      exact ⟨u', tat_push_old _ _ hu'⟩
  refine ⟨⟨h.bel.trans hg.os hg.tape hg.output hg.size (fun b hb _ => hsame b (by omega) (fun e => by have := hbk b e; omega)), fun d' k' cs hc => ?_, h.bxi, fun d' k' u hu hul => ?_, fun d1 k1 t1 d2 k2 t2 b h1 l1 h2 l2 e1 e2 => ?_, fun d1 k1 u d2 k2 cs2 h1 hul h2 e => ?_⟩, hle⟩
  · obtain ⟨g1, us', T', hg', hr'⟩ := h.bxs d' k' cs hc
    exact ⟨g1, us', T', by rw [hsame _ (Array.getElem?_eq_some_iff.1 hg').1 (h.tkb _ _ _ _ _ _ ht htl hc)]; exact hg', hr'.mono hle⟩
  · rcases hcase d' k' u hu hul with ⟨a1, a2, a3⟩ | ⟨_, _, rfl, a4⟩
    · obtain ⟨xs, ho, hr'⟩ := h.tks d' k' u a1 hul
      rw [a2]
      refine ⟨xs, ho.kept hg ?_, hr'.mono hle.f⟩
      cases hq : (γ d' k').ownBlock with
      | none => exact .inl rfl
      | some b => exact .inr fun e => a3 (h.tki _ _ _ _ _ _ b a1 hul ht htl hq e.symm)
    · rw [a4]; exact ⟨xs', hown, hr.mono hle.f⟩
  · have two : ∀ d1 k1 t1 b, tat st.tk d1 k1 = some t1 → t1.live = true → ¬ (d1 = i ∧ k1 = k) → (γ d1 k1).ownBlock = some b → v'.ownBlock = some b → False := by
      intro d1 k1 t1 b a1 l1 a3 e1 e2
      rcases hblk with hb1 | ⟨b', hb1, hb2⟩
      · exact a3 (h.tki _ _ _ _ _ _ b a1 l1 ht htl e1 (by rw [← hb1]; exact e2))
      · rw [hb1] at e2; simp at e2; subst e2; have := (h.tlt a1 l1 e1).2; omega
    rcases hcase d1 k1 t1 h1 l1 with ⟨a1, a2, a3⟩ | ⟨rfl, rfl, rfl, a4⟩ <;> rcases hcase d2 k2 t2 h2 l2 with ⟨b1, b2, b3⟩ | ⟨rfl, rfl, rfl, b4⟩
    · rw [a2] at e1; rw [b2] at e2; exact h.tki _ _ _ _ _ _ _ a1 l1 b1 l2 e1 e2
    · rw [a2] at e1; rw [b4] at e2; exact (two _ _ _ _ a1 l1 a3 e1 e2).elim
    · rw [a4] at e1; rw [b2] at e2; exact (two _ _ _ _ b1 l2 b3 e2 e1).elim
    · exact ⟨rfl, rfl⟩
  · rcases hcase d1 k1 u h1 hul with ⟨a1, a2, a3⟩ | ⟨_, _, rfl, a4⟩
    · rw [a2] at e; exact h.tkb _ _ _ _ _ _ a1 hul h2 e
    · rw [a4] at e
      rcases hblk with hb1 | ⟨b', hb1, hb2⟩
      · exact h.tkb _ _ _ _ _ _ ht htl h2 (by rw [← hb1]; exact e)
      · rw [hb1] at e; simp at e; subst e; have := h.blt h2; omega

/-! ### Filling -/

def RelG (R : Cell → Value → Prop) (cs : List Cell) (us : List Value) : Prop :=
  cs.length = us.length ∧ ∀ (j : Nat) (c : Cell) (u : Value), cs[j]? = some c → us[j]? = some u → R c u

theorem foldl_set_get : ∀ (us : List Value) (k off : Nat) (cells : Array Value), off + k + us.length ≤ cells.size → ∀ j,
    ((us.zipIdx k).foldl (fun (cs : Array Value) (p : Value × Nat) => cs.setIfInBounds (off + p.2) p.1) cells)[j]? = if off + k ≤ j ∧ j < off + k + us.length then us[j - (off + k)]? else cells[j]?
  | [], k, off, cells, _, j => by simp; omega
  | u :: us, k, off, cells, h, j => by
    simp only [List.length_cons] at h ⊢
    rw [List.zipIdx_cons, List.foldl_cons, foldl_set_get us (k + 1) off _ (by simp; omega)]
    by_cases h1 : off + (k + 1) ≤ j ∧ j < off + (k + 1) + us.length
    · rw [if_pos h1, if_pos (by omega)]
      have e : j - (off + k) = (j - (off + (k + 1))) + 1 := by omega
      rw [e, List.getElem?_cons_succ]
    · rw [if_neg h1, Array.getElem?_setIfInBounds]
      by_cases h2 : off + k = j
      · subst h2
        rw [if_pos rfl, if_pos (by omega), if_pos (by omega)]
        simp
      · rw [if_neg h2, if_neg (by omega)]

theorem foldl_set_size (off : Nat) : ∀ (us : List (Value × Nat)) (cells : Array Value), (us.foldl (fun (cs : Array Value) (p : Value × Nat) => cs.setIfInBounds (off + p.2) p.1) cells).size = cells.size
  | [], _ => rfl
  | u :: us, cells => by rw [List.foldl_cons, foldl_set_size off us]; simp

theorem fill_rel {R : Cell → Value → Prop} {place : Nat → Option (Nat × Nat)} : ∀ (ps : List (Nat × Nat × List Cell)) (vps : List (Nat × Value)) (cs cs' : List Cell) (cells : Array Value),
    fillC cs ps = some cs' → RelG R cs cells.toList → ps.length = vps.length →
    (∀ (j : Nat) (p : Nat × Nat × List Cell) (q : Nat × Value), ps[j]? = some p → vps[j]? = some q → place q.1 = some (p.1, p.2.1) ∧ RelG R p.2.2 q.2.cells.toList) →
    ∃ us, Instr.fill place cells vps = some us ∧ RelG R cs' us.toList
  | [], vps, cs, cs', cells, h, hr, hl, _ => by
    have : vps = [] := List.eq_nil_of_length_eq_zero hl.symm
    subst this
    simp only [fillC, Option.some.injEq] at h
    subst h
    exact ⟨cells, rfl, hr⟩
  | (off, size, us) :: ps, (i, v) :: vps, cs, cs', cells, h, hr, hl, hp => by
    simp only [fillC] at h
    split at h
    · rename_i hc
      obtain ⟨p1, p2⟩ := hp 0 _ _ rfl rfl
      have hvs : v.cells.size = size := by have := p2.1; simp only [Array.length_toList] at this; omega
      have hle : off + v.cells.size ≤ cells.size := by have := hr.1; simp only [Array.length_toList] at this; omega
      have key : RelG R (putC cs off us) (v.cells.zipIdx.foldl (fun cs (c, j) => cs.setIfInBounds (off + j) c) cells).toList := by
        refine ⟨?_, ?_⟩
        · rw [putC_length, hr.1, Array.length_toList, Array.length_toList, ← Array.foldl_toList, Array.toList_zipIdx]
          exact (foldl_set_size off _ cells).symm
        · intro j c u hj hu
          rw [putC_get _ _ _ (by omega)] at hj
          rw [← Array.foldl_toList, Array.toList_zipIdx, Array.getElem?_toList] at hu
          have hg := foldl_set_get v.cells.toList 0 off cells (by simpa using hle) j
          rw [show (v.cells.toList.zipIdx.foldl (fun (cs : Array Value) (x : Value × Nat) => match x with | (c, j) => cs.setIfInBounds (off + j) c) cells)[j]? = _ from hg] at hu
          simp only [Nat.add_zero, Array.length_toList] at hu
          have e : us.length = v.cells.size := by have := p2.1; simpa using this
          rw [e] at hj
          split at hj
          · rename_i hj2
            rw [if_pos hj2] at hu
            exact p2.2 _ _ _ hj hu
          · rename_i hj2
            rw [if_neg hj2] at hu
            exact hr.2 _ _ _ hj (by simpa using hu)
      obtain ⟨us', h1, h2⟩ := fill_rel ps vps (putC cs off us) cs' _ h key (by simpa using hl) (fun j p q h1 h2 => hp (j + 1) p q h1 h2)
      refine ⟨us', ?_, h2⟩
      rw [Instr.fill]
      simp only [p1]
      have hn : ¬ (v.cells.size ≠ size || off + v.cells.size > cells.size) = true := by simp; omega
      rw [if_neg hn]
      exact h1
    · cases h
  | _ :: _, [], _, _, _, _, _, hl, _ => by simp at hl

end
end Go.Proofs.YtlfojobligplkaaDoor.Mt

/-! The operations that build values, make variables, store and append do what the evaluator says. Conditions: those that each lemma names. -/
namespace Go.Proofs.YtlfojobligplkaaDoor.Mt
open Go Go.RowKit
section
variable {P : Program} {W0 : Base} {S0 : Nat → Prop} {φ : Nat → Nat → Nat} {γ : Nat → Nat → Value} {st st' : St} {a : Act} {w w' : World}

theorem zero_info {t : TypeId} {z : List Value} (h : zeroT P t = some z) : ∃ i v, P.info? t = some i ∧ i.zero = some v ∧ v.cells.toList = z ∧ ∀ x ∈ z, x.oneCell' = true := by
  unfold zeroT at h
  cases hq : P.info? t with
  | none => rw [hq] at h; cases h
  | some i =>
    rw [hq] at h
    simp only [Option.bind_some] at h
    cases hz : i.zero with
    | none => rw [hz] at h; cases h
    | some v =>
      rw [hz] at h
      simp only [Option.bind_some] at h
      split at h
      · rename_i hall
        simp only [Option.some.injEq] at h
        subst h
        exact ⟨i, v, rfl, hz, rfl, List.all_eq_true.1 hall⟩
      · cases h

theorem run_zeroT {t : TypeId} {i : TypeInfo} {v : Value} (hi : P.info? t = some i) (hz : i.zero = some v) : (zeroValue t).run P w = .ok v w := by
  simp [zeroValue, typeInfo, hi, hz]

theorem vals_relL (E : Env) {z : List Value} (h : ∀ x ∈ z, x.oneCell' = true) : RelL w E (z.map .v) z := by
  refine ⟨by simp, fun j c u hc hu => ?_⟩
  rw [List.getElem?_map, hu] at hc
  simp only [Option.map_some, Option.some.injEq] at hc
  subst hc
  exact RelC.v (h u (List.mem_of_getElem? hu))
theorem vals_relP (F : Nat → Prop) {z : List Value} (h : ∀ x ∈ z, x.oneCell' = true) : RelP w F (z.map .v) z := by
  refine ⟨by simp, fun j c u hc hu => ?_⟩
  rw [List.getElem?_map, hu] at hc
  simp only [Option.map_some, Option.some.injEq] at hc
  subst hc
  exact RelC.v (h u (List.mem_of_getElem? hu))

theorem below_alloc (w : World) (o : Obj) : Below w.heap.size w (w.alloc o) := (Below.refl _ _).alloc (Nat.le_refl _) o

/-- A new variable, in slot d. -/
theorem newbox_sound {o : Oper} {d : Nat} (hd : o.dst = some d) (hlt : d < st.bx.length) {cs : List Cell} {v : Value} {T : TypeId} (hR : Rep W0 S0 φ γ st a w) (hr : RelL w (envOf W0 S0 φ γ st w) cs v.cells.toList)
    (hrun : (execOp a.eval o).run P w = .ok (.value (.pointer (some ⟨w.heap.size, 0, none⟩))) (w.alloc (.cells v.cells T))) : Sound1 P W0 S0 o st a w { val := .box d (tlen st.bx d) 0, pb := [cs] } := by
  obtain ⟨hm, hle⟩ := hR.mem.newBox hlt T hr (st.tm.set d (.box d (tlen st.bx d) 0))
  refine ⟨fun d' k' => if d' = d ∧ k' = tlen st.bx d then w.heap.size else φ d' k', γ, .pointer (some ⟨w.heap.size, 0, none⟩), w.alloc (.cells v.cells T), .inl hrun, ?_⟩
  rw [hd]
  refine hR.put (some d) { val := .box d (tlen st.bx d) 0, pb := [cs] } _ hm hle fun d' hd' => ?_
  simp only [Option.some.injEq] at hd'
  subst hd'
  refine ⟨⟨cs, ?_⟩, ?_⟩
  · show tat (tpush st.bx d [cs]) d (tlen st.bx d) = some cs
    rw [tat_push hlt, if_pos ⟨rfl, Nat.le_refl _⟩, Nat.sub_self]; rfl
  · show _ = Value.pointer (some ⟨(if d = d ∧ tlen st.bx d = tlen st.bx d then w.heap.size else φ d (tlen st.bx d)), 0, none⟩)
    rw [if_pos ⟨rfl, rfl⟩]

theorem alloc_sound {o : Oper} {t : TypeId} (ho : o.op = .alloc t) {z : List Value} (hz : zeroT P t = some z) {d : Nat} (hd : o.dst = some d) (hlt : d < st.bx.length) (hR : Rep W0 S0 φ γ st a w) {C : Ctx} {r : Res} (hev : evOp C d st (.alloc z) = some r) : Sound1 P W0 S0 o st a w r := by
  simp only [evOp, Option.some.injEq] at hev
  subst hev
  obtain ⟨i, v, hi, hzv, hvz, h1⟩ := zero_info hz
  refine newbox_sound hd hlt (v := v) (T := t) hR (by rw [hvz]; exact vals_relL _ h1) ?_
  unfold execOp
  rw [ho]
  simp [Instr.alloc, run_zeroT hi hzv, newVar, newRow]

theorem box_sound {o : Oper} {t : TypeId} {x : Operand} (ho : o.op = .box t x) {s : SX} (hx : ccX x = some s) {d : Nat} (hd : o.dst = some d) (hlt : d < st.bx.length) (hR : Rep W0 S0 φ γ st a w) {C : Ctx} {r : Res} (hev : evOp C d st (.box s) = some r) : Sound1 P W0 S0 o st a w r := by
  simp only [evOp, Option.map_eq_some_iff] at hev
  obtain ⟨cs, hc, rfl⟩ := hev
  refine newbox_sound hd hlt (v := a.eval x) (T := t) hR ((ccX_rel hx hR).cells hc) ?_
  unfold execOp
  rw [ho]
  simp [Instr.box, newVar, newRow]

/-! ### Building a value -/

theorem partsA_rel {fs : Array Field} (hR : Rep W0 S0 φ γ st a w) : ∀ (ps : List (Nat × Operand)) (ss : List (Nat × Nat × SX)) (cs : List (Nat × Nat × List Cell)), ccPartsA P fs ps = some ss → partsA st ss = some cs →
    cs.length = ps.length ∧ ∀ (j : Nat) (p : Nat × Nat × List Cell) (q : Nat × Operand), cs[j]? = some p → ps[j]? = some q → (∃ f, fs[q.1]? = some f ∧ p.1 = f.offset ∧ sizeT P f.type = some p.2.1) ∧ RelL w (envOf W0 S0 φ γ st w) p.2.2 (a.eval q.2).cells.toList
  | [], ss, cs, h1, h2 => by
    simp only [ccPartsA, Option.some.injEq] at h1
    subst h1
    simp only [partsA, Option.some.injEq] at h2
    subst h2
    exact ⟨rfl, fun j p q h => by simp at h⟩
  | (i, x) :: ps, ss, cs, h1, h2 => by
    simp only [ccPartsA, Option.bind_eq_some_iff, Option.map_eq_some_iff] at h1
    obtain ⟨f, hf, n, hn, s, hs, ss', hss, rfl⟩ := h1
    simp only [partsA, Option.bind_eq_some_iff, Option.map_eq_some_iff] at h2
    obtain ⟨us, hu, cs', hcs, rfl⟩ := h2
    obtain ⟨hl, hr⟩ := partsA_rel hR ps ss' cs' hss hcs
    refine ⟨by simp [hl], fun j p q h3 h4 => ?_⟩
    cases j with
    | zero => simp at h3 h4; subst h3; subst h4; exact ⟨⟨f, hf, rfl, hn⟩, (ccX_rel hs hR).cells hu⟩
    | succ j => exact hr j p q h3 h4

theorem partsR_rel {n : Nat} (hR : Rep W0 S0 φ γ st a w) : ∀ (ps : List (Nat × Operand)) (ss : List (Nat × Nat × SX)) (cs : List (Nat × Nat × List Cell)), ccPartsR n ps = some ss → partsA st ss = some cs →
    cs.length = ps.length ∧ ∀ (j : Nat) (p : Nat × Nat × List Cell) (q : Nat × Operand), cs[j]? = some p → ps[j]? = some q → (p.1 = q.1 * n ∧ p.2.1 = n) ∧ RelL w (envOf W0 S0 φ γ st w) p.2.2 (a.eval q.2).cells.toList
  | [], ss, cs, h1, h2 => by
    simp only [ccPartsR, Option.some.injEq] at h1
    subst h1
    simp only [partsA, Option.some.injEq] at h2
    subst h2
    exact ⟨rfl, fun j p q h => by simp at h⟩
  | (i, x) :: ps, ss, cs, h1, h2 => by
    simp only [ccPartsR, Option.bind_eq_some_iff, Option.map_eq_some_iff] at h1
    obtain ⟨s, hs, ss', hss, rfl⟩ := h1
    simp only [partsA, Option.bind_eq_some_iff, Option.map_eq_some_iff] at h2
    obtain ⟨us, hu, cs', hcs, rfl⟩ := h2
    obtain ⟨hl, hr⟩ := partsR_rel hR ps ss' cs' hss hcs
    refine ⟨by simp [hl], fun j p q h3 h4 => ?_⟩
    cases j with
    | zero => simp at h3 h4; subst h3; subst h4; exact ⟨⟨rfl, rfl⟩, (ccX_rel hs hR).cells hu⟩
    | succ j => exact hr j p q h3 h4

theorem partsS_rel {m : Nat} (hR : Rep W0 S0 φ γ st a w) : ∀ (ps : List (Nat × Operand)) (ss : List (Nat × SX)) (cs : List (Nat × Nat × List Cell)), ccParts ps = some ss → partsS m st ss = some cs →
    cs.length = ps.length ∧ ∀ (j : Nat) (p : Nat × Nat × List Cell) (q : Nat × Operand), cs[j]? = some p → ps[j]? = some q → (p.1 = q.1 * m ∧ p.2.1 = m) ∧ RelP w (Fx W0 S0 φ γ st w) p.2.2 (a.eval q.2).cells.toList
  | [], ss, cs, h1, h2 => by
    simp only [ccParts, Option.some.injEq] at h1
    subst h1
    simp only [partsS, Option.some.injEq] at h2
    subst h2
    exact ⟨rfl, fun j p q h => by simp at h⟩
  | (i, x) :: ps, ss, cs, h1, h2 => by
    simp only [ccParts, Option.bind_eq_some_iff, Option.map_eq_some_iff] at h1
    obtain ⟨s, hs, ss', hss, rfl⟩ := h1
    simp only [partsS, Option.bind_eq_some_iff] at h2
    obtain ⟨us, hu, h2⟩ := h2
    cases hpl : us.all plainC with
    | false => rw [hpl] at h2; cases h2
    | true =>
      rw [hpl] at h2
      simp only [cond_true, Option.map_eq_some_iff] at h2
      obtain ⟨cs', hcs, rfl⟩ := h2
      obtain ⟨hl, hr⟩ := partsS_rel hR ps ss' cs' hss hcs
      refine ⟨by simp [hl], fun j p q h3 h4 => ?_⟩
      cases j with
      | zero => simp at h3 h4; subst h3; subst h4; exact ⟨⟨rfl, rfl⟩, ((ccX_rel hs hR).cells hu).toP hpl⟩
      | succ j => exact hr j p q h3 h4

theorem run_places {fs : Array Field} (hall : ∀ f ∈ fs.toList, (sizeT P f.type).isSome = true) :
    (fs.mapM fun f => do pure (f.offset, ← sizeOf f.type) : Sem (Array (Nat × Nat))).run P w = .ok (fs.map fun f => (f.offset, (sizeT P f.type).getD 0)) w := by
  obtain ⟨l⟩ := fs
  simp only [List.mapM_toArray, List.map_toArray, Sem.run_map]
  have : ∀ l : List Field, (∀ f ∈ l, (sizeT P f.type).isSome = true) → (l.mapM fun f => do pure (f.offset, ← sizeOf f.type) : Sem (List (Nat × Nat))).run P w = .ok (l.map fun f => (f.offset, (sizeT P f.type).getD 0)) w := by
    intro l
    induction l with
    | nil => intro _; simp
    | cons f l ih =>
      intro h
      obtain ⟨n, hn⟩ := Option.isSome_iff_exists.1 (h f (by simp))
      have ih := ih fun g hg => h g (by simp [hg])
      simp only [bind_pure_comp] at ih
      simp [List.mapM_cons, run_sizeT hn, hn, ih]
  have h := this l hall
  simp only [bind_pure_comp] at h ⊢
  rw [h]
  rfl

theorem build_sound {o : Oper} {t : TypeId} {parts : Array (Nat × Operand)} (ho : o.op = .build t parts) {fs : Array Field} (hu : P.underlying t = some (.struct fs)) {z : List Value} (hz : zeroT P t = some z) {ss : List (Nat × Nat × SX)} (hp : ccPartsA P fs parts.toList = some ss)
    (hall : ∀ f ∈ fs.toList, (sizeT P f.type).isSome = true) (hR : Rep W0 S0 φ γ st a w) {C : Ctx} {d : Nat} {r : Res} (hev : evOp C d st (.build z ss) = some r) : Sound1 P W0 S0 o st a w r := by
  simp only [evOp, Option.bind_eq_some_iff, Option.map_eq_some_iff] at hev
  obtain ⟨ps, hps, cs, hcs, rfl⟩ := hev
  obtain ⟨i, v, hi, hzv, hvz, h1⟩ := zero_info hz
  obtain ⟨hl, hr⟩ := partsA_rel hR parts.toList ss ps hp hps
  obtain ⟨us, hfill, hrel⟩ := fill_rel (R := RelC1 w (envOf W0 S0 φ γ st w)) (place := fun j => (fs.map fun f => (f.offset, (sizeT P f.type).getD 0))[j]?) ps (parts.map fun p => (p.1, a.eval p.2)).toList (z.map .v) cs v.cells hcs (by rw [hvz]; exact vals_relL _ h1)
    (by simp [hl]) (fun j p q h3 h4 => by
      rw [Array.toList_map, List.getElem?_map, Option.map_eq_some_iff] at h4
      obtain ⟨q', hq', rfl⟩ := h4
      obtain ⟨⟨f, hf, hp1, hp2⟩, hrr⟩ := hr j p q' h3 hq'
      refine ⟨?_, hrr⟩
      rw [Array.getElem?_map, hf]
      simp [hp1, hp2])
  refine Sound1.pure hR (u := .agg us) ?_ ⟨us.toList, rfl, hrel⟩
  have hpl := run_places (P := P) (w := w) hall
  unfold execOp
  rw [ho]
  simp only [bind_pure_comp] at hpl
  simp [Instr.build, run_zeroT hi hzv, run_underlying hu, hpl]
  rw [show (parts.toList.map fun x => (x.1, a.eval x.2)) = (parts.map fun p => (p.1, a.eval p.2)).toList by simp]
  have hf2 := hfill
  simp only [Array.getElem?_map] at hf2
  rw [hf2]
  rfl

theorem buildR_sound {o : Oper} {t e : TypeId} {parts : Array (Nat × Operand)} (ho : o.op = .build t parts) {len : Nat} (hu : P.underlying t = some (.array len e)) {z : List Value} (hz : zeroT P t = some z) {n : Nat} (hn : sizeT P e = some n) {ss : List (Nat × Nat × SX)} (hp : ccPartsR n parts.toList = some ss)
    (hR : Rep W0 S0 φ γ st a w) {C : Ctx} {d : Nat} {r : Res} (hev : evOp C d st (.build z ss) = some r) : Sound1 P W0 S0 o st a w r := by
  simp only [evOp, Option.bind_eq_some_iff, Option.map_eq_some_iff] at hev
  obtain ⟨ps, hps, cs, hcs, rfl⟩ := hev
  obtain ⟨i, v, hi, hzv, hvz, h1⟩ := zero_info hz
  obtain ⟨hl, hr⟩ := partsR_rel hR parts.toList ss ps hp hps
  obtain ⟨us, hfill, hrel⟩ := fill_rel (R := RelC1 w (envOf W0 S0 φ γ st w)) (place := fun j => some (j * n, n)) ps (parts.map fun p => (p.1, a.eval p.2)).toList (z.map .v) cs v.cells hcs (by rw [hvz]; exact vals_relL _ h1)
    (by simp [hl]) (fun j p q h3 h4 => by
      rw [Array.toList_map, List.getElem?_map, Option.map_eq_some_iff] at h4
      obtain ⟨q', hq', rfl⟩ := h4
      obtain ⟨⟨hp1, hp2⟩, hrr⟩ := hr j p q' h3 hq'
      exact ⟨by simp [hp1, hp2], hrr⟩)
  refine Sound1.pure hR (u := .agg us) ?_ ⟨us.toList, rfl, hrel⟩
  unfold execOp
  rw [ho]
  simp [Instr.build, run_zeroT hi hzv, run_underlying hu, run_sizeT hn]
  rw [show (parts.toList.map fun x => (x.1, a.eval x.2)) = (parts.map fun p => (p.1, a.eval p.2)).toList by simp]
  rw [hfill]
  rfl

end
end Go.Proofs.YtlfojobligplkaaDoor.Mt

/-! The operations that store, build rows, append and cut rows do what the evaluator says. Conditions: those that each lemma names. -/
namespace Go.Proofs.YtlfojobligplkaaDoor.Mt
open Go Go.RowKit
section
variable {P : Program} {W0 : Base} {S0 : Nat → Prop} {φ : Nat → Nat → Nat} {γ : Nat → Nat → Value} {st st' : St} {a : Act} {w w' : World}

theorem run_storeT {t : TypeId} {n : Nat} (hs : sizeT P t = some n) {v : Value} (hv : v.cells.toList.length = n) {b : Addr} (hrun : (storeCells b v.cells.toList).run P w = .ok () w') : (storeVar t b v).run P w = .ok () w' := by
  have hv' : v.cells.size = n := by simpa using hv
  simp [storeVar, run_sizeT hs, hv', hrun]

theorem store_sound {H : Hints} {el : List Tmp} {o : Oper} {t : TypeId} {p x : Operand} (ho : o.op = .store t p x) {so : SOp} (hcc : ccOp0 P H el o = some so) (hR : Rep W0 S0 φ γ st a w) {C : Ctx} {d : Nat} {r : Res} (hev : evOp C d st so = some r) :
    Sound1 P W0 S0 o st a w r := by
  unfold ccOp0 at hcc
  rw [ho] at hcc
  simp only [Option.bind_eq_some_iff, Option.map_eq_some_iff] at hcc
  obtain ⟨⟨ag, n⟩, hs, q, hq, y, hy, rfl⟩ := hcc
  have hp := ccX_rel hq hR
  have hx := ccX_rel hy hR
  obtain ⟨hsz, _, _, _⟩ := shape_cases hs
  simp only [evOp, Option.bind_eq_some_iff] at hev
  obtain ⟨us, hus, hev⟩ := hev
  split at hev
  · rename_i hlen
    have hrel := hx.cells hus
    have hvl : (a.eval x).cells.toList.length = n := by rw [← hrel.1]; exact hlen
    split at hev
    · rename_i i k off e1 e2
      rw [e2] at hp
      simp only [Option.bind_eq_some_iff, Option.map_eq_some_iff] at hev
      obtain ⟨cs, hcs, cs', hov, rfl⟩ := hev
      obtain ⟨_, ws, T, hg, hl⟩ := hR.mem.bxs i k cs hcs
      have hnew := hl.over hrel hov
      have hle : off + (a.eval x).cells.toList.length ≤ ws.toList.length := by rw [← hrel.1, ← hl.1]; exact (overC_spec hov).1
      have hrun := run_storeCells_at (P := P) (φ i k) off T (a.eval x).cells.toList 0 ws w hg (by simpa using hle) hrel.one
      obtain ⟨hm, hle'⟩ := hR.mem.writeBox hcs hnew (match o.dst with | some d => st.tm.set d .un | none => st.tm)
      refine ⟨φ, γ, undef, _, .inr ⟨?_, rfl⟩, hR.put o.dst { val := .un, wb := some (i, k, cs') } undef hm hle' fun _ _ => rfl⟩
      unfold execOp
      rw [ho]
      have hpe : a.eval p = .pointer (some ⟨φ i k, off, none⟩) := hp.2
      simp only [hpe, Instr.storeAt, Instr.sureAddr, Sem.run_bind, Sem.run_pure, Result.andThen_ok]
      rw [run_storeT hsz hvl hrun]
      rfl
    · rename_i i k off e1 e2
      rw [e2] at hp
      cases hpl : us.all plainC with
      | false => rw [hpl] at hev; cases hev
      | true =>
        rw [hpl] at hev
        simp only [cond_true, Option.bind_eq_some_iff, Option.map_eq_some_iff] at hev
        obtain ⟨t', ht', cs', hov, rfl⟩ := hev
        obtain ⟨ht, htl⟩ := live_tat ht'
        obtain ⟨xs, hown, hpp⟩ := hR.mem.tks i k t' ht htl
        obtain ⟨_, g, m, cap, hγ, hu⟩ := hp
        have hγ' : γ i k = .slice (some ⟨g, 0, none⟩) m cap := hγ
        have hrelP := hrel.toP hpl
        have hnew := hpp.over hrelP hov
        have hle : off + (a.eval x).cells.toList.length ≤ xs.length := by rw [← hrel.1, ← hpp.1]; exact (overC_spec hov).1
        have hown0 := hown
        obtain ⟨o1, o2⟩ := hown
        rcases o2 with ⟨hnil, _⟩ | ⟨g', cap', cur, hv, hb, hg, hn, hc, hcs, hcur⟩
        · rw [hγ'] at hnil; cases hnil
        · rw [hγ'] at hv
          simp only [Value.slice.injEq, Option.some.injEq, Addr.mk.injEq, and_true] at hv
          obtain ⟨rfl, rfl, rfl⟩ := hv
          have hxl : xs.length ≤ cur.size := by rw [← hcur]; simp; omega
          have hrun := run_storeCells_at (P := P) g off t'.e (a.eval x).cells.toList 0 cur w hg (by omega) hrel.one
          have hgrow : w.grownBy (w.setRow g (cur.toList.take (off + 0) ++ (a.eval x).cells.toList ++ cur.toList.drop (off + 0 + (a.eval x).cells.toList.length)).toArray) (some g) :=
            ⟨rfl, rfl, rfl, by simp, fun b _ hb => setRow_other w g b _ (fun e => hb (by rw [e]))⟩
          obtain ⟨hm, hle'⟩ := hR.mem.writeTok ht htl (g := g) (by rw [hγ']; rfl) (cs' := cs') (xs' := xs.take off ++ (a.eval x).cells.toList ++ xs.drop (off + (a.eval x).cells.toList.length)) hgrow (by simp)
            (by
              have hle2 : off + (a.eval x).cells.toList.length ≤ cur.toList.length := by have : cur.toList.length = cur.size := Array.length_toList; omega
              refine ⟨by rw [splice_length _ _ _ hle]; exact o1, .inr ⟨g, cap, _, hγ', hb, setRow_heap w g cur _ t'.e _ hg, hn, hc, ?_, ?_⟩⟩
              · simp only [Nat.add_zero]
                rw [List.size_toArray, splice_length _ _ _ hle2, Array.length_toList]
                exact hcs
              · apply List.ext_getElem?
                intro j
                rw [List.getElem?_take, splice_get _ _ _ hle]
                simp only [Nat.add_zero]
                rw [splice_get _ _ _ hle2]
                split
                · split
                  · rfl
                  · rw [← hcur, List.getElem?_take, if_pos (by assumption)]
                · rename_i hj
                  rw [if_neg (by omega), ← hcur, List.getElem?_take, if_neg hj])
            hnew (match o.dst with | some d => st.tm.set d .un | none => st.tm)
          refine ⟨φ, γ, undef, _, .inr ⟨?_, rfl⟩, hR.put o.dst { val := .un, wt := some (i, k, { t' with cs := cs' }) } undef hm hle' fun _ _ => rfl⟩
          unfold execOp
          rw [ho]
          simp only [hu, Instr.storeAt, Instr.sureAddr, Sem.run_bind, Sem.run_pure, Result.andThen_ok]
          rw [run_storeT hsz hvl hrun]
          rfl
    · cases hev
  · cases hev

theorem buildS_sound {o : Oper} {t e : TypeId} {n m : Nat} {parts : Array (Nat × Operand)} (ho : o.op = .buildSlice t n parts) (hu : P.underlying t = some (.slice e)) (hm : sizeT P e = some m) {z : List Value} (hz : zeroT P e = some z) {ss : List (Nat × SX)} (hp : ccParts parts.toList = some ss)
    (hlim : n * m ≤ 16777216) (hm0 : 0 < m) (hzl : z.length = m) {d : Nat} (hd : o.dst = some d) (hlt : d < st.tk.length) (hR : Rep W0 S0 φ γ st a w) {C : Ctx} {r : Res}
    (hev : evOp C d st (.buildS e m n ((List.range (n * m)).map fun j => z.getD (j % m) undef) ss) = some r) : Sound1 P W0 S0 o st a w r := by
  simp only [evOp, Option.bind_eq_some_iff, Option.map_eq_some_iff] at hev
  obtain ⟨ps, hps, cs, hcs, rfl⟩ := hev
  obtain ⟨i, v, hi, hzv, hvz, h1⟩ := zero_info hz
  obtain ⟨hl, hr⟩ := partsS_rel hR parts.toList ss ps hp hps
  have hzz : ∀ x ∈ (List.range (n * m)).map (fun j => z.getD (j % m) undef), x.oneCell' = true := by
    intro x hx
    rw [List.mem_map] at hx
    obtain ⟨j, _, rfl⟩ := hx
    have : j % m < z.length := by rw [hzl]; exact Nat.mod_lt _ hm0
    rw [List.getD_eq_getElem?_getD, List.getElem?_eq_getElem this]
    exact h1 _ (List.getElem_mem _)
  obtain ⟨us, hfill, hrel⟩ := fill_rel (R := RelC w (Fx W0 S0 φ γ st w)) (place := fun j => some (j * m, m)) ps (parts.map fun p => (p.1, a.eval p.2)).toList _ cs ((List.range (n * m)).map fun j => z.getD (j % m) undef).toArray hcs (vals_relP _ hzz)
    (by simp [hl]) (fun j p q h3 h4 => by
      rw [Array.toList_map, List.getElem?_map, Option.map_eq_some_iff] at h4
      obtain ⟨q', hq', rfl⟩ := h4
      obtain ⟨⟨hp1, hp2⟩, hrr⟩ := hr j p q' h3 hq'
      exact ⟨by simp [hp1, hp2], hrr⟩)
  have hsize : us.size = n * m := by
    have h2 : ∀ (vps : List (Nat × Value)) (cells us : Array Value), Instr.fill (fun j => some (j * m, m)) cells vps = some us → us.size = cells.size := by
      intro vps
      induction vps with
      | nil => intro cells us h; simp only [Instr.fill, Option.some.injEq] at h; rw [h]
      | cons p vps ih =>
        intro cells us h
        simp only [Instr.fill] at h
        split at h
        · cases h
        · rw [ih _ _ h, ← Array.foldl_toList, Array.toList_zipIdx]
          exact foldl_set_size _ _ _
    rw [h2 _ _ _ hfill]
    simp
  have hown := World.ownsRow_lit (base := w.heap.size) (e := e) (size := m) w us n (Nat.le_refl _) (by simp only [maxLen]; have := Nat.le_mul_of_pos_right n hm0; omega) hsize
  obtain ⟨hmem, hle, _⟩ := hR.mem.newToks (below_alloc w (.cells us e)) hlt (ts := [⟨e, m, n, cs, true⟩]) (fun _ => .slice (some ⟨w.heap.size, 0, none⟩) n n) (st.tm.set d (.one (.own d (tlen st.tk d))))
    (fun j t' hj => by
      cases j with
      | succ j => simp at hj
      | zero =>
        simp only [List.getElem?_cons_zero, Option.some.injEq] at hj
        subst hj
        refine ⟨us.toList, hown, RelP.mono (fun b hb => ⟨⟨Nat.lt_of_lt_of_le hb.1 (below_alloc w (.cells us e)).size, fun _ => hb, fun j' t' _ he => ?_⟩, (below_alloc w (.cells us e)).block b hb.1⟩) hrel⟩
        simp only [Value.ownBlock, Option.some.injEq] at he
        have := hb.1
        omega)
    (fun j t1 j' t2 b h3 h4 _ _ => by
      cases j with
      | succ j => simp at h3
      | zero => cases j' with
        | succ j' => simp at h4
        | zero => rfl)
  refine ⟨φ, fun d' k' => if d' = d ∧ tlen st.tk d ≤ k' then .slice (some ⟨w.heap.size, 0, none⟩) n n else γ d' k', .slice (some ⟨w.heap.size, 0, none⟩) n n, w.alloc (.cells us e), .inl ?_, ?_⟩
  · have hzero : (((Array.range (n * m)).map fun x => v.cells[x % v.cells.size]!)) = ((List.range (n * m)).map fun j => z.getD (j % m) undef).toArray := by
      have hvs : v.cells.size = m := by rw [← Array.length_toList, hvz, hzl]
      apply Array.ext'
      rw [Array.toList_map, Array.toList_range]
      apply List.map_congr_left
      intro j _
      have hj : j % m < v.cells.size := by rw [hvs]; exact Nat.mod_lt _ hm0
      rw [hvs, getElem!_pos v.cells (j % m) hj, List.getD_eq_getElem?_getD, ← hvz, Array.getElem?_toList, Array.getElem?_eq_getElem hj, Option.getD_some]
    unfold execOp
    rw [ho]
    have hlim' : ¬ n * m > 2 ^ 24 := by omega
    by_cases h0 : n * m = 0
    · have hfill0 := hfill
      simp only [Instr.buildSlice, Sem.run_bind, run_underlying hu, Result.andThen_ok, run_sizeT hm, h0, if_true, Sem.run_pure]
      rw [h0] at hfill0
      simp only [List.range_zero, List.map_nil] at hfill0
      have : (Array.map (fun x => (#[] : Array Value)[x % (#[] : Array Value).size]!) (Array.range 0)) = #[] := by simp
      rw [if_neg (by omega)]
      simp only [Sem.run_bind, Sem.run_pure, Result.andThen_ok, this]
      rw [hfill0]
      simp [newRow]
    · simp only [Instr.buildSlice, Sem.run_bind, run_underlying hu, Result.andThen_ok, run_sizeT hm, if_neg hlim', if_neg h0, run_zeroT hi hzv, Sem.run_pure, hzero]
      rw [hfill]
      simp [newRow]
  · rw [hd]
    refine hR.put (some d) { val := .one (.own d (tlen st.tk d)), pt := [⟨e, m, n, cs, true⟩] } _ hmem hle fun d' hd' => ?_
    simp only [Option.some.injEq] at hd'
    subst hd'
    refine ⟨⟨⟨e, m, n, cs, true⟩, ?_⟩, ?_, rfl⟩
    · show tat (tpush st.tk d [⟨e, m, n, cs, true⟩]) d (tlen st.tk d) = _
      rw [tat_push hlt, if_pos ⟨rfl, Nat.le_refl _⟩, Nat.sub_self]; rfl
    · show _ = (if d = d ∧ tlen st.tk d ≤ tlen st.tk d then _ else _)
      rw [if_pos ⟨rfl, Nat.le_refl _⟩]

theorem buildF_sound {o : Oper} {t e : TypeId} {n m : Nat} {parts : Array (Nat × Operand)} (ho : o.op = .buildSlice t n parts) (hu : P.underlying t = some (.slice e)) (hm : sizeT P e = some m) {z : List Value} (hz : zeroT P e = some z) {ss : List (Nat × SX)} (hp : ccParts parts.toList = some ss)
    (hlim : n * m ≤ 16777216) (hm0 : 0 < m) (hzl : z.length = m) {d : Nat} (hR : Rep W0 S0 φ γ st a w) {C : Ctx} {r : Res}
    (hev : evOp C d st (.buildF m n ((List.range (n * m)).map fun j => z.getD (j % m) undef) ss) = some r) : Sound1 P W0 S0 o st a w r := by
  simp only [evOp, Option.bind_eq_some_iff, Option.map_eq_some_iff] at hev
  obtain ⟨ps, hps, cs, hcs, rfl⟩ := hev
  obtain ⟨i, v, hi, hzv, hvz, h1⟩ := zero_info hz
  obtain ⟨hl, hr⟩ := partsS_rel hR parts.toList ss ps hp hps
  have hzz : ∀ x ∈ (List.range (n * m)).map (fun j => z.getD (j % m) undef), x.oneCell' = true := by
    intro x hx
    rw [List.mem_map] at hx
    obtain ⟨j, _, rfl⟩ := hx
    have : j % m < z.length := by rw [hzl]; exact Nat.mod_lt _ hm0
    rw [List.getD_eq_getElem?_getD, List.getElem?_eq_getElem this]
    exact h1 _ (List.getElem_mem _)
  obtain ⟨us, hfill, hrel⟩ := fill_rel (R := RelC w (Fx W0 S0 φ γ st w)) (place := fun j => some (j * m, m)) ps (parts.map fun p => (p.1, a.eval p.2)).toList _ cs ((List.range (n * m)).map fun j => z.getD (j % m) undef).toArray hcs (vals_relP _ hzz)
    (by simp [hl]) (fun j p q h3 h4 => by
      rw [Array.toList_map, List.getElem?_map, Option.map_eq_some_iff] at h4
      obtain ⟨q', hq', rfl⟩ := h4
      obtain ⟨⟨hp1, hp2⟩, hrr⟩ := hr j p q' h3 hq'
      exact ⟨by simp [hp1, hp2], hrr⟩)
  have hsize : us.size = n * m := by
    have h2 : ∀ (vps : List (Nat × Value)) (cells us : Array Value), Instr.fill (fun j => some (j * m, m)) cells vps = some us → us.size = cells.size := by
      intro vps
      induction vps with
      | nil => intro cells us h; simp only [Instr.fill, Option.some.injEq] at h; rw [h]
      | cons p vps ih =>
        intro cells us h
        simp only [Instr.fill] at h
        split at h
        · cases h
        · rw [ih _ _ h, ← Array.foldl_toList, Array.toList_zipIdx]
          exact foldl_set_size _ _ _
    rw [h2 _ _ _ hfill]
    simp
  have hb := below_alloc w (.cells us e)
  obtain ⟨hmem, hle⟩ := hR.mem.grow hb
  have hle' : Le w (envOf W0 S0 φ γ st w) (w.alloc (.cells us e)) (envOf W0 S0 φ γ (applyR o.dst st { val := .one (.sl n (cs.map nzC)) }) (w.alloc (.cells us e))) := by
    rw [envOf_congr (W0 := W0) (S0 := S0) (φ := φ) (γ := γ) (st := st) (st' := applyR o.dst st { val := .one (.sl n (cs.map nzC)) }) rfl rfl]; exact hle
  have nz : ∀ {c : Cell} {x : Value}, RelC w (Fx W0 S0 φ γ st w) c x → RelC w (Fx W0 S0 φ γ st w) (nzC c) x := fun {c x} h => by
    cases h with
    | @v x h' =>
      have : (x = .slice none 0 0 ∧ nzC (.v x) = .sl 0 []) ∨ nzC (.v x) = .v x := by
        simp only [nzC]
        split
        · exact .inl ⟨rfl, rfl⟩
        · exact .inr rfl
      rcases this with ⟨rfl, e⟩ | e
      · rw [e]; exact RelC.sl [] (Nat.le_refl _) rfl (fun e => absurd rfl e) fun j c x h1 => by simp at h1
      · rw [e]; exact RelC.v h'
    | sl xs a1 a2 a3 a4 => exact .sl xs a1 a2 a3 a4
    | dead h' => exact .dead h'
  have hFb : Fx W0 S0 φ γ st (w.alloc (.cells us e)) w.heap.size := by
    refine ⟨(Array.getElem?_eq_some_iff.1 (heap_alloc_new w (.cells us e))).1, fun h => ?_, fun d k cs hc he => ?_, fun d k t ht hl he => ?_⟩
    · have := hR.mem.bel.size; omega
    · have := hR.mem.blt hc; omega
    · have := (hR.mem.tlt ht hl he).2; omega
  have hval : RelC (w.alloc (.cells us e)) (Fx W0 S0 φ γ st (w.alloc (.cells us e))) (.sl n (cs.map nzC)) (.slice (some ⟨w.heap.size, 0, none⟩) n n) := by
    refine RelC.sl us.toList (Nat.le_refl _) (by rw [List.length_map, hrel.1]) (fun _ => ⟨_, rfl, hFb, fun j x hj => ?_⟩) fun j c x hc hx => ?_
    · have e1 : (⟨w.heap.size, 0, none⟩ : Addr).add j = ⟨w.heap.size, j, none⟩ := by simp [Addr.add]; omega
      rw [e1, World.cell?_alloc_at us e _ j rfl, ← hj, Array.getElem?_toList]
    · rw [List.getElem?_map, Option.map_eq_some_iff] at hc
      obtain ⟨c', hc', rfl⟩ := hc
      exact (nz (hrel.2 j c' x hc' hx)).mono hle.f
  refine ⟨φ, γ, .slice (some ⟨w.heap.size, 0, none⟩) n n, w.alloc (.cells us e), .inl ?_, ?_⟩
  · have hzero : (((Array.range (n * m)).map fun x => v.cells[x % v.cells.size]!)) = ((List.range (n * m)).map fun j => z.getD (j % m) undef).toArray := by
      have hvs : v.cells.size = m := by rw [← Array.length_toList, hvz, hzl]
      apply Array.ext'
      rw [Array.toList_map, Array.toList_range]
      apply List.map_congr_left
      intro j _
      have hj : j % m < v.cells.size := by rw [hvs]; exact Nat.mod_lt _ hm0
      rw [hvs, getElem!_pos v.cells (j % m) hj, List.getD_eq_getElem?_getD, ← hvz, Array.getElem?_toList, Array.getElem?_eq_getElem hj, Option.getD_some]
    unfold execOp
    rw [ho]
    have hlim' : ¬ n * m > 2 ^ 24 := by omega
    by_cases h0 : n * m = 0
    · have hfill0 := hfill
      simp only [Instr.buildSlice, Sem.run_bind, run_underlying hu, Result.andThen_ok, run_sizeT hm, h0, if_true, Sem.run_pure]
      rw [h0] at hfill0
      simp only [List.range_zero, List.map_nil] at hfill0
      have : (Array.map (fun x => (#[] : Array Value)[x % (#[] : Array Value).size]!) (Array.range 0)) = #[] := by simp
      rw [if_neg (by omega)]
      simp only [Sem.run_bind, Sem.run_pure, Result.andThen_ok, this]
      rw [hfill0]
      simp [newRow]
    · simp only [Instr.buildSlice, Sem.run_bind, run_underlying hu, Result.andThen_ok, run_sizeT hm, if_neg hlim', if_neg h0, run_zeroT hi hzv, Sem.run_pure, hzero]
      rw [hfill]
      simp [newRow]
  · refine hR.put o.dst { val := .one (.sl n (cs.map nzC)) } _ (hmem.congr rfl rfl) hle' fun d' _ => ?_
    rw [envOf_congr (W0 := W0) (S0 := S0) (φ := φ) (γ := γ) (st := st) (st' := applyR o.dst st { val := .one (.sl n (cs.map nzC)) }) rfl rfl]
    exact hval

end
end Go.Proofs.YtlfojobligplkaaDoor.Mt
