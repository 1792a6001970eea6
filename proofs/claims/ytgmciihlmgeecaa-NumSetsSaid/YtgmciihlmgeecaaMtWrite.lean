import Derived.Test.YtgmciihlmgeecaaMtRead2
/- The operations that make or write memory (but calls) do what the evaluator says. Conditions: those that each lemma names. -/
namespace Go.Proofs.Ytgmciihlmgeecaa.Mt
open Go Go.RowKit
section
variable {P : Program} {W0 : Base} {S0 : Nat → Prop} {φ : Nat → Nat → Nat} {γ : Nat → Nat → Value} {st st' : St} {a : Act} {w w' : World}

/-! ### A row that grows -/

theorem Mem.appendTok (h : Mem W0 S0 φ γ st w) {i k : Nat} {t t' : Tok} (ht : tat st.tk i k = some t) (htl : t.live = true) (hdead : t'.live = false) {d : Nat} (hd : d < st.tk.length) {v' : Value}
    (hg : w.grownBy w' (γ i k).ownBlock) (nt : Tok) {xs' : List Value} (hown : w'.ownsRow W0.w.heap.size nt.e nt.sz v' nt.n xs')
    (hblk : v'.ownBlock = (γ i k).ownBlock ∨ ∃ b, v'.ownBlock = some b ∧ w.heap.size ≤ b) (hr : RelP w (Fx W0 S0 φ γ st w) nt.cs xs') (tm : List CV) :
    let st' : St := { tm := tm, bx := st.bx, tk := tpush (tset st.tk i k t') d [nt] }
    let γ' := fun d' k' => if d' = d ∧ k' = tlen st.tk d then v' else γ d' k'
    Mem W0 S0 φ γ' st' w' ∧ Le w (envOf W0 S0 φ γ st w) w' (envOf W0 S0 φ γ' st' w') := by
  intro st' γ'
  have hsz : W0.w.heap.size ≤ w.heap.size := h.bel.size
  have hbk : ∀ b, (γ i k).ownBlock = some b → W0.w.heap.size ≤ b ∧ b < w.heap.size := fun b hb => h.tlt ht htl hb
  have hold : ∀ d' k' u, tat st.tk d' k' = some u → γ' d' k' = γ d' k' := by
    intro d' k' u hc
    have hlt := (tat_lt hc).2
    refine if_neg ?_
    rintro ⟨rfl, rfl⟩; omega
  have hcase : ∀ d' k' u, tat st'.tk d' k' = some u → u.live = true → (tat st.tk d' k' = some u ∧ γ' d' k' = γ d' k' ∧ ¬ (d' = i ∧ k' = k)) ∨ (d' = d ∧ k' = tlen st.tk d ∧ u = nt ∧ γ' d' k' = v') := by
    intro d' k' u hc hul
    have hd' : d < (tset st.tk i k t').length := by rw [tset_length]; exact hd
    rw [show st'.tk = tpush (tset st.tk i k t') d [nt] from rfl, tat_push hd', tlen_set] at hc
    split at hc
    · rename_i he
      have hk : k' - tlen st.tk d = 0 := by
        apply Classical.byContradiction
        intro hn
        rw [List.getElem?_eq_none (by simp; omega)] at hc
        simp at hc
      rw [hk] at hc
      simp at hc
      have hk2 : k' = tlen st.tk d := by omega
      exact .inr ⟨he.1, hk2, hc.symm, if_pos ⟨he.1, hk2⟩⟩
    · rw [tat_set ht] at hc
      split at hc
      · simp at hc; subst hc; rw [hdead] at hul; cases hul
      · rename_i he2; exact .inl ⟨hc, hold _ _ _ hc, he2⟩
  have hvne : ∀ b, b < w.heap.size → (γ i k).ownBlock ≠ some b → v'.ownBlock ≠ some b := by
    intro b hb hne e
    rcases hblk with h1 | ⟨b', h1, h2⟩
    · exact hne (by rw [← h1]; exact e)
    · rw [h1] at e; simp at e; omega
  have hsame : ∀ b, b < w.heap.size → (γ i k).ownBlock ≠ some b → w'.heap[b]? = w.heap[b]? := fun b hb hne => hg.block b hb (fun e => hne e.symm)
  have hle : Le w (envOf W0 S0 φ γ st w) w' (envOf W0 S0 φ γ' st' w') := by
    refine ⟨fun b hF => ⟨⟨Nat.lt_of_lt_of_le hF.1 hg.size, hF.2.1, hF.2.2.1, fun d' k' u hu hul => ?_⟩, hsame b hF.1 (hF.2.2.2 i k t ht htl)⟩, fun d' k' hB => ⟨hB, rfl⟩, fun d' k' hT => ?_⟩
    · rcases hcase d' k' u hu hul with ⟨a1, a2, _⟩ | ⟨_, _, _, a4⟩
      · rw [a2]; exact hF.2.2.2 d' k' u a1 hul
      · rw [a4]; exact hvne b hF.1 (hF.2.2.2 i k t ht htl)
    · obtain ⟨u, hu⟩ := hT
      refine ⟨?_, hold _ _ _ hu⟩
      have : ∃ u', tat (tset st.tk i k t') d' k' = some u' := by
        rw [tat_set ht]
        split
        · exact ⟨_, rfl⟩
        · exact ⟨_, hu⟩
      obtain ⟨u', hu'⟩ := this
      exact ⟨u', tat_push_old _ _ hu'⟩
  refine ⟨⟨h.bel.trans hg.os hg.tape hg.output hg.size (fun b hb _ => hsame b (by omega) (fun e => by have := hbk b e; omega)), fun d' k' cs hc => ?_, h.bxi, fun d' k' u hu hul => ?_, fun d1 k1 t1 d2 k2 t2 b h1 l1 h2 l2 e1 e2 => ?_, fun d1 k1 u d2 k2 cs2 h1 hul h2 e => ?_⟩, hle⟩
  · obtain ⟨g1, us', T', hg', hr'⟩ := h.bxs d' k' cs hc
    exact ⟨g1, us', T', by rw [hsame _ (Array.getElem?_eq_some_iff.1 hg').1 (h.tkb _ _ _ _ _ _ ht htl hc)]; exact hg', hr'.mono hle⟩
  · rcases hcase d' k' u hu hul with ⟨a1, a2, a3⟩ | ⟨_, _, rfl, a4⟩
    · obtain ⟨xs, ho, hr'⟩ := h.tks d' k' u a1 hul
      rw [a2]
      refine ⟨xs, ho.kept hg ?_, hr'.mono hle.f⟩
      cases hq : (γ d' k').ownBlock with
      | none => exact .inl rfl
      | some b => exact .inr fun e => a3 (h.tki _ _ _ _ _ _ b a1 hul ht htl hq e.symm)
    · rw [a4]; exact ⟨xs', hown, hr.mono hle.f⟩
  · have two : ∀ d1 k1 t1 b, tat st.tk d1 k1 = some t1 → t1.live = true → ¬ (d1 = i ∧ k1 = k) → (γ d1 k1).ownBlock = some b → v'.ownBlock = some b → False := by
      intro d1 k1 t1 b a1 l1 a3 e1 e2
      rcases hblk with hb1 | ⟨b', hb1, hb2⟩
      · exact a3 (h.tki _ _ _ _ _ _ b a1 l1 ht htl e1 (by rw [← hb1]; exact e2))
      · rw [hb1] at e2; simp at e2; subst e2; have := (h.tlt a1 l1 e1).2; omega
    rcases hcase d1 k1 t1 h1 l1 with ⟨a1, a2, a3⟩ | ⟨rfl, rfl, rfl, a4⟩ <;> rcases hcase d2 k2 t2 h2 l2 with ⟨b1, b2, b3⟩ | ⟨rfl, rfl, rfl, b4⟩
    · rw [a2] at e1; rw [b2] at e2; exact h.tki _ _ _ _ _ _ _ a1 l1 b1 l2 e1 e2
    · rw [a2] at e1; rw [b4] at e2; exact (two _ _ _ _ a1 l1 a3 e1 e2).elim
    · rw [a4] at e1; rw [b2] at e2; exact (two _ _ _ _ b1 l2 b3 e2 e1).elim
    · exact ⟨rfl, rfl⟩
  · rcases hcase d1 k1 u h1 hul with ⟨a1, a2, a3⟩ | ⟨_, _, rfl, a4⟩
    · rw [a2] at e; exact h.tkb _ _ _ _ _ _ a1 hul h2 e
    · rw [a4] at e
      rcases hblk with hb1 | ⟨b', hb1, hb2⟩
      · exact h.tkb _ _ _ _ _ _ ht htl h2 (by rw [← hb1]; exact e)
      · rw [hb1] at e; simp at e; subst e; have := h.blt h2; omega

/-! ### Filling -/

def RelG (R : Cell → Value → Prop) (cs : List Cell) (us : List Value) : Prop :=
  cs.length = us.length ∧ ∀ (j : Nat) (c : Cell) (u : Value), cs[j]? = some c → us[j]? = some u → R c u

theorem foldl_set_get : ∀ (us : List Value) (k off : Nat) (cells : Array Value), off + k + us.length ≤ cells.size → ∀ j,
    ((us.zipIdx k).foldl (fun (cs : Array Value) (p : Value × Nat) => cs.setIfInBounds (off + p.2) p.1) cells)[j]? = if off + k ≤ j ∧ j < off + k + us.length then us[j - (off + k)]? else cells[j]?
  | [], k, off, cells, _, j => by simp; omega
  | u :: us, k, off, cells, h, j => by
    simp only [List.length_cons] at h ⊢
    rw [List.zipIdx_cons, List.foldl_cons, foldl_set_get us (k + 1) off _ (by simp; omega)]
    by_cases h1 : off + (k + 1) ≤ j ∧ j < off + (k + 1) + us.length
    · rw [if_pos h1, if_pos (by omega)]
      have e : j - (off + k) = (j - (off + (k + 1))) + 1 := by omega
      rw [e, List.getElem?_cons_succ]
    · rw [if_neg h1, Array.getElem?_setIfInBounds]
      by_cases h2 : off + k = j
      · subst h2
        rw [if_pos rfl, if_pos (by omega), if_pos (by omega)]
        simp
      · rw [if_neg h2, if_neg (by omega)]

theorem foldl_set_size (off : Nat) : ∀ (us : List (Value × Nat)) (cells : Array Value), (us.foldl (fun (cs : Array Value) (p : Value × Nat) => cs.setIfInBounds (off + p.2) p.1) cells).size = cells.size
  | [], _ => rfl
  | u :: us, cells => by rw [List.foldl_cons, foldl_set_size off us]; simp

theorem fill_rel {R : Cell → Value → Prop} {place : Nat → Option (Nat × Nat)} : ∀ (ps : List (Nat × Nat × List Cell)) (vps : List (Nat × Value)) (cs cs' : List Cell) (cells : Array Value),
    fillC cs ps = some cs' → RelG R cs cells.toList → ps.length = vps.length →
    (∀ (j : Nat) (p : Nat × Nat × List Cell) (q : Nat × Value), ps[j]? = some p → vps[j]? = some q → place q.1 = some (p.1, p.2.1) ∧ RelG R p.2.2 q.2.cells.toList) →
    ∃ us, Instr.fill place cells vps = some us ∧ RelG R cs' us.toList
  | [], vps, cs, cs', cells, h, hr, hl, _ => by
    have : vps = [] := List.eq_nil_of_length_eq_zero hl.symm
    subst this
    simp only [fillC, Option.some.injEq] at h
    subst h
    exact ⟨cells, rfl, hr⟩
  | (off, size, us) :: ps, (i, v) :: vps, cs, cs', cells, h, hr, hl, hp => by
    simp only [fillC] at h
    split at h
    · rename_i hc
      obtain ⟨p1, p2⟩ := hp 0 _ _ rfl rfl
      have hvs : v.cells.size = size := by have := p2.1; simp only [Array.length_toList] at this; omega
      have hle : off + v.cells.size ≤ cells.size := by have := hr.1; simp only [Array.length_toList] at this; omega
      have key : RelG R (putC cs off us) (v.cells.zipIdx.foldl (fun cs (c, j) => cs.setIfInBounds (off + j) c) cells).toList := by
        refine ⟨?_, ?_⟩
        · rw [putC_length, hr.1, Array.length_toList, Array.length_toList, ← Array.foldl_toList, Array.toList_zipIdx]
          exact (foldl_set_size off _ cells).symm
        · intro j c u hj hu
          rw [putC_get _ _ _ (by omega)] at hj
          rw [← Array.foldl_toList, Array.toList_zipIdx, Array.getElem?_toList] at hu
          have hg := foldl_set_get v.cells.toList 0 off cells (by simpa using hle) j
          rw [show (v.cells.toList.zipIdx.foldl (fun (cs : Array Value) (x : Value × Nat) => match x with | (c, j) => cs.setIfInBounds (off + j) c) cells)[j]? = _ from hg] at hu
          simp only [Nat.add_zero, Array.length_toList] at hu
          have e : us.length = v.cells.size := by have := p2.1; simpa using this
          rw [e] at hj
          split at hj
          · rename_i hj2
            rw [if_pos hj2] at hu
            exact p2.2 _ _ _ hj hu
          · rename_i hj2
            rw [if_neg hj2] at hu
            exact hr.2 _ _ _ hj (by simpa using hu)
      obtain ⟨us', h1, h2⟩ := fill_rel ps vps (putC cs off us) cs' _ h key (by simpa using hl) (fun j p q h1 h2 => hp (j + 1) p q h1 h2)
      refine ⟨us', ?_, h2⟩
      rw [Instr.fill]
      simp only [p1]
      have hn : ¬ (v.cells.size ≠ size || off + v.cells.size > cells.size) = true := by simp; omega
      rw [if_neg hn]
      exact h1
    · cases h
  | _ :: _, [], _, _, _, _, _, hl, _ => by simp at hl

end
end Go.Proofs.Ytgmciihlmgeecaa.Mt
