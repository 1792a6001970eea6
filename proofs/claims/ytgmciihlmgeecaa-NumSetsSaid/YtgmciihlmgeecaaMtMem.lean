import Derived.Test.YtgmciihlmgeecaaMtRel
import Derived.Laws.CopyRow
/- The tables while memory turns: a new variable, one overwritten, a new row of the call's own, one overwritten, one that is another one from now on. Conditions: those that each lemma names. -/
namespace Go.Proofs.Ytgmciihlmgeecaa.Mt
open Go Go.RowKit

/-! ### Tables -/
section
variable {α : Type} {T : List (List α)} {d k : Nat}

theorem getD_set {T : List (List α)} {d : Nat} (hd : d < T.length) (x : List α) (d' : Nat) : (T.set d x).getD d' [] = if d' = d then x else T.getD d' [] := by
  simp only [List.getD_eq_getElem?_getD]
  by_cases e : d' = d
  · subst e; rw [List.getElem?_set_self hd, if_pos rfl]; rfl
  · rw [List.getElem?_set_ne (by omega), if_neg e]

theorem tat_lt {x : α} (h : tat T d k = some x) : d < T.length ∧ k < tlen T d := by
  unfold tat tlen at *
  have hk := (List.getElem?_eq_some_iff.1 h).1
  refine ⟨?_, hk⟩
  apply Classical.byContradiction
  intro hn
  rw [List.getD_eq_getElem?_getD, List.getElem?_eq_none (by omega)] at hk
  simp at hk

theorem tat_push (hd : d < T.length) (xs : List α) (d' k' : Nat) :
    tat (tpush T d xs) d' k' = if d' = d ∧ tlen T d ≤ k' then xs[k' - tlen T d]? else tat T d' k' := by
  unfold tat tpush tlen
  rw [getD_set hd]
  by_cases e : d' = d
  · subst e
    rw [if_pos rfl]
    by_cases h : (T.getD d' []).length ≤ k'
    · rw [if_pos ⟨rfl, h⟩, List.getElem?_append_right h]
    · rw [if_neg (fun x => h x.2), List.getElem?_append_left (by omega)]
  · rw [if_neg e, if_neg (fun x => e x.1)]

theorem tat_set {x : α} (h : tat T d k = some x) (y : α) (d' k' : Nat) : tat (tset T d k y) d' k' = if d' = d ∧ k' = k then some y else tat T d' k' := by
  have hd := (tat_lt h).1
  have hk := (tat_lt h).2
  unfold tat tset
  rw [getD_set hd]
  by_cases e : d' = d
  · subst e
    rw [if_pos rfl]
    by_cases e2 : k' = k
    · subst e2
      rw [if_pos ⟨rfl, rfl⟩, List.getElem?_set_self hk]
    · rw [if_neg (fun x => e2 x.2), List.getElem?_set_ne (by omega)]
  · rw [if_neg e, if_neg (fun x => e x.1)]

theorem tlen_set (d k : Nat) (y : α) (d' : Nat) : tlen (tset T d k y) d' = tlen T d' := by
  unfold tlen tset
  by_cases hd : d < T.length
  · rw [getD_set hd]
    split
    · rename_i e; subst e; simp
    · rfl
  · rw [List.set_eq_of_length_le (by omega)]

theorem tset_length (d k : Nat) (y : α) : (tset T d k y).length = T.length := by simp [tset]
theorem tpush_length (d : Nat) (xs : List α) : (tpush T d xs).length = T.length := by simp [tpush]

/-- Behind a write or a push the tables have what they had, or more. -/
theorem tat_push_old {x : α} (xs : List α) (d' : Nat) (h : tat T d k = some x) : tat (tpush T d' xs) d k = some x := by
  by_cases hd : d' < T.length
  · rw [tat_push hd, if_neg]
    · exact h
    · intro ⟨e, h2⟩
      subst e
      have := (tat_lt h).2
      omega
  · unfold tpush
    rw [List.set_eq_of_length_le (by omega)]
    exact h
end

/-! ### A part overwritten -/

theorem putC_length : ∀ (us cs : List Cell) (off : Nat), (putC cs off us).length = cs.length
  | [], cs, off => rfl
  | u :: us, cs, off => by rw [putC, putC_length us]; simp

theorem putC_get : ∀ (us cs : List Cell) (off : Nat), off + us.length ≤ cs.length → ∀ j, (putC cs off us)[j]? = if off ≤ j ∧ j < off + us.length then us[j - off]? else cs[j]?
  | [], cs, off, _, j => by rw [putC, if_neg (by first | (simp; done) | (simp; omega))]
  | u :: us, cs, off, h, j => by
    simp only [List.length_cons] at h ⊢
    rw [putC, putC_get us _ _ (by first | (simp; done) | (simp; omega))]
    by_cases h1 : off + 1 ≤ j ∧ j < off + 1 + us.length
    · rw [if_pos h1, if_pos (by omega)]
      have e : j - off = (j - (off + 1)) + 1 := by omega
      rw [e, List.getElem?_cons_succ]
    · rw [if_neg h1, List.getElem?_set]
      by_cases h2 : off = j
      · subst h2
        rw [if_pos rfl, if_pos (by omega), if_pos (by omega)]
        simp
      · rw [if_neg h2, if_neg (by omega)]

theorem splice_get {α : Type} (us cs : List α) (off : Nat) (h : off + us.length ≤ cs.length) (j : Nat) :
    (cs.take off ++ us ++ cs.drop (off + us.length))[j]? = if off ≤ j ∧ j < off + us.length then us[j - off]? else cs[j]? := by
  by_cases h1 : j < off
  · rw [if_neg (by omega), List.append_assoc, List.getElem?_append_left (by simp; omega), List.getElem?_take, if_pos h1]
  · by_cases h2 : j < off + us.length
    · rw [if_pos ⟨by omega, h2⟩, List.append_assoc, List.getElem?_append_right (by simp; omega), List.getElem?_append_left (by simp; omega)]
      simp
      congr 1
      omega
    · rw [if_neg (by omega), List.getElem?_append_right (by simp; omega), List.getElem?_drop]
      congr 1
      simp
      omega

theorem splice_length {α : Type} (us cs : List α) (off : Nat) (h : off + us.length ≤ cs.length) : (cs.take off ++ us ++ cs.drop (off + us.length)).length = cs.length := by
  simp; omega

theorem overC_spec {cs us cs' : List Cell} {off : Nat} (h : overC cs off us = some cs') :
    off + us.length ≤ cs.length ∧ cs'.length = cs.length ∧ ∀ j, cs'[j]? = if off ≤ j ∧ j < off + us.length then us[j - off]? else cs[j]? := by
  unfold overC at h
  split at h
  · rename_i hl
    simp only [Option.some.injEq] at h
    split at h
    · rename_i he
      subst h
      have : off = 0 := by omega
      subst this
      refine ⟨hl, he, fun j => ?_⟩
      by_cases hj : j < us.length
      · rw [if_pos (by omega)]; rfl
      · rw [if_neg (by omega), List.getElem?_eq_none (by omega), List.getElem?_eq_none (by omega)]
    · subst h
      exact ⟨hl, putC_length .., putC_get _ _ _ hl⟩
  · exact absurd h (by simp)

theorem RelL.over {w : World} {E : Env} {cs us cs' : List Cell} {vs ws : List Value} {off : Nat} (h : RelL w E cs vs) (hu : RelL w E us ws) (ho : overC cs off us = some cs') :
    RelL w E cs' (vs.take off ++ ws ++ vs.drop (off + ws.length)) := by
  obtain ⟨h1, h2, h3⟩ := overC_spec ho
  have hl : off + ws.length ≤ vs.length := by rw [← hu.1, ← h.1]; exact h1
  refine ⟨by rw [splice_length _ _ _ hl, h2, h.1], fun j c u hc hx => ?_⟩
  rw [h3] at hc
  rw [splice_get _ _ _ hl] at hx
  rw [hu.1] at hc
  split at hc
  · rename_i hj
    rw [if_pos hj] at hx
    exact hu.2 _ _ _ hc hx
  · rename_i hj
    rw [if_neg hj] at hx
    exact h.2 _ _ _ hc hx

theorem RelP.over {w : World} {F : Nat → Prop} {cs us cs' : List Cell} {vs ws : List Value} {off : Nat} (h : RelP w F cs vs) (hu : RelP w F us ws) (ho : overC cs off us = some cs') :
    RelP w F cs' (vs.take off ++ ws ++ vs.drop (off + ws.length)) := by
  obtain ⟨h1, h2, h3⟩ := overC_spec ho
  have hl : off + ws.length ≤ vs.length := by rw [← hu.1, ← h.1]; exact h1
  refine ⟨by rw [splice_length _ _ _ hl, h2, h.1], fun j c u hc hx => ?_⟩
  rw [h3] at hc
  rw [splice_get _ _ _ hl] at hx
  rw [hu.1] at hc
  split at hc
  · rename_i hj
    rw [if_pos hj] at hx
    exact hu.2 _ _ _ hc hx
  · rename_i hj
    rw [if_neg hj] at hx
    exact h.2 _ _ _ hc hx

theorem RelP.append {w : World} {F : Nat → Prop} {cs us : List Cell} {vs ws : List Value} (h : RelP w F cs vs) (hu : RelP w F us ws) : RelP w F (cs ++ us) (vs ++ ws) := by
  refine ⟨by simp [h.1, hu.1], fun j c u hc hx => ?_⟩
  by_cases hj : j < cs.length
  · rw [List.getElem?_append_left hj] at hc
    rw [List.getElem?_append_left (by rw [← h.1]; exact hj)] at hx
    exact h.2 _ _ _ hc hx
  · rw [List.getElem?_append_right (by omega)] at hc
    rw [List.getElem?_append_right (by rw [← h.1]; omega), ← h.1] at hx
    exact hu.2 _ _ _ hc hx

theorem RelL.one {w : World} {E : Env} {cs : List Cell} {us : List Value} (h : RelL w E cs us) : ∀ v ∈ us, v.oneCell' = true := by
  intro v hv
  obtain ⟨j, hj⟩ := List.getElem?_of_mem hv
  have hlt := (List.getElem?_eq_some_iff.1 hj).1
  exact (h.2 j _ v (List.getElem?_eq_getElem (by rw [h.1]; exact hlt)) hj).one
theorem RelP.one {w : World} {F : Nat → Prop} {cs : List Cell} {us : List Value} (h : RelP w F cs us) : ∀ v ∈ us, v.oneCell' = true := by
  intro v hv
  obtain ⟨j, hj⟩ := List.getElem?_of_mem hv
  have hlt := (List.getElem?_eq_some_iff.1 hj).1
  exact (h.2 j _ v (List.getElem?_eq_getElem (by rw [h.1]; exact hlt)) hj).one

/-! ### The tables while memory turns -/
section
variable {W0 : Base} {S0 : Nat → Prop} {φ : Nat → Nat → Nat} {γ : Nat → Nat → Value} {st st' : St} {w w' : World}

/-- A row of its own lies below the heap's end. -/
theorem Mem.tlt (h : Mem W0 S0 φ γ st w) {d k : Nat} {t : Tok} (ht : tat st.tk d k = some t) (hl : t.live = true) {b : Nat} (hb : (γ d k).ownBlock = some b) : W0.w.heap.size ≤ b ∧ b < w.heap.size := by
  obtain ⟨xs, ho, _⟩ := h.tks d k t ht hl
  exact ho.lt b hb

theorem Mem.blt (h : Mem W0 S0 φ γ st w) {d k : Nat} {cs : List Cell} (hc : tat st.bx d k = some cs) : φ d k < w.heap.size := by
  obtain ⟨_, us, T, hg, _⟩ := h.bxs d k cs hc
  exact (Array.getElem?_eq_some_iff.1 hg).1

/-- Memory grows, no variable and no row of one's own being touched; new rows of one's own may come: they lie beyond the heap's old end. -/
theorem Mem.grow (h : Mem W0 S0 φ γ st w) (hb : Below w.heap.size w w') : Mem W0 S0 φ γ st w' ∧ Le w (envOf W0 S0 φ γ st w) w' (envOf W0 S0 φ γ st w') := by
  have hsz : W0.w.heap.size ≤ w.heap.size := h.bel.size
  have hle : Le w (envOf W0 S0 φ γ st w) w' (envOf W0 S0 φ γ st w') :=
    ⟨fun b hF => ⟨⟨Nat.lt_of_lt_of_le hF.1 hb.size, hF.2.1, hF.2.2.1, hF.2.2.2⟩, hb.block b hF.1⟩, fun d k hB => ⟨hB, rfl⟩, fun d k hT => ⟨hT, rfl⟩⟩
  refine ⟨⟨h.bel.below hb, fun d k cs hc => ?_, h.bxi, fun d k t ht hl => ?_, h.tki, h.tkb⟩, hle⟩
  · obtain ⟨h1, us, T, hg, hr⟩ := h.bxs d k cs hc
    exact ⟨h1, us, T, by rw [hb.block _ (Array.getElem?_eq_some_iff.1 hg).1]; exact hg, hr.mono hle⟩
  · obtain ⟨xs, ho, hr⟩ := h.tks d k t ht hl
    refine ⟨xs, ho.kept (row := none) ⟨hb.os, hb.tape, hb.output, hb.size, fun k hk _ => hb.block k hk⟩ (by cases (γ d k).ownBlock <;> simp), hr.mono hle.f⟩

/-- A new variable. -/
theorem Mem.newBox (h : Mem W0 S0 φ γ st w) {d : Nat} (hd : d < st.bx.length) {cs : List Cell} {us : List Value} (T : Nat) (hr : RelL w (envOf W0 S0 φ γ st w) cs us) (tm : List CV) :
    let st' : St := { tm := tm, bx := tpush st.bx d [cs], tk := st.tk }
    let φ' := fun d' k' => if d' = d ∧ k' = tlen st.bx d then w.heap.size else φ d' k'
    let w' := w.alloc (.cells us.toArray T)
    Mem W0 S0 φ' γ st' w' ∧ Le w (envOf W0 S0 φ γ st w) w' (envOf W0 S0 φ' γ st' w') := by
  intro st' φ' w'
  have hsz : W0.w.heap.size ≤ w.heap.size := h.bel.size
  have hb : Below w.heap.size w w' := (Below.refl _ _).alloc (Nat.le_refl _) _
  have hold : ∀ d' k' cs', tat st.bx d' k' = some cs' → φ' d' k' = φ d' k' ∧ ¬ (d' = d ∧ tlen st.bx d ≤ k') := by
    intro d' k' cs' hc
    have hlt := (tat_lt hc).2
    refine ⟨if_neg ?_, ?_⟩
    · rintro ⟨rfl, rfl⟩; omega
    · rintro ⟨rfl, h2⟩; omega
  have hcase : ∀ d' k' cs', tat st'.bx d' k' = some cs' → (tat st.bx d' k' = some cs' ∧ φ' d' k' = φ d' k') ∨ (d' = d ∧ k' = tlen st.bx d ∧ cs' = cs ∧ φ' d' k' = w.heap.size) := by
    intro d' k' cs' hc
    rw [show st'.bx = tpush st.bx d [cs] from rfl, tat_push hd] at hc
    split at hc
    · rename_i he
      have hk : k' - tlen st.bx d = 0 := by
        apply Classical.byContradiction
        intro hn
        rw [List.getElem?_eq_none (by simp; omega)] at hc
        simp at hc
      rw [hk] at hc
      simp at hc
      have hk2 : k' = tlen st.bx d := by omega
      exact .inr ⟨he.1, hk2, hc.symm, if_pos ⟨he.1, hk2⟩⟩
    · exact .inl ⟨hc, (hold d' k' cs' hc).1⟩
  have hle : Le w (envOf W0 S0 φ γ st w) w' (envOf W0 S0 φ' γ st' w') := by
    refine ⟨fun b hF => ⟨⟨Nat.lt_of_lt_of_le hF.1 hb.size, hF.2.1, fun d' k' cs' hc => ?_, hF.2.2.2⟩, hb.block b hF.1⟩, fun d' k' hB => ?_, fun d' k' hT => ⟨hT, rfl⟩⟩
    · rcases hcase d' k' cs' hc with ⟨h1, h2⟩ | ⟨_, _, _, h4⟩
      · rw [h2]; exact hF.2.2.1 d' k' cs' h1
      · rw [h4]; exact Nat.ne_of_gt hF.1
    · obtain ⟨cs', hc⟩ := hB
      exact ⟨⟨cs', tat_push_old _ _ hc⟩, (hold d' k' cs' hc).1⟩
  refine ⟨⟨h.bel.below hb, fun d' k' cs' hc => ?_, fun d1 k1 cs1 d2 k2 cs2 h1 h2 he => ?_, fun d' k' t ht hl => ?_, h.tki, fun d1 k1 t d2 k2 cs2 h1 hl h2 => ?_⟩, hle⟩
  · rcases hcase d' k' cs' hc with ⟨h1, h2⟩ | ⟨rfl, rfl, rfl, h4⟩
    · obtain ⟨g1, us', T', hg, hr'⟩ := h.bxs d' k' cs' h1
      rw [h2]
      exact ⟨g1, us', T', by rw [hb.block _ (Array.getElem?_eq_some_iff.1 hg).1]; exact hg, hr'.mono hle⟩
    · rw [h4]
      refine ⟨.inl hsz, us.toArray, T, heap_alloc_new w _, ?_⟩
      simpa using hr.mono hle
  · rcases hcase d1 k1 cs1 h1 with ⟨a1, a2⟩ | ⟨rfl, rfl, rfl, a4⟩ <;> rcases hcase d2 k2 cs2 h2 with ⟨b1, b2⟩ | ⟨rfl, rfl, rfl, b4⟩
    · rw [a2, b2] at he; exact h.bxi _ _ _ _ _ _ a1 b1 he
    · rw [a2, b4] at he; have := h.blt a1; omega
    · rw [a4, b2] at he; have := h.blt b1; omega
    · exact ⟨rfl, rfl⟩
  · obtain ⟨xs, ho, hr'⟩ := h.tks d' k' t ht hl
    exact ⟨xs, ho.alloc _, hr'.mono hle.f⟩
  · intro hb'
    rcases hcase d2 k2 cs2 h2 with ⟨b1, b2⟩ | ⟨rfl, rfl, rfl, b4⟩
    · rw [b2] at hb'; exact h.tkb _ _ _ _ _ _ h1 hl b1 hb'
    · rw [b4] at hb'; have := (h.tlt h1 hl hb').2; omega

/-- A variable is overwritten, and nothing else that there was. -/
theorem Mem.writeAny (h : Mem W0 S0 φ γ st w) {i k : Nat} {old cs : List Cell} (ho : tat st.bx i k = some old) {us : List Value} (hr : RelL w (envOf W0 S0 φ γ st w) cs us) (tm : List CV) {w' : World} {T0 : TypeId}
    (ha : w'.heap[φ i k]? = some (.cells us.toArray T0 (0, 0))) (h1 : w'.os = w.os) (h2 : w'.tape = w.tape) (h3 : w'.output = w.output) (h4 : w.heap.size ≤ w'.heap.size) (h5 : ∀ b, b < w.heap.size → b ≠ φ i k → w'.heap[b]? = w.heap[b]?) :
    let st' : St := { tm := tm, bx := tset st.bx i k cs, tk := st.tk }
    Mem W0 S0 φ γ st' w' ∧ Le w (envOf W0 S0 φ γ st w) w' (envOf W0 S0 φ γ st' w') := by
  intro st'
  have hsz : W0.w.heap.size ≤ w.heap.size := h.bel.size
  obtain ⟨g1, _⟩ := h.bxs i k old ho
  have hcase : ∀ d' k' cs', tat st'.bx d' k' = some cs' → (d' = i ∧ k' = k ∧ cs' = cs) ∨ (¬ (d' = i ∧ k' = k) ∧ tat st.bx d' k' = some cs') := by
    intro d' k' cs' hc
    rw [show st'.bx = tset st.bx i k cs from rfl, tat_set ho] at hc
    split at hc
    · rename_i he; simp at hc; exact .inl ⟨he.1, he.2, hc.symm⟩
    · rename_i he; exact .inr ⟨he, hc⟩
  have hnew : ∀ d' k' cs', tat st.bx d' k' = some cs' → ∃ cs'', tat st'.bx d' k' = some cs'' := by
    intro d' k' cs' hc
    rw [show st'.bx = tset st.bx i k cs from rfl, tat_set ho]
    split
    · exact ⟨_, rfl⟩
    · exact ⟨_, hc⟩
  have hback : ∀ d' k' cs', tat st'.bx d' k' = some cs' → ∃ cs'', tat st.bx d' k' = some cs'' := by
    intro d' k' cs' hc
    rcases hcase d' k' cs' hc with ⟨rfl, rfl, rfl⟩ | ⟨_, h2⟩
    · exact ⟨_, ho⟩
    · exact ⟨_, h2⟩
  have hle : Le w (envOf W0 S0 φ γ st w) w' (envOf W0 S0 φ γ st' w') := by
    refine ⟨fun b hF => ⟨⟨Nat.lt_of_lt_of_le hF.1 h4, hF.2.1, fun d' k' cs' hc => ?_, hF.2.2.2⟩, h5 b hF.1 (fun e => hF.2.2.1 i k old ho e.symm)⟩, fun d' k' hB => ?_, fun d' k' hT => ⟨hT, rfl⟩⟩
    · obtain ⟨cs'', h2⟩ := hback d' k' cs' hc
      exact hF.2.2.1 d' k' cs'' h2
    · obtain ⟨cs', hc⟩ := hB
      exact ⟨hnew d' k' cs' hc, rfl⟩
  refine ⟨⟨h.bel.trans h1 h2 h3 h4 (fun b hb hx => h5 b (Nat.lt_of_lt_of_le hb hsz) (fun e => by subst e; rcases g1 with g1 | g1 <;> first | omega | exact hx g1)), fun d' k' cs' hc => ?_, fun d1 k1 cs1 d2 k2 cs2 h1 h2 he => ?_, fun d' k' t ht hl => ?_, h.tki, fun d1 k1 t d2 k2 cs2 h1 hl h2 => ?_⟩, hle⟩
  · rcases hcase d' k' cs' hc with ⟨rfl, rfl, rfl⟩ | ⟨hne, h2⟩
    · refine ⟨g1, us.toArray, T0, ha, ?_⟩
      simpa using hr.mono hle
    · obtain ⟨b1, us', T', hg', hr'⟩ := h.bxs d' k' cs' h2
      refine ⟨b1, us', T', ?_, hr'.mono hle⟩
      rw [h5 _ (Array.getElem?_eq_some_iff.1 hg').1 (fun e => hne (h.bxi _ _ _ _ _ _ h2 ho e))]
      exact hg'
  · obtain ⟨c1, e1⟩ := hback _ _ _ h1
    obtain ⟨c2, e2⟩ := hback _ _ _ h2
    exact h.bxi _ _ _ _ _ _ e1 e2 he
  · obtain ⟨xs, hown, hr'⟩ := h.tks d' k' t ht hl
    refine ⟨xs, hown.kept (row := some (φ i k)) ⟨h1, h2, h3, h4, fun b hlt hb => h5 b hlt (fun e => hb (by rw [e]))⟩ ?_, hr'.mono hle.f⟩
    cases hq : (γ d' k').ownBlock with
    | none => exact .inl rfl
    | some b => exact .inr (by rw [← hq]; exact h.tkb _ _ _ _ _ _ ht hl ho)
  · obtain ⟨c2, e2⟩ := hback _ _ _ h2
    exact h.tkb _ _ _ _ _ _ h1 hl e2

/-- A variable is overwritten. -/
theorem Mem.writeBox (h : Mem W0 S0 φ γ st w) {i k : Nat} {old cs : List Cell} (ho : tat st.bx i k = some old) {us : List Value} (hr : RelL w (envOf W0 S0 φ γ st w) cs us) (tm : List CV) :
    let st' : St := { tm := tm, bx := tset st.bx i k cs, tk := st.tk }
    let w' := w.setRow (φ i k) us.toArray
    Mem W0 S0 φ γ st' w' ∧ Le w (envOf W0 S0 φ γ st w) w' (envOf W0 S0 φ γ st' w') := by
  obtain ⟨_, us0, T0, hg, _⟩ := h.bxs i k old ho
  exact h.writeAny ho hr tm (setRow_heap w _ _ _ _ _ hg) rfl rfl rfl (by simp) fun b _ hb => setRow_other w _ _ _ hb

/-- New rows of one's own: each lies beyond what the other ones lie in. -/
theorem Mem.newToks (h : Mem W0 S0 φ γ st w) (hb : Below w.heap.size w w') {d : Nat} (hd : d < st.tk.length) {ts : List Tok} (γn : Nat → Value) (tm : List CV)
    (hnew : ∀ (j : Nat) (t : Tok), ts[j]? = some t → ∃ xs, w'.ownsRow w.heap.size t.e t.sz (γn j) t.n xs ∧ RelP w' (fun b => b < w'.heap.size ∧ (b < w.heap.size → Fx W0 S0 φ γ st w b) ∧ ∀ (j' : Nat) (t' : Tok), ts[j']? = some t' → (γn j').ownBlock ≠ some b) t.cs xs)
    (hdis : ∀ (j : Nat) (t : Tok) (j' : Nat) (t' : Tok) b, ts[j]? = some t → ts[j']? = some t' → (γn j).ownBlock = some b → (γn j').ownBlock = some b → j = j') :
    let st' : St := { tm := tm, bx := st.bx, tk := tpush st.tk d ts }
    let γ' := fun d' k' => if d' = d ∧ tlen st.tk d ≤ k' then γn (k' - tlen st.tk d) else γ d' k'
    Mem W0 S0 φ γ' st' w' ∧ Le w (envOf W0 S0 φ γ st w) w' (envOf W0 S0 φ γ' st' w') ∧
      ∀ b, b < w'.heap.size → (b < w.heap.size → Fx W0 S0 φ γ st w b) → (∀ (j' : Nat) (t' : Tok), ts[j']? = some t' → (γn j').ownBlock ≠ some b) → Fx W0 S0 φ γ' st' w' b := by
  intro st' γ'
  have hsz : W0.w.heap.size ≤ w.heap.size := h.bel.size
  have hold : ∀ d' k' t', tat st.tk d' k' = some t' → γ' d' k' = γ d' k' := by
    intro d' k' t' hc
    have hlt := (tat_lt hc).2
    refine if_neg ?_
    rintro ⟨rfl, h2⟩; omega
  have hcase : ∀ d' k' t', tat st'.tk d' k' = some t' → (tat st.tk d' k' = some t' ∧ γ' d' k' = γ d' k') ∨ (∃ j, d' = d ∧ k' = tlen st.tk d + j ∧ ts[j]? = some t' ∧ γ' d' k' = γn j) := by
    intro d' k' t' hc
    rw [show st'.tk = tpush st.tk d ts from rfl, tat_push hd] at hc
    split at hc
    · rename_i he
      refine .inr ⟨k' - tlen st.tk d, he.1, by omega, hc, if_pos he⟩
    · exact .inl ⟨hc, hold _ _ _ hc⟩
  have hfar : ∀ (j : Nat) (t : Tok), ts[j]? = some t → ∀ b, (γn j).ownBlock = some b → w.heap.size ≤ b ∧ b < w'.heap.size := by
    intro j t hj b hb'
    obtain ⟨xs, ho, _⟩ := hnew j t hj
    exact ho.lt b hb'
  have hF : ∀ b, b < w'.heap.size → (b < w.heap.size → Fx W0 S0 φ γ st w b) → (∀ (j' : Nat) (t' : Tok), ts[j']? = some t' → (γn j').ownBlock ≠ some b) → Fx W0 S0 φ γ' st' w' b := by
    intro b h1 h2 h3
    refine ⟨h1, fun hlt => (h2 (by omega)).2.1 hlt, fun d' k' cs hc => ?_, fun d' k' t ht hl => ?_⟩
    · have := h.blt hc
      intro e
      exact (h2 (by omega)).2.2.1 d' k' cs hc e
    · rcases hcase d' k' t ht with ⟨a1, a2⟩ | ⟨j, rfl, rfl, a3, a4⟩
      · rw [a2]
        intro e
        have := (h.tlt a1 hl e).2
        exact (h2 this).2.2.2 d' k' t a1 hl e
      · rw [a4]; exact h3 j t a3
  have hle : Le w (envOf W0 S0 φ γ st w) w' (envOf W0 S0 φ γ' st' w') := by
    refine ⟨fun b hFb => ⟨hF b (Nat.lt_of_lt_of_le hFb.1 hb.size) (fun _ => hFb) (fun j' t' hj e => ?_), hb.block b hFb.1⟩, fun d' k' hB => ⟨hB, rfl⟩, fun d' k' hT => ?_⟩
    · have := (hfar j' t' hj b e).1
      have := hFb.1
      omega
    · obtain ⟨t, ht⟩ := hT
      exact ⟨⟨t, tat_push_old _ _ ht⟩, hold _ _ _ ht⟩
  refine ⟨⟨h.bel.below hb, fun d' k' cs hc => ?_, h.bxi, fun d' k' t ht hl => ?_, fun d1 k1 t1 d2 k2 t2 b h1 l1 h2 l2 e1 e2 => ?_, fun d1 k1 t d2 k2 cs2 h1 hl h2 e => ?_⟩, hle, hF⟩
  · obtain ⟨g1, us', T', hg, hr'⟩ := h.bxs d' k' cs hc
    exact ⟨g1, us', T', by rw [hb.block _ (Array.getElem?_eq_some_iff.1 hg).1]; exact hg, hr'.mono hle⟩
  · rcases hcase d' k' t ht with ⟨a1, a2⟩ | ⟨j, rfl, rfl, a3, a4⟩
    · obtain ⟨xs, ho, hr'⟩ := h.tks d' k' t a1 hl
      rw [a2]
      exact ⟨xs, ho.kept (row := none) ⟨hb.os, hb.tape, hb.output, hb.size, fun k hk _ => hb.block k hk⟩ (by cases (γ d' k').ownBlock <;> simp), hr'.mono hle.f⟩
    · obtain ⟨xs, ho, hr'⟩ := hnew j t a3
      rw [a4]
      refine ⟨xs, ?_, hr'.mono fun b hb' => ⟨hF b hb'.1 hb'.2.1 hb'.2.2, rfl⟩⟩
      obtain ⟨o1, o2⟩ := ho
      refine ⟨o1, o2.imp id ?_⟩
      rintro ⟨g, cap, cur, p1, p2, p3⟩
      exact ⟨g, cap, cur, p1, by omega, p3⟩
  · rcases hcase d1 k1 t1 h1 with ⟨a1, a2⟩ | ⟨j1, rfl, rfl, a3, a4⟩ <;> rcases hcase d2 k2 t2 h2 with ⟨b1, b2⟩ | ⟨j2, rfl, rfl, b3, b4⟩
    · rw [a2] at e1; rw [b2] at e2; exact h.tki _ _ _ _ _ _ _ a1 l1 b1 l2 e1 e2
    · rw [a2] at e1; rw [b4] at e2; have := (h.tlt a1 l1 e1).2; have := (hfar _ _ b3 _ e2).1; omega
    · rw [a4] at e1; rw [b2] at e2; have := (h.tlt b1 l2 e2).2; have := (hfar _ _ a3 _ e1).1; omega
    · rw [a4] at e1; rw [b4] at e2; have := hdis _ _ _ _ _ a3 b3 e1 e2; exact ⟨rfl, by omega⟩
  · rcases hcase d1 k1 t h1 with ⟨a1, a2⟩ | ⟨j1, rfl, rfl, a3, a4⟩
    · rw [a2] at e; exact h.tkb _ _ _ _ _ _ a1 hl h2 e
    · rw [a4] at e; have := (hfar _ _ a3 _ e).1; have := h.blt h2; omega

/-- A row is no longer the newest of its kind: what lies in it stays. -/
theorem Mem.kill (h : Mem W0 S0 φ γ st w) {i k : Nat} {t t' : Tok} (ht : tat st.tk i k = some t) (hl : t'.live = false) (tm : List CV) :
    let st' : St := { tm := tm, bx := st.bx, tk := tset st.tk i k t' }
    Mem W0 S0 φ γ st' w ∧ Le w (envOf W0 S0 φ γ st w) w (envOf W0 S0 φ γ st' w) ∧
      ∀ b, (b < w.heap.size ∧ (b < W0.w.heap.size → S0 b) ∧ (∀ d k cs, tat st.bx d k = some cs → φ d k ≠ b) ∧ ∀ d' k' t, tat st.tk d' k' = some t → t.live = true → ¬ (d' = i ∧ k' = k) → (γ d' k').ownBlock ≠ some b) → Fx W0 S0 φ γ st' w b := by
  intro st'
  have hcase : ∀ d' k' u, tat st'.tk d' k' = some u → (d' = i ∧ k' = k ∧ u = t') ∨ (¬ (d' = i ∧ k' = k) ∧ tat st.tk d' k' = some u) := by
    intro d' k' u hc
    rw [show st'.tk = tset st.tk i k t' from rfl, tat_set ht] at hc
    split at hc
    · rename_i he; simp at hc; exact .inl ⟨he.1, he.2, hc.symm⟩
    · rename_i he; exact .inr ⟨he, hc⟩
  have hF : ∀ b, (b < w.heap.size ∧ (b < W0.w.heap.size → S0 b) ∧ (∀ d k cs, tat st.bx d k = some cs → φ d k ≠ b) ∧ ∀ d' k' t, tat st.tk d' k' = some t → t.live = true → ¬ (d' = i ∧ k' = k) → (γ d' k').ownBlock ≠ some b) → Fx W0 S0 φ γ st' w b := by
    intro b hb
    refine ⟨hb.1, hb.2.1, hb.2.2.1, fun d' k' u hu hul => ?_⟩
    rcases hcase d' k' u hu with ⟨rfl, rfl, rfl⟩ | ⟨hne, h2⟩
    · rw [hl] at hul; cases hul
    · exact hb.2.2.2 d' k' u h2 hul hne
  have hle : Le w (envOf W0 S0 φ γ st w) w (envOf W0 S0 φ γ st' w) := by
    refine ⟨fun b hFb => ⟨hF b ⟨hFb.1, hFb.2.1, hFb.2.2.1, fun d' k' u hu hul _ => hFb.2.2.2 d' k' u hu hul⟩, rfl⟩, fun d' k' hB => ⟨hB, rfl⟩, fun d' k' hT => ⟨?_, rfl⟩⟩
    obtain ⟨u, hu⟩ := hT
    show ∃ t, tat (tset st.tk i k t') d' k' = some t
    rw [tat_set ht]
    split
    · exact ⟨_, rfl⟩
    · exact ⟨_, hu⟩
  refine ⟨⟨h.bel, fun d' k' cs hc => ?_, h.bxi, fun d' k' u hu hul => ?_, fun d1 k1 t1 d2 k2 t2 b h1 l1 h2 l2 e1 e2 => ?_, fun d1 k1 u d2 k2 cs2 h1 hul h2 => ?_⟩, hle, hF⟩
  · obtain ⟨g1, us', T', hg, hr'⟩ := h.bxs d' k' cs hc
    exact ⟨g1, us', T', hg, hr'.mono hle⟩
  · rcases hcase d' k' u hu with ⟨rfl, rfl, rfl⟩ | ⟨hne, h2⟩
    · rw [hl] at hul; cases hul
    · obtain ⟨xs, ho, hr'⟩ := h.tks d' k' u h2 hul
      exact ⟨xs, ho, hr'.mono hle.f⟩
  · rcases hcase d1 k1 t1 h1 with ⟨rfl, rfl, rfl⟩ | ⟨_, a2⟩
    · rw [hl] at l1; cases l1
    · rcases hcase d2 k2 t2 h2 with ⟨rfl, rfl, rfl⟩ | ⟨_, b2⟩
      · rw [hl] at l2; cases l2
      · exact h.tki _ _ _ _ _ _ _ a2 l1 b2 l2 e1 e2
  · rcases hcase d1 k1 u h1 with ⟨rfl, rfl, rfl⟩ | ⟨_, a2⟩
    · rw [hl] at hul; cases hul
    · exact h.tkb _ _ _ _ _ _ a2 hul h2

/-- A row of one's own has other cells, in its own block. -/
theorem Mem.writeTok (h : Mem W0 S0 φ γ st w) {i k : Nat} {t : Tok} (ht : tat st.tk i k = some t) (htl : t.live = true) {g : Nat} (hg : (γ i k).ownBlock = some g) {cs' : List Cell} {xs' : List Value}
    (hw : w.grownBy w' (some g)) (hsize : w'.heap.size = w.heap.size) (ho : w'.ownsRow W0.w.heap.size t.e t.sz (γ i k) t.n xs') (hr : RelP w (Fx W0 S0 φ γ st w) cs' xs') (tm : List CV) :
    let st' : St := { tm := tm, bx := st.bx, tk := tset st.tk i k { t with cs := cs' } }
    Mem W0 S0 φ γ st' w' ∧ Le w (envOf W0 S0 φ γ st w) w' (envOf W0 S0 φ γ st' w') := by
  intro st'
  have hsz : W0.w.heap.size ≤ w.heap.size := h.bel.size
  have hgl := h.tlt ht htl hg
  have hsame : ∀ b, b < w.heap.size → b ≠ g → w'.heap[b]? = w.heap[b]? := fun b hb hne => hw.block b hb (fun e => hne (Option.some.inj e))
  have hcase : ∀ d' k' u, tat st'.tk d' k' = some u → (d' = i ∧ k' = k ∧ u = { t with cs := cs' }) ∨ (¬ (d' = i ∧ k' = k) ∧ tat st.tk d' k' = some u) := by
    intro d' k' u hc
    rw [show st'.tk = tset st.tk i k { t with cs := cs' } from rfl, tat_set ht] at hc
    split at hc
    · rename_i he; simp at hc; exact .inl ⟨he.1, he.2, hc.symm⟩
    · rename_i he; exact .inr ⟨he, hc⟩
  have hback : ∀ d' k' u, tat st'.tk d' k' = some u → u.live = true → ∃ u', tat st.tk d' k' = some u' ∧ u'.live = true := by
    intro d' k' u hu hul
    rcases hcase d' k' u hu with ⟨rfl, rfl, rfl⟩ | ⟨_, h2⟩
    · exact ⟨t, ht, htl⟩
    · exact ⟨u, h2, hul⟩
  have hle : Le w (envOf W0 S0 φ γ st w) w' (envOf W0 S0 φ γ st' w') := by
    refine ⟨fun b hFb => ⟨⟨by rw [hsize]; exact hFb.1, hFb.2.1, hFb.2.2.1, fun d' k' u hu hul => ?_⟩, hsame b hFb.1 (fun e => hFb.2.2.2 i k t ht htl (by rw [hg, e]))⟩, fun d' k' hB => ⟨hB, rfl⟩, fun d' k' hT => ⟨?_, rfl⟩⟩
    · obtain ⟨u', h1, h2⟩ := hback d' k' u hu hul
      exact hFb.2.2.2 d' k' u' h1 h2
    · obtain ⟨u, hu⟩ := hT
      show ∃ t, tat (tset st.tk i k _) d' k' = some t
      rw [tat_set ht]
      split
      · exact ⟨_, rfl⟩
      · exact ⟨_, hu⟩
  refine ⟨⟨h.bel.trans hw.os hw.tape hw.output hw.size (fun b hb _ => hsame b (by omega) (by omega)), fun d' k' cs hc => ?_, h.bxi, fun d' k' u hu hul => ?_, fun d1 k1 t1 d2 k2 t2 b h1 l1 h2 l2 e1 e2 => ?_, fun d1 k1 u d2 k2 cs2 h1 hul h2 => ?_⟩, hle⟩
  · obtain ⟨g1, us', T', hg', hr'⟩ := h.bxs d' k' cs hc
    refine ⟨g1, us', T', ?_, hr'.mono hle⟩
    rw [hsame _ (Array.getElem?_eq_some_iff.1 hg').1 (fun e => h.tkb _ _ _ _ _ _ ht htl hc (by rw [hg, e]))]
    exact hg'
  · rcases hcase d' k' u hu with ⟨rfl, rfl, rfl⟩ | ⟨hne, h2⟩
    · exact ⟨xs', ho, hr.mono hle.f⟩
    · obtain ⟨xs, ho', hr'⟩ := h.tks d' k' u h2 hul
      refine ⟨xs, ho'.kept (row := some g) hw ?_, hr'.mono hle.f⟩
      cases hq : (γ d' k').ownBlock with
      | none => exact .inl rfl
      | some b =>
        refine .inr fun e => hne ?_
        rw [Option.some.inj e] at hq
        exact h.tki _ _ _ _ _ _ _ h2 hul ht htl hq hg
  · obtain ⟨u1, a1, a2⟩ := hback _ _ _ h1 l1
    obtain ⟨u2, b1, b2⟩ := hback _ _ _ h2 l2
    exact h.tki _ _ _ _ _ _ _ a1 a2 b1 b2 e1 e2
  · obtain ⟨u1, a1, a2⟩ := hback _ _ _ h1 hul
    exact h.tkb _ _ _ _ _ _ a1 a2 h2
end

end Go.Proofs.Ytgmciihlmgeecaa.Mt
