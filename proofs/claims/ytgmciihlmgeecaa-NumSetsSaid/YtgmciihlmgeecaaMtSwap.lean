import Derived.Test.YtgmciihlmgeecaaMtStep
/- Two operations that don't touch each other's slots, variables and rows may come in either order. Conditions: those that each lemma names. -/
namespace Go.Proofs.Ytgmciihlmgeecaa.Mt
open Go Go.RowKit
section
variable {C : Ctx} {d : Nat} {st st' : St}

def RefT (v : CV) (d k : Nat) : Prop := v = .one (.own d k) ∨ (∃ off, v = .elo d k off) ∨ ∃ cs, v = .agg cs ∧ Cell.own d k ∈ cs

theorem getX_eq {s : SX} (h : ∀ i ∈ sxT s, st'.tm.getD i .no = st.tm.getD i .no) : getX st' s = getX st s := by
  cases s with
  | t i => exact h i (by simp [sxT])
  | _ => rfl

def KeepT (st st' : St) (v : CV) : Prop := ∀ d k t, RefT v d k → liveTok st d k = some t → liveTok st' d k = some t

theorem contents_mono {c : Cell} {p : Nat × List Cell} (hT : KeepT st st' (.one c)) (h : contents st c = some p) : contents st' c = some p := by
  cases c with
  | own d k =>
    simp only [contents, Option.map_eq_some_iff] at h ⊢
    obtain ⟨t, ht, rfl⟩ := h
    exact ⟨t, hT d k t (.inl rfl) ht, rfl⟩
  | v x => cases x <;> first | exact h | (rename_i A n c; cases A <;> cases n <;> cases c <;> exact h)
  | sl n cs => exact h
  | dead => exact h

theorem shareC_mono {c c' : Cell} (hT : ∀ d k t, c = .own d k → liveTok st d k = some t → liveTok st' d k = some t) (h : shareC st c = some c') : shareC st' c = some c' := by
  cases c with
  | own d k =>
    simp only [shareC, Option.map_eq_some_iff] at h ⊢
    obtain ⟨t, ht, rfl⟩ := h
    exact ⟨t, hT d k t rfl ht, rfl⟩
  | v x => exact h
  | sl n cs => exact h
  | dead => exact h

theorem shareL_mono : ∀ {cs cs' : List Cell}, (∀ d k t, Cell.own d k ∈ cs → liveTok st d k = some t → liveTok st' d k = some t) → shareL st cs = some cs' → shareL st' cs = some cs'
  | [], _, _, h => h
  | c :: cs, cs', hT, h => by
    simp only [shareL, Option.bind_eq_some_iff, Option.map_eq_some_iff] at h ⊢
    obtain ⟨c', hc, r, hr, rfl⟩ := h
    exact ⟨c', shareC_mono (fun d k t e => hT d k t (by rw [e]; simp)) hc, r, shareL_mono (fun d k t e => hT d k t (by simp [e])) hr, rfl⟩

theorem argOf_mono {ow : Bool} {v v' : CV} (hT : ow = true → KeepT st st' v) (h : argOf ow st v = some v') : argOf ow st' v = some v' := by
  cases v <;> simp only [argOf] at h ⊢ <;> first | (cases h; done) | skip
  case one c =>
    cases ow with
    | true =>
      simp only [cond_true, Option.map_eq_some_iff] at h ⊢
      obtain ⟨c', hc, rfl⟩ := h
      exact ⟨c', shareC_mono (fun d k t e => hT rfl d k t (.inl (by rw [e]))) hc, rfl⟩
    | false => exact h
  case agg cs =>
    cases ow with
    | true =>
      simp only [cond_true, Option.map_eq_some_iff] at h ⊢
      obtain ⟨c', hc, rfl⟩ := h
      exact ⟨c', shareL_mono (fun d k t e => hT rfl d k t (.inr (.inr ⟨cs, rfl, e⟩))) hc, rfl⟩
    | false => exact h

theorem argsOf_mono {ow : Bool} : ∀ {xs : List SX} {vs : List CV}, (∀ i ∈ xs.flatMap sxT, st'.tm.getD i .no = st.tm.getD i .no) → (ow = true → ∀ s ∈ xs, KeepT st st' (getX st s)) → argsOf ow st xs = some vs → argsOf ow st' xs = some vs
  | [], _, _, _, h => h
  | x :: xs, vs, hX, hT, h => by
    simp only [argsOf, Option.bind_eq_some_iff, Option.map_eq_some_iff] at h ⊢
    obtain ⟨v, hv, r, hr, rfl⟩ := h
    have e : getX st' x = getX st x := getX_eq fun i hi => hX i (by simp [hi])
    refine ⟨v, by rw [e]; exact argOf_mono (fun ho => hT ho x (by simp)) hv, r, argsOf_mono (fun i hi => hX i (by simp at hi ⊢; exact .inr hi)) (fun ho s hs => hT ho s (by simp [hs])) hr, rfl⟩

theorem partsA_eq : ∀ {ps : List (Nat × Nat × SX)}, (∀ i ∈ ps.flatMap (fun p => sxT p.2.2), st'.tm.getD i .no = st.tm.getD i .no) → partsA st' ps = partsA st ps
  | [], _ => rfl
  | (off, size, x) :: r, hX => by
    have e : getX st' x = getX st x := getX_eq fun i hi => hX i (by simp [hi])
    simp only [partsA, e, partsA_eq (ps := r) fun i hi => hX i (by rw [List.flatMap_cons]; exact List.mem_append_right _ hi)]

theorem partsS_eq {esz : Nat} : ∀ {ps : List (Nat × SX)}, (∀ i ∈ ps.flatMap (fun p => sxT p.2), st'.tm.getD i .no = st.tm.getD i .no) → partsS esz st' ps = partsS esz st ps
  | [], _ => rfl
  | (off, x) :: r, hX => by
    have e : getX st' x = getX st x := getX_eq fun i hi => hX i (by simp [hi])
    simp only [partsS, e, partsS_eq (ps := r) fun i hi => hX i (by rw [List.flatMap_cons]; exact List.mem_append_right _ hi)]

theorem boundOf_eq {n : Nat} {x : Option SX} (hX : ∀ i ∈ (x.map sxT).getD [], st'.tm.getD i .no = st.tm.getD i .no) : boundOf st' n x = boundOf st n x := by
  cases x with
  | none => rfl
  | some s => simp only [boundOf, getX_eq (s := s) hX]

theorem evOp_mono {op : SOp} {r : Res} (hX : ∀ i ∈ slotsOf op, st'.tm.getD i .no = st.tm.getD i .no) (hlb : makes op = true → tlen st'.bx d = tlen st.bx d) (hlt : makes op = true → tlen st'.tk d = tlen st.tk d)
    (hB : (footOf op).rb = true → ∀ p, ptrOf op = some p → ∀ i k off cs, st.tm.getD p .no = .box i k off → tat st.bx i k = some cs → tat st'.bx i k = some cs)
    (hT : (footOf op).rt = true → ∀ s ∈ slotsOf op, KeepT st st' (st.tm.getD s .no)) (h : evOp C d st op = some r) : evOp C d st' op = some r := by
  have hS : (footOf op).rt = true → ∀ s : SX, (∀ i ∈ sxT s, i ∈ slotsOf op) → KeepT st st' (getX st s) := by
    intro hr s hs
    cases s with
    | t i => exact hT hr i (hs i (by simp [sxT]))
    | c x => intro d k t hh; rcases hh with hh | ⟨_, hh⟩ | ⟨_, hh, _⟩ <;> cases hh
    | f x => intro d k t hh; rcases hh with hh | ⟨_, hh⟩ | ⟨_, hh, _⟩ <;> cases hh
  cases op with
  | mv x => simpa only [evOp, getX_eq (s := x) hX] using h
  | pick c x y =>
    simp only [slotsOf, List.mem_append] at hX
    simpa only [evOp, getX_eq (s := c) fun i hi => hX i (.inl (.inl hi)), getX_eq (s := x) fun i hi => hX i (.inl (.inr hi)), getX_eq (s := y) fun i hi => hX i (.inr hi)] using h
  | alloc z => simpa only [evOp, hlb rfl] using h
  | box x => simpa only [evOp, getX_eq (s := x) hX, hlb rfl] using h
  | load el ag n ks p =>
    have e := getX_eq (s := p) hX
    simp only [evOp, e] at h ⊢
    cases el with
    | false =>
      cases hp : getX st p <;> simp only [hp] at h ⊢ <;> first | (cases h; done) | skip
      rename_i i k off
      simp only [Option.bind_eq_some_iff] at h ⊢
      obtain ⟨cs, hcs, h⟩ := h
      refine ⟨cs, ?_, h⟩
      cases p with
      | t q => exact hB rfl q rfl i k off cs hp hcs
      | c x => cases hp
      | f x => cases hp
    | true =>
      cases hp : getX st p <;> simp only [hp] at h ⊢ <;> first | (cases h; done) | (exact h) | skip
      rename_i i k off
      simp only [Option.bind_eq_some_iff] at h ⊢
      obtain ⟨t, ht, h⟩ := h
      exact ⟨t, hS rfl p (fun i hi => hi) i k t (by rw [hp]; exact .inr (.inl ⟨off, rfl⟩)) ht, h⟩
  | store el n p x =>
    simp only [slotsOf, List.mem_append] at hX
    have e := getX_eq (s := p) fun i hi => hX i (.inl hi)
    have e2 := getX_eq (s := x) fun i hi => hX i (.inr hi)
    simp only [evOp, e, e2, Option.bind_eq_some_iff] at h ⊢
    obtain ⟨us, hus, h⟩ := h
    refine ⟨us, hus, ?_⟩
    split at h
    · rename_i hn
      rw [if_pos hn]
      cases el with
      | false =>
        cases hp : getX st p <;> simp only [hp] at h ⊢ <;> first | (cases h; done) | skip
        rename_i i k off
        simp only [Option.bind_eq_some_iff] at h ⊢
        obtain ⟨cs, hcs, h⟩ := h
        refine ⟨cs, ?_, h⟩
        cases p with
        | t q => exact hB rfl q rfl i k off cs hp hcs
        | c x => cases hp
        | f x => cases hp
      | true =>
        cases hp : getX st p <;> simp only [hp] at h ⊢ <;> first | (cases h; done) | skip
        rename_i i k off
        cases hpl : us.all plainC with
        | false => rw [hpl] at h; cases h
        | true =>
          rw [hpl] at h
          simp only [cond_true, Option.bind_eq_some_iff] at h ⊢
          obtain ⟨t, ht, h⟩ := h
          exact ⟨t, hS rfl p (fun i hi => by simp [slotsOf, hi]) i k t (by rw [hp]; exact .inr (.inl ⟨off, rfl⟩)) ht, h⟩
    · cases h
  | fld o x => simpa only [evOp, getX_eq (s := x) hX] using h
  | ixA len esz x y =>
    simp only [slotsOf, List.mem_append] at hX
    simpa only [evOp, getX_eq (s := x) fun i hi => hX i (.inl hi), getX_eq (s := y) fun i hi => hX i (.inr hi)] using h
  | ixS esz x y =>
    simp only [slotsOf, List.mem_append] at hX
    have e := getX_eq (s := x) fun i hi => hX i (.inl hi)
    have e2 := getX_eq (s := y) fun i hi => hX i (.inr hi)
    simp only [evOp, e, e2] at h ⊢
    split at h
    · exact h
    · rename_i h1 h2
      simp only [Option.bind_eq_some_iff] at h ⊢
      obtain ⟨t, ht, h⟩ := h
      exact ⟨t, hS rfl x (fun i hi => by simp [slotsOf, hi]) _ _ t (by rw [h1]; exact .inl rfl) ht, h⟩
    · cases h
  | ixV ag len esz ks x y =>
    simp only [slotsOf, List.mem_append] at hX
    simpa only [evOp, getX_eq (s := x) fun i hi => hX i (.inl hi), getX_eq (s := y) fun i hi => hX i (.inr hi)] using h
  | fldV ag off n ks x => simpa only [evOp, getX_eq (s := x) hX] using h
  | build z ps => simpa only [evOp, partsA_eq (ps := ps) hX] using h
  | buildS e esz n z ps => simpa only [evOp, partsS_eq (ps := ps) hX, hlt rfl] using h
  | bin o x y =>
    simp only [slotsOf, List.mem_append] at hX
    simpa only [evOp, getX_eq (s := x) fun i hi => hX i (.inl hi), getX_eq (s := y) fun i hi => hX i (.inr hi)] using h
  | binB o x y =>
    simp only [slotsOf, List.mem_append] at hX
    simpa only [evOp, getX_eq (s := x) fun i hi => hX i (.inl hi), getX_eq (s := y) fun i hi => hX i (.inr hi)] using h
  | eqA o ks x y =>
    simp only [slotsOf, List.mem_append] at hX
    simpa only [evOp, getX_eq (s := x) fun i hi => hX i (.inl hi), getX_eq (s := y) fun i hi => hX i (.inr hi)] using h
  | un o x => simpa only [evOp, getX_eq (s := x) hX] using h
  | conv k x => simpa only [evOp, getX_eq (s := x) hX] using h
  | ext i x => simpa only [evOp, getX_eq (s := x) hX] using h
  | nilc x => simpa only [evOp, getX_eq (s := x) hX] using h
  | len x =>
    simp only [evOp, getX_eq (s := x) hX] at h ⊢
    cases hx : getX st x <;> simp only [hx] at h ⊢ <;> first | (cases h; done) | skip
    rename_i c
    simp only [Option.map_eq_some_iff] at h ⊢
    obtain ⟨p, hp, rfl⟩ := h
    exact ⟨p, contents_mono (by have := hS rfl x (fun i hi => hi); rw [hx] at this; exact this) hp, rfl⟩
  | mm mx xs =>
    have e : xs.map (getX st') = xs.map (getX st) := List.map_congr_left fun s hs => getX_eq fun i hi => hX i (List.mem_flatMap.2 ⟨s, hs, hi⟩)
    simpa only [evOp, e] using h
  | app e esz bytes z s x =>
    simp only [slotsOf, List.mem_append] at hX
    have e1 := getX_eq (s := s) fun i hi => hX i (.inl hi)
    have e2 := getX_eq (s := x) fun i hi => hX i (.inr hi)
    simp only [evOp, e1, e2] at h ⊢
    split at h
    · rename_i i k c h1 h2
      simp only [Option.bind_eq_some_iff] at h ⊢
      obtain ⟨t, ht, p, hp, h⟩ := h
      refine ⟨t, hS rfl s (fun i hi => by simp [slotsOf, hi]) _ _ t (by rw [h1]; exact .inl rfl) ht, p, contents_mono (by have := hS rfl x (fun i hi => by simp [slotsOf, hi]); rw [h2] at this; exact this) hp, ?_⟩
      rw [tlen_set] at h ⊢
      rw [hlt rfl]
      exact h
    · rename_i c h1 h2
      simp only [Option.bind_eq_some_iff] at h ⊢
      obtain ⟨p, hp, h⟩ := h
      refine ⟨p, contents_mono (by have := hS rfl x (fun i hi => by simp [slotsOf, hi]); rw [h2] at this; exact this) hp, ?_⟩
      rw [hlt rfl]
      exact h
    · cases h
  | slp esz s lo hi =>
    simp only [slotsOf, List.mem_append] at hX
    have e1 := getX_eq (s := s) fun i hi => hX i (.inl (.inl hi))
    have e2 : ∀ n, boundOf st' n lo = boundOf st n lo := fun n => boundOf_eq fun i hi => hX i (.inl (.inr hi))
    have e3 : ∀ n, boundOf st' n hi = boundOf st n hi := fun n => boundOf_eq fun i hi => hX i (.inr hi)
    simpa only [evOp, e1, e2, e3] using h
  | slc esz s lo hi =>
    simp only [slotsOf, List.mem_append] at hX
    have e1 := getX_eq (s := s) fun i hi => hX i (.inl (.inl hi))
    have e2 : ∀ n, boundOf st' n lo = boundOf st n lo := fun n => boundOf_eq fun i hi => hX i (.inl (.inr hi))
    have e3 : ∀ n, boundOf st' n hi = boundOf st n hi := fun n => boundOf_eq fun i hi => hX i (.inr hi)
    simp only [evOp, e1, e2, e3] at h ⊢
    split at h
    · exact h
    · rename_i h1
      simp only [Option.bind_eq_some_iff] at h ⊢
      obtain ⟨t, ht, h⟩ := h
      exact ⟨t, hS rfl s (fun i hi => by simp [slotsOf, hi]) _ _ t (by rw [h1]; exact .inl rfl) ht, h⟩
    · exact h
    · cases h
  | call ow pt f xs =>
    simp only [slotsOf, List.mem_append] at hX
    have e1 := getX_eq (s := f) fun i hi => hX i (.inl hi)
    simp only [evOp, e1, Option.bind_eq_some_iff] at h ⊢
    obtain ⟨g, hg, h⟩ := h
    refine ⟨g, hg, ?_⟩
    simp only [doCall, Option.bind_eq_some_iff] at h ⊢
    obtain ⟨vs, hvs, ret, hret, h⟩ := h
    refine ⟨vs, argsOf_mono (fun i hi => hX i (.inr hi)) (fun ho s hs => hS (by simp [footOf, ho]) s fun i hi => by simp only [slotsOf, List.mem_append]; exact .inr (List.mem_flatMap.2 ⟨s, hs, hi⟩)) hvs, ret, hret, ?_⟩
    cases pt with
    | false => exact h
    | true => rw [hlt rfl]; exact h
  | pcall g p xs =>
    simp only [slotsOf, List.mem_append] at hX
    have e1 := getX_eq (s := p) fun i hi => hX i (.inl hi)
    simp only [evOp, e1] at h ⊢
    split at h
    · rename_i i k h1
      simp only [Option.bind_eq_some_iff] at h ⊢
      obtain ⟨cs, hcs, vs, hvs, h⟩ := h
      refine ⟨cs, ?_, vs, argsOf_mono (fun i hi => hX i (.inr hi)) (fun ho => by cases ho) hvs, h⟩
      cases p with
      | t q => exact hB rfl q rfl i k 0 cs h1 hcs
      | c x => cases h1
      | f x => cases h1
    · cases h

end
end Go.Proofs.Ytgmciihlmgeecaa.Mt
