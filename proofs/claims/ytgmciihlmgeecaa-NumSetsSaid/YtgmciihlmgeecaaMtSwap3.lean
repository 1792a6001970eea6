import Derived.Test.YtgmciihlmgeecaaMtSwap2
/- Two steps that are free of each other come in either order; a step that is free of all before it may come first. Conditions: those that each lemma names. -/
namespace Go.Proofs.Ytgmciihlmgeecaa.Mt
open Go Go.RowKit
section
variable {C : Ctx} {A : Alias} {st st' s1 s2 s3 : St}

/-- What the list of addresses tells is so. -/
def AInv (A : Alias) (st : St) : Prop := ∀ p b, lookA A p = some b → ∀ i k off, st.tm.getD p .no = .box i k off → i = b

theorem getD_put (dst : Option Nat) (tm : List CV) (v : CV) (i : Nat) (h : dst ≠ some i) : (match dst with | some d => tm.set d v | none => tm).getD i .no = tm.getD i .no := by
  cases dst with
  | none => rfl
  | some d =>
    have hne : d ≠ i := fun e => h (by rw [e])
    simp only [List.getD_eq_getElem?_getD, List.getElem?_set_ne hne]

theorem len_put (dst : Option Nat) (tm : List CV) (v : CV) : (match dst with | some d => tm.set d v | none => tm).length = tm.length := by
  cases dst <;> simp

/-- What a step's result may be. -/
structure Good (o : SOper) (st : St) (r : Res) : Prop where
  fit : Fits st o.op r
  push : r.pb ≠ [] ∨ r.pt ≠ [] → ∃ d, o.dst = some d ∧ d < st.tm.length

theorem skip_eq (dst : Option Nat) (st : St) : (match dst with | some d => { st with tm := st.tm.set d .un } | none => st) = applyR dst st { val := .un } := by
  cases dst <;> rfl

theorem step_mono {o : SOper} (hX : ∀ i ∈ looks o, st'.tm.getD i .no = st.tm.getD i .no) (hl : st'.tm.length = st.tm.length) (hlb : ∀ d, o.dst = some d → tlen st'.bx d = tlen st.bx d) (hlt : ∀ d, o.dst = some d → tlen st'.tk d = tlen st.tk d)
    (hB : (footOf o.op).rb = true → ∀ p, ptrOf o.op = some p → ∀ i k off cs, st.tm.getD p .no = .box i k off → tat st.bx i k = some cs → tat st'.bx i k = some cs)
    (hT : (footOf o.op).rt = true → ∀ s ∈ slotsOf o.op, KeepT st st' (st.tm.getD s .no)) (h : stepC C o st = some s1) :
    ∃ r, s1 = applyR o.dst st r ∧ stepC C o st' = some (applyR o.dst st' r) ∧ Good o st r := by
  have hw : wantedC st' o.guard = wantedC st o.guard := by
    cases hg : o.guard with
    | none => rfl
    | some jw =>
      obtain ⟨j, w⟩ := jw
      simp only [wantedC]
      rw [hX j (by simp [looks, hg])]
  unfold stepC at h ⊢
  rw [hw]
  split at h
  · rename_i hq
    split at h
    · cases h
    · rename_i hmk
      simp only [Option.map_eq_some_iff] at h
      obtain ⟨r, hr, rfl⟩ := h
      have hd : makes o.op = true → ∃ d, o.dst = some d ∧ d < st.tm.length := fun hm => by
        cases hdst : o.dst with
        | none => exact absurd ⟨hm, by simp [hdst]⟩ hmk
        | some d => exact ⟨d, rfl, Nat.lt_of_not_le fun hle => hmk ⟨hm, by simpa [hdst] using hle⟩⟩
      have hf := evOp_fits hr
      refine ⟨r, rfl, ?_, ⟨hf, fun hp => hd (hf.mks hp)⟩⟩
      simp only [hl, hmk, if_false]
      rw [evOp_mono (fun i hi => hX i (by simp [looks, hi])) (fun hm => by obtain ⟨d, h1, _⟩ := hd hm; rw [h1]; exact hlb d h1) (fun hm => by obtain ⟨d, h1, _⟩ := hd hm; rw [h1]; exact hlt d h1) hB hT hr]
      rfl
  · simp only [Option.some.injEq] at h
    subst h
    exact ⟨{ val := .un }, skip_eq _ _, congrArg some (skip_eq _ _), ⟨.pure, fun hp => by rcases hp with hp | hp <;> exact absurd rfl hp⟩⟩
  · cases h

theorem step_good {o : SOper} (h : stepC C o st = some s1) : ∃ r, s1 = applyR o.dst st r ∧ Good o st r := by
  obtain ⟨r, h1, _, h3⟩ := step_mono (st' := st) (fun _ _ => rfl) rfl (fun _ _ => rfl) (fun _ _ => rfl) (fun _ _ _ _ _ _ _ _ h => h) (fun _ _ _ _ _ _ _ h => h) h
  exact ⟨r, h1, h3⟩

theorem step_sz {o : SOper} (hs : Sz st) (h : stepC C o st = some s1) : Sz s1 ∧ s1.tm.length = st.tm.length := by
  obtain ⟨r, rfl, _⟩ := step_good h
  refine ⟨⟨?_, ?_⟩, len_put _ _ _⟩
  · exact (upd_length).trans (hs.1.trans (len_put _ _ _).symm)
  · exact (upd_length).trans (hs.2.trans (len_put _ _ _).symm)

theorem step_alias {o : SOper} (ha : aliasOp A o = true) (hA : AInv A st) (h : stepC C o st = some s1) : AInv A s1 := by
  intro p b hb i k off hp
  by_cases e : o.dst = some p
  · simp only [aliasOp, e, hb] at ha
    unfold stepC at h
    split at h
    · split at h
      · cases h
      · simp only [Option.map_eq_some_iff] at h
        obtain ⟨r, hr, rfl⟩ := h
        have hv : r.val = .box i k off := by
          simp only [applyR, e, List.getD_eq_getElem?_getD] at hp
          by_cases hlt : p < st.tm.length
          · rw [List.getElem?_set_self hlt] at hp; exact hp
          · rw [List.getElem?_eq_none (by simp; omega)] at hp; cases hp
        have follow : ∀ q, lookA A q = some b → (∃ i' k' off', st.tm.getD q .no = .box i' k' off' ∧ i' = i) → i = b := by
          rintro q hq ⟨i', k', off', h1, rfl⟩
          exact hA q b hq _ _ _ h1
        have sh : ∀ (o' : Nat) (v : CV), shift o' v = some r.val → ∃ k' off', v = .box i k' off' := by
          intro o' v hh
          rw [hv] at hh
          cases v <;> simp only [shift] at hh <;> first | (cases hh; done) | skip
          simp only [Option.some.injEq, CV.box.injEq] at hh
          obtain ⟨rfl, rfl, _⟩ := hh
          exact ⟨_, _, rfl⟩
        split at ha
        · rename_i z hop
          rw [hop] at hr
          simp only [evOp, Option.some.injEq] at hr
          rw [← hr] at hv
          simp only [CV.box.injEq] at hv
          rw [e] at hv
          simp only [Option.getD_some] at hv
          rw [beq_iff_eq] at ha
          omega
        · rename_i z hop
          rw [hop] at hr
          simp only [evOp, Option.map_eq_some_iff] at hr
          obtain ⟨cs, _, hr⟩ := hr
          rw [← hr] at hv
          simp only [CV.box.injEq] at hv
          rw [e] at hv
          simp only [Option.getD_some] at hv
          rw [beq_iff_eq] at ha
          omega
        · rename_i o' q hop
          rw [hop] at hr
          simp only [evOp, Option.map_eq_some_iff] at hr
          obtain ⟨v, hv', rfl⟩ := hr
          obtain ⟨k', off', h1⟩ := sh _ _ hv'
          exact follow q (by simpa using ha) ⟨_, k', off', h1, rfl⟩
        · rename_i l m q j hop
          rw [hop] at hr
          simp only [evOp] at hr
          split at hr
          · split at hr
            · simp only [Option.map_eq_some_iff] at hr
              obtain ⟨v, hv', rfl⟩ := hr
              obtain ⟨k', off', h1⟩ := sh _ _ hv'
              exact follow q (by simpa using ha) ⟨_, k', off', h1, rfl⟩
            · cases hr
          · cases hr
        · rename_i q hop
          rw [hop] at hr
          simp only [evOp, Option.some.injEq] at hr
          rw [← hr] at hv
          exact follow q (by simpa using ha) ⟨_, k, off, hv, rfl⟩
        · rename_i q hop
          rw [hop] at hr
          simp only [evOp] at hr
          split at hr
          · rename_i i' k' o' h1
            simp only [Option.some.injEq] at hr
            rw [← hr] at hv
            simp only [CV.box.injEq] at hv
            exact follow q (by simpa using ha) ⟨_, k', o', h1, hv.1⟩
          · simp only [Option.some.injEq] at hr; rw [← hr] at hv; cases hv
          · simp only [Option.some.injEq] at hr; rw [← hr] at hv; cases hv
          · cases hr
        · cases ha
    · simp only [Option.some.injEq] at h
      subst h
      rw [e] at hp
      simp only [List.getD_eq_getElem?_getD] at hp
      by_cases hlt : p < st.tm.length
      · rw [List.getElem?_set_self hlt] at hp; cases hp
      · rw [List.getElem?_eq_none (by simp; omega)] at hp; cases hp
    · cases h
  · obtain ⟨r, rfl, _⟩ := step_good h
    exact hA p b hb i k off ((getD_put _ _ _ _ e).symm.trans hp)

/-! ### Free of each other -/

theorem freeS_symm {x y : SOper} (h : freeS A x y = true) : freeS A y x = true := by
  simp only [freeS, Bool.and_eq_true, Bool.not_eq_true'] at h ⊢
  obtain ⟨h1, h2⟩ := h
  constructor
  · simp only [apartS, Bool.and_eq_true] at h1 ⊢
    cases hx : x.dst with
    | none => cases hy : y.dst with
      | none => simp
      | some d => simpa [hx, hy] using h1
    | some e => cases hy : y.dst with
      | none => simpa [hx, hy] using h1
      | some d =>
        simp only [hx, hy, Bool.and_eq_true, Bool.not_eq_true', beq_eq_false_iff_ne, ne_eq, Option.some.injEq] at h1 ⊢
        exact ⟨⟨h1.2, fun e => h1.1.2 e.symm⟩, h1.1.1⟩
  · have ho : otherB A y.op x.op = otherB A x.op y.op := by
      unfold otherB
      cases baseOf A x.op <;> cases baseOf A y.op <;> first | rfl | simp [bne, Bool.beq_comm]
    simp only [clash] at h2 ⊢
    rw [ho]
    revert h2
    generalize (footOf x.op).wb = a1; generalize (footOf x.op).rb = a2; generalize (footOf x.op).wt = a3; generalize (footOf x.op).rt = a4
    generalize (footOf y.op).wb = b1; generalize (footOf y.op).rb = b2; generalize (footOf y.op).wt = b3; generalize (footOf y.op).rt = b4
    generalize otherB A x.op y.op = c
    revert a1 a2 a3 a4 b1 b2 b3 b4 c
    decide

theorem apart_spec {x y : SOper} (h : freeS A x y = true) : (∀ i ∈ looks y, x.dst ≠ some i) ∧ (∀ d, y.dst = some d → x.dst ≠ some d) := by
  simp only [freeS, apartS, Bool.and_eq_true] at h
  cases hx : x.dst with
  | none => exact ⟨fun _ _ h => (by cases h), fun _ _ h => (by cases h)⟩
  | some d =>
    simp only [hx, Bool.and_eq_true, Bool.not_eq_true', beq_eq_false_iff_ne, ne_eq] at h
    obtain ⟨⟨⟨h1, h2⟩, _⟩, _⟩ := h
    refine ⟨fun i hi e => ?_, fun e he e2 => ?_⟩
    · simp only [Option.some.injEq] at e
      subst e
      rw [List.contains_eq_mem, decide_eq_false_iff_not] at h1
      exact h1 hi
    · exact h2 (he.trans e2.symm)

theorem wb_rb {op : SOp} (h : (footOf op).wb = true) : (footOf op).rb = true := by
  cases op with
  | load el ag n ks p => cases el <;> first | (cases h; done) | rfl
  | store el n p x => cases el <;> first | (cases h; done) | rfl
  | _ => first | (cases h; done) | rfl

theorem noclash_b {x y : SOper} (h : freeS A x y = true) (hA : AInv A st) {rx : Res} (hg : Good x st rx) (hr : (footOf y.op).rb = true) {p : Nat} (hp : ptrOf y.op = some p) {i k off : Nat} (hv : st.tm.getD p .no = .box i k off) (z : List Cell) : rx.wb ≠ some (i, k, z) := by
  intro e
  obtain ⟨hw, ⟨px, ox, h1, h2⟩, _⟩ := hg.fit.wb i k z e
  simp only [freeS, clash, Bool.and_eq_true, Bool.not_eq_true', Bool.or_eq_false_iff, hw, hr] at h
  have ho : otherB A x.op y.op = true := by
    have := h.2.1.1
    cases hq : otherB A x.op y.op with
    | true => rfl
    | false => rw [hq] at this; simp at this
  unfold otherB baseOf at ho
  rw [h1, hp] at ho
  simp only [Option.bind_some] at ho
  split at ho
  · rename_i a b ha hb
    have e1 := hA px a ha _ _ _ h2
    have e2 := hA p b hb _ _ _ hv
    rw [← e1, ← e2] at ho
    simp at ho
  · cases ho

theorem noclash_t {x y : SOper} (h : freeS A x y = true) {rx : Res} (hg : Good x st rx) (hr : (footOf y.op).rt = true ∨ (footOf y.op).wt = true) {i k : Nat} (z : Tok) : rx.wt ≠ some (i, k, z) := by
  intro e
  obtain ⟨hw, _⟩ := hg.fit.wt i k z e
  simp only [freeS, clash, Bool.and_eq_true, Bool.not_eq_true', Bool.or_eq_false_iff, hw] at h
  have := h.2.1.2
  rcases hr with hr | hr <;> rw [hr] at this <;> simp at this

theorem Good.vb {o : SOper} {r : Res} (h : Good o st r) : ∀ i k y, r.wb = some (i, k, y) → ∃ z, tat st.bx i k = some z := fun i k y e => (h.fit.wb i k y e).2.2
theorem Good.vt {o : SOper} {r : Res} (h : Good o st r) : ∀ i k y, r.wt = some (i, k, y) → ∃ z, tat st.tk i k = some z := fun i k y e => (h.fit.wt i k y e).2

/-- What y looks at is there behind x as it was. -/
theorem keeps_b {x y : SOper} (h : freeS A x y = true) (hA : AInv A st) {rx : Res} (hg : Good x st rx) : (footOf y.op).rb = true → ∀ p, ptrOf y.op = some p → ∀ i k off cs, st.tm.getD p .no = .box i k off → tat st.bx i k = some cs → tat (applyR x.dst st rx).bx i k = some cs :=
  fun hr _ hp _ _ _ _ hv hc => upd_tat hc (noclash_b h hA hg hr hp hv) hg.vb

theorem keeps_t {x y : SOper} (h : freeS A x y = true) {rx : Res} (hg : Good x st rx) (hr : (footOf y.op).rt = true) {d k : Nat} {t : Tok} (ht : tat st.tk d k = some t) : tat (applyR x.dst st rx).tk d k = some t := upd_tat ht (noclash_t h hg (.inl hr)) hg.vt

theorem live_of {d k : Nat} {t : Tok} (h : tat st.tk d k = some t) (hl : t.live = true) : liveTok st d k = some t := by
  simp [liveTok, h, hl]

theorem lens_b {x y : SOper} (h : freeS A x y = true) (hs : Sz st) {rx : Res} (hg : Good x st rx) : ∀ d, y.dst = some d → tlen (applyR x.dst st rx).bx d = tlen st.bx d := by
  intro d hd
  refine upd_tlen (fun hp => ?_) fun hp => ?_
  · obtain ⟨e, h1, h2⟩ := hg.push (.inl hp); rw [h1, hs.1]; exact h2
  · obtain ⟨e, h1, h2⟩ := hg.push (.inl hp); rw [h1]; exact fun e' => (apart_spec h).2 d hd (by rw [h1, ← e']; rfl)
theorem lens_t {x y : SOper} (h : freeS A x y = true) (hs : Sz st) {rx : Res} (hg : Good x st rx) : ∀ d, y.dst = some d → tlen (applyR x.dst st rx).tk d = tlen st.tk d := by
  intro d hd
  refine upd_tlen (fun hp => ?_) fun hp => ?_
  · obtain ⟨e, h1, h2⟩ := hg.push (.inr hp); rw [h1, hs.2]; exact h2
  · obtain ⟨e, h1, h2⟩ := hg.push (.inr hp); rw [h1]; exact fun e' => (apart_spec h).2 d hd (by rw [h1, ← e']; rfl)

theorem moved {x y : SOper} (h : freeS A x y = true) (hs : Sz st) (hA : AInv A st) {rx : Res} (hg : Good x st rx) (hy : stepC C y st = some s2) : ∃ r, s2 = applyR y.dst st r ∧ stepC C y (applyR x.dst st rx) = some (applyR y.dst (applyR x.dst st rx) r) ∧ Good y st r :=
  step_mono (fun i hi => getD_put _ _ _ _ ((apart_spec h).1 i hi)) (len_put _ _ _) (lens_b h hs hg) (lens_t h hs hg) (keeps_b h hA hg) (fun hr _ _ _ _ _ _ hl => live_of (keeps_t h hg hr (live_tat hl).1) (live_tat hl).2) hy

theorem applyR_comm {x y : SOper} (h : freeS A x y = true) (hs : Sz st) (hA : AInv A st) {rx ry : Res} (hx : Good x st rx) (hy : Good y st ry) : applyR y.dst (applyR x.dst st rx) ry = applyR x.dst (applyR y.dst st ry) rx := by
  have hd : ∀ d, y.dst = some d → x.dst ≠ some d := (apart_spec h).2
  have tm : (match y.dst with | some d => (match x.dst with | some d => st.tm.set d rx.val | none => st.tm).set d ry.val | none => (match x.dst with | some d => st.tm.set d rx.val | none => st.tm)) = (match x.dst with | some d => (match y.dst with | some d => st.tm.set d ry.val | none => st.tm).set d rx.val | none => (match y.dst with | some d => st.tm.set d ry.val | none => st.tm)) := by
    cases hxd : x.dst with
    | none => cases y.dst <;> rfl
    | some d => cases hyd : y.dst with
      | none => rfl
      | some e =>
        have hne : d ≠ e := fun q => hd e hyd (by rw [hxd, q])
        simp only [List.set_comm _ _ hne]
  have bx : upd (upd st.bx rx.wb (x.dst.getD 0) rx.pb) ry.wb (y.dst.getD 0) ry.pb = upd (upd st.bx ry.wb (y.dst.getD 0) ry.pb) rx.wb (x.dst.getD 0) rx.pb := by
    refine upd_comm hx.vb hy.vb (fun i k z i' k' z' e1 e2 e => ?_) (fun hp => ?_) (fun hp => ?_) fun hp1 hp2 e => ?_
    · obtain ⟨rfl, rfl⟩ := e
      obtain ⟨hw, ⟨p, off, h1, h2⟩, _⟩ := hy.fit.wb i k z' e2
      exact noclash_b h hA hx (wb_rb hw) h1 h2 z e1
    · obtain ⟨e, h1, h2⟩ := hx.push (.inl hp); rw [h1, hs.1]; exact h2
    · obtain ⟨e, h1, h2⟩ := hy.push (.inl hp); rw [h1, hs.1]; exact h2
    · obtain ⟨d1, h1, _⟩ := hx.push (.inl hp1)
      obtain ⟨d2, h2, _⟩ := hy.push (.inl hp2)
      rw [h1, h2] at e
      exact hd d2 h2 (by rw [h1]; exact congrArg some e)
  have tk : upd (upd st.tk rx.wt (x.dst.getD 0) rx.pt) ry.wt (y.dst.getD 0) ry.pt = upd (upd st.tk ry.wt (y.dst.getD 0) ry.pt) rx.wt (x.dst.getD 0) rx.pt := by
    refine upd_comm hx.vt hy.vt (fun i k z i' k' z' e1 e2 e => ?_) (fun hp => ?_) (fun hp => ?_) fun hp1 hp2 e => ?_
    · exact noclash_t h hx (.inr (hy.fit.wt i' k' z' e2).1) z e1
    · obtain ⟨e, h1, h2⟩ := hx.push (.inr hp); rw [h1, hs.2]; exact h2
    · obtain ⟨e, h1, h2⟩ := hy.push (.inr hp); rw [h1, hs.2]; exact h2
    · obtain ⟨d1, h1, _⟩ := hx.push (.inr hp1)
      obtain ⟨d2, h2, _⟩ := hy.push (.inr hp2)
      rw [h1, h2] at e
      exact hd d2 h2 (by rw [h1]; exact congrArg some e)
  unfold applyR
  simp only [St.mk.injEq]
  exact ⟨tm, bx, tk⟩

theorem diamond {x y : SOper} (h : freeS A x y = true) (hs : Sz st) (hA : AInv A st) (hx : stepC C x st = some s1) (hy : stepC C y st = some s2) : ∃ s3, stepC C x s2 = some s3 ∧ stepC C y s1 = some s3 := by
  obtain ⟨rx, rfl, gx⟩ := step_good hx
  obtain ⟨ry, rfl, gy⟩ := step_good hy
  obtain ⟨ry', e1, h1, gy'⟩ := moved h hs hA gx hy
  obtain ⟨rx', e2, h2, gx'⟩ := moved (freeS_symm h) hs hA gy hx
  refine ⟨_, h2, ?_⟩
  rw [h1, e1, ← applyR_comm h hs hA gx' gy', ← e2]

/-- What an operation's slots speak of is there. -/
def Scoped (o : SOper) (st : St) : Prop := ∀ s ∈ slotsOf o.op, (∀ i k off, st.tm.getD s .no = .box i k off → ∃ cs, tat st.bx i k = some cs) ∧ ∀ d k, RefT (st.tm.getD s .no) d k → ∃ t, tat st.tk d k = some t

theorem ptr_slot {op : SOp} {p : Nat} (h : ptrOf op = some p) : p ∈ slotsOf op := by
  unfold ptrOf at h
  split at h
  all_goals first
    | (simp only [Option.some.injEq] at h; subst h; simp [slotsOf, sxT])
    | (cases h)

theorem scoped_step {x y : SOper} (h : freeS A x y = true) (hsc : Scoped y st) (hx : stepC C x st = some s1) : Scoped y s1 := by
  obtain ⟨rx, rfl, gx⟩ := step_good hx
  intro s hs
  have e : (applyR x.dst st rx).tm.getD s .no = st.tm.getD s .no := getD_put _ _ _ _ ((apart_spec h).1 s (by simp [looks, hs]))
  rw [e]
  refine ⟨fun i k off hv => ?_, fun d k hv => ?_⟩
  · obtain ⟨cs, hc⟩ := (hsc s hs).1 i k off hv
    exact upd_valid hc gx.vb
  · obtain ⟨t, hc⟩ := (hsc s hs).2 d k hv
    exact upd_valid hc gx.vt

theorem back {x y : SOper} (h : freeS A x y = true) (hs : Sz st) (hA : AInv A st) (hsc : Scoped y st) (hx : stepC C x st = some s1) (hy : stepC C y s1 = some s3) : ∃ s2, stepC C y st = some s2 := by
  obtain ⟨rx, rfl, gx⟩ := step_good hx
  have sl : ∀ i ∈ looks y, st.tm.getD i .no = (applyR x.dst st rx).tm.getD i .no := fun i hi => (getD_put _ _ _ _ ((apart_spec h).1 i hi)).symm
  obtain ⟨r, _, h1, _⟩ := step_mono (st := applyR x.dst st rx) (st' := st) sl (len_put _ _ _).symm (fun d hd => (lens_b h hs gx d hd).symm) (fun d hd => (lens_t h hs gx d hd).symm)
    (fun hr p hp i k off cs hv hc => by
      rw [← sl p (by simp [looks, ptr_slot hp])] at hv
      obtain ⟨cs0, h0⟩ := (hsc p (ptr_slot hp)).1 i k off hv
      have := keeps_b h hA gx hr p hp i k off cs0 hv h0
      rw [this] at hc
      rw [h0, hc])
    (fun hr s hs' d k t hv hl => by
      rw [← sl s (by simp [looks, hs'])] at hv
      obtain ⟨t0, h0⟩ := (hsc s hs').2 d k hv
      have e := keeps_t h gx hr h0
      have := (live_tat hl).1
      rw [e] at this
      simp only [Option.some.injEq] at this
      subst this
      exact live_of h0 (live_tat hl).2) hy
  exact ⟨_, h1⟩

/-- A step that is free of all before it may come first. -/
theorem bubble {y : SOper} : ∀ (xs : List SOper) (st : St) (s : St), (∀ x ∈ xs, freeS A x y = true ∧ aliasOp A x = true) → Sz st → AInv A st → Scoped y st → evOps C (xs ++ [y]) st = some s →
    ∃ s1, stepC C y st = some s1 ∧ evOps C xs s1 = some s
  | [], st, s, _, _, _, _, h => by
    simp only [List.nil_append, evOps, Option.bind_eq_some_iff] at h
    obtain ⟨s1, h1, h2⟩ := h
    exact ⟨s1, h1, h2⟩
  | x :: xs, st, s, hf, hs, hA, hsc, h => by
    rw [List.cons_append] at h
    simp only [evOps, Option.bind_eq_some_iff] at h
    obtain ⟨s1, h1, h2⟩ := h
    obtain ⟨f1, f2⟩ := hf x (by simp)
    obtain ⟨t, h3, h4⟩ := bubble xs s1 s (fun x hx => hf x (by simp [hx])) (step_sz hs h1).1 (step_alias f2 hA h1) (scoped_step f1 hsc h1) h2
    obtain ⟨s2, h5⟩ := back f1 hs hA hsc h1 h3
    obtain ⟨s3, h6, h7⟩ := diamond f1 hs hA h1 h5
    rw [h3] at h7
    simp only [Option.some.injEq] at h7
    subst h7
    exact ⟨s2, h5, by simp only [evOps, h6, Option.bind_some, h4]⟩

theorem evOps_append : ∀ (xs ys : List SOper) (st : St), evOps C (xs ++ ys) st = (evOps C xs st).bind (evOps C ys)
  | [], ys, st => rfl
  | x :: xs, ys, st => by
    simp only [List.cons_append, evOps]
    cases stepC C x st with
    | none => rfl
    | some s => exact evOps_append xs ys s

end
end Go.Proofs.Ytgmciihlmgeecaa.Mt
