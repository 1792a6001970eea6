import Derived.Test.YtgmciihlmgeecaaMtSwap
/- Steps that don't touch each other may come in either order; what an earlier state has is there later. Conditions: those that each lemma names. -/
namespace Go.Proofs.Ytgmciihlmgeecaa.Mt
open Go Go.RowKit

/-! ### Tables -/
section
variable {α : Type}

theorem tset_tset {T : List (List α)} {i k i' k' : Nat} {x y : α} (hi : i < T.length) (hi' : i' < T.length) (h : ¬ (i = i' ∧ k = k')) : tset (tset T i k x) i' k' y = tset (tset T i' k' y) i k x := by
  unfold tset
  by_cases e : i = i'
  · subst e
    rw [getD_set hi, if_pos rfl, getD_set hi, if_pos rfl, List.set_set, List.set_set, List.set_comm _ _ (fun e => h ⟨rfl, e⟩)]
  · rw [getD_set hi, if_neg (Ne.symm e), getD_set hi', if_neg e, List.set_comm _ _ e]

theorem tpush_tpush {T : List (List α)} {d d' : Nat} {xs ys : List α} (hd : d < T.length) (hd' : d' < T.length) (h : d ≠ d') : tpush (tpush T d xs) d' ys = tpush (tpush T d' ys) d xs := by
  unfold tpush
  rw [getD_set hd, if_neg (Ne.symm h), getD_set hd', if_neg h, List.set_comm _ _ h]

theorem tset_tpush {T : List (List α)} {i k d : Nat} {x y : α} {xs : List α} (hx : tat T i k = some y) (hd : d < T.length) : tpush (tset T i k x) d xs = tset (tpush T d xs) i k x := by
  obtain ⟨hi, hk⟩ := tat_lt hx
  unfold tset tpush
  by_cases e : i = d
  · subst e
    rw [getD_set hi, if_pos rfl, getD_set hi, if_pos rfl, List.set_set, List.set_set]
    congr 1
    rw [List.set_append_left _ _ hk]
  · rw [getD_set hi, if_neg (Ne.symm e), getD_set hd, if_neg e, List.set_comm _ _ e]

theorem upd_comm {T : List (List α)} {w1 w2 : Option (Nat × Nat × α)} {d1 d2 : Nat} {p1 p2 : List α} (h1 : ∀ i k x, w1 = some (i, k, x) → ∃ y, tat T i k = some y) (h2 : ∀ i k x, w2 = some (i, k, x) → ∃ y, tat T i k = some y)
    (hne : ∀ i k x i' k' x', w1 = some (i, k, x) → w2 = some (i', k', x') → ¬ (i = i' ∧ k = k')) (g1 : p1 ≠ [] → d1 < T.length) (g2 : p2 ≠ [] → d2 < T.length) (hd : p1 ≠ [] → p2 ≠ [] → d1 ≠ d2) :
    upd (upd T w1 d1 p1) w2 d2 p2 = upd (upd T w2 d2 p2) w1 d1 p1 := by
  have c1 : ∀ {U : List (List α)} {i k : Nat} {x : α}, U.length = T.length → (tset U i k x).length = T.length := fun h => by rw [tset_length]; exact h
  have c2 : ∀ {U : List (List α)} {d : Nat} {xs : List α}, U.length = T.length → (tpush U d xs).length = T.length := fun h => by rw [tpush_length]; exact h
  cases w1 with
  | none => cases w2 with
    | none => cases p1 with
      | nil => rfl
      | cons a l => cases p2 with
        | nil => rfl
        | cons b m => exact tpush_tpush (g1 (by simp)) (g2 (by simp)) (hd (by simp) (by simp))
    | some v =>
      obtain ⟨i', k', x'⟩ := v
      obtain ⟨y', hy'⟩ := h2 i' k' x' rfl
      cases p1 with
      | nil => rfl
      | cons a l =>
        have e := tset_tpush (x := x') (xs := a :: l) hy' (g1 (by simp))
        cases p2 with
        | nil => exact e.symm
        | cons b m =>
          show tpush (tset (tpush T d1 (a :: l)) i' k' x') d2 (b :: m) = tpush (tpush (tset T i' k' x') d2 (b :: m)) d1 (a :: l)
          rw [← e, tpush_tpush (by rw [tset_length]; exact g1 (by simp)) (by rw [tset_length]; exact g2 (by simp)) (hd (by simp) (by simp))]
  | some v =>
    obtain ⟨i, k, x⟩ := v
    obtain ⟨y, hy⟩ := h1 i k x rfl
    cases w2 with
    | none => cases p2 with
      | nil => cases p1 <;> rfl
      | cons b m =>
        have e := tset_tpush (x := x) (xs := b :: m) hy (g2 (by simp))
        cases p1 with
        | nil => exact e
        | cons a l =>
          show tpush (tpush (tset T i k x) d1 (a :: l)) d2 (b :: m) = tpush (tset (tpush T d2 (b :: m)) i k x) d1 (a :: l)
          rw [← e, tpush_tpush (by rw [tset_length]; exact g1 (by simp)) (by rw [tset_length]; exact g2 (by simp)) (hd (by simp) (by simp))]
    | some v' =>
      obtain ⟨i', k', x'⟩ := v'
      obtain ⟨y', hy'⟩ := h2 i' k' x' rfl
      have hn := hne i k x i' k' x' rfl rfl
      have e0 := tset_tset (x := x) (y := x') (tat_lt hy).1 (tat_lt hy').1 hn
      have hy1 : tat (tset T i' k' x') i k = some y := by rw [tat_set hy', if_neg hn]; exact hy
      have hy2 : tat (tset T i k x) i' k' = some y' := by rw [tat_set hy, if_neg (fun e => hn ⟨e.1.symm, e.2.symm⟩)]; exact hy'
      cases p1 with
      | nil => cases p2 with
        | nil => exact e0
        | cons b m =>
          show tpush (tset (tset T i k x) i' k' x') d2 (b :: m) = tset (tpush (tset T i' k' x') d2 (b :: m)) i k x
          rw [e0]
          exact tset_tpush hy1 (by rw [tset_length]; exact g2 (by simp))
      | cons a l => cases p2 with
        | nil =>
          show tset (tpush (tset T i k x) d1 (a :: l)) i' k' x' = tpush (tset (tset T i' k' x') i k x) d1 (a :: l)
          rw [← e0]
          exact (tset_tpush hy2 (by rw [tset_length]; exact g1 (by simp))).symm
        | cons b m =>
          show tpush (tset (tpush (tset T i k x) d1 (a :: l)) i' k' x') d2 (b :: m) = tpush (tset (tpush (tset T i' k' x') d2 (b :: m)) i k x) d1 (a :: l)
          rw [← tset_tpush (x := x') (xs := a :: l) hy2 (by rw [tset_length]; exact g1 (by simp)), ← tset_tpush (x := x) (xs := b :: m) hy1 (by rw [tset_length]; exact g2 (by simp)), e0]
          exact tpush_tpush (by rw [tset_length, tset_length]; exact g1 (by simp)) (by rw [tset_length, tset_length]; exact g2 (by simp)) (hd (by simp) (by simp))

theorem upd_length {T : List (List α)} {w : Option (Nat × Nat × α)} {d : Nat} {p : List α} : (upd T w d p).length = T.length := by
  unfold upd
  cases w with
  | none => cases p with
    | nil => rfl
    | cons a l => simp only [tpush_length]
  | some v => cases p with
    | nil => exact tset_length _ _ _
    | cons a l => exact (tpush_length _ _).trans (tset_length _ _ _)

theorem upd_tlen {T : List (List α)} {w : Option (Nat × Nat × α)} {d : Nat} {p : List α} (hd : p ≠ [] → d < T.length) {d' : Nat} (h : p ≠ [] → d ≠ d') : tlen (upd T w d p) d' = tlen T d' := by
  have push : ∀ (U : List (List α)) (a : α) (l : List α), U.length = T.length → p = a :: l → tlen (tpush U d (a :: l)) d' = tlen U d' := by
    intro U a l hU hp
    unfold tlen tpush
    rw [getD_set (by rw [hU]; exact hd (by rw [hp]; simp)), if_neg (Ne.symm (h (by rw [hp]; simp)))]
  unfold upd
  cases w with
  | none => cases p with
    | nil => rfl
    | cons a l => exact push T a l rfl rfl
  | some v => cases p with
    | nil => exact tlen_set _ _ _ _
    | cons a l => exact (push _ a l (tset_length _ _ _) rfl).trans (tlen_set _ _ _ _)

theorem upd_tat {T : List (List α)} {w : Option (Nat × Nat × α)} {d : Nat} {p : List α} {i k : Nat} {x : α} (hx : tat T i k = some x) (hw : ∀ y, w ≠ some (i, k, y)) (hv : ∀ i k y, w = some (i, k, y) → ∃ z, tat T i k = some z) : tat (upd T w d p) i k = some x := by
  unfold upd
  cases w with
  | none => cases p with
    | nil => exact hx
    | cons a l => exact tat_push_old _ _ hx
  | some v =>
    obtain ⟨i', k', y⟩ := v
    obtain ⟨z, hz⟩ := hv i' k' y rfl
    have e : tat (tset T i' k' y) i k = some x := by rw [tat_set hz, if_neg (fun e => hw y (by rw [e.1, e.2]))]; exact hx
    cases p with
    | nil => exact e
    | cons a l => exact tat_push_old _ _ e

theorem upd_valid {T : List (List α)} {w : Option (Nat × Nat × α)} {d : Nat} {p : List α} {i k : Nat} {x : α} (hx : tat T i k = some x) (hv : ∀ i k y, w = some (i, k, y) → ∃ z, tat T i k = some z) : ∃ y, tat (upd T w d p) i k = some y := by
  unfold upd
  cases w with
  | none => cases p with
    | nil => exact ⟨_, hx⟩
    | cons a l => exact ⟨_, tat_push_old _ _ hx⟩
  | some v =>
    obtain ⟨i', k', y⟩ := v
    obtain ⟨z, hz⟩ := hv i' k' y rfl
    have e : ∃ q, tat (tset T i' k' y) i k = some q := by
      rw [tat_set hz]
      split
      · exact ⟨_, rfl⟩
      · exact ⟨_, hx⟩
    obtain ⟨q, e⟩ := e
    cases p with
    | nil => exact ⟨q, e⟩
    | cons a l => exact ⟨q, tat_push_old _ _ e⟩
end

section
variable {C : Ctx} {A : Alias} {st st' s1 s2 s3 : St}

theorem applyR_eq (dst : Option Nat) (st : St) (r : Res) : applyR dst st r = { tm := match dst with | some d => st.tm.set d r.val | none => st.tm, bx := upd st.bx r.wb (dst.getD 0) r.pb, tk := upd st.tk r.wt (dst.getD 0) r.pt } := rfl

/-- What an operation's result may be. -/
structure Fits (st : St) (op : SOp) (r : Res) : Prop where
  mks : r.pb ≠ [] ∨ r.pt ≠ [] → makes op = true
  wb : ∀ i k cs, r.wb = some (i, k, cs) → (footOf op).wb = true ∧ (∃ p off, ptrOf op = some p ∧ st.tm.getD p .no = .box i k off) ∧ ∃ cs0, tat st.bx i k = some cs0
  wt : ∀ i k t, r.wt = some (i, k, t) → (footOf op).wt = true ∧ ∃ t0, tat st.tk i k = some t0

theorem Fits.pure {st : St} {op : SOp} {v : CV} : Fits st op { val := v } := ⟨fun h => (by rcases h with h | h <;> exact absurd rfl h), fun _ _ _ h => (by cases h), fun _ _ _ h => (by cases h)⟩

theorem evOp_fits {d : Nat} {op : SOp} {r : Res} (h : evOp C d st op = some r) : Fits st op r := by
  cases op with
  | alloc z => simp only [evOp, Option.some.injEq] at h; subst h; exact ⟨fun _ => rfl, fun _ _ _ h => (by cases h), fun _ _ _ h => (by cases h)⟩
  | box x => simp only [evOp, Option.map_eq_some_iff] at h; obtain ⟨cs, _, rfl⟩ := h; exact ⟨fun _ => rfl, fun _ _ _ h => (by cases h), fun _ _ _ h => (by cases h)⟩
  | buildS e esz n z ps => simp only [evOp, Option.bind_eq_some_iff, Option.map_eq_some_iff] at h; obtain ⟨_, _, cs, _, rfl⟩ := h; exact ⟨fun _ => rfl, fun _ _ _ h => (by cases h), fun _ _ _ h => (by cases h)⟩
  | store el n p x =>
    simp only [evOp, Option.bind_eq_some_iff] at h
    obtain ⟨us, hus, h⟩ := h
    split at h
    · cases el with
      | false =>
        cases hp : getX st p <;> simp only [hp] at h <;> first | (cases h; done) | skip
        rename_i i k off
        simp only [Option.bind_eq_some_iff, Option.map_eq_some_iff] at h
        obtain ⟨cs, hcs, cs', _, rfl⟩ := h
        refine ⟨fun h => (by rcases h with h | h <;> exact absurd rfl h), fun i' k' cs2 h => ?_, fun _ _ _ h => (by cases h)⟩
        simp only [Option.some.injEq, Prod.mk.injEq] at h
        obtain ⟨rfl, rfl, rfl⟩ := h
        cases p with
        | t q => exact ⟨rfl, ⟨q, off, rfl, hp⟩, cs, hcs⟩
        | c x => cases hp
        | f x => cases hp
      | true =>
        cases hp : getX st p <;> simp only [hp] at h <;> first | (cases h; done) | skip
        rename_i i k off
        cases hpl : us.all plainC with
        | false => rw [hpl] at h; cases h
        | true =>
          rw [hpl] at h
          simp only [cond_true, Option.bind_eq_some_iff, Option.map_eq_some_iff] at h
          obtain ⟨t, ht, cs', _, rfl⟩ := h
          refine ⟨fun h => (by rcases h with h | h <;> exact absurd rfl h), fun _ _ _ h => (by cases h), fun i' k' cs2 h => ?_⟩
          simp only [Option.some.injEq, Prod.mk.injEq] at h
          obtain ⟨rfl, rfl, rfl⟩ := h
          exact ⟨rfl, t, (live_tat ht).1⟩
    · cases h
  | app e esz bytes z s x =>
    simp only [evOp] at h
    split at h
    · simp only [Option.bind_eq_some_iff] at h
      obtain ⟨t, ht, p, hp, h⟩ := h
      split at h
      · simp only [Option.some.injEq] at h
        subst h
        refine ⟨fun _ => rfl, fun _ _ _ h => (by cases h), fun i' k' cs2 h => ?_⟩
        simp only [Option.some.injEq, Prod.mk.injEq] at h
        obtain ⟨rfl, rfl, rfl⟩ := h
        exact ⟨rfl, t, (live_tat ht).1⟩
      · cases h
    · simp only [Option.bind_eq_some_iff] at h
      obtain ⟨p, hp, h⟩ := h
      split at h
      · simp only [Option.some.injEq] at h
        subst h
        exact ⟨fun _ => rfl, fun _ _ _ h => (by cases h), fun _ _ _ h => (by cases h)⟩
      · cases h
    · cases h
  | slp esz s lo hi =>
    simp only [evOp] at h
    split at h
    · simp only [Option.bind_eq_some_iff] at h
      obtain ⟨l, _, hh, _, h⟩ := h
      split at h
      · simp only [Option.some.injEq] at h; subst h; exact .pure
      · cases h
    · simp only [Option.bind_eq_some_iff] at h
      obtain ⟨l, _, hh, _, h⟩ := h
      split at h
      · simp only [Option.some.injEq] at h; subst h; exact .pure
      · cases h
    · cases h
  | slc esz s lo hi =>
    simp only [evOp] at h
    split at h
    · simp only [Option.bind_eq_some_iff] at h
      obtain ⟨l, _, hh, _, h⟩ := h
      split at h
      · simp only [Option.some.injEq] at h; subst h; exact .pure
      · cases h
    · simp only [Option.bind_eq_some_iff] at h
      obtain ⟨t, ht, l, _, hh, _, h⟩ := h
      split at h
      · simp only [Option.some.injEq] at h
        subst h
        refine ⟨fun h => (by rcases h with h | h <;> exact absurd rfl h), fun _ _ _ h => (by cases h), fun i' k' cs2 h => ?_⟩
        simp only [Option.some.injEq, Prod.mk.injEq] at h
        obtain ⟨rfl, rfl, rfl⟩ := h
        exact ⟨rfl, t, (live_tat ht).1⟩
      · cases h
    · simp only [Option.bind_eq_some_iff] at h
      obtain ⟨l, _, hh, _, h⟩ := h
      split at h
      · simp only [Option.some.injEq] at h; subst h; exact .pure
      · cases h
    · cases h
  | call ow pt f xs =>
    simp only [evOp, doCall, Option.bind_eq_some_iff] at h
    obtain ⟨g, _, vs, _, ret, _, h⟩ := h
    split at h
    · rename_i hc
      simp only [Option.some.injEq] at h
      subst h
      refine ⟨fun h => ?_, fun _ _ _ h => (by cases h), fun _ _ _ h => (by cases h)⟩
      cases pt with
      | true => rfl
      | false =>
        rcases h with h | h
        · exact absurd rfl h
        · exact absurd (List.eq_nil_of_length_eq_zero (hc.2.1 rfl)) h
    · cases h
  | pcall g p xs =>
    simp only [evOp] at h
    split at h
    · rename_i i k h1
      simp only [Option.bind_eq_some_iff] at h
      obtain ⟨cs, hcs, vs, _, cs', _, h⟩ := h
      split at h
      · simp only [Option.some.injEq] at h
        subst h
        refine ⟨fun h => (by rcases h with h | h <;> exact absurd rfl h), fun i' k' cs2 h => ?_, fun _ _ _ h => (by cases h)⟩
        simp only [Option.some.injEq, Prod.mk.injEq] at h
        obtain ⟨rfl, rfl, rfl⟩ := h
        cases p with
        | t q => exact ⟨rfl, ⟨q, 0, rfl, h1⟩, cs, hcs⟩
        | c x => cases h1
        | f x => cases h1
      · cases h
    · cases h
  | load el ag n ks p =>
    simp only [evOp] at h
    split at h
    · simp only [Option.bind_eq_some_iff, Option.map_eq_some_iff] at h; obtain ⟨_, _, _, _, rfl⟩ := h; exact .pure
    · simp only [Option.map_eq_some_iff] at h; obtain ⟨_, _, rfl⟩ := h; exact .pure
    · simp only [Option.bind_eq_some_iff, Option.map_eq_some_iff] at h; obtain ⟨_, _, _, _, rfl⟩ := h; exact .pure
    · cases h
  | _ =>
    simp only [evOp] at h
    first
      | (simp only [Option.some.injEq] at h; subst h; exact .pure)
      | (simp only [Option.map_eq_some_iff] at h; obtain ⟨_, _, rfl⟩ := h; exact .pure)
      | (simp only [Option.bind_eq_some_iff, Option.map_eq_some_iff] at h; obtain ⟨_, _, _, _, rfl⟩ := h; exact .pure)
      | (repeat' split at h
         all_goals first
           | (cases h; done)
           | (simp only [Option.some.injEq] at h; subst h; exact .pure)
           | (simp only [Option.map_eq_some_iff] at h; obtain ⟨_, _, rfl⟩ := h; exact .pure)
           | (simp only [Option.bind_eq_some_iff] at h; obtain ⟨_, _, h⟩ := h; split at h <;> first | (cases h; done) | (simp only [Option.some.injEq] at h; subst h; exact .pure)))
end
end Go.Proofs.Ytgmciihlmgeecaa.Mt
