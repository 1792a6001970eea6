import Derived.Test.YtgmciihlmgeecaaMtOps
import Derived.DataElems
/- The operations that only read, and those that make or write memory, do what the evaluator says. Conditions: those that each lemma names. -/
namespace Go.Proofs.Ytgmciihlmgeecaa.Mt
open Go Go.RowKit
section
variable {P : Program} {W0 : Base} {S0 : Nat → Prop} {φ : Nat → Nat → Nat} {γ : Nat → Nat → Value} {st st' : St} {a : Act} {w w' : World}

def Sound1 (P : Program) (W0 : Base) (S0 : Nat → Prop) (o : Oper) (st : St) (a : Act) (w : World) (r : Res) : Prop :=
  ∃ φ' γ' u w', Does P o a w u w' ∧ Rep W0 S0 φ' γ' (applyR o.dst st r) (a.put o.dst u) w'

theorem Sound1.pure (h : Rep W0 S0 φ γ st a w) {o : Oper} {v : CV} {u : Value} (hrun : (execOp a.eval o).run P w = .ok (.value u) w) (hv : RelV w (envOf W0 S0 φ γ st w) v u) :
    Sound1 P W0 S0 o st a w { val := v } := ⟨φ, γ, u, w, .inl hrun, h.pure o.dst hv⟩

/-! ### Rows, as they lie in memory -/

theorem own_view {base e sz n : Nat} {v : Value} {xs : List Value} (h : w.ownsRow base e sz v n xs) :
    ∃ A cap, v = .slice A n cap ∧ n ≤ cap ∧ (xs ≠ [] → ∃ b, A = some b ∧ ∀ j x, xs[j]? = some x → w.cell? (b.add j) = some x) := by
  obtain ⟨h1, h2⟩ := h
  rcases h2 with ⟨rfl, rfl⟩ | ⟨g, cap, cur, rfl, hb, hg, hn, hc, hs, hx⟩
  · refine ⟨none, 0, rfl, Nat.le_refl _, fun hne => ?_⟩
    have : xs.length = 0 := by simpa using h1
    exact absurd (List.eq_nil_of_length_eq_zero this) hne
  · refine ⟨some ⟨g, 0, none⟩, cap, rfl, hn, fun _ => ⟨_, rfl, fun j x hj => ?_⟩⟩
    rw [add_at, cell_of_row w g j cur e (0, 0) hg]
    rw [← hx, List.getElem?_take] at hj
    split at hj
    · simpa using hj
    · cases hj
where
  add_at {g j : Nat} : (⟨g, 0, none⟩ : Addr).add j = ⟨g, j, none⟩ := by unfold Addr.add; split <;> simp_all

theorem live_tat {d k : Nat} {t : Tok} (h : liveTok st d k = some t) : tat st.tk d k = some t ∧ t.live = true := by
  unfold liveTok at h
  cases hq : tat st.tk d k with
  | none => rw [hq] at h; cases h
  | some u =>
    rw [hq] at h
    simp only [Option.bind_some] at h
    split at h
    · rename_i hl; simp only [Option.some.injEq] at h; subst h; exact ⟨rfl, hl⟩
    · cases h

theorem contents_view (hm : Mem W0 S0 φ γ st w) {c : Cell} {u : Value} {n : Nat} {cs : List Cell} (h : contents st c = some (n, cs)) (hr : RelC1 w (envOf W0 S0 φ γ st w) c u) :
    ∃ A cap xs, u = .slice A n cap ∧ n ≤ cap ∧ RelP w (Fx W0 S0 φ γ st w) cs xs ∧ (xs ≠ [] → ∃ b, A = some b ∧ ∀ j x, xs[j]? = some x → w.cell? (b.add j) = some x) := by
  cases c with
  | v x =>
    have hx : u = x := by cases hr; rfl
    subst hx
    simp only [contents] at h
    split at h
    all_goals first
      | (cases h; done)
      | (rename_i heq; cases heq; done)
      | skip
    all_goals first
      | (rename_i heq; simp only [Option.some.injEq, Prod.mk.injEq] at h; obtain ⟨rfl, rfl⟩ := h; simp only [Cell.v.injEq] at heq; subst heq
         exact ⟨none, 0, [], rfl, Nat.le_refl _, ⟨rfl, fun j c u hc => by simp at hc⟩, fun hne => absurd rfl hne⟩)
      | skip
  | sl n' cs' =>
    simp only [contents, Option.some.injEq, Prod.mk.injEq] at h
    obtain ⟨rfl, rfl⟩ := h
    have hr' : RelC w (Fx W0 S0 φ γ st w) (.sl n' cs') u := hr
    cases hr' with
    | sl xs hn hl hx hrr =>
      refine ⟨_, _, xs, rfl, hn, ⟨hl.symm, hrr⟩, fun hne => ?_⟩
      have : cs' ≠ [] := by intro e; subst e; exact hne (List.eq_nil_of_length_eq_zero hl)
      obtain ⟨b, hb, _, hc⟩ := hx this
      exact ⟨b, hb, hc⟩
  | own d k =>
    simp only [contents] at h
    cases hq : liveTok st d k with
    | none => rw [hq] at h; cases h
    | some t =>
      rw [hq] at h
      simp only [Option.map_some, Option.some.injEq, Prod.mk.injEq] at h
      obtain ⟨rfl, rfl⟩ := h
      obtain ⟨ht, hl⟩ := live_tat hq
      obtain ⟨xs, ho, hp⟩ := hm.tks d k t ht hl
      obtain ⟨A, cap, hv, hn, hc⟩ := own_view ho
      exact ⟨A, cap, xs, hr.2.1.trans hv, hn, hp, hc⟩
  | dead => simp [contents] at h

/-! ### Reading -/

theorem shape_cases {t : TypeId} {ag : Bool} {n : Nat} (h : shapeT P t = some (ag, n)) : sizeT P t = some n ∧ aggT P t = ag ∧ (ag = false → n = 1) ∧ ∃ d, P.underlying t = some d := by
  unfold shapeT at h
  cases hs : sizeT P t with
  | none => rw [hs] at h; cases h
  | some m =>
    rw [hs] at h
    simp only [Option.bind_some] at h
    unfold aggT
    cases hu : P.underlying t with
    | none => rw [hu] at h; cases h
    | some d =>
      rw [hu] at h
      cases d <;> simp only at h <;> first
        | (cases h; done)
        | (simp only [Option.some.injEq, Prod.mk.injEq] at h; obtain ⟨rfl, rfl⟩ := h; exact ⟨rfl, rfl, by simp, _, rfl⟩)
        | (split at h
           · rename_i h1; subst h1; simp only [Option.some.injEq, Prod.mk.injEq] at h; obtain ⟨rfl, rfl⟩ := h; exact ⟨rfl, rfl, by simp, _, rfl⟩
           · cases h)

theorem size_info {t : TypeId} {n : Nat} (hs : sizeT P t = some n) : ∃ i, P.info? t = some i ∧ i.size = n := by
  unfold sizeT at hs
  cases hq : P.info? t with
  | none => simp [hq] at hs
  | some i => simp [hq] at hs; exact ⟨i, rfl, hs⟩

theorem run_sizeT {t : TypeId} {n : Nat} (hs : sizeT P t = some n) : (sizeOf t).run P w = .ok n w := by
  obtain ⟨i, hq, rfl⟩ := size_info hs
  simp [sizeOf, typeInfo, hq]

theorem run_isAgg {t : TypeId} {d : TypeDesc} (hu : P.underlying t = some d) : (isAgg t).run P w = .ok (aggT P t) w := by
  unfold isAgg aggT
  rw [Sem.run_bind, run_underlying hu]
  cases d <;> simp [hu]

theorem run_loadT {t : TypeId} {ag : Bool} {n : Nat} (h : shapeT P t = some (ag, n)) (b : Addr) (vs : List Value) (hl : vs.length = n) (hc : ∀ j x, vs[j]? = some x → w.cell? (b.add j) = some x) :
    (loadVar t b).run P w = .ok (valOf ag vs) w := by
  obtain ⟨hs, ha, h1, d, hu⟩ := shape_cases h
  unfold loadVar
  rw [Sem.run_bind, run_isAgg hu, ha]
  simp only [Result.andThen_ok]
  cases ag with
  | true =>
    have := run_loadCells_list (P := P) w b vs hc
    rw [hl] at this
    simp [run_sizeT hs, this, valOf]
  | false =>
    have hn := h1 rfl
    subst hn
    obtain ⟨x, rfl⟩ : ∃ x, vs = [x] := List.length_eq_one_iff.1 hl
    have := hc 0 x rfl
    rw [Addr.add_zero'] at this
    simp [this, valOf]

theorem sliceC_rel {E : Env} {cs : List Cell} {xs : List Value} (hr : RelL w E cs xs) {off n : Nat} {ag : Bool} {v : CV} (h : sliceC cs off n ag = some v) (h1 : ag = false → n = 1) :
    off + n ≤ xs.length ∧ RelV w E v (valOf ag ((xs.drop off).take n)) := by
  unfold sliceC at h
  split at h
  · rename_i hle
    rw [hr.1] at hle
    refine ⟨hle, ?_⟩
    cases ag with
    | true =>
      simp only [cond_true, Option.some.injEq] at h
      subst h
      refine ⟨(xs.drop off).take n, rfl, by simp [hr.1], fun j c u hc hu => ?_⟩
      rw [List.getElem?_take] at hc hu
      split at hc
      · rename_i hj
        rw [if_pos hj] at hu
        rw [List.getElem?_drop] at hc hu
        exact hr.2 _ _ _ hc hu
      · cases hc
    | false =>
      have hn := h1 rfl
      subst hn
      simp only [cond_false] at h
      cases hq : cs[off]? with
      | none => rw [hq] at h; cases h
      | some c =>
        rw [hq] at h
        simp only [Option.map_some, Option.some.injEq] at h
        subst h
        have hx : xs[off]? = some (xs[off]'(by omega)) := List.getElem?_eq_getElem (by omega)
        have : valOf false ((xs.drop off).take 1) = xs[off]'(by omega) := by
          simp [valOf, List.getD_eq_getElem?_getD, List.getElem?_drop, hx]
        rw [this]
        exact hr.2 off c _ hq hx
  · cases h

theorem take_cells {xs : List Value} {b : Addr} (hc : ∀ j x, xs[j]? = some x → w.cell? (b.add j) = some x) {off n : Nat} : ∀ j x, ((xs.drop off).take n)[j]? = some x → w.cell? ((b.add off).add j) = some x := by
  intro j x hj
  rw [List.getElem?_take] at hj
  split at hj
  · rw [List.getElem?_drop] at hj
    rw [Addr.add_add]
    exact hc _ _ hj
  · cases hj

theorem add_at (g i j : Nat) : (⟨g, i, none⟩ : Addr).add j = ⟨g, i + j, none⟩ := Addr.add_lit g i j

theorem box_cells {g T : Nat} {us : Array Value} (hg : w.heap[g]? = some (.cells us T (0, 0))) : ∀ j x, us.toList[j]? = some x → w.cell? ((⟨g, 0, none⟩ : Addr).add j) = some x := by
  intro j x hj
  rw [add_at, Nat.zero_add, cell_of_row w g j us T (0, 0) hg]
  simpa using hj

theorem load_sound {H : Hints} {el : List Tmp} {o : Oper} {t : TypeId} {p : Operand} (ho : o.op = .load t p) {so : SOp} (hcc : ccOp P H el o = some so) (hR : Rep W0 S0 φ γ st a w) {C : Ctx} {d : Nat} {r : Res} (hev : evOp C d st so = some r) :
    Sound1 P W0 S0 o st a w r := by
  unfold ccOp at hcc
  rw [ho] at hcc
  simp only at hcc
  cases hs : shapeT P t with
  | none => rw [hs] at hcc; cases hcc
  | some s =>
    obtain ⟨ag, n⟩ := s
    rw [hs] at hcc
    simp only [Option.bind_some] at hcc
    cases hx : ccX p with
    | none => rw [hx] at hcc; cases hcc
    | some q =>
      rw [hx] at hcc
      simp only [Option.map_some, Option.some.injEq] at hcc
      subst hcc
      have hp := ccX_rel hx hR
      have h1 := (shape_cases hs).2.2.1
      have fin : ∀ (b : Addr) (xs : List Value) (cs : List Cell) (off : Nat) (v : CV), a.eval p = .pointer (some (b.add off)) → (∀ j x, xs[j]? = some x → w.cell? (b.add j) = some x) →
          RelL w (envOf W0 S0 φ γ st w) cs xs → sliceC cs off n ag = some v → r = { val := v } → Sound1 P W0 S0 o st a w r := by
        intro b xs cs off v hb hc hl hsl hr
        obtain ⟨hle, hv⟩ := sliceC_rel hl hsl h1
        subst hr
        refine Sound1.pure hR ?_ hv
        unfold execOp
        rw [ho]
        simp only [hb, Instr.loadAt, Instr.sureAddr, Sem.run_bind, Sem.run_pure, Result.andThen_ok]
        rw [run_loadT hs (b.add off) ((xs.drop off).take n) (by simp; omega) (take_cells hc)]
        rfl
      simp only [evOp] at hev
      split at hev
      · rename_i i k off e1 e2
        rw [e2] at hp
        cases hq : tat st.bx i k with
        | none => rw [hq] at hev; cases hev
        | some cs =>
          rw [hq] at hev
          simp only [Option.bind_some] at hev
          cases hsl : sliceC cs off n ag with
          | none => rw [hsl] at hev; cases hev
          | some v =>
            rw [hsl] at hev
            simp only [Option.map_some, Option.some.injEq] at hev
            obtain ⟨_, us, T, hg, hl⟩ := hR.mem.bxs i k cs hq
            exact fin ⟨φ i k, 0, none⟩ us.toList cs off v (by rw [hp.2, add_at, Nat.zero_add]; rfl) (box_cells hg) hl hsl hev.symm
      · rename_i cs off e1 e2
        rw [e2] at hp
        cases hsl : sliceC cs off n ag with
        | none => rw [hsl] at hev; cases hev
        | some v =>
          rw [hsl] at hev
          simp only [Option.map_some, Option.some.injEq] at hev
          obtain ⟨b, hb, xs, hF, hlen, hc, hrr⟩ := hp
          exact fin b xs cs off v hb hc (RelP.toL (E := envOf W0 S0 φ γ st w) ⟨hlen.symm, hrr⟩) hsl hev.symm
      · rename_i i k off e1 e2
        rw [e2] at hp
        cases hq : liveTok st i k with
        | none => rw [hq] at hev; cases hev
        | some t' =>
          rw [hq] at hev
          simp only [Option.bind_some] at hev
          cases hsl : sliceC t'.cs off n ag with
          | none => rw [hsl] at hev; cases hev
          | some v =>
            rw [hsl] at hev
            simp only [Option.map_some, Option.some.injEq] at hev
            obtain ⟨ht, hl⟩ := live_tat hq
            obtain ⟨xs, hown, hpp⟩ := hR.mem.tks i k t' ht hl
            obtain ⟨_, g, m, cap, hγ, hu⟩ := hp
            have hγ' : γ i k = .slice (some ⟨g, 0, none⟩) m cap := hγ
            have hcell := hown.cells (g := g) (by rw [hγ']; rfl)
            exact fin ⟨g, 0, none⟩ xs t'.cs off v (by rw [hu, add_at, Nat.zero_add]) hcell (RelP.toL (E := envOf W0 S0 φ γ st w) hpp) hsl hev.symm
      · cases hev

end
end Go.Proofs.Ytgmciihlmgeecaa.Mt
