import Derived.Test.YtlfojobligplkaaDoorMtOps
import Derived.DataElems
import Derived.Laws.Strings2
import Derived.Laws.Entries
/- The operations that only read, and those that make or write memory, do what the evaluator says. Conditions: those that each lemma names. -/
namespace Go.Proofs.YtlfojobligplkaaDoor.Mt
set_option linter.unusedSimpArgs false
open Go Go.RowKit
section
variable {P : Program} {W0 : Base} {S0 : Nat → Prop} {φ : Nat → Nat → Nat} {γ : Nat → Nat → Value} {st st' : St} {a : Act} {w w' : World}

def Sound1 (P : Program) (W0 : Base) (S0 : Nat → Prop) (o : Oper) (st : St) (a : Act) (w : World) (r : Res) : Prop :=
  ∃ φ' γ' u w', Does P o a w u w' ∧ Rep W0 S0 φ' γ' (applyR o.dst st r) (a.put o.dst u) w'

theorem Sound1.pure (h : Rep W0 S0 φ γ st a w) {o : Oper} {v : CV} {u : Value} (hrun : (execOp a.eval o).run P w = .ok (.value u) w) (hv : RelV w (envOf W0 S0 φ γ st w) v u) :
    Sound1 P W0 S0 o st a w { val := v } := ⟨φ, γ, u, w, .inl hrun, h.pure o.dst hv⟩

/-! ### Rows, as they lie in memory -/

theorem own_view {base e sz n : Nat} {v : Value} {xs : List Value} (h : w.ownsRow base e sz v n xs) :
    ∃ A cap, v = .slice A n cap ∧ n ≤ cap ∧ (xs ≠ [] → ∃ b, A = some b ∧ ∀ j x, xs[j]? = some x → w.cell? (b.add j) = some x) := by
  obtain ⟨h1, h2⟩ := h
  rcases h2 with ⟨rfl, rfl⟩ | ⟨g, cap, cur, rfl, hb, hg, hn, hc, hs, hx⟩
  · refine ⟨none, 0, rfl, Nat.le_refl _, fun hne => ?_⟩
    have : xs.length = 0 := by simpa using h1
    exact absurd (List.eq_nil_of_length_eq_zero this) hne
  · refine ⟨some ⟨g, 0, none⟩, cap, rfl, hn, fun _ => ⟨_, rfl, fun j x hj => ?_⟩⟩
    rw [add_at, cell_of_row w g j cur e (0, 0) hg]
    rw [← hx, List.getElem?_take] at hj
    split at hj
    · simpa using hj
    · cases hj
where
  add_at {g j : Nat} : (⟨g, 0, none⟩ : Addr).add j = ⟨g, j, none⟩ := by unfold Addr.add; split <;> simp_all

theorem live_tat {d k : Nat} {t : Tok} (h : liveTok st d k = some t) : tat st.tk d k = some t ∧ t.live = true := by
  unfold liveTok at h
  cases hq : tat st.tk d k with
  | none => rw [hq] at h; cases h
  | some u =>
    rw [hq] at h
    simp only [Option.bind_some] at h
    split at h
    · rename_i hl; simp only [Option.some.injEq] at h; subst h; exact ⟨rfl, hl⟩
    · cases h

theorem contents_view (hm : Mem W0 S0 φ γ st w) {c : Cell} {u : Value} {n : Nat} {cs : List Cell} (h : contents st c = some (n, cs)) (hr : RelC1 w (envOf W0 S0 φ γ st w) c u) :
    ∃ A cap xs, u = .slice A n cap ∧ n ≤ cap ∧ RelP w (Fx W0 S0 φ γ st w) cs xs ∧ (xs ≠ [] → ∃ b, A = some b ∧ ∀ j x, xs[j]? = some x → w.cell? (b.add j) = some x) := by
  cases c with
  | v x =>
    have hx : u = x := by cases hr; rfl
    subst hx
    simp only [contents] at h
    split at h
    all_goals first
      | (cases h; done)
      | (rename_i heq; cases heq; done)
      | skip
    all_goals first
      | (rename_i heq; simp only [Option.some.injEq, Prod.mk.injEq] at h; obtain ⟨rfl, rfl⟩ := h; simp only [Cell.v.injEq] at heq; subst heq
         exact ⟨none, 0, [], rfl, Nat.le_refl _, ⟨rfl, fun j c u hc => by simp at hc⟩, fun hne => absurd rfl hne⟩)
      | skip
  | sl n' cs' =>
    simp only [contents, Option.some.injEq, Prod.mk.injEq] at h
    obtain ⟨rfl, rfl⟩ := h
    have hr' : RelC w (Fx W0 S0 φ γ st w) (.sl n' cs') u := hr
    cases hr' with
    | sl xs hn hl hx hrr =>
      refine ⟨_, _, xs, rfl, hn, ⟨hl.symm, hrr⟩, fun hne => ?_⟩
      have : cs' ≠ [] := by intro e; subst e; exact hne (List.eq_nil_of_length_eq_zero hl)
      obtain ⟨b, hb, _, hc⟩ := hx this
      exact ⟨b, hb, hc⟩
  | own d k =>
    simp only [contents] at h
    cases hq : liveTok st d k with
    | none => rw [hq] at h; cases h
    | some t =>
      rw [hq] at h
      simp only [Option.map_some, Option.some.injEq, Prod.mk.injEq] at h
      obtain ⟨rfl, rfl⟩ := h
      obtain ⟨ht, hl⟩ := live_tat hq
      obtain ⟨xs, ho, hp⟩ := hm.tks d k t ht hl
      obtain ⟨A, cap, hv, hn, hc⟩ := own_view ho
      exact ⟨A, cap, xs, hr.2.1.trans hv, hn, hp, hc⟩
  | dead => simp [contents] at h

/-! ### Reading -/

theorem shape_cases {t : TypeId} {ag : Bool} {n : Nat} (h : shapeT P t = some (ag, n)) : sizeT P t = some n ∧ aggT P t = ag ∧ (ag = false → n = 1) ∧ ∃ d, P.underlying t = some d := by
  unfold shapeT at h
  cases hs : sizeT P t with
  | none => rw [hs] at h; cases h
  | some m =>
    rw [hs] at h
    simp only [Option.bind_some] at h
    unfold aggT
    cases hu : P.underlying t with
    | none => rw [hu] at h; cases h
    | some d =>
      rw [hu] at h
      cases d <;> simp only at h <;> first
        | (cases h; done)
        | (simp only [Option.some.injEq, Prod.mk.injEq] at h; obtain ⟨rfl, rfl⟩ := h; exact ⟨rfl, rfl, by simp, _, rfl⟩)
        | (split at h
           · rename_i h1; subst h1; simp only [Option.some.injEq, Prod.mk.injEq] at h; obtain ⟨rfl, rfl⟩ := h; exact ⟨rfl, rfl, by simp, _, rfl⟩
           · cases h)

theorem size_info {t : TypeId} {n : Nat} (hs : sizeT P t = some n) : ∃ i, P.info? t = some i ∧ i.size = n := by
  unfold sizeT at hs
  cases hq : P.info? t with
  | none => simp [hq] at hs
  | some i => simp [hq] at hs; exact ⟨i, rfl, hs⟩

theorem run_sizeT {t : TypeId} {n : Nat} (hs : sizeT P t = some n) : (sizeOf t).run P w = .ok n w := by
  obtain ⟨i, hq, rfl⟩ := size_info hs
  simp [sizeOf, typeInfo, hq]

theorem run_isAgg {t : TypeId} {d : TypeDesc} (hu : P.underlying t = some d) : (isAgg t).run P w = .ok (aggT P t) w := by
  unfold isAgg aggT
  rw [Sem.run_bind, run_underlying hu]
  cases d <;> simp [hu]

theorem run_loadT {t : TypeId} {ag : Bool} {n : Nat} (h : shapeT P t = some (ag, n)) (b : Addr) (vs : List Value) (hl : vs.length = n) (hc : ∀ j x, vs[j]? = some x → w.cell? (b.add j) = some x) :
    (loadVar t b).run P w = .ok (valOf ag vs) w := by
  obtain ⟨hs, ha, h1, d, hu⟩ := shape_cases h
  unfold loadVar
  rw [Sem.run_bind, run_isAgg hu, ha]
  simp only [Result.andThen_ok]
  cases ag with
  | true =>
    have := run_loadCells_list (P := P) w b vs hc
    rw [hl] at this
    simp [run_sizeT hs, this, valOf]
  | false =>
    have hn := h1 rfl
    subst hn
    obtain ⟨x, rfl⟩ : ∃ x, vs = [x] := List.length_eq_one_iff.1 hl
    have := hc 0 x rfl
    rw [Addr.add_zero'] at this
    simp [this, valOf]

theorem sliceC_rel {E : Env} {cs : List Cell} {xs : List Value} (hr : RelL w E cs xs) {off n : Nat} {ag : Bool} {v : CV} (h : sliceC cs off n ag = some v) (h1 : ag = false → n = 1) :
    off + n ≤ xs.length ∧ RelV w E v (valOf ag ((xs.drop off).take n)) := by
  unfold sliceC at h
  split at h
  · rename_i hle
    rw [hr.1] at hle
    refine ⟨hle, ?_⟩
    cases ag with
    | true =>
      simp only [cond_true, Option.some.injEq] at h
      subst h
      refine ⟨(xs.drop off).take n, rfl, by simp [hr.1], fun j c u hc hu => ?_⟩
      rw [List.getElem?_take] at hc hu
      split at hc
      · rename_i hj
        rw [if_pos hj] at hu
        rw [List.getElem?_drop] at hc hu
        exact hr.2 _ _ _ hc hu
      · cases hc
    | false =>
      have hn := h1 rfl
      subst hn
      simp only [cond_false] at h
      cases hq : cs[off]? with
      | none => rw [hq] at h; cases h
      | some c =>
        rw [hq] at h
        simp only [Option.map_some, Option.some.injEq] at h
        subst h
        have hx : xs[off]? = some (xs[off]'(by omega)) := List.getElem?_eq_getElem (by omega)
        have : valOf false ((xs.drop off).take 1) = xs[off]'(by omega) := by
          simp [valOf, List.getD_eq_getElem?_getD, List.getElem?_drop, hx]
        rw [this]
        exact hr.2 off c _ hq hx
  · cases h

theorem take_cells {xs : List Value} {b : Addr} (hc : ∀ j x, xs[j]? = some x → w.cell? (b.add j) = some x) {off n : Nat} : ∀ j x, ((xs.drop off).take n)[j]? = some x → w.cell? ((b.add off).add j) = some x := by
  intro j x hj
  rw [List.getElem?_take] at hj
  split at hj
  · rw [List.getElem?_drop] at hj
    rw [Addr.add_add]
    exact hc _ _ hj
  · cases hj

theorem add_at (g i j : Nat) : (⟨g, i, none⟩ : Addr).add j = ⟨g, i + j, none⟩ := Addr.add_lit g i j

theorem box_cells {g T : Nat} {us : Array Value} (hg : w.heap[g]? = some (.cells us T (0, 0))) : ∀ j x, us.toList[j]? = some x → w.cell? ((⟨g, 0, none⟩ : Addr).add j) = some x := by
  intro j x hj
  rw [add_at, Nat.zero_add, cell_of_row w g j us T (0, 0) hg]
  simpa using hj

theorem load_sound {H : Hints} {el : List Tmp} {o : Oper} {t : TypeId} {p : Operand} (ho : o.op = .load t p) {so : SOp} (hcc : ccOp0 P H el o = some so) (hR : Rep W0 S0 φ γ st a w) {C : Ctx} {d : Nat} {r : Res} (hev : evOp C d st so = some r) :
    Sound1 P W0 S0 o st a w r := by
  unfold ccOp0 at hcc
  rw [ho] at hcc
  simp only at hcc
  cases hs : shapeT P t with
  | none => rw [hs] at hcc; cases hcc
  | some s =>
    obtain ⟨ag, n⟩ := s
    rw [hs] at hcc
    simp only [Option.bind_some] at hcc
    cases hx : ccX p with
    | none => rw [hx] at hcc; cases hcc
    | some q =>
      rw [hx] at hcc
      simp only [Option.map_some, Option.some.injEq] at hcc
      subst hcc
      have hp := ccX_rel hx hR
      have h1 := (shape_cases hs).2.2.1
      have fin : ∀ (b : Addr) (xs : List Value) (cs : List Cell) (off : Nat) (v : CV), a.eval p = .pointer (some (b.add off)) → (∀ j x, xs[j]? = some x → w.cell? (b.add j) = some x) →
          RelL w (envOf W0 S0 φ γ st w) cs xs → sliceC cs off n ag = some v → r = { val := v } → Sound1 P W0 S0 o st a w r := by
        intro b xs cs off v hb hc hl hsl hr
        obtain ⟨hle, hv⟩ := sliceC_rel hl hsl h1
        subst hr
        refine Sound1.pure hR ?_ hv
        unfold execOp
        rw [ho]
        simp only [hb, Instr.loadAt, Instr.sureAddr, Sem.run_bind, Sem.run_pure, Result.andThen_ok]
        rw [run_loadT hs (b.add off) ((xs.drop off).take n) (by simp; omega) (take_cells hc)]
        rfl
      simp only [evOp] at hev
      split at hev
      · rename_i i k off e1 e2
        rw [e2] at hp
        cases hq : tat st.bx i k with
        | none => rw [hq] at hev; cases hev
        | some cs =>
          rw [hq] at hev
          simp only [Option.bind_some] at hev
          cases hsl : sliceC cs off n ag with
          | none => rw [hsl] at hev; cases hev
          | some v =>
            rw [hsl] at hev
            simp only [Option.map_some, Option.some.injEq] at hev
            obtain ⟨_, us, T, hg, hl⟩ := hR.mem.bxs i k cs hq
            exact fin ⟨φ i k, 0, none⟩ us.toList cs off v (by rw [hp.2, add_at, Nat.zero_add]; rfl) (box_cells hg) hl hsl hev.symm
      · rename_i cs off e1 e2
        rw [e2] at hp
        cases hsl : sliceC cs off n ag with
        | none => rw [hsl] at hev; cases hev
        | some v =>
          rw [hsl] at hev
          simp only [Option.map_some, Option.some.injEq] at hev
          obtain ⟨b, hb, xs, hF, hlen, hc, hrr⟩ := hp
          exact fin b xs cs off v hb hc (RelP.toL (E := envOf W0 S0 φ γ st w) ⟨hlen.symm, hrr⟩) hsl hev.symm
      · rename_i i k off e1 e2
        rw [e2] at hp
        cases hq : liveTok st i k with
        | none => rw [hq] at hev; cases hev
        | some t' =>
          rw [hq] at hev
          simp only [Option.bind_some] at hev
          cases hsl : sliceC t'.cs off n ag with
          | none => rw [hsl] at hev; cases hev
          | some v =>
            rw [hsl] at hev
            simp only [Option.map_some, Option.some.injEq] at hev
            obtain ⟨ht, hl⟩ := live_tat hq
            obtain ⟨xs, hown, hpp⟩ := hR.mem.tks i k t' ht hl
            obtain ⟨_, g, m, cap, hγ, hu⟩ := hp
            have hγ' : γ i k = .slice (some ⟨g, 0, none⟩) m cap := hγ
            have hcell := hown.cells (g := g) (by rw [hγ']; rfl)
            exact fin ⟨g, 0, none⟩ xs t'.cs off v (by rw [hu, add_at, Nat.zero_add]) hcell (RelP.toL (E := envOf W0 S0 φ γ st w) hpp) hsl hev.symm
      · cases hev

end
end Go.Proofs.YtlfojobligplkaaDoor.Mt

/-! More of the operations that only read. Conditions: those that each lemma names. -/
namespace Go.Proofs.YtlfojobligplkaaDoor.Mt
open Go Go.RowKit
section
variable {P : Program} {W0 : Base} {S0 : Nat → Prop} {φ : Nat → Nat → Nat} {γ : Nat → Nat → Value} {st st' : St} {a : Act} {w w' : World}

theorem mv_sound {o : Oper} {x : Operand} (ho : o.op = .move x ∨ o.op = .assign x) {s : SX} (hx : ccX x = some s) (hR : Rep W0 S0 φ γ st a w) {C : Ctx} {d : Nat} {r : Res} (hev : evOp C d st (.mv s) = some r) : Sound1 P W0 S0 o st a w r := by
  simp only [evOp, Option.some.injEq] at hev
  subst hev
  refine Sound1.pure hR ?_ (ccX_rel hx hR)
  unfold execOp
  rcases ho with ho | ho <;> rw [ho] <;> rfl

theorem pick_sound {o : Oper} {c x y : Operand} (ho : o.op = .pick c x y) {sc sx sy : SX} (hc : ccX c = some sc) (hx : ccX x = some sx) (hy : ccX y = some sy) (hR : Rep W0 S0 φ γ st a w) {C : Ctx} {d : Nat} {r : Res} (hev : evOp C d st (.pick sc sx sy) = some r) : Sound1 P W0 S0 o st a w r := by
  simp only [evOp] at hev
  split at hev
  · rename_i q e
    simp only [Option.some.injEq] at hev
    subst hev
    have h1 := ccX_rel hc hR
    rw [e] at h1
    have h2 := rel_v h1
    cases q with
    | true =>
      refine Sound1.pure hR (u := a.eval x) ?_ (ccX_rel hx hR)
      unfold execOp
      rw [ho]
      simp [h2, asBool]
    | false =>
      refine Sound1.pure hR (u := a.eval y) ?_ (ccX_rel hy hR)
      unfold execOp
      rw [ho]
      simp [h2, asBool]
  · cases hev

/-- An address further on. -/
theorem shift_rel {E : Env} {v v' : CV} {u : Value} {o : Nat} (h : shift o v = some v') (hv : RelV w E v u) : ∃ b : Addr, u = .pointer (some b) ∧ RelV w E v' (.pointer (some (b.add o))) := by
  cases v <;> simp only [shift, Option.some.injEq] at h <;> first | (cases h; done) | skip
  case box d k off =>
    subst h
    exact ⟨_, hv.2, hv.1, by rw [add_at]⟩
  case elm cs off =>
    subst h
    obtain ⟨b, hu, he⟩ := hv
    exact ⟨_, hu, b, by rw [Addr.add_add], he⟩
  case elo d k off =>
    subst h
    obtain ⟨ht, g, n, cap, hg, hu⟩ := hv
    exact ⟨_, hu, ht, g, n, cap, hg, by rw [add_at]⟩

theorem fld_sound {o : Oper} {t : TypeId} {x : Operand} {f : Nat} (ho : o.op = .fieldAddr t x f) {fs : Array Field} (hu : P.underlying t = some (.struct fs)) {g : Field} (hg : fs[f]? = some g) {n : Nat} (hn : sizeT P g.type = some n) (hn0 : n ≠ 0)
    {s : SX} (hx : ccX x = some s) (hR : Rep W0 S0 φ γ st a w) {C : Ctx} {d : Nat} {r : Res} (hev : evOp C d st (.fld g.offset s) = some r) : Sound1 P W0 S0 o st a w r := by
  simp only [evOp, Option.map_eq_some_iff] at hev
  obtain ⟨v, hs, rfl⟩ := hev
  obtain ⟨b, hb, hv⟩ := shift_rel hs (ccX_rel hx hR)
  refine Sound1.pure hR ?_ hv
  unfold execOp
  rw [ho]
  simp [Instr.fieldAt, run_underlying hu, hg, hb, Instr.sureAddr, fieldPlace, run_sizeT hn, hn0]

theorem ixA_sound {o : Oper} {t e : TypeId} {x i : Operand} (ho : o.op = .indexAddr t x i) {n m : Nat} (hu : P.underlying t = some (.array n e)) (hm : sizeT P e = some m)
    {sx si : SX} (hx : ccX x = some sx) (hi : ccX i = some si) (hR : Rep W0 S0 φ γ st a w) {C : Ctx} {d : Nat} {r : Res} (hev : evOp C d st (.ixA n m sx si) = some r) : Sound1 P W0 S0 o st a w r := by
  simp only [evOp] at hev
  split at hev
  · rename_i k j e1
    split at hev
    · rename_i hj
      simp only [Option.map_eq_some_iff] at hev
      obtain ⟨v, hs, rfl⟩ := hev
      have h1 := ccX_rel hi hR
      rw [e1] at h1
      have h2 := rel_v h1
      obtain ⟨b, hb, hv⟩ := shift_rel hs (ccX_rel hx hR)
      refine Sound1.pure hR ?_ hv
      unfold execOp
      rw [ho]
      simp [Instr.indexAt, run_underlying hu, hb, h2, Instr.sureAddr, asIntOf, hj, run_sizeT hm]
    · cases hev
  · cases hev

theorem ixS_sound {o : Oper} {t e : TypeId} {x i : Operand} (ho : o.op = .indexAddr t x i) {m : Nat} (hu : P.underlying t = some (.slice e)) (hm : sizeT P e = some m)
    {sx si : SX} (hx : ccX x = some sx) (hi : ccX i = some si) (hR : Rep W0 S0 φ γ st a w) {C : Ctx} {d : Nat} {r : Res} (hev : evOp C d st (.ixS m sx si) = some r) : Sound1 P W0 S0 o st a w r := by
  have hX := ccX_rel hx hR
  have hI := ccX_rel hi hR
  simp only [evOp] at hev
  split at hev
  · rename_i n cs k j e1 e2
    split at hev
    · rename_i hj
      simp only [Option.some.injEq] at hev
      subst hev
      rw [e1] at hX; rw [e2] at hI
      have h2 := rel_v hI
      have hX' : RelC w (Fx W0 S0 φ γ st w) (.sl n cs) (a.eval x) := hX
      generalize hux : a.eval x = ux at hX'
      cases hX' with
      | sl xs hn hl hxx hr =>
        obtain ⟨b, rfl, hF, hc⟩ := hxx (by intro e; subst e; simp at hj)
        refine Sound1.pure hR (u := .pointer (some (b.add (j.toNat * m)))) ?_ ⟨b, rfl, xs, hF, hl, hc, hr⟩
        unfold execOp
        rw [ho]
        simp [Instr.indexAt, run_underlying hu, h2, asIntOf, hj.1, hj.2.1, run_sizeT hm, hux]
    · cases hev
  · rename_i i' k' k j e1 e2
    simp only [Option.bind_eq_some_iff] at hev
    obtain ⟨t', ht', hev⟩ := hev
    split at hev
    · rename_i hj
      simp only [Option.some.injEq] at hev
      subst hev
      rw [e1] at hX; rw [e2] at hI
      have h2 := rel_v hI
      obtain ⟨hT, hxu, _⟩ := hX
      obtain ⟨ht, hl⟩ := live_tat ht'
      obtain ⟨xs, ho', hp⟩ := hR.mem.tks _ _ _ ht hl
      obtain ⟨o1, o2⟩ := ho'
      rcases o2 with ⟨_, h0⟩ | ⟨g, cap, cur, hv, hb, hg, hn, hc, hsz, hcur⟩
      · omega
      · have hxe : a.eval x = .slice (some ⟨g, 0, none⟩) t'.n cap := hxu.trans hv
        refine Sound1.pure hR (u := .pointer (some ⟨g, j.toNat * m, none⟩)) ?_ ⟨hT, g, t'.n, cap, hv, rfl⟩
        unfold execOp
        rw [ho]
        simp [Instr.indexAt, run_underlying hu, hxe, h2, asIntOf, hj.1, hj.2, run_sizeT hm, add_at]
    · cases hev
  · cases hev

theorem ixV_sound {ks : List (Option IntKind)} {o : Oper} {t e : TypeId} {x i : Operand} (ho : o.op = .index t x i) {n m : Nat} {ag : Bool} (hu : P.underlying t = some (.array n e)) (hsh : shapeT P e = some (ag, m))
    {sx si : SX} (hx : ccX x = some sx) (hi : ccX i = some si) (hR : Rep W0 S0 φ γ st a w) {C : Ctx} {d : Nat} {r : Res} (hev : evOp C d st (.ixV ag n m ks sx si) = some r) : Sound1 P W0 S0 o st a w r := by
  have hX := ccX_rel hx hR
  have hI := ccX_rel hi hR
  simp only [evOp] at hev
  split at hev
  · rename_i cs k j e1 e2
    split at hev
    · rename_i hj
      simp only [Option.map_eq_some_iff] at hev
      obtain ⟨v, hs, rfl⟩ := hev
      rw [e1] at hX; rw [e2] at hI
      have h2 := rel_v hI
      obtain ⟨us, hxu, hl⟩ := hX
      obtain ⟨hs1, hag, h1, dd, hdd⟩ := shape_cases hsh
      obtain ⟨hle, hv⟩ := sliceC_rel hl hs h1
      refine Sound1.pure hR ?_ hv
      unfold execOp
      rw [ho]
      have hp := run_part (P := P) (w := w) hs1 (fun ha => ⟨h1 (hag ▸ ha), by rw [hdd]; rfl⟩) us (j.toNat * m) hle
      rw [hag] at hp
      simp [Instr.index, run_underlying hu, hxu, h2, asIntOf, hj.1, hj.2, run_sizeT hs1, hp]
    · cases hev
  · cases hev

theorem fldV_sound {ks : List (Option IntKind)} {o : Oper} {t : TypeId} {x : Operand} {f : Nat} (ho : o.op = .field t x f) {fs : Array Field} (hu : P.underlying t = some (.struct fs)) {g : Field} (hg : fs[f]? = some g) {ag : Bool} {n : Nat} (hsh : shapeT P g.type = some (ag, n))
    {s : SX} (hx : ccX x = some s) (hR : Rep W0 S0 φ γ st a w) {C : Ctx} {d : Nat} {r : Res} (hev : evOp C d st (.fldV ag g.offset n ks s) = some r) : Sound1 P W0 S0 o st a w r := by
  have hX := ccX_rel hx hR
  simp only [evOp] at hev
  split at hev
  · rename_i cs e1
    simp only [Option.map_eq_some_iff] at hev
    obtain ⟨v, hs, rfl⟩ := hev
    rw [e1] at hX
    obtain ⟨us, hxu, hl⟩ := hX
    obtain ⟨hs1, hag, h1, dd, hdd⟩ := shape_cases hsh
    obtain ⟨hle, hv⟩ := sliceC_rel hl hs h1
    refine Sound1.pure hR ?_ hv
    unfold execOp
    rw [ho]
    have hp := run_part (P := P) (w := w) hs1 (fun ha => ⟨h1 (hag ▸ ha), by rw [hdd]; rfl⟩) us g.offset hle
    rw [hag] at hp
    simp [Instr.field, run_underlying hu, hxu, hg, asAgg, hp]
  · cases hev

theorem bin_sound {o : Oper} {b : BinOp} {t t' : TypeId} {x y : Operand} (ho : o.op = .binOp b t x y t') {sx sy : SX} (hx : ccX x = some sx) (hy : ccX y = some sy) (hR : Rep W0 S0 φ γ st a w) {C : Ctx} {d : Nat} {r : Res} (hev : evOp C d st (.bin b sx sy) = some r) : Sound1 P W0 S0 o st a w r := by
  have hX := ccX_rel hx hR
  have hY := ccX_rel hy hR
  simp only [evOp] at hev
  split at hev
  · rename_i p q e1 e2
    simp only [Option.map_eq_some_iff] at hev
    obtain ⟨v, hs, rfl⟩ := hev
    rw [e1] at hX; rw [e2] at hY
    have h1 := rel_v hX
    have h2 := rel_v hY
    refine Sound1.pure hR (u := v) ?_ (rel_vv (binV_one hs))
    unfold execOp
    rw [ho]
    simp only [h1, h2]
    rw [Sem.run_bind, binV_run x y hs]
    rfl
  · cases hev

theorem binB_sound {o : Oper} {ne : Bool} {t t' : TypeId} {x y : Operand} (ho : o.op = .binOp (bif ne then .neq else .eql) t x y t') (hu : P.underlying t = some .bool) {sx sy : SX} (hx : ccX x = some sx) (hy : ccX y = some sy) (hR : Rep W0 S0 φ γ st a w) {C : Ctx} {d : Nat} {r : Res} (hev : evOp C d st (.binB ne sx sy) = some r) : Sound1 P W0 S0 o st a w r := by
  have hX := ccX_rel hx hR
  have hY := ccX_rel hy hR
  simp only [evOp] at hev
  split at hev
  · rename_i p q e1 e2
    simp only [Option.some.injEq] at hev
    subst hev
    rw [e1] at hX; rw [e2] at hY
    have h1 := rel_v hX
    have h2 := rel_v hY
    refine Sound1.pure hR (u := .bool (bif ne then (p != q) else (p == q))) ?_ (rel_vv rfl)
    unfold execOp
    rw [ho]
    simp only [h1, h2]
    cases ne <;> simp [eqGuard, binOp, Op.equal, Op.maxDepth, run_equalIn_bool' _ _ _ _ _ hu, bne]
  · cases hev

theorem eqA_sound {o : Oper} {ne : Bool} {t t' : TypeId} {x y : Operand} (ho : o.op = .binOp (bif ne then .neq else .eql) t x y t') {ks : List (Option IntKind)} (hk : flatK P 20 t = some ks) (ha : aggT P t = true) (hg : P.eqGuardType P.depth t = false)
    {sx sy : SX} (hx : ccX x = some sx) (hy : ccX y = some sy) (hR : Rep W0 S0 φ γ st a w) {C : Ctx} {d : Nat} {r : Res} (hev : evOp C d st (.eqA ne ks sx sy) = some r) : Sound1 P W0 S0 o st a w r := by
  have hX := ccX_rel hx hR
  have hY := ccX_rel hy hR
  simp only [evOp] at hev
  split at hev
  · rename_i p q e1 e2
    simp only [Option.map_eq_some_iff] at hev
    obtain ⟨v, hs, rfl⟩ := hev
    rw [e1] at hX; rw [e2] at hY
    obtain ⟨us, hux, hl⟩ := hX
    obtain ⟨vs, hvy, hm⟩ := hY
    obtain ⟨k1, k2, hq⟩ := eqCells_rel ks p q v hs us vs hl hm
    have heq := equalIn_flat (P := P) (w := w) 20 t ks hk 10000 (by omega) us vs k1 k2
    rw [ha, hq] at heq
    simp only [valOf, cond_true] at heq
    refine Sound1.pure hR (u := .bool (bif ne then !v else v)) ?_ (rel_vv rfl)
    unfold execOp
    rw [ho]
    simp only [hux, hvy]
    cases ne
    · simp only [cond_false, Sem.run_bind, run_eqGuard_agg w .eql t x y us.toArray vs.toArray hg, Result.andThen_ok, run_eql_struct, heq, Sem.run_pure]
    · simp only [cond_true, Sem.run_bind, run_eqGuard_agg w .neq t x y us.toArray vs.toArray hg, Result.andThen_ok, run_neq_struct, heq, Sem.run_pure]
  · cases hev

theorem un_sound {o : Oper} {b : UnOp} {t : TypeId} {x : Operand} (ho : o.op = .unOp b t x) {sx : SX} (hx : ccX x = some sx) (hR : Rep W0 S0 φ γ st a w) {C : Ctx} {d : Nat} {r : Res} (hev : evOp C d st (.un b sx) = some r) : Sound1 P W0 S0 o st a w r := by
  have hX := ccX_rel hx hR
  simp only [evOp] at hev
  split at hev
  · rename_i p e1
    simp only [Option.map_eq_some_iff] at hev
    obtain ⟨v, hs, rfl⟩ := hev
    rw [e1] at hX
    have h1 := rel_v hX
    refine Sound1.pure hR (u := v) ?_ (rel_vv (unV_one hs))
    unfold execOp
    rw [ho]
    simp [h1, unV_run hs]
  · cases hev

theorem conv_sound {o : Oper} {s t : TypeId} {x : Operand} (ho : o.op = .convert s t x) {k k' : IntKind} (hs : P.underlying s = some (.int k')) (ht : P.underlying t = some (.int k)) {sx : SX} (hx : ccX x = some sx) (hR : Rep W0 S0 φ γ st a w) {C : Ctx} {d : Nat} {r : Res} (hev : evOp C d st (.conv k sx) = some r) : Sound1 P W0 S0 o st a w r := by
  have hX := ccX_rel hx hR
  simp only [evOp] at hev
  split at hev
  · rename_i kk p e1
    simp only [Option.some.injEq] at hev
    subst hev
    rw [e1] at hX
    have h1 := rel_v hX
    refine Sound1.pure hR (u := .int k (k.wrap p)) ?_ (rel_vv rfl)
    unfold execOp
    rw [ho]
    simp [h1, convert, run_underlying hs, run_underlying ht, Conv.intToInt]
  · cases hev

theorem ext_sound {o : Oper} {x : Operand} {i : Nat} (ho : o.op = .extract x i) {sx : SX} (hx : ccX x = some sx) (hR : Rep W0 S0 φ γ st a w) {C : Ctx} {d : Nat} {r : Res} (hev : evOp C d st (.ext i sx) = some r) : Sound1 P W0 S0 o st a w r := by
  have hX := ccX_rel hx hR
  simp only [evOp] at hev
  split at hev
  · rename_i vs e1
    simp only [Option.map_eq_some_iff] at hev
    obtain ⟨v, hs, rfl⟩ := hev
    rw [e1] at hX
    obtain ⟨us, hu, hl, hr⟩ := hX
    have hi := (List.getElem?_eq_some_iff.1 hs).1
    have hx' : us[i]? = some (us[i]'(by omega)) := List.getElem?_eq_getElem (by omega)
    refine Sound1.pure hR (u := us[i]'(by omega)) ?_ (RelV.of1 (hr i v _ hs hx'))
    unfold execOp
    rw [ho]
    simp [hu, Instr.extract, hx']
  · cases hev

theorem nilc_sound {o : Oper} {x : Operand} (ho : o.op = .nilCheck x) {sx : SX} (hx : ccX x = some sx) (hR : Rep W0 S0 φ γ st a w) {C : Ctx} {d : Nat} {r : Res} (hev : evOp C d st (.nilc sx) = some r) : Sound1 P W0 S0 o st a w r := by
  have hX := ccX_rel hx hR
  simp only [evOp] at hev
  have fin : ∀ b : Addr, a.eval x = .pointer (some b) → r = { val := getX st sx } → Sound1 P W0 S0 o st a w r := by
    intro b hb hr
    subst hr
    refine Sound1.pure hR (u := a.eval x) ?_ hX
    unfold execOp
    rw [ho]
    simp [hb]
  split at hev
  · rename_i i k off e1
    simp only [Option.some.injEq] at hev
    rw [e1] at hX
    exact fin _ hX.2 (by rw [e1]; exact hev.symm)
  · rename_i cs off e1
    simp only [Option.some.injEq] at hev
    rw [e1] at hX
    obtain ⟨b, hb, _⟩ := hX
    exact fin _ hb (by rw [e1]; exact hev.symm)
  · rename_i i k off e1
    simp only [Option.some.injEq] at hev
    rw [e1] at hX
    obtain ⟨_, g, n, cap, _, hb⟩ := hX
    exact fin _ hb (by rw [e1]; exact hev.symm)
  · cases hev

theorem len_sound {o : Oper} {t : TypeId} {x : Operand} {e : TypeId} (ho : o.op = .call { callee := .builtin .len, args := #[x], argTypes := #[t] }) (hu : P.underlying t = some (.slice e)) {sx : SX} (hx : ccX x = some sx) (hR : Rep W0 S0 φ γ st a w) {C : Ctx} {d : Nat} {r : Res} (hev : evOp C d st (.len sx) = some r) : Sound1 P W0 S0 o st a w r := by
  have hX := ccX_rel hx hR
  simp only [evOp] at hev
  split at hev
  · rename_i c e1
    simp only [Option.map_eq_some_iff] at hev
    obtain ⟨⟨n, cs⟩, hs, rfl⟩ := hev
    rw [e1] at hX
    obtain ⟨A, cap, xs, hv, _, _, _⟩ := contents_view hR.mem hs hX
    refine Sound1.pure hR (u := .int .i64 n) ?_ (rel_vv rfl)
    unfold execOp
    rw [ho]
    simp [resolve, invoke, builtin, Builtin.len_, run_underlying hu, hv, goInt]
  · cases hev

theorem ccXs_rel : ∀ {xs : List Operand} {ss : List SX}, ccXs xs = some ss → Rep W0 S0 φ γ st a w → ss.length = xs.length ∧ ∀ (j : Nat) (s : SX) (x : Operand), ss[j]? = some s → xs[j]? = some x → RelV w (envOf W0 S0 φ γ st w) (getX st s) (a.eval x)
  | [], ss, h, hR => by
    simp only [ccXs, Option.some.injEq] at h
    subst h
    exact ⟨rfl, fun j s x h => by simp at h⟩
  | x :: xs, ss, h, hR => by
    simp only [ccXs, Option.bind_eq_some_iff, Option.map_eq_some_iff] at h
    obtain ⟨s, hs, ss', hss, rfl⟩ := h
    obtain ⟨hl, hr⟩ := ccXs_rel hss hR
    refine ⟨by simp [hl], fun j s' x' h1 h2 => ?_⟩
    cases j with
    | zero => simp at h1 h2; subst h1; subst h2; exact ccX_rel hs hR
    | succ j => exact hr j s' x' h1 h2

theorem mm_run (mx : Bool) (k : IntKind) : ∀ (xs : List Operand) (ss : List SX) (x y : Int), ss.length = xs.length → (∀ (j : Nat) (s : SX) (x : Operand), ss[j]? = some s → xs[j]? = some x → RelV w (envOf W0 S0 φ γ st w) (getX st s) (a.eval x)) →
    mmV mx k x (ss.map (getX st)) = some y → ((xs.map a.eval).foldlM (bif mx then Builtin.max2 else Builtin.min2) (.int k x)).run P w = .ok (.int k y) w
  | [], [], x, y, _, _, h => by
    simp only [List.map_nil, mmV, Option.some.injEq] at h
    subst h
    simp
  | b :: xs, s :: ss, x, y, hl, hr, h => by
    have h0 := hr 0 s b rfl rfl
    simp only [List.map_cons] at h ⊢
    cases hg : getX st s with
    | one c =>
      cases c with
      | v v =>
        cases v with
        | int k' z =>
          rw [hg] at h h0
          simp only [mmV] at h
          split at h
          · rename_i hk
            subst hk
            have e := rel_v h0
            have ih := mm_run mx k' xs ss _ y (by simpa using hl) (fun j s' x' h1 h2 => hr (j + 1) s' x' h1 h2) h
            rw [List.foldlM_cons, Sem.run_bind, e]
            cases mx
            · simp only [cond_false, Builtin.min2, Sem.run_pure, Result.andThen_ok] at ih ⊢
              exact ih
            · simp only [cond_true, Builtin.max2, Sem.run_pure, Result.andThen_ok] at ih ⊢
              exact ih
          · cases h
        | _ => rw [hg] at h; simp [mmV] at h
      | _ => rw [hg] at h; simp [mmV] at h
    | _ => rw [hg] at h; simp [mmV] at h
  | [], _ :: _, _, _, hl, _, _ => by simp at hl
  | _ :: _, [], _, _, hl, _, _ => by simp at hl

theorem mm_sound {o : Oper} {mx : Bool} {ts : Array TypeId} {args : Array Operand} (ho : o.op = .call { callee := .builtin (bif mx then .max else .min), args := args, argTypes := ts }) {ss : List SX} (hx : ccXs args.toList = some ss) (hR : Rep W0 S0 φ γ st a w) {C : Ctx} {d : Nat} {r : Res} (hev : evOp C d st (.mm mx ss) = some r) : Sound1 P W0 S0 o st a w r := by
  obtain ⟨hl, hr⟩ := ccXs_rel hx hR
  simp only [evOp] at hev
  split at hev
  · rename_i k x rest e1
    simp only [Option.map_eq_some_iff] at hev
    obtain ⟨y, hs, rfl⟩ := hev
    cases ss with
    | nil => simp at e1
    | cons s ss =>
      simp only [List.map_cons, List.cons.injEq] at e1
      obtain ⟨e1, rfl⟩ := e1
      cases hargs : args.toList with
      | nil => rw [hargs] at hl; simp at hl
      | cons b xs =>
        rw [hargs] at hl hr
        have h0 := hr 0 s b rfl rfl
        rw [e1] at h0
        have e := rel_v h0
        have hrun := mm_run (P := P) mx k xs ss x y (by simpa using hl) (fun j s' x' h1 h2 => hr (j + 1) s' x' h1 h2) hs
        refine Sound1.pure hR (u := .int k y) ?_ (rel_vv rfl)
        have hmap : (args.map a.eval).toList = .int k x :: xs.map a.eval := by rw [Array.toList_map, hargs, List.map_cons, e]
        unfold execOp
        rw [ho]
        cases mx
        · simp only [cond_false] at hrun ⊢
          simp only [resolve, Sem.run_bind, Sem.run_pure, Result.andThen_ok, invoke, builtin, Builtin.min_, hmap, hrun]
        · simp only [cond_true] at hrun ⊢
          simp only [resolve, Sem.run_bind, Sem.run_pure, Result.andThen_ok, invoke, builtin, Builtin.max_, hmap, hrun]
  · cases hev


/-! ### Operations on plain values alone -/

theorem valsOf_cons {c : CV} {r : List CV} {vs : List Value} (h : valsOf (c :: r) = some vs) : ∃ x ys, c = .one (.v x) ∧ valsOf r = some ys ∧ vs = x :: ys := by
  unfold valsOf at h
  split at h
  · rename_i e; cases e
  · rename_i e
    simp only [List.cons.injEq] at e
    obtain ⟨rfl, rfl⟩ := e
    simp only [Option.map_eq_some_iff] at h
    obtain ⟨ys, hy, rfl⟩ := h
    exact ⟨_, ys, rfl, hy, rfl⟩
  · cases h
theorem vals1 {c : CV} {vs : List Value} (h : valsOf [c] = some vs) : ∃ x, c = .one (.v x) ∧ vs = [x] := by
  obtain ⟨x, ys, rfl, h1, rfl⟩ := valsOf_cons h
  simp only [valsOf, Option.some.injEq] at h1
  subst h1
  exact ⟨x, rfl, rfl⟩
theorem vals2 {c d : CV} {vs : List Value} (h : valsOf [c, d] = some vs) : ∃ x y, c = .one (.v x) ∧ d = .one (.v y) ∧ vs = [x, y] := by
  obtain ⟨x, ys, rfl, h1, rfl⟩ := valsOf_cons h
  obtain ⟨y, rfl, rfl⟩ := vals1 h1
  exact ⟨x, y, rfl, rfl, rfl⟩
theorem vals3 {c d e : CV} {vs : List Value} (h : valsOf [c, d, e] = some vs) : ∃ x y z, c = .one (.v x) ∧ d = .one (.v y) ∧ e = .one (.v z) ∧ vs = [x, y, z] := by
  obtain ⟨x, ys, rfl, h1, rfl⟩ := valsOf_cons h
  obtain ⟨y, z, rfl, rfl, rfl⟩ := vals2 h1
  exact ⟨x, y, z, rfl, rfl, rfl, rfl⟩
theorem extract_to (s : ByteArray) (a b : Nat) : s.extract a b = ⟨((s.data.toList.drop a).take (b - a)).toArray⟩ := by
  apply ByteArray.ext
  simp [ByteArray.data_extract]
  apply Array.toList_inj.1
  simp [Array.toList_extract]
theorem sidx_of {p q v : Value} (h : sidxV p q = some v) : ∃ s k i b, p = .string s ∧ q = .int k i ∧ 0 ≤ i ∧ s[i.toNat]? = some b ∧ v = .int .u8 (b.toNat : Nat) := by
  unfold sidxV at h
  split at h
  · rename_i s k i
    split at h
    · rename_i h0
      simp only [Option.map_eq_some_iff] at h
      obtain ⟨b, hb, rfl⟩ := h
      refine ⟨s, k, i, b, rfl, rfl, h0, ?_, rfl⟩
      obtain ⟨hl, he⟩ := List.getElem?_eq_some_iff.1 hb
      have hl' : i.toNat < s.size := by simpa using hl
      rw [getElem?_pos s i.toNat hl']
      simp only [Option.some.injEq]
      rw [← he]
      simp [ByteArray.getElem_eq_getElem_data]
    · cases h
  · cases h
theorem sfrom_of {p q v : Value} (h : sfromV p q = some v) : ∃ s k i, p = .string s ∧ q = .int k i ∧ (0 ≤ i ∧ i ≤ (s.size : Int)) ∧ v = .string (s.extract i.toNat s.size) := by
  unfold sfromV at h
  split at h
  · rename_i s k i
    split at h
    · rename_i h0
      simp only [Option.some.injEq] at h
      subst h
      refine ⟨s, k, i, rfl, rfl, h0, ?_⟩
      have e := extract_to s i.toNat s.size
      rw [show List.take (s.size - i.toNat) (s.data.toList.drop i.toNat) = s.data.toList.drop i.toNat from List.take_of_length_le (by rw [List.length_drop, Array.length_toList]; exact Nat.le_refl _)] at e
      rw [e]
    · cases h
  · cases h
theorem sto_of {p q v : Value} (h : stoV p q = some v) : ∃ s k j, p = .string s ∧ q = .int k j ∧ (0 ≤ j ∧ j ≤ (s.size : Int)) ∧ v = .string (s.extract 0 j.toNat) := by
  unfold stoV at h
  split at h
  · rename_i s k j
    split at h
    · rename_i h0
      simp only [Option.some.injEq] at h
      subst h
      refine ⟨s, k, j, rfl, rfl, h0, ?_⟩
      rw [extract_to, List.drop_zero, Nat.sub_zero]
    · cases h
  · cases h
theorem scut_of {p q y v : Value} (h : scutV p q y = some v) : ∃ s k i k' j, p = .string s ∧ q = .int k i ∧ y = .int k' j ∧ (0 ≤ i ∧ i ≤ j ∧ j ≤ (s.size : Int)) ∧ v = .string (s.extract i.toNat j.toNat) := by
  unfold scutV at h
  split at h
  · rename_i s k i k' j
    split at h
    · rename_i h0
      simp only [Option.some.injEq] at h
      subst h
      exact ⟨s, k, i, k', j, rfl, rfl, rfl, h0, by rw [extract_to]⟩
    · cases h
  · cases h
theorem seq_of {ne : Bool} {p q v : Value} (h : seqV ne p q = some v) : ∃ s t, p = .string s ∧ q = .string t ∧ v = .bool (bif ne then !(s.toList == t.toList) else s.toList == t.toList) := by
  unfold seqV at h
  split at h
  · simp only [Option.some.injEq] at h
    subst h
    exact ⟨_, _, rfl, rfl, by simp only [ByteArray.toList_eq]⟩
  · cases h
theorem isNil_of {ne : Bool} {p v : Value} (h : isNilV ne p = some v) : p = .nilIface ∧ v = .bool (!ne) := by
  unfold isNilV at h
  split at h
  · simp only [Option.some.injEq] at h
    exact ⟨rfl, h.symm⟩
  · cases h
theorem slen_of {p v : Value} (h : slenV p = some v) : ∃ s, p = .string s ∧ v = .int .i64 (s.size : Nat) := by
  unfold slenV at h
  split at h
  · simp only [Option.some.injEq] at h
    exact ⟨_, rfl, h.symm⟩
  · cases h
theorem pur_val {C : Ctx} {d : Nat} {f : Pur} {xs : List SX} {r : Res} (h : evOp C d st (.pur f xs) = some r) : ∃ vs v, valsOf (xs.map (getX st)) = some vs ∧ purV f vs = some v ∧ r = { val := .one (.v v) } := by
  simp only [evOp, Option.bind_eq_some_iff, Option.map_eq_some_iff] at h
  obtain ⟨vs, h1, v, h2, rfl⟩ := h
  exact ⟨vs, v, h1, h2, rfl⟩
theorem run_eq_nil {t : TypeId} {ms : Array (String × TypeId)} (hu : P.underlying t = some (.interface ms)) : (Op.equal t .nilIface .nilIface).run P w = .ok true w := by
  have h : ∀ d : Nat, (Op.equalIn (d + 1) t .nilIface .nilIface).run P w = .ok true w := fun d => by simp [Op.equalIn, run_underlying hu]
  exact h 9999
theorem pur_sound {o : Oper} {so : SOp} (hcc : ccPur P o = some so) (hR : Rep W0 S0 φ γ st a w) {C : Ctx} {d : Nat} {r : Res} (hev : evOp C d st so = some r) : Sound1 P W0 S0 o st a w r := by
  unfold ccPur at hcc
  split at hcc
  · rename_i t x i ho
    split at hcc
    · rename_i hu
      simp only [Option.bind_eq_some_iff, Option.map_eq_some_iff] at hcc
      obtain ⟨sx, hx, si, hi, rfl⟩ := hcc
      obtain ⟨vs, v, h1, h2, rfl⟩ := pur_val hev
      obtain ⟨p, q, e1, e2, rfl⟩ := vals2 h1
      have hX := ccX_rel hx hR
      have hI := ccX_rel hi hR
      rw [e1] at hX; rw [e2] at hI
      obtain ⟨s, k, i0, b, rfl, rfl, h0, hb, rfl⟩ := sidx_of h2
      refine Sound1.pure hR (u := .int .u8 (b.toNat : Nat)) ?_ (rel_vv rfl)
      unfold execOp
      rw [ho]
      simp only [rel_v hX, rel_v hI]
      simp [Instr.index, asIntOf, run_underlying hu, h0, hb]
    · cases hcc
  · rename_i t x lo hi ho
    split at hcc
    · rename_i hu
      simp only [Option.bind_eq_some_iff] at hcc
      obtain ⟨sx, hx, hcc⟩ := hcc
      have hX := ccX_rel hx hR
      have hexec : ∀ u, (Instr.slice t (a.eval x) (lo.map a.eval) (hi.map a.eval) none).run P w = .ok u w → (execOp a.eval o).run P w = .ok (.value u) w := by
        intro u h
        unfold execOp
        rw [ho]
        simp [Instr.sliceAt, run_underlying hu, h]
      split at hcc
      · rename_i lo
        simp only [Option.map_eq_some_iff] at hcc
        obtain ⟨sl, hl, rfl⟩ := hcc
        obtain ⟨vs, v, h1, h2, rfl⟩ := pur_val hev
        obtain ⟨p, q, e1, e2, rfl⟩ := vals2 h1
        have hL := ccX_rel hl hR
        rw [e1] at hX; rw [e2] at hL
        obtain ⟨s, k, i0, rfl, rfl, h0, rfl⟩ := sfrom_of h2
        refine Sound1.pure hR (u := .string (s.extract i0.toNat s.size)) (hexec _ ?_) (rel_vv rfl)
        simp only [Option.map_some, Option.map_none, rel_v hX, rel_v hL]
        simp [Instr.slice, Instr.sliceBounds, Instr.sliceBound, asIntOf, run_underlying hu, h0]
      · rename_i hi
        simp only [Option.map_eq_some_iff] at hcc
        obtain ⟨sh, hh, rfl⟩ := hcc
        obtain ⟨vs, v, h1, h2, rfl⟩ := pur_val hev
        obtain ⟨p, q, e1, e2, rfl⟩ := vals2 h1
        have hL := ccX_rel hh hR
        rw [e1] at hX; rw [e2] at hL
        obtain ⟨s, k, j0, rfl, rfl, h0, rfl⟩ := sto_of h2
        refine Sound1.pure hR (u := .string (s.extract 0 j0.toNat)) (hexec _ ?_) (rel_vv rfl)
        simp only [Option.map_some, Option.map_none, rel_v hX, rel_v hL]
        simp [Instr.slice, Instr.sliceBounds, Instr.sliceBound, asIntOf, run_underlying hu, h0]
      · rename_i lo hi
        simp only [Option.bind_eq_some_iff, Option.map_eq_some_iff] at hcc
        obtain ⟨sl, hl, sh, hh, rfl⟩ := hcc
        obtain ⟨vs, v, h1, h2, rfl⟩ := pur_val hev
        obtain ⟨p, q, y, e1, e2, e3, rfl⟩ := vals3 h1
        have hL := ccX_rel hl hR
        have hH := ccX_rel hh hR
        rw [e1] at hX; rw [e2] at hL; rw [e3] at hH
        obtain ⟨s, k, i0, k', j0, rfl, rfl, rfl, h0, rfl⟩ := scut_of h2
        refine Sound1.pure hR (u := .string (s.extract i0.toNat j0.toNat)) (hexec _ ?_) (rel_vv rfl)
        simp only [Option.map_some, rel_v hX, rel_v hL, rel_v hH]
        exact run_slice_string w t s k k' i0 j0 hu h0.1 h0.2.1 h0.2.2
      · cases hcc
    · cases hcc
  · rename_i b t x y t' ho
    split at hcc
    · simp only [Option.bind_eq_some_iff] at hcc
      obtain ⟨sx, hx, sy, hy, hcc⟩ := hcc
      have hX := ccX_rel hx hR
      have hY := ccX_rel hy hR
      split at hcc
      · simp only [Option.some.injEq] at hcc
        subst hcc
        obtain ⟨vs, v, h1, h2, rfl⟩ := pur_val hev
        obtain ⟨p, q, e1, e2, rfl⟩ := vals2 h1
        rw [e1] at hX; rw [e2] at hY
        obtain ⟨s1, s2, rfl, rfl, rfl⟩ := seq_of h2
        refine Sound1.pure hR (u := .bool (s1.toList == s2.toList)) ?_ (rel_vv rfl)
        unfold execOp
        rw [ho]
        simp only [rel_v hX, rel_v hY]
        simp [eqGuard, binOp, Op.stringOp]
      · simp only [Option.some.injEq] at hcc
        subst hcc
        obtain ⟨vs, v, h1, h2, rfl⟩ := pur_val hev
        obtain ⟨p, q, e1, e2, rfl⟩ := vals2 h1
        rw [e1] at hX; rw [e2] at hY
        obtain ⟨s1, s2, rfl, rfl, rfl⟩ := seq_of h2
        refine Sound1.pure hR (u := .bool (!(s1.toList == s2.toList))) ?_ (rel_vv rfl)
        unfold execOp
        rw [ho]
        simp only [rel_v hX, rel_v hY]
        simp [eqGuard, binOp, Op.stringOp]
      · cases hcc
    · rename_i ms hu
      split at hcc
      · simp only [Option.bind_eq_some_iff] at hcc
        obtain ⟨sx, hx, hcc⟩ := hcc
        have hX := ccX_rel hx hR
        split at hcc
        · simp only [Option.some.injEq] at hcc
          subst hcc
          obtain ⟨vs, v, h1, h2, rfl⟩ := pur_val hev
          obtain ⟨p, e1, rfl⟩ := vals1 h1
          rw [e1] at hX
          obtain ⟨rfl, rfl⟩ := isNil_of h2
          refine Sound1.pure hR (u := .bool (!false)) ?_ (rel_vv rfl)
          unfold execOp
          rw [ho]
          have e2 : a.eval (.const .nilIface) = .nilIface := rfl
          simp only [rel_v hX, e2, eqGuard_nil_constR]
          simp only [binOp]
          simp [run_eq_nil hu]
        · simp only [Option.some.injEq] at hcc
          subst hcc
          obtain ⟨vs, v, h1, h2, rfl⟩ := pur_val hev
          obtain ⟨p, e1, rfl⟩ := vals1 h1
          rw [e1] at hX
          obtain ⟨rfl, rfl⟩ := isNil_of h2
          refine Sound1.pure hR (u := .bool (!true)) ?_ (rel_vv rfl)
          unfold execOp
          rw [ho]
          have e2 : a.eval (.const .nilIface) = .nilIface := rfl
          simp only [rel_v hX, e2, eqGuard_nil_constR]
          simp only [binOp]
          simp [run_eq_nil hu]
        · cases hcc
      · cases hcc
    · simp only [Option.bind_eq_some_iff, Option.map_eq_some_iff] at hcc
      obtain ⟨sx, hx, sy, hy, rfl⟩ := hcc
      have hX := ccX_rel hx hR
      have hY := ccX_rel hy hR
      obtain ⟨vs, v, h1, h2, rfl⟩ := pur_val hev
      obtain ⟨p, q, e1, e2, rfl⟩ := vals2 h1
      rw [e1] at hX; rw [e2] at hY
      have hb : bitV b p q = some v := h2
      refine Sound1.pure hR (u := v) ?_ (rel_vv (bit_run (P := P) (w := w) (t := t) x y hb).1)
      unfold execOp
      rw [ho]
      simp only [rel_v hX, rel_v hY]
      rw [Sem.run_bind, (bit_run x y hb).2]
      rfl
    · cases hcc
  · rename_i c ho
    obtain ⟨callee, args, ats⟩ := c
    simp only at hcc
    split at hcc
    · rename_i x t h1 h2
      split at hcc
      · rename_i hu
        simp only [Option.map_eq_some_iff] at hcc
        obtain ⟨sx, hx, rfl⟩ := hcc
        obtain ⟨vs, v, h3, h4, rfl⟩ := pur_val hev
        obtain ⟨p, e1, rfl⟩ := vals1 h3
        have hX := ccX_rel hx hR
        rw [e1] at hX
        have g1 : args = #[x] := by apply Array.toList_inj.1; rw [h1]
        have g2 : ats = #[t] := by apply Array.toList_inj.1; rw [h2]
        subst g1; subst g2
        obtain ⟨s, rfl, rfl⟩ := slen_of h4
        refine Sound1.pure hR (u := .int .i64 (s.size : Nat)) ?_ (rel_vv rfl)
        unfold execOp
        rw [ho]
        have e := rel_v hX
        simp [resolve, invoke, builtin, Builtin.len_, run_underlying hu, e, goInt]
      · cases hcc
    · cases hcc
  · cases hcc

end
end Go.Proofs.YtlfojobligplkaaDoor.Mt
