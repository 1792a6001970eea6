import Derived.Test.YtgmciihlmgeecaaMtWrite2
/- The operations that store, build rows, append and cut rows do what the evaluator says. Conditions: those that each lemma names. -/
namespace Go.Proofs.Ytgmciihlmgeecaa.Mt
open Go Go.RowKit
section
variable {P : Program} {W0 : Base} {S0 : Nat → Prop} {φ : Nat → Nat → Nat} {γ : Nat → Nat → Value} {st st' : St} {a : Act} {w w' : World}

theorem run_storeT {t : TypeId} {n : Nat} (hs : sizeT P t = some n) {v : Value} (hv : v.cells.toList.length = n) {b : Addr} (hrun : (storeCells b v.cells.toList).run P w = .ok () w') : (storeVar t b v).run P w = .ok () w' := by
  have hv' : v.cells.size = n := by simpa using hv
  simp [storeVar, run_sizeT hs, hv', hrun]

theorem store_sound {H : Hints} {el : List Tmp} {o : Oper} {t : TypeId} {p x : Operand} (ho : o.op = .store t p x) {so : SOp} (hcc : ccOp P H el o = some so) (hR : Rep W0 S0 φ γ st a w) {C : Ctx} {d : Nat} {r : Res} (hev : evOp C d st so = some r) :
    Sound1 P W0 S0 o st a w r := by
  unfold ccOp at hcc
  rw [ho] at hcc
  simp only [Option.bind_eq_some_iff, Option.map_eq_some_iff] at hcc
  obtain ⟨⟨ag, n⟩, hs, q, hq, y, hy, rfl⟩ := hcc
  have hp := ccX_rel hq hR
  have hx := ccX_rel hy hR
  obtain ⟨hsz, _, _, _⟩ := shape_cases hs
  simp only [evOp, Option.bind_eq_some_iff] at hev
  obtain ⟨us, hus, hev⟩ := hev
  split at hev
  · rename_i hlen
    have hrel := hx.cells hus
    have hvl : (a.eval x).cells.toList.length = n := by rw [← hrel.1]; exact hlen
    split at hev
    · rename_i i k off e1 e2
      rw [e2] at hp
      simp only [Option.bind_eq_some_iff, Option.map_eq_some_iff] at hev
      obtain ⟨cs, hcs, cs', hov, rfl⟩ := hev
      obtain ⟨_, ws, T, hg, hl⟩ := hR.mem.bxs i k cs hcs
      have hnew := hl.over hrel hov
      have hle : off + (a.eval x).cells.toList.length ≤ ws.toList.length := by rw [← hrel.1, ← hl.1]; exact (overC_spec hov).1
      have hrun := run_storeCells_at (P := P) (φ i k) off T (a.eval x).cells.toList 0 ws w hg (by simpa using hle) hrel.one
      obtain ⟨hm, hle'⟩ := hR.mem.writeBox hcs hnew (match o.dst with | some d => st.tm.set d .un | none => st.tm)
      refine ⟨φ, γ, undef, _, .inr ⟨?_, rfl⟩, hR.put o.dst { val := .un, wb := some (i, k, cs') } undef hm hle' fun _ _ => rfl⟩
      unfold execOp
      rw [ho]
      have hpe : a.eval p = .pointer (some ⟨φ i k, off, none⟩) := hp.2
      simp only [hpe, Instr.storeAt, Instr.sureAddr, Sem.run_bind, Sem.run_pure, Result.andThen_ok]
      rw [run_storeT hsz hvl hrun]
      rfl
    · rename_i i k off e1 e2
      rw [e2] at hp
      cases hpl : us.all plainC with
      | false => rw [hpl] at hev; cases hev
      | true =>
        rw [hpl] at hev
        simp only [cond_true, Option.bind_eq_some_iff, Option.map_eq_some_iff] at hev
        obtain ⟨t', ht', cs', hov, rfl⟩ := hev
        obtain ⟨ht, htl⟩ := live_tat ht'
        obtain ⟨xs, hown, hpp⟩ := hR.mem.tks i k t' ht htl
        obtain ⟨_, g, m, cap, hγ, hu⟩ := hp
        have hγ' : γ i k = .slice (some ⟨g, 0, none⟩) m cap := hγ
        have hrelP := hrel.toP hpl
        have hnew := hpp.over hrelP hov
        have hle : off + (a.eval x).cells.toList.length ≤ xs.length := by rw [← hrel.1, ← hpp.1]; exact (overC_spec hov).1
        have hown0 := hown
        obtain ⟨o1, o2⟩ := hown
        rcases o2 with ⟨hnil, _⟩ | ⟨g', cap', cur, hv, hb, hg, hn, hc, hcs, hcur⟩
        · rw [hγ'] at hnil; cases hnil
        · rw [hγ'] at hv
          simp only [Value.slice.injEq, Option.some.injEq, Addr.mk.injEq, and_true] at hv
          obtain ⟨rfl, rfl, rfl⟩ := hv
          have hxl : xs.length ≤ cur.size := by rw [← hcur]; simp; omega
          have hrun := run_storeCells_at (P := P) g off t'.e (a.eval x).cells.toList 0 cur w hg (by omega) hrel.one
          have hgrow : w.grownBy (w.setRow g (cur.toList.take (off + 0) ++ (a.eval x).cells.toList ++ cur.toList.drop (off + 0 + (a.eval x).cells.toList.length)).toArray) (some g) :=
            ⟨rfl, rfl, rfl, by simp, fun b _ hb => setRow_other w g b _ (fun e => hb (by rw [e]))⟩
          obtain ⟨hm, hle'⟩ := hR.mem.writeTok ht htl (g := g) (by rw [hγ']; rfl) (cs' := cs') (xs' := xs.take off ++ (a.eval x).cells.toList ++ xs.drop (off + (a.eval x).cells.toList.length)) hgrow (by simp)
            (by
              have hle2 : off + (a.eval x).cells.toList.length ≤ cur.toList.length := by have : cur.toList.length = cur.size := Array.length_toList; omega
              refine ⟨by rw [splice_length _ _ _ hle]; exact o1, .inr ⟨g, cap, _, hγ', hb, setRow_heap w g cur _ t'.e _ hg, hn, hc, ?_, ?_⟩⟩
              · simp only [Nat.add_zero]
                rw [List.size_toArray, splice_length _ _ _ hle2, Array.length_toList]
                exact hcs
              · apply List.ext_getElem?
                intro j
                rw [List.getElem?_take, splice_get _ _ _ hle]
                simp only [Nat.add_zero]
                rw [splice_get _ _ _ hle2]
                split
                · split
                  · rfl
                  · rw [← hcur, List.getElem?_take, if_pos (by assumption)]
                · rename_i hj
                  rw [if_neg (by omega), ← hcur, List.getElem?_take, if_neg hj])
            hnew (match o.dst with | some d => st.tm.set d .un | none => st.tm)
          refine ⟨φ, γ, undef, _, .inr ⟨?_, rfl⟩, hR.put o.dst { val := .un, wt := some (i, k, { t' with cs := cs' }) } undef hm hle' fun _ _ => rfl⟩
          unfold execOp
          rw [ho]
          simp only [hu, Instr.storeAt, Instr.sureAddr, Sem.run_bind, Sem.run_pure, Result.andThen_ok]
          rw [run_storeT hsz hvl hrun]
          rfl
    · cases hev
  · cases hev

theorem buildS_sound {o : Oper} {t e : TypeId} {n m : Nat} {parts : Array (Nat × Operand)} (ho : o.op = .buildSlice t n parts) (hu : P.underlying t = some (.slice e)) (hm : sizeT P e = some m) {z : List Value} (hz : zeroT P e = some z) {ss : List (Nat × SX)} (hp : ccParts parts.toList = some ss)
    (hlim : n * m ≤ 16777216) (hm0 : 0 < m) (hzl : z.length = m) {d : Nat} (hd : o.dst = some d) (hlt : d < st.tk.length) (hR : Rep W0 S0 φ γ st a w) {C : Ctx} {r : Res}
    (hev : evOp C d st (.buildS e m n ((List.range (n * m)).map fun j => z.getD (j % m) undef) ss) = some r) : Sound1 P W0 S0 o st a w r := by
  simp only [evOp, Option.bind_eq_some_iff, Option.map_eq_some_iff] at hev
  obtain ⟨ps, hps, cs, hcs, rfl⟩ := hev
  obtain ⟨i, v, hi, hzv, hvz, h1⟩ := zero_info hz
  obtain ⟨hl, hr⟩ := partsS_rel hR parts.toList ss ps hp hps
  have hzz : ∀ x ∈ (List.range (n * m)).map (fun j => z.getD (j % m) undef), x.oneCell' = true := by
    intro x hx
    rw [List.mem_map] at hx
    obtain ⟨j, _, rfl⟩ := hx
    have : j % m < z.length := by rw [hzl]; exact Nat.mod_lt _ hm0
    rw [List.getD_eq_getElem?_getD, List.getElem?_eq_getElem this]
    exact h1 _ (List.getElem_mem _)
  obtain ⟨us, hfill, hrel⟩ := fill_rel (R := RelC w (Fx W0 S0 φ γ st w)) (place := fun j => some (j * m, m)) ps (parts.map fun p => (p.1, a.eval p.2)).toList _ cs ((List.range (n * m)).map fun j => z.getD (j % m) undef).toArray hcs (vals_relP _ hzz)
    (by simp [hl]) (fun j p q h3 h4 => by
      rw [Array.toList_map, List.getElem?_map, Option.map_eq_some_iff] at h4
      obtain ⟨q', hq', rfl⟩ := h4
      obtain ⟨⟨hp1, hp2⟩, hrr⟩ := hr j p q' h3 hq'
      exact ⟨by simp [hp1, hp2], hrr⟩)
  have hsize : us.size = n * m := by
    have h2 : ∀ (vps : List (Nat × Value)) (cells us : Array Value), Instr.fill (fun j => some (j * m, m)) cells vps = some us → us.size = cells.size := by
      intro vps
      induction vps with
      | nil => intro cells us h; simp only [Instr.fill, Option.some.injEq] at h; rw [h]
      | cons p vps ih =>
        intro cells us h
        simp only [Instr.fill] at h
        split at h
        · cases h
        · rw [ih _ _ h, ← Array.foldl_toList, Array.toList_zipIdx]
          exact foldl_set_size _ _ _
    rw [h2 _ _ _ hfill]
    simp
  have hown := World.ownsRow_lit (base := w.heap.size) (e := e) (size := m) w us n (Nat.le_refl _) (by simp only [maxLen]; have := Nat.le_mul_of_pos_right n hm0; omega) hsize
  obtain ⟨hmem, hle, _⟩ := hR.mem.newToks (below_alloc w (.cells us e)) hlt (ts := [⟨e, m, n, cs, true⟩]) (fun _ => .slice (some ⟨w.heap.size, 0, none⟩) n n) (st.tm.set d (.one (.own d (tlen st.tk d))))
    (fun j t' hj => by
      cases j with
      | succ j => simp at hj
      | zero =>
        simp only [List.getElem?_cons_zero, Option.some.injEq] at hj
        subst hj
        refine ⟨us.toList, hown, RelP.mono (fun b hb => ⟨⟨Nat.lt_of_lt_of_le hb.1 (below_alloc w (.cells us e)).size, fun _ => hb, fun j' t' _ he => ?_⟩, (below_alloc w (.cells us e)).block b hb.1⟩) hrel⟩
        simp only [Value.ownBlock, Option.some.injEq] at he
        have := hb.1
        omega)
    (fun j t1 j' t2 b h3 h4 _ _ => by
      cases j with
      | succ j => simp at h3
      | zero => cases j' with
        | succ j' => simp at h4
        | zero => rfl)
  refine ⟨φ, fun d' k' => if d' = d ∧ tlen st.tk d ≤ k' then .slice (some ⟨w.heap.size, 0, none⟩) n n else γ d' k', .slice (some ⟨w.heap.size, 0, none⟩) n n, w.alloc (.cells us e), .inl ?_, ?_⟩
  · have hzero : (((Array.range (n * m)).map fun x => v.cells[x % v.cells.size]!)) = ((List.range (n * m)).map fun j => z.getD (j % m) undef).toArray := by
      have hvs : v.cells.size = m := by rw [← Array.length_toList, hvz, hzl]
      apply Array.ext'
      rw [Array.toList_map, Array.toList_range]
      apply List.map_congr_left
      intro j _
      have hj : j % m < v.cells.size := by rw [hvs]; exact Nat.mod_lt _ hm0
      rw [hvs, getElem!_pos v.cells (j % m) hj, List.getD_eq_getElem?_getD, ← hvz, Array.getElem?_toList, Array.getElem?_eq_getElem hj, Option.getD_some]
    unfold execOp
    rw [ho]
    have hlim' : ¬ n * m > 2 ^ 24 := by omega
    by_cases h0 : n * m = 0
    · have hfill0 := hfill
      simp only [Instr.buildSlice, Sem.run_bind, run_underlying hu, Result.andThen_ok, run_sizeT hm, h0, if_true, Sem.run_pure]
      rw [h0] at hfill0
      simp only [List.range_zero, List.map_nil] at hfill0
      have : (Array.map (fun x => (#[] : Array Value)[x % (#[] : Array Value).size]!) (Array.range 0)) = #[] := by simp
      rw [if_neg (by omega)]
      simp only [Sem.run_bind, Sem.run_pure, Result.andThen_ok, this]
      rw [hfill0]
      simp [newRow]
    · simp only [Instr.buildSlice, Sem.run_bind, run_underlying hu, Result.andThen_ok, run_sizeT hm, if_neg hlim', if_neg h0, run_zeroT hi hzv, Sem.run_pure, hzero]
      rw [hfill]
      simp [newRow]
  · rw [hd]
    refine hR.put (some d) { val := .one (.own d (tlen st.tk d)), pt := [⟨e, m, n, cs, true⟩] } _ hmem hle fun d' hd' => ?_
    simp only [Option.some.injEq] at hd'
    subst hd'
    refine ⟨⟨⟨e, m, n, cs, true⟩, ?_⟩, ?_, rfl⟩
    · show tat (tpush st.tk d [⟨e, m, n, cs, true⟩]) d (tlen st.tk d) = _
      rw [tat_push hlt, if_pos ⟨rfl, Nat.le_refl _⟩, Nat.sub_self]; rfl
    · show _ = (if d = d ∧ tlen st.tk d ≤ tlen st.tk d then _ else _)
      rw [if_pos ⟨rfl, Nat.le_refl _⟩]

end
end Go.Proofs.Ytgmciihlmgeecaa.Mt
