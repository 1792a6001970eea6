import Derived.Test.YtgmciihlmgeecaaMtWrite3
/- Appending, cutting, and calls do what the evaluator says. Conditions: those that each lemma names. -/
namespace Go.Proofs.Ytgmciihlmgeecaa.Mt
open Go Go.RowKit
section
variable {P : Program} {W0 : Base} {S0 : Nat → Prop} {φ : Nat → Nat → Nat} {γ : Nat → Nat → Value} {st st' : St} {a : Act} {w w' : World}

theorem run_append_none {base : Nat} {t ty e : TypeId} {i : TypeInfo} {size : Nat} (ht : P.underlying t = some (.slice e)) (hi : P.info? e = some i) {v : Value} {n c : Nat} {xs : List Value} (hown : w.ownsRow base e size v n xs) :
    (Builtin.append_ #[t, t] ty #[v, .slice none 0 c]).run P w = .ok v w := by
  rcases hown.2 with ⟨rfl, rfl⟩ | ⟨g, cap, cur, rfl, _, _, hnc, _⟩
  · simp [Builtin.append_, run_underlying ht, sizeOf, typeInfo, hi, Builtin.lenOf, Builtin.firstCells]
  · simp [Builtin.append_, run_underlying ht, sizeOf, typeInfo, hi, Builtin.lenOf, Builtin.firstCells, hnc, storeCells]

/-- The machine's append onto a row of one's own, whatever is appended. -/
theorem run_append_any {base : Nat} {t ty e : TypeId} {i : TypeInfo} {z : Value} (ht : P.underlying t = some (.slice e)) (hi : P.info? e = some i) (hz : i.zero = some z) (hzs : z.cells.size = i.size) (hsz : 0 < i.size) (hby : 0 < i.bytes)
    {v : Value} {n : Nat} {xs : List Value} (hown : w.ownsRow base e i.size v n xs) {A : Option Addr} {m c : Nat} {news : List Value} (hl : news.length = m * i.size) (hA : news ≠ [] → ∃ b, A = some b ∧ ∀ j x, news[j]? = some x → w.cell? (b.add j) = some x) (h1 : ∀ u ∈ news, u.oneCell' = true)
    (hbytes : (n + m) * i.bytes ≤ 140737488355328) (hbase : base ≤ w.heap.size) :
    ∃ v' w', (Builtin.append_ #[t, t] ty #[v, .slice A m c]).run P w = .ok v' w' ∧ w'.ownsRow base e i.size v' (n + m) (xs ++ news) ∧ w.grownBy w' v.ownBlock ∧ (v'.ownBlock = v.ownBlock ∨ v'.ownBlock = some w.heap.size) := by
  have hlen : n + m ≤ maxLen := by
    have := Nat.le_mul_of_pos_right (n + m) hby
    simp only [maxLen]; omega
  cases A with
  | none =>
    have hn : news = [] := by
      apply Classical.byContradiction
      intro hne
      obtain ⟨b, hb, _⟩ := hA hne
      cases hb
    subst hn
    have hm : m = 0 := by
      have h0 : m * i.size = 0 := hl.symm
      rcases Nat.mul_eq_zero.1 h0 with h | h
      · exact h
      · omega
    subst hm
    exact ⟨v, w, run_append_none ht hi hown, by simpa using hown, ⟨rfl, rfl, rfl, Nat.le_refl _, fun _ _ _ => rfl⟩, .inl rfl⟩
  | some b =>
    have hnews : ∀ j u, news[j]? = some u → w.cell? (b.add j) = some u := by
      intro j u hj
      obtain ⟨b', hb', hc⟩ := hA (by intro e; subst e; simp at hj)
      cases hb'
      exact hc j u hj
    obtain ⟨v', w', h2, h3, h4, _, h5⟩ := run_append_own_at (P := P) w base t ty e i z i.size i.bytes ht hi hz rfl rfl hzs hsz v n xs hown b m c news hl hnews h1 hlen hbytes hbase
    exact ⟨v', w', h2, h3, h4, h5⟩

theorem app_sound {o : Oper} {t e : TypeId} {s x : Operand} (ho : o.op = .call { callee := .builtin .append, args := #[s, x], argTypes := #[t, t] }) (hu : P.underlying t = some (.slice e)) {i : TypeInfo} (hi : P.info? e = some i) {z : List Value} (hz : zeroT P e = some z)
    (hi0 : 0 < i.size) (hzl : z.length = i.size) (hb0 : 0 < i.bytes) {ss sx : SX} (hs : ccX s = some ss) (hx : ccX x = some sx) {d : Nat} (hd : o.dst = some d) (hlt : d < st.tk.length) (hR : Rep W0 S0 φ γ st a w) {C : Ctx} {r : Res}
    (hev : evOp C d st (.app e i.size i.bytes z ss sx) = some r) : Sound1 P W0 S0 o st a w r := by
  obtain ⟨i', v, hi', hzv, hvz, _⟩ := zero_info hz
  rw [hi] at hi'
  simp only [Option.some.injEq] at hi'
  subst hi'
  have hvs : v.cells.size = i.size := by rw [← Array.length_toList, hvz, hzl]
  have hS := ccX_rel hs hR
  have hX := ccX_rel hx hR
  have hexec : ∀ u w', (Builtin.append_ #[t, t] o.type #[a.eval s, a.eval x]).run P w = .ok u w' → (execOp a.eval o).run P w = .ok (.value u) w' := by
    intro u w' h
    unfold execOp
    rw [ho]
    simp [resolve, invoke, builtin, h]
  simp only [evOp] at hev
  split at hev
  · rename_i i1 k1 c e1 e2
    rw [e1] at hS; rw [e2] at hX
    simp only [Option.bind_eq_some_iff] at hev
    obtain ⟨t', ht', ⟨m, cs2⟩, hc, hev⟩ := hev
    obtain ⟨ht, htl⟩ := live_tat ht'
    split at hev
    · rename_i hcond
      simp only [Option.some.injEq] at hev
      subst hev
      obtain ⟨c1, c2, c3, c4, c5, c6⟩ := hcond
      obtain ⟨xs, hown, hpp⟩ := hR.mem.tks _ _ _ ht htl
      rw [c2, c3] at hown
      obtain ⟨A, cap, ys, hxv, _, hyp, hyA⟩ := contents_view hR.mem hc hX
      obtain ⟨v', w', h2, h3, h4, h5⟩ := run_append_any (ty := o.type) (c := cap) hu hi hzv hvs hi0 hb0 hown (A := A) (m := m) (news := ys) (by rw [← hyp.1]; exact c6) hyA hyp.one c1 hR.mem.bel.size
      have hsu : a.eval s = γ i1 k1 := hS.2.1
      obtain ⟨hmem, hle⟩ := hR.mem.appendTok ht htl (t' := { t' with live := false }) rfl hlt h4 ⟨e, i.size, t'.n + m, t'.cs ++ cs2, true⟩ h3 (by
          rcases h5 with h5 | h5
          · exact .inl h5
          · exact .inr ⟨_, h5, Nat.le_refl _⟩) (hpp.append hyp) (st.tm.set d (.one (.own d (tlen (tset st.tk i1 k1 { t' with live := false }) d))))
      refine ⟨φ, fun d' k' => if d' = d ∧ k' = tlen st.tk d then v' else γ d' k', v', w', .inl (hexec v' w' (by rw [hsu, hxv]; exact h2)), ?_⟩
      rw [hd]
      refine hR.put (some d) { val := .one (.own d (tlen (tset st.tk i1 k1 { t' with live := false }) d)), pt := [⟨e, i.size, t'.n + m, t'.cs ++ cs2, true⟩], wt := some (i1, k1, { t' with live := false }) } _ hmem hle fun d' hd' => ?_
      simp only [Option.some.injEq] at hd'
      subst hd'
      have ho1 : v'.oneCell' = true := by
        rcases h3.2 with ⟨rfl, _⟩ | ⟨g, cap', cur, rfl, _⟩ <;> rfl
      refine ⟨⟨⟨e, i.size, t'.n + m, t'.cs ++ cs2, true⟩, ?_⟩, ?_, ho1⟩
      · show tat (tpush (tset st.tk i1 k1 { t' with live := false }) d [_]) d (tlen (tset st.tk i1 k1 { t' with live := false }) d) = _
        rw [tat_push (by rw [tset_length]; exact hlt), if_pos ⟨rfl, Nat.le_refl _⟩, Nat.sub_self]; rfl
      · show _ = (if d = d ∧ tlen (tset st.tk i1 k1 { t' with live := false }) d = tlen st.tk d then _ else _)
        rw [if_pos ⟨rfl, tlen_set ..⟩]
    · cases hev
  · rename_i c e1 e2
    rw [e1] at hS; rw [e2] at hX
    have hsu : a.eval s = .slice none 0 0 := rel_v hS
    simp only [Option.bind_eq_some_iff] at hev
    obtain ⟨⟨m, cs2⟩, hc, hev⟩ := hev
    split at hev
    · rename_i hcond
      simp only [Option.some.injEq] at hev
      subst hev
      obtain ⟨c1, c4, c5, c6⟩ := hcond
      obtain ⟨A, cap, ys, hxv, _, hyp, hyA⟩ := contents_view hR.mem hc hX
      obtain ⟨v', w', h2, h3, h4, h5⟩ := run_append_any (ty := o.type) (c := cap) (w := w) (base := w.heap.size) (n := 0) (xs := []) (v := .slice none 0 0) hu hi hzv hvs hi0 hb0 (World.ownsRow_nil ..) (A := A) (m := m) (news := ys) (by rw [← hyp.1]; exact c6) hyA hyp.one (by simpa using c1) (Nat.le_refl _)
      simp only [List.nil_append, Nat.zero_add] at h3
      have hbel : Below w.heap.size w w' := ⟨h4.os, h4.tape, h4.output, h4.size, fun b hb => h4.block b hb (by simp [Value.ownBlock])⟩
      have hob : ∀ b, v'.ownBlock = some b → w.heap.size ≤ b := by
        intro b hb
        rcases h5 with h5 | h5
        · rw [h5] at hb; simp [Value.ownBlock] at hb
        · rw [h5] at hb; simp at hb; omega
      obtain ⟨hmem, hle, _⟩ := hR.mem.newToks hbel hlt (ts := [⟨e, i.size, m, cs2, true⟩]) (fun _ => v') (st.tm.set d (.one (.own d (tlen st.tk d))))
        (fun j t' hj => by
          cases j with
          | succ j => simp at hj
          | zero =>
            simp only [List.getElem?_cons_zero, Option.some.injEq] at hj
            subst hj
            refine ⟨ys, h3, RelP.mono (fun b hb => ⟨⟨Nat.lt_of_lt_of_le hb.1 hbel.size, fun _ => hb, fun j' t' _ he => ?_⟩, hbel.block b hb.1⟩) hyp⟩
            have := hob b he
            have := hb.1
            omega)
        (fun j t1 j' t2 b h3 h4 _ _ => by
          cases j with
          | succ j => simp at h3
          | zero => cases j' with
            | succ j' => simp at h4
            | zero => rfl)
      refine ⟨φ, fun d' k' => if d' = d ∧ tlen st.tk d ≤ k' then v' else γ d' k', v', w', .inl (hexec v' w' (by rw [hsu, hxv]; exact h2)), ?_⟩
      rw [hd]
      refine hR.put (some d) { val := .one (.own d (tlen st.tk d)), pt := [⟨e, i.size, m, cs2, true⟩] } _ hmem hle fun d' hd' => ?_
      simp only [Option.some.injEq] at hd'
      subst hd'
      have ho1 : v'.oneCell' = true := by
        rcases h3.2 with ⟨rfl, _⟩ | ⟨g, cap', cur, rfl, _⟩ <;> rfl
      refine ⟨⟨⟨e, i.size, m, cs2, true⟩, ?_⟩, ?_, ho1⟩
      · show tat (tpush st.tk d [_]) d (tlen st.tk d) = _
        rw [tat_push hlt, if_pos ⟨rfl, Nat.le_refl _⟩, Nat.sub_self]; rfl
      · show _ = (if d = d ∧ tlen st.tk d ≤ tlen st.tk d then _ else _)
        rw [if_pos ⟨rfl, Nat.le_refl _⟩]
    · cases hev
  · cases hev

/-! ### A part of a row -/

theorem boundOf_rel {x : Option Operand} {s : Option SX} (hx : ccO x = some s) (hR : Rep W0 S0 φ γ st a w) {n l : Nat} (h : boundOf st n s = some l) : (x = none ∧ l = n) ∨ ∃ y k, x = some y ∧ a.eval y = .int k (l : Int) := by
  cases x with
  | none =>
    simp only [ccO, Option.some.injEq] at hx
    subst hx
    simp only [boundOf, Option.some.injEq] at h
    exact .inl ⟨rfl, h.symm⟩
  | some y =>
    simp only [ccO, Option.map_eq_some_iff] at hx
    obtain ⟨q, hq, rfl⟩ := hx
    have hy := ccX_rel hq hR
    simp only [boundOf] at h
    split at h
    · rename_i k j e
      split at h
      · rename_i hj
        simp only [Option.some.injEq] at h
        rw [e] at hy
        refine .inr ⟨y, k, rfl, ?_⟩
        rw [rel_v hy, ← h, Int.toNat_of_nonneg hj]
      · cases h
    · cases h

theorem run_slice_any {t e : TypeId} (hu : P.underlying t = some (.slice e)) {m : Nat} (hm : sizeT P e = some m) {A : Option Addr} {n cap l h : Nat} (hn : n ≤ cap) {lo hi : Option Operand} (hlo : (lo = none ∧ l = 0) ∨ ∃ y k, lo = some y ∧ a.eval y = .int k (l : Int))
    (hhi : (hi = none ∧ h = n) ∨ ∃ y k, hi = some y ∧ a.eval y = .int k (h : Int)) (hlh : l ≤ h) (hhn : h ≤ n) :
    (Instr.slice t (.slice A n cap) (lo.map a.eval) (hi.map a.eval) none).run P w = .ok (.slice (if cap = l then A else A.map (·.add (l * m))) (h - l) (cap - l)) w := by
  have hb : (Instr.sliceBounds true n cap (lo.map a.eval) (hi.map a.eval) none).run P w = .ok (l, h, cap) w := by
    unfold Instr.sliceBounds
    rcases hhi with ⟨rfl, rfl⟩ | ⟨y, k, rfl, hy⟩ <;> rcases hlo with ⟨rfl, rfl⟩ | ⟨y', k', rfl, hy'⟩ <;>
      simp_all [Instr.sliceBound, asIntOf] <;> omega
  unfold Instr.slice
  simp [run_underlying hu, hb, run_sizeT hm]

theorem slp_slc {C : Ctx} {d m : Nat} {sx : SX} {sl sh : Option SX} {r : Res} (h : evOp C d st (.slp m sx sl sh) = some r) : evOp C d st (.slc m sx sl sh) = some r := by
  simp only [evOp] at h ⊢
  split at h
  · rename_i e; simp only [e]; exact h
  · rename_i e; simp only [e]; exact h
  · cases h

theorem slc_sound {o : Oper} {t e : TypeId} {x : Operand} {lo hi : Option Operand} (ho : o.op = .slice t x lo hi none) (hu : P.underlying t = some (.slice e)) {m : Nat} (hm : sizeT P e = some m) {sx : SX} {sl sh : Option SX} (hx : ccX x = some sx) (hlo : ccO lo = some sl) (hhi : ccO hi = some sh)
    (hR : Rep W0 S0 φ γ st a w) {C : Ctx} {d : Nat} {r : Res} (hev : evOp C d st (.slc m sx sl sh) = some r) : Sound1 P W0 S0 o st a w r := by
  have hX := ccX_rel hx hR
  have hexec : ∀ u, (Instr.slice t (a.eval x) (lo.map a.eval) (hi.map a.eval) none).run P w = .ok u w → (execOp a.eval o).run P w = .ok (.value u) w := by
    intro u h
    unfold execOp
    rw [ho]
    simp [Instr.sliceAt, run_underlying hu, h]
  have cut : ∀ (F : Nat → Prop) (A : Option Addr) (n cap l h : Nat) (cs : List Cell) (xs : List Value), n ≤ cap → l ≤ h → h ≤ n → cs.length = n * m → RelP w F cs xs → (xs ≠ [] → ∃ b, A = some b ∧ F b.block ∧ ∀ j x, xs[j]? = some x → w.cell? (b.add j) = some x) →
      RelC w F (.sl (h - l) ((cs.take (h * m)).drop (l * m))) (.slice (if cap = l then A else A.map (·.add (l * m))) (h - l) (cap - l)) := by
    intro F A n cap l h cs xs h1 h2 h3 h4 hp hA
    have e1 : l * m ≤ h * m := Nat.mul_le_mul_right _ h2
    have e2 : h * m ≤ n * m := Nat.mul_le_mul_right _ h3
    refine .sl ((xs.take (h * m)).drop (l * m)) (by omega) (by simp [hp.1]) (fun hne => ?_) (fun j c u hc hx' => ?_)
    · have hxne : xs ≠ [] := by
        intro e3
        subst e3
        have h5 := hp.1
        rw [h4] at h5
        have h6 : n * m = 0 := h5
        apply hne
        apply List.eq_nil_of_length_eq_zero
        rcases Nat.mul_eq_zero.1 h6 with h5 | h5
        · have : h = 0 := by omega
          subst this
          simp
        · subst h5; simp
      obtain ⟨b, rfl, hF, hc⟩ := hA hxne
      have hcl : cap ≠ l := by
        intro e3
        apply hne
        apply List.eq_nil_of_length_eq_zero
        have : h = l := by omega
        subst this
        first | (simp; done) | (simp; omega)
      refine ⟨b.add (l * m), by rw [if_neg hcl]; rfl, ?_, fun j x' hj => ?_⟩
      · have hb : (b.add (l * m)).block = b.block := by unfold Addr.add; split <;> rfl
        rw [hb]; exact hF
      · rw [List.getElem?_drop, List.getElem?_take] at hj
        split at hj
        · rw [Addr.add_add]; exact hc _ _ hj
        · cases hj
    · rw [List.getElem?_drop, List.getElem?_take] at hc hx'
      split at hc
      · rename_i hj
        rw [if_pos hj] at hx'
        exact hp.2 _ _ _ hc hx'
      · cases hc
  simp only [evOp] at hev
  split at hev
  · rename_i n cs e1
    rw [e1] at hX
    simp only [Option.bind_eq_some_iff] at hev
    obtain ⟨l, hl, h, hh, hev⟩ := hev
    split at hev
    · rename_i hc
      simp only [Option.some.injEq] at hev
      subst hev
      have hX' : RelC w (Fx W0 S0 φ γ st w) (.sl n cs) (a.eval x) := hX
      generalize hux : a.eval x = ux at hX'
      cases hX' with
      | @sl _ _ A cap xs hn hlen hxx hrr =>
        refine Sound1.pure hR (hexec _ (by rw [hux]; exact run_slice_any hu hm hn (boundOf_rel hlo hR hl) (boundOf_rel hhi hR hh) hc.1 hc.2.1)) ?_
        refine cut (Fx W0 S0 φ γ st w) A n cap l h cs xs hn hc.1 hc.2.1 hc.2.2 ⟨hlen.symm, hrr⟩ fun hne => hxx ?_
        intro e3; subst e3; exact hne (List.eq_nil_of_length_eq_zero hlen)
    · cases hev
  · rename_i i1 k1 e1
    rw [e1] at hX
    simp only [Option.bind_eq_some_iff] at hev
    obtain ⟨t', ht', l, hl, h, hh, hev⟩ := hev
    obtain ⟨ht, htl⟩ := live_tat ht'
    split at hev
    · rename_i hc
      simp only [Option.some.injEq] at hev
      subst hev
      obtain ⟨xs, hown, hpp⟩ := hR.mem.tks _ _ _ ht htl
      obtain ⟨A, cap, hv, hn, hA⟩ := own_view hown
      have hux : a.eval x = .slice A t'.n cap := hX.2.1.trans hv
      obtain ⟨hmem, hle, hF⟩ := hR.mem.kill ht (t' := { t' with live := false }) rfl (match o.dst with | some d => st.tm.set d (.one (.sl (h - l) ((t'.cs.take (h * m)).drop (l * m)))) | none => st.tm)
      refine ⟨φ, γ, _, w, .inl (hexec _ (by rw [hux]; exact run_slice_any hu hm hn (boundOf_rel hlo hR hl) (boundOf_rel hhi hR hh) hc.1 hc.2.1)), hR.put o.dst { val := .one (.sl (h - l) ((t'.cs.take (h * m)).drop (l * m))), wt := some (i1, k1, { t' with live := false }) } _ hmem hle fun _ _ => ?_⟩
      refine cut _ A t'.n cap l h t'.cs xs hn hc.1 hc.2.1 (by rw [hpp.1, hown.1, hc.2.2]) (hpp.mono hle.f) fun hne => ?_
      obtain ⟨b, rfl, hcell⟩ := hA hne
      refine ⟨b, rfl, hF b.block ?_, hcell⟩
      have hob : (γ i1 k1).ownBlock = some b.block := by rw [hv]; rfl
      have hbl := hR.mem.tlt ht htl hob
      refine ⟨hbl.2, fun hlt => absurd hlt (by omega), fun d' k' cs' hcs' e2 => hR.mem.tkb _ _ _ _ _ _ ht htl hcs' (by rw [hob, e2]), fun d' k' t2 ht2 hl2 hne2 e2 => hne2 (hR.mem.tki _ _ _ _ _ _ _ ht2 hl2 ht htl e2 hob)⟩
    · cases hev
  · rename_i e1
    rw [e1] at hX
    simp only [Option.bind_eq_some_iff] at hev
    obtain ⟨l, hl, h, hh, hev⟩ := hev
    split at hev
    · rename_i hc
      simp only [Option.some.injEq] at hev
      subst hev
      obtain ⟨rfl, rfl⟩ := hc
      have hux : a.eval x = .slice none 0 0 := rel_v hX
      refine Sound1.pure hR (u := .slice none 0 0) (hexec _ ?_) (rel_vv rfl)
      have := run_slice_any (P := P) (w := w) (a := a) hu hm (A := none) (n := 0) (cap := 0) (l := 0) (h := 0) (Nat.le_refl _) (boundOf_rel hlo hR hl) (boundOf_rel hhi hR hh) (Nat.le_refl _) (Nat.le_refl _)
      rw [hux]
      simpa using this
    · cases hev
  · cases hev

end
end Go.Proofs.Ytgmciihlmgeecaa.Mt
