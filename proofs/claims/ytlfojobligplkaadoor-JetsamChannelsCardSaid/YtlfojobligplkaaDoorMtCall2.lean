import Derived.Test.YtlfojobligplkaaDoorMtWrite3
/- Appending, cutting, and calls do what the evaluator says. Conditions: those that each lemma names. -/
namespace Go.Proofs.YtlfojobligplkaaDoor.Mt
open Go Go.RowKit
section
variable {P : Program} {W0 : Base} {S0 : Nat → Prop} {φ : Nat → Nat → Nat} {γ : Nat → Nat → Value} {st st' : St} {a : Act} {w w' : World}

theorem run_append_none {base : Nat} {t ty e : TypeId} {i : TypeInfo} {size : Nat} (ht : P.underlying t = some (.slice e)) (hi : P.info? e = some i) {v : Value} {n c : Nat} {xs : List Value} (hown : w.ownsRow base e size v n xs) :
    (Builtin.append_ #[t, t] ty #[v, .slice none 0 c]).run P w = .ok v w := by
  rcases hown.2 with ⟨rfl, rfl⟩ | ⟨g, cap, cur, rfl, _, _, hnc, _⟩
  · simp [Builtin.append_, run_underlying ht, sizeOf, typeInfo, hi, Builtin.lenOf, Builtin.firstCells]
  · simp [Builtin.append_, run_underlying ht, sizeOf, typeInfo, hi, Builtin.lenOf, Builtin.firstCells, hnc, storeCells]

/-- The machine's append onto a row of one's own, whatever is appended. -/
theorem run_append_any {base : Nat} {t ty e : TypeId} {i : TypeInfo} {z : Value} (ht : P.underlying t = some (.slice e)) (hi : P.info? e = some i) (hz : i.zero = some z) (hzs : z.cells.size = i.size) (hsz : 0 < i.size) (hby : 0 < i.bytes)
    {v : Value} {n : Nat} {xs : List Value} (hown : w.ownsRow base e i.size v n xs) {A : Option Addr} {m c : Nat} {news : List Value} (hl : news.length = m * i.size) (hA : news ≠ [] → ∃ b, A = some b ∧ ∀ j x, news[j]? = some x → w.cell? (b.add j) = some x) (h1 : ∀ u ∈ news, u.oneCell' = true)
    (hbytes : (n + m) * i.bytes ≤ 140737488355328) (hbase : base ≤ w.heap.size) :
    ∃ v' w', (Builtin.append_ #[t, t] ty #[v, .slice A m c]).run P w = .ok v' w' ∧ w'.ownsRow base e i.size v' (n + m) (xs ++ news) ∧ w.grownBy w' v.ownBlock ∧ (v'.ownBlock = v.ownBlock ∨ v'.ownBlock = some w.heap.size) := by
  have hlen : n + m ≤ maxLen := by
    have := Nat.le_mul_of_pos_right (n + m) hby
    simp only [maxLen]; omega
  cases A with
  | none =>
    have hn : news = [] := by
      apply Classical.byContradiction
      intro hne
      obtain ⟨b, hb, _⟩ := hA hne
      cases hb
    subst hn
    have hm : m = 0 := by
      have h0 : m * i.size = 0 := hl.symm
      rcases Nat.mul_eq_zero.1 h0 with h | h
      · exact h
      · omega
    subst hm
    exact ⟨v, w, run_append_none ht hi hown, by simpa using hown, ⟨rfl, rfl, rfl, Nat.le_refl _, fun _ _ _ => rfl⟩, .inl rfl⟩
  | some b =>
    have hnews : ∀ j u, news[j]? = some u → w.cell? (b.add j) = some u := by
      intro j u hj
      obtain ⟨b', hb', hc⟩ := hA (by intro e; subst e; simp at hj)
      cases hb'
      exact hc j u hj
    obtain ⟨v', w', h2, h3, h4, _, h5⟩ := run_append_own_at (P := P) w base t ty e i z i.size i.bytes ht hi hz rfl rfl hzs hsz v n xs hown b m c news hl hnews h1 hlen hbytes hbase
    exact ⟨v', w', h2, h3, h4, h5⟩

theorem app_sound {o : Oper} {t e : TypeId} {s x : Operand} (ho : o.op = .call { callee := .builtin .append, args := #[s, x], argTypes := #[t, t] }) (hu : P.underlying t = some (.slice e)) {i : TypeInfo} (hi : P.info? e = some i) {z : List Value} (hz : zeroT P e = some z)
    (hi0 : 0 < i.size) (hzl : z.length = i.size) (hb0 : 0 < i.bytes) {ss sx : SX} (hs : ccX s = some ss) (hx : ccX x = some sx) {d : Nat} (hd : o.dst = some d) (hlt : d < st.tk.length) (hR : Rep W0 S0 φ γ st a w) {C : Ctx} {r : Res}
    (hev : evOp C d st (.app e i.size i.bytes z ss sx) = some r) : Sound1 P W0 S0 o st a w r := by
  obtain ⟨i', v, hi', hzv, hvz, _⟩ := zero_info hz
  rw [hi] at hi'
  simp only [Option.some.injEq] at hi'
  subst hi'
  have hvs : v.cells.size = i.size := by rw [← Array.length_toList, hvz, hzl]
  have hS := ccX_rel hs hR
  have hX := ccX_rel hx hR
  have hexec : ∀ u w', (Builtin.append_ #[t, t] o.type #[a.eval s, a.eval x]).run P w = .ok u w' → (execOp a.eval o).run P w = .ok (.value u) w' := by
    intro u w' h
    unfold execOp
    rw [ho]
    simp [resolve, invoke, builtin, h]
  simp only [evOp] at hev
  split at hev
  · rename_i i1 k1 c e1 e2
    rw [e1] at hS; rw [e2] at hX
    simp only [Option.bind_eq_some_iff] at hev
    obtain ⟨t', ht', ⟨m, cs2⟩, hc, hev⟩ := hev
    obtain ⟨ht, htl⟩ := live_tat ht'
    split at hev
    · rename_i hcond
      simp only [Option.some.injEq] at hev
      subst hev
      obtain ⟨c1, c2, c3, c4, c5, c6⟩ := hcond
      obtain ⟨xs, hown, hpp⟩ := hR.mem.tks _ _ _ ht htl
      rw [c2, c3] at hown
      obtain ⟨A, cap, ys, hxv, _, hyp, hyA⟩ := contents_view hR.mem hc hX
      obtain ⟨v', w', h2, h3, h4, h5⟩ := run_append_any (ty := o.type) (c := cap) hu hi hzv hvs hi0 hb0 hown (A := A) (m := m) (news := ys) (by rw [← hyp.1]; exact c6) hyA hyp.one c1 hR.mem.bel.size
      have hsu : a.eval s = γ i1 k1 := hS.2.1
      obtain ⟨hmem, hle⟩ := hR.mem.appendTok ht htl (t' := { t' with live := false }) rfl hlt h4 ⟨e, i.size, t'.n + m, t'.cs ++ cs2, true⟩ h3 (by
          rcases h5 with h5 | h5
          · exact .inl h5
          · exact .inr ⟨_, h5, Nat.le_refl _⟩) (hpp.append hyp) (st.tm.set d (.one (.own d (tlen (tset st.tk i1 k1 { t' with live := false }) d))))
      refine ⟨φ, fun d' k' => if d' = d ∧ k' = tlen st.tk d then v' else γ d' k', v', w', .inl (hexec v' w' (by rw [hsu, hxv]; exact h2)), ?_⟩
      rw [hd]
      refine hR.put (some d) { val := .one (.own d (tlen (tset st.tk i1 k1 { t' with live := false }) d)), pt := [⟨e, i.size, t'.n + m, t'.cs ++ cs2, true⟩], wt := some (i1, k1, { t' with live := false }) } _ hmem hle fun d' hd' => ?_
      simp only [Option.some.injEq] at hd'
      subst hd'
      have ho1 : v'.oneCell' = true := by
        rcases h3.2 with ⟨rfl, _⟩ | ⟨g, cap', cur, rfl, _⟩ <;> rfl
      refine ⟨⟨⟨e, i.size, t'.n + m, t'.cs ++ cs2, true⟩, ?_⟩, ?_, ho1⟩
      · show tat (tpush (tset st.tk i1 k1 { t' with live := false }) d [_]) d (tlen (tset st.tk i1 k1 { t' with live := false }) d) = _
        rw [tat_push (by rw [tset_length]; exact hlt), if_pos ⟨rfl, Nat.le_refl _⟩, Nat.sub_self]; rfl
      · show _ = (if d = d ∧ tlen (tset st.tk i1 k1 { t' with live := false }) d = tlen st.tk d then _ else _)
        rw [if_pos ⟨rfl, tlen_set ..⟩]
    · cases hev
  · rename_i c e1 e2
    rw [e1] at hS; rw [e2] at hX
    have hsu : a.eval s = .slice none 0 0 := rel_v hS
    simp only [Option.bind_eq_some_iff] at hev
    obtain ⟨⟨m, cs2⟩, hc, hev⟩ := hev
    split at hev
    · rename_i hcond
      simp only [Option.some.injEq] at hev
      subst hev
      obtain ⟨c1, c4, c5, c6⟩ := hcond
      obtain ⟨A, cap, ys, hxv, _, hyp, hyA⟩ := contents_view hR.mem hc hX
      obtain ⟨v', w', h2, h3, h4, h5⟩ := run_append_any (ty := o.type) (c := cap) (w := w) (base := w.heap.size) (n := 0) (xs := []) (v := .slice none 0 0) hu hi hzv hvs hi0 hb0 (World.ownsRow_nil ..) (A := A) (m := m) (news := ys) (by rw [← hyp.1]; exact c6) hyA hyp.one (by simpa using c1) (Nat.le_refl _)
      simp only [List.nil_append, Nat.zero_add] at h3
      have hbel : Below w.heap.size w w' := ⟨h4.os, h4.tape, h4.output, h4.size, fun b hb => h4.block b hb (by simp [Value.ownBlock])⟩
      have hob : ∀ b, v'.ownBlock = some b → w.heap.size ≤ b := by
        intro b hb
        rcases h5 with h5 | h5
        · rw [h5] at hb; simp [Value.ownBlock] at hb
        · rw [h5] at hb; simp at hb; omega
      obtain ⟨hmem, hle, _⟩ := hR.mem.newToks hbel hlt (ts := [⟨e, i.size, m, cs2, true⟩]) (fun _ => v') (st.tm.set d (.one (.own d (tlen st.tk d))))
        (fun j t' hj => by
          cases j with
          | succ j => simp at hj
          | zero =>
            simp only [List.getElem?_cons_zero, Option.some.injEq] at hj
            subst hj
            refine ⟨ys, h3, RelP.mono (fun b hb => ⟨⟨Nat.lt_of_lt_of_le hb.1 hbel.size, fun _ => hb, fun j' t' _ he => ?_⟩, hbel.block b hb.1⟩) hyp⟩
            have := hob b he
            have := hb.1
            omega)
        (fun j t1 j' t2 b h3 h4 _ _ => by
          cases j with
          | succ j => simp at h3
          | zero => cases j' with
            | succ j' => simp at h4
            | zero => rfl)
      refine ⟨φ, fun d' k' => if d' = d ∧ tlen st.tk d ≤ k' then v' else γ d' k', v', w', .inl (hexec v' w' (by rw [hsu, hxv]; exact h2)), ?_⟩
      rw [hd]
      refine hR.put (some d) { val := .one (.own d (tlen st.tk d)), pt := [⟨e, i.size, m, cs2, true⟩] } _ hmem hle fun d' hd' => ?_
      simp only [Option.some.injEq] at hd'
      subst hd'
      have ho1 : v'.oneCell' = true := by
        rcases h3.2 with ⟨rfl, _⟩ | ⟨g, cap', cur, rfl, _⟩ <;> rfl
      refine ⟨⟨⟨e, i.size, m, cs2, true⟩, ?_⟩, ?_, ho1⟩
      · show tat (tpush st.tk d [_]) d (tlen st.tk d) = _
        rw [tat_push hlt, if_pos ⟨rfl, Nat.le_refl _⟩, Nat.sub_self]; rfl
      · show _ = (if d = d ∧ tlen st.tk d ≤ tlen st.tk d then _ else _)
        rw [if_pos ⟨rfl, Nat.le_refl _⟩]
    · cases hev
  · cases hev

/-! ### A part of a row -/

theorem boundOf_rel {x : Option Operand} {s : Option SX} (hx : ccO x = some s) (hR : Rep W0 S0 φ γ st a w) {n l : Nat} (h : boundOf st n s = some l) : (x = none ∧ l = n) ∨ ∃ y k, x = some y ∧ a.eval y = .int k (l : Int) := by
  cases x with
  | none =>
    simp only [ccO, Option.some.injEq] at hx
    subst hx
    simp only [boundOf, Option.some.injEq] at h
    exact .inl ⟨rfl, h.symm⟩
  | some y =>
    simp only [ccO, Option.map_eq_some_iff] at hx
    obtain ⟨q, hq, rfl⟩ := hx
    have hy := ccX_rel hq hR
    simp only [boundOf] at h
    split at h
    · rename_i k j e
      split at h
      · rename_i hj
        simp only [Option.some.injEq] at h
        rw [e] at hy
        refine .inr ⟨y, k, rfl, ?_⟩
        rw [rel_v hy, ← h, Int.toNat_of_nonneg hj]
      · cases h
    · cases h

theorem run_slice_any {t e : TypeId} (hu : P.underlying t = some (.slice e)) {m : Nat} (hm : sizeT P e = some m) {A : Option Addr} {n cap l h : Nat} (hn : n ≤ cap) {lo hi : Option Operand} (hlo : (lo = none ∧ l = 0) ∨ ∃ y k, lo = some y ∧ a.eval y = .int k (l : Int))
    (hhi : (hi = none ∧ h = n) ∨ ∃ y k, hi = some y ∧ a.eval y = .int k (h : Int)) (hlh : l ≤ h) (hhn : h ≤ n) :
    (Instr.slice t (.slice A n cap) (lo.map a.eval) (hi.map a.eval) none).run P w = .ok (.slice (if cap = l then A else A.map (·.add (l * m))) (h - l) (cap - l)) w := by
  have hb : (Instr.sliceBounds true n cap (lo.map a.eval) (hi.map a.eval) none).run P w = .ok (l, h, cap) w := by
    unfold Instr.sliceBounds
    rcases hhi with ⟨rfl, rfl⟩ | ⟨y, k, rfl, hy⟩ <;> rcases hlo with ⟨rfl, rfl⟩ | ⟨y', k', rfl, hy'⟩ <;>
      simp_all [Instr.sliceBound, asIntOf] <;> omega
  unfold Instr.slice
  simp [run_underlying hu, hb, run_sizeT hm]

theorem slp_slc {C : Ctx} {d m : Nat} {sx : SX} {sl sh : Option SX} {r : Res} (h : evOp C d st (.slp m sx sl sh) = some r) : evOp C d st (.slc m sx sl sh) = some r := by
  simp only [evOp] at h ⊢
  split at h
  · rename_i e; simp only [e]; exact h
  · rename_i e; simp only [e]; exact h
  · cases h

theorem slc_sound {o : Oper} {t e : TypeId} {x : Operand} {lo hi : Option Operand} (ho : o.op = .slice t x lo hi none) (hu : P.underlying t = some (.slice e)) {m : Nat} (hm : sizeT P e = some m) {sx : SX} {sl sh : Option SX} (hx : ccX x = some sx) (hlo : ccO lo = some sl) (hhi : ccO hi = some sh)
    (hR : Rep W0 S0 φ γ st a w) {C : Ctx} {d : Nat} {r : Res} (hev : evOp C d st (.slc m sx sl sh) = some r) : Sound1 P W0 S0 o st a w r := by
  have hX := ccX_rel hx hR
  have hexec : ∀ u, (Instr.slice t (a.eval x) (lo.map a.eval) (hi.map a.eval) none).run P w = .ok u w → (execOp a.eval o).run P w = .ok (.value u) w := by
    intro u h
    unfold execOp
    rw [ho]
    simp [Instr.sliceAt, run_underlying hu, h]
  have cut : ∀ (F : Nat → Prop) (A : Option Addr) (n cap l h : Nat) (cs : List Cell) (xs : List Value), n ≤ cap → l ≤ h → h ≤ n → cs.length = n * m → RelP w F cs xs → (xs ≠ [] → ∃ b, A = some b ∧ F b.block ∧ ∀ j x, xs[j]? = some x → w.cell? (b.add j) = some x) →
      RelC w F (.sl (h - l) ((cs.take (h * m)).drop (l * m))) (.slice (if cap = l then A else A.map (·.add (l * m))) (h - l) (cap - l)) := by
    intro F A n cap l h cs xs h1 h2 h3 h4 hp hA
    have e1 : l * m ≤ h * m := Nat.mul_le_mul_right _ h2
    have e2 : h * m ≤ n * m := Nat.mul_le_mul_right _ h3
    refine .sl ((xs.take (h * m)).drop (l * m)) (by omega) (by simp [hp.1]) (fun hne => ?_) (fun j c u hc hx' => ?_)
    · have hxne : xs ≠ [] := by
        intro e3
        subst e3
        have h5 := hp.1
        rw [h4] at h5
        have h6 : n * m = 0 := h5
        apply hne
        apply List.eq_nil_of_length_eq_zero
        rcases Nat.mul_eq_zero.1 h6 with h5 | h5
        · have : h = 0 := by omega
          subst this
          simp
        · subst h5; simp
      obtain ⟨b, rfl, hF, hc⟩ := hA hxne
      have hcl : cap ≠ l := by
        intro e3
        apply hne
        apply List.eq_nil_of_length_eq_zero
        have : h = l := by omega
        subst this
        first | (simp; done) | (simp; omega)
      refine ⟨b.add (l * m), by rw [if_neg hcl]; rfl, ?_, fun j x' hj => ?_⟩
      · have hb : (b.add (l * m)).block = b.block := by unfold Addr.add; split <;> rfl
        rw [hb]; exact hF
      · rw [List.getElem?_drop, List.getElem?_take] at hj
        split at hj
        · rw [Addr.add_add]; exact hc _ _ hj
        · cases hj
    · rw [List.getElem?_drop, List.getElem?_take] at hc hx'
      split at hc
      · rename_i hj
        rw [if_pos hj] at hx'
        exact hp.2 _ _ _ hc hx'
      · cases hc
  simp only [evOp] at hev
  split at hev
  · rename_i n cs e1
    rw [e1] at hX
    simp only [Option.bind_eq_some_iff] at hev
    obtain ⟨l, hl, h, hh, hev⟩ := hev
    split at hev
    · rename_i hc
      simp only [Option.some.injEq] at hev
      subst hev
      have hX' : RelC w (Fx W0 S0 φ γ st w) (.sl n cs) (a.eval x) := hX
      generalize hux : a.eval x = ux at hX'
      cases hX' with
      | @sl _ _ A cap xs hn hlen hxx hrr =>
        refine Sound1.pure hR (hexec _ (by rw [hux]; exact run_slice_any hu hm hn (boundOf_rel hlo hR hl) (boundOf_rel hhi hR hh) hc.1 hc.2.1)) ?_
        refine cut (Fx W0 S0 φ γ st w) A n cap l h cs xs hn hc.1 hc.2.1 hc.2.2 ⟨hlen.symm, hrr⟩ fun hne => hxx ?_
        intro e3; subst e3; exact hne (List.eq_nil_of_length_eq_zero hlen)
    · cases hev
  · rename_i i1 k1 e1
    rw [e1] at hX
    simp only [Option.bind_eq_some_iff] at hev
    obtain ⟨t', ht', l, hl, h, hh, hev⟩ := hev
    obtain ⟨ht, htl⟩ := live_tat ht'
    split at hev
    · rename_i hc
      simp only [Option.some.injEq] at hev
      subst hev
      obtain ⟨xs, hown, hpp⟩ := hR.mem.tks _ _ _ ht htl
      obtain ⟨A, cap, hv, hn, hA⟩ := own_view hown
      have hux : a.eval x = .slice A t'.n cap := hX.2.1.trans hv
      obtain ⟨hmem, hle, hF⟩ := hR.mem.kill ht (t' := { t' with live := false }) rfl (match o.dst with | some d => st.tm.set d (.one (.sl (h - l) ((t'.cs.take (h * m)).drop (l * m)))) | none => st.tm)
      refine ⟨φ, γ, _, w, .inl (hexec _ (by rw [hux]; exact run_slice_any hu hm hn (boundOf_rel hlo hR hl) (boundOf_rel hhi hR hh) hc.1 hc.2.1)), hR.put o.dst { val := .one (.sl (h - l) ((t'.cs.take (h * m)).drop (l * m))), wt := some (i1, k1, { t' with live := false }) } _ hmem hle fun _ _ => ?_⟩
      refine cut _ A t'.n cap l h t'.cs xs hn hc.1 hc.2.1 (by rw [hpp.1, hown.1, hc.2.2]) (hpp.mono hle.f) fun hne => ?_
      obtain ⟨b, rfl, hcell⟩ := hA hne
      refine ⟨b, rfl, hF b.block ?_, hcell⟩
      have hob : (γ i1 k1).ownBlock = some b.block := by rw [hv]; rfl
      have hbl := hR.mem.tlt ht htl hob
      refine ⟨hbl.2, fun hlt => absurd hlt (by omega), fun d' k' cs' hcs' e2 => hR.mem.tkb _ _ _ _ _ _ ht htl hcs' (by rw [hob, e2]), fun d' k' t2 ht2 hl2 hne2 e2 => hne2 (hR.mem.tki _ _ _ _ _ _ _ ht2 hl2 ht htl e2 hob)⟩
    · cases hev
  · rename_i e1
    rw [e1] at hX
    simp only [Option.bind_eq_some_iff] at hev
    obtain ⟨l, hl, h, hh, hev⟩ := hev
    split at hev
    · rename_i hc
      simp only [Option.some.injEq] at hev
      subst hev
      obtain ⟨rfl, rfl⟩ := hc
      have hux : a.eval x = .slice none 0 0 := rel_v hX
      refine Sound1.pure hR (u := .slice none 0 0) (hexec _ ?_) (rel_vv rfl)
      have := run_slice_any (P := P) (w := w) (a := a) hu hm (A := none) (n := 0) (cap := 0) (l := 0) (h := 0) (Nat.le_refl _) (boundOf_rel hlo hR hl) (boundOf_rel hhi hR hh) (Nat.le_refl _) (Nat.le_refl _)
      rw [hux]
      simpa using this
    · cases hev
  · cases hev

end
end Go.Proofs.YtlfojobligplkaaDoor.Mt

/-! Calls do what the evaluator says, if each callee does what is told of it. Conditions: those that each lemma names. -/
namespace Go.Proofs.YtlfojobligplkaaDoor.Mt
open Go Go.RowKit

/-! ### What is told of a callee -/

def argEnv (w : World) (S : Nat → Prop) : Env := { F := fun b => b < w.heap.size ∧ S b, φ := fun _ _ => 0, γ := fun _ _ => undef, B := fun _ _ => False, T := fun _ _ => False }

def ArgsRel (w : World) (S : Nat → Prop) (vs : List CV) (us : List Value) : Prop :=
  vs.length = us.length ∧ ∀ (j : Nat) (v : CV) (u : Value), vs[j]? = some v → us[j]? = some u → RelV1 w (argEnv w S) v u

def retF (w w' : World) (S : Nat → Prop) (n : Nat) (γ : Nat → Value) (b : Nat) : Prop := b < w'.heap.size ∧ (b < w.heap.size → S b) ∧ ∀ j, j < n → (γ j).ownBlock ≠ some b
def retEnv (w w' : World) (S : Nat → Prop) (n : Nat) (γ : Nat → Value) : Env := { F := retF w w' S n γ, φ := fun _ _ => 0, γ := fun _ k => γ k, B := fun _ _ => False, T := fun d k => d = 0 ∧ k < n }

structure RetRel (w w' : World) (S : Nat → Prop) (r : Ret) (u : Value) (γ : Nat → Value) : Prop where
  bel : Below w.heap.size w w'
  toks : ∀ (j : Nat) (t : Tok), r.toks[j]? = some t → ∃ xs, w'.ownsRow w.heap.size t.e t.sz (γ j) t.n xs ∧ RelP w' (retF w w' S r.toks.length γ) t.cs xs
  dis : ∀ (j j' b : Nat), j < r.toks.length → j' < r.toks.length → (γ j).ownBlock = some b → (γ j').ownBlock = some b → j = j'
  val : RelV w' (retEnv w w' S r.toks.length γ) r.cv u

def SoundAt (P : Program) (g : Nat) (vs : List CV) (r : Ret) : Prop :=
  ∀ (w : World) (S : Nat → Prop) (us : List Value), ArgsRel w S vs us → Calls P g us.toArray w fun e w' => ∃ u γ, e = .returned u ∧ RetRel w w' S r u γ

def PSoundAt (P : Program) (g : Nat) (cs : List Cell) (vs : List CV) (cs' : List Cell) : Prop :=
  ∀ (w : World) (S : Nat → Prop) (b : Nat) (T : TypeId) (ws : List Value) (us : List Value), w.heap[b]? = some (.cells ws.toArray T (0, 0)) → RelL w (argEnv w S) cs ws → (∀ k, S k → k ≠ b) → ArgsRel w S vs us →
    Calls P g (#[.pointer (some ⟨b, 0, none⟩)] ++ us.toArray) w fun e w' => (∃ u, e = .returned u) ∧ w'.os = w.os ∧ w'.tape = w.tape ∧ w'.output = w.output ∧ w.heap.size ≤ w'.heap.size ∧ (∀ k, k < w.heap.size → k ≠ b → w'.heap[k]? = w.heap[k]?) ∧
      ∃ (ws' : List Value) (T' : TypeId), w'.heap[b]? = some (.cells ws'.toArray T' (0, 0)) ∧ RelP w' (fun _ => False) cs' ws'

structure CtxOk (P : Program) (C : Ctx) : Prop where
  call : ∀ g vs r, C.call g vs = some r → okF P g = true ∧ SoundAt P g vs r
  pcall : ∀ g cs vs cs', C.pcall g cs vs = some cs' → okF P g = true ∧ (cs.all flatC = true → PSoundAt P g cs vs cs')

section
variable {P : Program} {W0 : Base} {S0 : Nat → Prop} {φ : Nat → Nat → Nat} {γ : Nat → Nat → Value} {st st' : St} {a : Act} {w w' : World}

/-- What the machine does, whatever follows. -/
def SoundW (P : Program) (W0 : Base) (S0 : Nat → Prop) (o : Oper) (st : St) (a : Act) (w : World) (r : Res) : Prop :=
  ∀ (K : Act → World → Prop) (Q : Exit → Act → World → Prop), (∀ φ' γ' u w', Rep W0 S0 φ' γ' (applyR o.dst st r) (a.put o.dst u) w' → K (a.put o.dst u) w') → o.wp P a w K Q

theorem Sound1.wp {o : Oper} {r : Res} (h : Sound1 P W0 S0 o st a w r) : SoundW P W0 S0 o st a w r := by
  intro K Q hK
  obtain ⟨φ', γ', u, w', hd, hR⟩ := h
  unfold Oper.wp
  rcases hd with hd | ⟨hd, rfl⟩
  · rw [hd]; exact hK φ' γ' u w' hR
  · rw [hd]; exact hK φ' γ' undef w' hR

theorem run_callFunc {g : Nat} (hg : okF P g = true) (us : Array Value) : (callFunc g us).run P w = .ok (.enter g us) w := by
  unfold okF at hg
  unfold callFunc
  cases hf : P.funcs[g]? with
  | none => rw [hf] at hg; cases hg
  | some fn =>
    rw [hf] at hg
    simp only [Bool.and_eq_true, bne_iff_ne, ne_eq] at hg
    obtain ⟨c, hb⟩ := Option.isSome_iff_exists.1 hg.2
    simp [hf, hg.1, hb]

/-! ### Arguments -/

theorem RelC1.flat {E E' : Env} {c : Cell} {u : Value} (h : RelC1 w E c u) (hf : flatC c = true) : RelC1 w' E' c u := by
  cases c <;> first | (cases hf; done) | skip
  cases h with
  | v h => exact RelC.v h

def ownS (W0 : Base) (S0 : Nat → Prop) (φ : Nat → Nat → Nat) (γ : Nat → Nat → Value) (st : St) (w : World) (b : Nat) : Prop :=
  Fx W0 S0 φ γ st w b ∨ ∃ d k t, tat st.tk d k = some t ∧ t.live = true ∧ (γ d k).ownBlock = some b

theorem shareC_rel (hm : Mem W0 S0 φ γ st w) {c c' : Cell} {u : Value} (hs : shareC st c = some c') (h : RelC1 w (envOf W0 S0 φ γ st w) c u) : RelC1 w (argEnv w (ownS W0 S0 φ γ st w)) c' u := by
  have mono : ∀ {c : Cell} {u : Value}, RelC w (Fx W0 S0 φ γ st w) c u → RelC w (fun b => b < w.heap.size ∧ ownS W0 S0 φ γ st w b) c u := fun h => h.mono fun b hb => ⟨⟨hb.1, .inl hb⟩, rfl⟩
  cases c with
  | own d k =>
    simp only [shareC, Option.map_eq_some_iff] at hs
    obtain ⟨t, ht', rfl⟩ := hs
    obtain ⟨ht, htl⟩ := live_tat ht'
    obtain ⟨xs, hown, hp⟩ := hm.tks d k t ht htl
    obtain ⟨A, cap, hv, hn, hA⟩ := own_view hown
    have hu : u = .slice A t.n cap := h.2.1.trans hv
    subst hu
    refine RelC.sl xs hn hp.1.symm (fun hne => ?_) fun j c x h1 h2 => mono (hp.2 j c x h1 h2)
    obtain ⟨b, rfl, hc⟩ := hA (by intro e; subst e; exact hne (List.eq_nil_of_length_eq_zero hp.1))
    have hob : (γ d k).ownBlock = some b.block := by rw [hv]; rfl
    exact ⟨b, rfl, ⟨(hm.tlt ht htl hob).2, .inr ⟨d, k, t, ht, htl, hob⟩⟩, hc⟩
  | v x => simp only [shareC, Option.some.injEq] at hs; subst hs; exact mono h
  | sl n cs => simp only [shareC, Option.some.injEq] at hs; subst hs; exact mono h
  | dead => simp only [shareC, Option.some.injEq] at hs; subst hs; exact mono h

theorem shareL_rel (hm : Mem W0 S0 φ γ st w) : ∀ {cs cs' : List Cell} {us : List Value}, shareL st cs = some cs' → RelL w (envOf W0 S0 φ γ st w) cs us → RelL w (argEnv w (ownS W0 S0 φ γ st w)) cs' us
  | [], cs', us, hs, h => by
    simp only [shareL, Option.some.injEq] at hs
    subst hs
    exact ⟨h.1, fun j c u hc => by simp at hc⟩
  | c :: cs, cs', us, hs, h => by
    simp only [shareL, Option.bind_eq_some_iff, Option.map_eq_some_iff] at hs
    obtain ⟨c', hc', r, hr, rfl⟩ := hs
    obtain ⟨u, us, rfl⟩ : ∃ x r, us = x :: r := by cases us with | nil => simp [RelL] at h | cons x r => exact ⟨x, r, rfl⟩
    have ih := shareL_rel hm (us := us) hr ⟨by simpa using h.1, fun j c u h1 h2 => h.2 (j + 1) c u h1 h2⟩
    refine ⟨by simp [ih.1], fun j c1 u1 h1 h2 => ?_⟩
    cases j with
    | zero => simp at h1 h2; subst h1; subst h2; exact shareC_rel hm hc' (h.2 0 c u rfl rfl)
    | succ j => exact ih.2 j c1 u1 h1 h2

/-- What the callee may see. -/
def seeS (ow : Bool) (W0 : Base) (S0 : Nat → Prop) (φ : Nat → Nat → Nat) (γ : Nat → Nat → Value) (st : St) (w : World) : Nat → Prop := bif ow then ownS W0 S0 φ γ st w else Fx W0 S0 φ γ st w

theorem argOf_rel (hm : Mem W0 S0 φ γ st w) {ow : Bool} {v v' : CV} {u : Value} (hs : argOf ow st v = some v') (h : RelV w (envOf W0 S0 φ γ st w) v u) : RelV1 w (argEnv w (seeS ow W0 S0 φ γ st w)) v' u := by
  cases v <;> simp only [argOf] at hs <;> first | (cases hs; done) | skip
  case one c =>
    cases ow with
    | true =>
      simp only [cond_true, Option.map_eq_some_iff] at hs
      obtain ⟨c', hc, rfl⟩ := hs
      exact shareC_rel hm hc h
    | false =>
      cases hp : plainC c with
      | false => rw [hp] at hs; cases hs
      | true =>
        rw [hp] at hs
        simp only [cond_false, cond_true, Option.some.injEq] at hs
        subst hs
        exact RelC.to1 (RelC.mono (F' := fun b => b < w.heap.size ∧ Fx W0 S0 φ γ st w b) (fun b hb => ⟨⟨hb.1, hb⟩, rfl⟩) (RelC1.of_plain (c := c) h hp))
  case agg cs =>
    obtain ⟨us, rfl, hl⟩ := h
    cases ow with
    | true =>
      simp only [cond_true, Option.map_eq_some_iff] at hs
      obtain ⟨cs', hc, rfl⟩ := hs
      exact ⟨us, rfl, shareL_rel hm hc hl⟩
    | false =>
      cases hp : cs.all plainC with
      | false => rw [hp] at hs; cases hs
      | true =>
        rw [hp] at hs
        simp only [cond_false, cond_true, Option.some.injEq] at hs
        subst hs
        exact ⟨us, rfl, RelP.toL (E := argEnv w (seeS false W0 S0 φ γ st w)) (RelP.mono (fun b hb => ⟨⟨hb.1, hb⟩, rfl⟩) (hl.toP hp))⟩

theorem argsOf_rel {ow : Bool} (hR : Rep W0 S0 φ γ st a w) : ∀ {xs : List Operand} {ss : List SX} {vs : List CV}, ccXs xs = some ss → argsOf ow st ss = some vs → ArgsRel w (seeS ow W0 S0 φ γ st w) vs (xs.map a.eval)
  | [], ss, vs, h1, h2 => by
    simp only [ccXs, Option.some.injEq] at h1
    subst h1
    simp only [argsOf, Option.some.injEq] at h2
    subst h2
    exact ⟨rfl, fun j v u h => by simp at h⟩
  | x :: xs, ss, vs, h1, h2 => by
    simp only [ccXs, Option.bind_eq_some_iff, Option.map_eq_some_iff] at h1
    obtain ⟨s, hs, ss', hss, rfl⟩ := h1
    simp only [argsOf, Option.bind_eq_some_iff, Option.map_eq_some_iff] at h2
    obtain ⟨v, hv, vs', hvs, rfl⟩ := h2
    have ih := argsOf_rel hR hss hvs
    refine ⟨by simp [ih.1], fun j v1 u1 h1 h2 => ?_⟩
    cases j with
    | zero => simp at h1 h2; subst h1; subst h2; exact argOf_rel hR.mem hv (ccX_rel hs hR)
    | succ j => exact ih.2 j v1 u1 h1 h2

/-! ### Results -/

theorem RelC1.ret {n : Nat} {c : Cell} {u : Value} {E E' : Env} {d b : Nat} (h : RelC1 w' E c u) (hok : okC n c = true) (hF : ∀ {c : Cell} {u : Value}, flatC c = true ∨ noSl c = false → RelC w' E.F c u → RelC w' E'.F c u)
    (hT : ∀ k, k < n → E'.T d (b + k) ∧ E'.γ d (b + k) = E.γ 0 k) : RelC1 w' E' (renC d b c) u := by
  cases c with
  | own d0 k =>
    simp only [okC, Bool.and_eq_true, beq_iff_eq, decide_eq_true_eq] at hok
    obtain ⟨rfl, hk⟩ := hok
    obtain ⟨_, hu, ho⟩ := h
    exact ⟨(hT k hk).1, by rw [(hT k hk).2]; exact hu, ho⟩
  | v x => exact (hF (.inl rfl) (show RelC w' E.F (.v x) u from h)).to1
  | sl m cs => exact (hF (.inr rfl) (show RelC w' E.F (.sl m cs) u from h)).to1
  | dead => exact (hF (.inr rfl) (show RelC w' E.F .dead u from h)).to1

theorem call_wp {C : Ctx} (hC : CtxOk P C) {o : Oper} {g : Nat} {ow pt : Bool} {args : Array Operand} {f : Operand} {ts : Array TypeId} (ho : o.op = .call { callee := .value f, args := args, argTypes := ts }) (hf : a.eval f = .func (.func g) #[] #[])
    {ss : List SX} (hx : ccXs args.toList = some ss) {d : Nat} (hd : pt = true → o.dst = some d ∧ d < st.tk.length) (hR : Rep W0 S0 φ γ st a w) {r : Res} (hev : doCall C d st ow pt g ss = some r) : SoundW P W0 S0 o st a w r := by
  intro K Q hK
  simp only [doCall, Option.bind_eq_some_iff] at hev
  obtain ⟨vs, hvs, ret, hret, hev⟩ := hev
  split at hev
  · rename_i hcond
    simp only [Option.some.injEq] at hev
    subst hev
    obtain ⟨hokV, hpt, how, htoks⟩ := hcond
    obtain ⟨hgok, hsound⟩ := hC.call g vs ret hret
    have hargs := argsOf_rel hR hx hvs
    have hrun : (execOp a.eval o).run P w = .ok (.enter g (args.map a.eval)) w := by
      unfold execOp
      rw [ho]
      simp [resolve, hf, Deferred.ofValue, invoke, run_callFunc hgok]
    unfold Oper.wp
    rw [hrun]
    show Calls P g _ w _
    have hcalls := hsound w _ _ hargs
    have e1 : (args.toList.map a.eval).toArray = args.map a.eval := by rw [← Array.toList_map, Array.toArray_toList]
    rw [e1] at hcalls
    refine hcalls.mono ?_
    rintro e w' ⟨u, γn, rfl, hrel⟩
    show K (a.put o.dst u) w'
    have hF : ∀ b, retF w w' (seeS false W0 S0 φ γ st w) ret.toks.length γn b → (b < w'.heap.size ∧ (b < w.heap.size → Fx W0 S0 φ γ st w b) ∧ ∀ (j' : Nat) (t' : Tok), ret.toks[j']? = some t' → (γn j').ownBlock ≠ some b) :=
      fun b hb => ⟨hb.1, hb.2.1, fun j' t' hj => hb.2.2 j' (List.getElem?_eq_some_iff.1 hj).1⟩
    have conv : ∀ {c : Cell} {u : Value} {G : Nat → Prop}, (ow = true → noSl c = true) → (∀ b, (b < w'.heap.size ∧ (b < w.heap.size → Fx W0 S0 φ γ st w b) ∧ ∀ (j' : Nat) (t' : Tok), ret.toks[j']? = some t' → (γn j').ownBlock ≠ some b) → G b) → RelC w' (retF w w' (seeS ow W0 S0 φ γ st w) ret.toks.length γn) c u → RelC w' G c u := by
      intro c u G hns hG h
      cases ow with
      | false => exact h.mono fun b hb => ⟨hG b (hF b hb), rfl⟩
      | true =>
        have := hns rfl
        cases h with
        | v h => exact .v h
        | sl => cases this
        | dead => cases this
    cases htk : ret.toks with
    | nil =>
      obtain ⟨hm, hle⟩ := hR.mem.grow hrel.bel
      have hcg := envOf_congr (W0 := W0) (S0 := S0) (φ := φ) (γ := γ) (st := st) (st' := applyR o.dst st { val := bif pt then renV d (tlen st.tk d) ret.cv else ret.cv, pt := [] }) (w := w') rfl rfl
      refine hK φ γ u w' ?_
      rw [htk] at hokV
      simp only [htk]
      refine hR.put o.dst { val := bif pt then renV d (tlen st.tk d) ret.cv else ret.cv, pt := [] } u (hm.congr rfl rfl) (by rw [hcg]; exact hle) fun d' hd' => ?_
      rw [hcg]
      have cell : ∀ {c : Cell} {x : Value}, okC 0 c = true → (ow = true → noSl c = true) → RelC1 w' (retEnv w w' (seeS ow W0 S0 φ γ st w) ret.toks.length γn) c x → RelC1 w' (envOf W0 S0 φ γ st w') c x ∧ renC d (tlen st.tk d) c = c := by
        intro c x hok hns h
        cases c with
        | own d0 k => simp [okC] at hok
        | v y => exact ⟨(conv (c := .v y) hns (G := Fx W0 S0 φ γ st w') (fun b hb => ⟨hb.1, fun hlt => (hb.2.1 (Nat.lt_of_lt_of_le hlt hR.mem.bel.size)).2.1 hlt, fun d k cs hc e => ((hb.2.1 (by rw [← e]; exact hR.mem.blt hc)).2.2.1 d k cs hc) e, fun d k t ht hl e => ((hb.2.1 (hR.mem.tlt ht hl e).2).2.2.2 d k t ht hl) e⟩) h).to1, rfl⟩
        | sl m cs => exact ⟨(conv (c := .sl m cs) hns (G := Fx W0 S0 φ γ st w') (fun b hb => ⟨hb.1, fun hlt => (hb.2.1 (Nat.lt_of_lt_of_le hlt hR.mem.bel.size)).2.1 hlt, fun d k cs hc e => ((hb.2.1 (by rw [← e]; exact hR.mem.blt hc)).2.2.1 d k cs hc) e, fun d k t ht hl e => ((hb.2.1 (hR.mem.tlt ht hl e).2).2.2.2 d k t ht hl) e⟩) h).to1, rfl⟩
        | dead => exact ⟨(conv (c := .dead) hns (G := Fx W0 S0 φ γ st w') (fun b hb => ⟨hb.1, fun hlt => (hb.2.1 (Nat.lt_of_lt_of_le hlt hR.mem.bel.size)).2.1 hlt, fun d k cs hc e => ((hb.2.1 (by rw [← e]; exact hR.mem.blt hc)).2.2.1 d k cs hc) e, fun d k t ht hl e => ((hb.2.1 (hR.mem.tlt ht hl e).2).2.2.2 d k t ht hl) e⟩) h).to1, rfl⟩
      have v1 : ∀ {v : CV} {x : Value}, okV1 0 v = true → (ow = true → noSlV1 v = true) → RelV1 w' (retEnv w w' (seeS ow W0 S0 φ γ st w) ret.toks.length γn) v x → RelV1 w' (envOf W0 S0 φ γ st w') v x ∧ renV1 d (tlen st.tk d) v = v := by
        intro v x hok hns h
        cases v <;> first | (cases hok; done) | skip
        case one c =>
          have := cell (c := c) hok hns h
          exact ⟨this.1, by simp only [renV1, this.2]⟩
        case agg cs =>
          obtain ⟨xs, rfl, hl⟩ := h
          have key : ∀ (j : Nat) (c : Cell) (x : Value), cs[j]? = some c → xs[j]? = some x → _ := fun j c x hc hx' => cell (List.all_eq_true.1 hok c (List.mem_of_getElem? hc)) (fun e => List.all_eq_true.1 (hns e) c (List.mem_of_getElem? hc)) (hl.2 j c x hc hx')
          refine ⟨⟨xs, rfl, hl.1, fun j c x hc hx' => (key j c x hc hx').1⟩, ?_⟩
          simp only [renV1, CV.agg.injEq]
          apply List.ext_getElem?
          intro j
          rw [List.getElem?_map]
          cases hc : cs[j]? with
          | none => rfl
          | some c =>
            have hj : j < xs.length := by rw [← hl.1]; exact (List.getElem?_eq_some_iff.1 hc).1
            simp [(key j c _ hc (List.getElem?_eq_getElem hj)).2]
      have hns : ow = true → noSlV ret.cv = true := fun e => by have := how e; simp only [noSlR, Bool.and_eq_true] at this; exact this.1
      have hval := hrel.val
      have fin : RelV w' (envOf W0 S0 φ γ st w') ret.cv u ∧ renV d (tlen st.tk d) ret.cv = ret.cv := by
        generalize ret.cv = v at hokV hns hval
        cases v with
        | tup ws =>
          obtain ⟨xs, rfl, hl, hr⟩ := hval
          have key : ∀ (j : Nat) (c : CV) (x : Value), ws[j]? = some c → xs[j]? = some x → _ := fun j c x hc hx' => v1 (List.all_eq_true.1 hokV c (List.mem_of_getElem? hc)) (fun e => List.all_eq_true.1 (hns e) c (List.mem_of_getElem? hc)) (hr j c x hc hx')
          refine ⟨⟨xs, rfl, hl, fun j c x hc hx' => (key j c x hc hx').1⟩, ?_⟩
          simp only [renV, CV.tup.injEq]
          apply List.ext_getElem?
          intro j
          rw [List.getElem?_map]
          cases hc : ws[j]? with
          | none => rfl
          | some c =>
            have hj : j < xs.length := by rw [← hl]; exact (List.getElem?_eq_some_iff.1 hc).1
            simp [(key j c _ hc (List.getElem?_eq_getElem hj)).2]
        | un => exact ⟨hval, rfl⟩
        | one c => exact v1 (v := .one c) hokV hns hval
        | agg cs => exact v1 (v := .agg cs) hokV hns hval
        | _ => cases hokV
      cases pt
      · exact fin.1
      · simp only [cond_true]; rw [fin.2]; exact fin.1
    | cons t0 ts0 =>
      have hptt : pt = true := by
        cases pt with
        | true => rfl
        | false => have := hpt rfl; rw [htk] at this; simp at this
      subst hptt
      obtain ⟨hdst, hdlt⟩ := hd rfl
      have htokns : ∀ t ∈ ret.toks, ow = true → t.cs.all flatC = true := fun t ht e => by
        have := how e
        simp only [noSlR, Bool.and_eq_true] at this
        exact List.all_eq_true.1 this.2 t ht
      obtain ⟨hm, hle, hFx⟩ := hR.mem.newToks hrel.bel hdlt (ts := ret.toks) γn (st.tm.set d (renV d (tlen st.tk d) ret.cv))
        (fun j t hj => by
          obtain ⟨xs, h1, h2⟩ := hrel.toks j t hj
          refine ⟨xs, h1, h2.1, fun i c x hc hx' => conv (fun e => ?_) (fun b hb => hb) (h2.2 i c x hc hx')⟩
          have := List.all_eq_true.1 (htokns t (List.mem_of_getElem? hj) e) c (List.mem_of_getElem? hc)
          cases c <;> first | rfl | (cases this; done))
        (fun j t j' t' b h1 h2 h3 h4 => hrel.dis j j' b (List.getElem?_eq_some_iff.1 h1).1 (List.getElem?_eq_some_iff.1 h2).1 h3 h4)
      refine hK φ (fun d' k' => if d' = d ∧ tlen st.tk d ≤ k' then γn (k' - tlen st.tk d) else γ d' k') u w' ?_
      rw [hdst]
      have hsame : applyR (some d) st { val := bif true then renV d (tlen st.tk d) ret.cv else ret.cv, pt := ret.toks } = { tm := st.tm.set d (renV d (tlen st.tk d) ret.cv), bx := st.bx, tk := tpush st.tk d ret.toks } := by
        unfold applyR
        rw [htk]
        rfl
      refine hR.put (some d) { val := bif true then renV d (tlen st.tk d) ret.cv else ret.cv, pt := ret.toks } u (by rw [hsame]; exact hm) (by rw [hsame]; exact hle) fun d' hd' => ?_
      rw [hsame]
      simp only [cond_true]
      have hT : ∀ k, k < ret.toks.length → (envOf W0 S0 φ (fun d' k' => if d' = d ∧ tlen st.tk d ≤ k' then γn (k' - tlen st.tk d) else γ d' k') { tm := st.tm.set d (renV d (tlen st.tk d) ret.cv), bx := st.bx, tk := tpush st.tk d ret.toks } w').T d (tlen st.tk d + k) ∧
          (envOf W0 S0 φ (fun d' k' => if d' = d ∧ tlen st.tk d ≤ k' then γn (k' - tlen st.tk d) else γ d' k') { tm := st.tm.set d (renV d (tlen st.tk d) ret.cv), bx := st.bx, tk := tpush st.tk d ret.toks } w').γ d (tlen st.tk d + k) = γn k := by
        intro k hk
        refine ⟨⟨ret.toks[k], ?_⟩, ?_⟩
        · show tat (tpush st.tk d ret.toks) d (tlen st.tk d + k) = _
          rw [tat_push hdlt, if_pos ⟨rfl, by omega⟩, Nat.add_sub_cancel_left, List.getElem?_eq_getElem hk]
        · show (if d = d ∧ tlen st.tk d ≤ tlen st.tk d + k then γn (tlen st.tk d + k - tlen st.tk d) else _) = _
          rw [if_pos ⟨rfl, by omega⟩, Nat.add_sub_cancel_left]
      have cell : ∀ {c : Cell} {x : Value}, okC ret.toks.length c = true → (ow = true → noSl c = true) → RelC1 w' (retEnv w w' (seeS ow W0 S0 φ γ st w) ret.toks.length γn) c x → RelC1 w' (envOf W0 S0 φ (fun d' k' => if d' = d ∧ tlen st.tk d ≤ k' then γn (k' - tlen st.tk d) else γ d' k') { tm := st.tm.set d (renV d (tlen st.tk d) ret.cv), bx := st.bx, tk := tpush st.tk d ret.toks } w') (renC d (tlen st.tk d) c) x := by
        intro c x hok hns h
        cases c with
        | own d0 k =>
          simp only [okC, Bool.and_eq_true, beq_iff_eq, decide_eq_true_eq] at hok
          obtain ⟨rfl, hk⟩ := hok
          exact ⟨(hT k hk).1, by rw [(hT k hk).2]; exact h.2.1, h.2.2⟩
        | v y => exact (conv (c := .v y) hns (fun b hb => hFx b hb.1 hb.2.1 hb.2.2) h).to1
        | sl m cs => exact (conv (c := .sl m cs) hns (fun b hb => hFx b hb.1 hb.2.1 hb.2.2) h).to1
        | dead => exact (conv (c := .dead) hns (fun b hb => hFx b hb.1 hb.2.1 hb.2.2) h).to1
      have v1 : ∀ {v : CV} {x : Value}, okV1 ret.toks.length v = true → (ow = true → noSlV1 v = true) → RelV1 w' (retEnv w w' (seeS ow W0 S0 φ γ st w) ret.toks.length γn) v x → RelV1 w' (envOf W0 S0 φ (fun d' k' => if d' = d ∧ tlen st.tk d ≤ k' then γn (k' - tlen st.tk d) else γ d' k') { tm := st.tm.set d (renV d (tlen st.tk d) ret.cv), bx := st.bx, tk := tpush st.tk d ret.toks } w') (renV1 d (tlen st.tk d) v) x := by
        intro v x hok hns h
        cases v <;> first | (cases hok; done) | skip
        case one c => exact cell (c := c) hok hns h
        case agg cs =>
          obtain ⟨xs, rfl, hl⟩ := h
          refine ⟨xs, rfl, by simpa using hl.1, fun j c x hc hx' => ?_⟩
          rw [List.getElem?_map, Option.map_eq_some_iff] at hc
          obtain ⟨c0, hc0, rfl⟩ := hc
          exact cell (List.all_eq_true.1 hok c0 (List.mem_of_getElem? hc0)) (fun e => List.all_eq_true.1 (hns e) c0 (List.mem_of_getElem? hc0)) (hl.2 j c0 x hc0 hx')
      have hns : ow = true → noSlV ret.cv = true := fun e => by have := how e; simp only [noSlR, Bool.and_eq_true] at this; exact this.1
      have hval := hrel.val
      generalize ret.cv = v at hokV hns hval v1 cell hT ⊢
      cases v with
      | tup ws =>
        obtain ⟨xs, rfl, hl, hr⟩ := hval
        refine ⟨xs, rfl, by simpa using hl, fun j c x hc hx' => ?_⟩
        rw [List.getElem?_map, Option.map_eq_some_iff] at hc
        obtain ⟨c0, hc0, rfl⟩ := hc
        exact v1 (List.all_eq_true.1 hokV c0 (List.mem_of_getElem? hc0)) (fun e => List.all_eq_true.1 (hns e) c0 (List.mem_of_getElem? hc0)) (hr j c0 x hc0 hx')
      | un => exact hval
      | one c => exact v1 (v := .one c) hokV hns hval
      | agg cs => exact v1 (v := .agg cs) hokV hns hval
      | _ => cases hokV
  · cases hev

end
end Go.Proofs.YtlfojobligplkaaDoor.Mt
