import Derived.Test.YtgmciihlmgeecaaMtSwap3
/- A region does what the evaluator says, in the text's order and in every other one that it may be drawn in. Conditions: those that each lemma names. -/
namespace Go.Proofs.Ytgmciihlmgeecaa.Mt
open Go Go.RowKit
section
variable {P : Program} {W0 : Base} {S0 : Nat → Prop} {φ : Nat → Nat → Nat} {γ : Nat → Nat → Value} {st st' : St} {a : Act} {w w' : World} {C : Ctx} {A : Alias}

theorem Rep.scoped (hR : Rep W0 S0 φ γ st a w) (o : SOper) : Scoped o st := by
  intro s _
  have h := hR.getT s
  refine ⟨fun i k off e => ?_, fun d k e => ?_⟩
  · rw [e] at h; exact h.1
  · rcases e with e | ⟨off, e⟩ | ⟨cs, e, hm⟩
    · rw [e] at h
      exact (show RelC1 w (envOf W0 S0 φ γ st w) (.own d k) _ from h).1
    · rw [e] at h; exact h.1
    · rw [e] at h
      obtain ⟨us, _, hl⟩ := (show RelV1 w (envOf W0 S0 φ γ st w) (.agg cs) _ from h)
      obtain ⟨j, hj⟩ := List.getElem?_of_mem hm
      have hlt : j < us.length := by rw [← hl.1]; exact (List.getElem?_eq_some_iff.1 hj).1
      exact (hl.2 j _ _ hj (List.getElem?_eq_getElem hlt)).1

theorem ccOpers_at {H : Hints} {ops : Array Oper} : ∀ {rest : List Oper} {el : List Tmp} {ss : List SOper}, ccOpers P H ops el rest = some ss → ss.length = rest.length ∧ ∀ (i : Nat) (o : Oper), rest[i]? = some o → ∃ el' so g, ss[i]? = some ⟨o.dst, so, g⟩ ∧ ccOp P H el' o = some so ∧ ccGuard ops o.guard = some g
  | [], el, ss, h => by
    simp only [ccOpers, Option.some.injEq] at h
    subst h
    exact ⟨rfl, fun i o h => by simp at h⟩
  | o :: rest, el, ss, h => by
    simp only [ccOpers, Option.bind_eq_some_iff, Option.map_eq_some_iff] at h
    obtain ⟨so, hso, g, hg, ss', hss, rfl⟩ := h
    obtain ⟨h1, h2⟩ := ccOpers_at hss
    refine ⟨by simp [h1], fun i o' hi => ?_⟩
    cases i with
    | zero => simp only [List.getElem?_cons_zero, Option.some.injEq] at hi; subst hi; exact ⟨el, so, g, rfl, hso, hg⟩
    | succ i => exact h2 i o' hi

def pickS (sops : List SOper) (R : List Nat) : List SOper := R.filterMap (sops[·]?)

theorem pick_range' : ∀ (l pre : List SOper), (List.range' pre.length l.length).filterMap ((pre ++ l)[·]?) = l
  | [], _ => rfl
  | x :: l, pre => by
    rw [List.length_cons, List.range'_succ, List.filterMap_cons]
    have e : (pre ++ x :: l)[pre.length]? = some x := by simp
    simp only [e]
    have := pick_range' l (pre ++ [x])
    rw [List.length_append, List.length_singleton, List.append_assoc, List.singleton_append] at this
    rw [this]

theorem pick_all (sops : List SOper) : pickS sops (List.range sops.length) = sops := by
  have := pick_range' sops []
  rw [List.range_eq_range']
  exact this

/-- Slot 0 is as it was (where that is asked). -/
def Slot0 (v0 : Option Value) (a : Act) : Prop := ∀ v, v0 = some v → a.tmps[0]? = some v
def off0 (v0 : Option Value) (dst : Option Nat) : Prop := v0.isSome = true → dst ≠ some 0

theorem Slot0.put {v0 : Option Value} {a : Act} (h : Slot0 v0 a) {dst : Option Nat} (hd : off0 v0 dst) (u : Value) : Slot0 v0 (a.put dst u) := by
  intro v hv
  cases dst with
  | none => exact h v hv
  | some d =>
    have hne : d ≠ 0 := fun e => hd (by rw [hv]; rfl) (by rw [e])
    show (a.tmps.setIfInBounds d u)[0]? = some v
    rw [Array.getElem?_setIfInBounds_ne hne]
    exact h v hv

/-- The text's order. -/
theorem list_wp (hC : CtxOk P C) {H : Hints} {ops : Array Oper} {sops : List SOper} (hcc : ccOpers P H ops [] ops.toList = some sops) {Q : Exit → Act → World → Prop} {v0 : Option Value} (h0 : ∀ so ∈ sops, off0 v0 so.dst) :
    ∀ (R : List Nat) (st s : St) (φ : Nat → Nat → Nat) (γ : Nat → Nat → Value) (a : Act) (w : World), evOps C (pickS sops R) st = some s → Rep W0 S0 φ γ st a w → Sz st → Slot0 v0 a → (∀ φ' γ' a' w', Rep W0 S0 φ' γ' s a' w' → Slot0 v0 a' → Q .normal a' w') → wpOps P ops Q R a w
  | [], st, s, φ, γ, a, w, h, hR, _, hz, hQ => by
    simp only [pickS, List.filterMap_nil, evOps, Option.some.injEq] at h
    subst h
    exact hQ φ γ a w hR hz
  | i :: R, st, s, φ, γ, a, w, h, hR, hs, hz, hQ => by
    rw [wpOps_cons]
    cases hi : ops[i]? with
    | none =>
      have hi' : sops[i]? = none := by
        rw [List.getElem?_eq_none_iff, (ccOpers_at hcc).1, Array.length_toList]
        exact Array.getElem?_eq_none_iff.1 hi
      unfold wpOp
      rw [hi]
      refine list_wp hC hcc h0 R st s φ γ a w ?_ hR hs hz hQ
      simpa only [pickS, List.filterMap_cons, hi'] using h
    | some o =>
      obtain ⟨el, so, g, h1, h2, h3⟩ := (ccOpers_at hcc).2 i o (by rw [← hi]; simp)
      simp only [pickS, List.filterMap_cons, h1, evOps, Option.bind_eq_some_iff] at h
      obtain ⟨s1, h4, h5⟩ := h
      exact step_wp hC hi h2 h3 hR hs h4 fun φ' γ' u w' hR' => list_wp hC hcc h0 R s1 s φ' γ' _ w' h5 hR' (step_sz hs h4).1 (hz.put (h0 _ (List.mem_of_getElem? h1)) u) hQ

/-! ### What is waited for -/

theorem upB_bit {B : List Nat} {x : Nat} : ∀ {ns : List Nat}, (upB B ns).testBit x = true → ∃ n ∈ ns, x = n ∨ (B.getD n 0).testBit x = true
  | [], h => by simp [upB] at h
  | n :: ns, h => by
    simp only [upB, Nat.testBit_or, Bool.or_eq_true, Nat.testBit_two_pow, decide_eq_true_eq] at h
    rcases h with (h | h) | h
    · exact ⟨n, by simp, .inl h.symm⟩
    · exact ⟨n, by simp, .inr h⟩
    · obtain ⟨m, h1, h2⟩ := upB_bit h
      exact ⟨m, by simp [h1], h2⟩

theorem waits_at : ∀ (l : List Oper) (acc : List Nat), (∃ t, waits l acc = acc ++ t) ∧ ∀ (y : Nat) (o : Oper), l[y]? = some o → (waits l acc).getD (acc.length + y) 0 = upB ((waits l acc).take (acc.length + y)) (depsOf o)
  | [], acc => ⟨⟨[], by simp [waits]⟩, fun y o h => by simp at h⟩
  | o :: l, acc => by
    have ih := waits_at l (acc ++ [upB acc (depsOf o)])
    have e : waits (o :: l) acc = waits l (acc ++ [upB acc (depsOf o)]) := rfl
    obtain ⟨⟨t, ht⟩, h2⟩ := ih
    rw [e]
    refine ⟨⟨[upB acc (depsOf o)] ++ t, by rw [ht, List.append_assoc]⟩, fun y o' hy => ?_⟩
    cases y with
    | zero =>
      simp only [List.getElem?_cons_zero, Option.some.injEq] at hy
      subst hy
      rw [ht]
      simp [List.getD_eq_getElem?_getD]
    | succ y =>
      have := h2 y o' (by simpa using hy)
      rw [List.length_append, List.length_singleton] at this
      rw [show acc.length + (y + 1) = acc.length + 1 + y by omega]
      exact this

/-- Nothing that is waited for is left, if nothing that is waited for directly is. -/
theorem needs {ops : List Oper} (hd : ∀ (i : Nat) (o : Oper), ops[i]? = some o → ∀ n ∈ depsOf o, n < i) {R : Nat → Prop} (hc : ∀ (i : Nat) (o : Oper), ops[i]? = some o → ¬ R i → ∀ n ∈ depsOf o, ¬ R n) (x : Nat) :
    ∀ (y : Nat) (o : Oper), ops[y]? = some o → (∀ n ∈ depsOf o, ¬ R n) → ((waits ops []).getD y 0).testBit x = true → ¬ R x := by
  intro y
  induction y using Nat.strongRecOn with
  | _ y ih =>
    intro o hy hn hb
    have h := (waits_at ops []).2 y o hy
    simp only [List.length_nil, Nat.zero_add] at h
    rw [h] at hb
    obtain ⟨n, h1, h2⟩ := upB_bit hb
    rcases h2 with rfl | h2
    · exact hn x h1
    · have hlt := hd y o hy n h1
      have hylt := (List.getElem?_eq_some_iff.1 hy).1
      have e : ((waits ops []).take y).getD n 0 = (waits ops []).getD n 0 := by
        simp only [List.getD_eq_getElem?_getD]
        rw [List.getElem?_take, if_pos hlt]
      rw [e] at h2
      have hno : ops[n]? = some ops[n] := List.getElem?_eq_getElem (by omega)
      exact ih n hlt ops[n] hno (hc n _ hno (hn n h1)) h2

structure Free (P : Program) (H : Hints) (A : Alias) (ops : Array Oper) (sops : List SOper) : Prop where
  cc : ccOpers P H ops [] ops.toList = some sops
  dep : ∀ (i : Nat) (o : Oper), ops.toList[i]? = some o → ∀ n ∈ depsOf o, n < i
  ord : ∀ (x y : Nat) (sx sy : SOper), x < y → sops[x]? = some sx → sops[y]? = some sy → ((waits ops.toList []).getD y 0).testBit x = true ∨ freeS A sx sy = true
  ali : ∀ so ∈ sops, aliasOp A so = true

theorem zip_all {α : Type} {l : List α} {f : α × Nat → Bool} (h : l.zipIdx.all f = true) {i : Nat} {x : α} (hi : l[i]? = some x) : f (x, i) = true := by
  refine List.all_eq_true.1 h (x, i) ?_
  have : l.zipIdx[i]? = some (x, i) := by rw [List.getElem?_zipIdx, hi]; simp
  exact List.mem_of_getElem? this

theorem Free.of {H : Hints} {ops : Array Oper} {sops : List SOper} (hcc : ccOpers P H ops [] ops.toList = some sops) (ho : orderOk A ops.toList sops = true) (ha : sops.all (aliasOp A) = true) : Free P H A ops sops := by
  simp only [orderOk, Bool.and_eq_true] at ho
  refine ⟨hcc, fun i o hi n hn => ?_, fun x y sx sy hlt hx hy => ?_, fun so hso => List.all_eq_true.1 ha so hso⟩
  · have := zip_all ho.1 hi
    simpa using List.all_eq_true.1 this n hn
  · have h1 := zip_all ho.2 hy
    have h2 := zip_all (l := sops.take y) h1 (i := x) (x := sx) (by rw [List.getElem?_take, if_pos hlt]; exact hx)
    simpa using h2

theorem mem_deps {o : Oper} {n : Nat} : n ∈ depsOf o ↔ ∃ e ∈ o.after, Region.binds .any e = true ∧ e.on = n := by
  simp only [depsOf, List.mem_map, List.mem_filter, Array.mem_toList_iff, and_assoc]

/-- Every order that the region may be drawn in. -/
theorem any_wp (hC : CtxOk P C) {H : Hints} {ops : Array Oper} {sops : List SOper} (hF : Free P H A ops sops) {Q : Exit → Act → World → Prop} {v0 : Option Value} (h0 : ∀ so ∈ sops, off0 v0 so.dst) :
    ∀ (fuel : Nat) (R : List Nat) (listed : Array Bool) (st s : St) (φ : Nat → Nat → Nat) (γ : Nat → Nat → Value) (a : Act) (w : World), R.length = fuel → R.Pairwise (· < ·) → (∀ j, j ∈ R ↔ j < ops.size ∧ listed.getD j true = false) → listed.size = ops.size →
      (∀ (i : Nat) (o : Oper), ops.toList[i]? = some o → ¬ i ∈ R → ∀ n ∈ depsOf o, ¬ n ∈ R) → evOps C (pickS sops R) st = some s → Rep W0 S0 φ γ st a w → Sz st → AInv A st → Slot0 v0 a → (∀ φ' γ' a' w', Rep W0 S0 φ' γ' s a' w' → Slot0 v0 a' → Q .normal a' w') →
      wpAny P .any ops Q fuel listed a w := by
  intro fuel
  induction fuel with
  | zero =>
    intro R listed st s φ γ a w hl _ hm _ _ hev hR _ _ hz hQ
    have hR0 : R = [] := List.eq_nil_of_length_eq_zero hl
    subst hR0
    refine ⟨?_, ?_⟩
    · apply List.eq_nil_iff_forall_not_mem.2
      intro j hj
      obtain ⟨h1, o, h2, _⟩ := mem_ready.1 hj
      exact absurd ((hm j).2 ⟨(Array.getElem?_eq_some_iff.1 h2).1, h1⟩) (by simp)
    · simp only [pickS, List.filterMap_nil, evOps, Option.some.injEq] at hev
      subst hev
      exact hQ φ γ a w hR hz
  | succ fuel ih =>
    intro R listed st s φ γ a w hl hp hm hsz hc hev hR hs hA hz hQ
    have inR : ∀ n, n < ops.size → (listed.getD n false = true ↔ ¬ n ∈ R) := by
      intro n hn
      rw [hm n]
      have hn' : n < listed.size := by omega
      rw [Array.getD_eq_getD_getElem?, Array.getD_eq_getD_getElem?, Array.getElem?_eq_getElem hn', Option.getD_some, Option.getD_some]
      simp [hn]
    refine ⟨fun h0 => ?_, fun i hi => ?_⟩
    · cases R with
      | nil => simp at hl
      | cons r R =>
        exfalso
        have hr := (hm r).1 (by simp)
        have : r ∈ Region.ready .any ops listed := by
          rw [mem_ready]
          refine ⟨hr.2, ops[r], Array.getElem?_eq_getElem hr.1, fun e he hb => ?_⟩
          have hlt := hF.dep r ops[r] (by simp [hr.1]) e.on (mem_deps.2 ⟨e, he, hb, rfl⟩)
          rw [inR e.on (Nat.lt_trans hlt hr.1)]
          intro hmem
          rw [List.pairwise_cons] at hp
          rcases List.mem_cons.1 hmem with h | h
          · omega
          · have := hp.1 _ h; omega
        rw [h0] at this
        cases this
    · obtain ⟨h1, o, h2, h3⟩ := mem_ready.1 hi
      have hlt := (Array.getElem?_eq_some_iff.1 h2).1
      have hmem := (hm i).2 ⟨hlt, h1⟩
      obtain ⟨pre, post, rfl⟩ := List.append_of_mem hmem
      have h2' : ops.toList[i]? = some o := by rw [← h2]; simp
      obtain ⟨el, so, g, e1, e2, e3⟩ := (ccOpers_at hF.cc).2 i o h2'
      have hdeps : ∀ n ∈ depsOf o, ¬ n ∈ pre ++ i :: post := by
        intro n hn
        obtain ⟨e, he, hb, rfl⟩ := mem_deps.1 hn
        have hlt' := hF.dep i o h2' e.on (mem_deps.2 ⟨e, he, hb, rfl⟩)
        exact (inR e.on (Nat.lt_trans hlt' hlt)).1 (h3 e he hb)
      have hpp := List.pairwise_append.1 hp
      have hpre : ∀ x ∈ pre, x < i := fun x hx => hpp.2.2 x hx i (by simp)
      have hpost : ∀ x ∈ post, i < x := fun x hx => (List.pairwise_cons.1 hpp.2.1).1 x hx
      have hpick : pickS sops (pre ++ i :: post) = pickS sops pre ++ [⟨o.dst, so, g⟩] ++ pickS sops post := by
        simp [pickS, List.filterMap_append, e1]
      rw [hpick, evOps_append, Option.bind_eq_some_iff] at hev
      obtain ⟨s', hv1, hv2⟩ := hev
      obtain ⟨s1, hst1, hv3⟩ := bubble (pickS sops pre) st s' (fun x hx => by
        simp only [pickS, List.mem_filterMap] at hx
        obtain ⟨j, hj, hxj⟩ := hx
        refine ⟨?_, hF.ali x (List.mem_of_getElem? hxj)⟩
        rcases hF.ord j i x ⟨o.dst, so, g⟩ (hpre j hj) hxj e1 with hb | hb
        · exact absurd (show j ∈ pre ++ i :: post by simp [hj]) (needs hF.dep (R := fun n => n ∈ pre ++ i :: post) hc j i o h2' hdeps hb)
        · exact hb) hs hA (hR.scoped _) hv1
      have hali : aliasOp A ⟨o.dst, so, g⟩ = true := hF.ali _ (List.mem_of_getElem? e1)
      refine step_wp hC h2 e2 e3 hR hs hst1 fun φ' γ' u w' hR' => ?_
      refine ih (pre ++ post) (listed.setIfInBounds i true) s1 s φ' γ' _ w' (by simp at hl ⊢; omega) ?_ (fun j => ?_) (by simp [hsz]) (fun j oj hj hnj n hn hmem' => ?_) ?_ hR' (step_sz hs hst1).1 (step_alias hali hA hst1) (hz.put (h0 _ (List.mem_of_getElem? e1)) u) hQ
      · exact List.pairwise_append.2 ⟨hpp.1, (List.pairwise_cons.1 hpp.2.1).2, fun x hx y hy => hpp.2.2 x hx y (by simp [hy])⟩
      · by_cases e : j = i
        · subst e
          have hlt2 : j < listed.size := by omega
          constructor
          · intro hj
            rcases List.mem_append.1 hj with h | h
            · have := hpre j h; omega
            · have := hpost j h; omega
          · intro hj
            rw [Array.getD_eq_getD_getElem?, Array.getElem?_setIfInBounds_self_of_lt hlt2] at hj
            simp at hj
        · rw [getD_set_ne true (Ne.symm e), ← hm j]
          simp [e]
      · by_cases e : j = i
        · subst e
          rw [h2'] at hj
          simp only [Option.some.injEq] at hj
          subst hj
          refine hdeps n hn ?_
          rcases List.mem_append.1 hmem' with h | h <;> simp [h]
        · refine hc j oj hj (fun hh => hnj ?_) n hn ?_
          · rcases List.mem_append.1 hh with h | h
            · simp [h]
            · rcases List.mem_cons.1 h with h | h
              · exact absurd h e
              · simp [h]
          · rcases List.mem_append.1 hmem' with h | h <;> simp [h]
      · have : pickS sops (pre ++ post) = pickS sops pre ++ pickS sops post := by simp [pickS, List.filterMap_append]
        rw [this, evOps_append, hv3]
        exact hv2

theorem Rep.drawn (h : Rep W0 S0 φ γ st a w) : Rep W0 S0 φ γ st a { w with drawn := w.drawn + 1 } := by
  have hb : Below w.heap.size w { w with drawn := w.drawn + 1 } := ⟨rfl, rfl, rfl, Nat.le_refl _, fun _ _ => rfl⟩
  obtain ⟨hm, hle⟩ := h.mem.grow hb
  exact ⟨hm, h.dfr, h.siz, fun i c u hc hu => (h.tms i c u hc hu).mono hle⟩

theorem evOps_keep : ∀ (l : List SOper) (st s : St), (∀ o ∈ l, aliasOp A o = true) → Sz st → AInv A st → evOps C l st = some s → Sz s ∧ AInv A s ∧ s.tm.length = st.tm.length
  | [], st, s, _, hs, hA, h => by
    simp only [evOps, Option.some.injEq] at h
    subst h
    exact ⟨hs, hA, rfl⟩
  | o :: l, st, s, ha, hs, hA, h => by
    simp only [evOps, Option.bind_eq_some_iff] at h
    obtain ⟨s1, h1, h2⟩ := h
    obtain ⟨g1, g2⟩ := step_sz hs h1
    obtain ⟨k1, k2, k3⟩ := evOps_keep l s1 s (fun o ho => ha o (by simp [ho])) g1 (step_alias (ha o (by simp)) hA h1) h2
    exact ⟨k1, k2, k3.trans g2⟩

/-- A region. -/
theorem region_wp (hm : P.follows .mixedOrders = true) (hC : CtxOk P C) {H : Hints} {id : Nat} {ops : Array Oper} {draw : Bool} {sops : List SOper} (hcc : ccOpers P H ops [] ops.toList = some sops) (ho : draw = true → orderOk A ops.toList sops = true) (ha : sops.all (aliasOp A) = true)
    {Q : Exit → Act → World → Prop} {s : St} (hev : evOps C sops st = some s) (hR : Rep W0 S0 φ γ st a w) (hs : Sz st) (hA : AInv A st) {v0 : Option Value} (h0 : ∀ so ∈ sops, off0 v0 so.dst) (hz : Slot0 v0 a) (hQ : ∀ φ' γ' a' w', Rep W0 S0 φ' γ' s a' w' → Slot0 v0 a' → Q .normal a' w') : (Code.region id ops draw).wp P Q a w := by
  have hlen : sops.length = ops.size := by rw [(ccOpers_at hcc).1, Array.length_toList]
  have hall := pick_all sops
  rw [hlen] at hall
  cases draw with
  | false =>
    exact wp_region (list_wp hC hcc h0 (List.range ops.size) st s φ γ a w (by rw [hall]; exact hev) hR hs hz hQ)
  | true =>
    refine wp_region_any hm (any_wp hC (Free.of hcc (ho rfl) ha) h0 ops.size (List.range ops.size) _ st s φ γ a _ (by simp) List.pairwise_lt_range (fun j => ?_) (by simp) (fun i o hi hni => ?_) (by rw [hall]; exact hev) hR.drawn hs hA hz hQ)
    · rw [List.mem_range]
      refine ⟨fun h => ⟨h, by simp [h]⟩, fun h => h.1⟩
    · exact absurd (List.mem_range.2 (by have := (List.getElem?_eq_some_iff.1 hi).1; simpa using this)) hni

end
end Go.Proofs.Ytgmciihlmgeecaa.Mt
