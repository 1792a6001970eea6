import Derived.Test.YtlfojobligplkaaDoorMtSwap3
/- A region does what the evaluator says, in the text's order and in every other one that it may be drawn in. Conditions: those that each lemma names. -/
namespace Go.Proofs.YtlfojobligplkaaDoor.Mt
open Go Go.RowKit
section
variable {P : Program} {W0 : Base} {S0 : Nat → Prop} {φ : Nat → Nat → Nat} {γ : Nat → Nat → Value} {st st' : St} {a : Act} {w w' : World} {C : Ctx} {A : Alias}

theorem Rep.scoped (hR : Rep W0 S0 φ γ st a w) (o : SOper) : Scoped o st := by
  intro s _
  have h := hR.getT s
  refine ⟨fun i k off e => ?_, fun d k e => ?_⟩
  · rw [e] at h; exact h.1
  · rcases e with e | ⟨off, e⟩ | ⟨cs, e, hm⟩
    · rw [e] at h
      exact (show RelC1 w (envOf W0 S0 φ γ st w) (.own d k) _ from h).1
    · rw [e] at h; exact h.1
    · rw [e] at h
      obtain ⟨us, _, hl⟩ := (show RelV1 w (envOf W0 S0 φ γ st w) (.agg cs) _ from h)
      obtain ⟨j, hj⟩ := List.getElem?_of_mem hm
      have hlt : j < us.length := by rw [← hl.1]; exact (List.getElem?_eq_some_iff.1 hj).1
      exact (hl.2 j _ _ hj (List.getElem?_eq_getElem hlt)).1

theorem ccOpers_at {H : Hints} {ops : Array Oper} : ∀ {rest : List Oper} {el : List Tmp} {ss : List SOper}, ccOpers P H ops el rest = some ss → ss.length = rest.length ∧ ∀ (i : Nat) (o : Oper), rest[i]? = some o → ∃ el' so g, ss[i]? = some ⟨o.dst, so, g⟩ ∧ ccOp P H el' o = some so ∧ ccGuard ops o.guard = some g
  | [], el, ss, h => by
    simp only [ccOpers, Option.some.injEq] at h
    subst h
    exact ⟨rfl, fun i o h => by simp at h⟩
  | o :: rest, el, ss, h => by
    simp only [ccOpers, Option.bind_eq_some_iff, Option.map_eq_some_iff] at h
    obtain ⟨so, hso, g, hg, ss', hss, rfl⟩ := h
    obtain ⟨h1, h2⟩ := ccOpers_at hss
    refine ⟨by simp [h1], fun i o' hi => ?_⟩
    cases i with
    | zero => simp only [List.getElem?_cons_zero, Option.some.injEq] at hi; subst hi; exact ⟨el, so, g, rfl, hso, hg⟩
    | succ i => exact h2 i o' hi

def pickS (sops : List SOper) (R : List Nat) : List SOper := R.filterMap (sops[·]?)

theorem pick_range' : ∀ (l pre : List SOper), (List.range' pre.length l.length).filterMap ((pre ++ l)[·]?) = l
  | [], _ => rfl
  | x :: l, pre => by
    rw [List.length_cons, List.range'_succ, List.filterMap_cons]
    have e : (pre ++ x :: l)[pre.length]? = some x := by simp
    simp only [e]
    have := pick_range' l (pre ++ [x])
    rw [List.length_append, List.length_singleton, List.append_assoc, List.singleton_append] at this
    rw [this]

theorem pick_all (sops : List SOper) : pickS sops (List.range sops.length) = sops := by
  have := pick_range' sops []
  rw [List.range_eq_range']
  exact this

/-- Slot 0 is as it was (where that is asked). -/
def Slot0 (v0 : Option Value) (a : Act) : Prop := ∀ v, v0 = some v → a.tmps[0]? = some v
def off0 (v0 : Option Value) (dst : Option Nat) : Prop := v0.isSome = true → dst ≠ some 0

theorem Slot0.put {v0 : Option Value} {a : Act} (h : Slot0 v0 a) {dst : Option Nat} (hd : off0 v0 dst) (u : Value) : Slot0 v0 (a.put dst u) := by
  intro v hv
  cases dst with
  | none => exact h v hv
  | some d =>
    have hne : d ≠ 0 := fun e => hd (by rw [hv]; rfl) (by rw [e])
    show (a.tmps.setIfInBounds d u)[0]? = some v
    rw [Array.getElem?_setIfInBounds_ne hne]
    exact h v hv

/-- The text's order. -/
theorem list_wp (hC : CtxOk P C) {H : Hints} {ops : Array Oper} {sops : List SOper} (hcc : ccOpers P H ops [] ops.toList = some sops) {Q : Exit → Act → World → Prop} {v0 : Option Value} (h0 : ∀ so ∈ sops, off0 v0 so.dst) :
    ∀ (R : List Nat) (st s : St) (φ : Nat → Nat → Nat) (γ : Nat → Nat → Value) (a : Act) (w : World), evOps C (pickS sops R) st = some s → Rep W0 S0 φ γ st a w → Sz st → Slot0 v0 a → (∀ φ' γ' a' w', Rep W0 S0 φ' γ' s a' w' → Slot0 v0 a' → Q .normal a' w') → wpOps P ops Q R a w
  | [], st, s, φ, γ, a, w, h, hR, _, hz, hQ => by
    simp only [pickS, List.filterMap_nil, evOps, Option.some.injEq] at h
    subst h
    exact hQ φ γ a w hR hz
  | i :: R, st, s, φ, γ, a, w, h, hR, hs, hz, hQ => by
    rw [wpOps_cons]
    cases hi : ops[i]? with
    | none =>
      have hi' : sops[i]? = none := by
        rw [List.getElem?_eq_none_iff, (ccOpers_at hcc).1, Array.length_toList]
        exact Array.getElem?_eq_none_iff.1 hi
      unfold wpOp
      rw [hi]
      refine list_wp hC hcc h0 R st s φ γ a w ?_ hR hs hz hQ
      simpa only [pickS, List.filterMap_cons, hi'] using h
    | some o =>
      obtain ⟨el, so, g, h1, h2, h3⟩ := (ccOpers_at hcc).2 i o (by rw [← hi]; simp)
      simp only [pickS, List.filterMap_cons, h1, evOps, Option.bind_eq_some_iff] at h
      obtain ⟨s1, h4, h5⟩ := h
      exact step_wp hC hi h2 h3 hR hs h4 fun φ' γ' u w' hR' => list_wp hC hcc h0 R s1 s φ' γ' _ w' h5 hR' (step_sz hs h4).1 (hz.put (h0 _ (List.mem_of_getElem? h1)) u) hQ

/-! ### What is waited for -/

theorem upB_bit {B : List Nat} {x : Nat} : ∀ {ns : List Nat}, (upB B ns).testBit x = true → ∃ n ∈ ns, x = n ∨ (B.getD n 0).testBit x = true
  | [], h => by simp [upB] at h
  | n :: ns, h => by
    simp only [upB, Nat.testBit_or, Bool.or_eq_true, Nat.testBit_two_pow, decide_eq_true_eq] at h
    rcases h with (h | h) | h
    · exact ⟨n, by simp, .inl h.symm⟩
    · exact ⟨n, by simp, .inr h⟩
    · obtain ⟨m, h1, h2⟩ := upB_bit h
      exact ⟨m, by simp [h1], h2⟩

theorem waits_at : ∀ (l : List Oper) (acc : List Nat), (∃ t, waits l acc = acc ++ t) ∧ ∀ (y : Nat) (o : Oper), l[y]? = some o → (waits l acc).getD (acc.length + y) 0 = upB ((waits l acc).take (acc.length + y)) (depsOf o)
  | [], acc => ⟨⟨[], by simp [waits]⟩, fun y o h => by simp at h⟩
  | o :: l, acc => by
    have ih := waits_at l (acc ++ [upB acc (depsOf o)])
    have e : waits (o :: l) acc = waits l (acc ++ [upB acc (depsOf o)]) := rfl
    obtain ⟨⟨t, ht⟩, h2⟩ := ih
    rw [e]
    refine ⟨⟨[upB acc (depsOf o)] ++ t, by rw [ht, List.append_assoc]⟩, fun y o' hy => ?_⟩
    cases y with
    | zero =>
      simp only [List.getElem?_cons_zero, Option.some.injEq] at hy
      subst hy
      rw [ht]
      simp [List.getD_eq_getElem?_getD]
    | succ y =>
      have := h2 y o' (by simpa using hy)
      rw [List.length_append, List.length_singleton] at this
      rw [show acc.length + (y + 1) = acc.length + 1 + y by omega]
      exact this

/-- Nothing that is waited for is left, if nothing that is waited for directly is. -/
theorem needs {ops : List Oper} (hd : ∀ (i : Nat) (o : Oper), ops[i]? = some o → ∀ n ∈ depsOf o, n < i) {R : Nat → Prop} (hc : ∀ (i : Nat) (o : Oper), ops[i]? = some o → ¬ R i → ∀ n ∈ depsOf o, ¬ R n) (x : Nat) :
    ∀ (y : Nat) (o : Oper), ops[y]? = some o → (∀ n ∈ depsOf o, ¬ R n) → ((waits ops []).getD y 0).testBit x = true → ¬ R x := by
  intro y
  induction y using Nat.strongRecOn with
  | _ y ih =>
    intro o hy hn hb
    have h := (waits_at ops []).2 y o hy
    simp only [List.length_nil, Nat.zero_add] at h
    rw [h] at hb
    obtain ⟨n, h1, h2⟩ := upB_bit hb
    rcases h2 with rfl | h2
    · exact hn x h1
    · have hlt := hd y o hy n h1
      have hylt := (List.getElem?_eq_some_iff.1 hy).1
      have e : ((waits ops []).take y).getD n 0 = (waits ops []).getD n 0 := by
        simp only [List.getD_eq_getElem?_getD]
        rw [List.getElem?_take, if_pos hlt]
      rw [e] at h2
      have hno : ops[n]? = some ops[n] := List.getElem?_eq_getElem (by omega)
      exact ih n hlt ops[n] hno (hc n _ hno (hn n h1)) h2

structure Free (P : Program) (H : Hints) (A : Alias) (ops : Array Oper) (sops : List SOper) : Prop where
  cc : ccOpers P H ops [] ops.toList = some sops
  dep : ∀ (i : Nat) (o : Oper), ops.toList[i]? = some o → ∀ n ∈ depsOf o, n < i
  ord : ∀ (x y : Nat) (sx sy : SOper), x < y → sops[x]? = some sx → sops[y]? = some sy → ((waits ops.toList []).getD y 0).testBit x = true ∨ freeS A sx sy = true
  ali : ∀ so ∈ sops, aliasOp A so = true

theorem zip_all {α : Type} {l : List α} {f : α × Nat → Bool} (h : l.zipIdx.all f = true) {i : Nat} {x : α} (hi : l[i]? = some x) : f (x, i) = true := by
  refine List.all_eq_true.1 h (x, i) ?_
  have : l.zipIdx[i]? = some (x, i) := by rw [List.getElem?_zipIdx, hi]; simp
  exact List.mem_of_getElem? this

theorem Free.of {H : Hints} {ops : Array Oper} {sops : List SOper} (hcc : ccOpers P H ops [] ops.toList = some sops) (ho : orderOk A ops.toList sops = true) (ha : sops.all (aliasOp A) = true) : Free P H A ops sops := by
  simp only [orderOk, Bool.and_eq_true] at ho
  refine ⟨hcc, fun i o hi n hn => ?_, fun x y sx sy hlt hx hy => ?_, fun so hso => List.all_eq_true.1 ha so hso⟩
  · have := zip_all ho.1 hi
    simpa using List.all_eq_true.1 this n hn
  · have h1 := zip_all ho.2 hy
    have h2 := zip_all (l := sops.take y) h1 (i := x) (x := sx) (by rw [List.getElem?_take, if_pos hlt]; exact hx)
    simpa using h2

theorem mem_deps {o : Oper} {n : Nat} : n ∈ depsOf o ↔ ∃ e ∈ o.after, Region.binds .any e = true ∧ e.on = n := by
  simp only [depsOf, List.mem_map, List.mem_filter, Array.mem_toList_iff, and_assoc]

/-- Every order that the region may be drawn in. -/
theorem any_wp (hC : CtxOk P C) {H : Hints} {ops : Array Oper} {sops : List SOper} (hF : Free P H A ops sops) {Q : Exit → Act → World → Prop} {v0 : Option Value} (h0 : ∀ so ∈ sops, off0 v0 so.dst) :
    ∀ (fuel : Nat) (R : List Nat) (listed : Array Bool) (st s : St) (φ : Nat → Nat → Nat) (γ : Nat → Nat → Value) (a : Act) (w : World), R.length = fuel → R.Pairwise (· < ·) → (∀ j, j ∈ R ↔ j < ops.size ∧ listed.getD j true = false) → listed.size = ops.size →
      (∀ (i : Nat) (o : Oper), ops.toList[i]? = some o → ¬ i ∈ R → ∀ n ∈ depsOf o, ¬ n ∈ R) → evOps C (pickS sops R) st = some s → Rep W0 S0 φ γ st a w → Sz st → AInv A st → Slot0 v0 a → (∀ φ' γ' a' w', Rep W0 S0 φ' γ' s a' w' → Slot0 v0 a' → Q .normal a' w') →
      wpAny P .any ops Q fuel listed a w := by
  intro fuel
  induction fuel with
  | zero =>
    intro R listed st s φ γ a w hl _ hm _ _ hev hR _ _ hz hQ
    have hR0 : R = [] := List.eq_nil_of_length_eq_zero hl
    subst hR0
    refine ⟨?_, ?_⟩
    · apply List.eq_nil_iff_forall_not_mem.2
      intro j hj
      obtain ⟨h1, o, h2, _⟩ := mem_ready.1 hj
      exact absurd ((hm j).2 ⟨(Array.getElem?_eq_some_iff.1 h2).1, h1⟩) (by simp)
    · simp only [pickS, List.filterMap_nil, evOps, Option.some.injEq] at hev
      subst hev
      exact hQ φ γ a w hR hz
  | succ fuel ih =>
    intro R listed st s φ γ a w hl hp hm hsz hc hev hR hs hA hz hQ
    have inR : ∀ n, n < ops.size → (listed.getD n false = true ↔ ¬ n ∈ R) := by
      intro n hn
      rw [hm n]
      have hn' : n < listed.size := by omega
      rw [Array.getD_eq_getD_getElem?, Array.getD_eq_getD_getElem?, Array.getElem?_eq_getElem hn', Option.getD_some, Option.getD_some]
      simp [hn]
    refine ⟨fun h0 => ?_, fun i hi => ?_⟩
    · cases R with
      | nil => simp at hl
      | cons r R =>
        exfalso
        have hr := (hm r).1 (by simp)
        have : r ∈ Region.ready .any ops listed := by
          rw [mem_ready]
          refine ⟨hr.2, ops[r], Array.getElem?_eq_getElem hr.1, fun e he hb => ?_⟩
          have hlt := hF.dep r ops[r] (by simp [hr.1]) e.on (mem_deps.2 ⟨e, he, hb, rfl⟩)
          rw [inR e.on (Nat.lt_trans hlt hr.1)]
          intro hmem
          rw [List.pairwise_cons] at hp
          rcases List.mem_cons.1 hmem with h | h
          · omega
          · have := hp.1 _ h; omega
        rw [h0] at this
        cases this
    · obtain ⟨h1, o, h2, h3⟩ := mem_ready.1 hi
      have hlt := (Array.getElem?_eq_some_iff.1 h2).1
      have hmem := (hm i).2 ⟨hlt, h1⟩
      obtain ⟨pre, post, rfl⟩ := List.append_of_mem hmem
      have h2' : ops.toList[i]? = some o := by rw [← h2]; simp
      obtain ⟨el, so, g, e1, e2, e3⟩ := (ccOpers_at hF.cc).2 i o h2'
      have hdeps : ∀ n ∈ depsOf o, ¬ n ∈ pre ++ i :: post := by
        intro n hn
        obtain ⟨e, he, hb, rfl⟩ := mem_deps.1 hn
        have hlt' := hF.dep i o h2' e.on (mem_deps.2 ⟨e, he, hb, rfl⟩)
        exact (inR e.on (Nat.lt_trans hlt' hlt)).1 (h3 e he hb)
      have hpp := List.pairwise_append.1 hp
      have hpre : ∀ x ∈ pre, x < i := fun x hx => hpp.2.2 x hx i (by simp)
      have hpost : ∀ x ∈ post, i < x := fun x hx => (List.pairwise_cons.1 hpp.2.1).1 x hx
      have hpick : pickS sops (pre ++ i :: post) = pickS sops pre ++ [⟨o.dst, so, g⟩] ++ pickS sops post := by
        simp [pickS, List.filterMap_append, e1]
      rw [hpick, evOps_append, Option.bind_eq_some_iff] at hev
      obtain ⟨s', hv1, hv2⟩ := hev
      obtain ⟨s1, hst1, hv3⟩ := bubble (pickS sops pre) st s' (fun x hx => by
        simp only [pickS, List.mem_filterMap] at hx
        obtain ⟨j, hj, hxj⟩ := hx
        refine ⟨?_, hF.ali x (List.mem_of_getElem? hxj)⟩
        rcases hF.ord j i x ⟨o.dst, so, g⟩ (hpre j hj) hxj e1 with hb | hb
        · exact absurd (show j ∈ pre ++ i :: post by simp [hj]) (needs hF.dep (R := fun n => n ∈ pre ++ i :: post) hc j i o h2' hdeps hb)
        · exact hb) hs hA (hR.scoped _) hv1
      have hali : aliasOp A ⟨o.dst, so, g⟩ = true := hF.ali _ (List.mem_of_getElem? e1)
      refine step_wp hC h2 e2 e3 hR hs hst1 fun φ' γ' u w' hR' => ?_
      refine ih (pre ++ post) (listed.setIfInBounds i true) s1 s φ' γ' _ w' (by simp at hl ⊢; omega) ?_ (fun j => ?_) (by simp [hsz]) (fun j oj hj hnj n hn hmem' => ?_) ?_ hR' (step_sz hs hst1).1 (step_alias hali hA hst1) (hz.put (h0 _ (List.mem_of_getElem? e1)) u) hQ
      · exact List.pairwise_append.2 ⟨hpp.1, (List.pairwise_cons.1 hpp.2.1).2, fun x hx y hy => hpp.2.2 x hx y (by simp [hy])⟩
      · by_cases e : j = i
        · subst e
          have hlt2 : j < listed.size := by omega
          constructor
          · intro hj
            rcases List.mem_append.1 hj with h | h
            · have := hpre j h; omega
            · have := hpost j h; omega
          · intro hj
            rw [Array.getD_eq_getD_getElem?, Array.getElem?_setIfInBounds_self_of_lt hlt2] at hj
            simp at hj
        · rw [getD_set_ne true (Ne.symm e), ← hm j]
          simp [e]
      · by_cases e : j = i
        · subst e
          rw [h2'] at hj
          simp only [Option.some.injEq] at hj
          subst hj
          refine hdeps n hn ?_
          rcases List.mem_append.1 hmem' with h | h <;> simp [h]
        · refine hc j oj hj (fun hh => hnj ?_) n hn ?_
          · rcases List.mem_append.1 hh with h | h
            · simp [h]
            · rcases List.mem_cons.1 h with h | h
              · exact absurd h e
              · simp [h]
          · rcases List.mem_append.1 hmem' with h | h <;> simp [h]
      · have : pickS sops (pre ++ post) = pickS sops pre ++ pickS sops post := by simp [pickS, List.filterMap_append]
        rw [this, evOps_append, hv3]
        exact hv2

theorem Rep.drawn (h : Rep W0 S0 φ γ st a w) : Rep W0 S0 φ γ st a { w with drawn := w.drawn + 1 } := by
  have hb : Below w.heap.size w { w with drawn := w.drawn + 1 } := ⟨rfl, rfl, rfl, Nat.le_refl _, fun _ _ => rfl⟩
  obtain ⟨hm, hle⟩ := h.mem.grow hb
  exact ⟨hm, h.dfr, h.siz, fun i c u hc hu => (h.tms i c u hc hu).mono hle⟩

theorem evOps_keep : ∀ (l : List SOper) (st s : St), (∀ o ∈ l, aliasOp A o = true) → Sz st → AInv A st → evOps C l st = some s → Sz s ∧ AInv A s ∧ s.tm.length = st.tm.length
  | [], st, s, _, hs, hA, h => by
    simp only [evOps, Option.some.injEq] at h
    subst h
    exact ⟨hs, hA, rfl⟩
  | o :: l, st, s, ha, hs, hA, h => by
    simp only [evOps, Option.bind_eq_some_iff] at h
    obtain ⟨s1, h1, h2⟩ := h
    obtain ⟨g1, g2⟩ := step_sz hs h1
    obtain ⟨k1, k2, k3⟩ := evOps_keep l s1 s (fun o ho => ha o (by simp [ho])) g1 (step_alias (ha o (by simp)) hA h1) h2
    exact ⟨k1, k2, k3.trans g2⟩

/-- A region. -/
theorem region_wp (hm : P.follows .mixedOrders = true) (hC : CtxOk P C) {H : Hints} {id : Nat} {ops : Array Oper} {draw : Bool} {sops : List SOper} (hcc : ccOpers P H ops [] ops.toList = some sops) (ho : draw = true → orderOk A ops.toList sops = true) (ha : sops.all (aliasOp A) = true)
    {Q : Exit → Act → World → Prop} {s : St} (hev : evOps C sops st = some s) (hR : Rep W0 S0 φ γ st a w) (hs : Sz st) (hA : AInv A st) {v0 : Option Value} (h0 : ∀ so ∈ sops, off0 v0 so.dst) (hz : Slot0 v0 a) (hQ : ∀ φ' γ' a' w', Rep W0 S0 φ' γ' s a' w' → Slot0 v0 a' → Q .normal a' w') : (Code.region id ops draw).wp P Q a w := by
  have hlen : sops.length = ops.size := by rw [(ccOpers_at hcc).1, Array.length_toList]
  have hall := pick_all sops
  rw [hlen] at hall
  cases draw with
  | false =>
    exact wp_region (list_wp hC hcc h0 (List.range ops.size) st s φ γ a w (by rw [hall]; exact hev) hR hs hz hQ)
  | true =>
    refine wp_region_any hm (any_wp hC (Free.of hcc (ho rfl) ha) h0 ops.size (List.range ops.size) _ st s φ γ a _ (by simp) List.pairwise_lt_range (fun j => ?_) (by simp) (fun i o hi hni => ?_) (by rw [hall]; exact hev) hR.drawn hs hA hz hQ)
    · rw [List.mem_range]
      refine ⟨fun h => ⟨h, by simp [h]⟩, fun h => h.1⟩
    · exact absurd (List.mem_range.2 (by have := (List.getElem?_eq_some_iff.1 hi).1; simpa using this)) hni

end
end Go.Proofs.YtlfojobligplkaaDoor.Mt

/-! The conditions that the evaluator collects are enough; loops' heads; code. Conditions: those that each lemma names. -/
namespace Go.Proofs.YtlfojobligplkaaDoor.Mt
open Go Go.RowKit
section
variable {C : CtxQ} {st st' : St}

/-! ### Conditions -/

theorem okK_asK {k : Option IntKind} {c : Cell} (h : okK k c = true) : asK k c = c := by
  cases k with
  | some k => cases c with
    | v x => cases x <;> simp only [okK, isInt] at h <;> first | (cases h; done) | (simp only [beq_iff_eq] at h; subst h; rfl)
    | _ => cases h
  | none => cases c with
    | v x => cases x <;> first | rfl | (cases h; done)
    | _ => cases h

theorem okKs_asKs {cs : List Cell} : ∀ {ks : List (Option IntKind)} {off : Nat}, okKs cs off ks = true → off + ks.length ≤ cs.length → asKs cs off ks = (cs.drop off).take ks.length
  | [], off, _, _ => by simp [asKs]
  | k :: ks, off, h, hl => by
    simp only [okKs, Bool.and_eq_true] at h
    simp only [List.length_cons] at hl
    have hlt : off < cs.length := by omega
    rw [List.drop_eq_getElem_cons hlt, List.length_cons, List.take_succ_cons, asKs, okK_asK h.1, okKs_asKs h.2 (by omega)]
    simp [List.getD_eq_getElem?_getD, List.getElem?_eq_getElem hlt]

theorem loadQ_sound {cs : List Cell} {off n : Nat} {ag : Bool} {ks : List (Option IntKind)} (h1 : ag = false → n = 1) (h : (loadQ cs off n ag ks).1 = true) : sliceC cs off n ag = some (loadQ cs off n ag ks).2 := by
  unfold loadQ at h ⊢
  unfold sliceC
  cases ag with
  | false =>
    have hn := h1 rfl
    subst hn
    have get : off + 1 ≤ cs.length → cs[off]? = some (cs.getD off .dead) := fun hh => by
      rw [List.getD_eq_getElem?_getD, List.getElem?_eq_getElem (by omega), Option.getD_some]
    have other : decide (off + 1 ≤ cs.length) = true → (if off + 1 ≤ cs.length then (bif false then some (CV.agg ((cs.drop off).take 1)) else cs[off]?.map .one) else none) = some (.one (cs.getD off .dead)) := fun hh => by
      rw [decide_eq_true_eq] at hh
      rw [if_pos hh, cond_false, get hh]; rfl
    cases ks with
    | nil => exact other h
    | cons k ks => cases ks with
      | cons k2 ks => exact other h
      | nil =>
        have h' : (decide (off + 1 ≤ cs.length) && okK k (cs.getD off .dead)) = true := h
        rw [Bool.and_eq_true] at h'
        rw [other h'.1]
        show some (CV.one (cs.getD off .dead)) = some (.one (asK k (cs.getD off .dead)))
        rw [okK_asK h'.2]
  | true =>
    simp only at h ⊢
    split at h
    · rename_i hk
      simp only [Bool.and_eq_true, decide_eq_true_eq, beq_iff_eq] at h hk
      obtain ⟨_, hk⟩ := hk
      subst hk
      rw [if_pos h.1]
      simp only [cond_true, okKs_asKs h.2 h.1]
    · split at h
      · simp only [beq_iff_eq] at h
        subst h
        rw [if_pos (by omega)]
        simp
      · simp only [decide_eq_true_eq] at h
        rw [if_pos h]
        rfl

theorem overL_sound {cs us : List Cell} {off n : Nat} (h1 : us.length = n) (h2 : off + n ≤ cs.length) : overC cs off us = some (overL cs off n us) := by
  subst h1
  unfold overC overL
  rw [if_pos h2]
  by_cases e : us.length = cs.length
  · rw [if_pos e, e]; simp
  · rw [if_neg e, show (us.length == cs.length) = false from by simpa using e]; rfl

theorem boundQ_sound {d : Nat} {x : Option SX} {l : Bool × Nat} (h : boundQ st d x = some l) (hl : l.1 = true) : boundOf st d x = some l.2 := by
  cases x with
  | none => simp only [boundQ, Option.some.injEq] at h; subst h; rfl
  | some s =>
    simp only [boundQ] at h
    simp only [boundOf]
    split at h
    · simp only [Option.some.injEq] at h
      subst h
      simp only [decide_eq_true_eq] at hl
      rw [if_pos hl]
    · cases h

/-- Single cells are loaded one by one (as 'shapeT' tells it). -/
def oneL : SOp → Bool
  | .load _ ag n _ _ | .fldV ag _ n _ _ | .ldp ag n _ _ => ag || n == 1
  | .ixV ag _ n _ _ _ => ag || n == 1
  | _ => true

theorem loadE_sound {cs : List Cell} {off n : Nat} {ag : Bool} {ks : List (Option IntKind)} (h1 : ag = false → n = 1) (h : (loadE cs off n ag ks).1 = true) : sliceC cs off n ag = some (loadE cs off n ag ks).2 := by
  cases ag with
  | true => exact loadQ_sound h1 h
  | false => cases ks with
    | cons k ks => exact loadQ_sound h1 h
    | nil =>
      have h' : (decide (off + n ≤ cs.length) && isRw (cs.getD off .dead)) = true := h
      rw [Bool.and_eq_true] at h'
      have e := loadQ_sound (cs := cs) (off := off) (n := n) (ag := false) (ks := []) h1 h'.1
      rw [e]
      exact congrArg (fun c => some (CV.one c)) (rw_eta h'.2)

theorem evOpQ_sound {d : Nat} {op : SOp} {q : Bool × Res} (h1 : oneL op = true) (h : evOpQ C d st op = some q) (hq : q.1 = true) : evOp C.ctx d st op = some q.2 := by
  cases op with
  | load el ag n ks p =>
    have hn : ag = false → n = 1 := fun e => by subst e; simpa [oneL] using h1
    simp only [evOpQ] at h
    simp only [evOp]
    split at h
    · simp only [Option.map_eq_some_iff] at h
      obtain ⟨cs, hc, rfl⟩ := h
      simp only [hc, Option.bind_some, loadQ_sound hn hq, Option.map_some]
    · simp only [Option.some.injEq] at h
      subst h
      simp only [loadE_sound hn hq, Option.map_some]
    · simp only [Option.map_eq_some_iff] at h
      obtain ⟨t, hc, rfl⟩ := h
      simp only [hc, Option.bind_some, loadQ_sound hn hq, Option.map_some]
    · cases h
  | fldV ag off n ks x =>
    have hn : ag = false → n = 1 := fun e => by subst e; simpa [oneL] using h1
    simp only [evOpQ] at h
    simp only [evOp]
    split at h
    · simp only [Option.some.injEq] at h
      subst h
      simp only [loadQ_sound hn hq, Option.map_some]
    · cases h
  | ixV ag len n ks x i =>
    have hn : ag = false → n = 1 := fun e => by subst e; simpa [oneL] using h1
    simp only [evOpQ] at h
    simp only [evOp]
    split at h
    · simp only [Option.some.injEq] at h
      subst h
      simp only [Bool.and_eq_true, decide_eq_true_eq] at hq
      rw [if_pos hq.1, loadQ_sound hn hq.2]
      rfl
    · cases h
  | store el n p x =>
    simp only [evOpQ, Option.bind_eq_some_iff] at h
    obtain ⟨us, hus, h⟩ := h
    simp only [evOp, hus, Option.bind_some]
    split at h
    · simp only [Option.map_eq_some_iff] at h
      obtain ⟨cs, hc, rfl⟩ := h
      simp only [Bool.and_eq_true, decide_eq_true_eq, beq_iff_eq] at hq
      rw [if_pos hq.1]
      simp only [hc, Option.bind_some, overL_sound hq.1 hq.2, Option.map_some]
    · simp only [Option.map_eq_some_iff] at h
      obtain ⟨t, hc, rfl⟩ := h
      simp only [Bool.and_eq_true, decide_eq_true_eq, beq_iff_eq] at hq
      rw [if_pos hq.1.1]
      simp only [hq.2, cond_true, hc, Option.bind_some, overL_sound hq.1.1 hq.1.2, Option.map_some]
    · cases h
  | ixA len esz p i =>
    simp only [evOpQ] at h
    simp only [evOp]
    split at h
    · simp only [Option.map_eq_some_iff] at h
      obtain ⟨v, hv, rfl⟩ := h
      simp only [Bool.and_eq_true, decide_eq_true_eq] at hq
      rw [if_pos hq]
      simp only [hv, Option.map_some]
    · cases h
  | ldp ag n ks p =>
    have hn : ag = false → n = 1 := fun e => by subst e; simpa [oneL] using h1
    simp only [evOpQ] at h
    simp only [evOp]
    split at h
    · simp only [Option.some.injEq] at h
      subst h
      simp only [loadE_sound hn hq, Option.map_some]
    · cases h
  | ixp esz s i =>
    simp only [evOpQ] at h
    simp only [evOp]
    split at h
    · simp only [Option.some.injEq] at h
      subst h
      simp only [Bool.and_eq_true, decide_eq_true_eq] at hq
      rw [if_pos ⟨hq.1.1, hq.1.2, hq.2⟩]
    · cases h
  | ixS esz s i =>
    simp only [evOpQ] at h
    simp only [evOp]
    split at h
    · simp only [Option.some.injEq] at h
      subst h
      simp only [Bool.and_eq_true, decide_eq_true_eq] at hq
      rw [if_pos ⟨hq.1.1, hq.1.2, hq.2⟩]
    · simp only [Option.map_eq_some_iff] at h
      obtain ⟨t, ht, rfl⟩ := h
      simp only [Bool.and_eq_true, decide_eq_true_eq] at hq
      simp only [ht, Option.bind_some]
      rw [if_pos hq]
    · cases h
  | bin o x y =>
    simp only [evOpQ] at h
    simp only [evOp]
    split at h
    · rename_i e1 e2
      split at h
      · split at h
        · rename_i hk
          simp only [Option.some.injEq] at h
          subst h
          have hb := hq
          simp only [bne_iff_ne, ne_eq] at hb
          simp [e1, e2, binV, hk, hb]
        · cases h
      · split at h
        · rename_i hk
          simp only [Option.some.injEq] at h
          subst h
          have hb := hq
          simp only [bne_iff_ne, ne_eq] at hb
          simp [e1, e2, binV, hk, hb]
        · cases h
      · simp only [Option.map_eq_some_iff] at h
        obtain ⟨v, hv, rfl⟩ := h
        simp only [e1, e2, hv, Option.map_some]
    · cases h
  | app e esz bytes z s x =>
    simp only [evOpQ] at h
    simp only [evOp]
    split at h
    · simp only [Option.bind_eq_some_iff, Option.map_eq_some_iff] at h
      obtain ⟨t, ht, p, hp, rfl⟩ := h
      simp only [Bool.and_eq_true, decide_eq_true_eq, beq_iff_eq] at hq
      obtain ⟨⟨⟨⟨⟨q1, q2⟩, q3⟩, q4⟩, q5⟩, q6⟩ := hq
      simp only [ht, hp, Option.bind_some]
      rw [if_pos ⟨q1, q2, q3, q4, q5, q6⟩]
    · simp only [Option.map_eq_some_iff] at h
      obtain ⟨p, hp, rfl⟩ := h
      simp only [Bool.and_eq_true, decide_eq_true_eq, beq_iff_eq] at hq
      obtain ⟨⟨⟨q1, q4⟩, q5⟩, q6⟩ := hq
      simp only [hp, Option.bind_some]
      rw [if_pos ⟨q1, q4, q5, q6⟩]
    · cases h
  | slp esz s lo hi =>
    simp only [evOpQ] at h
    simp only [evOp]
    split at h
    · simp only [Option.bind_eq_some_iff, Option.map_eq_some_iff] at h
      obtain ⟨l, hl, r, hr, rfl⟩ := h
      simp only [Bool.and_eq_true, decide_eq_true_eq, beq_iff_eq] at hq
      obtain ⟨⟨⟨⟨q1, q2⟩, q3⟩, q4⟩, q5⟩ := hq
      simp only [boundQ_sound hl q1, boundQ_sound hr q2, Option.bind_some]
      rw [if_pos ⟨q3, q4, q5⟩]
    · simp only [Option.bind_eq_some_iff, Option.map_eq_some_iff] at h
      obtain ⟨l, hl, r, hr, rfl⟩ := h
      simp only [Bool.and_eq_true, beq_iff_eq] at hq
      obtain ⟨⟨⟨q1, q2⟩, q3⟩, q4⟩ := hq
      simp only [boundQ_sound hl q1, boundQ_sound hr q2, Option.bind_some]
      rw [if_pos ⟨q3, q4⟩]
    · cases h
  | slc esz s lo hi =>
    simp only [evOpQ] at h
    simp only [evOp]
    split at h
    · simp only [Option.bind_eq_some_iff, Option.map_eq_some_iff] at h
      obtain ⟨l, hl, r, hr, rfl⟩ := h
      simp only [Bool.and_eq_true, decide_eq_true_eq, beq_iff_eq] at hq
      obtain ⟨⟨⟨⟨q1, q2⟩, q3⟩, q4⟩, q5⟩ := hq
      simp only [boundQ_sound hl q1, boundQ_sound hr q2, Option.bind_some]
      rw [if_pos ⟨q3, q4, q5⟩]
    · simp only [Option.bind_eq_some_iff, Option.map_eq_some_iff] at h
      obtain ⟨t, ht, l, hl, r, hr, rfl⟩ := h
      simp only [Bool.and_eq_true, decide_eq_true_eq, beq_iff_eq] at hq
      obtain ⟨⟨⟨⟨q1, q2⟩, q3⟩, q4⟩, q5⟩ := hq
      simp only [ht, boundQ_sound hl q1, boundQ_sound hr q2, Option.bind_some]
      rw [if_pos ⟨q3, q4, q5⟩]
    · simp only [Option.bind_eq_some_iff, Option.map_eq_some_iff] at h
      obtain ⟨l, hl, r, hr, rfl⟩ := h
      simp only [Bool.and_eq_true, beq_iff_eq] at hq
      obtain ⟨⟨⟨q1, q2⟩, q3⟩, q4⟩ := hq
      simp only [boundQ_sound hl q1, boundQ_sound hr q2, Option.bind_some]
      rw [if_pos ⟨q3, q4⟩]
    · cases h
  | call ow pt f xs =>
    simp only [evOpQ, Option.bind_eq_some_iff, Option.map_eq_some_iff] at h
    obtain ⟨g, hg, vs, hvs, f, hf, ⟨r0, r⟩, hr, rfl⟩ := h
    simp only [Bool.and_eq_true, Bool.or_eq_true, Bool.not_eq_true', beq_iff_eq] at hq
    obtain ⟨⟨⟨⟨q0, q1⟩, q2⟩, q3⟩, q4⟩ := hq
    simp only [evOp, hg, Option.bind_some, doCall, hvs, CtxQ.ctx, hf, hr, q0, cond_true]
    have p2 : pt = false → r.toks.length = 0 := fun e => by
      rcases q2 with q2 | q2
      · rw [e] at q2; cases q2
      · exact q2
    have p3 : ow = true → noSlR r = true := fun e => by
      rcases q3 with q3 | q3
      · rw [e] at q3; cases q3
      · exact q3
    rw [if_pos ⟨q1, p2, p3, q4⟩]
  | pcall g p xs =>
    simp only [evOpQ] at h
    simp only [evOp]
    split at h
    · simp only [Option.bind_eq_some_iff, Option.map_eq_some_iff] at h
      obtain ⟨cs, hc, vs, hv, f, hf, ⟨r0, r⟩, hr, rfl⟩ := h
      simp only [Bool.and_eq_true, beq_iff_eq] at hq
      obtain ⟨⟨⟨q0, q1⟩, q2⟩, q3⟩ := hq
      simp only [hc, hv, CtxQ.ctx, hf, hr, q0, Option.bind_some, cond_true]
      rw [if_pos ⟨q1, q2, q3⟩]
    · cases h
  | _ =>
    simp only [evOpQ, Option.map_eq_some_iff] at h
    obtain ⟨r, hr, rfl⟩ := h
    exact hr

theorem setB_same {j : Nat} {b : Bool} (h : st.tm.getD j .no = .one (.v (.bool b))) : setB st j b = st := by
  have hlt : j < st.tm.length := by
    apply Classical.byContradiction
    intro hn
    rw [List.getD_eq_getElem?_getD, List.getElem?_eq_none (by omega)] at h
    cases h
  rw [List.getD_eq_getElem?_getD, List.getElem?_eq_getElem hlt, Option.getD_some] at h
  unfold setB
  rw [← h, List.set_getElem_self]

end

/-! ### What is kept at a loop's head -/
section
variable {α : Type}

theorem lastOf_get : ∀ (l : List α), lastOf l = (match l[l.length - 1]? with | some x => [x] | none => [])
  | [] => rfl
  | [x] => rfl
  | x :: y :: r => by
    have := lastOf_get (y :: r)
    simp only [lastOf, List.length_cons] at this ⊢
    rw [this]
    simp

theorem keepT_len (f : α → α) (l : List Nat) : ∀ (T : List (List α)) (d : Nat), (keepT f l d T).length = T.length
  | [], _ => rfl
  | x :: r, d => by simp [keepT, keepT_len f l r]

theorem keepT_get (f : α → α) (l : List Nat) : ∀ (T : List (List α)) (d i : Nat), (keepT f l d T)[i]? = (T[i]?).map fun x => if l.contains (d + i) then (lastOf x).map f else []
  | [], _, _ => rfl
  | x :: r, d, 0 => rfl
  | x :: r, d, i + 1 => by
    rw [keepT, List.getElem?_cons_succ, List.getElem?_cons_succ, keepT_get f l r]
    rw [show d + 1 + i = d + (i + 1) by omega]

theorem keepT_tat {f : α → α} {l : List Nat} {T : List (List α)} {d k : Nat} {y : α} (h : tat (keepT f l 0 T) d k = some y) : k = 0 ∧ l.contains d = true ∧ ∃ x, tat T d (tlen T d - 1) = some x ∧ y = f x := by
  unfold tat at h
  rw [List.getD_eq_getElem?_getD, keepT_get] at h
  cases hx : T[d]? with
  | none => rw [hx] at h; simp at h
  | some x =>
    rw [hx] at h
    simp only [Option.map_some, Option.getD_some, Nat.zero_add] at h
    split at h
    · rename_i hl
      rw [lastOf_get] at h
      have hT : T.getD d [] = x := by rw [List.getD_eq_getElem?_getD, hx]; rfl
      unfold tat tlen
      rw [hT]
      split at h
      · rename_i z hz
        cases k with
        | zero => simp at h; exact ⟨rfl, hl, z, hz, h.symm⟩
        | succ k => simp at h
      · simp at h
    · simp at h

theorem keepK_len (l : List Nat) : ∀ (T : List (List α)) (d : Nat), (keepK l d T).length = T.length
  | [], _ => rfl
  | x :: r, d => by simp [keepK, keepK_len l r]
theorem keepK_get (l : List Nat) : ∀ (T : List (List α)) (d i : Nat), (keepK l d T)[i]? = (T[i]?).map fun x => x.drop (x.length - l.count (d + i))
  | [], _, _ => rfl
  | x :: r, d, 0 => rfl
  | x :: r, d, i + 1 => by
    rw [keepK, List.getElem?_cons_succ, List.getElem?_cons_succ, keepK_get l r]
    rw [show d + 1 + i = d + (i + 1) by omega]
theorem keepK_tat {l : List Nat} {T : List (List α)} {d k : Nat} : tat (keepK l 0 T) d k = tat T d (k + (tlen T d - l.count d)) := by
  unfold tat tlen
  rw [List.getD_eq_getElem?_getD, List.getD_eq_getElem?_getD, keepK_get]
  cases hx : T[d]? with
  | none => simp
  | some x =>
    simp only [Option.map_some, Option.getD_some, Nat.zero_add, List.getElem?_drop]
    rw [Nat.add_comm]

theorem tat_keepT {f : α → α} {l : List Nat} {T : List (List α)} {d : Nat} (hl : l.contains d = true) {x : α} {k : Nat} (h : tat T d k = some x) (hk : k + 1 = tlen T d) : tat (keepT f l 0 T) d 0 = some (f x) := by
  unfold tat tlen at *
  rw [List.getD_eq_getElem?_getD, keepT_get]
  have hd : d < T.length := (tat_lt (show tat T d k = some x from h)).1
  have hT : T.getD d [] = T[d] := by rw [List.getD_eq_getElem?_getD, List.getElem?_eq_getElem hd]; rfl
  rw [hT] at h hk
  rw [List.getElem?_eq_getElem hd]
  simp only [Option.map_some, Option.getD_some, Nat.zero_add, hl, if_true]
  rw [lastOf_get, show T[d].length - 1 = k by omega, h]
  rfl
end

section
variable {P : Program} {W0 : Base} {S0 : Nat → Prop} {φ : Nat → Nat → Nat} {γ : Nat → Nat → Value} {st st' : St} {a : Act} {w w' : World} {C : CtxQ} {A : Alias}

theorem keepTm_get (ls lb lt : List Nat) (st : St) : ∀ (T : List CV) (d i : Nat), (keepTm ls lb lt st d T)[i]? = (T[i]?).map (keepV ls lb lt st (d + i))
  | [], _, _ => rfl
  | x :: r, d, 0 => rfl
  | x :: r, d, i + 1 => by
    rw [keepTm, List.getElem?_cons_succ, List.getElem?_cons_succ, keepTm_get ls lb lt st r, show d + 1 + i = d + (i + 1) by omega]
theorem keepTm_len (ls lb lt : List Nat) (st : St) : ∀ (T : List CV) (d : Nat), (keepTm ls lb lt st d T).length = T.length
  | [], _ => rfl
  | x :: r, d => by simp [keepTm, keepTm_len ls lb lt st r]

def hφ (st : St) (φ : Nat → Nat → Nat) : Nat → Nat → Nat := fun d _ => φ d (tlen st.bx d - 1)
def hγ (lt : List Nat) (st : St) (γ : Nat → Nat → Value) : Nat → Nat → Value := fun d k => γ d (k + (tlen st.tk d - lt.count d))

theorem head_rep (ls lb lt : List Nat) (h : Rep W0 S0 φ γ st a w) : Rep W0 S0 (hφ st φ) (hγ lt st γ) (headC ls lb lt st) a w := by
  have bx : ∀ {d k : Nat} {cs : List Cell}, tat (headC ls lb lt st).bx d k = some cs → k = 0 ∧ lb.contains d = true ∧ ∃ x, tat st.bx d (tlen st.bx d - 1) = some x ∧ cs = x.map (keepC lt st) := fun hc => keepT_tat hc
  have tk : ∀ {d k : Nat} {t : Tok}, tat (headC ls lb lt st).tk d k = some t → tat st.tk d (k + (tlen st.tk d - lt.count d)) = some t := fun hc => by
    rw [← keepK_tat]; exact hc
  have F : ∀ {b : Nat}, Fx W0 S0 φ γ st w b → Fx W0 S0 (hφ st φ) (hγ lt st γ) (headC ls lb lt st) w b := fun hb => by
    refine ⟨hb.1, hb.2.1, fun d k cs hc => ?_, fun d k t ht hl => ?_⟩
    · obtain ⟨_, _, x, h3, _⟩ := bx hc; exact hb.2.2.1 d _ x h3
    · exact hb.2.2.2 d _ t (tk ht) hl
  have relC : ∀ {c : Cell} {u : Value}, RelC w (Fx W0 S0 φ γ st w) c u → RelC w (Fx W0 S0 (hφ st φ) (hγ lt st γ) (headC ls lb lt st) w) c u := fun hc => hc.mono fun b hb => ⟨F hb, rfl⟩
  have own : ∀ {d k : Nat} {u : Value}, RelC1 w (envOf W0 S0 φ γ st w) (.own d k) u → tlen st.tk d ≤ k + lt.count d → RelC1 w (envOf W0 S0 (hφ st φ) (hγ lt st γ) (headC ls lb lt st) w) (.own d (k - (tlen st.tk d - lt.count d))) u := by
    rintro d k u ⟨⟨t, ht⟩, hu, ho⟩ hl
    have e : k - (tlen st.tk d - lt.count d) + (tlen st.tk d - lt.count d) = k := by omega
    refine ⟨⟨t, ?_⟩, ?_, ho⟩
    · show tat (keepK lt 0 st.tk) d _ = _
      rw [keepK_tat, e]; exact ht
    · rw [hu]
      show γ d k = γ d (k - (tlen st.tk d - lt.count d) + (tlen st.tk d - lt.count d))
      rw [e]
  have relK : ∀ {c : Cell} {u : Value}, RelC1 w (envOf W0 S0 φ γ st w) c u → RelC1 w (envOf W0 S0 (hφ st φ) (hγ lt st γ) (headC ls lb lt st) w) (keepC lt st c) u := by
    intro c u hc
    cases c with
    | own d k =>
      simp only [keepC]
      split
      · rename_i hh; exact own hc hh
      · exact RelC.dead hc.2.2
    | v x => exact (relC (c := .v x) hc).to1
    | sl n cs => exact (relC (c := .sl n cs) hc).to1
    | dead => exact (relC (c := .dead) hc).to1
  refine ⟨⟨h.mem.bel, fun d k cs hc => ?_, fun d k cs d' k' cs' h1 h2 he => ?_, fun d k t ht hl => ?_, fun d k t d' k' t' b h1 l1 h2 l2 b1 b2 => ?_, fun d k t d' k' cs h1 l1 h2 => ?_⟩, h.dfr, ?_, fun i c u hc hu => ?_⟩
  · obtain ⟨_, _, x, h3, rfl⟩ := bx hc
    obtain ⟨g1, us, T, g2, g3⟩ := h.mem.bxs d _ x h3
    refine ⟨g1, us, T, g2, by simpa using g3.1, fun j c u h1 h2 => ?_⟩
    rw [List.getElem?_map, Option.map_eq_some_iff] at h1
    obtain ⟨c0, h0, rfl⟩ := h1
    exact relK (g3.2 j c0 u h0 h2)
  · obtain ⟨e1, _, x, h3, _⟩ := bx h1
    obtain ⟨e2, _, x', h4, _⟩ := bx h2
    exact ⟨(h.mem.bxi d _ x d' _ x' h3 h4 he).1, by rw [e1, e2]⟩
  · obtain ⟨xs, g1, g2⟩ := h.mem.tks d _ t (tk ht) hl
    exact ⟨xs, g1, g2.mono fun b hb => ⟨F hb, rfl⟩⟩
  · obtain ⟨e1, e2⟩ := h.mem.tki d _ t d' _ t' b (tk h1) l1 (tk h2) l2 b1 b2
    subst e1
    exact ⟨rfl, by omega⟩
  · obtain ⟨_, _, x, h4, _⟩ := bx h2
    exact h.mem.tkb d _ t d' _ x (tk h1) l1 h4
  · show a.tmps.size = (keepTm ls lb lt st 0 st.tm).length
    rw [keepTm_len, h.siz]
  · rw [show (headC ls lb lt st).tm = keepTm ls lb lt st 0 st.tm from rfl, keepTm_get, Option.map_eq_some_iff] at hc
    obtain ⟨c0, hc0, rfl⟩ := hc
    have hr := h.tms i c0 u hc0 hu
    simp only [Nat.zero_add, keepV]
    split
    · split
      · split
        · rename_i hh; exact RelV.of1 (c := .one _) (own hr hh)
        · trivial
      · rename_i c hno
        cases c with
        | own d k => exact absurd rfl (hno d k)
        | v x => exact RelV.of1 (c := .one _) (RelC.to1 (E := envOf W0 S0 (hφ st φ) (hγ lt st γ) (headC ls lb lt st) w) (relC (c := .v x) hr))
        | sl n cs => exact RelV.of1 (c := .one _) (RelC.to1 (E := envOf W0 S0 (hφ st φ) (hγ lt st γ) (headC ls lb lt st) w) (relC (c := .sl n cs) hr))
        | dead => exact RelV.of1 (c := .one _) (RelC.to1 (E := envOf W0 S0 (hφ st φ) (hγ lt st γ) (headC ls lb lt st) w) (relC (c := .dead) hr))
      · rename_i d k off
        split
        · rename_i hh
          obtain ⟨⟨cs, hcs⟩, hu'⟩ := hr
          refine ⟨⟨_, tat_keepT hh.1 hcs hh.2⟩, ?_⟩
          rw [hu']
          show Value.pointer (some ⟨φ d k, off, none⟩) = .pointer (some ⟨φ d (tlen st.bx d - 1), off, none⟩)
          rw [← hh.2]; rfl
        · trivial
      · rename_i cs
        obtain ⟨us, rfl, hl⟩ := hr
        refine ⟨us, rfl, by simpa using hl.1, fun j c u h1 h2 => ?_⟩
        rw [List.getElem?_map, Option.map_eq_some_iff] at h1
        obtain ⟨c0, h0, rfl⟩ := h1
        exact relK (hl.2 j c0 u h0 h2)
      · exact hr
      · trivial
    · trivial

theorem head_sz (ls lb lt : List Nat) (h : Sz st) : Sz (headC ls lb lt st) := by
  unfold Sz headC
  simp only [keepT_len, keepK_len, keepTm_len]
  exact h

theorem head_alias (ls lb lt : List Nat) (h : AInv A st) : AInv A (headC ls lb lt st) := by
  intro p b hb i k off hp
  simp only [headC, List.getD_eq_getElem?_getD, keepTm_get, Nat.zero_add] at hp
  cases hc : st.tm[p]? with
  | none => rw [hc] at hp; cases hp
  | some c =>
    rw [hc] at hp
    simp only [Option.map_some, Option.getD_some, keepV] at hp
    have hget : st.tm.getD p .no = c := by rw [List.getD_eq_getElem?_getD, hc]; rfl
    split at hp
    · split at hp
      · split at hp <;> cases hp
      · cases hp
      · rename_i d k' off'
        split at hp
        · simp only [CV.box.injEq] at hp
          obtain ⟨rfl, _, _⟩ := hp
          exact h p b hb _ _ _ hget
        · cases hp
      · cases hp
      · cases hp
      · cases hp
    · cases hp

/-! ### Code -/

def exOf : Ex → Exit
  | .norm => .normal
  | .exit id => .exit id
  | .ret => .ret

/-- All that a step needs. -/
def SzA (A : Alias) (n : Nat) (st : St) : Prop := Sz st ∧ AInv A st ∧ st.tm.length = n

def oneC : SC → Bool
  | .reg l => l.all fun o => oneL o.op
  | .seq a b | .cond _ a b => oneC a && oneC b
  | .blk _ c | .loop _ _ _ c => oneC c
  | _ => true

/-- Does no operation write slot 0? -/
def noDst0 : SC → Bool
  | .reg l => l.all fun o => !(o.dst == some 0)
  | .seq a b | .cond _ a b => noDst0 a && noDst0 b
  | .blk _ c | .loop _ _ _ c => noDst0 c
  | _ => true

theorem cond_rel {x : Operand} {s : SX} (hx : ccX x = some s) (hR : Rep W0 S0 φ γ st a w) {q : Bool} (h : getX st s = .one (.v (.bool q))) : a.eval x = .bool q := by
  have := ccX_rel hx hR
  rw [h] at this
  exact rel_v this

end
end Go.Proofs.YtlfojobligplkaaDoor.Mt
