import Derived.Test.YtlfojobligplkaaDoorMtWp
/- From a function's code to what is told of it. Conditions: those that each lemma names. -/
namespace Go.Proofs.YtlfojobligplkaaDoor.Mt
open Go Go.RowKit

inductive SRes where
  | tmp (t : Nat)
  | cell (a : Nat) (ag : Bool) (n : Nat)
  deriving Inhabited

structure SFn where
  n : Nat
  rs : List SRes
  code : SC
  deriving Inhabited

def ccRes (P : Program) : List ResultVar → Option (List SRes)
  | [] => some []
  | .tmp t :: r => (ccRes P r).map (.tmp t :: ·)
  | .cell a t :: r => (shapeT P t).bind fun s => (ccRes P r).map (.cell a s.1 s.2 :: ·)

def sfn (P : Program) (H : Hints) (g : Nat) (hd : Heads) : Option SFn := (P.funcs[g]?).bind fun fn => fn.body.bind fun code =>
  (cc P H (aliases P H code []) code hd).bind fun x => (ccRes P fn.results.toList).bind fun rs => if oneC x.1 = true ∧ rs.length ≤ 3 then some ⟨fn.ntmps, rs, x.1⟩ else none

def start (n : Nat) (vs : List CV) : St := { tm := vs ++ List.replicate (n - vs.length) .no, bx := List.replicate (vs.length + (n - vs.length)) [], tk := List.replicate (vs.length + (n - vs.length)) [] }

/-! ### Results -/

def isV1 : CV → Bool
  | .one _ | .agg _ => true
  | _ => false

def resQ1 (st : St) : SRes → Option (Bool × CV)
  | .tmp t => some (isV1 (st.tm.getD t .no), st.tm.getD t .no)
  | .cell a ag n => match st.tm.getD a .no with
    | .box d k 0 => (tat st.bx d k).bind fun cs => match ag with
      | true => some (cs.length == n, .agg cs)
      | false => match cs with
        | [c] => some (n == 1, .one c)
        | _ => none
    | _ => none
def resQs (st : St) : List SRes → Option (Bool × List CV)
  | [] => some (true, [])
  | r :: rs => (resQ1 st r).bind fun x => (resQs st rs).map fun y => (x.1 && y.1, x.2 :: y.2)
def resQ (st : St) (rs : List SRes) : Option (Bool × CV) := (resQs st rs).map fun x => (x.1, match x.2 with | [v] => v | vs => .tup vs)

/-- The rows of the call's own that a result names. -/
def ownC : Cell → List (Nat × Nat)
  | .own d k => [(d, k)]
  | _ => []
def ownV1 : CV → List (Nat × Nat)
  | .one c => ownC c
  | .agg cs => cs.flatMap ownC
  | _ => []
def ownV : CV → List (Nat × Nat)
  | .tup vs => vs.flatMap ownV1
  | c => ownV1 c
def addNew : List (Nat × Nat) → List (Nat × Nat) → List (Nat × Nat)
  | acc, [] => acc
  | acc, p :: r => addNew (bif acc.any (· == p) then acc else acc ++ [p]) r
def indexOf (p : Nat × Nat) : List (Nat × Nat) → Nat
  | [] => 0
  | q :: r => bif q == p then 0 else indexOf p r + 1
def retC (ms : List (Nat × Nat)) : Cell → Cell
  | .own d k => .own 0 (indexOf (d, k) ms)
  | c => c
def retV1 (ms : List (Nat × Nat)) : CV → CV
  | .one c => .one (retC ms c)
  | .agg cs => bif cs.all plainC then .agg cs else .agg (cs.map (retC ms))
  | c => c
def retV (ms : List (Nat × Nat)) : CV → CV
  | .tup vs => .tup (vs.map (retV1 ms))
  | c => retV1 ms c
def toksOf (st : St) : List (Nat × Nat) → Option (List Tok)
  | [] => some []
  | (d, k) :: r => (liveTok st d k).bind fun t => (toksOf st r).map (t :: ·)
def retQ (st : St) (v : CV) : Option Ret := (toksOf st (addNew [] (ownV v))).map fun ts => { cv := retV (addNew [] (ownV v)) v, toks := ts }

section
variable {P : Program} {W0 : Base} {S0 : Nat → Prop} {φ : Nat → Nat → Nat} {γ : Nat → Nat → Value} {st st' : St} {a : Act} {w w' : World} {C : CtxQ}

/-- How a result is read. -/
def Reads (P : Program) (a : Act) (w : World) (rv : ResultVar) (u : Value) : Prop :=
  (∃ t, rv = .tmp t ∧ u = a.tmps.getD t undef) ∨ ∃ s t b, rv = .cell s t ∧ (a.tmps[s]?).getD undef = .pointer (some b) ∧ (loadVar t b).run P w = .ok u w

theorem ccRes_cons {rv : ResultVar} {rvs : List ResultVar} {rs : List SRes} (h : ccRes P (rv :: rvs) = some rs) : ∃ r rs', rs = r :: rs' ∧ ccRes P [rv] = some [r] ∧ ccRes P rvs = some rs' := by
  cases rv with
  | tmp t =>
    simp only [ccRes, Option.map_eq_some_iff] at h
    obtain ⟨rs', h1, rfl⟩ := h
    exact ⟨_, rs', rfl, rfl, h1⟩
  | cell s t =>
    simp only [ccRes, Option.bind_eq_some_iff, Option.map_eq_some_iff] at h
    obtain ⟨x, hx, rs', h1, rfl⟩ := h
    exact ⟨_, rs', rfl, by simp [ccRes, hx], h1⟩

theorem run_res1 {rv : ResultVar} {r : SRes} (hr : ccRes P [rv] = some [r]) (hR : Rep W0 S0 φ γ st a w) {q : Bool × CV} (h : resQ1 st r = some q) (hq : q.1 = true) :
    ∃ u, Reads P a w rv u ∧ RelV1 w (envOf W0 S0 φ γ st w) q.2 u := by
  cases rv with
  | tmp t =>
    simp only [ccRes, Option.map_some, Option.some.injEq, List.cons.injEq, and_true] at hr
    subst hr
    simp only [resQ1, Option.some.injEq] at h
    subst h
    refine ⟨a.tmps.getD t undef, .inl ⟨t, rfl, rfl⟩, ?_⟩
    have := hR.getT t
    revert this hq
    generalize st.tm.getD t .no = v
    intro hq this
    cases v <;> first | exact this | (cases hq; done)
  | cell s t =>
    simp only [ccRes, Option.bind_eq_some_iff, Option.map_some, Option.some.injEq, List.cons.injEq, and_true] at hr
    obtain ⟨⟨ag, n⟩, hsh, rfl⟩ := hr
    simp only [resQ1] at h
    split at h
    · rename_i d k e
      simp only [Option.bind_eq_some_iff] at h
      obtain ⟨cs, hcs, h⟩ := h
      have hT := hR.getT s
      rw [e] at hT
      have hu : a.tmps.getD s undef = .pointer (some ⟨φ d k, 0, none⟩) := hT.2
      obtain ⟨_, us, T, hg, hrel⟩ := hR.mem.bxs d k cs hcs
      have hlen : ∀ m, cs.length = m → us.toList.length = m := fun m hm => by rw [← hrel.1]; exact hm
      have run : cs.length = n → Reads P a w (.cell s t) (valOf ag us.toList) := fun hl =>
        .inr ⟨s, t, _, rfl, by rw [← Array.getD_eq_getD_getElem?]; exact hu, run_loadT hsh ⟨φ d k, 0, none⟩ us.toList (hlen n hl) (box_cells hg)⟩
      cases ag with
      | true =>
        simp only [Option.some.injEq] at h
        subst h
        have hl : cs.length = n := by simpa using hq
        exact ⟨_, run hl, us.toList, rfl, hrel⟩
      | false =>
        simp only at h
        split at h
        · rename_i c
          simp only [Option.some.injEq] at h
          subst h
          have hn : n = 1 := by simpa using hq
          refine ⟨_, run (by rw [hn]; rfl), ?_⟩
          have h1 := hlen 1 rfl
          have : us.toList[0]? = some (valOf false us.toList) := by
            rw [List.getElem?_eq_getElem (by omega)]
            simp [valOf, List.getD_eq_getElem?_getD, List.getElem?_eq_getElem (show 0 < us.toList.length by omega)]
          exact hrel.2 0 c _ rfl this
        · cases h
    · cases h

/-- A result's shape. -/
def RelR (w : World) (E : Env) (v : CV) (u : Value) : Prop := RelV1 w E v u ∨ ∃ vs, v = .tup vs ∧ RelV w E (.tup vs) u

theorem run_results {fn : Func} {rs : List SRes} (hrs : ccRes P fn.results.toList = some rs) (hl : rs.length ≤ 3) (hR : Rep W0 S0 φ γ st a w) {q : Bool × CV} (h : resQ st rs = some q) (hq : q.1 = true) :
    ∃ u, (results fn a.tmps).run P w = .ok u w ∧ RelR w (envOf W0 S0 φ γ st w) q.2 u := by
  generalize hres : fn.results.toList = l at hrs
  have harr : ∀ l', l = l' → fn.results = l'.toArray := fun l' e => by rw [← e, ← hres, Array.toArray_toList]
  simp only [resQ, Option.map_eq_some_iff] at h
  obtain ⟨y, hy, rfl⟩ := h
  match l, hrs with
  | [], hrs =>
    simp only [ccRes, Option.some.injEq] at hrs
    subst hrs
    simp only [resQs, Option.some.injEq] at hy
    subst hy
    have := harr [] rfl
    exact ⟨.tuple #[], by simp [results, this], .inr ⟨[], rfl, [], rfl, rfl, fun j v x h => by simp at h⟩⟩
  | [x], hrs =>
    obtain ⟨r, rs', rfl, h1, h2⟩ := ccRes_cons hrs
    simp only [ccRes, Option.some.injEq] at h2
    subst h2
    simp only [resQs, Option.bind_eq_some_iff, Option.map_some, Option.some.injEq] at hy
    obtain ⟨q1, hq1, rfl⟩ := hy
    simp only [Bool.and_true] at hq
    obtain ⟨u, hu, hv⟩ := run_res1 h1 hR hq1 hq
    refine ⟨u, ?_, .inl hv⟩
    have := harr [x] rfl
    rcases hu with ⟨t, rfl, rfl⟩ | ⟨s, t, b, rfl, e1, e2⟩
    · simp [results, this]
    · simp [results, this, e1, asAddr, e2]
  | [x, x2], hrs =>
    obtain ⟨r, rs', rfl, h1, h2⟩ := ccRes_cons hrs
    obtain ⟨r2, rs2, rfl, h3, h4⟩ := ccRes_cons h2
    simp only [ccRes, Option.some.injEq] at h4
    subst h4
    simp only [resQs, Option.bind_eq_some_iff, Option.map_some, Option.map_eq_some_iff, Option.some.injEq] at hy
    obtain ⟨q1, hq1, y2, ⟨q2, hq2, rfl⟩, rfl⟩ := hy
    simp only [Bool.and_true, Bool.and_eq_true] at hq
    obtain ⟨u, hu, hv⟩ := run_res1 h1 hR hq1 hq.1
    obtain ⟨u2, hu2, hv2⟩ := run_res1 h3 hR hq2 hq.2
    have := harr [x, x2] rfl
    refine ⟨.tuple #[u, u2], ?_, .inr ⟨[q1.2, q2.2], rfl, [u, u2], rfl, rfl, fun j v x h h' => ?_⟩⟩
    · rcases hu with ⟨t, rfl, rfl⟩ | ⟨s, t, b, rfl, e1, e2⟩ <;> rcases hu2 with ⟨t2, rfl, rfl⟩ | ⟨s2, t2, b2, rfl, e3, e4⟩ <;> simp [results, asAddr, *]
    · match j, h, h' with
      | 0, h, h' => simp at h h'; subst h; subst h'; exact hv
      | 1, h, h' => simp at h h'; subst h; subst h'; exact hv2
      | j + 2, h, _ => simp at h
  | [x, x2, x3], hrs =>
    obtain ⟨r, rs', rfl, h1, h2⟩ := ccRes_cons hrs
    obtain ⟨r2, rs2, rfl, h3, h4⟩ := ccRes_cons h2
    obtain ⟨r3, rs3, rfl, h5, h6⟩ := ccRes_cons h4
    simp only [ccRes, Option.some.injEq] at h6
    subst h6
    simp only [resQs, Option.bind_eq_some_iff, Option.map_some, Option.map_eq_some_iff, Option.some.injEq] at hy
    obtain ⟨q1, hq1, y2, ⟨q2, hq2, y3, ⟨q3, hq3, rfl⟩, rfl⟩, rfl⟩ := hy
    simp only [Bool.and_true, Bool.and_eq_true] at hq
    obtain ⟨u, hu, hv⟩ := run_res1 h1 hR hq1 hq.1
    obtain ⟨u2, hu2, hv2⟩ := run_res1 h3 hR hq2 hq.2.1
    obtain ⟨u3, hu3, hv3⟩ := run_res1 h5 hR hq3 hq.2.2
    have := harr [x, x2, x3] rfl
    refine ⟨.tuple #[u, u2, u3], ?_, .inr ⟨[q1.2, q2.2, q3.2], rfl, [u, u2, u3], rfl, rfl, fun j v x h h' => ?_⟩⟩
    · rcases hu with ⟨t, rfl, rfl⟩ | ⟨s, t, b, rfl, e1, e2⟩ <;> rcases hu2 with ⟨t2, rfl, rfl⟩ | ⟨s2, t2, b2, rfl, e3, e4⟩ <;> rcases hu3 with ⟨t3, rfl, rfl⟩ | ⟨s3, t3, b3, rfl, e5, e6⟩ <;> simp [results, asAddr, *]
    · match j, h, h' with
      | 0, h, h' => simp at h h'; subst h; subst h'; exact hv
      | 1, h, h' => simp at h h'; subst h; subst h'; exact hv2
      | 2, h, h' => simp at h h'; subst h; subst h'; exact hv3
      | j + 3, h, _ => simp at h
  | x :: x2 :: x3 :: x4 :: l, hrs =>
    obtain ⟨r, rs', rfl, h1, h2⟩ := ccRes_cons hrs
    obtain ⟨r2, rs2, rfl, h3, h4⟩ := ccRes_cons h2
    obtain ⟨r3, rs3, rfl, h5, h6⟩ := ccRes_cons h4
    obtain ⟨r4, rs4, rfl, h7, h8⟩ := ccRes_cons h6
    simp at hl

/-! ### Rows of the call's own among the results -/

theorem addNew_mem {p : Nat × Nat} : ∀ {l acc : List (Nat × Nat)}, p ∈ acc ∨ p ∈ l → p ∈ addNew acc l
  | [], acc, h => by simpa [addNew] using h
  | x :: l, acc, h => by
    rw [addNew]
    refine addNew_mem ?_
    cases hx : acc.any (· == x) with
    | true =>
      simp only [cond_true]
      rcases h with h | h
      · exact .inl h
      · rcases List.mem_cons.1 h with h | h
        · subst h
          obtain ⟨y, hy, he⟩ := List.any_eq_true.1 hx
          rw [beq_iff_eq] at he
          subst he
          exact .inl hy
        · exact .inr h
    | false =>
      simp only [cond_false]
      rcases h with h | h
      · exact .inl (by simp [h])
      · rcases List.mem_cons.1 h with h | h
        · exact .inl (by simp [h])
        · exact .inr h

theorem addNew_nodup : ∀ {l acc : List (Nat × Nat)}, acc.Nodup → (addNew acc l).Nodup
  | [], _, h => h
  | x :: l, acc, h => by
    rw [addNew]
    refine addNew_nodup ?_
    cases hx : acc.any (· == x) with
    | true => exact h
    | false =>
      simp only [cond_false]
      rw [List.nodup_append]
      refine ⟨h, by simp, fun a ha b hb => ?_⟩
      simp only [List.mem_singleton] at hb
      subst hb
      intro e
      subst e
      have : acc.any (· == a) = true := List.any_eq_true.2 ⟨a, ha, by simp⟩
      rw [this] at hx
      cases hx

theorem indexOf_get {p : Nat × Nat} : ∀ {l : List (Nat × Nat)}, p ∈ l → l[indexOf p l]? = some p
  | q :: l, h => by
    unfold indexOf
    cases hq : (q == p) with
    | true => rw [beq_iff_eq] at hq; subst hq; rfl
    | false =>
      simp only [cond_false, List.getElem?_cons_succ]
      rcases List.mem_cons.1 h with h | h
      · subst h; simp at hq
      · exact indexOf_get h

theorem toksOf_get : ∀ {ms : List (Nat × Nat)} {ts : List Tok}, toksOf st ms = some ts → ts.length = ms.length ∧ ∀ (j : Nat) (p : Nat × Nat), ms[j]? = some p → ∃ t, ts[j]? = some t ∧ liveTok st p.1 p.2 = some t
  | [], ts, h => by
    simp only [toksOf, Option.some.injEq] at h
    subst h
    exact ⟨rfl, fun j p h => by simp at h⟩
  | (d, k) :: ms, ts, h => by
    simp only [toksOf, Option.bind_eq_some_iff, Option.map_eq_some_iff] at h
    obtain ⟨t, ht, ts', h1, rfl⟩ := h
    obtain ⟨g1, g2⟩ := toksOf_get h1
    refine ⟨by simp [g1], fun j p hj => ?_⟩
    cases j with
    | zero => simp at hj; subst hj; exact ⟨t, rfl, ht⟩
    | succ j => exact g2 j p hj

theorem ret_rel {w0 : World} {S : Nat → Prop} (hR : Mem ⟨w0, fun _ => False⟩ S φ γ st w) {v : CV} {u : Value} (hv : RelR w (envOf ⟨w0, fun _ => False⟩ S φ γ st w) v u) {r : Ret} (h : retQ st v = some r) : ∃ γn, RetRel w0 w S r u γn := by
  simp only [retQ, Option.map_eq_some_iff] at h
  obtain ⟨ts, hts, rfl⟩ := h
  have hmem : ∀ p ∈ ownV v, p ∈ addNew [] (ownV v) := fun p hp => addNew_mem (.inr hp)
  have hnd : (addNew [] (ownV v)).Nodup := addNew_nodup (by simp)
  generalize addNew [] (ownV v) = ms at *
  obtain ⟨hlen, hget⟩ := toksOf_get hts
  let γn : Nat → Value := fun j => match ms[j]? with | some p => γ p.1 p.2 | none => undef
  have hγ : ∀ {j : Nat} {p : Nat × Nat}, ms[j]? = some p → γn j = γ p.1 p.2 := fun hj => by simp only [γn, hj]
  have hF : ∀ {b : Nat}, Fx ⟨w0, fun _ => False⟩ S φ γ st w b → retF w0 w S ts.length γn b := fun {b} hb => by
    refine ⟨hb.1, hb.2.1, fun j hj => ?_⟩
    rw [hlen] at hj
    have hj' := List.getElem?_eq_getElem hj
    obtain ⟨t, _, ht⟩ := hget j _ hj'
    rw [hγ hj']
    exact hb.2.2.2 _ _ t (live_tat ht).1 (live_tat ht).2
  refine ⟨γn, ⟨⟨hR.bel.os, hR.bel.tape, hR.bel.output, hR.bel.size, fun k hk => hR.bel.block k hk (fun h => h)⟩, fun j t hj => ?_, fun j j' b hj hj' h1 h2 => ?_, ?_⟩⟩
  · have hjl : j < ms.length := by rw [← hlen]; exact (List.getElem?_eq_some_iff.1 hj).1
    have hj' := List.getElem?_eq_getElem hjl
    obtain ⟨t', e1, ht⟩ := hget j _ hj'
    rw [hj] at e1
    simp only [Option.some.injEq] at e1
    subst e1
    obtain ⟨xs, g1, g2⟩ := hR.tks _ _ t (live_tat ht).1 (live_tat ht).2
    refine ⟨xs, by rw [hγ hj']; exact g1, g2.mono fun b hb => ⟨hF hb, rfl⟩⟩
  · show j = j'
    have hj1 : j < ms.length := by rw [← hlen]; exact hj
    have hj2 : j' < ms.length := by rw [← hlen]; exact hj'
    have e1 := List.getElem?_eq_getElem hj1
    have e2 := List.getElem?_eq_getElem hj2
    obtain ⟨t1, _, l1⟩ := hget j _ e1
    obtain ⟨t2, _, l2⟩ := hget j' _ e2
    rw [hγ e1] at h1
    rw [hγ e2] at h2
    have := hR.tki _ _ t1 _ _ t2 b (live_tat l1).1 (live_tat l1).2 (live_tat l2).1 (live_tat l2).2 h1 h2
    exact (List.getElem_inj hnd).1 (Prod.ext this.1 this.2)
  · have relC : ∀ {c : Cell} {x : Value}, (∀ p ∈ ownC c, p ∈ ms) → RelC1 w (envOf ⟨w0, fun _ => False⟩ S φ γ st w) c x → RelC1 w (retEnv w0 w S ts.length γn) (retC ms c) x := by
      intro c x hm h
      cases c with
      | own d k =>
        have hp := indexOf_get (hm (d, k) (by simp [ownC]))
        refine ⟨⟨rfl, by rw [hlen]; exact (List.getElem?_eq_some_iff.1 hp).1⟩, ?_, h.2.2⟩
        show x = γn (indexOf (d, k) ms)
        rw [hγ hp]
        exact h.2.1
      | v y => exact RelC.to1 (E := retEnv w0 w S ts.length γn) (RelC.mono (F := Fx ⟨w0, fun _ => False⟩ S φ γ st w) (fun b hb => ⟨hF hb, rfl⟩) (show RelC w _ (.v y) x from h))
      | sl n cs => exact RelC.to1 (E := retEnv w0 w S ts.length γn) (RelC.mono (F := Fx ⟨w0, fun _ => False⟩ S φ γ st w) (fun b hb => ⟨hF hb, rfl⟩) (show RelC w _ (.sl n cs) x from h))
      | dead => exact RelC.to1 (E := retEnv w0 w S ts.length γn) (RelC.mono (F := Fx ⟨w0, fun _ => False⟩ S φ γ st w) (fun b hb => ⟨hF hb, rfl⟩) (show RelC w _ .dead x from h))
    have rel1 : ∀ {v : CV} {x : Value}, (∀ p ∈ ownV1 v, p ∈ ms) → RelV1 w (envOf ⟨w0, fun _ => False⟩ S φ γ st w) v x → RelV1 w (retEnv w0 w S ts.length γn) (retV1 ms v) x := by
      intro v x hm h
      cases v with
      | one c => exact relC hm h
      | agg cs =>
        obtain ⟨us, rfl, hl⟩ := h
        have all : RelL w (retEnv w0 w S ts.length γn) (cs.map (retC ms)) us := by
          refine ⟨by simpa using hl.1, fun j c y hc hy => ?_⟩
          rw [List.getElem?_map, Option.map_eq_some_iff] at hc
          obtain ⟨c0, h0, rfl⟩ := hc
          exact relC (fun p hp => hm p (List.mem_flatMap.2 ⟨c0, List.mem_of_getElem? h0, hp⟩)) (hl.2 j c0 y h0 hy)
        simp only [retV1]
        cases hp : cs.all plainC with
        | false => exact ⟨us, rfl, all⟩
        | true =>
          have e : cs.map (retC ms) = cs := by
            have : cs.map (retC ms) = cs.map id := List.map_congr_left fun c hc => by
              have := List.all_eq_true.1 hp c hc
              cases c <;> first | rfl | (cases this; done)
            simpa using this
          rw [e] at all
          exact ⟨us, rfl, all⟩
      | _ => exact h.elim
    rcases hv with h1 | ⟨vs, rfl, us, rfl, hl, hr⟩
    · cases v with
      | one c => exact RelV.of1 (rel1 (v := .one c) hmem h1)
      | agg cs => exact RelV.of1 (rel1 (v := .agg cs) hmem h1)
      | _ => exact h1.elim
    · refine ⟨us, rfl, by simpa using hl, fun j v x hc hx => ?_⟩
      rw [List.getElem?_map, Option.map_eq_some_iff] at hc
      obtain ⟨v0, h0, rfl⟩ := hc
      exact rel1 (fun p hp => hmem p (List.mem_flatMap.2 ⟨v0, List.mem_of_getElem? h0, hp⟩)) (hr j v0 x h0 hx)

end
end Go.Proofs.YtlfojobligplkaaDoor.Mt

/-! What is told of a function is so, if the evaluator finds it. Conditions: those that each lemma names. -/
namespace Go.Proofs.YtlfojobligplkaaDoor.Mt
open Go Go.RowKit

/-- A function that is handed a variable's address: its first slot, for good. -/
def startP (n : Nat) (cs : List Cell) (vs : List CV) : St :=
  { tm := (.box 0 0 0 :: vs) ++ List.replicate (n - (vs.length + 1)) .no, bx := [cs] :: List.replicate (vs.length + (n - (vs.length + 1))) [], tk := [] :: List.replicate (vs.length + (n - (vs.length + 1))) [] }

def endP (R : List Cell → Prop) (e : Ex) (st : St) : Prop := match e with
  | .exit _ => False
  | _ => match st.tm.getD 0 .no with
    | .box d k 0 => match tat st.bx d k with
      | some cs => R cs
      | none => False
    | _ => False

section
variable {P : Program} {C : CtxQ}

theorem sfn_spec {H : Hints} {g : Nat} {hd : Heads} {F : SFn} (h : sfn P H g hd = some F) :
    ∃ fn code hd', P.funcs[g]? = some fn ∧ fn.body = some code ∧ cc P H (aliases P H code []) code hd = some (F.code, hd') ∧ ccRes P fn.results.toList = some F.rs ∧ oneC F.code = true ∧ F.rs.length ≤ 3 ∧ fn.ntmps = F.n := by
  simp only [sfn, Option.bind_eq_some_iff] at h
  obtain ⟨fn, h1, code, h2, x, h3, rs, h4, h5⟩ := h
  split at h5
  · rename_i hc
    simp only [Option.some.injEq] at h5
    subst h5
    exact ⟨fn, code, x.2, h1, h2, h3, h4, hc.1, hc.2, rfl⟩
  · cases h5

theorem tat_empty {α : Type} {m d k : Nat} {x : α} : tat (List.replicate m ([] : List α)) d k ≠ some x := by
  unfold tat
  rw [List.getD_eq_getElem?_getD, List.getElem?_replicate]
  split <;> simp

theorem tms_at {vs : List CV} {us : List Value} (hl : vs.length = us.length) {n : Nat} {R : CV → Value → Prop} (h : ∀ (j : Nat) (v : CV) (u : Value), vs[j]? = some v → us[j]? = some u → R v u) (hno : ∀ u, R .no u) (i : Nat) (c : CV) (u : Value)
    (hc : (vs ++ List.replicate (n - vs.length) CV.no)[i]? = some c) (hu : (us.toArray ++ Array.replicate (n - us.toArray.size) undef)[i]? = some u) : R c u := by
  by_cases hi : i < vs.length
  · rw [List.getElem?_append_left hi] at hc
    rw [Array.getElem?_append_left (by simpa using (by omega : i < us.length))] at hu
    exact h i c u hc (by simpa using hu)
  · rw [List.getElem?_append_right (by omega), List.getElem?_replicate] at hc
    split at hc
    · simp only [Option.some.injEq] at hc; subst hc; exact hno u
    · cases hc

end
end Go.Proofs.YtlfojobligplkaaDoor.Mt
