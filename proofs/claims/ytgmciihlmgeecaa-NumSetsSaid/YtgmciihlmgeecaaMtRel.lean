import Derived.Test.YtgmciihlmgeecaaMtCore
/- What the evaluator's values stand for in memory, and that it lasts while memory only grows. Conditions: those that each lemma names. -/
namespace Go.Proofs.Ytgmciihlmgeecaa.Mt
open Go Go.RowKit

structure Env where
  F : Nat → Prop
  φ : Nat → Nat → Nat
  γ : Nat → Nat → Value
  B : Nat → Nat → Prop
  T : Nat → Nat → Prop

/-- A plain cell's value: a row lies in blocks that nobody writes any more. -/
inductive RelC (w : World) (F : Nat → Prop) : Cell → Value → Prop
  | v {x : Value} (h : x.oneCell' = true) : RelC w F (.v x) x
  | sl {n : Nat} {cs : List Cell} {A : Option Addr} {cap : Nat} (xs : List Value) (hn : n ≤ cap) (hl : xs.length = cs.length)
      (hx : cs ≠ [] → ∃ a, A = some a ∧ F a.block ∧ ∀ j x, xs[j]? = some x → w.cell? (a.add j) = some x)
      (hr : ∀ (j : Nat) (c : Cell) (x : Value), cs[j]? = some c → xs[j]? = some x → RelC w F c x) : RelC w F (.sl n cs) (.slice A n cap)
  | dead {u : Value} (h : u.oneCell' = true) : RelC w F .dead u

theorem RelC.one {w : World} {F : Nat → Prop} {c : Cell} {u : Value} (h : RelC w F c u) : u.oneCell' = true := by
  cases h <;> first | assumption | rfl

theorem RelC.mono {w w' : World} {F F' : Nat → Prop} (hF : ∀ b, F b → F' b ∧ w'.heap[b]? = w.heap[b]?) {c : Cell} {u : Value} (h : RelC w F c u) : RelC w' F' c u := by
  induction h with
  | v h => exact .v h
  | sl xs hn hl hx hr ih =>
    refine .sl xs hn hl (fun hne => ?_) ih
    obtain ⟨a, rfl, hf, hc⟩ := hx hne
    refine ⟨a, rfl, (hF _ hf).1, fun j x hj => ?_⟩
    have hb : (a.add j).block = a.block := by unfold Addr.add; split <;> rfl
    have := hc j x hj
    rw [World.cell?_of_block (w := w) (by rw [hb]; exact (hF _ hf).2)]
    exact this
  | dead h => exact .dead h

def RelC1 (w : World) (E : Env) : Cell → Value → Prop
  | .own d k, u => E.T d k ∧ u = E.γ d k ∧ u.oneCell' = true
  | c, u => RelC w E.F c u

theorem RelC1.one {w : World} {E : Env} {c : Cell} {u : Value} (h : RelC1 w E c u) : u.oneCell' = true := by
  cases c <;> first | exact h.2.2 | exact RelC.one h

theorem RelC1.of_plain {w : World} {E : Env} {c : Cell} {u : Value} (h : RelC1 w E c u) (hp : plainC c = true) : RelC w E.F c u := by
  cases c <;> first | exact h | simp [plainC] at hp

theorem RelC.to1 {w : World} {E : Env} {c : Cell} {u : Value} (h : RelC w E.F c u) : RelC1 w E c u := by
  cases h <;> first | exact RelC.v ‹_› | exact RelC.dead ‹_› | exact RelC.sl _ ‹_› ‹_› ‹_› ‹_›

structure Le (w : World) (E : Env) (w' : World) (E' : Env) : Prop where
  f : ∀ b, E.F b → E'.F b ∧ w'.heap[b]? = w.heap[b]?
  b : ∀ d k, E.B d k → E'.B d k ∧ E'.φ d k = E.φ d k
  t : ∀ d k, E.T d k → E'.T d k ∧ E'.γ d k = E.γ d k

theorem RelC1.mono {w w' : World} {E E' : Env} (hE : Le w E w' E') {c : Cell} {u : Value} (h : RelC1 w E c u) : RelC1 w' E' c u := by
  cases c with
  | own d k =>
    obtain ⟨ht, rfl, ho⟩ := h
    exact ⟨(hE.t d k ht).1, (hE.t d k ht).2.symm, ho⟩
  | _ => exact RelC.mono hE.f h

def RelL (w : World) (E : Env) (cs : List Cell) (us : List Value) : Prop :=
  cs.length = us.length ∧ ∀ (j : Nat) (c : Cell) (u : Value), cs[j]? = some c → us[j]? = some u → RelC1 w E c u

/-- The same, with no row of the call's own. -/
def RelP (w : World) (F : Nat → Prop) (cs : List Cell) (us : List Value) : Prop :=
  cs.length = us.length ∧ ∀ (j : Nat) (c : Cell) (u : Value), cs[j]? = some c → us[j]? = some u → RelC w F c u

theorem RelL.mono {w w' : World} {E E' : Env} (hE : Le w E w' E') {cs : List Cell} {us : List Value} (h : RelL w E cs us) : RelL w' E' cs us :=
  ⟨h.1, fun j c u hc hu => (h.2 j c u hc hu).mono hE⟩
theorem RelP.mono {w w' : World} {F F' : Nat → Prop} (hF : ∀ b, F b → F' b ∧ w'.heap[b]? = w.heap[b]?) {cs : List Cell} {us : List Value} (h : RelP w F cs us) : RelP w' F' cs us :=
  ⟨h.1, fun j c u hc hu => (h.2 j c u hc hu).mono hF⟩
theorem RelP.toL {w : World} {E : Env} {cs : List Cell} {us : List Value} (h : RelP w E.F cs us) : RelL w E cs us :=
  ⟨h.1, fun j c u hc hu => (h.2 j c u hc hu).to1⟩
theorem RelL.toP {w : World} {E : Env} {cs : List Cell} {us : List Value} (h : RelL w E cs us) (hp : cs.all plainC = true) : RelP w E.F cs us :=
  ⟨h.1, fun j c u hc hu => (h.2 j c u hc hu).of_plain (List.all_eq_true.1 hp c (List.mem_of_getElem? hc))⟩

def RelV1 (w : World) (E : Env) : CV → Value → Prop
  | .one c, u => RelC1 w E c u
  | .agg cs, u => ∃ us : List Value, u = .agg us.toArray ∧ RelL w E cs us
  | _, _ => False

def RelE (w : World) (F : Nat → Prop) (cs : List Cell) (a : Addr) : Prop :=
  ∃ xs : List Value, F a.block ∧ xs.length = cs.length ∧ (∀ j x, xs[j]? = some x → w.cell? (a.add j) = some x) ∧ ∀ (j : Nat) (c : Cell) (x : Value), cs[j]? = some c → xs[j]? = some x → RelC w F c x

def RelV (w : World) (E : Env) : CV → Value → Prop
  | .box d k off, u => E.B d k ∧ u = .pointer (some ⟨E.φ d k, off, none⟩)
  | .elm cs off, u => ∃ a, u = .pointer (some (a.add off)) ∧ RelE w E.F cs a
  | .elo d k off, u => E.T d k ∧ ∃ g n cap, E.γ d k = .slice (some ⟨g, 0, none⟩) n cap ∧ u = .pointer (some ⟨g, off, none⟩)
  | .tup vs, u => ∃ us : List Value, u = .tuple us.toArray ∧ vs.length = us.length ∧ ∀ (j : Nat) (v : CV) (x : Value), vs[j]? = some v → us[j]? = some x → RelV1 w E v x
  | .un, u => u = undef
  | .no, _ => True
  | c, u => RelV1 w E c u

theorem RelV1.mono {w w' : World} {E E' : Env} (hE : Le w E w' E') {c : CV} {u : Value} (h : RelV1 w E c u) : RelV1 w' E' c u := by
  cases c with
  | one c => exact RelC1.mono hE h
  | agg cs => obtain ⟨us, rfl, hl⟩ := h; exact ⟨us, rfl, hl.mono hE⟩
  | _ => exact h.elim

theorem RelE.mono {w w' : World} {F F' : Nat → Prop} (hF : ∀ b, F b → F' b ∧ w'.heap[b]? = w.heap[b]?) {cs : List Cell} {a : Addr} (h : RelE w F cs a) : RelE w' F' cs a := by
  obtain ⟨xs, hf, hl, hc, hr⟩ := h
  refine ⟨xs, (hF _ hf).1, hl, fun j x hj => ?_, fun j c x h1 h2 => (hr j c x h1 h2).mono hF⟩
  have hb : (a.add j).block = a.block := by unfold Addr.add; split <;> rfl
  rw [World.cell?_of_block (w := w) (by rw [hb]; exact (hF _ hf).2)]
  exact hc j x hj

theorem RelV.of1 {w : World} {E : Env} {c : CV} {u : Value} (h : RelV1 w E c u) : RelV w E c u := by
  cases c <;> first | exact h | exact h.elim

theorem RelV.mono {w w' : World} {E E' : Env} (hE : Le w E w' E') {c : CV} {u : Value} (h : RelV w E c u) : RelV w' E' c u := by
  cases c with
  | one c => exact RelV1.mono (c := .one c) hE h
  | agg cs => exact RelV1.mono (c := .agg cs) hE h
  | box d k off => exact ⟨(hE.b d k h.1).1, by rw [(hE.b d k h.1).2]; exact h.2⟩
  | elm cs off => obtain ⟨a, hu, he⟩ := h; exact ⟨a, hu, he.mono hE.f⟩
  | elo d k off => obtain ⟨ht, g, n, cap, hg, hu⟩ := h; exact ⟨(hE.t d k ht).1, g, n, cap, by rw [(hE.t d k ht).2]; exact hg, hu⟩
  | tup vs => obtain ⟨us, hu, hl, hr⟩ := h; exact ⟨us, hu, hl, fun j v x h1 h2 => (hr j v x h1 h2).mono hE⟩
  | un => exact h
  | no => trivial

theorem RelV.cells {w : World} {E : Env} {c : CV} {u : Value} (h : RelV w E c u) {cs : List Cell} (hc : cellsOf c = some cs) : RelL w E cs u.cells.toList := by
  cases c with
  | one c =>
    simp only [cellsOf, Option.some.injEq] at hc
    subst hc
    have ho := RelC1.one (w := w) (E := E) (c := c) (u := u) h
    have hu : u.cells = #[u] := by cases u <;> first | rfl | simp [Value.oneCell'] at ho
    rw [hu]
    refine ⟨rfl, fun j c' u' h1 h2 => ?_⟩
    cases j with
    | zero => simp at h1 h2; subst h1; subst h2; exact h
    | succ j => simp at h1
  | agg cs' =>
    simp only [cellsOf, Option.some.injEq] at hc
    subst hc
    obtain ⟨us, rfl, hl⟩ := h
    simpa [Value.cells] using hl
  | _ => simp [cellsOf] at hc

/-! ### The evaluator's state and the machine's -/

/-- Where a call begins: the world; and the blocks there before it that it may write (none, but for a variable that is handed in by its address). -/
structure Base where
  w : World
  X : Nat → Prop

structure BelX (W0 : Base) (w : World) : Prop where
  os : w.os = W0.w.os
  tape : w.tape = W0.w.tape
  output : w.output = W0.w.output
  size : W0.w.heap.size ≤ w.heap.size
  block : ∀ k, k < W0.w.heap.size → ¬ W0.X k → w.heap[k]? = W0.w.heap[k]?

theorem BelX.trans {W0 : Base} {w w' : World} (h : BelX W0 w) (ho : w'.os = w.os) (ht : w'.tape = w.tape) (hu : w'.output = w.output) (hs : w.heap.size ≤ w'.heap.size) (hb : ∀ k, k < W0.w.heap.size → ¬ W0.X k → w'.heap[k]? = w.heap[k]?) : BelX W0 w' :=
  ⟨ho.trans h.os, ht.trans h.tape, hu.trans h.output, Nat.le_trans h.size hs, fun k hk hx => (hb k hk hx).trans (h.block k hk hx)⟩
theorem BelX.below {W0 : Base} {w w' : World} (h : BelX W0 w) (hb : Below w.heap.size w w') : BelX W0 w' :=
  h.trans hb.os hb.tape hb.output hb.size fun k hk _ => hb.block k (Nat.lt_of_lt_of_le hk h.size)


def Fx (W0 : Base) (S0 : Nat → Prop) (φ : Nat → Nat → Nat) (γ : Nat → Nat → Value) (st : St) (w : World) (b : Nat) : Prop :=
  b < w.heap.size ∧ (b < W0.w.heap.size → S0 b) ∧ (∀ d k cs, tat st.bx d k = some cs → φ d k ≠ b) ∧ ∀ d k t, tat st.tk d k = some t → t.live = true → (γ d k).ownBlock ≠ some b

def envOf (W0 : Base) (S0 : Nat → Prop) (φ : Nat → Nat → Nat) (γ : Nat → Nat → Value) (st : St) (w : World) : Env :=
  { F := Fx W0 S0 φ γ st w, φ := φ, γ := γ, B := fun d k => ∃ cs, tat st.bx d k = some cs, T := fun d k => ∃ t, tat st.tk d k = some t }

/-- The tables' part. -/
structure Mem (W0 : Base) (S0 : Nat → Prop) (φ : Nat → Nat → Nat) (γ : Nat → Nat → Value) (st : St) (w : World) : Prop where
  bel : BelX W0 w
  bxs : ∀ d k cs, tat st.bx d k = some cs → (W0.w.heap.size ≤ φ d k ∨ W0.X (φ d k)) ∧ ∃ us T, w.heap[φ d k]? = some (.cells us T (0, 0)) ∧ RelL w (envOf W0 S0 φ γ st w) cs us.toList
  bxi : ∀ d k cs d' k' cs', tat st.bx d k = some cs → tat st.bx d' k' = some cs' → φ d k = φ d' k' → d = d' ∧ k = k'
  tks : ∀ d k t, tat st.tk d k = some t → t.live = true → ∃ xs, w.ownsRow W0.w.heap.size t.e t.sz (γ d k) t.n xs ∧ RelP w (Fx W0 S0 φ γ st w) t.cs xs
  tki : ∀ d k t d' k' t' b, tat st.tk d k = some t → t.live = true → tat st.tk d' k' = some t' → t'.live = true → (γ d k).ownBlock = some b → (γ d' k').ownBlock = some b → d = d' ∧ k = k'
  tkb : ∀ d k t d' k' cs, tat st.tk d k = some t → t.live = true → tat st.bx d' k' = some cs → (γ d k).ownBlock ≠ some (φ d' k')

structure Rep (W0 : Base) (S0 : Nat → Prop) (φ : Nat → Nat → Nat) (γ : Nat → Nat → Value) (st : St) (a : Act) (w : World) : Prop where
  mem : Mem W0 S0 φ γ st w
  dfr : a.defers = []
  siz : a.tmps.size = st.tm.length
  tms : ∀ (i : Nat) (c : CV) (u : Value), st.tm[i]? = some c → a.tmps[i]? = some u → RelV w (envOf W0 S0 φ γ st w) c u

theorem Rep.getT {W0 : Base} {S0 : Nat → Prop} {φ : Nat → Nat → Nat} {γ : Nat → Nat → Value} {st : St} {a : Act} {w : World} (h : Rep W0 S0 φ γ st a w) (i : Nat) :
    RelV w (envOf W0 S0 φ γ st w) (st.tm.getD i .no) (a.tmps.getD i undef) := by
  by_cases hi : i < st.tm.length
  · have hi' : i < a.tmps.size := by rw [h.siz]; exact hi
    have := h.tms i _ _ (List.getElem?_eq_getElem hi) (Array.getElem?_eq_getElem hi')
    rw [List.getD_eq_getElem?_getD, List.getElem?_eq_getElem hi, Option.getD_some, Array.getD_eq_getD_getElem?, Array.getElem?_eq_getElem hi', Option.getD_some]
    exact this
  · rw [List.getD_eq_getElem?_getD, List.getElem?_eq_none (by omega), Option.getD_none]
    trivial

/-- A slot is written, the tables being as they are told. -/
theorem Rep.put {W0 : Base} {S0 : Nat → Prop} {φ φ' : Nat → Nat → Nat} {γ γ' : Nat → Nat → Value} {st : St} {a : Act} {w w' : World} (h : Rep W0 S0 φ γ st a w) (dst : Option Nat) (r : Res) (u : Value)
    (hmem : Mem W0 S0 φ' γ' (applyR dst st r) w') (hle : Le w (envOf W0 S0 φ γ st w) w' (envOf W0 S0 φ' γ' (applyR dst st r) w'))
    (hv : ∀ d, dst = some d → RelV w' (envOf W0 S0 φ' γ' (applyR dst st r) w') r.val u) : Rep W0 S0 φ' γ' (applyR dst st r) (a.put dst u) w' := by
  refine ⟨hmem, ?_, ?_, ?_⟩
  · cases dst <;> exact h.dfr
  · cases dst with
    | none => exact h.siz
    | some d => simp [Act.put, applyR, h.siz]
  · intro i c x hc hx
    cases dst with
    | none => exact (h.tms i c x hc hx).mono hle
    | some d =>
      simp only [applyR] at hc
      simp only [Act.put] at hx
      by_cases e : d = i
      · subst e
        rw [List.getElem?_set_self'] at hc
        rw [Array.getElem?_setIfInBounds_self] at hx
        split at hx
        · rename_i hlt
          rw [h.siz] at hlt
          rw [List.getElem?_eq_getElem hlt] at hc
          simp at hc hx
          subst hc; subst hx
          exact hv d rfl
        · simp at hx
      · rw [List.getElem?_set_ne e] at hc
        rw [Array.getElem?_setIfInBounds_ne e] at hx
        exact (h.tms i c x hc hx).mono hle

end Go.Proofs.Ytgmciihlmgeecaa.Mt
