import Derived.Test.YtlfojobligplkaaDoorMtRow
/- Arguments with rows in them, as they are read, to the evaluator's values. Conditions: those that each lemma names. -/
namespace Go.Proofs.YtlfojobligplkaaDoor.Mt
open Go Go.RowKit Go.ChangeShapes Go.WideShapes

/-- Cells of a type's value, down to a depth. -/
def TyC (P : Program) : Nat → TypeId → List Cell → Prop
  | 0, _, _ => False
  | D + 1, t, cs => match P.underlying t with
    | some (.int k) => ∃ n, cs = [.v (.int k n)] ∧ (Lit.int k n).wf = true
    | some .bool => ∃ b, cs = [.v (.bool b)]
    | some (.struct fs) => cs.length = P.cellsOf t ∧ ∀ f ∈ fs.toList, TyC P D f.type ((cs.drop f.offset).take (P.cellsOf f.type))
    | some (.array n e) => cs.length = P.cellsOf t ∧ ∀ i, i < n → TyC P D e ((cs.drop (i * P.cellsOf e)).take (P.cellsOf e))
    | some (.slice e) => ∃ n es, cs = [.sl n es] ∧ es.length = n * P.cellsOf e ∧ n ≤ maxLen ∧ ∀ i, i < n → TyC P D e ((es.drop (i * P.cellsOf e)).take (P.cellsOf e))
    | _ => False

def tile (P : Program) : Nat → List Field → Option Nat
  | o, [] => some o
  | o, f :: r => if f.offset = o then tile P (o + P.cellsOf f.type) r else none

/-- Types of ints, bools, structs, arrays and rows of them: a list that is closed. -/
def closedT (P : Program) (S : List TypeId) : Bool := S.all fun t => match P.underlying t with
  | some (.int _) => true
  | some .bool => true
  | some (.struct fs) => fs.toList.all (fun f => S.contains f.type) && (tile P 0 fs.toList == some (P.cellsOf t))
  | some (.array n e) => S.contains e && (P.cellsOf t == n * P.cellsOf e)
  | some (.slice e) => S.contains e
  | _ => false

section
variable {H : Type} {enc : TypeId × Value → H} {P : Program} {w : World} {base : Nat} {spare : Nat → Bool} {held : Bool} {F : Nat → Prop}

theorem RelP.app2 {cs cs' : List Cell} {vs vs' : List Value} (h : RelP w F cs vs) (h' : RelP w F cs' vs') : RelP w F (cs ++ cs') (vs ++ vs') := by
  refine ⟨by simp [h.1, h'.1], fun j c u hc hu => ?_⟩
  by_cases hj : j < cs.length
  · rw [List.getElem?_append_left hj] at hc
    rw [List.getElem?_append_left (by rw [← h.1]; exact hj)] at hu
    exact h.2 j c u hc hu
  · rw [List.getElem?_append_right (by omega)] at hc
    rw [List.getElem?_append_right (by rw [← h.1]; omega), ← h.1] at hu
    exact h'.2 _ c u hc hu

theorem assemble {G : TypeId → List Cell → Prop} {vs : List Value} : ∀ {fs : List Field} {o e : Nat}, tile P o fs = some e → vs.length = e → (∀ f ∈ fs, ∃ cs, RelP w F cs ((vs.drop f.offset).take (P.cellsOf f.type)) ∧ G f.type cs) →
    o ≤ e ∧ ∃ cs, RelP w F cs (vs.drop o) ∧ ∀ f ∈ fs, o ≤ f.offset ∧ G f.type ((cs.drop (f.offset - o)).take (P.cellsOf f.type))
  | [], o, e, ht, hl, _ => by
    simp only [tile, Option.some.injEq] at ht
    subst ht
    refine ⟨Nat.le_refl _, [], ?_, fun f hf => by cases hf⟩
    rw [List.drop_of_length_le (by omega)]
    exact ⟨rfl, fun j c u h => by simp at h⟩
  | f :: fs, o, e, ht, hl, h => by
    simp only [tile] at ht
    split at ht
    · rename_i ho
      obtain ⟨hle, cs, hcs, hG⟩ := assemble ht hl fun g hg => h g (by simp [hg])
      obtain ⟨c0, h0, g0⟩ := h f (by simp)
      have hlen : c0.length = P.cellsOf f.type := by
        rw [h0.1, List.length_take, List.length_drop]; omega
      refine ⟨by omega, c0 ++ cs, ?_, fun g hg => ?_⟩
      · have e : vs.drop o = (vs.drop f.offset).take (P.cellsOf f.type) ++ vs.drop (o + P.cellsOf f.type) := by
          rw [ho, ← List.drop_drop, List.take_append_drop]
        rw [e]
        exact h0.app2 hcs
      · rcases List.mem_cons.1 hg with rfl | hg
        · refine ⟨by omega, ?_⟩
          rw [ho, Nat.sub_self, List.drop_zero, List.take_append_of_le_length (by omega), List.take_of_length_le (by omega)]
          exact g0
        · obtain ⟨k1, k2⟩ := hG g hg
          refine ⟨by omega, ?_⟩
          have e : (c0 ++ cs).drop (g.offset - o) = cs.drop (g.offset - (o + P.cellsOf f.type)) := by
            rw [List.drop_append, List.drop_of_length_le (by omega), List.nil_append]
            congr 1; omega
          rw [e]
          exact k2
    · cases ht

theorem assembleN {G : List Cell → Prop} {vs : List Value} {s : Nat} : ∀ (n : Nat), n * s ≤ vs.length → (∀ i, i < n → ∃ cs, RelP w F cs ((vs.drop (i * s)).take s) ∧ G cs) →
    ∃ cs, RelP w F cs (vs.take (n * s)) ∧ ∀ i, i < n → G ((cs.drop (i * s)).take s)
  | 0, _, _ => ⟨[], ⟨by simp, fun j c u h => by simp at h⟩, fun i h => by omega⟩
  | n + 1, hl, h => by
    rw [Nat.succ_mul] at hl
    obtain ⟨cs, hcs, hG⟩ := assembleN n (by omega) fun i hi => h i (by omega)
    obtain ⟨c0, h0, g0⟩ := h n (by omega)
    have l1 : cs.length = n * s := by rw [hcs.1, List.length_take]; omega
    have l0 : c0.length = s := by rw [h0.1, List.length_take, List.length_drop]; omega
    refine ⟨cs ++ c0, ?_, fun i hi => ?_⟩
    · rw [Nat.succ_mul, List.take_add]
      exact hcs.app2 h0
    · by_cases hin : i < n
      · have hh : i * s + s ≤ n * s := by rw [← Nat.succ_mul]; exact Nat.mul_le_mul_right s hin
        rw [List.drop_append_of_le_length (by omega), List.take_append_of_le_length (by rw [List.length_drop]; omega)]
        exact hG i hin
      · obtain rfl : i = n := by omega
        rw [List.drop_append, List.drop_of_length_le (by omega), List.nil_append, l1, Nat.sub_self, List.drop_zero, List.take_of_length_le (by omega)]
        exact g0

theorem assembleS {G : List Cell → Prop} {a : Addr} {s : Nat} : ∀ (n : Nat), (∀ i, i < n → ∃ vs cs, vs.length = s ∧ (∀ j x, vs[j]? = some x → w.cell? (a.add (i * s + j)) = some x) ∧ RelP w F cs vs ∧ G cs) →
    ∃ vs cs, vs.length = n * s ∧ (∀ j x, vs[j]? = some x → w.cell? (a.add j) = some x) ∧ RelP w F cs vs ∧ ∀ i, i < n → G ((cs.drop (i * s)).take s)
  | 0, _ => ⟨[], [], by simp, fun j x h => by simp at h, ⟨rfl, fun j c u h => by simp at h⟩, fun i h => by omega⟩
  | n + 1, h => by
    obtain ⟨vs, cs, k1, k2, hcs, hG⟩ := assembleS n fun i hi => h i (by omega)
    obtain ⟨v0, c0, k3, k4, h0, g0⟩ := h n (by omega)
    have l1 : cs.length = n * s := by rw [hcs.1, k1]
    have l0 : c0.length = s := by rw [h0.1, k3]
    refine ⟨vs ++ v0, cs ++ c0, by rw [List.length_append, k1, k3, Nat.succ_mul], fun j x hj => ?_, hcs.app2 h0, fun i hi => ?_⟩
    · by_cases hjn : j < vs.length
      · rw [List.getElem?_append_left hjn] at hj
        exact k2 j x hj
      · rw [List.getElem?_append_right (by omega)] at hj
        have := k4 _ x hj
        rw [k1, show n * s + (j - n * s) = j by omega] at this
        exact this
    · by_cases hin : i < n
      · have hh : i * s + s ≤ n * s := by rw [← Nat.succ_mul]; exact Nat.mul_le_mul_right s hin
        rw [List.drop_append_of_le_length (by omega), List.take_append_of_le_length (by rw [List.length_drop]; omega)]
        exact hG i hin
      · obtain rfl : i = n := by omega
        rw [List.drop_append, List.drop_of_length_le (by omega), List.nil_append, l1, Nat.sub_self, List.drop_zero, List.take_of_length_le (by omega)]
        exact g0

theorem cells?_get {a : Addr} {n : Nat} {vs : List Value} (h : w.cells? base a n = some vs) : vs.length = n ∧ base ≤ a.block ∧ ∀ j x, vs[j]? = some x → w.cell? (a.add j) = some x := by
  have k := World.cells?_some h
  refine ⟨k.2.1, k.1, fun j x hj => ?_⟩
  have hl : j < n := by
    rw [← k.2.1]
    exact (List.getElem?_eq_some_iff.1 hj).1
  rw [k.2.2 j hl, hj]

theorem addr_add (a : Addr) (i j : Nat) : (a.add i).add j = a.add (i + j) := by
  unfold Addr.add
  by_cases h : i = 0
  · subst h; simp
  · by_cases h' : j = 0
    · subst h'; simp [h]
    · simp [h, h', Nat.add_assoc]

theorem cell?_lt {a : Addr} {v : Value} (h : w.cell? a = some v) : a.block < w.heap.size := by
  unfold World.cell? at h
  apply Classical.byContradiction
  intro hn
  have : w.heap[a.block]? = none := Array.getElem?_eq_none (by omega)
  simp [this] at h

theorem trod_ty {S : List TypeId} (hS : closedT P S = true) : ∀ (D : Nat) (t : TypeId), t ∈ S → ∀ (vs : List Value) (x : DataW H × List MemPlace), DataW.trod enc P w base spare held D t vs = some x →
    ∃ cs, RelP w (fun b => b < w.heap.size ∧ True) cs vs ∧ TyC P D t cs
  | 0, t, _, vs, x, h => by simp [DataW.trod] at h
  | D + 1, t, hm, vs, x, h => by
    have ht := List.all_eq_true.1 hS t hm
    have one : ∀ {u : Value}, u.oneCell' = true → RelP w (fun b => b < w.heap.size ∧ True) [.v u] [u] := fun hu => by
      refine ⟨rfl, fun j c y hc hy => ?_⟩
      cases j with
      | zero => simp at hc hy; subst hc; subst hy; exact RelC.v hu
      | succ j => simp at hc
    unfold TyC
    split at ht
    · rename_i k hu
      obtain ⟨n, rfl, _, hn⟩ := DataW.trod_int hu h
      exact ⟨[.v (.int k n)], one rfl, n, rfl, hn⟩
    · rename_i hu
      obtain ⟨b, rfl, _⟩ := DataW.trod_bool hu h
      exact ⟨[.v (.bool b)], one rfl, b, rfl⟩
    · rename_i fs hu
      simp only [Bool.and_eq_true, beq_iff_eq] at ht
      obtain ⟨xs, n, hD, _, hl, hxl, hf⟩ := DataW.trod_struct hu h
      obtain rfl : D = n := by omega
      obtain ⟨_, cs, hcs, hG⟩ := assemble (w := w) (F := fun b => b < w.heap.size ∧ True) (G := fun t cs => TyC P D t cs) (vs := vs) ht.2 hl fun f hfm => by
        obtain ⟨i, hi⟩ := List.getElem?_of_mem hfm
        have hi' : fs[i]? = some f := by simpa using hi
        have h1 := hf i f hi'
        have hlt : i < xs.length := by rw [hxl]; exact (Array.getElem?_eq_some_iff.1 hi').1
        rw [List.getElem?_eq_getElem hlt] at h1
        exact trod_ty hS D f.type (by simpa using List.all_eq_true.1 ht.1 f hfm) _ _ h1
      rw [List.drop_zero] at hcs
      exact ⟨cs, hcs, by rw [hcs.1, hl], fun f hfm => by simpa using (hG f hfm).2⟩
    · rename_i n e hu
      simp only [Bool.and_eq_true, beq_iff_eq] at ht
      obtain ⟨xs, m, hD, _, hl, hxl, hf⟩ := DataW.trod_array hu h
      obtain rfl : D = m := by omega
      have hlen : vs.length = n * P.cellsOf e := by rw [hl, ht.2]
      obtain ⟨cs, hcs, hG⟩ := assembleN (w := w) (F := fun b => b < w.heap.size ∧ True) (G := fun cs => TyC P D e cs) (vs := vs) (s := P.cellsOf e) n (by omega) fun i hi => by
        have h1 := hf i hi
        rw [List.getElem?_eq_getElem (by omega)] at h1
        exact trod_ty hS D e (by simpa using ht.1) _ _ h1
      rw [List.take_of_length_le (by omega)] at hcs
      exact ⟨cs, hcs, by rw [hcs.1, hl], hG⟩
    · rename_i e hu
      rcases DataW.trod_slice hu h with ⟨rfl, _⟩ | ⟨a, len, cap, elems, rest, n, hD, rfl, _, _, hlc, hcm, hel, hget, _⟩
      · refine ⟨[.sl 0 []], ⟨rfl, fun j c y hc hy => ?_⟩, 0, [], rfl, by simp, Nat.zero_le _, fun i hi => by omega⟩
        cases j with
        | zero =>
          simp at hc hy; subst hc; subst hy
          exact RelC.sl [] (Nat.le_refl _) rfl (fun h => absurd rfl h) (fun j c x h => by simp at h)
        | succ j => simp at hc
      · obtain rfl : D = n := by omega
        obtain ⟨us, es, k1, k2, k3, k4⟩ := assembleS (w := w) (F := fun b => b < w.heap.size ∧ True) (G := fun cs => TyC P D e cs) (a := a) (s := P.cellsOf e) len fun i hi => by
          have h1 := hget i hi
          rw [List.getElem?_eq_getElem (by omega), Option.bind_eq_some_iff] at h1
          obtain ⟨vs, hv, h1⟩ := h1
          obtain ⟨cs, h2, h3⟩ := trod_ty hS D e (by simpa using ht) _ _ h1
          obtain ⟨g1, g2, g3⟩ := cells?_get hv
          refine ⟨vs, cs, g1, fun j x hj => ?_, h2, h3⟩
          rw [← addr_add]
          exact g3 j x hj
        refine ⟨[.sl len es], ⟨rfl, fun j c y hc hy => ?_⟩, len, es, rfl, by rw [k3.1, k1], Nat.le_trans hlc hcm, k4⟩
        cases j with
        | zero =>
          simp at hc hy; subst hc; subst hy
          refine RelC.sl us hlc k3.1.symm (fun hne => ⟨a, rfl, ⟨?_, trivial⟩, k2⟩) fun j c x hc hx => k3.2 j c x hc hx
          cases us with
          | nil => exact absurd (List.eq_nil_of_length_eq_zero (by rw [k3.1]; rfl)) hne
          | cons u us => exact cell?_lt (k2 0 u rfl)
        | succ j => simp at hc
    · cases ht

/-- A row, as an argument. -/
theorem open_rowT {S : List TypeId} (hS : closedT P S = true) {t : TypeId} (hm : t ∈ S) {e : TypeId} (hu : P.underlying t = some (.slice e)) {b0 : Nat} {v : Value} {d : DataW H} {ps : List MemPlace} (hval : Value.okWide P w .any b0 t v)
    (hd : DataW.Trod enc P w base spare held t v d ps) : ∃ (n : Nat) (cs : List Cell) (D : Nat), RelV1 w (argEnv w (fun _ => True)) (.one (.sl n cs)) v ∧ TyC P D t [.sl n cs] := by
  obtain ⟨fuel, hf⟩ := hd
  obtain ⟨a, len, cap, rfl⟩ := okWide_slice hu hval
  obtain ⟨cs, h1, h2⟩ := trod_ty hS fuel t hm _ _ hf
  have h1' : RelP w (fun b => b < w.heap.size ∧ True) cs [.slice a len cap] := h1
  cases fuel with
  | zero => exact h2.elim
  | succ D =>
    have h2' := h2
    unfold TyC at h2'
    rw [hu] at h2'
    obtain ⟨n, es, rfl, _⟩ := h2'
    exact ⟨n, es, D + 1, h1'.2 0 _ _ rfl rfl, h2⟩

/-- A struct or an array, as an argument. -/
theorem open_aggT {S : List TypeId} (hS : closedT P S = true) {t : TypeId} (hm : t ∈ S) (ha : aggT P t = true) {b0 : Nat} {v : Value} {d : DataW H} {ps : List MemPlace} (hval : Value.okWide P w .any b0 t v)
    (hd : DataW.Trod enc P w base spare held t v d ps) : ∃ (cs : List Cell) (D : Nat), RelV1 w (argEnv w (fun _ => True)) (.agg cs) v ∧ TyC P D t cs := by
  obtain ⟨fuel, hf⟩ := hd
  have hag : ∃ xs, v = .agg xs := by
    unfold aggT at ha
    cases hu : P.underlying t with
    | none => rw [hu] at ha; cases ha
    | some d =>
      cases d <;> first
        | (rw [hu] at ha; cases ha; done)
        | (unfold Value.okWide at hval; rw [hu] at hval; obtain ⟨cs, h, _⟩ := hval; exact ⟨cs, h⟩)
  obtain ⟨xs, rfl⟩ := hag
  obtain ⟨cs, h1, h2⟩ := trod_ty hS fuel t hm _ _ hf
  have h1' : RelP w (fun b => b < w.heap.size ∧ True) cs xs.toList := h1
  exact ⟨cs, fuel, ⟨xs.toList, by simp, h1'.toL (E := argEnv w (fun _ => True))⟩, h2⟩

/-! ### Rows of numbers -/

def ic (k : IntKind) (l : List Int) : List Cell := l.map fun x => .v (.int k x)
def wfI (k : IntKind) (x : Int) : Prop := (Lit.int k x).wf = true

theorem ic_len (k : IntKind) (l : List Int) : (ic k l).length = l.length := by simp [ic]
theorem ic_append (k : IntKind) (l m : List Int) : ic k l ++ ic k m = ic k (l ++ m) := by simp [ic]
theorem ic_get {k : IntKind} {l : List Int} {j : Nat} (h : j < l.length) : (ic k l).getD j .dead = .v (.int k (l.getD j 0)) := by
  rw [List.getD_eq_getElem?_getD, List.getD_eq_getElem?_getD]
  simp [ic, List.getElem?_eq_getElem h]
theorem ic_all {k : IntKind} {l : List Int} {p : Cell → Bool} (h : ∀ x, p (.v (.int k x)) = true) : (ic k l).all p = true := by
  simp [ic, h]
theorem ic_map {k : IntKind} {l : List Int} : (ic k l).map intC = l := by
  simp [ic, Function.comp_def, intC]

/-- Types of numbers of one kind alone: a list that is closed. -/
def intsT (P : Program) (k : IntKind) (S : List TypeId) : Bool := S.all fun t => match P.underlying t with
  | some (.int k') => k' == k
  | some (.struct fs) => fs.toList.all (fun f => S.contains f.type) && (tile P 0 fs.toList == some (P.cellsOf t))
  | some (.array n e) => S.contains e && (P.cellsOf t == n * P.cellsOf e)
  | _ => false

theorem tile_cover : ∀ {fs : List Field} {o e j : Nat}, tile P o fs = some e → o ≤ j → j < e → ∃ f ∈ fs, f.offset ≤ j ∧ j < f.offset + P.cellsOf f.type
  | [], o, e, j, h, h1, h2 => by
    simp only [tile, Option.some.injEq] at h; omega
  | f :: fs, o, e, j, h, h1, h2 => by
    simp only [tile] at h
    split at h
    · rename_i ho
      by_cases hj : j < o + P.cellsOf f.type
      · exact ⟨f, by simp, by omega, by omega⟩
      · obtain ⟨g, hg, h3⟩ := tile_cover h (Nat.le_of_not_lt hj) h2
        exact ⟨g, by simp [hg], h3⟩
    · cases h

theorem ints_of {k : IntKind} {S : List TypeId} (hS : intsT P k S = true) : ∀ (D : Nat) (t : TypeId) (cs : List Cell), t ∈ S → TyC P D t cs → ∀ c ∈ cs, ∃ x, c = .v (.int k x) ∧ wfI k x
  | 0, _, _, _, h => h.elim
  | D + 1, t, cs, hm, h => by
    intro c hc
    have ht := List.all_eq_true.1 hS t hm
    unfold TyC at h
    split at h
    · rename_i k' hu
      rw [hu] at ht
      obtain ⟨n, rfl, hn⟩ := h
      simp only [beq_iff_eq] at ht
      subst ht
      simp at hc
      exact ⟨n, hc, hn⟩
    · rename_i hu; rw [hu] at ht; cases ht
    · rename_i fs hu
      rw [hu] at ht
      simp only [Bool.and_eq_true, beq_iff_eq] at ht
      obtain ⟨j, hj⟩ := List.getElem?_of_mem hc
      have hlt := (List.getElem?_eq_some_iff.1 hj).1
      obtain ⟨f, hf, g1, g2⟩ := tile_cover ht.2 (Nat.zero_le j) (by rw [← h.1]; exact hlt)
      refine ints_of hS D f.type _ (by simpa using List.all_eq_true.1 ht.1 f hf) (h.2 f hf) c ?_
      refine List.mem_of_getElem? (i := j - f.offset) ?_
      rw [List.getElem?_take, if_pos (by omega), List.getElem?_drop, show f.offset + (j - f.offset) = j by omega, hj]
    · rename_i n e hu
      rw [hu] at ht
      simp only [Bool.and_eq_true, beq_iff_eq] at ht
      obtain ⟨j, hj⟩ := List.getElem?_of_mem hc
      have hlt := (List.getElem?_eq_some_iff.1 hj).1
      have hs : 0 < P.cellsOf e := by
        apply Nat.pos_of_ne_zero; intro e0
        rw [h.1, ht.2, e0] at hlt; omega
      have hq : j / P.cellsOf e < n := by
        rw [Nat.div_lt_iff_lt_mul hs, ← ht.2, ← h.1]; exact hlt
      have hdm := Nat.div_add_mod j (P.cellsOf e)
      rw [Nat.mul_comm] at hdm
      have hmod := Nat.mod_lt j hs
      refine ints_of hS D e _ (by simpa using ht.1) (h.2 _ hq) c ?_
      refine List.mem_of_getElem? (i := j % P.cellsOf e) ?_
      rw [List.getElem?_take, if_pos hmod, List.getElem?_drop, hdm, hj]
    · rename_i e hu; rw [hu] at ht; cases ht
    · exact h.elim

theorem as_ic {k : IntKind} : ∀ {cs : List Cell}, (∀ c ∈ cs, ∃ x, c = .v (.int k x) ∧ wfI k x) → ∃ l, cs = ic k l ∧ ∀ x ∈ l, wfI k x
  | [], _ => ⟨[], rfl, fun x h => by cases h⟩
  | c :: cs, h => by
    obtain ⟨l, rfl, h2⟩ := as_ic (k := k) (cs := cs) fun c hc => h c (by simp [hc])
    obtain ⟨x, rfl, hx⟩ := h c (by simp)
    exact ⟨x :: l, rfl, fun y hy => by
      rcases List.mem_cons.1 hy with rfl | hy
      · exact hx
      · exact h2 y hy⟩

/-- A row of elements of so many numbers. -/
theorem row_ints {k : IntKind} {S : List TypeId} (hS : intsT P k S = true) {t e : TypeId} (hu : P.underlying t = some (.slice e)) (he : e ∈ S) {s : Nat} (hs : P.cellsOf e = s) (hs0 : 0 < s) {D n : Nat} {cs : List Cell} (h : TyC P D t [.sl n cs]) :
    ∃ l, cs = ic k l ∧ l.length = n * s ∧ n ≤ maxLen ∧ ∀ x ∈ l, wfI k x := by
  cases D with
  | zero => exact h.elim
  | succ D =>
    unfold TyC at h
    rw [hu] at h
    obtain ⟨n', es, h1, h2, h3, h4⟩ := h
    simp only [List.cons.injEq, Cell.sl.injEq, and_true] at h1
    obtain ⟨rfl, rfl⟩ := h1
    rw [hs] at h2 h4
    obtain ⟨l, rfl, hl⟩ := as_ic (k := k) (cs := cs) fun c hc => by
      obtain ⟨j, hj⟩ := List.getElem?_of_mem hc
      have hlt := (List.getElem?_eq_some_iff.1 hj).1
      have hq : j / s < n := by
        rw [Nat.div_lt_iff_lt_mul hs0, ← h2]; exact hlt
      have hdm := Nat.div_add_mod j s
      rw [Nat.mul_comm] at hdm
      have hmod := Nat.mod_lt j hs0
      refine ints_of hS D e _ he (h4 _ hq) c ?_
      refine List.mem_of_getElem? (i := j % s) ?_
      rw [List.getElem?_take, if_pos hmod, List.getElem?_drop, hdm, hj]
    exact ⟨l, rfl, by rw [← h2, ic_len], h3, hl⟩

theorem fn_const {v : CV} {g : Nat} (h : fnOf v = some g) : v = .one (.v (.func (.func g) #[] #[])) := by
  unfold fnOf at h
  split at h
  · rename_i g' fs cs
    split at h
    · rename_i hc
      simp only [Option.some.injEq] at h
      subst h
      rw [Array.eq_empty_of_size_eq_zero hc.1, Array.eq_empty_of_size_eq_zero hc.2]
    · cases h
  · cases h

end
end Go.Proofs.YtlfojobligplkaaDoor.Mt
