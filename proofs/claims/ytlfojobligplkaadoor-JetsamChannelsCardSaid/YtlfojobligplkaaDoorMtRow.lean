import Derived.Test.YtlfojobligplkaaDoorMtFn2
import Derived.ProofKit
import Derived.OpenShut
import Derived.Carry
/- From a law's arguments, as they are read, to the evaluator's values. Conditions: those that each lemma names. -/
namespace Go.Proofs.YtlfojobligplkaaDoor.Mt
open Go Go.RowKit Go.ChangeShapes Go.WideShapes
section
variable {H : Type} {enc : TypeId × Value → H} {P : Program} {w : World} {base : Nat} {spare : Nat → Bool} {held : Bool}

def wfK : Option IntKind → Value → Prop
  | some k, v => ∃ n, v = .int k n ∧ (Lit.int k n).wf = true
  | none, v => ∃ b, v = .bool b

/-- Values of these kinds, none beyond its type. -/
def KindsWf (ks : List (Option IntKind)) (xs : List Value) : Prop := xs.length = ks.length ∧ ∀ (j : Nat) (k : Option IntKind) (x : Value), ks[j]? = some k → xs[j]? = some x → wfK k x

theorem KindsWf.append {ks k2 : List (Option IntKind)} {xs ys : List Value} (h : KindsWf ks xs) (h2 : KindsWf k2 ys) : KindsWf (ks ++ k2) (xs ++ ys) := by
  refine ⟨by simp [h.1, h2.1], fun j k x hk hx => ?_⟩
  by_cases hj : j < ks.length
  · rw [List.getElem?_append_left hj] at hk
    rw [List.getElem?_append_left (by rw [h.1]; exact hj)] at hx
    exact h.2 j k x hk hx
  · rw [List.getElem?_append_right (by omega)] at hk
    rw [List.getElem?_append_right (by rw [h.1]; omega), h.1] at hx
    exact h2.2 _ k x hk hx

theorem KindsWf.nil : KindsWf [] [] := ⟨rfl, fun j k x h => by simp at h⟩
theorem KindsWf.end' {xs : List Value} (h : KindsWf [] xs) : xs = [] := List.eq_nil_of_length_eq_zero h.1
theorem KindsWf.int {k : IntKind} {ks : List (Option IntKind)} {xs : List Value} (h : KindsWf (some k :: ks) xs) : ∃ n r, xs = .int k n :: r ∧ (Lit.int k n).wf = true ∧ KindsWf ks r := by
  cases xs with
  | nil => exact absurd h.1 (by simp)
  | cons x r =>
    obtain ⟨n, rfl, hn⟩ := h.2 0 (some k) x rfl rfl
    exact ⟨n, r, rfl, hn, by simpa using h.1, fun j k x hk hx => h.2 (j + 1) k x hk hx⟩
theorem KindsWf.bool {ks : List (Option IntKind)} {xs : List Value} (h : KindsWf (none :: ks) xs) : ∃ b r, xs = .bool b :: r ∧ KindsWf ks r := by
  cases xs with
  | nil => exact absurd h.1 (by simp)
  | cons x r =>
    obtain ⟨b, rfl⟩ := h.2 0 none x rfl rfl
    exact ⟨b, r, rfl, by simpa using h.1, fun j k x hk hx => h.2 (j + 1) k x hk hx⟩

theorem cellsOf_size {t : TypeId} {n : Nat} (h : sizeT P t = some n) : P.cellsOf t = n := by
  unfold sizeT at h
  unfold Program.cellsOf
  rw [h]
  rfl

theorem take_more {α : Type} (l : List α) (a b : Nat) : l.take (a + b) = l.take a ++ (l.drop a).take b := by
  rw [List.take_add]

theorem fields_flat {D : Nat} (ih : ∀ (t : TypeId) (ks : List (Option IntKind)), flatK P D t = some ks → sizeT P t = some ks.length → ∀ fuel cs (x : DataW H × List MemPlace), DataW.trod enc P w base spare held fuel t cs = some x → KindsWf ks cs) {cs : List Value} :
    ∀ (fs : List Field) (ks0 ks : List (Option IntKind)), fs.foldl (foldK P D) (some ks0) = some ks → KindsWf ks0 (cs.take ks0.length) →
      (∀ f ∈ fs, ∃ (n : Nat) (x : DataW H × List MemPlace), DataW.trod enc P w base spare held n f.type ((cs.drop f.offset).take (P.cellsOf f.type)) = some x) → KindsWf ks (cs.take ks.length)
  | [], ks0, ks, h, hk, _ => by
    simp only [List.foldl_nil, Option.some.injEq] at h
    subst h
    exact hk
  | f :: fs, ks0, ks, h, hk, ht => by
    rw [List.foldl_cons] at h
    cases hf : foldK P D (some ks0) f with
    | none => rw [hf, foldK_none] at h; cases h
    | some ks1 =>
      rw [hf] at h
      simp only [foldK, Option.bind_some] at hf
      split at hf
      · rename_i hc
        simp only [Option.bind_eq_some_iff] at hf
        obtain ⟨k2, hk2, hf⟩ := hf
        split at hf
        · rename_i hsz
          simp only [Option.some.injEq] at hf
          subst hf
          obtain ⟨n, x, hx⟩ := ht f (by simp)
          rw [cellsOf_size hsz, hc.2] at hx
          have := ih f.type k2 hk2 hsz n _ x hx
          refine fields_flat ih fs (ks0 ++ k2) ks h ?_ fun f hf => ht f (by simp [hf])
          rw [List.length_append, take_more]
          exact hk.append this
        · cases hf
      · cases hf

theorem items_flat {ke : List (Option IntKind)} {cs : List Value} : ∀ (n : Nat), (∀ i, i < n → KindsWf ke ((cs.drop (i * ke.length)).take ke.length)) → KindsWf (List.replicate n ke).flatten (cs.take (n * ke.length))
  | 0, _ => by simpa using KindsWf.nil
  | n + 1, h => by
    have e : (List.replicate (n + 1) ke).flatten = (List.replicate n ke).flatten ++ ke := by
      rw [List.replicate_succ', List.flatten_append]
      simp
    rw [e, Nat.succ_mul, take_more]
    exact (items_flat n fun i hi => h i (by omega)).append (h n (by omega))

theorem flat_trod : ∀ (D : Nat) (t : TypeId) (ks : List (Option IntKind)), flatK P D t = some ks → sizeT P t = some ks.length → ∀ fuel cs (x : DataW H × List MemPlace), DataW.trod enc P w base spare held fuel t cs = some x → KindsWf ks cs
  | 0, _, _, h, _, _, _, _, _ => by simp [flatK] at h
  | D + 1, t, ks, h, hs, fuel, cs, x, hx => by
    unfold flatK at h
    split at h
    · rename_i k hu
      split at h
      · simp only [Option.some.injEq] at h
        subst h
        obtain ⟨n, rfl, _, hn⟩ := DataW.trod_int hu hx
        refine ⟨rfl, fun j k' x' h1 h2 => ?_⟩
        cases j with
        | zero => simp at h1 h2; subst h1; subst h2; exact ⟨n, rfl, hn⟩
        | succ j => simp at h1
      · cases h
    · rename_i hu
      split at h
      · simp only [Option.some.injEq] at h
        subst h
        obtain ⟨b, rfl, _⟩ := DataW.trod_bool hu hx
        refine ⟨rfl, fun j k' x' h1 h2 => ?_⟩
        cases j with
        | zero => simp at h1 h2; subst h1; subst h2; exact ⟨b, rfl⟩
        | succ j => simp at h1
      · cases h
    · rename_i fs hu
      split at h
      · cases h
      · obtain ⟨xs, n, rfl, _, hl, hxl, hf⟩ := DataW.trod_struct hu hx
        have := fields_flat (flat_trod D) (cs := cs) fs.toList [] ks h KindsWf.nil fun f hfm => by
          obtain ⟨i, hi⟩ := List.getElem?_of_mem hfm
          have hi' : fs[i]? = some f := by simpa using hi
          have h1 := hf i f hi'
          have hlt : i < xs.length := by rw [hxl]; exact (Array.getElem?_eq_some_iff.1 hi').1
          rw [List.getElem?_eq_getElem hlt] at h1
          exact ⟨n, _, h1⟩
        rw [cellsOf_size hs] at hl
        rw [← hl, List.take_length] at this
        exact this
    · rename_i n e hu
      simp only [Option.bind_eq_some_iff] at h
      obtain ⟨ke, hke, h⟩ := h
      split at h
      · rename_i hse
        simp only [Option.some.injEq] at h
        subst h
        obtain ⟨xs, m, rfl, _, hl, hxl, hf⟩ := DataW.trod_array hu hx
        have := items_flat (cs := cs) (ke := ke) n fun i hi => by
          have h1 := hf i hi
          rw [List.getElem?_eq_getElem (by omega), cellsOf_size hse] at h1
          exact flat_trod D e ke hke hse m _ _ h1
        have hlen : (List.replicate n ke).flatten.length = n * ke.length := by simp
        rw [cellsOf_size hs, hlen] at hl
        rw [← hl, List.take_length] at this
        exact this
      · cases h
    · cases h

/-- A struct or an array of plain values, as an argument. -/
theorem open_flat {t : TypeId} {ks : List (Option IntKind)} (hk : flatK P 20 t = some ks) (hs : sizeT P t = some ks.length) (ha : aggT P t = true) {b0 : Nat} {v : Value} {d : DataW H} {ps : List MemPlace} (hval : Value.okWide P w .any b0 t v)
    (hd : DataW.Trod enc P w base spare held t v d ps) : ∃ xs : List Value, v = .agg xs.toArray ∧ KindsWf ks xs := by
  obtain ⟨fuel, hf⟩ := hd
  have hag : ∃ cs, v = .agg cs := by
    unfold aggT at ha
    cases hu : P.underlying t with
    | none => rw [hu] at ha; cases ha
    | some d =>
      cases d <;> first
        | (rw [hu] at ha; cases ha; done)
        | (unfold Value.okWide at hval; rw [hu] at hval; obtain ⟨cs, h, _⟩ := hval; exact ⟨cs, h⟩)
  obtain ⟨cs, rfl⟩ := hag
  exact ⟨cs.toList, by simp, flat_trod 20 t ks hk hs fuel _ _ hf⟩

/-- A law that returns true: what the row asks of the walk. -/
theorem law_calls {g : Nat} {vs : List CV} (h : SoundAt P g vs { cv := .one (.v (.bool true)) }) {us : List Value} (hA : ArgsRel w (fun _ => True) vs us) : Calls P g us.toArray w fun e w' => e = .returned (.bool true) ∧ Below w.heap.size w w' := by
  refine (h w _ us hA).mono ?_
  rintro e w' ⟨u, γ, rfl, hr⟩
  have := rel_v (show RelV w' _ (.one (.v (.bool true))) u from hr.val)
  subst this
  exact ⟨rfl, hr.bel⟩

/-! ### What is told of callees -/

/-- Plain values of these kinds, told by a value. -/
def okA (ks : List (Option IntKind)) : CV → Bool
  | .agg cs => (cs.length == ks.length) && okKs cs 0 ks
  | _ => false
def okO (k : Option IntKind) : CV → Bool
  | .one c => okK k c
  | _ => false
def cellsA : CV → List Cell
  | .agg cs => cs
  | .one c => [c]
  | _ => []
def cellA (v : CV) (j : Nat) : Cell := (cellsA v).getD j .dead

theorem okA_elim {ks : List (Option IntKind)} {v : CV} (h : okA ks v = true) {motive : CV → Prop} (hm : motive (.agg (asKs (cellsA v) 0 ks))) : motive v := by
  cases v <;> first | (cases h; done) | skip
  rename_i cs
  simp only [okA, Bool.and_eq_true, beq_iff_eq] at h
  have e : asKs cs 0 ks = cs := by rw [okKs_asKs h.2 (by omega), ← h.1]; simp
  rw [show asKs (cellsA (.agg cs)) 0 ks = cs from e] at hm
  exact hm
theorem okO_elim {k : Option IntKind} {v : CV} (h : okO k v = true) {motive : CV → Prop} (hm : motive (.one (asK k (cellA v 0)))) : motive v := by
  cases v <;> first | (cases h; done) | skip
  rename_i c
  rw [show asK k (cellA (.one c) 0) = c from okK_asK h] at hm
  exact hm

theorem ctx_nil : CtxOk P (CtxQ.ctx {}) := ⟨fun g vs r h => by simp [CtxQ.ctx, lookF] at h, fun g cs vs cs' h => by simp [CtxQ.ctx, lookF] at h⟩

theorem ctx_cons {Q : CtxQ} (hQ : CtxOk P Q.ctx) {g : Nat} {f : List CV → Option (Bool × Ret)} (hg : okF P g = true) (h : ∀ vs r, f vs = some (true, r) → SoundAt P g vs r) : CtxOk P (CtxQ.ctx { Q with calls := (g, f) :: Q.calls }) := by
  refine ⟨fun g' vs r hr => ?_, fun g cs vs cs' hr => hQ.pcall g cs vs cs' hr⟩
  simp only [CtxQ.ctx, lookF] at hr
  cases e : (g == g') with
  | true =>
    rw [e] at hr
    rw [beq_iff_eq] at e
    subst e
    simp only [cond_true, Option.bind_some, Option.bind_eq_some_iff] at hr
    obtain ⟨⟨b, r'⟩, h1, h2⟩ := hr
    cases b with
    | true =>
      simp only [cond_true, Option.some.injEq] at h2
      subst h2
      exact ⟨hg, h vs r' h1⟩
    | false => cases h2
  | false =>
    rw [e] at hr
    exact hQ.call g' vs r hr

theorem ctx_pcons {Q : CtxQ} (hQ : CtxOk P Q.ctx) {g : Nat} {f : List Cell → List CV → Option (Bool × List Cell)} (hg : okF P g = true) (h : ∀ cs vs r, f cs vs = some (true, r) → cs.all flatC = true → PSoundAt P g cs vs r) : CtxOk P (CtxQ.ctx { Q with pcalls := (g, f) :: Q.pcalls }) := by
  refine ⟨fun g vs r hr => hQ.call g vs r hr, fun g' cs vs cs' hr => ?_⟩
  simp only [CtxQ.ctx, lookF] at hr
  cases e : (g == g') with
  | true =>
    rw [e] at hr
    rw [beq_iff_eq] at e
    subst e
    simp only [cond_true, Option.bind_some, Option.bind_eq_some_iff] at hr
    obtain ⟨⟨b, r'⟩, h1, h2⟩ := hr
    cases b with
    | true =>
      simp only [cond_true, Option.some.injEq] at h2
      subst h2
      exact ⟨hg, h cs vs r' h1⟩
    | false => cases h2
  | false =>
    rw [e] at hr
    exact hQ.pcall g' cs vs cs' hr

/-- Both ways. -/
theorem cond_i {q : Bool} {A B : Prop} (h1 : q = true → A) (h2 : q = false → B) : (bif q then A else B) := by
  cases q with
  | true => exact h1 rfl
  | false => exact h2 rfl

theorem args_nil {S : Nat → Prop} : ArgsRel w S [] [] := ⟨rfl, fun j v u h => by simp at h⟩
theorem args_cons {S : Nat → Prop} {v : CV} {u : Value} {vs : List CV} {us : List Value} (h : RelV1 w (argEnv w S) v u) (hs : ArgsRel w S vs us) : ArgsRel w S (v :: vs) (u :: us) := by
  refine ⟨by simp [hs.1], fun j v' u' h1 h2 => ?_⟩
  cases j with
  | zero => simp at h1 h2; subst h1; subst h2; exact h
  | succ j => exact hs.2 j v' u' h1 h2
theorem arg_v {S : Nat → Prop} {x : Value} (h : x.oneCell' = true) : RelV1 w (argEnv w S) (.one (.v x)) x := RelC.v h
theorem arg_agg {S : Nat → Prop} {xs : List Value} (h : ∀ x ∈ xs, x.oneCell' = true) : RelV1 w (argEnv w S) (.agg (xs.map .v)) (.agg xs.toArray) :=
  ⟨xs, rfl, vals_relL _ h⟩

end
end Go.Proofs.YtlfojobligplkaaDoor.Mt
