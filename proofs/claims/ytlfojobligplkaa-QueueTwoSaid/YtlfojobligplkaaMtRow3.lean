import Derived.Test.YtlfojobligplkaaMtRow2
import Derived.SizedLaws
/- How long a row within a struct may be. Conditions: those that each lemma names. -/
namespace Go.Proofs.Ytlfojobligplkaa.Mt
open Go Go.RowKit Go.ChangeShapes Go.WideShapes

section
variable {H : Type} {enc : TypeId × Value → H} {P : Program} {w : World} {base : Nat} {spare : Nat → Bool} {held : Bool}

theorem RelC1.sl_len {E : Env} {n : Nat} {cs : List Cell} {u : Value} (h : RelC1 w E (.sl n cs) u) : ∃ A cap, u = .slice A n cap := by
  have h' : RelC w E.F (.sl n cs) u := h
  cases h' with
  | sl xs hn hl hx hr => exact ⟨_, _, rfl⟩

theorem agg_len {t : TypeId} {fs : Array Field} (hu : P.underlying t = some (.struct fs)) {i : Nat} {f : Field} (hf : fs[i]? = some f) {e : TypeId} (hfu : P.underlying f.type = some (.slice e)) (hc : P.cellsOf f.type = 1)
    {v : Value} {d : DataW H} {ps : List MemPlace} (hd : DataW.Trod enc P w base spare held t v d ps) {E : Env} {cs : List Cell} (hr : RelV1 w E (.agg cs) v) {n : Nat} {cs' : List Cell} (hcs : cs[f.offset]? = some (.sl n cs'))
    {B : Nat} (hB : ∀ k ∈ d.weights P t, k ≤ B) : n * P.bytesOf e ≤ B := by
  obtain ⟨fuel, hd⟩ := hd
  obtain ⟨us, rfl, hl, hr⟩ := hr
  have hlt := (List.getElem?_eq_some_iff.1 hcs).1
  have hu' : us[f.offset]? = some us[f.offset] := List.getElem?_eq_getElem (by omega)
  obtain ⟨A, cap, hA⟩ := (hr _ _ _ hcs hu').sl_len
  rw [hA] at hu'
  obtain ⟨xs, m, rfl, he, _, hxl, hg⟩ := DataW.trod_struct hu hd
  simp only [Prod.mk.injEq] at he
  obtain ⟨rfl, _⟩ := he
  have h1 := hg i f hf
  have hi : i < xs.length := by rw [hxl]; exact (Array.getElem?_eq_some_iff.1 hf).1
  rw [List.getElem?_eq_getElem hi, hc] at h1
  have e1 : ((Value.agg us.toArray).cells.toList.drop f.offset).take 1 = [.slice A n cap] := by
    show (us.drop f.offset).take 1 = _
    have := (List.getElem?_eq_some_iff.1 hu')
    obtain ⟨h3, h4⟩ := this
    rw [List.drop_eq_getElem_cons h3, h4]
    rfl
  rw [e1] at h1
  rcases DataW.trod_slice hfu h1 with ⟨h2, _⟩ | ⟨a, len, cap', elems, rest, m', _, h2, h3, _, _, _, hel, _⟩
  · simp only [List.cons.injEq, Value.slice.injEq, and_true] at h2
    obtain ⟨_, rfl, _⟩ := h2
    rw [Nat.zero_mul]; exact Nat.zero_le _
  · simp only [List.cons.injEq, Value.slice.injEq, and_true] at h2
    obtain ⟨_, rfl, _⟩ := h2
    have h5 := hB ((elems.length + rest.length) * P.bytesOf e) (by
      show _ ∈ DataW.weights P t (.agg (xs.map (·.1)))
      simp only [DataW.weights, hu]
      refine DataW.weights_mem_each (j := i) (t := f.type) (d := xs[i].1) (by simp [hf]) (by simp [hi]) _ ?_
      rw [h3]
      simp [DataW.weights, hfu])
    exact Nat.le_trans (Nat.mul_le_mul_right _ (by omega)) h5

theorem three_of {α : Type} {l : List α} (h : l.length = 3) : ∃ a b c, l = [a, b, c] := by
  match l, h with
  | [a, b, c], _ => exact ⟨a, b, c, rfl⟩
theorem ty_struct {D : Nat} {t : TypeId} {fs : Array Field} {cs : List Cell} (hu : P.underlying t = some (.struct fs)) (h : TyC P D t cs) : ∃ D', D = D' + 1 ∧ (∀ k, P.cellsOf t = k → cs.length = k) ∧ ∀ f ∈ fs.toList, ∀ k, P.cellsOf f.type = k → TyC P D' f.type ((cs.drop f.offset).take k) := by
  cases D with
  | zero => exact h.elim
  | succ D =>
    unfold TyC at h
    rw [hu] at h
    exact ⟨D, rfl, fun k e => e ▸ h.1, fun f hf k e => e ▸ h.2 f hf⟩
theorem ty_slice {D : Nat} {t e : TypeId} {cs : List Cell} (hu : P.underlying t = some (.slice e)) (h : TyC P D t cs) : ∃ n es, cs = [.sl n es] := by
  cases D with
  | zero => exact h.elim
  | succ D =>
    unfold TyC at h
    rw [hu] at h
    obtain ⟨n, es, e, _⟩ := h
    exact ⟨n, es, e⟩
end

end Go.Proofs.Ytlfojobligplkaa.Mt
