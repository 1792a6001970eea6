import Derived.Test.YtlfojobligplkaaDoorMtRow
/- Rows of a call's own that it hands back, told as rows that nobody writes any more. Conditions: those that each lemma names. -/
namespace Go.Proofs.YtlfojobligplkaaDoor.Mt
open Go Go.RowKit

def frzC (ts : List Tok) : Cell → Cell
  | .own d k => bif d == 0 then (match ts[k]? with | some t => .sl t.n t.cs | none => .own d k) else .own d k
  | .v x => match x with
    | .slice none 0 0 => .sl 0 []
    | x => .v x
  | c => c
def frz1 (ts : List Tok) : CV → CV
  | .one c => .one (frzC ts c)
  | .agg cs => .agg (cs.map (frzC ts))
  | c => c
def frzV (ts : List Tok) : CV → CV
  | .tup vs => .tup (vs.map (frz1 ts))
  | c => frz1 ts c
def frzR (r : Ret) : Ret := ⟨frzV r.toks r.cv, []⟩

theorem frz_v (ts : List Tok) (x : Value) : (x = .slice none 0 0 ∧ frzC ts (.v x) = .sl 0 []) ∨ frzC ts (.v x) = .v x := by
  simp only [frzC]
  split
  · exact .inl ⟨rfl, rfl⟩
  · exact .inr rfl

section
variable {P : Program} {w w' : World} {S : Nat → Prop} {r : Ret} {u : Value} {γ : Nat → Value}

theorem frzC_rel (hr : RetRel w w' S r u γ) {c : Cell} {x : Value} (h : RelC1 w' (retEnv w w' S r.toks.length γ) c x) : RelC1 w' (retEnv w w' S 0 γ) (frzC r.toks c) x := by
  have mono : ∀ {c : Cell} {u : Value}, RelC w' (retF w w' S r.toks.length γ) c u → RelC w' (retF w w' S 0 γ) c u := fun h => h.mono fun b hb => ⟨⟨hb.1, hb.2.1, fun j hj => by omega⟩, rfl⟩
  cases c with
  | own d k =>
    obtain ⟨⟨rfl, hk⟩, rfl, ho⟩ := h
    obtain ⟨xs, hown, hp⟩ := hr.toks k _ (List.getElem?_eq_getElem hk)
    have e : frzC r.toks (.own 0 k) = .sl r.toks[k].n r.toks[k].cs := by simp [frzC, List.getElem?_eq_getElem hk]
    rw [e]
    have hb : ∀ b, (γ k).ownBlock = some b → w.heap.size ≤ b ∧ b < w'.heap.size := fun b hb => by
      rcases hown.2 with ⟨hv, _⟩ | ⟨g, cap, cur, hv, h1, h2, _⟩
      · rw [hv] at hb; cases hb
      · rw [hv] at hb
        simp only [Value.ownBlock, Option.some.injEq] at hb
        subst hb
        exact ⟨h1, (Array.getElem?_eq_some_iff.1 h2).1⟩
    obtain ⟨A, cap, hv, hn, hA⟩ := own_view hown
    show RelC w' (retF w w' S 0 γ) (.sl _ _) (γ k)
    have hv' : γ k = .slice A r.toks[k].n cap := hv
    rw [hv']
    refine RelC.sl xs hn hp.1.symm (fun hne => ?_) fun j c x h1 h2 => mono (hp.2 j c x h1 h2)
    obtain ⟨b, rfl, hc⟩ := hA (by intro e; subst e; exact hne (List.eq_nil_of_length_eq_zero hp.1))
    have hob := hb b.block (by rw [hv]; rfl)
    exact ⟨b, rfl, ⟨hob.2, fun h => by omega, fun j hj => by omega⟩, hc⟩
  | v x =>
    have h : RelC w' (retF w w' S r.toks.length γ) (.v x) _ := h
    cases h with
    | v h' =>
      rcases frz_v r.toks x with ⟨rfl, e⟩ | e
      · rw [e]; exact RelC.sl [] (Nat.le_refl _) rfl (fun e => absurd rfl e) fun j c x h1 => by simp at h1
      · rw [e]; exact RelC.v h'
  | sl n cs => exact mono h
  | dead => exact mono h

theorem frz1_rel (hr : RetRel w w' S r u γ) {c : CV} {x : Value} (h : RelV1 w' (retEnv w w' S r.toks.length γ) c x) : RelV1 w' (retEnv w w' S 0 γ) (frz1 r.toks c) x := by
  cases c with
  | one c => exact frzC_rel hr h
  | agg cs =>
    obtain ⟨us, rfl, h1, h2⟩ := h
    refine ⟨us, rfl, by simp [h1], fun j c u hc hu => ?_⟩
    rw [List.getElem?_map, Option.map_eq_some_iff] at hc
    obtain ⟨c', hc', rfl⟩ := hc
    exact frzC_rel hr (h2 j c' u hc' hu)
  | _ => exact h.elim

/-- Of such results alone. -/
def sees : CV → Bool
  | .one _ => true
  | .agg _ => true
  | .tup _ => true
  | _ => false

theorem RetRel.frz (hr : RetRel w w' S r u γ) (hc : sees r.cv = true) : RetRel w w' S (frzR r) u γ := by
  refine ⟨hr.bel, fun j t h => by simp [frzR] at h, fun j j' b h => by simp [frzR] at h, ?_⟩
  have hv := hr.val
  show RelV w' (retEnv w w' S 0 γ) (frzV r.toks r.cv) u
  cases e : r.cv with
  | one c => rw [e] at hv; exact RelV.of1 (c := frz1 r.toks (.one c)) (frz1_rel hr hv)
  | agg cs => rw [e] at hv; exact RelV.of1 (c := frz1 r.toks (.agg cs)) (frz1_rel hr hv)
  | tup vs =>
    rw [e] at hv
    obtain ⟨us, rfl, hl, h2⟩ := hv
    refine ⟨us, rfl, by simp [hl], fun j v x h1 h3 => ?_⟩
    rw [List.getElem?_map, Option.map_eq_some_iff] at h1
    obtain ⟨v', hv', rfl⟩ := h1
    exact frz1_rel hr (h2 j v' x hv' h3)
  | _ => rw [e] at hc; cases hc

theorem SoundAt.frz {g : Nat} {vs : List CV} (h : SoundAt P g vs r) (hc : sees r.cv = true) : SoundAt P g vs (frzR r) := by
  intro w S us hA
  refine (h w S us hA).mono ?_
  rintro e w' ⟨u, γ, rfl, hr⟩
  exact ⟨u, γ, rfl, hr.frz hc⟩

end
end Go.Proofs.YtlfojobligplkaaDoor.Mt
