import Derived.Test.YtgmciihlmgeecaaMtRow2
import Derived.Test.YtgmciihlmgeecaaSpE
import Derived.SizedLaws
/- No row within an expression that comes in is too long, on any level. Conditions: those that each lemma names. -/
namespace Go.Proofs.Ytgmciihlmgeecaa.Fn
open Go Go.RowKit Go.ChangeShapes Go.WideShapes Go.Proofs.Ytgmciihlmgeecaa.Mt
set_option linter.unusedVariables false
set_option linter.unusedSimpArgs false

section
variable {H : Type} {enc : TypeId × Value → H} {w : World} {base : Nat} {spare : Nat → Bool} {held : Bool} {F : Nat → Prop}

theorem weights_all {P : Program} {e : TypeId} : ∀ {ds : List (DataW H)} {j : Nat} {d : DataW H}, ds[j]? = some d → ∀ n ∈ d.weights P e, n ∈ DataW.weightsAll P e ds
  | [], j, d, h, _, _ => by simp at h
  | x :: r, 0, d, h, n, hn => by
    simp only [List.getElem?_cons_zero, Option.some.injEq] at h
    subst h
    simp only [DataW.weightsAll, List.mem_append]
    exact .inl hn
  | x :: r, j + 1, d, h, n, hn => by
    simp only [List.getElem?_cons_succ] at h
    simp only [DataW.weightsAll, List.mem_append]
    exact .inr (weights_all h n hn)
/-- Cell by cell, as far as both go. -/
def RelI (w : World) (F : Nat → Prop) (cs : List Cell) (us : List Value) : Prop := ∀ (j : Nat) (c : Cell) (u : Value), cs[j]? = some c → us[j]? = some u → RelC w F c u

theorem fields93' : ∃ fs, Try.prog.underlying 93 = some (.struct fs) ∧ fs.toList.map (fun f => (f.type, f.offset)) = [(3, 0), (3, 1), (3, 2), (91, 3)] := by
  have e : (Try.prog.underlying 93).map (fun d => match d with | .struct fs => fs.toList.map (fun f => (f.type, f.offset)) | _ => []) = some [(3, 0), (3, 1), (3, 2), (91, 3)] := by kernel_rfl
  cases hu : Try.prog.underlying 93 with
  | none => rw [hu] at e; cases e
  | some d =>
    rw [hu] at e
    cases d <;> first | (simp at e; done) | skip
    rename_i fs
    exact ⟨fs, rfl, by simpa using e⟩
theorem und91 : Try.prog.underlying 91 = some (.slice 93) := by kernel_rfl
theorem cells91 : Try.prog.cellsOf 91 = 1 := by kernel_rfl
theorem cells93 : Try.prog.cellsOf 93 = 4 := by kernel_rfl
theorem bytes93 : Try.prog.bytesOf 93 = 48 := by kernel_rfl

set_option maxRecDepth 100000 in
theorem okB_trod {B : Nat} (hB : B ≤ 140737488355328) : ∀ (d fuel : Nat) (us : List Value) (x : DataW H × List MemPlace) (cs : List Cell), DataW.trod enc Try.prog w base spare held fuel 93 us = some x → (∀ k ∈ x.1.weights Try.prog 93, k ≤ B) → RelI w F cs us → okB d cs = true
  | 0, _, _, _, _, _, _, _ => rfl
  | d + 1, fuel, us, x, cs, hd, hw, hr => by
    obtain ⟨fs, hu, hfs⟩ := fields93'
    obtain ⟨xs, m, rfl, rfl, hl, hxl, hg⟩ := DataW.trod_struct hu hd
    have hfl : fs.toList.length = 4 := by rw [← List.length_map (f := fun f : Field => (f.type, f.offset)), hfs]; rfl
    have hf3 : fs.toList[3]?.map (fun f : Field => (f.type, f.offset)) = some (91, 3) := by rw [← List.getElem?_map, hfs]; rfl
    obtain ⟨f, hf, he⟩ := Option.map_eq_some_iff.1 hf3
    simp only [Prod.mk.injEq] at he
    obtain ⟨e1, e2⟩ := he
    have h1 := hg 3 f (by rw [← Array.getElem?_toList]; exact hf)
    rw [e1, e2, cells91] at h1
    have h3 : 3 < xs.length := by rw [hxl, ← Array.length_toList, hfl]; omega
    rw [List.getElem?_eq_getElem h3] at h1
    rw [cells93] at hl
    have hu3 : us[3]? = some us[3] := List.getElem?_eq_getElem (by omega)
    have et : (us.drop 3).take 1 = [us[3]] := by
      rw [List.drop_eq_getElem_cons (by omega)]; rfl
    rw [et] at h1
    have nil : kN cs = 0 → okB (d + 1) cs = true := fun h0 => by
      show (decide (kN cs * 48 ≤ 140737488355328) && (List.range (kN cs)).all fun i => okB d (kid cs i)) = true
      rw [h0]; rfl
    have hkn : kN cs = rN (cs.getD 3 .dead) := rfl
    cases hc : cs[3]? with
    | none => exact nil (by rw [hkn, List.getD_eq_getElem?_getD, hc]; rfl)
    | some c =>
      have gd : cs.getD 3 .dead = c := by rw [List.getD_eq_getElem?_getD, hc]; rfl
      have rel := hr 3 c _ hc hu3
      cases c with
      | v y => exact nil (by rw [hkn, gd]; rfl)
      | dead => exact nil (by rw [hkn, gd]; rfl)
      | own a b => exact nil (by rw [hkn, gd]; rfl)
      | sl n l =>
        generalize hq : us[3] = u3 at *
        cases rel with
        | sl ys hn hyl hx hrr =>
          rcases DataW.trod_slice und91 h1 with ⟨h2, _⟩ | ⟨a, len, cap', elems, rest, m', _, h2, hx3, _, _, _, hel, hev, _, _⟩
          · simp only [List.cons.injEq, Value.slice.injEq, and_true] at h2
            obtain ⟨_, h0, _⟩ := h2
            exact nil (by rw [hkn, gd]; exact h0)
          · simp only [List.cons.injEq, Value.slice.injEq, and_true] at h2
            obtain ⟨rfl, rfl, rfl⟩ := h2
            have wts : ∀ k ∈ DataW.weights Try.prog 91 (xs[3]).1, k ≤ B := fun k hk => hw k (by
              show _ ∈ DataW.weights Try.prog 93 (.agg (xs.map (·.1)))
              simp only [DataW.weights, hu]
              refine DataW.weights_mem_each (j := 3) (t := 91) (d := (xs[3]).1) (by rw [List.getElem?_map, hf, ← e1]; rfl) (by simp [h3]) _ hk)
            rw [hx3] at wts
            have w0 : (elems.length + rest.length) * 48 ≤ B := wts _ (by simp [DataW.weights, und91, bytes93])
            have wi : ∀ (i : Nat) (y : DataW H × List MemPlace), elems[i]? = some y → ∀ k ∈ y.1.weights Try.prog 93, k ≤ B := fun i y hy k hk => wts k (by
              simp only [DataW.weights, und91, List.mem_cons, List.mem_append]
              exact .inr (.inl (weights_all (j := i) (by rw [List.getElem?_map, hy]; rfl) k hk)))
            show (decide (kN cs * 48 ≤ 140737488355328) && (List.range (kN cs)).all fun i => okB d (kid cs i)) = true
            have k1 : kN cs = n := by rw [hkn, gd]; rfl
            rw [k1, Bool.and_eq_true, decide_eq_true_eq]
            refine ⟨by omega, List.all_eq_true.2 fun i hi => ?_⟩
            have hi : i < n := by simpa using hi
            have hev := hev i hi
            rw [cells93, List.getElem?_eq_getElem (show i < elems.length by omega)] at hev
            obtain ⟨vs, hv1, hv2⟩ := Option.bind_eq_some_iff.1 hev
            obtain ⟨g1, _, g3⟩ := cells?_get hv1
            refine okB_trod hB d _ vs _ _ hv2 (wi i _ (List.getElem?_eq_getElem (by omega))) fun j c u hj hu' => ?_
            have ek : kid cs i = (l.drop (i * 4)).take 4 := by show ((rC (cs.getD 3 .dead)).drop (i * 4)).take 4 = _; rw [gd]; rfl
            rw [ek, List.getElem?_take] at hj
            split at hj
            · rename_i hj4
              rw [List.getElem?_drop] at hj
              have lt := (List.getElem?_eq_some_iff.1 hj).1
              obtain ⟨a', ha', _, hc'⟩ := hx (by intro e; subst e; simp at lt)
              simp only [Option.some.injEq] at ha'
              subst ha'
              have hy : ys[i * 4 + j]? = some ys[i * 4 + j] := List.getElem?_eq_getElem (by omega)
              have c1 := hc' _ _ hy
              have c2 := g3 j u hu'
              rw [Addr.add_add] at c2
              rw [c2] at c1
              simp only [Option.some.injEq] at c1
              rw [c1]
              exact hrr _ _ _ hj hy
            · cases hj

/-- An argument's. -/
theorem okB_arg {v : Value} {d : DataW H} {ps : List MemPlace} {D B : Nat} (hd : DataW.Trod enc Try.prog w base spare held 93 v d ps) {cs : List Cell} {S : Nat → Prop} (hr : RelV1 w (argEnv w S) (.agg cs) v)
    (hw : ∀ k ∈ d.weights Try.prog 93, k ≤ B) (hB : B ≤ 140737488355328) (hp : cs.all plainC = true) : okB D cs = true := by
  obtain ⟨fuel, hd⟩ := hd
  obtain ⟨us, rfl, hl, hr⟩ := hr
  refine okB_trod (F := (argEnv w S).F) hB D fuel us _ cs (by simpa [Value.cells] using hd) hw fun j c u hc hu => ?_
  exact (hr j c u hc hu).of_plain (List.all_eq_true.1 hp c (List.mem_of_getElem? hc))
end

end Go.Proofs.Ytgmciihlmgeecaa.Fn
