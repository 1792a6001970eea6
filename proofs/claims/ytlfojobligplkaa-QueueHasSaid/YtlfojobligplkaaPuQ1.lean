import Derived.Test.YtlfojobligplkaaSpQ
/- Elems' cells: how they are read and written; rows that are nil. Conditions: those that each lemma names. -/
namespace Go.Proofs.Ytlfojobligplkaa.Fn
open Go Go.RowKit Go.Proofs.Ytlfojobligplkaa.Mt
set_option linter.unusedVariables false
set_option linter.unusedSimpArgs false

theorem okRow_ic {s n : Nat} {l : List Int} (h : l.length = n * s) (hn : n ≤ 8796093022208) : okRow s (.sl n (ic .i64 l)) = true := by
  simp only [okRow, Bool.and_eq_true, beq_iff_eq, decide_eq_true_eq, ic_len]
  exact ⟨⟨ic_all fun _ => rfl, h⟩, hn⟩
theorem okRowU_ic {s n : Nat} {l : List Int} (h : l.length = n * s) : okRowU s (.sl n (ic .i64 l)) = true := by
  simp only [okRowU, Bool.and_eq_true, beq_iff_eq, ic_len]
  exact ⟨ic_all fun _ => rfl, h⟩
theorem ic_set {k : IntKind} {l : List Int} {j : Nat} {x : Int} : (ic k l).set j (.v (.int k x)) = ic k (l.set j x) := by
  simp [ic]
theorem flat_ic {l : List Int} : (ic .i64 l).all flatC = true := ic_all fun _ => rfl
theorem plain_ic {l : List Int} : (ic .i64 l).all plainC = true := ic_all fun _ => rfl

/-- An element of two numbers is read. -/
theorem rd2 {n : Nat} {l : List Int} {i : Int} (hl : l.length = n * 2) (h0 : 0 ≤ i) (hi : i < n) :
    (decide (0 ≤ i) && decide (i < (n : Int)) && decide (i.toNat * 2 < (ic .i64 l).length)) = true ∧
    (decide (i.toNat * 2 + 2 ≤ (ic .i64 l).length) && (okK (some .i64) ((ic .i64 l).getD (i.toNat * 2) .dead) && (okK (some .i64) ((ic .i64 l).getD (i.toNat * 2 + 1) .dead) && true))) = true ∧
    intC ((ic .i64 l).getD (i.toNat * 2) .dead) = (pairAt l i.toNat).1 ∧ intC ((ic .i64 l).getD (i.toNat * 2 + 1) .dead) = (pairAt l i.toNat).2 := by
  rw [ic_get (by omega), ic_get (by omega), ic_len]
  refine ⟨by simp; omega, ?_, rfl, rfl⟩
  simp only [okK, isInt, Bool.and_true, Bool.and_eq_true, decide_eq_true_eq]
  exact ⟨by omega, rfl, rfl⟩

theorem pair_set {l : List Int} {j : Nat} {p : Int × Int} : ((ic .i64 l).set (j * 2) (.v (.int .i64 p.1))).set (j * 2 + 1) (.v (.int .i64 p.2)) = ic .i64 (setP l j p) := by
  rw [ic_set, ic_set]; rfl
theorem setP_len (l : List Int) (j : Nat) (p : Int × Int) : (setP l j p).length = l.length := by simp [setP]

theorem take2 {l : List Int} {j : Nat} (h : j * 2 + 1 < l.length) : l.take (j * 2) ++ [(pairAt l j).1, (pairAt l j).2] = l.take ((j + 1) * 2) := by
  have e : [(pairAt l j).1, (pairAt l j).2] = [l[j * 2], l[j * 2 + 1]] := by
    simp [pairAt, List.getD_eq_getElem?_getD, List.getElem?_eq_getElem h, List.getElem?_eq_getElem (by omega : j * 2 < l.length)]
  rw [e, show (j + 1) * 2 = j * 2 + 1 + 1 by omega, List.take_succ_eq_append_getElem h, List.take_succ_eq_append_getElem (by omega : j * 2 < l.length), List.append_assoc]
  rfl

/-! ### Rows that are nil -/
section
variable {P : Program} {g : Nat}

theorem sound_weaken {vs vs' : List CV} {r : Ret} (h : SoundAt P g vs' r) (hw : ∀ (w : World) (S : Nat → Prop) (us : List Value), ArgsRel w S vs us → ArgsRel w S vs' us) : SoundAt P g vs r :=
  fun w S us hA => h w S us (hw w S us hA)

theorem args_swap {pre post : List CV} {v v' : CV} {w : World} {S : Nat → Prop} {us : List Value} (hv : ∀ u, RelV1 w (argEnv w S) v u → RelV1 w (argEnv w S) v' u) (h : ArgsRel w S (pre ++ v :: post) us) : ArgsRel w S (pre ++ v' :: post) us := by
  refine ⟨by simpa using h.1, fun j c u hc hu => ?_⟩
  by_cases hj : j = pre.length
  · subst hj
    simp at hc
    subst hc
    exact hv u (h.2 _ v u (by simp) hu)
  · refine h.2 j c u ?_ hu
    by_cases hl : j < pre.length
    · rw [List.getElem?_append_left hl] at hc ⊢; exact hc
    · rw [List.getElem?_append_right (by omega)] at hc ⊢
      rw [show j - pre.length = (j - pre.length - 1) + 1 by omega, List.getElem?_cons_succ] at hc ⊢
      exact hc

theorem relC_nil {w : World} {F : Nat → Prop} {u : Value} (h : RelC w F (.v (.slice none 0 0)) u) : RelC w F (.sl 0 []) u := by
  cases h
  exact RelC.sl [] (Nat.le_refl _) rfl (fun h => absurd rfl h) (fun j c x h => by simp at h)

theorem rel_nilE {w : World} {S : Nat → Prop} {a b : Cell} {u : Value} (h : RelV1 w (argEnv w S) (.agg [a, b, .v (.slice none 0 0)]) u) : RelV1 w (argEnv w S) (.agg [a, b, .sl 0 []]) u := by
  obtain ⟨us, rfl, hl⟩ := h
  refine ⟨us, rfl, hl.1, fun j c x hc hx => ?_⟩
  match j, hc with
  | 0, hc => exact hl.2 0 c x (by simpa using hc) hx
  | 1, hc => exact hl.2 1 c x (by simpa using hc) hx
  | 2, hc =>
    simp at hc
    subst hc
    exact RelC.to1 (relC_nil (hl.2 2 (.v (.slice none 0 0)) x rfl hx))
  | j + 3, hc => simp at hc

theorem el_elim {pre post : List CV} {f : Int → Int → Nat → List Int → Ret} {v : CV} (h : okEl v = true)
    (hm : ∀ (lo hi : Int) (n : Nat) (l : List Int), l.length = n * 2 → n ≤ 8796093022208 → SoundAt P g (pre ++ .agg [.v (.int .i64 lo), .v (.int .i64 hi), .sl n (ic .i64 l)] :: post) (f lo hi n l)) :
    SoundAt P g (pre ++ v :: post) (f (elLo v) (elHi v) (elN v) (elL v)) := by
  unfold okEl at h
  split at h
  · rename_i a b c
    simp only [Bool.and_eq_true] at h
    obtain ⟨⟨h1, h2⟩, h3⟩ := h
    have ea : a = .v (.int .i64 (intC a)) := (okK_asK (k := some .i64) h1).symm
    have eb : b = .v (.int .i64 (intC b)) := (okK_asK (k := some .i64) h2).symm
    unfold okRow at h3
    split at h3
    · rename_i n cs
      simp only [Bool.and_eq_true, beq_iff_eq, decide_eq_true_eq] at h3
      have ec : cs = ic .i64 (cs.map intC) := by
        have := h3.1.1
        clear h3
        induction cs with
        | nil => rfl
        | cons c cs ih =>
          simp only [List.all_cons, Bool.and_eq_true] at this
          rw [List.map_cons]
          show _ = Cell.v _ :: ic .i64 (cs.map intC)
          rw [← ih this.2, show Cell.v (.int .i64 (intC c)) = c from okK_asK (k := some .i64) this.1]
      have k := hm (intC a) (intC b) n (cs.map intC) (by rw [List.length_map, h3.1.2]) h3.2
      rw [← ec, ← ea, ← eb] at k
      exact k
    · have k := hm (intC a) (intC b) 0 [] rfl (by decide)
      rw [← ea, ← eb] at k
      exact sound_weaken k fun w S us hA => args_swap (fun u => rel_nilE) hA
    · cases h3
  · cases h

theorem row_elim {pre post : List CV} {s : Nat} {f : Nat → List Int → Ret} {v : CV} (h : okR s v = true)
    (hm : ∀ (n : Nat) (l : List Int), l.length = n * s → n ≤ 8796093022208 → SoundAt P g (pre ++ .one (.sl n (ic .i64 l)) :: post) (f n l)) :
    SoundAt P g (pre ++ v :: post) (f (rowN (cellA v 0)) (rowL (cellA v 0))) := by
  unfold okR at h
  split at h
  · rename_i c
    unfold okRow at h
    split at h
    · rename_i n cs
      simp only [Bool.and_eq_true, beq_iff_eq, decide_eq_true_eq] at h
      have ec : cs = ic .i64 (cs.map intC) := by
        have := h.1.1
        clear h
        induction cs with
        | nil => rfl
        | cons c cs ih =>
          simp only [List.all_cons, Bool.and_eq_true] at this
          rw [List.map_cons]
          show _ = Cell.v _ :: ic .i64 (cs.map intC)
          rw [← ih this.2, show Cell.v (.int .i64 (intC c)) = c from okK_asK (k := some .i64) this.1]
      have k := hm n (cs.map intC) (by rw [List.length_map, h.1.2]) h.2
      rw [← ec] at k
      exact k
    · have k := hm 0 [] (by simp) (by decide)
      refine sound_weaken k fun w S us hA => args_swap (fun u hu => ?_) hA
      exact RelC.to1 (E := argEnv w S) (relC_nil hu)
    · cases h
  · cases h

theorem row_elimU {pre post : List CV} {s : Nat} {f : Nat → List Int → Ret} {v : CV} (h : okRU s v = true)
    (hm : ∀ (n : Nat) (l : List Int), l.length = n * s → SoundAt P g (pre ++ .one (.sl n (ic .i64 l)) :: post) (f n l)) :
    SoundAt P g (pre ++ v :: post) (f (rowN (cellA v 0)) (rowL (cellA v 0))) := by
  unfold okRU at h
  split at h
  · rename_i c
    unfold okRowU at h
    split at h
    · rename_i n cs
      simp only [Bool.and_eq_true, beq_iff_eq] at h
      have ec : cs = ic .i64 (cs.map intC) := by
        have := h.1
        clear h
        induction cs with
        | nil => rfl
        | cons c cs ih =>
          simp only [List.all_cons, Bool.and_eq_true] at this
          rw [List.map_cons]
          show _ = Cell.v _ :: ic .i64 (cs.map intC)
          rw [← ih this.2, show Cell.v (.int .i64 (intC c)) = c from okK_asK (k := some .i64) this.1]
      have k := hm n (cs.map intC) (by rw [List.length_map, h.2])
      rw [← ec] at k
      exact k
    · have k := hm 0 [] (by simp)
      refine sound_weaken k fun w S us hA => args_swap (fun u hu => ?_) hA
      exact RelC.to1 (E := argEnv w S) (relC_nil hu)
    · cases h
  · cases h

/-- A result's nil row is an own row of none. -/
theorem sound_own {vs : List CV} {a b : Cell} {e s : Nat} (ha : plainC a = true) (hb : plainC b = true) (h : SoundAt P g vs (Ret.mk (.agg [a, b, .v (.slice none 0 0)]) [])) : SoundAt P g vs (Ret.mk (.agg [a, b, .own 0 0]) [⟨e, s, 0, [], true⟩]) := by
  intro w S us hA
  refine (h w S us hA).mono ?_
  rintro en w' ⟨u, γ, he, hr⟩
  refine ⟨u, fun _ => .slice none 0 0, he, ?_⟩
  have hF : ∀ b', retF w w' S 0 γ b' → retF w w' S 1 (fun _ => .slice none 0 0) b' ∧ w'.heap[b']? = w'.heap[b']? := fun b' hb' => ⟨⟨hb'.1, hb'.2.1, fun j hj => by simp [Value.ownBlock]⟩, rfl⟩
  have lift : ∀ {c : Cell} {x : Value}, plainC c = true → RelC1 w' (retEnv w w' S 0 γ) c x → RelC1 w' (retEnv w w' S 1 (fun _ => .slice none 0 0)) c x := fun hp hc =>
    RelC.to1 (RelC.mono hF (RelC1.of_plain hc hp))
  refine ⟨hr.bel, fun j t hj => ?_, fun j j' b' hj hj' h1 _ => by simp [Value.ownBlock] at h1, ?_⟩
  · cases j with
    | zero =>
      simp at hj
      subst hj
      exact ⟨[], ⟨by simp, .inl ⟨rfl, rfl⟩⟩, rfl, fun j c u h => by simp at h⟩
    | succ j => simp at hj
  · obtain ⟨xs, rfl, hl⟩ := hr.val
    refine ⟨xs, rfl, hl.1, fun j c x hc hx => ?_⟩
    match j, hc with
    | 0, hc => simp at hc; subst hc; exact lift ha (hl.2 0 a x rfl hx)
    | 1, hc => simp at hc; subst hc; exact lift hb (hl.2 1 b x rfl hx)
    | 2, hc =>
      simp at hc
      subst hc
      have := hl.2 2 (.v (.slice none 0 0)) x rfl hx
      have hx' : x = .slice none 0 0 := rel_v this
      subst hx'
      exact ⟨⟨rfl, Nat.zero_lt_one⟩, rfl, rfl⟩
    | j + 3, hc => simp at hc

theorem sound_own1 {vs : List CV} {e s : Nat} (h : SoundAt P g vs (Ret.mk (.one (.v (.slice none 0 0))) [])) : SoundAt P g vs (Ret.mk (.one (.own 0 0)) [⟨e, s, 0, [], true⟩]) := by
  intro w S us hA
  refine (h w S us hA).mono ?_
  rintro en w' ⟨u, γ, he, hr⟩
  refine ⟨u, fun _ => .slice none 0 0, he, ?_⟩
  refine ⟨hr.bel, fun j t hj => ?_, fun j j' b' hj hj' h1 _ => by simp [Value.ownBlock] at h1, ?_⟩
  · cases j with
    | zero =>
      simp at hj
      subst hj
      exact ⟨[], ⟨by simp, .inl ⟨rfl, rfl⟩⟩, rfl, fun j c u h => by simp at h⟩
    | succ j => simp at hj
  · have hu : u = .slice none 0 0 := rel_v (show RelV w' _ (.one (.v (.slice none 0 0))) u from hr.val)
    subst hu
    exact ⟨⟨rfl, Nat.zero_lt_one⟩, rfl, rfl⟩
end
end Go.Proofs.Ytlfojobligplkaa.Fn
