import Derived.Test.YtlfojobligplkaaDoorPuC1
import Derived.Test.YtlfojobligplkaaDoorWC2
/- Functions of Elems, in numbers. Conditions: those that each lemma names. -/
namespace Go.Proofs.YtlfojobligplkaaDoor.Fn
open Go Go.RowKit Go.Proofs Go.Proofs.YtlfojobligplkaaDoor.Mt
set_option linter.unusedVariables false
set_option linter.unusedSimpArgs false
theorem okRow_ic {s n : Nat} {l : List Int} (h : l.length = n * s) (hn : n ≤ 8796093022208) : okRow s (.sl n (ic .i64 l)) = true := by
  simp only [okRow, Bool.and_eq_true, beq_iff_eq, decide_eq_true_eq, ic_len]
  exact ⟨⟨ic_all fun _ => rfl, h⟩, hn⟩
theorem ic_set {k : IntKind} {l : List Int} {j : Nat} {x : Int} : (ic k l).set j (.v (.int k x)) = ic k (l.set j x) := by
  simp [ic]
theorem flat_ic {l : List Int} : (ic .i64 l).all flatC = true := ic_all fun _ => rfl
theorem plain_ic {l : List Int} : (ic .i64 l).all plainC = true := ic_all fun _ => rfl

/-- An element of two numbers is read. -/
theorem rd2 {n : Nat} {l : List Int} {i : Int} (hl : l.length = n * 2) (h0 : 0 ≤ i) (hi : i < n) :
    (decide (0 ≤ i) && decide (i < (n : Int)) && decide (i.toNat * 2 < (ic .i64 l).length)) = true ∧
    (decide (i.toNat * 2 + 2 ≤ (ic .i64 l).length) && (okK (some .i64) ((ic .i64 l).getD (i.toNat * 2) .dead) && (okK (some .i64) ((ic .i64 l).getD (i.toNat * 2 + 1) .dead) && true))) = true ∧
    intC ((ic .i64 l).getD (i.toNat * 2) .dead) = (pairAt l i.toNat).1 ∧ intC ((ic .i64 l).getD (i.toNat * 2 + 1) .dead) = (pairAt l i.toNat).2 := by
  rw [ic_get (by omega), ic_get (by omega), ic_len]
  refine ⟨by simp; omega, ?_, rfl, rfl⟩
  simp only [okK, isInt, Bool.and_true, Bool.and_eq_true, decide_eq_true_eq]
  exact ⟨by omega, rfl, rfl⟩

theorem pair_set {l : List Int} {j : Nat} {p : Int × Int} : ((ic .i64 l).set (j * 2) (.v (.int .i64 p.1))).set (j * 2 + 1) (.v (.int .i64 p.2)) = ic .i64 (setP l j p) := by
  rw [ic_set, ic_set]; rfl
theorem setP_len (l : List Int) (j : Nat) (p : Int × Int) : (setP l j p).length = l.length := by simp [setP]

theorem take2 {l : List Int} {j : Nat} (h : j * 2 + 1 < l.length) : l.take (j * 2) ++ [(pairAt l j).1, (pairAt l j).2] = l.take ((j + 1) * 2) := by
  have e : [(pairAt l j).1, (pairAt l j).2] = [l[j * 2], l[j * 2 + 1]] := by
    simp [pairAt, List.getD_eq_getElem?_getD, List.getElem?_eq_getElem h, List.getElem?_eq_getElem (by omega : j * 2 < l.length)]
  rw [e, show (j + 1) * 2 = j * 2 + 1 + 1 by omega, List.take_succ_eq_append_getElem h, List.take_succ_eq_append_getElem (by omega : j * 2 < l.length), List.append_assoc]
  rfl

/-! ### Rows that are nil -/
section
variable {P : Program} {g : Nat}

theorem sound_weaken {vs vs' : List CV} {r : Ret} (h : SoundAt P g vs' r) (hw : ∀ (w : World) (S : Nat → Prop) (us : List Value), ArgsRel w S vs us → ArgsRel w S vs' us) : SoundAt P g vs r :=
  fun w S us hA => h w S us (hw w S us hA)

theorem args_swap {pre post : List CV} {v v' : CV} {w : World} {S : Nat → Prop} {us : List Value} (hv : ∀ u, RelV1 w (argEnv w S) v u → RelV1 w (argEnv w S) v' u) (h : ArgsRel w S (pre ++ v :: post) us) : ArgsRel w S (pre ++ v' :: post) us := by
  refine ⟨by simpa using h.1, fun j c u hc hu => ?_⟩
  by_cases hj : j = pre.length
  · subst hj
    simp at hc
    subst hc
    exact hv u (h.2 _ v u (by simp) hu)
  · refine h.2 j c u ?_ hu
    by_cases hl : j < pre.length
    · rw [List.getElem?_append_left hl] at hc ⊢; exact hc
    · rw [List.getElem?_append_right (by omega)] at hc ⊢
      rw [show j - pre.length = (j - pre.length - 1) + 1 by omega, List.getElem?_cons_succ] at hc ⊢
      exact hc

theorem relC_nil {w : World} {F : Nat → Prop} {u : Value} (h : RelC w F (.v (.slice none 0 0)) u) : RelC w F (.sl 0 []) u := by
  cases h
  exact RelC.sl [] (Nat.le_refl _) rfl (fun h => absurd rfl h) (fun j c x h => by simp at h)

theorem rel_nilE {w : World} {S : Nat → Prop} {a b : Cell} {u : Value} (h : RelV1 w (argEnv w S) (.agg [a, b, .v (.slice none 0 0)]) u) : RelV1 w (argEnv w S) (.agg [a, b, .sl 0 []]) u := by
  obtain ⟨us, rfl, hl⟩ := h
  refine ⟨us, rfl, hl.1, fun j c x hc hx => ?_⟩
  match j, hc with
  | 0, hc => exact hl.2 0 c x (by simpa using hc) hx
  | 1, hc => exact hl.2 1 c x (by simpa using hc) hx
  | 2, hc =>
    simp at hc
    subst hc
    exact RelC.to1 (relC_nil (hl.2 2 (.v (.slice none 0 0)) x rfl hx))
  | j + 3, hc => simp at hc

theorem el_elim {pre post : List CV} {f : Int → Int → Nat → List Int → Ret} {v : CV} (h : okEl v = true)
    (hm : ∀ (lo hi : Int) (n : Nat) (l : List Int), l.length = n * 2 → n ≤ 8796093022208 → SoundAt P g (pre ++ .agg [.v (.int .i64 lo), .v (.int .i64 hi), .sl n (ic .i64 l)] :: post) (f lo hi n l)) :
    SoundAt P g (pre ++ v :: post) (f (elLo v) (elHi v) (elN v) (elL v)) := by
  unfold okEl at h
  split at h
  · rename_i a b c
    simp only [Bool.and_eq_true] at h
    obtain ⟨⟨h1, h2⟩, h3⟩ := h
    have ea : a = .v (.int .i64 (intC a)) := (okK_asK (k := some .i64) h1).symm
    have eb : b = .v (.int .i64 (intC b)) := (okK_asK (k := some .i64) h2).symm
    unfold okRow at h3
    split at h3
    · rename_i n cs
      simp only [Bool.and_eq_true, beq_iff_eq, decide_eq_true_eq] at h3
      have ec : cs = ic .i64 (cs.map intC) := by
        have := h3.1.1
        clear h3
        induction cs with
        | nil => rfl
        | cons c cs ih =>
          simp only [List.all_cons, Bool.and_eq_true] at this
          rw [List.map_cons]
          show _ = Cell.v _ :: ic .i64 (cs.map intC)
          rw [← ih this.2, show Cell.v (.int .i64 (intC c)) = c from okK_asK (k := some .i64) this.1]
      have k := hm (intC a) (intC b) n (cs.map intC) (by rw [List.length_map, h3.1.2]) h3.2
      rw [← ec, ← ea, ← eb] at k
      exact k
    · have k := hm (intC a) (intC b) 0 [] rfl (by decide)
      rw [← ea, ← eb] at k
      exact sound_weaken k fun w S us hA => args_swap (fun u => rel_nilE) hA
    · cases h3
  · cases h

theorem row_elim {pre post : List CV} {s : Nat} {f : Nat → List Int → Ret} {v : CV} (h : okR s v = true)
    (hm : ∀ (n : Nat) (l : List Int), l.length = n * s → n ≤ 8796093022208 → SoundAt P g (pre ++ .one (.sl n (ic .i64 l)) :: post) (f n l)) :
    SoundAt P g (pre ++ v :: post) (f (rowN (cellA v 0)) (rowL (cellA v 0))) := by
  unfold okR at h
  split at h
  · rename_i c
    unfold okRow at h
    split at h
    · rename_i n cs
      simp only [Bool.and_eq_true, beq_iff_eq, decide_eq_true_eq] at h
      have ec : cs = ic .i64 (cs.map intC) := by
        have := h.1.1
        clear h
        induction cs with
        | nil => rfl
        | cons c cs ih =>
          simp only [List.all_cons, Bool.and_eq_true] at this
          rw [List.map_cons]
          show _ = Cell.v _ :: ic .i64 (cs.map intC)
          rw [← ih this.2, show Cell.v (.int .i64 (intC c)) = c from okK_asK (k := some .i64) this.1]
      have k := hm n (cs.map intC) (by rw [List.length_map, h.1.2]) h.2
      rw [← ec] at k
      exact k
    · have k := hm 0 [] (by simp) (by decide)
      refine sound_weaken k fun w S us hA => args_swap (fun u hu => ?_) hA
      exact RelC.to1 (E := argEnv w S) (relC_nil hu)
    · cases h
  · cases h

/-- A result's nil row is an own row of none. -/
theorem sound_own {vs : List CV} {a b : Cell} {e s : Nat} (ha : plainC a = true) (hb : plainC b = true) (h : SoundAt P g vs (Ret.mk (.agg [a, b, .v (.slice none 0 0)]) [])) : SoundAt P g vs (Ret.mk (.agg [a, b, .own 0 0]) [⟨e, s, 0, [], true⟩]) := by
  intro w S us hA
  refine (h w S us hA).mono ?_
  rintro en w' ⟨u, γ, he, hr⟩
  refine ⟨u, fun _ => .slice none 0 0, he, ?_⟩
  have hF : ∀ b', retF w w' S 0 γ b' → retF w w' S 1 (fun _ => .slice none 0 0) b' ∧ w'.heap[b']? = w'.heap[b']? := fun b' hb' => ⟨⟨hb'.1, hb'.2.1, fun j hj => by simp [Value.ownBlock]⟩, rfl⟩
  have lift : ∀ {c : Cell} {x : Value}, plainC c = true → RelC1 w' (retEnv w w' S 0 γ) c x → RelC1 w' (retEnv w w' S 1 (fun _ => .slice none 0 0)) c x := fun hp hc =>
    RelC.to1 (RelC.mono hF (RelC1.of_plain hc hp))
  refine ⟨hr.bel, fun j t hj => ?_, fun j j' b' hj hj' h1 _ => by simp [Value.ownBlock] at h1, ?_⟩
  · cases j with
    | zero =>
      simp at hj
      subst hj
      exact ⟨[], ⟨by simp, .inl ⟨rfl, rfl⟩⟩, rfl, fun j c u h => by simp at h⟩
    | succ j => simp at hj
  · obtain ⟨xs, rfl, hl⟩ := hr.val
    refine ⟨xs, rfl, hl.1, fun j c x hc hx => ?_⟩
    match j, hc with
    | 0, hc => simp at hc; subst hc; exact lift ha (hl.2 0 a x rfl hx)
    | 1, hc => simp at hc; subst hc; exact lift hb (hl.2 1 b x rfl hx)
    | 2, hc =>
      simp at hc
      subst hc
      have := hl.2 2 (.v (.slice none 0 0)) x rfl hx
      have hx' : x = .slice none 0 0 := rel_v this
      subst hx'
      exact ⟨⟨rfl, Nat.zero_lt_one⟩, rfl, rfl⟩
    | j + 3, hc => simp at hc

theorem sound_own1 {vs : List CV} {e s : Nat} (h : SoundAt P g vs (Ret.mk (.one (.v (.slice none 0 0))) [])) : SoundAt P g vs (Ret.mk (.one (.own 0 0)) [⟨e, s, 0, [], true⟩]) := by
  intro w S us hA
  refine (h w S us hA).mono ?_
  rintro en w' ⟨u, γ, he, hr⟩
  refine ⟨u, fun _ => .slice none 0 0, he, ?_⟩
  refine ⟨hr.bel, fun j t hj => ?_, fun j j' b' hj hj' h1 _ => by simp [Value.ownBlock] at h1, ?_⟩
  · cases j with
    | zero =>
      simp at hj
      subst hj
      exact ⟨[], ⟨by simp, .inl ⟨rfl, rfl⟩⟩, rfl, fun j c u h => by simp at h⟩
    | succ j => simp at hj
  · have hu : u = .slice none 0 0 := rel_v (show RelV w' _ (.one (.v (.slice none 0 0))) u from hr.val)
    subst hu
    exact ⟨⟨rfl, Nat.zero_lt_one⟩, rfl, rfl⟩
end

theorem noneL_succ (k : Nat) : noneL (k + 1) = noneL k ++ [1, 0] := by
  unfold noneL
  rw [List.replicate_succ', List.flatten_append]
  rfl
theorem noneL_len (k : Nat) : (noneL k).length = k * 2 := by
  induction k with
  | zero => rfl
  | succ k ih => rw [noneL_succ, List.length_append, ih]; simp; omega

theorem small_app {n : Nat} (h : n ≤ 8796093022208) : (decide (n * 16 ≤ 140737488355328) && true && true && true && true && true) = true := by
  simp; omega

theorem f4_spec (c0 c1 c2 c3 t : Int) (cr : Cell) (h1 : 1 ≤ t) (h2 : t ≤ 1000) : f4_wp c0 c1 c2 c3 t cr (fun r' => r' = elRet 29 0 0 t.toNat (noneL t.toNat)) := by
  unfold f4_wp
  refine LoopP.ind (I := sumE (fun _ => True) (fun z => 1 ≤ z.1 ∧ z.1 ≤ t ∧ z.2.1 = z.1.toNat ∧ z.2.2 = ic .i64 (noneL z.1.toNat))) (μ := sumE (fun _ => t.toNat + 1) (fun z => (t - z.1).toNat)) ?_ trivial
  rintro (_ | ⟨i, n, cs⟩) k0 hI hk
  · dsimp only [sumE_l, sumE_r]
    refine cond_i (fun _ => hk _ ?_ ?_) (fun q => ?_)
    · exact ⟨by dsimp only; omega, by dsimp only; omega, rfl, rfl⟩
    · dsimp only [sumE_l, sumE_r]; omega
    · have := of_decide_eq_false q; omega
  · dsimp only [sumE_l, sumE_r] at hI ⊢
    obtain ⟨i1, i2, i3, i4⟩ := hI
    subst i3
    subst i4
    refine cond_i (fun q => ck_i (small_app (by omega)) (hk _ ?_ ?_)) (fun q => ?_)
    · have q := of_decide_eq_true q
      have w : IntKind.i64.wrap (i + 1) = i + 1 := i64_id (by omega) (by omega)
      refine ⟨by dsimp only; omega, by dsimp only; omega, by dsimp only; omega, ?_⟩
      dsimp only
      rw [w, show (i + 1).toNat = i.toNat + 1 by omega, noneL_succ, ← ic_append]
      rfl
    · have q := of_decide_eq_true q
      have w : IntKind.i64.wrap (i + 1) = i + 1 := i64_id (by omega) (by omega)
      dsimp only [sumE_l, sumE_r]
      rw [w]; omega
    · have q := of_decide_eq_false q
      have e : i = t := by omega
      subst e
      rfl

theorem allR_succ (p : Nat → Bool) (k : Nat) : (List.range (k + 1)).all p = ((List.range k).all p && p k) := by
  simp [List.range_succ]
theorem allR_false {p : Nat → Bool} {i m : Nat} (h : i < m) (hp : p i = false) : (List.range m).all p = false := by
  rw [List.all_eq_false]
  exact ⟨i, by simpa using h, by simp [hp]⟩
theorem bo {p q : Bool} (h : p = q) : (fun r' => r' = boRet q) (Ret.mk (.one (.v (.bool p))) []) := by rw [h]; rfl

theorem msg_read {n m : Nat} {l q : List Int} {i : Int} (hl : l.length = n * 2) (hq : q.length = m * 2) (h0 : 0 ≤ i) (hi : i < m) {A B : Prop} (hA : msgOk n l (pairAt q i.toNat).1 (pairAt q i.toNat).2 = true → A) (hB : msgOk n l (pairAt q i.toNat).1 (pairAt q i.toNat).2 = false → B) :
    (bif decide ((pairAt q i.toNat).1 < 0) then B else (bif decide ((pairAt q i.toNat).1 ≥ (n : Int)) then B else
      (bif decide (0 ≤ (pairAt q i.toNat).1) && decide ((pairAt q i.toNat).1 < (n : Int)) && decide ((pairAt q i.toNat).1.toNat * 2 < (ic .i64 l).length) then
        (bif decide ((pairAt q i.toNat).1.toNat * 2 + 2 ≤ (ic .i64 l).length) && (okK (some .i64) ((ic .i64 l).getD ((pairAt q i.toNat).1.toNat * 2) .dead) && (okK (some .i64) ((ic .i64 l).getD ((pairAt q i.toNat).1.toNat * 2 + 1) .dead) && true)) then
          (bif !(decide (intC ((ic .i64 l).getD ((pairAt q i.toNat).1.toNat * 2) .dead) ≤ (pairAt q i.toNat).2) && decide ((pairAt q i.toNat).2 ≤ intC ((ic .i64 l).getD ((pairAt q i.toNat).1.toNat * 2 + 1) .dead))) then B else A) else False) else False))) := by
  generalize pairAt q i.toNat = p at *
  refine cond_i (fun h => hB ?_) (fun h => cond_i (fun h2 => hB ?_) (fun h2 => ?_))
  · unfold msgOk; rw [decide_eq_false (by have := of_decide_eq_true h; omega : ¬ 0 ≤ p.1)]; rfl
  · unfold msgOk; rw [decide_eq_false (by have := of_decide_eq_true h2; omega : ¬ p.1 < (n : Int)), Bool.and_false]; rfl
  have h := of_decide_eq_false h
  have h2 := of_decide_eq_false h2
  obtain ⟨r1, r2, r3, r4⟩ := rd2 (i := p.1) hl (by omega) (by omega)
  refine ck_i r1 (ck_i r2 ?_)
  rw [r3, r4]
  have e : msgOk n l p.1 p.2 = (decide ((pairAt l p.1.toNat).1 ≤ p.2) && decide (p.2 ≤ (pairAt l p.1.toNat).2)) := by
    unfold msgOk; rw [decide_eq_true (by omega : 0 ≤ p.1), decide_eq_true (by omega : p.1 < (n : Int))]; rfl
  refine cond_i (fun h3 => hB ?_) (fun h3 => hA ?_)
  · rw [e, ← Bool.not_eq_true']; exact h3
  · rw [e]; simpa using h3

theorem f10_spec (lo hi : Int) (n : Nat) (l : List Int) (m : Nat) (q : List Int) (hl : l.length = n * 2) (hq : q.length = m * 2) (hm : m ≤ 8796093022208) :
    f10_wp lo hi n (ic .i64 l) m (ic .i64 q) (fun r' => r' = boRet (hasP lo hi n l m q)) := by
  unfold f10_wp
  refine LoopP.ind (I := fun i => 0 ≤ i ∧ i ≤ (m : Int) ∧ (List.range i.toNat).all (fun j => msgOk n l (pairAt q j).1 (pairAt q j).2) = true) (μ := fun i => ((m : Int) - i).toNat) ?_ ⟨by omega, by omega, rfl⟩
  intro i k0 ⟨i1, i2, i3⟩ hk
  dsimp only
  refine cond_i (fun h => ?_) (fun h => ?_)
  · have h := of_decide_eq_true h
    obtain ⟨r1, r2, r3, r4⟩ := rd2 hq i1 h
    have w : IntKind.i64.wrap (i + 1) = i + 1 := i64_id (by omega) (by omega)
    refine ck_i r1 (ck_i r2 ?_)
    rw [r3, r4, w]
    refine msg_read hl hq i1 h (fun g => hk _ ⟨by omega, by omega, ?_⟩ (by omega)) (fun g => bo ?_)
    · rw [show (i + 1).toNat = i.toNat + 1 by omega, allR_succ, i3, g]; rfl
    · unfold hasP
      rw [allR_false (i := i.toNat) (m := m) (by omega) g, Bool.and_false]
  · have h := of_decide_eq_false h
    refine bo ?_
    have e : i.toNat = m := by omega
    rw [e] at i3
    unfold hasP
    rw [i3, Bool.and_true]

theorem min_if (a b : Int) : (if a < b then a else b) = min b a := by split <;> omega
theorem okc {q : Bool} {l : List Int} (h : q = true) : (q && true && true && ((ic .i64 l).all flatC && true) && ((ic .i64 l).all plainC && true) && true) = true := by
  rw [h, flat_ic, plain_ic]; rfl

theorem f6_spec (c0 size c2 c3 c4 : Int) (cr : Cell) (lo hi : Int) (n : Nat) (l : List Int) (t i0 i1 : Int) (hl : l.length = n * 2) (hn : n ≤ 8796093022208) :
    f6_wp c0 size c2 c3 c4 cr lo hi n (ic .i64 l) t i0 i1 (fun r' => r' = elRet 29 (sendP size lo hi n l t i0 i1).1 (sendP size lo hi n l t i0 i1).2.1 n (sendP size lo hi n l t i0 i1).2.2) := by
  unfold f6_wp
  rw [ic_map]
  have same : ∀ {X : Prop}, X → (fun r' => r' = elRet 29 (sendP size lo hi n l t i0 i1).1 (sendP size lo hi n l t i0 i1).2.1 n (sendP size lo hi n l t i0 i1).2.2) (Ret.mk (.agg [.v (.int .i64 lo), .v (.int .i64 hi), .own 0 0]) [⟨29, 2, n, ic .i64 l, true⟩]) ∨ ¬ (i0 > i1 ∨ t < 0 ∨ t ≥ (n : Int)) := fun _ => by
    by_cases h : i0 > i1 ∨ t < 0 ∨ t ≥ (n : Int)
    · left
      have e : sendP size lo hi n l t i0 i1 = (lo, hi, l) := if_pos h
      rw [e]; rfl
    · exact .inr h
  refine ck_i (okc (okRow_ic hl hn)) ?_
  refine cond_i (fun h => ?_) (fun h => cond_i (fun h2 => ?_) (fun h2 => cond_i (fun h3 => ?_) (fun h3 => ?_)))
  · exact (same trivial).resolve_right (fun k => k (.inl (of_decide_eq_true h)))
  · exact (same trivial).resolve_right (fun k => k (.inr (.inl (of_decide_eq_true h2))))
  · exact (same trivial).resolve_right (fun k => k (.inr (.inr (of_decide_eq_true h3))))
  have h := of_decide_eq_false h
  have h2 := of_decide_eq_false h2
  have h3 := of_decide_eq_false h3
  obtain ⟨r1, r2, r3, r4⟩ := rd2 (i := t) hl (by omega) (by omega)
  refine ck_i r1 (ck_i r2 (ck_i (by simp; omega) (ck_i (by rw [ic_len]; simp; omega) ?_)))
  have e : sendP size lo hi n l t i0 i1 = _ := if_neg (show ¬ (i0 > i1 ∨ t < 0 ∨ t ≥ (n : Int)) by omega)
  rw [r3, r4, e, min_if, pair_set]
  rfl

theorem f15_spec (lo hi : Int) (n : Nat) (l : List Int) (hl : l.length = n * 2) (hn : n ≤ 8796093022208) : f15_wp lo hi n (ic .i64 l) (fun r' => r' = elRet 29 lo hi n l) := by
  unfold f15_wp
  rw [ic_map]
  refine ck_i ?_ rfl
  rw [okRow_ic hl hn, flat_ic, plain_ic]; rfl

/-! ### Two of them, element by element -/

/-! ### Tags -/

theorem tagsL_succ (k : Nat) (l : List Int) : tagsL (k + 1) l = tagsL k l ++ (if (pairAt l k).1 > (pairAt l k).2 then [] else [(k : Int)]) := by
  unfold tagsL
  rw [List.range_succ, List.filter_append, List.map_append]
  congr 1
  by_cases h : (pairAt l k).1 > (pairAt l k).2
  · rw [if_pos h]; simp [h]
  · rw [if_neg h]; simp [h]
theorem tagsL_len (k : Nat) (l : List Int) : (tagsL k l).length ≤ k := by
  unfold tagsL
  rw [List.length_map]
  exact Nat.le_trans (List.length_filter_le _ _) (by simp)
theorem tagsL_nil {k n : Nat} {l : List Int} (h : k ≤ n) (he : tagsL k l ≠ []) : tagsL n l ≠ [] := by
  induction n with
  | zero => rw [show k = 0 by omega] at he; exact he
  | succ n ih =>
    by_cases e : k = n + 1
    · rw [← e]; exact he
    · rw [tagsL_succ]
      intro h2
      exact ih (by omega) (List.append_eq_nil_iff.1 h2).1

def tagsRet (n : Nat) (l : List Int) : Ret := if tagsL n l = [] then Ret.mk (.one (.v (.slice none 0 0))) [] else Ret.mk (.one (.own 0 0)) [⟨3, 1, (tagsL n l).length, ic .i64 (tagsL n l), true⟩]
theorem f13_spec (lo hi : Int) (n : Nat) (l : List Int) (hl : l.length = n * 2) (hn : n ≤ 8796093022208) : f13_wp lo hi n (ic .i64 l) (fun r' => r' = tagsRet n l) := by
  unfold f13_wp
  refine LoopP.ind (I := sumE (fun i => 0 ≤ i ∧ i ≤ (n : Int) ∧ tagsL i.toNat l = []) (fun z => 0 ≤ z.1 ∧ z.1 ≤ (n : Int) ∧ tagsL z.1.toNat l ≠ [] ∧ z.2.1 = (tagsL z.1.toNat l).length ∧ z.2.2 = ic .i64 (tagsL z.1.toNat l)))
    (μ := sumE (fun i => ((n : Int) - i).toNat) (fun z => ((n : Int) - z.1).toNat)) ?_ ⟨by omega, by omega, rfl⟩
  rintro (i | ⟨i, m, cs⟩) k0 hI hk
  · dsimp only [sumE_l, sumE_r] at hI ⊢
    obtain ⟨i1, i2, i3⟩ := hI
    refine cond_i (fun q => ?_) (fun q => ?_)
    · have q := of_decide_eq_true q
      obtain ⟨r1, r2, r3, r4⟩ := rd2 hl i1 q
      have w : IntKind.i64.wrap (i + 1) = i + 1 := i64_id (by omega) (by omega)
      have hs := tagsL_succ i.toNat l
      refine ck_i r1 (ck_i r2 ?_)
      rw [r3, r4, w]
      refine cond_i (fun h => hk _ ?_ (by dsimp only [sumE_l, sumE_r]; omega)) (fun h => hk _ ?_ (by dsimp only [sumE_l, sumE_r]; omega))
      · have h : ¬ (pairAt l i.toNat).1 > (pairAt l i.toNat).2 := by simpa using h
        rw [if_neg h, i3, List.nil_append, show i.toNat + 1 = (i + 1).toNat by omega, show ((i.toNat : Nat) : Int) = i by omega] at hs
        refine ⟨by dsimp only; omega, by dsimp only; omega, ?_, ?_, ?_⟩
        · dsimp only; rw [hs]; simp
        · dsimp only; rw [hs]; rfl
        · dsimp only; rw [hs]; rfl
      · have h : (pairAt l i.toNat).1 > (pairAt l i.toNat).2 := by simpa using h
        rw [if_pos h, i3, List.append_nil, show i.toNat + 1 = (i + 1).toNat by omega] at hs
        exact ⟨by omega, by omega, hs⟩
    · have q := of_decide_eq_false q
      have e : i.toNat = n := by omega
      rw [e] at i3
      show Ret.mk _ _ = _
      unfold tagsRet
      rw [if_pos i3]
  · dsimp only [sumE_l, sumE_r] at hI ⊢
    obtain ⟨i1, i2, i3, i4, i5⟩ := hI
    subst i4
    subst i5
    refine cond_i (fun q => ?_) (fun q => ?_)
    · have q := of_decide_eq_true q
      obtain ⟨r1, r2, r3, r4⟩ := rd2 hl i1 q
      have w : IntKind.i64.wrap (i + 1) = i + 1 := i64_id (by omega) (by omega)
      have hs := tagsL_succ i.toNat l
      have hlen := tagsL_len i.toNat l
      refine ck_i r1 (ck_i r2 ?_)
      rw [r3, r4, w]
      refine cond_i (fun h => ck_i (by simp; omega) (hk _ ?_ (by dsimp only [sumE_l, sumE_r]; omega))) (fun h => hk _ ?_ (by dsimp only [sumE_l, sumE_r]; omega))
      · have h : ¬ (pairAt l i.toNat).1 > (pairAt l i.toNat).2 := by simpa using h
        rw [if_neg h, show i.toNat + 1 = (i + 1).toNat by omega, show ((i.toNat : Nat) : Int) = i by omega] at hs
        refine ⟨by dsimp only; omega, by dsimp only; omega, ?_, ?_, ?_⟩
        · dsimp only; rw [hs]; simp
        · dsimp only; rw [hs, List.length_append]; rfl
        · dsimp only; rw [hs, ← ic_append]; rfl
      · have h : (pairAt l i.toNat).1 > (pairAt l i.toNat).2 := by simpa using h
        rw [if_pos h, List.append_nil, show i.toNat + 1 = (i + 1).toNat by omega] at hs
        exact ⟨by dsimp only; omega, by dsimp only; omega, by dsimp only; rw [hs]; exact i3, by dsimp only; rw [hs], by dsimp only; rw [hs]⟩
    · have q := of_decide_eq_false q
      have e : i.toNat = n := by omega
      rw [e] at i3 ⊢
      show Ret.mk _ _ = _
      unfold tagsRet
      rw [if_neg i3]
end Go.Proofs.YtlfojobligplkaaDoor.Fn
