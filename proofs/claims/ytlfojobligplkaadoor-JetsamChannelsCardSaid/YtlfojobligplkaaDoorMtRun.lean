import Derived.Test.YtlfojobligplkaaDoorMtO2
/- Known calls: a straight run of the evaluator, with no decision open; tables of such calls. Conditions: those that each lemma names. -/
namespace Go.Proofs.YtlfojobligplkaaDoor.Mt
open Go Go.RowKit

def opB (C : CtxW) (o : SOper) (st : St) : Option St :=
  bif !(makes o.op) || decide (o.dst.getD st.tm.length < st.tm.length) then
    match evOpW C (o.dst.getD 0) st o.op with
    | some q => bif q.1 then some (applyR o.dst st q.2) else none
    | none => none
  else none
/-- Operations, and how many decisions there are. -/
def opsB (C : CtxW) : List SOper → St → Option (Nat × St)
  | [], st => some (0, st)
  | o :: r, st => match o.guard with
    | none => (opB C o st).bind (opsB C r)
    | some (j, w) => match st.tm.getD j .no with
      | .one (.v (.bool q)) => (bif q == w then opB C o (setB st j q) else some (skipR o.dst (setB st j q))).bind fun s => (opsB C r s).map fun p => (p.1 + 1, p.2)
      | .un => opsB C r (skipR o.dst st)
      | _ => none
def iterB (f : St → Option (Nat × Ex × St)) (hd : St → Bool × St) : Nat → Bool × St → Option (Nat × Ex × St)
  | 0, _ => none
  | n + 1, p => bif p.1 then (f p.2).bind fun q => match q.2.1 with
    | .norm => iterB f hd n (hd q.2.2)
    | _ => some q
  else none
def runB (C : CtxW) (N : Nat) : SC → St → Option (Nat × Ex × St)
  | .skip, st => some (0, .norm, st)
  | .reg ops, st => (opsB C ops st).map fun p => (p.1, .norm, p.2)
  | .seq a b, st => (runB C N a st).bind fun q => match q.2.1 with
    | .norm => (runB C N b q.2.2).map fun p => (p.1 + q.1, p.2)
    | _ => some q
  | .cond x a b, st => match x with
    | .t j => match st.tm.getD j .no with
      | .one (.v (.bool q)) => (bif q then runB C N a (setB st j true) else runB C N b (setB st j false)).map fun p => (p.1 + 1, p.2)
      | _ => none
    | .c (.bool q) => bif q then runB C N a st else runB C N b st
    | _ => none
  | .blk id c, st => (runB C N c st).map fun q => (q.1, (match q.2.1 with
    | .exit i => bif i == id then .norm else .exit i
    | e => e), q.2.2)
  | .loop ls lb lt c, st => (iterB (runB C N c) (headW C.m ls lb lt) N (headW C.m ls lb lt st)).map fun q => (0, q.2)
  | .exit id, st => some (0, .exit id, st)
  | .ret, st => some (0, .ret, st)
def runF (C : CtxW) (N : Nat) (F : SFn) (vs : List CV) : Option Ret := (runB C N F.code (start F.n vs)).bind fun q => match q.2.1 with
  | .exit _ => none
  | _ => (resQ q.2.2 F.rs).bind fun x => bif x.1 then (retW C.m q.2.2 x.2).bind fun y => bif y.1 then some y.2 else none else none

section
variable {C : CtxW} {N : Nat}

theorem opB_sound {o : SOper} {st s : St} (h : opB C o st = some s) {k : St → Prop} (hk : k s) : opO C o st k := by
  unfold opB at h
  unfold opO
  cases hm : (!(makes o.op) || decide (o.dst.getD st.tm.length < st.tm.length)) with
  | false => rw [hm] at h; cases h
  | true =>
    rw [hm] at h
    simp only [cond_true] at h ⊢
    cases hq : evOpW C (o.dst.getD 0) st o.op with
    | none => rw [hq] at h; cases h
    | some q =>
      rw [hq] at h
      simp only at h ⊢
      cases h2 : q.1 with
      | false => rw [h2] at h; cases h
      | true =>
        rw [h2] at h
        simp only [cond_true, Option.some.injEq] at h ⊢
        subst h
        exact hk
theorem opsB_sound : ∀ {l : List SOper} {st s : St} {n : Nat}, opsB C l st = some (n, s) → ∀ (k : Nat) (K : Orc → St → Prop), K (.n k .e) s → opsO C l (.n (k + n) .e) st K
  | [], st, s, n, h, k, K, hK => by
    simp only [opsB, Option.some.injEq, Prod.mk.injEq] at h
    obtain ⟨rfl, rfl⟩ := h
    exact hK
  | o :: l, st, s, n, h, k, K, hK => by
    simp only [opsB] at h
    simp only [opsO]
    cases hg : o.guard with
    | none =>
      rw [hg] at h
      simp only [Option.bind_eq_some_iff] at h
      obtain ⟨s1, h1, h2⟩ := h
      exact opB_sound h1 (opsB_sound h2 k K hK)
    | some g =>
      obtain ⟨j, w⟩ := g
      rw [hg] at h
      simp only at h ⊢
      split at h
      · rename_i q e
        rw [e]
        simp only [Option.bind_eq_some_iff, Option.map_eq_some_iff, Prod.mk.injEq] at h
        obtain ⟨s1, h1, ⟨n1, s2⟩, h2, rfl, rfl⟩ := h
        have ih := opsB_sound h2 k K hK
        show bif q then _ else _
        cases q <;> cases w <;> simp only [cond_true, cond_false, beq_self_eq_true, show (true == false) = false from rfl, show (false == true) = false from rfl, Option.some.injEq] at h1 ⊢
        · exact opB_sound h1 ih
        · subst h1; exact ih
        · subst h1; exact ih
        · exact opB_sound h1 ih
      · rename_i e
        rw [e]
        exact opsB_sound h k K hK
      · cases h
/-- What a run shows. -/
def RunOk (C : CtxW) (c : SC) (f : St → Option (Nat × Ex × St)) : Prop := ∀ (st s : St) (n : Nat) (e : Ex), f st = some (n, e, s) → ∀ (k : Nat) (K : Orc → Ex → St → Prop), K (.n k .e) e s → wpO C c (.n (k + n) .e) st K
theorem iterB_sound {c : SC} {f : St → Option (Nat × Ex × St)} (hf : RunOk C c f) {hd : St → Bool × St} : ∀ {m : Nat} {p : Bool × St} {n : Nat} {e : Ex} {s : St}, iterB f hd m p = some (n, e, s) → ∀ (k : Nat) (K : Orc → Ex → St → Prop), K (.n k .e) e s → loopNO (fun st K => ∃ ob, wpO C c ob st K) hd K m p
  | 0, _, _, _, _, h, _, _, _ => by cases h
  | m + 1, p, n, e, s, h, k, K, hK => by
    simp only [iterB] at h
    cases hp : p.1 with
    | false => rw [hp] at h; cases h
    | true =>
      rw [hp] at h
      simp only [cond_true, Option.bind_eq_some_iff] at h
      obtain ⟨⟨n1, e1, s1⟩, h1, h⟩ := h
      refine ⟨hp, ?_⟩
      cases e1 with
      | norm => exact ⟨_, hf _ _ _ _ h1 k _ (iterB_sound hf h k K hK)⟩
      | exit i =>
        simp only [Option.some.injEq, Prod.mk.injEq] at h
        obtain ⟨rfl, rfl, rfl⟩ := h
        exact ⟨_, hf _ _ _ _ h1 k _ hK⟩
      | ret =>
        simp only [Option.some.injEq, Prod.mk.injEq] at h
        obtain ⟨rfl, rfl, rfl⟩ := h
        exact ⟨_, hf _ _ _ _ h1 k _ hK⟩
theorem runB_sound : ∀ c : SC, RunOk C c (runB C N c)
  | .skip => fun st s n e h k K hK => by
    simp only [runB, Option.some.injEq, Prod.mk.injEq] at h
    obtain ⟨rfl, rfl, rfl⟩ := h
    exact hK
  | .reg ops => fun st s n e h k K hK => by
    simp only [runB, Option.map_eq_some_iff, Prod.mk.injEq] at h
    obtain ⟨⟨n1, s1⟩, h1, rfl, rfl, rfl⟩ := h
    exact opsB_sound h1 k _ hK
  | .seq a b => fun st s n e h k K hK => by
    simp only [runB, Option.bind_eq_some_iff] at h
    obtain ⟨⟨n1, e1, s1⟩, h1, h⟩ := h
    simp only [wpO]
    cases e1 with
    | norm =>
      simp only [Option.map_eq_some_iff, Prod.mk.injEq] at h
      obtain ⟨⟨n2, e2, s2⟩, h2, rfl, rfl, rfl⟩ := h
      rw [← Nat.add_assoc]
      exact runB_sound a _ _ _ _ h1 (k + n2) _ (runB_sound b _ _ _ _ h2 k _ hK)
    | exit i =>
      simp only [Option.some.injEq, Prod.mk.injEq] at h
      obtain ⟨rfl, rfl, rfl⟩ := h
      exact runB_sound a _ _ _ _ h1 k _ hK
    | ret =>
      simp only [Option.some.injEq, Prod.mk.injEq] at h
      obtain ⟨rfl, rfl, rfl⟩ := h
      exact runB_sound a _ _ _ _ h1 k _ hK
  | .cond x a b => fun st s n e h k K hK => by
    simp only [runB] at h
    simp only [wpO]
    split at h
    · rename_i j
      split at h
      · rename_i q hq
        simp only [hq]
        simp only [Option.map_eq_some_iff, Prod.mk.injEq] at h
        obtain ⟨⟨n1, e1, s1⟩, h1, rfl, rfl, rfl⟩ := h
        show bif q then _ else _
        cases q with
        | true => exact runB_sound a _ _ _ _ h1 k _ hK
        | false => exact runB_sound b _ _ _ _ h1 k _ hK
      · cases h
    · rename_i q
      cases q with
      | true => exact runB_sound a _ _ _ _ h k _ hK
      | false => exact runB_sound b _ _ _ _ h k _ hK
    · cases h
  | .blk id c => fun st s n e h k K hK => by
    simp only [runB, Option.map_eq_some_iff, Prod.mk.injEq] at h
    obtain ⟨⟨n1, e1, s1⟩, h1, rfl, he, rfl⟩ := h
    simp only [wpO]
    refine runB_sound c _ _ _ _ h1 k _ ?_
    cases e1 with
    | norm => simp only at he; subst he; exact hK
    | ret => simp only at he; subst he; exact hK
    | exit i =>
      simp only at he ⊢
      cases hi : i == id with
      | true => rw [hi] at he; simp only [cond_true] at he ⊢; subst he; exact hK
      | false => rw [hi] at he; simp only [cond_false] at he ⊢; subst he; exact hK
  | .loop ls lb lt c => fun st s n e h k K hK => by
    simp only [runB, Option.map_eq_some_iff, Prod.mk.injEq] at h
    obtain ⟨⟨n1, e1, s1⟩, h1, rfl, rfl, rfl⟩ := h
    exact ⟨N, iterB_sound (runB_sound c) h1 k K hK⟩
  | .exit id => fun st s n e h k K hK => by
    simp only [runB, Option.some.injEq, Prod.mk.injEq] at h
    obtain ⟨rfl, rfl, rfl⟩ := h
    exact hK
  | .ret => fun st s n e h k K hK => by
    simp only [runB, Option.some.injEq, Prod.mk.injEq] at h
    obtain ⟨rfl, rfl, rfl⟩ := h
    exact hK
theorem runF_sound {F : SFn} {vs : List CV} {r : Ret} (h : runF C N F vs = some r) : ∃ oc, wpFO C F oc vs fun r' => r' = r := by
  unfold runF at h
  simp only [Option.bind_eq_some_iff] at h
  obtain ⟨⟨n, e, s⟩, h1, h⟩ := h
  refine ⟨.n (0 + n) .e, ?_⟩
  unfold wpFO
  refine runB_sound F.code _ _ _ _ h1 0 _ ?_
  unfold endO
  have fin : ((resQ s F.rs).bind fun x => bif x.1 then (retW C.m s x.2).bind fun y => bif y.1 then some y.2 else none else none) = some r →
      (match resQ s F.rs with
        | some q => bif q.1 then (match retW C.m s q.2 with
          | some r' => bif r'.1 then r'.2 = r else False
          | none => False) else False
        | none => False) := fun h => by
    cases hq : resQ s F.rs with
    | none => rw [hq] at h; cases h
    | some q =>
      rw [hq] at h
      simp only [Option.bind_some] at h ⊢
      cases hq1 : q.1 with
      | false => rw [hq1] at h; cases h
      | true =>
        rw [hq1] at h
        simp only [cond_true] at h ⊢
        cases hy : retW C.m s q.2 with
        | none => rw [hy] at h; cases h
        | some y =>
          rw [hy] at h
          simp only [Option.bind_some] at h ⊢
          cases hy1 : y.1 with
          | false => rw [hy1] at h; cases h
          | true =>
            rw [hy1] at h
            simpa using h
  cases e with
  | exit i => simp only at h; cases h
  | norm => exact fin h
  | ret => exact fin h
end

theorem at_run {P : Program} {H : Hints} {g : Nat} {hd : Heads} {C : CtxW} {N : Nat} {vs : List CV} {r : Ret} (mx : P.follows .mixedOrders = true) (hC : CtxOk P C.q.ctx) (h : ((sfn P H g hd).bind fun F => runF C N F vs) = some r) : SoundAt P g vs r := by
  obtain ⟨F, hF, hr⟩ := Option.bind_eq_some_iff.1 h
  obtain ⟨oc, hw⟩ := runF_sound hr
  exact soundAtO (C := C) (oc := oc) mx hC hF hw

/-! ### Tables of known calls -/
def eqV1 : Value → Value → Bool
  | .int k a, .int k' b => (k == k') && (a == b)
  | .string a, .string b => a.data.toList == b.data.toList
  | _, _ => false
def eqA1 : List CV → List CV → Bool
  | [], [] => true
  | .one (.v x) :: r, .one (.v y) :: t => eqV1 x y && eqA1 r t
  | _, _ => false
theorem eqV1_sound {x y : Value} (h : eqV1 x y = true) : x = y := by
  unfold eqV1 at h
  split at h
  · simp only [Bool.and_eq_true, beq_iff_eq] at h
    rw [h.1, h.2]
  · rename_i a b
    have e : a.data.toList = b.data.toList := by simpa using h
    have e2 : a = b := ByteArray.ext (Array.toList_inj.1 e)
    rw [e2]
  · cases h
theorem eqA1_sound : ∀ {a b : List CV}, eqA1 a b = true → a = b
  | [], [], _ => rfl
  | .one (.v x) :: r, .one (.v y) :: t, h => by
    simp only [eqA1, Bool.and_eq_true] at h
    rw [eqV1_sound h.1, eqA1_sound h.2]
  | [], _ :: _, h => by simp [eqA1] at h
  | _ :: _, [], h => by simp [eqA1] at h
  | .agg _ :: _, _ :: _, h => by simp [eqA1] at h
  | .box .. :: _, _ :: _, h => by simp [eqA1] at h
  | .elm .. :: _, _ :: _, h => by simp [eqA1] at h
  | .elo .. :: _, _ :: _, h => by simp [eqA1] at h
  | .tup _ :: _, _ :: _, h => by simp [eqA1] at h
  | .un :: _, _ :: _, h => by simp [eqA1] at h
  | .no :: _, _ :: _, h => by simp [eqA1] at h
  | .one (.sl ..) :: _, _ :: _, h => by simp [eqA1] at h
  | .one (.own ..) :: _, _ :: _, h => by simp [eqA1] at h
  | .one .dead :: _, _ :: _, h => by simp [eqA1] at h
  | .one (.v _) :: _, .agg _ :: _, h => by simp [eqA1] at h
  | .one (.v _) :: _, .box .. :: _, h => by simp [eqA1] at h
  | .one (.v _) :: _, .elm .. :: _, h => by simp [eqA1] at h
  | .one (.v _) :: _, .elo .. :: _, h => by simp [eqA1] at h
  | .one (.v _) :: _, .tup _ :: _, h => by simp [eqA1] at h
  | .one (.v _) :: _, .un :: _, h => by simp [eqA1] at h
  | .one (.v _) :: _, .no :: _, h => by simp [eqA1] at h
  | .one (.v _) :: _, .one (.sl ..) :: _, h => by simp [eqA1] at h
  | .one (.v _) :: _, .one (.own ..) :: _, h => by simp [eqA1] at h
  | .one (.v _) :: _, .one .dead :: _, h => by simp [eqA1] at h
def tabL : List (List CV × Ret) → List CV → Option (Bool × Ret)
  | [], _ => none
  | p :: t, vs => bif eqA1 p.1 vs then some (true, p.2) else tabL t vs
theorem tab_ok {P : Program} {g : Nat} : ∀ {T : List (List CV × Ret)}, (∀ p ∈ T, SoundAt P g p.1 p.2) → ∀ vs r, tabL T vs = some (true, r) → SoundAt P g vs r
  | [], _, _, _, h => by cases h
  | p :: t, hT, vs, r, h => by
    simp only [tabL] at h
    cases e : eqA1 p.1 vs with
    | true =>
      rw [e] at h
      simp only [cond_true, Option.some.injEq, Prod.mk.injEq, true_and] at h
      subst h
      rw [← eqA1_sound e]
      exact hT p (by simp)
    | false =>
      rw [e] at h
      exact tab_ok (fun q hq => hT q (by simp [hq])) vs r h

end Go.Proofs.YtlfojobligplkaaDoor.Mt
