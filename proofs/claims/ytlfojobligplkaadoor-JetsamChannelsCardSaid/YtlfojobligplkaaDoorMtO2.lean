import Derived.Test.YtlfojobligplkaaDoorMtRow
/- The evaluator once more, for lists of cells of which only the first ones are told, and with a list of decisions at its branches: what it collects is enough. Conditions: those that each lemma names. -/
namespace Go.Proofs.YtlfojobligplkaaDoor.Mt
open Go Go.RowKit

/-- What is told of callees; how many cells of a list are looked at (the others are plain), also argument by argument. -/
structure CtxW where
  q : CtxQ := {}
  m : Nat := 16
  sh : List (Nat × List Nat) := []

def shiftR (o : Nat) : CV → Option CV
  | .box d k off => some (.box d k (o + off))
  | .elm cs off => some (.elm cs (o + off))
  | .elo d k off => some (.elo d k (o + off))
  | _ => none

def okL : List (Option IntKind) → List Cell → Bool
  | [], [] => true
  | k :: ks, c :: cs => okK k c && okL ks cs
  | _, _ => false
def eqK : Option IntKind → Cell → Cell → Bool
  | some _, a, b => intC a == intC b
  | none, a, b => boolC a == boolC b
def eqW : List (Option IntKind) → List Cell → List Cell → Bool
  | k :: ks, a :: as, b :: bs => eqK k a b && eqW ks as bs
  | _, _, _ => true

def shareN (st : St) : Nat → List Cell → Option (List Cell)
  | 0, cs => some cs
  | _ + 1, [] => some []
  | m + 1, c :: r => (shareC st c).bind fun c => (shareN st m r).map (c :: ·)
def argW (m : Nat) (ow : Bool) (st : St) : CV → Option (Bool × CV)
  | .one c => bif ow then (shareC st c).map fun c => (true, .one c) else some (plainC c, .one c)
  | .agg cs => bif ow then (shareN st m cs).map fun us => ((cs.drop m).all plainC, .agg us) else some (cs.all plainC, .agg cs)
  | _ => none
def argsW (m : Nat) (ow : Bool) (st : St) : List Nat → List SX → Option (Bool × List CV)
  | _, [] => some (true, [])
  | ds, x :: r => (argW (ds.headD m) ow st (getX st x)).bind fun c => (argsW m ow st ds.tail r).map fun r => (c.1 && r.1, c.2 :: r.2)

def mapN (f : Cell → Cell) : Nat → List Cell → List Cell
  | 0, cs => cs
  | _ + 1, [] => []
  | m + 1, c :: r => f c :: mapN f m r
def mapV1 (f : Cell → Cell) (m : Nat) : CV → CV
  | .one c => .one (f c)
  | .agg cs => .agg (mapN f m cs)
  | c => c
def mapV (f : Cell → Cell) (m : Nat) : CV → CV
  | .tup vs => .tup (vs.map (mapV1 f m))
  | c => mapV1 f m c
def restOk1 (m : Nat) : CV → Bool
  | .agg cs => (cs.drop m).all plainC
  | _ => true
def restOk (m : Nat) : CV → Bool
  | .tup vs => vs.all (restOk1 m)
  | c => restOk1 m c

def joinW (us : List Cell) : List Cell → List Cell
  | [] => us
  | r => us ++ r
def fillW (cs : List Cell) : List (Nat × Nat × List Cell) → Bool × List Cell
  | [] => (true, cs)
  | (off, size, us) :: r => ((us.length == size) && decide (off + size ≤ cs.length) && (fillW (cs.take off ++ joinW us (cs.drop (off + size))) r).1, (fillW (cs.take off ++ joinW us (cs.drop (off + size))) r).2)
def partsW (esz : Nat) (st : St) : List (Nat × SX) → Option (Bool × List (Nat × Nat × List Cell))
  | [] => some (true, [])
  | (i, x) :: r => (cellsOf (getX st x)).bind fun us => (partsW esz st r).map fun q => (us.all plainC && q.1, (i * esz, esz, us) :: q.2)

def storeW (cs : List Cell) (off n : Nat) (us : List Cell) : Bool × List Cell :=
  match decide (8 < n) with
  | true => ((us.length == n) && (cs.length == n) && (off == 0), us)
  | false => ((us.length == n) && decide (off + n ≤ cs.length), putC cs off us)

/-- An element of a row of structs that have rows. -/
def loadW (st : St) (n : Nat) (p : SX) : Option (Bool × Res) := match getX st p with
  | .elm cs off => some (decide (off + n ≤ cs.length), { val := .agg ((cs.drop off).take n) })
  | .elo i k off => (liveTok st i k).map fun t => (decide (off + n ≤ t.cs.length), { val := .agg ((t.cs.drop off).take n) })
  | _ => none

def evOpW (C : CtxW) (d : Nat) (st : St) : SOp → Option (Bool × Res)
  | .load el ag n ks p => match el, ag, ks with
    | true, true, [] => loadW st n p
    | el, ag, ks => evOpQ C.q d st (.load el ag n ks p)
  | .store el n p x => (cellsOf (getX st x)).bind fun us => match el, getX st p with
    | false, .box i k off => (tat st.bx i k).map fun cs => ((storeW cs off n us).1, { val := .un, wb := some (i, k, (storeW cs off n us).2) })
    | true, .elo i k off => (liveTok st i k).map fun t => ((storeW t.cs off n us).1 && us.all plainC, { val := .un, wt := some (i, k, { t with cs := (storeW t.cs off n us).2 }) })
    | _, _ => none
  | .ixA len esz p i => match getX st i with
    | .one (.v (.int _ j)) => (shiftR (j.toNat * esz) (getX st p)).map fun v => (decide (0 ≤ j) && decide (j < (len : Int)), { val := v })
    | _ => none
  | .build z ps => (partsA st ps).map fun ps => ((fillW (z.map .v) ps).1, { val := .agg (fillW (z.map .v) ps).2 })
  | .buildS e esz n z ps => (partsW esz st ps).map fun ps => (ps.1 && (fillW (z.map .v) ps.2).1, { val := .one (.own d (tlen st.tk d)), pt := [⟨e, esz, n, (fillW (z.map .v) ps.2).2, true⟩] })
  | .buildF esz n z ps => (partsW esz st ps).map fun ps => (ps.1 && (fillW (z.map .v) ps.2).1, { val := .one (.sl n ((fillW (z.map .v) ps.2).2.map nzC)) })
  | .eqA ne ks x y => match getX st x, getX st y with
    | .agg a, .agg b => some (okL ks a && okL ks b, { val := .one (.v (.bool (bif ne then !(eqW ks a b) else eqW ks a b))) })
    | _, _ => none
  | .call ow pt f xs => (fnOf (getX st f)).bind fun g => (argsW C.m ow st ((lookF C.sh g).getD []) xs).bind fun vs => (lookF C.q.calls g).bind fun f => (f vs.2).map fun r =>
      (vs.1 && r.1 && okV r.2.toks.length r.2.cv && (pt || (r.2.toks.length == 0)) && (!ow || noSlR r.2) && r.2.toks.all (fun t => t.live && t.cs.all plainC) && (!pt || restOk C.m r.2.cv),
        { val := bif pt then mapV (renC d (tlen st.tk d)) C.m r.2.cv else r.2.cv, pt := r.2.toks })
  | .pcall g p xs => match getX st p with
    | .box i k 0 => (tat st.bx i k).bind fun cs => (argsW C.m false st [] xs).bind fun vs => (lookF C.q.pcalls g).bind fun f => (f cs vs.2).map fun r =>
        (vs.1 && r.1 && (r.2.length == cs.length) && cs.all flatC && r.2.all flatC, { val := .no, wb := some (i, k, r.2) })
    | _ => none
  | op => evOpQ C.q d st op

/-- Decisions: the truth value is so (to be shown); it is known, so many times; both ways. (Each round of a loop has decisions of its own.) -/
inductive Orc where
  | e
  | b (v : Bool) (r : Orc)
  | n (k : Nat) (r : Orc)
  | two (t f : Orc)

def brO (q : Bool) (o : Orc) (T F : Orc → Prop) : Prop := match o with
  | .b v r => q = v ∧ (bif v then T r else F r)
  | .n 0 r => bif q then T r else F r
  | .n (k + 1) r => bif q then T (.n k r) else F (.n k r)
  | .two t f => bif q then T t else F f
  | _ => False

def opO (C : CtxW) (o : SOper) (st : St) (k : St → Prop) : Prop :=
  bif !(makes o.op) || decide (o.dst.getD st.tm.length < st.tm.length) then
    match evOpW C (o.dst.getD 0) st o.op with
    | some q => bif q.1 then k (applyR o.dst st q.2) else False
    | none => False
  else False

def opsO (C : CtxW) : List SOper → Orc → St → (Orc → St → Prop) → Prop
  | [], oc, st, K => K oc st
  | o :: r, oc, st, K => match o.guard with
    | none => opO C o st fun s => opsO C r oc s K
    | some (j, w) => match st.tm.getD j .no with
      | .one (.v (.bool q)) => brO q oc
          (fun oc => bif w then opO C o (setB st j true) fun s => opsO C r oc s K else opsO C r oc (skipR o.dst (setB st j true)) K)
          (fun oc => bif w then opsO C r oc (skipR o.dst (setB st j false)) K else opO C o (setB st j false) fun s => opsO C r oc s K)
      | .un => opsO C r oc (skipR o.dst st) K
      | _ => False

/-! ### Loops' heads -/

/-- A list of cells at a loop's head: where no rows are kept all of it must be plain. -/
def keepL (m : Nat) (lt : List Nat) (st : St) (cs : List Cell) : Bool × List Cell := match lt with
  | [] => (cs.all plainC, cs)
  | _ :: _ => ((cs.drop m).all plainC, mapN (keepC lt st) m cs)
def keepVW (m : Nat) (ls lb lt : List Nat) (st : St) (i : Nat) (c : CV) : Bool × CV := bif ls.contains i then (match c with
    | .one (.own d k) => (true, if tlen st.tk d ≤ k + lt.count d then .one (.own d (k - (tlen st.tk d - lt.count d))) else .no)
    | .one c => (true, .one c)
    | .box d k off => (true, if lb.contains d ∧ k + 1 = tlen st.bx d then .box d 0 off else .no)
    | .agg cs => ((keepL m lt st cs).1, .agg (keepL m lt st cs).2)
    | .un => (true, .un)
    | _ => (true, .no)) else (true, .no)
def keepTmW (m : Nat) (ls lb lt : List Nat) (st : St) : Nat → List CV → Bool × List CV
  | _, [] => (true, [])
  | i, c :: r => ((keepVW m ls lb lt st i c).1 && (keepTmW m ls lb lt st (i + 1) r).1, (keepVW m ls lb lt st i c).2 :: (keepTmW m ls lb lt st (i + 1) r).2)
def keepBW (m : Nat) (lb lt : List Nat) (st : St) : Nat → List (List (List Cell)) → Bool × List (List (List Cell))
  | _, [] => (true, [])
  | d, x :: r => bif lb.contains d then ((lastOf x).all (fun cs => (keepL m lt st cs).1) && (keepBW m lb lt st (d + 1) r).1, (lastOf x).map (fun cs => (keepL m lt st cs).2) :: (keepBW m lb lt st (d + 1) r).2)
      else ((keepBW m lb lt st (d + 1) r).1, [] :: (keepBW m lb lt st (d + 1) r).2)
def headW (m : Nat) (ls lb lt : List Nat) (st : St) : Bool × St :=
  ((keepTmW m ls lb lt st 0 st.tm).1 && (keepBW m lb lt st 0 st.bx).1,
    { tm := (keepTmW m ls lb lt st 0 st.tm).2, bx := (keepBW m lb lt st 0 st.bx).2, tk := keepK lt 0 st.tk })

/-- What comes behind a round: another one, or what comes behind the loop. -/
def kLp (hd : St → Bool × St) (N : Bool × St → Prop) (K : Orc → Ex → St → Prop) : Orc → Ex → St → Prop := fun o e s => match e with
  | .norm => N (hd s)
  | e => K o e s
def loopNO (body : St → (Orc → Ex → St → Prop) → Prop) (hd : St → Bool × St) (K : Orc → Ex → St → Prop) : Nat → Bool × St → Prop
  | 0, _ => False
  | n + 1, p => p.1 = true ∧ body p.2 (kLp hd (loopNO body hd K n) K)
inductive LoopO (body : St → (Orc → Ex → St → Prop) → Prop) (hd : St → Bool × St) (K : Orc → Ex → St → Prop) (p : Bool × St) : Prop
  | of (n : Nat) (h : loopNO body hd K n p)

def wpO (C : CtxW) : SC → Orc → St → (Orc → Ex → St → Prop) → Prop
  | .skip, oc, st, K => K oc .norm st
  | .reg ops, oc, st, K => opsO C ops oc st fun oc s => K oc .norm s
  | .seq a b, oc, st, K => wpO C a oc st fun oc e s => match e with
    | .norm => wpO C b oc s K
    | e => K oc e s
  | .cond x a b, oc, st, K => match x with
    | .t j => match st.tm.getD j .no with
      | .one (.v (.bool q)) => brO q oc (fun oc => wpO C a oc (setB st j true) K) (fun oc => wpO C b oc (setB st j false) K)
      | _ => False
    | .c (.bool q) => bif q then wpO C a oc st K else wpO C b oc st K
    | _ => False
  | .blk id c, oc, st, K => wpO C c oc st fun oc e s => match e with
    | .exit i => bif i == id then K oc .norm s else K oc (.exit i) s
    | e => K oc e s
  | .loop ls lb lt c, _, st, K => LoopO (fun st K => ∃ ob, wpO C c ob st K) (headW C.m ls lb lt) K (headW C.m ls lb lt st)
  | .exit id, oc, st, K => K oc (.exit id) st
  | .ret, oc, st, K => K oc .ret st

def bodyX (C : CtxW) (c : SC) (st : St) (K : Orc → Ex → St → Prop) : Prop := ∃ ob, wpO C c ob st K
def kSeq (C : CtxW) (b : SC) (K : Orc → Ex → St → Prop) : Orc → Ex → St → Prop := fun oc e s => match e with
  | .norm => wpO C b oc s K
  | e => K oc e s
def kBlk (id : Nat) (K : Orc → Ex → St → Prop) : Orc → Ex → St → Prop := fun oc e s => match e with
  | .exit i => bif i == id then K oc .norm s else K oc (.exit i) s
  | e => K oc e s

def retW (m : Nat) (st : St) (v : CV) : Option (Bool × Ret) :=
  (toksOf st (addNew [] (ownV (takeV m v)))).map fun ts => (restOk m v, { cv := mapV (retC (addNew [] (ownV (takeV m v)))) m v, toks := ts })
where
  takeV1 (m : Nat) : CV → CV
    | .agg cs => .agg (cs.take m)
    | c => c
  takeV (m : Nat) : CV → CV
    | .tup vs => .tup (vs.map (takeV1 m))
    | c => takeV1 m c

def endO (m : Nat) (rs : List SRes) (R : Ret → Prop) : Orc → Ex → St → Prop := fun _ e st => match e with
  | .exit _ => False
  | _ => match resQ st rs with
    | some q => bif q.1 then (match retW m st q.2 with
      | some r => bif r.1 then R r.2 else False
      | none => False) else False
    | none => False
def endPO (R : List Cell → Prop) : Orc → Ex → St → Prop := fun _ e st => endP R e st

def wpFO (C : CtxW) (F : SFn) (oc : Orc) (vs : List CV) (R : Ret → Prop) : Prop := wpO C F.code oc (start F.n vs) (endO C.m F.rs R)
def wpPO (C : CtxW) (F : SFn) (oc : Orc) (cs : List Cell) (vs : List CV) (R : List Cell → Prop) : Prop := wpO C F.code oc (startP F.n cs vs) (endPO R)

/-! ### All of it is so of the plain evaluator -/
section
variable {C : CtxW} {st st' : St}

theorem shiftR_eq {o : Nat} {v : CV} : shiftR o v = shift o v := by
  cases v <;> simp [shiftR, shift, Nat.add_comm]

theorem eqW_sound : ∀ {ks : List (Option IntKind)} {a b : List Cell}, okL ks a = true → okL ks b = true → eqCells ks a b = some (eqW ks a b)
  | [], [], [], _, _ => rfl
  | [], [], _ :: _, _, h => by cases h
  | [], _ :: _, _, h, _ => by cases h
  | _ :: _, [], _, h, _ => by cases h
  | _ :: _, _ :: _, [], _, h => by cases h
  | k :: ks, a :: as, b :: bs, h, h' => by
    simp only [okL, Bool.and_eq_true] at h h'
    have ih := eqW_sound h.2 h'.2
    rw [← okK_asK h.1, ← okK_asK h'.1]
    cases k with
    | some k => simp [asK, eqCells, eqW, eqK, intC, ih]
    | none => simp [asK, eqCells, eqW, eqK, boolC, ih]

theorem shareC_plain {c : Cell} (h : plainC c = true) : shareC st c = some c := by
  cases c <;> first | rfl | (cases h; done)
theorem shareL_plain : ∀ {cs : List Cell}, cs.all plainC = true → shareL st cs = some cs
  | [], _ => rfl
  | c :: cs, h => by
    simp only [List.all_cons, Bool.and_eq_true] at h
    simp [shareL, shareC_plain h.1, shareL_plain h.2]
theorem shareN_eq : ∀ {m : Nat} {cs : List Cell}, (cs.drop m).all plainC = true → shareN st m cs = shareL st cs
  | 0, cs, h => (shareL_plain (by simpa using h)).symm
  | m + 1, [], _ => rfl
  | m + 1, c :: cs, h => by simp only [shareN, shareL, shareN_eq (m := m) (cs := cs) (by simpa using h)]

theorem argW_sound {m : Nat} {ow : Bool} {v : CV} {q : Bool × CV} (h : argW m ow st v = some q) (hq : q.1 = true) : argOf ow st v = some q.2 := by
  cases v with
  | one c =>
    simp only [argW, argOf] at h ⊢
    cases ow with
    | true =>
      simp only [cond_true, Option.map_eq_some_iff] at h ⊢
      obtain ⟨c', hc, rfl⟩ := h
      exact ⟨c', hc, rfl⟩
    | false =>
      simp only [cond_false, Option.some.injEq] at h ⊢
      subst h
      simp only at hq
      rw [hq]; rfl
  | agg cs =>
    simp only [argW, argOf] at h ⊢
    cases ow with
    | true =>
      simp only [cond_true, Option.map_eq_some_iff] at h ⊢
      obtain ⟨us, hu, rfl⟩ := h
      exact ⟨us, by rw [← hu, shareN_eq hq], rfl⟩
    | false =>
      simp only [cond_false, Option.some.injEq] at h ⊢
      subst h
      simp only at hq
      rw [hq]; rfl
  | _ => cases h

theorem argsW_sound {m : Nat} {ow : Bool} : ∀ {xs : List SX} {ds : List Nat} {q : Bool × List CV}, argsW m ow st ds xs = some q → q.1 = true → argsOf ow st xs = some q.2
  | [], _, q, h, _ => by
    simp only [argsW, Option.some.injEq] at h
    subst h; rfl
  | x :: xs, ds, q, h, hq => by
    simp only [argsW, Option.bind_eq_some_iff, Option.map_eq_some_iff] at h
    obtain ⟨c, hc, r, hr, rfl⟩ := h
    simp only [Bool.and_eq_true] at hq
    simp only [argsOf, argW_sound hc hq.1, argsW_sound hr hq.2, Option.bind_some, Option.map_some]

theorem mapN_eq {f : Cell → Cell} (hf : ∀ c, plainC c = true → f c = c) : ∀ {m : Nat} {cs : List Cell}, (cs.drop m).all plainC = true → mapN f m cs = cs.map f
  | 0, cs, h => by
    simp only [List.drop_zero, List.all_eq_true] at h
    have : cs.map f = cs.map id := List.map_congr_left fun c hc => hf c (h c hc)
    rw [this, List.map_id]; rfl
  | m + 1, [], _ => rfl
  | m + 1, c :: cs, h => by
    simp only [mapN, List.map_cons, mapN_eq hf (m := m) (cs := cs) (by simpa using h)]

theorem renC_plain {d b : Nat} {c : Cell} (h : plainC c = true) : renC d b c = c := by
  cases c <;> first | rfl | (cases h; done)
theorem mapV1_ren {d b m : Nat} {v : CV} (h : restOk1 m v = true) : mapV1 (renC d b) m v = renV1 d b v := by
  cases v <;> first | rfl | skip
  rename_i cs
  show CV.agg _ = CV.agg _
  rw [mapN_eq (fun c hc => renC_plain hc) h]
theorem mapV_ren {d b m : Nat} {v : CV} (h : restOk m v = true) : mapV (renC d b) m v = renV d b v := by
  cases v with
  | tup vs =>
    simp only [mapV, renV, CV.tup.injEq]
    exact List.map_congr_left fun v hv => mapV1_ren (List.all_eq_true.1 h v hv)
  | one c => rfl
  | agg cs => exact mapV1_ren (m := m) (v := .agg cs) h
  | _ => rfl

theorem putC_eq : ∀ {us cs : List Cell} {off : Nat}, off + us.length ≤ cs.length → putC cs off us = cs.take off ++ (us ++ cs.drop (off + us.length))
  | [], cs, off, _ => by simp [putC]
  | u :: us, cs, off, h => by
    simp only [List.length_cons] at h
    rw [putC, putC_eq (by rw [List.length_set]; omega)]
    obtain ⟨A, x, B, rfl, hA⟩ : ∃ A x B, cs = A ++ x :: B ∧ A.length = off := ⟨cs.take off, cs[off], cs.drop (off + 1), by simp, by simp; omega⟩
    subst hA
    rw [List.set_append_right _ _ (Nat.le_refl _), Nat.sub_self, List.set_cons_zero, List.take_append_of_le_length (Nat.le_refl _), List.take_length]
    have e1 : (A ++ u :: B).take (A.length + 1) = A ++ [u] := by
      rw [show A ++ u :: B = (A ++ [u]) ++ B by simp, List.take_append_of_le_length (by simp)]
      exact List.take_of_length_le (by simp)
    have e2 : ∀ y : Cell, (A ++ y :: B).drop (A.length + 1 + us.length) = B.drop us.length := fun y => by
      rw [show A ++ y :: B = (A ++ [y]) ++ B by simp, show A.length + 1 + us.length = (A ++ [y]).length + us.length by simp, List.drop_length_add_append]
    rw [e1, e2, List.length_cons, show A.length + (us.length + 1) = A.length + 1 + us.length by omega, e2]
    simp

theorem joinW_eq {us r : List Cell} : joinW us r = us ++ r := by
  cases r <;> simp [joinW]

theorem fillW_sound : ∀ {ps : List (Nat × Nat × List Cell)} {cs : List Cell}, (fillW cs ps).1 = true → fillC cs ps = some (fillW cs ps).2
  | [], cs, _ => rfl
  | (off, size, us) :: r, cs, h => by
    simp only [fillW, Bool.and_eq_true, beq_iff_eq, decide_eq_true_eq] at h
    simp only [fillC, fillW]
    obtain ⟨⟨h1, h2⟩, h3⟩ := h
    subst h1
    rw [if_pos ⟨rfl, h2⟩, putC_eq h2]
    rw [joinW_eq] at h3 ⊢
    exact fillW_sound h3

theorem partsW_sound {esz : Nat} : ∀ {ps : List (Nat × SX)} {q : Bool × List (Nat × Nat × List Cell)}, partsW esz st ps = some q → q.1 = true → partsS esz st ps = some q.2
  | [], q, h, _ => by
    simp only [partsW, Option.some.injEq] at h
    subst h; rfl
  | (i, x) :: r, q, h, hq => by
    simp only [partsW, Option.bind_eq_some_iff, Option.map_eq_some_iff] at h
    obtain ⟨us, hu, q', hq', rfl⟩ := h
    simp only [Bool.and_eq_true] at hq
    simp only [partsS, hu, Option.bind_some, hq.1, cond_true, partsW_sound hq' hq.2, Option.map_some]

theorem storeW_sound {cs us : List Cell} {off n : Nat} (h : (storeW cs off n us).1 = true) : us.length = n ∧ overC cs off us = some (storeW cs off n us).2 := by
  unfold storeW at h ⊢
  split at h
  · simp only [Bool.and_eq_true, beq_iff_eq] at h
    obtain ⟨⟨h1, h2⟩, h3⟩ := h
    subst h3
    refine ⟨h1, ?_⟩
    unfold overC
    rw [if_pos (by omega), if_pos (by omega)]
  · simp only [Bool.and_eq_true, beq_iff_eq, decide_eq_true_eq] at h
    obtain ⟨h1, h2⟩ := h
    refine ⟨h1, ?_⟩
    subst h1
    unfold overC
    rw [if_pos h2]
    split
    · rename_i e
      have h0 : off = 0 := by omega
      subst h0
      rw [putC_eq h2]
      simp [← e]
    · rfl

theorem evOpW_sound {d : Nat} {op : SOp} {q : Bool × Res} (h1 : oneL op = true) (h : evOpW C d st op = some q) (hq : q.1 = true) : evOp C.q.ctx d st op = some q.2 := by
  cases op with
  | store el n p x =>
    simp only [evOpW, Option.bind_eq_some_iff] at h
    obtain ⟨us, hus, h⟩ := h
    simp only [evOp, hus, Option.bind_some]
    split at h
    · rename_i e
      simp only [Option.map_eq_some_iff] at h
      obtain ⟨cs, hc, rfl⟩ := h
      obtain ⟨k1, k2⟩ := storeW_sound hq
      rw [if_pos k1]
      simp only [e, hc, Option.bind_some, k2, Option.map_some]
    · rename_i e
      simp only [Option.map_eq_some_iff] at h
      obtain ⟨t, hc, rfl⟩ := h
      simp only [Bool.and_eq_true] at hq
      obtain ⟨k1, k2⟩ := storeW_sound hq.1
      rw [if_pos k1]
      simp only [e, hq.2, cond_true, hc, Option.bind_some, k2, Option.map_some]
    · cases h
  | ixA len esz p i =>
    simp only [evOpW] at h
    simp only [evOp]
    split at h
    · rename_i e
      simp only [Option.map_eq_some_iff] at h
      obtain ⟨v, hv, rfl⟩ := h
      simp only [Bool.and_eq_true, decide_eq_true_eq] at hq
      simp only [e]
      rw [if_pos hq]
      rw [shiftR_eq] at hv
      simp only [hv, Option.map_some]
    · cases h
  | build z ps =>
    simp only [evOpW, Option.map_eq_some_iff] at h
    obtain ⟨ps', hp, rfl⟩ := h
    simp only [evOp, hp, Option.bind_some, fillW_sound hq, Option.map_some]
  | buildS e esz n z ps =>
    simp only [evOpW, Option.map_eq_some_iff] at h
    obtain ⟨ps', hp, rfl⟩ := h
    simp only [Bool.and_eq_true] at hq
    simp only [evOp, partsW_sound hp hq.1, Option.bind_some, fillW_sound hq.2, Option.map_some]
  | buildF esz n z ps =>
    simp only [evOpW, Option.map_eq_some_iff] at h
    obtain ⟨ps', hp, rfl⟩ := h
    simp only [Bool.and_eq_true] at hq
    simp only [evOp, partsW_sound hp hq.1, Option.bind_some, fillW_sound hq.2, Option.map_some]
  | eqA ne ks x y =>
    simp only [evOpW] at h
    simp only [evOp]
    split at h
    · rename_i e1 e2
      simp only [Option.some.injEq] at h
      subst h
      simp only [Bool.and_eq_true] at hq
      simp only [e1, e2, eqW_sound hq.1 hq.2, Option.map_some]
    · cases h
  | call ow pt f xs =>
    simp only [evOpW, Option.bind_eq_some_iff, Option.map_eq_some_iff] at h
    obtain ⟨g, hg, vs, hvs, f, hf, ⟨r0, r⟩, hr, rfl⟩ := h
    simp only [Bool.and_eq_true, Bool.or_eq_true, Bool.not_eq_true', beq_iff_eq] at hq
    obtain ⟨⟨⟨⟨⟨⟨q00, q0⟩, q1⟩, q2⟩, q3⟩, q4⟩, q5⟩ := hq
    simp only [evOp, hg, Option.bind_some, doCall, argsW_sound hvs q00, CtxQ.ctx, hf, hr, q0, cond_true]
    have p2 : pt = false → r.toks.length = 0 := fun e => by
      rcases q2 with q2 | q2
      · rw [e] at q2; cases q2
      · exact q2
    have p3 : ow = true → noSlR r = true := fun e => by
      rcases q3 with q3 | q3
      · rw [e] at q3; cases q3
      · exact q3
    rw [if_pos ⟨q1, p2, p3, q4⟩]
    cases pt with
    | true =>
      rcases q5 with q5 | q5
      · cases q5
      · simp only [cond_true, mapV_ren q5]
    | false => rfl
  | pcall g p xs =>
    simp only [evOpW] at h
    simp only [evOp]
    split at h
    · rename_i e
      simp only [Option.bind_eq_some_iff, Option.map_eq_some_iff] at h
      obtain ⟨cs, hc, vs, hv, f, hf, ⟨r0, r⟩, hr, rfl⟩ := h
      simp only [Bool.and_eq_true, beq_iff_eq] at hq
      obtain ⟨⟨⟨⟨q00, q0⟩, q1⟩, q2⟩, q3⟩ := hq
      simp only [e, hc, argsW_sound hv q00, CtxQ.ctx, hf, hr, q0, Option.bind_some, cond_true]
      rw [if_pos ⟨q1, q2, q3⟩]
    · cases h
  | load el ag n ks p =>
    simp only [evOpW] at h
    split at h
    · unfold loadW at h
      simp only [evOp]
      split at h
      · rename_i e
        simp only [Option.some.injEq] at h
        subst h
        simp only [decide_eq_true_eq] at hq
        simp only [e, sliceC, if_pos hq, cond_true, Option.map_some]
      · rename_i e
        simp only [Option.map_eq_some_iff] at h
        obtain ⟨t, ht, rfl⟩ := h
        simp only [decide_eq_true_eq] at hq
        simp only [e, ht, Option.bind_some, sliceC, if_pos hq, cond_true, Option.map_some]
      · cases h
    · exact evOpQ_sound h1 h hq
  | _ => exact evOpQ_sound h1 h hq

theorem brO_elim {q : Bool} {oc : Orc} {T F : Orc → Prop} (h : brO q oc T F) : (q = true ∧ ∃ o, T o) ∨ (q = false ∧ ∃ o, F o) := by
  unfold brO at h
  cases oc with
  | b v r =>
    obtain ⟨rfl, h⟩ := h
    cases q with
    | true => exact .inl ⟨rfl, _, h⟩
    | false => exact .inr ⟨rfl, _, h⟩
  | n k r =>
    cases k with
    | zero =>
      cases q with
      | true => exact .inl ⟨rfl, _, h⟩
      | false => exact .inr ⟨rfl, _, h⟩
    | succ k =>
      cases q with
      | true => exact .inl ⟨rfl, _, h⟩
      | false => exact .inr ⟨rfl, _, h⟩
  | two a b =>
    cases q with
    | true => exact .inl ⟨rfl, _, h⟩
    | false => exact .inr ⟨rfl, _, h⟩
  | _ => exact h.elim

theorem brO_mono {q : Bool} {oc : Orc} {T F T' F' : Orc → Prop} (hT : ∀ o, T o → T' o) (hF : ∀ o, F o → F' o) (h : brO q oc T F) : brO q oc T' F' := by
  unfold brO at h ⊢
  cases oc with
  | b v r =>
    obtain ⟨e, h⟩ := h
    refine ⟨e, ?_⟩
    cases v with
    | true => exact hT _ h
    | false => exact hF _ h
  | n k r =>
    cases k with
    | zero =>
      cases q with
      | true => exact hT _ h
      | false => exact hF _ h
    | succ k =>
      cases q with
      | true => exact hT _ h
      | false => exact hF _ h
  | two a b =>
    cases q with
    | true => exact hT _ h
    | false => exact hF _ h
  | _ => exact h.elim

theorem opO_sound {o : SOper} {k : St → Prop} (h1 : oneL o.op = true) (hw : wantedC st o.guard = some true) (h : opO C o st k) : ∃ s, stepC C.q.ctx o st = some s ∧ k s := by
  unfold opO at h
  cases hm : (!(makes o.op) || decide (o.dst.getD st.tm.length < st.tm.length)) with
  | false => rw [hm] at h; exact h.elim
  | true =>
    rw [hm] at h
    simp only [cond_true] at h
    cases hq : evOpW C (o.dst.getD 0) st o.op with
    | none => rw [hq] at h; exact h.elim
    | some q =>
      rw [hq] at h
      simp only at h
      cases h2 : q.1 with
      | false => rw [h2] at h; exact h.elim
      | true =>
        rw [h2] at h
        refine ⟨_, ?_, h⟩
        unfold stepC
        rw [hw]
        simp only [Bool.or_eq_true, Bool.not_eq_true', decide_eq_true_eq] at hm
        have hn : ¬ (makes o.op = true ∧ o.dst.getD st.tm.length ≥ st.tm.length) := fun hh => by
          rcases hm with hm | hm
          · rw [hm] at hh; cases hh.1
          · exact absurd hm (Nat.not_lt.2 hh.2)
        simp only [if_neg hn, evOpW_sound h1 hq h2]
        rfl

theorem opO_mono {o : SOper} {k k' : St → Prop} (hk : ∀ s, k s → k' s) (h : opO C o st k) : opO C o st k' := by
  unfold opO at h ⊢
  cases hm : (!(makes o.op) || decide (o.dst.getD st.tm.length < st.tm.length)) with
  | false => rw [hm] at h; exact h.elim
  | true =>
    rw [hm] at h
    simp only [cond_true] at h ⊢
    cases hq : evOpW C (o.dst.getD 0) st o.op with
    | none => rw [hq] at h; exact h.elim
    | some q =>
      rw [hq] at h
      simp only at h ⊢
      cases h2 : q.1 with
      | false => rw [h2] at h; exact h.elim
      | true => rw [h2] at h; exact hk _ h

theorem opsO_mono : ∀ {l : List SOper} {oc : Orc} {st : St} {K K' : Orc → St → Prop}, (∀ o s, K o s → K' o s) → opsO C l oc st K → opsO C l oc st K'
  | [], _, _, _, _, hK, h => hK _ _ h
  | o :: l, oc, st, K, K', hK, h => by
    simp only [opsO] at h ⊢
    cases hg : o.guard with
    | none => rw [hg] at h; exact opO_mono (fun s hs => opsO_mono hK hs) h
    | some g =>
      rw [hg] at h
      obtain ⟨j, w⟩ := g
      simp only at h ⊢
      split at h
      · refine brO_mono (fun o' h => ?_) (fun o' h => ?_) h
        · cases w with
          | true => exact opO_mono (k := fun s => opsO C l o' s K) (fun s hs => opsO_mono hK hs) h
          | false => exact opsO_mono hK h
        · cases w with
          | true => exact opsO_mono hK h
          | false => exact opO_mono (k := fun s => opsO C l o' s K) (fun s hs => opsO_mono hK hs) h
      · exact opsO_mono hK h
      · exact h.elim

theorem opsO_sound : ∀ {l : List SOper} {oc : Orc} {st : St} {K : Orc → St → Prop}, (∀ o ∈ l, oneL o.op = true) → opsO C l oc st K → ∃ s o, evOps C.q.ctx l st = some s ∧ K o s
  | [], oc, st, K, _, h => ⟨st, oc, rfl, h⟩
  | o :: l, oc, st, K, h1, h => by
    simp only [opsO] at h
    have h1o := h1 o (by simp)
    have h1l : ∀ o ∈ l, oneL o.op = true := fun o ho => h1 o (by simp [ho])
    cases hg : o.guard with
    | none =>
      rw [hg] at h
      obtain ⟨s1, e1, h2⟩ := opO_sound h1o (by rw [hg]; rfl) h
      obtain ⟨s, o', e2, h3⟩ := opsO_sound h1l h2
      exact ⟨s, o', by simp only [evOps, e1, Option.bind_some, e2], h3⟩
    | some g =>
      rw [hg] at h
      simp only at h
      obtain ⟨j, w⟩ := g
      simp only at h
      have skip : ∀ {oc : Orc}, wantedC st (some (j, w)) = some false → opsO C l oc (skipR o.dst st) K → ∃ s o', evOps C.q.ctx (o :: l) st = some s ∧ K o' s := fun hw h => by
        obtain ⟨s, o', e2, h3⟩ := opsO_sound h1l h
        refine ⟨s, o', ?_, h3⟩
        have e1 : stepC C.q.ctx o st = some (skipR o.dst st) := by
          unfold stepC
          simp only [hg, hw]
          rfl
        simp only [evOps, e1, Option.bind_some, e2]
      have take : ∀ {oc : Orc}, wantedC st (some (j, w)) = some true → (opO C o st fun s => opsO C l oc s K) → ∃ s o', evOps C.q.ctx (o :: l) st = some s ∧ K o' s := fun hw h => by
        obtain ⟨s1, e1, h2⟩ := opO_sound h1o (by rw [hg]; exact hw) h
        obtain ⟨s, o', e2, h3⟩ := opsO_sound h1l h2
        exact ⟨s, o', by simp only [evOps, e1, Option.bind_some, e2], h3⟩
      split at h
      · rename_i q hq
        have hw : ∀ q', q = q' → wantedC st (some (j, w)) = some (q' == w) := fun q' e => by simp only [wantedC, hq, e]
        rcases brO_elim h with ⟨rfl, oc', h⟩ | ⟨rfl, oc', h⟩
        · rw [setB_same hq] at h
          cases w with
          | true => exact take (hw true rfl) h
          | false => exact skip (hw true rfl) h
        · rw [setB_same hq] at h
          cases w with
          | true => exact skip (hw false rfl) h
          | false => exact take (hw false rfl) h
      · rename_i hq
        exact skip (by simp only [wantedC, hq]) h
      · exact h.elim

theorem keepC_plain {lt : List Nat} {c : Cell} (h : plainC c = true) : keepC lt st c = c := by
  cases c <;> first | rfl | (cases h; done)

theorem keepL_eq {m : Nat} {lt : List Nat} {cs : List Cell} (h : (keepL m lt st cs).1 = true) : (keepL m lt st cs).2 = cs.map (keepC lt st) := by
  cases lt with
  | nil =>
    have h : cs.all plainC = true := h
    show cs = _
    have : cs.map (keepC [] st) = cs.map id := List.map_congr_left fun c hc => keepC_plain (List.all_eq_true.1 h c hc)
    rw [this, List.map_id]
  | cons d lt => exact mapN_eq (fun c hc => keepC_plain hc) h

theorem keepVW_eq {m : Nat} {ls lb lt : List Nat} {i : Nat} {c : CV} (h : (keepVW m ls lb lt st i c).1 = true) : (keepVW m ls lb lt st i c).2 = keepV ls lb lt st i c := by
  unfold keepVW keepV at *
  cases hl : ls.contains i with
  | false => simp
  | true =>
    rw [hl] at h
    simp only [cond_true, if_true] at h ⊢
    cases c with
    | one c => cases c <;> rfl
    | agg cs => simp only at h ⊢; rw [keepL_eq h]
    | _ => rfl

theorem keepTmW_eq {m : Nat} {ls lb lt : List Nat} : ∀ {l : List CV} {i : Nat}, (keepTmW m ls lb lt st i l).1 = true → (keepTmW m ls lb lt st i l).2 = keepTm ls lb lt st i l
  | [], _, _ => rfl
  | c :: l, i, h => by
    simp only [keepTmW, Bool.and_eq_true] at h
    simp only [keepTmW, keepTm, keepVW_eq h.1, keepTmW_eq h.2]

theorem keepBW_eq {m : Nat} {lb lt : List Nat} : ∀ {l : List (List (List Cell))} {d : Nat}, (keepBW m lb lt st d l).1 = true → (keepBW m lb lt st d l).2 = keepT (fun cs => cs.map (keepC lt st)) lb d l
  | [], _, _ => rfl
  | x :: l, d, h => by
    simp only [keepBW] at h ⊢
    cases hl : lb.contains d with
    | false =>
      rw [hl] at h
      simp only [cond_false] at h ⊢
      simp only [keepT, hl, keepBW_eq h]
      rfl
    | true =>
      rw [hl] at h
      simp only [cond_true, Bool.and_eq_true] at h ⊢
      simp only [keepT, hl, keepBW_eq h.2, if_true, List.cons.injEq, and_true]
      exact List.map_congr_left fun cs hcs => keepL_eq (List.all_eq_true.1 h.1 cs hcs)

theorem headW_eq {m : Nat} {ls lb lt : List Nat} (h : (headW m ls lb lt st).1 = true) : (headW m ls lb lt st).2 = headC ls lb lt st := by
  simp only [headW, Bool.and_eq_true] at h
  simp only [headW, headC, keepTmW_eq h.1, keepBW_eq h.2]
end

theorem kLp_mono {hd : St → Bool × St} {N N' : Bool × St → Prop} {K K' : Orc → Ex → St → Prop} (hN : ∀ s, N s → N' s) (hK : ∀ o e s, K o e s → K' o e s) (o : Orc) (e : Ex) (s : St) (h : kLp hd N K o e s) : kLp hd N' K' o e s := by
  cases e with
  | norm => exact hN _ h
  | exit i => exact hK _ _ s h
  | ret => exact hK _ _ s h

theorem loopNO_mono {body : St → (Orc → Ex → St → Prop) → Prop} {hd : St → Bool × St} (hb : ∀ st (K K' : Orc → Ex → St → Prop), (∀ o e s, K o e s → K' o e s) → body st K → body st K') {K K' : Orc → Ex → St → Prop} (hK : ∀ o e s, K o e s → K' o e s) :
    ∀ (n : Nat) (p : Bool × St), loopNO body hd K n p → loopNO body hd K' n p
  | 0, _, h => h
  | n + 1, _, h => ⟨h.1, hb _ _ _ (kLp_mono (loopNO_mono hb hK n) hK) h.2⟩

theorem wpO_mono {C : CtxW} : ∀ {c : SC} {oc : Orc} {st : St} {K K' : Orc → Ex → St → Prop}, (∀ o e s, K o e s → K' o e s) → wpO C c oc st K → wpO C c oc st K' := by
  intro c
  induction c with
  | skip => intro oc st K K' hK h; exact hK _ _ _ h
  | reg ops => intro oc st K K' hK h; exact opsO_mono (fun o s hs => hK o .norm s hs) h
  | seq a b iha ihb =>
    intro oc st K K' hK h
    refine iha (fun o e s hs => ?_) h
    cases e with
    | norm => exact ihb hK hs
    | exit i => exact hK _ _ _ hs
    | ret => exact hK _ _ _ hs
  | cond x a b iha ihb =>
    intro oc st K K' hK h
    simp only [wpO] at h ⊢
    split at h
    · split at h
      · exact brO_mono (fun o h => iha hK h) (fun o h => ihb hK h) h
      · exact h.elim
    · rename_i q
      cases q with
      | true => exact iha hK h
      | false => exact ihb hK h
    · exact h.elim
  | blk id c ih =>
    intro oc st K K' hK h
    refine ih (fun o e s hs => ?_) h
    cases e with
    | norm => exact hK _ _ _ hs
    | ret => exact hK _ _ _ hs
    | exit i =>
      simp only at hs ⊢
      cases hi : (i == id) with
      | true => rw [hi] at hs; exact hK _ _ _ hs
      | false => rw [hi] at hs; exact hK _ _ _ hs
  | loop ls lb lt c ih =>
    intro oc st K K' hK h
    simp only [wpO] at h ⊢
    obtain ⟨n, h⟩ := h
    exact ⟨n, loopNO_mono (fun st K K' hK h => by obtain ⟨ob, h⟩ := h; exact ⟨ob, ih hK h⟩) hK n _ h⟩
  | exit id => intro oc st K K' hK h; exact hK _ _ _ h
  | ret => intro oc st K K' hK h; exact hK _ _ _ h

/-! ### Rounds without states -/

universe u
def sumE {α β : Type} {γ : Sort u} (f : α → γ) (g : β → γ) (x : α ⊕ β) : γ := match x with
  | .inl x => f x
  | .inr y => g y
theorem sumE_l {α β : Type} {γ : Sort u} (f : α → γ) (g : β → γ) (x : α) : sumE f g (.inl x) = f x := rfl
theorem sumE_r {α β : Type} {γ : Sort u} (f : α → γ) (g : β → γ) (x : β) : sumE f g (.inr x) = g x := rfl


/-- A loop over plain values. -/
def loopP {σ : Type} (B : σ → (σ → Prop) → Prop) : Nat → σ → Prop
  | 0, _ => False
  | n + 1, x => B x (loopP B n)
inductive LoopP {σ : Type} (B : σ → (σ → Prop) → Prop) (x : σ) : Prop
  | of (n : Nat) (h : loopP B n x)

/-- What comes behind a round in the code: the same head for other plain values. -/
def again {σ : Type} (I : σ → St) (k : σ → Prop) (p : Bool × St) : Prop := p.1 = true ∧ ∃ y, p.2 = I y ∧ k y

theorem bodyX_mono {C : CtxW} {c : SC} (st : St) (K K' : Orc → Ex → St → Prop) (hK : ∀ o e s, K o e s → K' o e s) (h : bodyX C c st K) : bodyX C c st K' := by
  obtain ⟨ob, h⟩ := h
  exact ⟨ob, wpO_mono hK h⟩

theorem loop_of {σ : Type} {B : σ → (σ → Prop) → Prop} {I : σ → St} {C : CtxW} {c : SC} {hd : St → Bool × St} {K : Orc → Ex → St → Prop}
    (hB : ∀ x (k : σ → Prop), B x k → bodyX C c (I x) (kLp hd (again I k) K)) {x : σ} (h : LoopP B x) {p : Bool × St} (hp : p.1 = true) (hI : p.2 = I x) : LoopO (bodyX C c) hd K p := by
  obtain ⟨n, h⟩ := h
  refine ⟨n, ?_⟩
  induction n generalizing x p with
  | zero => exact h.elim
  | succ n ih =>
    refine ⟨hp, ?_⟩
    rw [hI]
    refine bodyX_mono _ _ _ (kLp_mono (fun s hs => ?_) (fun _ _ _ h => h)) (hB x _ h)
    obtain ⟨g1, z, g2, g3⟩ := hs
    exact ih (x := z) g1 g2 g3

/-- A loop over plain values ends, if something grows less. -/
theorem LoopP.ind {σ : Type} {B : σ → (σ → Prop) → Prop} {I : σ → Prop} {μ : σ → Nat} (h : ∀ x (k : σ → Prop), I x → (∀ y, I y → μ y < μ x → k y) → B x k) {x : σ} (hx : I x) : LoopP B x := by
  refine ⟨μ x + 1, ?_⟩
  have : ∀ (n : Nat) (x : σ), I x → μ x < n → loopP B n x := by
    intro n
    induction n with
    | zero => intro x _ h; omega
    | succ n ih => intro x hx hn; exact h x _ hx fun y hy hl => ih y hy (by omega)
  exact this _ x hx (by omega)

theorem bodyX_i {C : CtxW} {c : SC} {ob : Orc} {st : St} {K : Orc → Ex → St → Prop} (h : wpO C c ob st K) : bodyX C c st K := ⟨ob, h⟩
theorem again_i {σ : Type} {I : σ → St} {k : σ → Prop} {y : σ} {q : Bool} (hq : q = true) (h : k y) : again I k (q, I y) := ⟨hq, y, rfl, h⟩
theorem ck_i {q : Bool} {A : Prop} (h : q = true) (hA : A) : (bif q then A else False) := by rw [h]; exact hA
theorem cond_map {q : Bool} {A B A' B' : Prop} (h : bif q then A else B) (hA : A → A') (hB : B → B') : (bif q then A' else B') := by
  cases q with
  | true => exact hA h
  | false => exact hB h
theorem ck_map {q : Bool} {A A' : Prop} (h : bif q then A else False) (hA : A → A') : (bif q then A' else False) := cond_map h hA id
theorem and_map {q v : Bool} {A A' : Prop} (h : q = v ∧ A) (hA : A → A') : q = v ∧ A' := ⟨h.1, hA h.2⟩
theorem cond_mapE {q : Bool} {A B A' B' : Prop} (h : bif q then A else B) (hA : q = true → A → A') (hB : q = false → B → B') : (bif q then A' else B') := by
  cases q with
  | true => exact hA rfl h
  | false => exact hB rfl h
theorem ck_mapE {q : Bool} {A A' : Prop} (h : bif q then A else False) (hA : q = true → A → A') : (bif q then A' else False) := cond_mapE h hA (fun _ h => h)
theorem and_mapE {q v : Bool} {A A' : Prop} (h : q = v ∧ A) (hA : q = v → A → A') : q = v ∧ A' := ⟨h.1, hA h.1 h.2⟩

end Go.Proofs.YtlfojobligplkaaDoor.Mt

/-! What is told of a function is so, if the evaluator with decisions finds it. Conditions: those that each lemma names. -/
namespace Go.Proofs.YtlfojobligplkaaDoor.Mt
open Go Go.RowKit
section
variable {P : Program} {W0 : Base} {S0 : Nat → Prop} {φ : Nat → Nat → Nat} {γ : Nat → Nat → Value} {st st' : St} {a : Act} {w w' : World} {A : Alias}

theorem code_wpO (hm : P.follows .mixedOrders = true) {C : CtxW} (hC : CtxOk P C.q.ctx) {H : Hints} {n : Nat} : ∀ {code : Code} {hd hd' : Heads} {sc : SC}, cc P H A code hd = some (sc, hd') → oneC sc = true → ∀ {v0 : Option Value}, (v0.isSome = true → noDst0 sc = true) →
    ∀ {st : St} {φ : Nat → Nat → Nat} {γ : Nat → Nat → Value} {a : Act} {w : World} {oc : Orc} {K : Orc → Ex → St → Prop} {Q : Exit → Act → World → Prop}, wpO C sc oc st K → Rep W0 S0 φ γ st a w → SzA A n st → Slot0 v0 a →
      (∀ o e s φ' γ' a' w', K o e s → Rep W0 S0 φ' γ' s a' w' → SzA A n s → Slot0 v0 a' → Q (exOf e) a' w') → code.wp P Q a w := by
  intro code
  induction code with
  | skip =>
    intro hd hd' sc hcc h1 v0 h0 st φ γ a w oc K Q hw hR hs hz hQ
    simp only [cc, Option.some.injEq, Prod.mk.injEq] at hcc
    obtain ⟨rfl, rfl⟩ := hcc
    exact wp_skip (hQ oc .norm st φ γ a w hw hR hs hz)
  | region id ops draw =>
    intro hd hd' sc hcc h1 v0 h0 st φ γ a w oc K Q hw hR hs hz hQ
    simp only [cc, Option.bind_eq_some_iff] at hcc
    obtain ⟨s, hso, hcc⟩ := hcc
    split at hcc
    · rename_i hc
      simp only [Option.some.injEq, Prod.mk.injEq] at hcc
      obtain ⟨rfl, rfl⟩ := hcc
      obtain ⟨s', o', hev, hK⟩ := opsO_sound (fun o ho => List.all_eq_true.1 h1 o ho) (show opsO C s oc st (fun o s => K o .norm s) from hw)
      obtain ⟨k1, k2, k3⟩ := evOps_keep s st s' (fun o ho => List.all_eq_true.1 hc.2.2 o ho) hs.1 hs.2.1 hev
      exact region_wp hm hC hso hc.1 hc.2.2 hev hR hs.1 hs.2.1 (fun so hso hv => by have := List.all_eq_true.1 (h0 hv) so hso; simpa using this) hz fun φ' γ' a' w' hR' hz' => hQ o' .norm s' φ' γ' a' w' hK hR' ⟨k1, k2, k3.trans hs.2.2⟩ hz'
    · cases hcc
  | seq x y ihx ihy =>
    intro hd hd' sc hcc h1 v0 h0 st φ γ a w oc K Q hw hR hs hz hQ
    simp only [cc, Option.bind_eq_some_iff, Option.map_eq_some_iff, Prod.mk.injEq] at hcc
    obtain ⟨⟨sx, h2⟩, hx, ⟨sy, h3⟩, hy, rfl, rfl⟩ := hcc
    simp only [oneC, Bool.and_eq_true] at h1
    simp only [noDst0, Bool.and_eq_true] at h0
    refine wp_seq (ihx hx h1.1 (fun h => (h0 h).1) hw hR hs hz fun o e s φ' γ' a' w' hK hR' hs' hz' => ?_)
    cases e with
    | norm => exact ihy hy h1.2 (fun h => (h0 h).2) hK hR' hs' hz' hQ
    | exit i => exact hQ o (.exit i) s φ' γ' a' w' hK hR' hs' hz'
    | ret => exact hQ o .ret s φ' γ' a' w' hK hR' hs' hz'
  | cond c x y ihx ihy =>
    intro hd hd' sc hcc h1 v0 h0 st φ γ a w oc K Q hw hR hs hz hQ
    simp only [cc, Option.bind_eq_some_iff, Option.map_eq_some_iff, Prod.mk.injEq] at hcc
    obtain ⟨s, hsx, ⟨sx, h2⟩, hx, ⟨sy, h3⟩, hy, rfl, rfl⟩ := hcc
    simp only [oneC, Bool.and_eq_true] at h1
    simp only [noDst0, Bool.and_eq_true] at h0
    simp only [wpO] at hw
    split at hw
    · rename_i j
      split at hw
      · rename_i q hq
        have hv := cond_rel hsx hR (show getX st (.t j) = .one (.v (.bool q)) from hq)
        rcases brO_elim hw with ⟨rfl, oc', hw⟩ | ⟨rfl, oc', hw⟩
        · rw [setB_same hq] at hw
          exact wp_cond_true hv (ihx hx h1.1 (fun h => (h0 h).1) hw hR hs hz hQ)
        · rw [setB_same hq] at hw
          exact wp_cond_false hv (ihy hy h1.2 (fun h => (h0 h).2) hw hR hs hz hQ)
      · exact hw.elim
    · rename_i q
      have hv := cond_rel hsx hR (show getX st (.c (.bool q)) = .one (.v (.bool q)) from rfl)
      cases q with
      | true => exact wp_cond_true hv (ihx hx h1.1 (fun h => (h0 h).1) hw hR hs hz hQ)
      | false => exact wp_cond_false hv (ihy hy h1.2 (fun h => (h0 h).2) hw hR hs hz hQ)
    · exact hw.elim
  | block id c ih =>
    intro hd hd' sc hcc h1 v0 h0 st φ γ a w oc K Q hw hR hs hz hQ
    simp only [cc, Option.map_eq_some_iff, Prod.mk.injEq] at hcc
    obtain ⟨⟨sx, h2⟩, hx, rfl, rfl⟩ := hcc
    refine wp_block (ih hx h1 h0 hw hR hs hz fun o e s φ' γ' a' w' hK hR' hs' hz' => ?_)
    cases e with
    | norm => exact hQ o .norm s φ' γ' a' w' hK hR' hs' hz'
    | exit i =>
      show if i = id then Q .normal a' w' else Q (.exit i) a' w'
      by_cases e : i = id
      · subst e
        rw [if_pos rfl]
        exact hQ o .norm s φ' γ' a' w' (by simpa using hK) hR' hs' hz'
      · rw [if_neg e]
        exact hQ o (.exit i) s φ' γ' a' w' (by simpa [show (i == id) = false from by simpa using e] using hK) hR' hs' hz'
    | ret => exact hQ o .ret s φ' γ' a' w' hK hR' hs' hz'
  | loop c ih =>
    intro hd hd' sc hcc h1 v0 h0 st φ γ a w oc K Q hw hR hs hz hQ
    cases hd with
    | nil => simp [cc] at hcc
    | cons l r =>
      obtain ⟨ls, lb, lt⟩ := l
      simp only [cc, Option.map_eq_some_iff, Prod.mk.injEq] at hcc
      obtain ⟨⟨sx, h2⟩, hx, rfl, rfl⟩ := hcc
      obtain ⟨N, hN⟩ := (show LoopO (bodyX C sx) (headW C.m ls lb lt) K (headW C.m ls lb lt st) from hw)
      refine wp_loop_rounds N ?_
      clear hw
      induction N generalizing st φ γ a w with
      | zero => exact hN.elim
      | succ N ihN =>
        rw [rounds_succ]
        obtain ⟨hq, ob, hN⟩ := hN
        rw [headW_eq hq] at hN
        refine ih hx h1 h0 (st := headC ls lb lt st) hN (head_rep ls lb lt hR) ⟨head_sz ls lb lt hs.1, head_alias ls lb lt hs.2.1, ?_⟩ hz fun o e s φ' γ' a' w' hK hR' hs' hz' => ?_
        · show (keepTm ls lb lt st 0 st.tm).length = n
          rw [keepTm_len]; exact hs.2.2
        · cases e with
          | norm => exact ihN hR' hs' hz' hK
          | exit i => exact hQ o (.exit i) s φ' γ' a' w' hK hR' hs' hz'
          | ret => exact hQ o .ret s φ' γ' a' w' hK hR' hs' hz'
  | exit id =>
    intro hd hd' sc hcc h1 v0 h0 st φ γ a w oc K Q hw hR hs hz hQ
    simp only [cc, Option.some.injEq, Prod.mk.injEq] at hcc
    obtain ⟨rfl, rfl⟩ := hcc
    exact wp_exit (hQ oc (.exit id) st φ γ a w hw hR hs hz)
  | ret =>
    intro hd hd' sc hcc h1 v0 h0 st φ γ a w oc K Q hw hR hs hz hQ
    simp only [cc, Option.some.injEq, Prod.mk.injEq] at hcc
    obtain ⟨rfl, rfl⟩ := hcc
    exact wp_ret (hQ oc .ret st φ γ a w hw hR hs hz)
  | _ => intro hd hd' sc hcc; simp [cc] at hcc


theorem ownC_plain {c : Cell} (h : plainC c = true) : ownC c = [] := by
  cases c <;> first | rfl | (cases h; done)
theorem ownV1_take {m : Nat} {v : CV} (h : restOk1 m v = true) : ownV1 (retW.takeV1 m v) = ownV1 v := by
  cases v with
  | agg cs =>
    show (cs.take m).flatMap ownC = cs.flatMap ownC
    have h' : (cs.drop m).flatMap ownC = [] := by
      rw [List.flatMap_eq_nil_iff]
      intro c hc
      exact ownC_plain (List.all_eq_true.1 (show (cs.drop m).all plainC = true from h) c hc)
    have := List.take_append_drop m cs
    calc (cs.take m).flatMap ownC = (cs.take m).flatMap ownC ++ (cs.drop m).flatMap ownC := by rw [h', List.append_nil]
      _ = cs.flatMap ownC := by rw [← List.flatMap_append, this]
  | _ => rfl
theorem ownV_take {m : Nat} {v : CV} (h : restOk m v = true) : ownV (retW.takeV m v) = ownV v := by
  cases v with
  | tup vs =>
    show (vs.map (retW.takeV1 m)).flatMap ownV1 = vs.flatMap ownV1
    have h' := List.all_eq_true.1 (show vs.all (restOk1 m) = true from h)
    clear h
    induction vs with
    | nil => rfl
    | cons v vs ih =>
      rw [List.map_cons, List.flatMap_cons, List.flatMap_cons, ownV1_take (h' v (by simp)), ih fun x hx => h' x (by simp [hx])]
  | agg cs => exact ownV1_take (m := m) (v := .agg cs) h
  | _ => rfl
theorem retC_plain {ms : List (Nat × Nat)} {c : Cell} (h : plainC c = true) : retC ms c = c := by
  cases c <;> first | rfl | (cases h; done)
theorem mapV1_ret {ms : List (Nat × Nat)} {m : Nat} {v : CV} (h : restOk1 m v = true) : mapV1 (retC ms) m v = retV1 ms v := by
  cases v with
  | agg cs =>
    show CV.agg _ = _
    rw [mapN_eq (fun c hc => retC_plain hc) h]
    show _ = bif cs.all plainC then CV.agg cs else .agg (cs.map (retC ms))
    cases hp : cs.all plainC with
    | false => rfl
    | true =>
      have : cs.map (retC ms) = cs.map id := List.map_congr_left fun c hc => retC_plain (List.all_eq_true.1 hp c hc)
      simp [this]
  | _ => rfl
theorem mapV_ret {ms : List (Nat × Nat)} {m : Nat} {v : CV} (h : restOk m v = true) : mapV (retC ms) m v = retV ms v := by
  cases v with
  | tup vs =>
    simp only [mapV, retV, CV.tup.injEq]
    exact List.map_congr_left fun v hv => mapV1_ret (List.all_eq_true.1 h v hv)
  | agg cs => exact mapV1_ret (m := m) (v := .agg cs) h
  | _ => rfl
theorem retW_sound {m : Nat} {v : CV} {q : Bool × Ret} (h : retW m st v = some q) (hq : q.1 = true) : retQ st v = some q.2 := by
  simp only [retW, Option.map_eq_some_iff] at h
  obtain ⟨ts, hts, rfl⟩ := h
  simp only at hq
  rw [ownV_take hq] at hts ⊢
  simp only [retQ, hts, Option.map_some, mapV_ret hq]

theorem soundAtO (hm : P.follows .mixedOrders = true) {C : CtxW} (hC : CtxOk P C.q.ctx) {H : Hints} {g : Nat} {hd : Heads} {F : SFn} (hF : sfn P H g hd = some F) {vs : List CV} {r : Ret} {oc : Orc} (h : wpFO C F oc vs (fun r' => r' = r)) : SoundAt P g vs r := by
  obtain ⟨fn, code, hd', h1, h2, h3, h4, h5, h6, h7⟩ := sfn_spec hF
  intro w S us hA
  obtain ⟨hl, hrel⟩ := hA
  refine calls_of_wp h1 h2 ?_
  have hR : Rep ⟨w, fun _ => False⟩ S (fun _ _ => 0) (fun _ _ => undef) (start F.n vs) { tmps := us.toArray ++ Array.replicate (fn.ntmps - us.toArray.size) undef, defers := [] } w := by
    refine ⟨⟨⟨rfl, rfl, rfl, Nat.le_refl _, fun _ _ _ => rfl⟩, fun d k cs hc => absurd hc tat_empty, fun d k cs d' k' cs' hc => absurd hc tat_empty, fun d k t ht => absurd ht tat_empty, fun d k t d' k' t' b ht => absurd ht tat_empty, fun d k t d' k' cs ht => absurd ht tat_empty⟩, rfl, ?_, ?_⟩
    · simp [start, h7, hl]
    · intro i c u hc hu
      rw [h7] at hu
      refine tms_at hl (R := fun c u => RelV w (envOf ⟨w, fun _ => False⟩ S (fun _ _ => 0) (fun _ _ => undef) (start F.n vs) w) c u) (fun j v u hv hu => ?_) (fun u => trivial) i c u hc hu
      have hr := hrel j v u hv hu
      have : Le w (argEnv w S) w (envOf ⟨w, fun _ => False⟩ S (fun _ _ => 0) (fun _ _ => undef) (start F.n vs) w) :=
        ⟨fun b hb => ⟨⟨hb.1, fun _ => hb.2, fun d k cs hc => absurd hc tat_empty, fun d k t ht => absurd ht tat_empty⟩, rfl⟩, fun d k hB => hB.elim, fun d k hT => hT.elim⟩
      exact RelV.of1 (hr.mono this)
  have hS : SzA (aliases P H code []) (start F.n vs).tm.length (start F.n vs) := by
    refine ⟨⟨by simp [start], by simp [start]⟩, fun p b _ i k off hp => ?_, rfl⟩
    exfalso
    have hT := hR.getT p
    rw [hp] at hT
    obtain ⟨⟨cs, hcs⟩, _⟩ := hT
    exact tat_empty hcs
  refine code_wpO (n := (start F.n vs).tm.length) hm hC h3 h5 (v0 := none) (fun e => by cases e) h hR hS (fun v e => by cases e) fun o e s φ' γ' a' w' hK hR' _ _ => ?_
  have fin : ∀ e : Ex, endO C.m F.rs (fun r' => r' = r) o e s → (∀ i, e ≠ .exit i) → a'.defers = [] ∧ ∃ v, (results fn a'.tmps).run P w' = .ok v w' ∧ ∃ u γ, Ending.returned v = .returned u ∧ RetRel w w' S r u γ := by
    intro e hK he
    have hK' : (match resQ s F.rs with
      | some q => bif q.1 then (match retW C.m s q.2 with
        | some r' => bif r'.1 then r'.2 = r else False
        | none => False) else False
      | none => False) := by
      cases e with
      | exit i => exact absurd rfl (he i)
      | norm => exact hK
      | ret => exact hK
    cases hq : resQ s F.rs with
    | none => rw [hq] at hK'; exact hK'.elim
    | some q =>
      rw [hq] at hK'
      simp only at hK'
      cases hb : q.1 with
      | false => rw [hb] at hK'; exact hK'.elim
      | true =>
        rw [hb] at hK'
        simp only [cond_true] at hK'
        cases hr : retW C.m s q.2 with
        | none => rw [hr] at hK'; exact hK'.elim
        | some r' =>
          rw [hr] at hK'
          simp only at hK'
          cases hb2 : r'.1 with
          | false => rw [hb2] at hK'; exact hK'.elim
          | true =>
          rw [hb2] at hK'
          simp only [cond_true] at hK'
          subst hK'
          obtain ⟨u, hu, hv⟩ := run_results h4 h6 hR' hq hb
          obtain ⟨γn, hrr⟩ := ret_rel hR'.mem hv (retW_sound hr hb2)
          exact ⟨hR'.dfr, u, hu, u, γn, rfl, hrr⟩
  cases e with
  | norm => exact fin .norm hK (fun i e => by cases e)
  | ret => exact fin .ret hK (fun i e => by cases e)
  | exit i => exact hK.elim

theorem psoundAtO (hm : P.follows .mixedOrders = true) {C : CtxW} (hC : CtxOk P C.q.ctx) {H : Hints} {g : Nat} {hd : Heads} {F : SFn} (hF : sfn P H g hd = some F) (hz : noDst0 F.code = true) (hrs : F.rs = []) (hal : ∀ code, (P.funcs[g]?).bind (·.body) = some code → lookA (aliases P H code []) 0 = none)
    {cs : List Cell} {vs : List CV} {cs' : List Cell} (hfl : cs.all flatC = true) (hfl' : cs'.all flatC = true) {oc : Orc} (h : wpPO C F oc cs vs (fun r => r = cs')) : PSoundAt P g cs vs cs' := by
  obtain ⟨fn, code, hd', h1, h2, h3, h4, h5, h6, h7⟩ := sfn_spec hF
  have ha0 := hal code (by rw [h1]; exact h2)
  intro w S b T ws us hb hcs hS hA
  obtain ⟨hl, hrel⟩ := hA
  refine calls_of_wp h1 h2 ?_
  have bx0 : ∀ {d k : Nat} {c : List Cell}, tat (startP F.n cs vs).bx d k = some c → d = 0 ∧ k = 0 ∧ c = cs := by
    intro d k c hc
    cases d with
    | zero =>
      cases k with
      | zero => simp only [startP, tat, List.getD_cons_zero, List.getElem?_cons_zero, Option.some.injEq] at hc; exact ⟨rfl, rfl, hc.symm⟩
      | succ k => simp [startP, tat] at hc
    | succ d => exact absurd (show tat (List.replicate (vs.length + (F.n - (vs.length + 1))) []) d k = some c from hc) tat_empty
  have tk0 : ∀ {d k : Nat} {t : Tok}, tat (startP F.n cs vs).tk d k ≠ some t := by
    intro d k t ht
    cases d with
    | zero => simp [startP, tat] at ht
    | succ d => exact absurd (show tat (List.replicate (vs.length + (F.n - (vs.length + 1))) []) d k = some t from ht) tat_empty
  have hbs : b < w.heap.size := (Array.getElem?_eq_some_iff.1 hb).1
  have hR : Rep ⟨w, (· = b)⟩ S (fun _ _ => b) (fun _ _ => undef) (startP F.n cs vs) { tmps := #[.pointer (some ⟨b, 0, none⟩)] ++ us.toArray ++ Array.replicate (fn.ntmps - (#[Value.pointer (some ⟨b, 0, none⟩)] ++ us.toArray).size) undef, defers := [] } w := by
    refine ⟨⟨⟨rfl, rfl, rfl, Nat.le_refl _, fun _ _ _ => rfl⟩, fun d k c hc => ?_, fun d k c d' k' c' hc hc' _ => ?_, fun d k t ht => absurd ht tk0, fun d k t d' k' t' b ht => absurd ht tk0, fun d k t d' k' cs ht => absurd ht tk0⟩, rfl, ?_, ?_⟩
    · obtain ⟨rfl, rfl, rfl⟩ := bx0 hc
      exact ⟨.inr rfl, ws.toArray, T, hb, by simpa using flat_relL hcs hfl⟩
    · obtain ⟨rfl, rfl, _⟩ := bx0 hc
      obtain ⟨rfl, rfl, _⟩ := bx0 hc'
      exact ⟨rfl, rfl⟩
    · simp [startP, h7, hl]; omega
    · intro i c u hc hu
      have hu' : ((.pointer (some ⟨b, 0, none⟩) :: us).toArray ++ Array.replicate (F.n - (Value.pointer (some ⟨b, 0, none⟩) :: us).toArray.size) undef)[i]? = some u := by
        rw [← hu, h7]
        congr 1
        apply Array.toList_inj.1
        simp
      refine tms_at (vs := .box 0 0 0 :: vs) (us := .pointer (some ⟨b, 0, none⟩) :: us) (by simp [hl]) (R := fun c u => RelV w (envOf ⟨w, (· = b)⟩ S (fun _ _ => b) (fun _ _ => undef) (startP F.n cs vs) w) c u) (fun j v u hv hu => ?_) (fun u => trivial) i c u (by simpa [startP] using hc) hu'
      cases j with
      | zero =>
        simp only [List.getElem?_cons_zero, Option.some.injEq] at hv hu
        subst hv; subst hu
        exact ⟨⟨cs, rfl⟩, rfl⟩
      | succ j =>
        have hr := hrel j v u hv hu
        have : Le w (argEnv w S) w (envOf ⟨w, (· = b)⟩ S (fun _ _ => b) (fun _ _ => undef) (startP F.n cs vs) w) :=
          ⟨fun b' hb' => ⟨⟨hb'.1, fun _ => hb'.2, fun d k c _ e => hS b' hb'.2 e.symm, fun d k t ht => absurd ht tk0⟩, rfl⟩, fun d k hB => hB.elim, fun d k hT => hT.elim⟩
        exact RelV.of1 (hr.mono this)
  have hS' : SzA (aliases P H code []) (startP F.n cs vs).tm.length (startP F.n cs vs) := by
    refine ⟨⟨by simp [startP], by simp [startP]⟩, fun p b' hp i k off hv => ?_, rfl⟩
    exfalso
    cases p with
    | zero => rw [ha0] at hp; cases hp
    | succ p =>
      have hv' : (vs ++ List.replicate (F.n - (vs.length + 1)) CV.no).getD p .no = .box i k off := hv
      rw [List.getD_eq_getElem?_getD] at hv'
      by_cases hlt : p < vs.length
      · rw [List.getElem?_append_left hlt, List.getElem?_eq_getElem hlt, Option.getD_some] at hv'
        have := hrel p _ _ (List.getElem?_eq_getElem hlt) (List.getElem?_eq_getElem (by omega))
        rw [hv'] at this
        exact this
      · rw [List.getElem?_append_right (by omega), List.getElem?_replicate] at hv'
        split at hv' <;> cases hv'
  refine code_wpO (n := (startP F.n cs vs).tm.length) hm hC h3 h5 (v0 := some (.pointer (some ⟨b, 0, none⟩))) (fun _ => hz) h hR hS' (fun v e => by simp only [Option.some.injEq] at e; subst e; rw [Array.append_assoc, Array.getElem?_append_left (by simp)]; rfl) fun o e s φ' γ' a' w' hK hR' _ hz' => ?_
  have fin : ∀ e : Ex, endPO (fun r => r = cs') o e s → (∀ i, e ≠ .exit i) → a'.defers = [] ∧ ∃ v, (results fn a'.tmps).run P w' = .ok v w' ∧ ((∃ u, Ending.returned v = .returned u) ∧ w'.os = w.os ∧ w'.tape = w.tape ∧ w'.output = w.output ∧ w.heap.size ≤ w'.heap.size ∧ (∀ k, k < w.heap.size → k ≠ b → w'.heap[k]? = w.heap[k]?) ∧
      ∃ (ws' : List Value) (T' : TypeId), w'.heap[b]? = some (.cells ws'.toArray T' (0, 0)) ∧ RelP w' (fun _ => False) cs' ws') := by
    intro e hK he
    have hK' : (match s.tm.getD 0 .no with
      | .box d k 0 => (match tat s.bx d k with
        | some cs => cs = cs'
        | none => False)
      | _ => False) := by
      cases e with
      | exit i => exact absurd rfl (he i)
      | norm => exact hK
      | ret => exact hK
    split at hK'
    · rename_i d k e0
      cases hc : tat s.bx d k with
      | none => rw [hc] at hK'; exact hK'.elim
      | some c =>
        rw [hc] at hK'
        simp only at hK'
        subst hK'
        have hT := hR'.getT 0
        rw [e0] at hT
        have hp : a'.tmps.getD 0 undef = .pointer (some ⟨φ' d k, 0, none⟩) := hT.2
        rw [Array.getD_eq_getD_getElem?, hz' _ rfl] at hp
        simp only [Option.getD_some, Value.pointer.injEq, Option.some.injEq, Addr.mk.injEq, and_true] at hp
        obtain ⟨_, us', T', hg, hr⟩ := hR'.mem.bxs d k c hc
        rw [← hp] at hg
        have hres : (results fn a'.tmps).run P w' = .ok (.tuple #[]) w' := by
          have he : fn.results = #[] := by
            rw [hrs] at h4
            cases hl : fn.results.toList with
            | nil => exact Array.toList_inj.1 hl
            | cons x l =>
              rw [hl] at h4
              obtain ⟨_, _, e, _⟩ := ccRes_cons h4
              cases e
          exact results_none he _ _ _
        refine ⟨hR'.dfr, _, hres, ⟨_, rfl⟩, hR'.mem.bel.os, hR'.mem.bel.tape, hR'.mem.bel.output, hR'.mem.bel.size, fun k hk hne => hR'.mem.bel.block k hk hne, us'.toList, T', by simpa using hg, ?_⟩
        exact (flat_relL (E' := { (envOf ⟨w, (· = b)⟩ S φ' γ' s w') with F := fun _ => False }) (w' := w') hr hfl').toP (List.all_eq_true.2 fun c hc => by
          have := List.all_eq_true.1 hfl' c hc
          cases c <;> first | rfl | (cases this; done))
    · exact hK'.elim
  cases e with
  | norm => exact fin .norm hK (fun i e => by cases e)
  | ret => exact fin .ret hK (fun i e => by cases e)
  | exit i => exact hK.elim

end
end Go.Proofs.YtlfojobligplkaaDoor.Mt
