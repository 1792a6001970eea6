import Derived.Test.YtgmciihlmgeecaaPuES
import Derived.Test.YtgmciihlmgeecaaPuE2
import Derived.Test.YtgmciihlmgeecaaPuE8
import Derived.Test.YtgmciihlmgeecaaPuE7
import Derived.Test.YtgmciihlmgeecaaWLEvalAssumes
/- EvalAssumes: the law's function tells true. Conditions: none beyond its arguments' types. -/
namespace Go.Proofs.Ytgmciihlmgeecaa.Fn
open Go Go.RowKit Go.Proofs.Ytgmciihlmgeecaa.Mt Go.Proofs.Ytgmciihlmgeecaa.Zm
set_option linter.unusedVariables false
set_option linter.unusedSimpArgs false

def tailA (DD : Nat) (u1 u3 : List Cell) (rr : CV) (y0_0 : Int) (u292 u293 : Int × Int) (u5 : Zo) (k0 : Int → Prop) (R : Ret → Prop) : Prop := (letV (rowZ (List.map intC (ic IntKind.i64 (rowV rr))) 3) (fun (v0 : Zo) => bif okRowU 1 (Cell.sl 3 (ic IntKind.i64 (rowV rr))) && Bool.true && (ic IntKind.i64 v0.snd.snd).all (okC 0) && Bool.true && Bool.true && Bool.true && Bool.true then (letV (assZ (v0.fst, v0.snd.fst, List.map intC (ic IntKind.i64 v0.snd.snd)) (capN v0.fst).toNat y0_0 (testP y0_0 (sideO (evalC DD (four u1) v0.snd.fst (capN v0.fst).toNat (List.map intC (ic IntKind.i64 (itvsZ v0 (capN v0.fst).toNat)))) (evalC DD (four u3) v0.snd.fst (capN v0.fst).toNat (List.map intC (ic IntKind.i64 (itvsZ v0 (capN v0.fst).toNat))))).fst (sideO (evalC DD (four u1) v0.snd.fst (capN v0.fst).toNat (List.map intC (ic IntKind.i64 (itvsZ v0 (capN v0.fst).toNat)))) (evalC DD (four u3) v0.snd.fst (capN v0.fst).toNat (List.map intC (ic IntKind.i64 (itvsZ v0 (capN v0.fst).toNat))))).snd.fst) (linC DD (four u1)) (linC DD (four u3))) (fun (v1 : Zo) => letV (sideO (evalC DD (four u1) v0.snd.fst (capN v0.fst).toNat (List.map intC (ic IntKind.i64 (itvsZ v0 (capN v0.fst).toNat)))) (evalC DD (four u3) v0.snd.fst (capN v0.fst).toNat (List.map intC (ic IntKind.i64 (itvsZ v0 (capN v0.fst).toNat))))) (fun (v2 : (Int × Int) × (Int × Int) × Bool × Bool) => bif (ic IntKind.i64 v0.snd.snd).all plainC && Bool.true && (okSl 2 (Cell.sl (capN v0.fst).toNat (ic IntKind.i64 (itvsZ v0 (capN v0.fst).toNat))) && Bool.true && Bool.true && ((ic IntKind.i64 v0.snd.snd).all (isInt IntKind.i64) && (ic IntKind.i64 v0.snd.snd).length == 49) && numOk v0.snd.fst (Cell.sl (capN v0.fst).toNat (ic IntKind.i64 (itvsZ v0 (capN v0.fst).toNat))) (v0.fst, v0.snd.fst, List.map intC (ic IntKind.i64 v0.snd.snd)) && (okE DD (four u1) && okE DD (four u3) && Bool.true)) && ((ic IntKind.i64 v1.snd.snd).all (okC 0) && Bool.true) && Bool.true && Bool.true && Bool.true && Bool.true then (bif (ic IntKind.i64 v1.snd.snd).length + OfNat.ofNat 4 == 53 && Bool.true && Bool.true then (bif v2.snd.snd.fst != ((hoO y0_0 u292 u293).snd == 2) then (R (Ret.mk (.one (.v (.bool .false))) [])) else (bif v2.snd.snd.snd != ((hoO y0_0 u292 u293).snd == 3) then (R (Ret.mk (.one (.v (.bool .false))) [])) else (bif (hoO y0_0 u292 u293).snd != 0 then (bif v1.snd.fst != Bool.true then (R (Ret.mk (.one (.v (.bool .false))) [])) else (bif !v1.snd.fst then (letV (rowZ (List.map intC (ic IntKind.i64 (rowV rr))) 3) (fun (v3 : Zo) => bif okRowU 1 (Cell.sl 3 (ic IntKind.i64 (rowV rr))) && Bool.true && (ic IntKind.i64 v3.snd.snd).all (okC 0) && Bool.true && Bool.true && Bool.true && Bool.true then (bif (ic IntKind.i64 v1.snd.snd).length + OfNat.ofNat 4 == 53 then (bif (ic IntKind.i64 v3.snd.snd).all plainC && ((ic IntKind.i64 v1.snd.snd).all plainC && Bool.true) && (okSl 2 (Cell.sl (capN v3.fst).toNat (ic IntKind.i64 (itvsZ v3 (capN v3.fst).toNat))) && Bool.true && Bool.true && ((ic IntKind.i64 v3.snd.snd).all (isInt IntKind.i64) && (ic IntKind.i64 v3.snd.snd).length == 49) && (okSl 2 (Cell.sl (capN v1.fst).toNat (ic IntKind.i64 (itvsZ v1 (capN v1.fst).toNat))) && Bool.true && Bool.true && ((ic IntKind.i64 v1.snd.snd).all (isInt IntKind.i64) && (ic IntKind.i64 v1.snd.snd).length == 49))) && Bool.true && Bool.true && Bool.true && Bool.true && Bool.true then (bif !withinZ (v3.fst, v3.snd.fst, List.map intC (ic IntKind.i64 v3.snd.snd)) (v1.fst, v1.snd.fst, List.map intC (ic IntKind.i64 v1.snd.snd)) then (R (Ret.mk (.one (.v (.bool .false))) [])) else (((ic IntKind.i64 u5.snd.snd).all plainC && Bool.true && Bool.true) = true ∧ k0 (IntKind.i64.wrap (y0_0 + 1)))) else False) else False) else False)) else (((ic IntKind.i64 u5.snd.snd).all plainC && Bool.true && Bool.true) = true ∧ k0 (IntKind.i64.wrap (y0_0 + 1))))) else (bif v1.snd.fst != !(hoO y0_0 u292 u293).fst then (R (Ret.mk (.one (.v (.bool .false))) [])) else (bif !v1.snd.fst then (letV (rowZ (List.map intC (ic IntKind.i64 (rowV rr))) 3) (fun (v4 : Zo) => bif okRowU 1 (Cell.sl 3 (ic IntKind.i64 (rowV rr))) && Bool.true && (ic IntKind.i64 v4.snd.snd).all (okC 0) && Bool.true && Bool.true && Bool.true && Bool.true then (bif (ic IntKind.i64 v1.snd.snd).length + OfNat.ofNat 4 == 53 then (bif (ic IntKind.i64 v4.snd.snd).all plainC && ((ic IntKind.i64 v1.snd.snd).all plainC && Bool.true) && (okSl 2 (Cell.sl (capN v4.fst).toNat (ic IntKind.i64 (itvsZ v4 (capN v4.fst).toNat))) && Bool.true && Bool.true && ((ic IntKind.i64 v4.snd.snd).all (isInt IntKind.i64) && (ic IntKind.i64 v4.snd.snd).length == 49) && (okSl 2 (Cell.sl (capN v1.fst).toNat (ic IntKind.i64 (itvsZ v1 (capN v1.fst).toNat))) && Bool.true && Bool.true && ((ic IntKind.i64 v1.snd.snd).all (isInt IntKind.i64) && (ic IntKind.i64 v1.snd.snd).length == 49))) && Bool.true && Bool.true && Bool.true && Bool.true && Bool.true then (bif !withinZ (v4.fst, v4.snd.fst, List.map intC (ic IntKind.i64 v4.snd.snd)) (v1.fst, v1.snd.fst, List.map intC (ic IntKind.i64 v1.snd.snd)) then (R (Ret.mk (.one (.v (.bool .false))) [])) else (((ic IntKind.i64 u5.snd.snd).all plainC && Bool.true && Bool.true) = true ∧ k0 (IntKind.i64.wrap (y0_0 + 1)))) else False) else False) else False)) else (((ic IntKind.i64 u5.snd.snd).all plainC && Bool.true && Bool.true) = true ∧ k0 (IntKind.i64.wrap (y0_0 + 1)))))))) else False) else False))) else False))
def tailB (DD : Nat) (u1 u3 : List Cell) (rr : CV) (y0_0 : Int) (u292 u293 : Int × Int) (u5 : Zo) (k0 : Int → Prop) (R : Ret → Prop) : Prop := (letV (rowZ (List.map intC (ic IntKind.i64 (rowV rr))) 3) (fun (v0 : Zo) => bif okRowU 1 (Cell.sl 3 (ic IntKind.i64 (rowV rr))) && Bool.true && (ic IntKind.i64 v0.snd.snd).all (okC 0) && Bool.true && Bool.true && Bool.true && Bool.true then (letV (assZ (v0.fst, v0.snd.fst, List.map intC (ic IntKind.i64 v0.snd.snd)) (capN v0.fst).toNat y0_0 (testP y0_0 (sideO (evalC DD (four u1) v0.snd.fst (capN v0.fst).toNat (List.map intC (ic IntKind.i64 (itvsZ v0 (capN v0.fst).toNat)))) (evalC DD (four u3) v0.snd.fst (capN v0.fst).toNat (List.map intC (ic IntKind.i64 (itvsZ v0 (capN v0.fst).toNat))))).fst (sideO (evalC DD (four u1) v0.snd.fst (capN v0.fst).toNat (List.map intC (ic IntKind.i64 (itvsZ v0 (capN v0.fst).toNat)))) (evalC DD (four u3) v0.snd.fst (capN v0.fst).toNat (List.map intC (ic IntKind.i64 (itvsZ v0 (capN v0.fst).toNat))))).snd.fst) (linC DD (four u1)) (linC DD (four u3))) (fun (v1 : Zo) => letV (sideO (evalC DD (four u1) v0.snd.fst (capN v0.fst).toNat (List.map intC (ic IntKind.i64 (itvsZ v0 (capN v0.fst).toNat)))) (evalC DD (four u3) v0.snd.fst (capN v0.fst).toNat (List.map intC (ic IntKind.i64 (itvsZ v0 (capN v0.fst).toNat))))) (fun (v2 : (Int × Int) × (Int × Int) × Bool × Bool) => bif (ic IntKind.i64 v0.snd.snd).all plainC && Bool.true && (okSl 2 (Cell.sl (capN v0.fst).toNat (ic IntKind.i64 (itvsZ v0 (capN v0.fst).toNat))) && Bool.true && Bool.true && ((ic IntKind.i64 v0.snd.snd).all (isInt IntKind.i64) && (ic IntKind.i64 v0.snd.snd).length == 49) && numOk v0.snd.fst (Cell.sl (capN v0.fst).toNat (ic IntKind.i64 (itvsZ v0 (capN v0.fst).toNat))) (v0.fst, v0.snd.fst, List.map intC (ic IntKind.i64 v0.snd.snd)) && (okE DD (four u1) && okE DD (four u3) && Bool.true)) && ((ic IntKind.i64 v1.snd.snd).all (okC 0) && Bool.true) && Bool.true && Bool.true && Bool.true && Bool.true then (bif (ic IntKind.i64 v1.snd.snd).length + OfNat.ofNat 4 == 53 && Bool.true && Bool.true then ((v2.snd.snd.fst != ((hoO y0_0 u292 u293).snd == 2)) = false ∧ ((v2.snd.snd.snd != ((hoO y0_0 u292 u293).snd == 3)) = false ∧ (bif (hoO y0_0 u292 u293).snd != 0 then ((v1.snd.fst != Bool.true) = false ∧ (bif !v1.snd.fst then (letV (rowZ (List.map intC (ic IntKind.i64 (rowV rr))) 3) (fun (v3 : Zo) => bif okRowU 1 (Cell.sl 3 (ic IntKind.i64 (rowV rr))) && Bool.true && (ic IntKind.i64 v3.snd.snd).all (okC 0) && Bool.true && Bool.true && Bool.true && Bool.true then (bif (ic IntKind.i64 v1.snd.snd).length + OfNat.ofNat 4 == 53 then (bif (ic IntKind.i64 v3.snd.snd).all plainC && ((ic IntKind.i64 v1.snd.snd).all plainC && Bool.true) && (okSl 2 (Cell.sl (capN v3.fst).toNat (ic IntKind.i64 (itvsZ v3 (capN v3.fst).toNat))) && Bool.true && Bool.true && ((ic IntKind.i64 v3.snd.snd).all (isInt IntKind.i64) && (ic IntKind.i64 v3.snd.snd).length == 49) && (okSl 2 (Cell.sl (capN v1.fst).toNat (ic IntKind.i64 (itvsZ v1 (capN v1.fst).toNat))) && Bool.true && Bool.true && ((ic IntKind.i64 v1.snd.snd).all (isInt IntKind.i64) && (ic IntKind.i64 v1.snd.snd).length == 49))) && Bool.true && Bool.true && Bool.true && Bool.true && Bool.true then ((!withinZ (v3.fst, v3.snd.fst, List.map intC (ic IntKind.i64 v3.snd.snd)) (v1.fst, v1.snd.fst, List.map intC (ic IntKind.i64 v1.snd.snd))) = false ∧ (((ic IntKind.i64 u5.snd.snd).all plainC && Bool.true && Bool.true) = true ∧ k0 (IntKind.i64.wrap (y0_0 + 1)))) else False) else False) else False)) else (((ic IntKind.i64 u5.snd.snd).all plainC && Bool.true && Bool.true) = true ∧ k0 (IntKind.i64.wrap (y0_0 + 1))))) else ((v1.snd.fst != !(hoO y0_0 u292 u293).fst) = false ∧ (bif !v1.snd.fst then (letV (rowZ (List.map intC (ic IntKind.i64 (rowV rr))) 3) (fun (v4 : Zo) => bif okRowU 1 (Cell.sl 3 (ic IntKind.i64 (rowV rr))) && Bool.true && (ic IntKind.i64 v4.snd.snd).all (okC 0) && Bool.true && Bool.true && Bool.true && Bool.true then (bif (ic IntKind.i64 v1.snd.snd).length + OfNat.ofNat 4 == 53 then (bif (ic IntKind.i64 v4.snd.snd).all plainC && ((ic IntKind.i64 v1.snd.snd).all plainC && Bool.true) && (okSl 2 (Cell.sl (capN v4.fst).toNat (ic IntKind.i64 (itvsZ v4 (capN v4.fst).toNat))) && Bool.true && Bool.true && ((ic IntKind.i64 v4.snd.snd).all (isInt IntKind.i64) && (ic IntKind.i64 v4.snd.snd).length == 49) && (okSl 2 (Cell.sl (capN v1.fst).toNat (ic IntKind.i64 (itvsZ v1 (capN v1.fst).toNat))) && Bool.true && Bool.true && ((ic IntKind.i64 v1.snd.snd).all (isInt IntKind.i64) && (ic IntKind.i64 v1.snd.snd).length == 49))) && Bool.true && Bool.true && Bool.true && Bool.true && Bool.true then ((!withinZ (v4.fst, v4.snd.fst, List.map intC (ic IntKind.i64 v4.snd.snd)) (v1.fst, v1.snd.fst, List.map intC (ic IntKind.i64 v1.snd.snd))) = false ∧ (((ic IntKind.i64 u5.snd.snd).all plainC && Bool.true && Bool.true) = true ∧ k0 (IntKind.i64.wrap (y0_0 + 1)))) else False) else False) else False)) else (((ic IntKind.i64 u5.snd.snd).all plainC && Bool.true && Bool.true) = true ∧ k0 (IntKind.i64.wrap (y0_0 + 1)))))))) else False) else False))) else False))
theorem num_rf {z : Zo} {b : Bool} {m : Nat} (hb : b = z.2.1) (hm : m = (capN z.1).toNat) : numOk b (Cell.sl m (ic .i64 (itvsZ z m))) z = true := by
  subst hb hm
  unfold numOk eqRow; simp
theorem bne_no {a b : Bool} (h : a = b) : (a != b) = false := by subst h; cases a <;> rfl
theorem tailA_ok {DD : Nat} {u1 u3 : List Cell} {rr : CV} {y : Int} {r s : Int × Int} {z : Zo} {k0 : Int → Prop} {R : Ret → Prop} {V : List Int} {w : Zo} (t1 : okE DD u1 = true) (t2 : okE DD u3 = true) (f1 : four u1 = u1) (f2 : four u3 = u3)
    (hV : rowV rr = V) (lV : V.length = 3) (hw : rowZ V 3 = w) (hs : Sg 3 V w) (hy : 1 ≤ y ∧ y ≤ 6)
    (law : (sideO (evalC DD u1 false 3 (itvsZ w 3)) (evalC DD u3 false 3 (itvsZ w 3))).2.2 = (decide ((hoO y r s).2 = 2), decide ((hoO y r s).2 = 3)) ∧
      (assZ w 3 y (testP y (sideO (evalC DD u1 false 3 (itvsZ w 3)) (evalC DD u3 false 3 (itvsZ w 3))).1 (sideO (evalC DD u1 false 3 (itvsZ w 3)) (evalC DD u3 false 3 (itvsZ w 3))).2.1) (linC DD u1) (linC DD u3)).2.1 = !(decide ((hoO y r s).2 = 0) && (hoO y r s).1) ∧
      ((assZ w 3 y (testP y (sideO (evalC DD u1 false 3 (itvsZ w 3)) (evalC DD u3 false 3 (itvsZ w 3))).1 (sideO (evalC DD u1 false 3 (itvsZ w 3)) (evalC DD u3 false 3 (itvsZ w 3))).2.1) (linC DD u1) (linC DD u3)).2.1 = false → withinZ w (assZ w 3 y (testP y (sideO (evalC DD u1 false 3 (itvsZ w 3)) (evalC DD u3 false 3 (itvsZ w 3))).1 (sideO (evalC DD u1 false 3 (itvsZ w 3)) (evalC DD u3 false 3 (itvsZ w 3))).2.1) (linC DD u1) (linC DD u3)) = true))
    (hk : k0 (IntKind.i64.wrap (y + 1))) : tailA DD u1 u3 rr y r s z k0 R := by
  have wn := hs.gd.hn
  have wl := hs.gd.len
  have wb := hs.pt.1
  have cw : (capN w.1).toNat = 3 := by rw [wn]; rfl
  have nk := num_rf (z := w) (b := false) (m := 3) wb.symm cw.symm
  have pl : ((ic .i64 z.2.2).all plainC && true && true) = true := by simp [ics]
  have B1 := assZ_sub hs.gd y (testP y (sideO (evalC DD u1 false 3 (itvsZ w 3)) (evalC DD u3 false 3 (itvsZ w 3))).1 (sideO (evalC DD u1 false 3 (itvsZ w 3)) (evalC DD u3 false 3 (itvsZ w 3))).2.1) (linC DD u1) (linC DD u3)
  unfold tailA
  rw [hV]
  simp only [map_ic, Prod.eta, f1, f2]
  refine letV_j fun w' e => ?_
  rw [hw] at e
  subst e
  simp only [wb, cw]
  refine ck_i (by simp [ics, lV, okRowU]) ?_
  generalize sideO (evalC DD u1 false 3 (itvsZ w 3)) (evalC DD u3 false 3 (itvsZ w 3)) = sd at *
  generalize assZ w 3 y (testP y sd.1 sd.2.1) (linC DD u1) (linC DD u3) = d at *
  refine letV_j fun d' e => ?_
  subst e
  refine letV_j fun sd' e => ?_
  subst e
  obtain ⟨law1, law2, law3⟩ := law
  have dl := B1.1.len
  have dn := B1.1.hn
  have cd : (capN d.1).toNat = 3 := by rw [dn]; rfl
  simp only [cd]
  have o1 : okSl 2 (Cell.sl 3 (ic .i64 (itvsZ w 3))) = true := by simp [ics, okSl, itvsZ_len]
  have o2 : okSl 2 (Cell.sl 3 (ic .i64 (itvsZ d 3))) = true := by simp [ics, okSl, itvsZ_len]
  refine ck_i (by simp [ics, t1, t2, wl, nk, o1]) ?_
  refine ck_i (by simp [ics, dl]) ?_
  generalize hoO y r s = h at *
  obtain ⟨h1, h2⟩ := h
  have c1 : (sd.2.2.1 != ((h1, h2).2 == 2)) = false := bne_no (by rw [law1]; rfl)
  have c2 : (sd.2.2.2 != ((h1, h2).2 == 3)) = false := bne_no (by rw [law1]; rfl)
  refine cond_i (fun q => absurd q (by rw [c1]; decide)) (fun _ => ?_)
  refine cond_i (fun q => absurd q (by rw [c2]; decide)) (fun _ => ?_)
  refine cond_i (fun q => ?_) (fun q => ?_)
  · have h0 : h2 ≠ 0 := by simpa using q
    have db : d.2.1 = true := by rw [law2]; simp [h0]
    refine cond_i (fun q => absurd q (by rw [db]; decide)) (fun _ => ?_)
    exact cond_i (fun q => absurd q (by rw [db]; decide)) (fun _ => ⟨pl, hk⟩)
  · have h0 : h2 = 0 := by simpa using q
    have db : d.2.1 = !h1 := by rw [law2]; simp [h0]
    refine cond_i (fun q => absurd q (by rw [bne_no db]; decide)) (fun _ => ?_)
    refine cond_i (fun q => ?_) (fun _ => ⟨pl, hk⟩)
    have hin := law3 (by simpa using q)
    refine letV_j fun w' e => ?_
    rw [hw] at e
    subst e
    simp only [cw]
    refine ck_i (by simp [ics, lV, okRowU]) ?_
    refine ck_i (by simp [ics, dl]) ?_
    refine ck_i (by simp [ics, wl, dl, o1, o2]) ?_
    exact cond_i (fun q => absurd q (by rw [hin]; decide)) (fun _ => ⟨pl, hk⟩)
theorem tailB_ok {DD : Nat} {u1 u3 : List Cell} {rr : CV} {y : Int} {r s : Int × Int} {z : Zo} {k0 : Int → Prop} {R : Ret → Prop} {V : List Int} {w : Zo} (t1 : okE DD u1 = true) (t2 : okE DD u3 = true) (f1 : four u1 = u1) (f2 : four u3 = u3)
    (hV : rowV rr = V) (lV : V.length = 3) (hw : rowZ V 3 = w) (hs : Sg 3 V w) (hy : 1 ≤ y ∧ y ≤ 6)
    (law : (sideO (evalC DD u1 false 3 (itvsZ w 3)) (evalC DD u3 false 3 (itvsZ w 3))).2.2 = (decide ((hoO y r s).2 = 2), decide ((hoO y r s).2 = 3)) ∧
      (assZ w 3 y (testP y (sideO (evalC DD u1 false 3 (itvsZ w 3)) (evalC DD u3 false 3 (itvsZ w 3))).1 (sideO (evalC DD u1 false 3 (itvsZ w 3)) (evalC DD u3 false 3 (itvsZ w 3))).2.1) (linC DD u1) (linC DD u3)).2.1 = !(decide ((hoO y r s).2 = 0) && (hoO y r s).1) ∧
      ((assZ w 3 y (testP y (sideO (evalC DD u1 false 3 (itvsZ w 3)) (evalC DD u3 false 3 (itvsZ w 3))).1 (sideO (evalC DD u1 false 3 (itvsZ w 3)) (evalC DD u3 false 3 (itvsZ w 3))).2.1) (linC DD u1) (linC DD u3)).2.1 = false → withinZ w (assZ w 3 y (testP y (sideO (evalC DD u1 false 3 (itvsZ w 3)) (evalC DD u3 false 3 (itvsZ w 3))).1 (sideO (evalC DD u1 false 3 (itvsZ w 3)) (evalC DD u3 false 3 (itvsZ w 3))).2.1) (linC DD u1) (linC DD u3)) = true))
    (hk : k0 (IntKind.i64.wrap (y + 1))) : tailB DD u1 u3 rr y r s z k0 R := by
  have wn := hs.gd.hn
  have wl := hs.gd.len
  have wb := hs.pt.1
  have cw : (capN w.1).toNat = 3 := by rw [wn]; rfl
  have nk := num_rf (z := w) (b := false) (m := 3) wb.symm cw.symm
  have pl : ((ic .i64 z.2.2).all plainC && true && true) = true := by simp [ics]
  have B1 := assZ_sub hs.gd y (testP y (sideO (evalC DD u1 false 3 (itvsZ w 3)) (evalC DD u3 false 3 (itvsZ w 3))).1 (sideO (evalC DD u1 false 3 (itvsZ w 3)) (evalC DD u3 false 3 (itvsZ w 3))).2.1) (linC DD u1) (linC DD u3)
  unfold tailB
  rw [hV]
  simp only [map_ic, Prod.eta, f1, f2]
  refine letV_j fun w' e => ?_
  rw [hw] at e
  subst e
  simp only [wb, cw]
  refine ck_i (by simp [ics, lV, okRowU]) ?_
  generalize sideO (evalC DD u1 false 3 (itvsZ w 3)) (evalC DD u3 false 3 (itvsZ w 3)) = sd at *
  generalize assZ w 3 y (testP y sd.1 sd.2.1) (linC DD u1) (linC DD u3) = d at *
  refine letV_j fun d' e => ?_
  subst e
  refine letV_j fun sd' e => ?_
  subst e
  obtain ⟨law1, law2, law3⟩ := law
  have dl := B1.1.len
  have dn := B1.1.hn
  have cd : (capN d.1).toNat = 3 := by rw [dn]; rfl
  simp only [cd]
  have o1 : okSl 2 (Cell.sl 3 (ic .i64 (itvsZ w 3))) = true := by simp [ics, okSl, itvsZ_len]
  have o2 : okSl 2 (Cell.sl 3 (ic .i64 (itvsZ d 3))) = true := by simp [ics, okSl, itvsZ_len]
  refine ck_i (by simp [ics, t1, t2, wl, nk, o1]) ?_
  refine ck_i (by simp [ics, dl]) ?_
  generalize hoO y r s = h at *
  obtain ⟨h1, h2⟩ := h
  have c1 : (sd.2.2.1 != ((h1, h2).2 == 2)) = false := bne_no (by rw [law1]; rfl)
  have c2 : (sd.2.2.2 != ((h1, h2).2 == 3)) = false := bne_no (by rw [law1]; rfl)
  refine ⟨c1, c2, ?_⟩
  refine cond_i (fun q => ?_) (fun q => ?_)
  · have h0 : h2 ≠ 0 := by simpa using q
    have db : d.2.1 = true := by rw [law2]; simp [h0]
    refine ⟨by rw [db]; rfl, ?_⟩
    exact cond_i (fun q => absurd q (by rw [db]; decide)) (fun _ => ⟨pl, hk⟩)
  · have h0 : h2 = 0 := by simpa using q
    have db : d.2.1 = !h1 := by rw [law2]; simp [h0]
    refine ⟨bne_no db, ?_⟩
    refine cond_i (fun q => ?_) (fun _ => ⟨pl, hk⟩)
    have hin := law3 (by simpa using q)
    refine letV_j fun w' e => ?_
    rw [hw] at e
    subst e
    simp only [cw]
    refine ck_i (by simp [ics, lV, okRowU]) ?_
    refine ck_i (by simp [ics, dl]) ?_
    refine ck_i (by simp [ics, wl, dl, o1, o2]) ?_
    exact ⟨by rw [hin]; rfl, pl, hk⟩
theorem inV3 {a b c : Int} (h0 : In a) (h1 : In b) (h2 : In c) : InV [a, b, c] := fun x hx => by
  simp at hx; unfold In at *; rcases hx with rfl | rfl | rfl <;> assumption
set_option maxHeartbeats 4000000 in
theorem f24_pure (DD : Nat) (a b c : Int) (n : Nat) (l : List Cell) (a' b' c' : Int) (n' : Nat) (l' : List Cell) (x0 x1 x2 y0 y1 y2 : Int) (w : Bool) (h : okE DD (ex a b c n l) = true) (h' : okE DD (ex a' b' c' n' l') = true)
    (h0 : In x0) (h1 : In x1) (h2 : In x2) (h3 : In y0) (h4 : In y1) (h5 : In y2) : f24_wp DD a b c n l a' b' c' n' l' x0 x1 x2 y0 y1 y2 w (fun r' => r' = boRet true) := by
  obtain ⟨t1, t2⟩ := tame_ok DD 4 3 (ex a b c n l) h
  obtain ⟨t3, t4⟩ := tame_ok DD 4 3 (ex a' b' c' n' l') h'
  have f1 := four_tame DD 4 3 (ex a b c n l)
  have f2 := four_tame DD 4 3 (ex a' b' c' n' l')
  have two := two_has h0 h1 h2 h3 h4 h5
  have rv : ∃ V, rowV (RR24 x0 x1 x2 y0 y1 y2 w) = V ∧ V.length = 3 ∧ InV V ∧ Pt 3 (vF V) (twoZ [x0, x1, x2] [y0, y1, y2]) := by
    cases w with
    | true => exact ⟨[y0, y1, y2], rfl, rfl, inV3 h3 h4 h5, two.2.2⟩
    | false => exact ⟨[x0, x1, x2], rfl, rfl, inV3 h0 h1 h2, two.2.1⟩
  obtain ⟨V, hV, lV, iV, pV⟩ := rv
  have gz := two.1
  clear two
  have sw := row_sg' lV iV
  have b0 : inB x0 = true := inB_iff.2 h0
  have b1 : inB x1 = true := inB_iff.2 h1
  have b2 : inB x2 = true := inB_iff.2 h2
  have b3 : inB y0 = true := inB_iff.2 h3
  have b4 : inB y1 = true := inB_iff.2 h4
  have b5 : inB y2 = true := inB_iff.2 h5
  have law1 := fun (y : Int) (hy : 1 ≤ y ∧ y ≤ 6) => assumes_law (deep := 4) (D := DD) gz iV pV hy rfl rfl h h' rfl rfl rfl rfl rfl rfl
  have law2 := fun (y : Int) (hy : 1 ≤ y ∧ y ≤ 6) => assumes_one (deep := 4) (D := DD) sw iV hy rfl rfl h h' rfl rfl rfl rfl rfl rfl
  unfold f24_wp
  (try delta X24_5); (try delta X24_4); (try delta X24_3); (try delta X24_2); (try delta X24_1); (try delta X24_0)
  refine letV_j fun u1 e1 => ?_
  have e1 : tameC DD 4 3 (ex a b c n l) = u1 := e1
  rw [e1] at t1 t2 f1
  simp only [e1] at law1 law2
  clear e1
  have h : okE DD (EX24 a b c n l) = true := h
  refine ck_i (by simp only [h]; rfl) ?_
  refine letV_j fun u3 e3 => ?_
  have e3 : tameC DD 4 3 (ex a' b' c' n' l') = u3 := e3
  rw [e3] at t3 t4 f2
  simp only [e3] at law1 law2
  clear e3
  have h' : okE DD (EX24 a' b' c' n' l') = true := h'
  refine ck_i (by simp only [h']; rfl) ?_
  refine letV_j fun z ez => ?_
  have ez : twoZ [x0, x1, x2] [y0, y1, y2] = z := ez
  rw [ez] at gz pV
  simp only [ez] at law1
  clear ez
  have zn := gz.hn
  have zl := gz.len
  have zb := pV.1
  have cz : (capN z.1).toNat = 3 := by rw [zn]; rfl
  have nz := num_rf (z := z) (b := false) (m := 3) zb.symm cz.symm
  have oz : okSl 2 (Cell.sl 3 (ic .i64 (itvsZ z 3))) = true := by simp [ics, okSl, itvsZ_len]
  have T1 := @tailA_ok DD u1 u3 (RR24 x0 x1 x2 y0 y1 y2 w)
  have T2 := @tailB_ok DD u1 u3 (RR24 x0 x1 x2 y0 y1 y2 w)
  unfold tailA at T1
  unfold tailB at T2
  simp only [hV, map_ic, Prod.eta, f1, f2] at T1 T2 ⊢
  simp only [zb, cz]
  refine ck_i (by simp [ics, b0, b1, b2, b3, b4, b5]) ?_
  refine ck_i (by simp [ics, zl]) ?_
  refine ⟨by simp [ics], ?_⟩
  refine LoopP.ind (I := fun y => 1 ≤ y ∧ y ≤ 7) (μ := fun y => (7 - y).toNat) ?_ ⟨by omega, by omega⟩
  rintro y k0 ⟨i1, i2⟩ hk
  refine cond_i (fun q => ?_) (fun q => rfl)
  have q : y < 7 := of_decide_eq_true q
  have hk := hk (y + 1) ⟨by omega, by omega⟩ (by omega)
  have ew : IntKind.i64.wrap (y + 1) = y + 1 := wr1 (by omega) (by omega)
  rw [← ew] at hk
  have hy : 1 ≤ y ∧ y ≤ 6 := ⟨i1, by omega⟩
  obtain ⟨g1, w1, o2, o3, o4⟩ := law1 y hy
  have L2 := law2 y hy
  clear law1 law2
  refine letV_j fun r er => letV_j fun s es => ?_
  rw [er, es] at o2 o3 o4 L2
  refine ck_i (by simp [ics, t1, t3, lV, okRowU]) ?_
  refine ck_i (by simp [ics, t1, t2]) ?_
  refine ck_i (by simp [ics, t3, t4]) ?_
  refine ck_i (by simp [ics, zl]) ?_
  refine letV_j fun d ed => ?_
  rw [ed] at g1 w1 o4
  clear ed
  refine letV_j fun sd esd => ?_
  rw [esd] at o2 o3
  clear esd
  have dl := g1.len
  have dn := g1.hn
  have cd : (capN d.1).toNat = 3 := by rw [dn]; rfl
  have od : okSl 2 (Cell.sl 3 (ic .i64 (itvsZ d 3))) = true := by simp [ics, okSl, itvsZ_len]
  have rt : rightN d.2.1 (.sl 3 (ic .i64 (itvsZ d 3))) d = true := by unfold rightN; rw [right_gd g1, cd]; simp [eqRow]
  simp only [cd]
  refine ck_i (by simp [ics, t1, t3, zl, nz, oz]) ?_
  refine ck_i (by simp [ics, dl]) ?_
  refine ck_i (by simp [ics, dl]) ?_
  refine ck_i (by simp [ics, dl, od]) ?_
  refine ⟨by rw [rt]; rfl, ?_⟩
  refine ck_i (by simp [ics, dl, od, zl, oz]) ?_
  refine ⟨by rw [w1]; rfl, ?_⟩
  have T1 := @T1 y r s z k0 (fun r' => r' = boRet true) V _ t1 t3 trivial trivial rfl lV rfl sw hy L2 hk
  have T2 := @T2 y r s z k0 (fun r' => r' = boRet true) V _ t1 t3 trivial trivial rfl lV rfl sw hy L2 hk
  clear L2 hk
  generalize hoO y r s = H at *
  refine cond_i (fun q => ?_) (fun q => ?_)
  · have q : H.2 = 2 := by simpa using q
    exact ⟨by rw [o2 q]; rfl, by rw [q]; rfl, by rw [q]; rfl, T1⟩
  refine cond_i (fun q3 => ?_) (fun q3 => ?_)
  · have q3 : H.2 = 3 := by simpa using q3
    exact ⟨by rw [o3 q3]; rfl, by rw [q3]; rfl, T1⟩
  refine cond_i (fun q0 => ?_) (fun _ => T2)
  have q0 : H.2 = 0 := by simpa using q0
  refine cond_i (fun q1 => ?_) (fun _ => T2)
  have hp := o4 q0 q1
  have hs := has_true g1 iV hp
  refine ck_i (by simp [ics, dl, od, lV, okRowU]) ?_
  exact ⟨by rw [hs, hp.1]; rfl, T2⟩
theorem cx24_ok (d : Nat) : CtxOk Try.prog (cx24 d).q.ctx := (ctx_cons (g := 67) (ctx_cons (g := 77) (ctx_cons (g := 82) (ctx_cons (g := 69) (ctx_cons (g := 76) (ctx_cons (g := 45) (ctx_cons (g := 54) (ctx_cons (g := 60) (ctx_cons (g := 80) (ctx_cons (g := 71) ctx_nil (by kernel_rfl) sum71_ok) (by kernel_rfl) sum80_ok) (by kernel_rfl) sum60_ok) (by kernel_rfl) sum54_ok) (by kernel_rfl) sum45_ok) (by kernel_rfl) (sum76_ok d)) (by kernel_rfl) (sum69_ok d)) (by kernel_rfl) (sum82_ok d)) (by kernel_rfl) sum77_ok) (by kernel_rfl) (sum67_ok d))
theorem f24_law (cs ds : List Cell) (x0 x1 x2 y0 y1 y2 : Int) (w : Bool) {D E : Nat} (h : TyC Try.prog D 93 cs) (h' : TyC Try.prog E 93 ds)
    (h0 : (Lit.int .i32 x0).wf = true) (h1 : (Lit.int .i32 x1).wf = true) (h2 : (Lit.int .i32 x2).wf = true) (h3 : (Lit.int .i32 y0).wf = true) (h4 : (Lit.int .i32 y1).wf = true) (h5 : (Lit.int .i32 y2).wf = true) :
    SoundAt Try.prog 24 [.agg cs, .agg ds, .agg [.v (.int .i32 x0), .v (.int .i32 x1), .v (.int .i32 x2), .v (.int .i32 y0), .v (.int .i32 y1), .v (.int .i32 y2), .v (.bool w)]] (boRet true) := by
  have wf : ∀ {x : Int}, (Lit.int .i32 x).wf = true → In x := fun h => by simp [Lit.wf, IntKind.min, IntKind.max, IntKind.bits, IntKind.signed] at h; unfold In; omega
  have o := okE_le (Nat.le_max_left D E) (okE_ty D cs h)
  have o' := okE_le (Nat.le_max_right D E) (okE_ty E ds h')
  obtain ⟨_, _, a, b, c, n, l, rfl, _, _⟩ := okE_elim o
  obtain ⟨_, _, a', b', c', n', l', rfl, _, _⟩ := okE_elim o'
  exact f24_sound (max D E) a b c n l a' b' c' n' l' x0 x1 x2 y0 y1 y2 w (cx24_ok (max D E)) (f24_pure (max D E) a b c n l a' b' c' n' l' x0 x1 x2 y0 y1 y2 w o o' (wf h0) (wf h1) (wf h2) (wf h3) (wf h4) (wf h5))

end Go.Proofs.Ytgmciihlmgeecaa.Fn
