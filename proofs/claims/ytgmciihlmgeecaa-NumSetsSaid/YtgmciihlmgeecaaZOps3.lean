import Derived.Test.YtgmciihlmgeecaaZOps2
/- Calls on zones in plain mathematics, on: copies, what either has, widening, which zones are right. Conditions: those that each lemma names. -/
namespace Go.Proofs.Ytgmciihlmgeecaa.Zm
open Go.RowKit

/-! ### A variable moved, or copied -/
def movZ (z : Zo) (r : Int) (c : Int) : Zo := closeZ (z.1, z.2.1, movT r.toNat c (z.1.toNat + 1) z.2.2)
def setZ (w : Zo) (r s : Nat) (c d : Int) : Zo := (w.1, w.2.1, st (st w.2.2 r s c) s r d)
def clampB (b : Int) : Int := min (max b (-1099511627776)) 1099511627776
def copyZ (z : Zo) (x y b : Int) : Zo :=
  if varP z.1 z.2.1 x && norP z.1 z.2.1 y then
    if x = y then movZ z (x + 1) (clampB b)
    else closeZ (setZ (forgetZ z x) (x + 1).toNat (y + 1).toNat (clampB b) (wrap64 (- clampB b)))
  else z
def copyR (z : Zo) (x y b : Int) : Zo :=
  if z.2.1 then z else
    if x = y then closeR (z.1, z.2.1, movT (x + 1).toNat b (z.1.toNat + 1) z.2.2)
    else closeR (setZ (forgetR z x) (x + 1).toNat (y + 1).toNat b (wrap64 (0 - b)))

theorem mov_g {n : Nat} {z : Zo} (h : Gd n z) (hb : z.2.1 = false) {r : Nat} (hr : r ≤ n) {c : Int} (hc : -1099511627776 ≤ c ∧ c ≤ 1099511627776) (a b : Nat) (ha : a < 7) (hb' : b < 7) :
    g (movT r c (n + 1) z.2.2) a b = if b = r ∧ a ≠ r ∧ a < n + 1 then g z.2.2 a b - c else if a = r ∧ b ≠ r ∧ b < n + 1 then g z.2.2 a b + c else g z.2.2 a b := by
  have n6 := h.n6
  refine g_mov h.len (by omega) hc (n + 1) (by omega) (fun a b ha hb' => ?_) (fun a ha => ?_) a b ha hb'
  · have := h.range hb (i := a) (j := b) (by omega) (by omega); omega
  · have := h.range hb (i := a) (j := r) (by omega) (by omega)
    have := h.range hb (i := r) (j := a) (by omega) (by omega)
    omega
theorem mov_rawW {n : Nat} {z : Zo} (h : Gd n z) (hb : z.2.1 = false) {r : Nat} (hr : r ≤ n) {c : Int} (hc : -1099511627776 ≤ c ∧ c ≤ 1099511627776) : RawW n (movT r c (n + 1) z.2.2) := by
  have n6 := h.n6
  refine ⟨h.n6, by rw [movT_len]; exact h.len, fun a b ha hb' => ?_, fun a ha => ?_, fun a b ha hb' e => ?_⟩
  · rw [mov_g h hb hr hc a b (by omega) (by omega)]
    have := h.range hb ha hb'
    split
    · omega
    · split <;> omega
  · rw [mov_g h hb hr hc a a (by omega) (by omega), if_neg (by omega), if_neg (by omega)]
    have := h.diag hb a ha; omega
  · rw [mov_g h hb hr hc a b ha hb', if_neg (by omega), if_neg (by omega)]
    exact h.out hb a b ha hb' e
theorem mov_raw {n : Nat} {z : Zo} (h : Gd n z) (hb : z.2.1 = false) {r : Nat} (hr : r ≤ n) {c : Int} (hc : -68719476736 ≤ c ∧ c ≤ 68719476736) : Raw n (movT r c (n + 1) z.2.2) := by
  have n6 := h.n6
  have w := mov_rawW h hb hr (c := c) (by omega)
  refine ⟨h.n6, w.len, fun a b ha hb' => ?_, w.diag, w.out⟩
  rw [mov_g h hb hr (by omega) a b (by omega) (by omega)]
  have := h.range hb ha hb'
  split
  · omega
  · split <;> omega

theorem forget_none {n : Nat} {z : Zo} (h : Gd n z) (hb : z.2.1 = false) {x : Int} : (forgetZ z x).2.1 = false := by
  by_cases hx : 0 ≤ x ∧ x < n
  · exact (forget_rep h hb hx).2.1
  · rw [forgetZ_un h hx]; exact hb

theorem wrap_small {x : Int} (h : -4398046511104 ≤ x) (h' : x ≤ 4398046511104) : wrap64 x = x := wrap_in (by omega) (by omega)

theorem set_rawW {n : Nat} {w : Zo} (h : Gd n w) (hb : w.2.1 = false) {r s : Nat} (hr : r ≤ n) (hs : s ≤ n) (hrs : r ≠ s) {c d : Int} (hc : -1099511627776 ≤ c ∧ c ≤ 1099511627776) (hd : -1099511627776 ≤ d ∧ d ≤ 1099511627776) :
    RawW n (st (st w.2.2 r s c) s r d) := st_rawW (st_rawW (h.raw hb).w hr hs (by omega) (by omega)) hs hr (by omega) (by omega)
theorem set_raw {n : Nat} {w : Zo} (h : Gd n w) (hb : w.2.1 = false) {r s : Nat} (hr : r ≤ n) (hs : s ≤ n) (hrs : r ≠ s) {c d : Int} (hc : -68719476736 ≤ c ∧ c ≤ 68719476736) (hd : -68719476736 ≤ d ∧ d ≤ 68719476736) :
    Raw n (st (st w.2.2 r s c) s r d) := st_raw (st_raw (h.raw hb) hr hs (by omega) (by omega)) hs hr (by omega) (by omega)

theorem clamp_in (b : Int) : -1099511627776 ≤ clampB b ∧ clampB b ≤ 1099511627776 := by unfold clampB; omega
theorem clamp_id {b : Int} (h : -1099511627776 ≤ b) (h' : b ≤ 1099511627776) : clampB b = b := by unfold clampB; omega

theorem copyZ_un {n : Nat} {z : Zo} (h : Gd n z) {x y b : Int} (hx : ¬ (0 ≤ x ∧ x < n) ∨ ¬ (-1 ≤ y ∧ y < n)) : copyZ z x y b = z := by
  cases hb : z.2.1 with
  | true => unfold copyZ; rw [var_none hb]; rfl
  | false =>
    unfold copyZ
    rw [if_neg]
    intro e
    rw [Bool.and_eq_true, nor_ok h hb, var_ok h hb] at e
    omega
theorem copyZ_none {z : Zo} (hb : z.2.1 = true) {x y b : Int} : copyZ z x y b = z := by
  unfold copyZ
  rw [var_none hb]; rfl

/-- What a copy tells: of closed bounds. -/
def copP (n : Nat) (d : Mx) (r s : Nat) (c : Int) (m : Mx) : Prop :=
  (∀ i j, i ≤ n → j ≤ n → i ≠ r → j ≠ r → m i j ≤ d i j) ∧ (m r s ≤ c ∧ m s r ≤ -c) ∧ m r r ≤ 0 ∧ Own n m
def movP (n : Nat) (d : Mx) (r : Nat) (c : Int) (m : Mx) : Prop :=
  (∀ i j, i ≤ n → j ≤ n → i ≠ r → j ≠ r → m i j ≤ d i j) ∧ (∀ i, i ≤ n → i ≠ r → m r i ≤ d r i + c ∧ m i r ≤ d i r - c) ∧ m r r ≤ 0 ∧ Own n m

theorem copy_rep {n : Nat} {z : Zo} (h : Gd n z) (hb : z.2.1 = false) {x y b : Int} (hx : 0 ≤ x ∧ x < n) (hy : -1 ≤ y ∧ y < n) (hxy : x ≠ y) :
    Rep n (copP n (g z.2.2) (x + 1).toNat (y + 1).toNat (clampB b)) (copyZ z x y b) := by
  have n6 := h.n6
  obtain ⟨f1, f2, f3⟩ := forget_rep h hb hx
  have cb := clamp_in b
  unfold copyZ
  rw [(var_ok h hb).2 hx, (nor_ok h hb).2 hy, if_pos (by rfl), if_neg hxy]
  have hr : (x + 1).toNat ≤ n := by omega
  have hs : (y + 1).toNat ≤ n := by omega
  have h1 : 1 ≤ (x + 1).toNat := by omega
  have hrs : (x + 1).toNat ≠ (y + 1).toNat := by omega
  generalize (x + 1).toNat = r at *
  generalize (y + 1).toNat = s at *
  rw [wrap_small (by omega) (by omega)]
  generalize clampB b = c at *
  have hw := set_rawW f1 f2 hr hs hrs (c := c) (d := -c) cb (by omega)
  unfold setZ
  rw [f1.hn, f2]
  refine (close_rep hw).of fun m hm => ?_
  have gs : ∀ i j, i ≤ n → j ≤ n → g (st (st (forgetZ z x).2.2 r s c) s r (-c)) i j = if i = s ∧ j = r then -c else if i = r ∧ j = s then c else forM r (g z.2.2) i j := fun i j hi hj => by
    rw [g_st (by rw [st_length]; exact f1.len) (by omega) (by omega) (by omega) (by omega), g_st f1.len (by omega) (by omega) (by omega) (by omega), f3 i j hi hj]
  constructor
  · rintro ⟨hl, ho⟩
    refine ⟨fun i j hi hj e1 e2 => ?_, ⟨?_, ?_⟩, ?_, ho⟩
    · have a := hl i j hi hj
      rw [gs i j hi hj, if_neg (by omega), if_neg (by omega)] at a
      unfold forM at a
      rw [if_neg e1, if_neg e2] at a
      exact a
    · have a := hl r s hr hs
      rw [gs r s hr hs, if_neg (by omega), if_pos ⟨rfl, rfl⟩] at a
      exact a
    · have a := hl s r hs hr
      rw [gs s r hs hr, if_pos ⟨rfl, rfl⟩] at a
      exact a
    · have a := hl r r hr hr
      rw [gs r r hr hr, if_neg (by omega), if_neg (by omega)] at a
      unfold forM at a
      rw [if_pos rfl, if_pos rfl] at a
      exact a
  · rintro ⟨hl, ⟨h2, h3⟩, h4, ho⟩
    refine ⟨fun i j hi hj => ?_, ho⟩
    rw [gs i j hi hj]
    have o := ho r h1 hr
    by_cases e1 : i = s ∧ j = r
    · obtain ⟨rfl, rfl⟩ := e1; rw [if_pos ⟨rfl, rfl⟩]; exact h3
    · rw [if_neg e1]
      by_cases e2 : i = r ∧ j = s
      · obtain ⟨rfl, rfl⟩ := e2; rw [if_pos ⟨rfl, rfl⟩]; exact h2
      · rw [if_neg e2]
        unfold forM
        by_cases e3 : i = r
        · subst e3
          rw [if_pos rfl]
          by_cases e4 : j = i
          · subst e4; rw [if_pos rfl]; exact h4
          · rw [if_neg e4]
            have t := hm.2 i j 0 hi hj (by omega)
            have a := hl 0 j (by omega) hj (by omega) e4
            omega
        · rw [if_neg e3]
          by_cases e4 : j = r
          · subst e4; rw [if_pos rfl]
            have t := hm.2 i j 0 hi hj (by omega)
            have a := hl i 0 hi (by omega) e3 (by omega)
            omega
          · rw [if_neg e4]
            exact hl i j hi hj e3 e4

theorem mov_rep {n : Nat} {z : Zo} (h : Gd n z) (hb : z.2.1 = false) {x b : Int} (hx : 0 ≤ x ∧ x < n) :
    Rep n (movP n (g z.2.2) (x + 1).toNat (clampB b)) (copyZ z x x b) := by
  have n6 := h.n6
  have cb := clamp_in b
  unfold copyZ movZ
  rw [(var_ok h hb).2 hx, (nor_ok h hb).2 (by omega), if_pos (by rfl), if_pos rfl, h.hn, hb]
  have hr : (x + 1).toNat ≤ n := by omega
  generalize (x + 1).toNat = r at *
  generalize clampB b = c at *
  refine (close_rep (mov_rawW h hb hr cb)).of fun m hm => ?_
  have gs := fun i j (hi : i ≤ n) (hj : j ≤ n) => mov_g h hb hr cb i j (by omega) (by omega)
  constructor
  · rintro ⟨hl, ho⟩
    refine ⟨fun i j hi hj e1 e2 => ?_, fun i hi e => ⟨?_, ?_⟩, ?_, ho⟩
    · have a := hl i j hi hj
      rw [gs i j hi hj, if_neg (by omega), if_neg (by omega)] at a
      exact a
    · have a := hl r i hr hi
      rw [gs r i hr hi, if_neg (by omega), if_pos (by omega)] at a
      exact a
    · have a := hl i r hi hr
      rw [gs i r hi hr, if_pos (by omega)] at a
      exact a
    · have a := hl r r hr hr
      rw [gs r r hr hr, if_neg (by omega), if_neg (by omega), h.diag hb r hr] at a
      exact a
  · rintro ⟨hl, h2, h4, ho⟩
    refine ⟨fun i j hi hj => ?_, ho⟩
    rw [gs i j hi hj]
    by_cases e1 : j = r ∧ i ≠ r ∧ i < n + 1
    · rw [if_pos e1]; obtain ⟨rfl, e1, _⟩ := e1; exact (h2 i hi e1).2
    · rw [if_neg e1]
      by_cases e2 : i = r ∧ j ≠ r ∧ j < n + 1
      · rw [if_pos e2]; obtain ⟨rfl, e2, _⟩ := e2; exact (h2 j hj e2).1
      · rw [if_neg e2]
        by_cases e3 : i = r
        · subst e3
          obtain rfl : j = i := by
            apply Classical.byContradiction
            intro e; exact e2 ⟨rfl, e, by omega⟩
          rw [h.diag hb j hj]; exact h4
        · exact hl i j hi hj e3 (fun e => e1 ⟨e, e3, by omega⟩)

theorem copy_gd {n : Nat} {z : Zo} (h : Gd n z) {x y b : Int} : Gd n (copyZ z x y b) := by
  cases hb : z.2.1 with
  | true => rw [copyZ_none hb]; exact h
  | false =>
    by_cases hx : 0 ≤ x ∧ x < n
    · by_cases hy : -1 ≤ y ∧ y < n
      · by_cases e : x = y
        · subst e; exact (mov_rep h hb hx).1
        · exact (copy_rep h hb hx hy e).1
      · rw [copyZ_un h (.inr hy)]; exact h
    · rw [copyZ_un h (.inl hx)]; exact h

theorem copyR_eq {n : Nat} {z : Zo} (h : Gd n z) {x y b : Int} (hx : 0 ≤ x ∧ x < n) (hy : -1 ≤ y ∧ y < n) (hbb : -68719476736 ≤ b ∧ b ≤ 68719476736) : copyR z x y b = copyZ z x y b := by
  have n6 := h.n6
  cases hb : z.2.1 with
  | true => rw [copyZ_none hb]; unfold copyR; rw [hb]; rfl
  | false =>
    obtain ⟨f1, f2, f3⟩ := forget_rep h hb hx
    have e1 : copyZ z x y b = if x = y then movZ z (x + 1) b else closeZ (setZ (forgetZ z x) (x + 1).toNat (y + 1).toNat b (-b)) := by
      unfold copyZ
      rw [(var_ok h hb).2 hx, (nor_ok h hb).2 hy, clamp_id (by omega) (by omega), wrap_small (by omega) (by omega)]; rfl
    have e2 : copyR z x y b = if x = y then closeR (z.1, z.2.1, movT (x + 1).toNat b (z.1.toNat + 1) z.2.2) else closeR (setZ (forgetZ z x) (x + 1).toNat (y + 1).toNat b (-b)) := by
      unfold copyR
      rw [forgetR_eq h hx, show (0 : Int) - b = -b by omega, wrap_small (by omega) (by omega), if_neg (by rw [hb]; decide)]
    rw [e1, e2]
    by_cases e : x = y
    · rw [if_pos e, if_pos e]
      unfold movZ
      rw [h.hn, hb]
      exact closeR_eq (mov_raw h hb (r := (x + 1).toNat) (by omega) hbb)
    · rw [if_neg e, if_neg e]
      unfold setZ
      rw [f1.hn, f2]
      exact closeR_eq (set_raw f1 f2 (r := (x + 1).toNat) (s := (y + 1).toNat) (by omega) (by omega) (by omega) hbb (by omega))

theorem copy_pt {n : Nat} {z : Zo} (h : Gd n z) {x y b : Int} (hx : 0 ≤ x ∧ x < n) (hy : -1 ≤ y ∧ y < n) (hbb : -1099511627776 ≤ b ∧ b ≤ 1099511627776) {v w : Nat → Int} (hv : Pt n v z) (hw : InR n w)
    (he : ∀ i, i ≤ n → i ≠ (x + 1).toNat → w i = v i) (hr : w (x + 1).toNat = v (y + 1).toNat + b) : Pt n w (copyZ z x y b) := by
  have hb := hv.1
  have o := ptM_own hw
  have cb := clamp_id hbb.1 hbb.2
  have r2 : (x + 1).toNat ≤ n := by omega
  have s2 : (y + 1).toNat ≤ n := by omega
  by_cases e : x = y
  · subst e
    refine (mov_rep h hb hx).pt.1 ?_
    rw [cb]
    generalize (x + 1).toNat = r at *
    refine ⟨fun i j hi hj e1 e2 => ?_, fun i hi e => ⟨?_, ?_⟩, ?_, o⟩
    · have := hv.2 i j hi hj
      unfold ptM at *
      rw [he i hi e1, he j hj e2]; exact this
    · have := hv.2 r i r2 hi
      unfold ptM at *
      rw [hr, he i hi e]; omega
    · have := hv.2 i r hi r2
      unfold ptM at *
      rw [hr, he i hi e]; omega
    · unfold ptM; omega
  · refine (copy_rep h hb hx hy e).pt.1 ?_
    rw [cb]
    have hrs : (x + 1).toNat ≠ (y + 1).toNat := by omega
    have e2 := he (y + 1).toNat s2 (by omega)
    generalize (x + 1).toNat = r at *
    generalize (y + 1).toNat = s at *
    refine ⟨fun i j hi hj e1 e2 => ?_, ⟨?_, ?_⟩, ?_, o⟩
    · have := hv.2 i j hi hj
      unfold ptM at *
      rw [he i hi e1, he j hj e2]; exact this
    · unfold ptM; omega
    · unfold ptM; omega
    · unfold ptM; omega

/-! ### All numbers; nought alone -/
theorem Rep.not_none {n : Nat} {P : Mx → Prop} {z : Zo} (h : Rep n P z) {m : Mx} (hm : Clo n m) (hp : P m) : z.2.1 = false := by
  cases hb : z.2.1 with
  | false => rfl
  | true => exact absurd hp (h.2.1 hb m hm)

end Go.Proofs.Ytgmciihlmgeecaa.Zm
