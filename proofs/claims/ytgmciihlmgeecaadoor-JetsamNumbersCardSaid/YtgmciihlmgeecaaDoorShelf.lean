import Derived.Lib.AtoiErrMem
import Derived.Shelf.Small.Strs
import Derived.Shelf.Strings.SlTrimAscii
import Derived.Shelf.Strconv.ParseIntPublic10
import Derived.Test.YtgmciihlmgeecaaDoorProg
import Derived.Test.YtgmciihlmgeecaaDoorMtCall2
/- Three functions of the library at known arguments, by the shelf's contracts. No conditions. -/
namespace Go.Proofs
open Go.Shelf
def Tryd.lays160_ren : Go.Shelf.Ren := ⟨fun | 160 => 48 | 232 => 52 | 231 => 51 | 227 => 53 | 234 => 55 | 233 => 54 | 236 => 57 | 235 => 56 | 228 => 61 | 271 => 64 | 151 => 63 | 197 => 62 | 120 => 73 | 152 => 72 | 260 => 71 | 137 => 50 | 119 => 79 | 224 => 80 | 225 => 81 | 217 => 60 | 266 => 70 | n => n, fun | 9 => 9 | 4 => 4 | 3 => 3 | 5 => 5 | 117 => 86 | 116 => 85 | 0 => 0 | 124 => 89 | 21 => 21 | 105 => 91 | 46 => 98 | 119 => 110 | 139 => 113 | 138 => 112 | n => n, fun | 3 => 3 | 4 => 4 | n => n⟩
theorem Tryd.lays160 : Go.Proofs.Lays.n160 Tryd.prog Tryd.lays160_ren := {
  mixed := by kernel_rfl
  f119 := Tryd.func79.trans (congrArg some (by kernel_rfl))
  f120 := Tryd.func73.trans (congrArg some (by kernel_rfl))
  f137 := Tryd.func50.trans (congrArg some (by kernel_rfl))
  f151 := Tryd.func63.trans (congrArg some (by kernel_rfl))
  f152 := Tryd.func72.trans (congrArg some (by kernel_rfl))
  f160 := Tryd.func48.trans (congrArg some (by kernel_rfl))
  f197 := Tryd.func62.trans (congrArg some (by kernel_rfl))
  f217 := Tryd.func60.trans (congrArg some (by kernel_rfl))
  f224 := Tryd.func80.trans (congrArg some (by kernel_rfl))
  f225 := Tryd.func81.trans (congrArg some (by kernel_rfl))
  f227 := Tryd.func53.trans (congrArg some (by kernel_rfl))
  f228 := Tryd.func61.trans (congrArg some (by kernel_rfl))
  f231 := Tryd.func51.trans (congrArg some (by kernel_rfl))
  f232 := Tryd.func52.trans (congrArg some (by kernel_rfl))
  f233 := Tryd.func54.trans (congrArg some (by kernel_rfl))
  f234 := Tryd.func55.trans (congrArg some (by kernel_rfl))
  f235 := Tryd.func56.trans (congrArg some (by kernel_rfl))
  f236 := Tryd.func57.trans (congrArg some (by kernel_rfl))
  f260 := Tryd.func71.trans (congrArg some (by kernel_rfl))
  f266 := Tryd.func70.trans (congrArg some (by kernel_rfl))
  f271 := Tryd.func64.trans (congrArg some (by kernel_rfl))
  t0 := Tryd.underlying0
  a0 := Tryd.isAgg0
  z0 := Tryd.sizeOf0
  v0 := Tryd.zeroValue0
  t3 := Tryd.underlying3
  a3 := Tryd.isAgg3
  z3 := Tryd.sizeOf3
  v3 := Tryd.zeroValue3
  t4 := Tryd.underlying4
  a4 := Tryd.isAgg4
  z4 := Tryd.sizeOf4
  v4 := Tryd.zeroValue4
  t5 := Tryd.underlying5
  a5 := Tryd.isAgg5
  z5 := Tryd.sizeOf5
  v5 := Tryd.zeroValue5
  t9 := Tryd.underlying9
  a9 := Tryd.isAgg9
  z9 := Tryd.sizeOf9
  v9 := Tryd.zeroValue9
  t21 := Tryd.underlying21
  a21 := Tryd.isAgg21
  z21 := Tryd.sizeOf21
  v21 := Tryd.zeroValue21
  t46 := Tryd.underlying98
  a46 := Tryd.isAgg98
  z46 := Tryd.sizeOf98
  v46 := Tryd.zeroValue98
  t105 := Tryd.underlying91
  a105 := Tryd.isAgg91
  z105 := Tryd.sizeOf91
  v105 := Tryd.zeroValue91
  t116 := Tryd.underlying85
  a116 := Tryd.isAgg85
  z116 := Tryd.sizeOf85
  t117 := Tryd.underlying86
  a117 := Tryd.isAgg86
  z117 := Tryd.sizeOf86
  v117 := Tryd.zeroValue86
  t119 := Tryd.underlying110
  a119 := Tryd.isAgg110
  z119 := Tryd.sizeOf110
  t124 := Tryd.underlying89
  a124 := Tryd.isAgg89
  z124 := Tryd.sizeOf89
  v124 := Tryd.zeroValue89
  t138 := Tryd.underlying112
  a138 := Tryd.isAgg112
  z138 := Tryd.sizeOf112
  v138 := Tryd.zeroValue112
  t139 := Tryd.underlying113
  a139 := Tryd.isAgg113
  z139 := Tryd.sizeOf113
  v139 := Tryd.zeroValue113
  g3 := by kernel_rfl
  g4 := by kernel_rfl }
def Tryd.lays137_ren : Go.Shelf.Ren := ⟨fun | 137 => 50 | 217 => 60 | 266 => 70 | n => n, fun | 9 => 9 | 5 => 5 | 3 => 3 | n => n, fun | n => n⟩
theorem Tryd.lays137 : Go.Proofs.Lays.n137 Tryd.prog Tryd.lays137_ren := {
  mixed := by kernel_rfl
  f137 := Tryd.func50.trans (congrArg some (by kernel_rfl))
  f217 := Tryd.func60.trans (congrArg some (by kernel_rfl))
  f266 := Tryd.func70.trans (congrArg some (by kernel_rfl))
  t3 := Tryd.underlying3
  a3 := Tryd.isAgg3
  z3 := Tryd.sizeOf3
  v3 := Tryd.zeroValue3
  t5 := Tryd.underlying5
  a5 := Tryd.isAgg5
  z5 := Tryd.sizeOf5
  v5 := Tryd.zeroValue5
  t9 := Tryd.underlying9
  a9 := Tryd.isAgg9
  z9 := Tryd.sizeOf9
  v9 := Tryd.zeroValue9 }
def Tryd.laysC174_ren : Go.Shelf.Ren := ⟨fun | 174 => 49 | 247 => 58 | 245 => 59 | 287 => 65 | 279 => 66 | 280 => 67 | 281 => 68 | 282 => 69 | 321 => 74 | 322 => 75 | 316 => 76 | 171 => 78 | 205 => 77 | 243 => 82 | 246 => 83 | 283 => 84 | 284 => 85 | 285 => 86 | 286 => 87 | 129 => 89 | 317 => 88 | 318 => 90 | 319 => 91 | 320 => 92 | 337 => 93 | 338 => 94 | n => n, fun | 9 => 9 | 3 => 3 | 2 => 2 | 75 => 79 | 85 => 80 | 4 => 4 | 167 => 94 | 5 => 5 | 53 => 95 | 175 => 96 | 46 => 98 | 168 => 99 | 37 => 104 | 0 => 0 | 210 => 107 | 21 => 21 | 127 => 117 | 145 => 120 | 143 => 118 | 171 => 122 | 173 => 125 | 212 => 128 | 51 => 129 | 20 => 20 | 213 => 130 | 232 => 133 | 233 => 134 | 80 => 135 | n => n, fun | 15 => 0 | 16 => 1 | 17 => 5 | 18 => 6 | 19 => 7 | n => n⟩
theorem Tryd.laysC174 : Go.Proofs.LaysC.n174 Tryd.prog Tryd.laysC174_ren := {
  mixed := by kernel_rfl
  f129 := Tryd.func89.trans (congrArg some (by kernel_rfl))
  f171 := Tryd.func78.trans (congrArg some (by kernel_rfl))
  f174 := Tryd.func49.trans (congrArg some (by kernel_rfl))
  f205 := Tryd.func77.trans (congrArg some (by kernel_rfl))
  f243 := Tryd.func82.trans (congrArg some (by kernel_rfl))
  f245 := Tryd.func59.trans (congrArg some (by kernel_rfl))
  f246 := Tryd.func83.trans (congrArg some (by kernel_rfl))
  f247 := Tryd.func58.trans (congrArg some (by kernel_rfl))
  f279 := Tryd.func66.trans (congrArg some (by kernel_rfl))
  f280 := Tryd.func67.trans (congrArg some (by kernel_rfl))
  f281 := Tryd.func68.trans (congrArg some (by kernel_rfl))
  f282 := Tryd.func69.trans (congrArg some (by kernel_rfl))
  f283 := Tryd.func84.trans (congrArg some (by kernel_rfl))
  f284 := Tryd.func85.trans (congrArg some (by kernel_rfl))
  f285 := Tryd.func86.trans (congrArg some (by kernel_rfl))
  f286 := Tryd.func87.trans (congrArg some (by kernel_rfl))
  f287 := Tryd.func65.trans (congrArg some (by kernel_rfl))
  f316 := Tryd.func76.trans (congrArg some (by kernel_rfl))
  f317 := Tryd.func88.trans (congrArg some (by kernel_rfl))
  f318 := Tryd.func90.trans (congrArg some (by kernel_rfl))
  f319 := Tryd.func91.trans (congrArg some (by kernel_rfl))
  f320 := Tryd.func92.trans (congrArg some (by kernel_rfl))
  f321 := Tryd.func74.trans (congrArg some (by kernel_rfl))
  f322 := Tryd.func75.trans (congrArg some (by kernel_rfl))
  f337 := Tryd.func93.trans (congrArg some (by kernel_rfl))
  f338 := Tryd.func94.trans (congrArg some (by kernel_rfl))
  t0 := Tryd.underlying0
  a0 := Tryd.isAgg0
  z0 := Tryd.sizeOf0
  v0 := Tryd.zeroValue0
  t2 := Tryd.underlying2
  a2 := Tryd.isAgg2
  z2 := Tryd.sizeOf2
  v2 := Tryd.zeroValue2
  t3 := Tryd.underlying3
  a3 := Tryd.isAgg3
  z3 := Tryd.sizeOf3
  v3 := Tryd.zeroValue3
  t4 := Tryd.underlying4
  a4 := Tryd.isAgg4
  z4 := Tryd.sizeOf4
  v4 := Tryd.zeroValue4
  t5 := Tryd.underlying5
  a5 := Tryd.isAgg5
  z5 := Tryd.sizeOf5
  v5 := Tryd.zeroValue5
  t9 := Tryd.underlying9
  a9 := Tryd.isAgg9
  z9 := Tryd.sizeOf9
  v9 := Tryd.zeroValue9
  t20 := Tryd.underlying20
  a20 := Tryd.isAgg20
  z20 := Tryd.sizeOf20
  v20 := Tryd.zeroValue20
  t21 := Tryd.underlying21
  a21 := Tryd.isAgg21
  z21 := Tryd.sizeOf21
  v21 := Tryd.zeroValue21
  t37 := Tryd.underlying104
  a37 := Tryd.isAgg104
  z37 := Tryd.sizeOf104
  v37 := Tryd.zeroValue104
  t46 := Tryd.underlying98
  a46 := Tryd.isAgg98
  z46 := Tryd.sizeOf98
  v46 := Tryd.zeroValue98
  t51 := Tryd.underlying129
  a51 := Tryd.isAgg129
  z51 := Tryd.sizeOf129
  v51 := Tryd.zeroValue129
  t53 := Tryd.underlying95
  a53 := Tryd.isAgg95
  z53 := Tryd.sizeOf95
  v53 := Tryd.zeroValue95
  t75 := Tryd.underlying79
  a75 := Tryd.isAgg79
  z75 := Tryd.sizeOf79
  v75 := Tryd.zeroValue79
  t85 := Tryd.underlying80
  a85 := Tryd.isAgg80
  z85 := Tryd.sizeOf80
  v85 := Tryd.zeroValue80
  t127 := Tryd.underlying117
  a127 := Tryd.isAgg117
  z127 := Tryd.sizeOf117
  v127 := Tryd.zeroValue117
  t143 := Tryd.underlying118
  a143 := Tryd.isAgg118
  z143 := Tryd.sizeOf118
  v143 := Tryd.zeroValue118
  t145 := Tryd.underlying120
  a145 := Tryd.isAgg120
  z145 := Tryd.sizeOf120
  v145 := Tryd.zeroValue120
  t167 := Tryd.underlying94
  a167 := Tryd.isAgg94
  z167 := Tryd.sizeOf94
  v167 := Tryd.zeroValue94
  t168 := Tryd.underlying99
  a168 := Tryd.isAgg99
  z168 := Tryd.sizeOf99
  v168 := Tryd.zeroValue99
  t171 := Tryd.underlying122
  a171 := Tryd.isAgg122
  z171 := Tryd.sizeOf122
  v171 := Tryd.zeroValue122
  t173 := Tryd.underlying125
  a173 := Tryd.isAgg125
  z173 := Tryd.sizeOf125
  v173 := Tryd.zeroValue125
  t175 := Tryd.underlying96
  a175 := Tryd.isAgg96
  z175 := Tryd.sizeOf96
  v175 := Tryd.zeroValue96
  t210 := Tryd.underlying107
  a210 := Tryd.isAgg107
  z210 := Tryd.sizeOf107
  v210 := Tryd.zeroValue107
  t212 := Tryd.underlying128
  a212 := Tryd.isAgg128
  z212 := Tryd.sizeOf128
  v212 := Tryd.zeroValue128
  t213 := Tryd.underlying130
  a213 := Tryd.isAgg130
  z213 := Tryd.sizeOf130
  t232 := Tryd.underlying133
  a232 := Tryd.isAgg133
  z232 := Tryd.sizeOf133
  v232 := Tryd.zeroValue133
  t233 := Tryd.underlying134
  a233 := Tryd.isAgg134
  z233 := Tryd.sizeOf134
  v233 := Tryd.zeroValue134
  g15 := by kernel_rfl
  g16 := by kernel_rfl
  g17 := by kernel_rfl
  g18 := by kernel_rfl
  g19 := by kernel_rfl
  t80 := Tryd.underlying135
  a80 := Tryd.isAgg135
  z80 := Tryd.sizeOf135
  v80 := Tryd.zeroValue135
  i0 := by kernel_rfl
  i2 := by kernel_rfl
  i3 := by kernel_rfl
  i4 := by kernel_rfl
  i5 := by kernel_rfl
  i9 := by kernel_rfl
  i20 := by kernel_rfl
  i21 := by kernel_rfl
  i37 := by kernel_rfl
  i46 := by kernel_rfl
  i51 := by kernel_rfl
  i53 := by kernel_rfl
  i75 := by kernel_rfl
  i80 := by kernel_rfl
  i85 := by kernel_rfl
  i127 := by kernel_rfl
  i143 := by kernel_rfl
  i145 := by kernel_rfl
  i167 := by kernel_rfl
  i168 := by kernel_rfl
  i171 := by kernel_rfl
  i173 := by kernel_rfl
  i175 := by kernel_rfl
  i210 := by kernel_rfl
  i212 := by kernel_rfl
  i232 := by kernel_rfl
  i233 := by kernel_rfl
  m15 := by kernel_rfl
  m16 := by kernel_rfl
  m17 := by kernel_rfl
  m18 := by kernel_rfl
  m19 := by kernel_rfl
  c0 := by kernel_rfl
  c2 := by kernel_rfl
  c3 := by kernel_rfl
  c4 := by kernel_rfl
  c5 := by kernel_rfl
  c9 := by kernel_rfl
  c20 := by kernel_rfl
  c21 := by kernel_rfl
  c37 := by kernel_rfl
  c46 := by kernel_rfl
  c51 := by kernel_rfl
  c53 := by kernel_rfl
  c75 := by kernel_rfl
  c80 := by kernel_rfl
  c85 := by kernel_rfl
  c127 := by kernel_rfl
  c143 := by kernel_rfl
  c145 := by kernel_rfl
  c167 := by kernel_rfl
  c168 := by kernel_rfl
  c171 := by kernel_rfl
  c173 := by kernel_rfl
  c175 := by kernel_rfl
  c210 := by kernel_rfl
  c212 := by kernel_rfl
  c213 := by kernel_rfl
  c232 := by kernel_rfl
  c233 := by kernel_rfl }
end Go.Proofs
namespace Go.Proofs.YtgmciihlmgeecaaDoor.Fn
open Go Go.RowKit Go.Proofs Go.Proofs.YtgmciihlmgeecaaDoor.Mt
set_option linter.unusedVariables false
set_option linter.unusedSimpArgs false

theorem vals_args {w : World} {S : Nat → Prop} : ∀ {xs us : List Value}, ArgsRel w S (xs.map fun x => .one (.v x)) us → us = xs
  | [], [], _ => rfl
  | [], _ :: _, h => by have := h.1; simp at this
  | _ :: _, [], h => by have := h.1; simp at this
  | x :: xs, u :: us, h => by
    have h0 : RelC w (argEnv w S).F (.v x) u := h.2 0 (.one (.v x)) u rfl rfl
    have e : u = x := by cases h0; rfl
    have ih : us = xs := vals_args (S := S) (w := w) ⟨by simpa using h.1, fun j v u' h1 h2 => h.2 (j + 1) v u' h1 h2⟩
    rw [e, ih]
theorem sound_of {P : Program} {g : Nat} {xs : List Value} {cv : CV} {u : Value} (h : ∀ w, Calls P g xs.toArray w fun e w' => e = .returned u ∧ Below w.heap.size w w') (hv : ∀ w E, RelV w E cv u) : SoundAt P g (xs.map fun x => .one (.v x)) (Ret.mk cv []) := by
  intro w S us hA
  obtain rfl := vals_args hA
  refine (h w).mono fun e w' ⟨he, hb⟩ => ⟨u, fun _ => undef, he, hb, fun j t h => by simp at h, fun j j' b h => by simp at h, hv _ _⟩
theorem shelf_ixb (s : ByteArray) (c r : Int) (h : Go.Lib.indexByte s.data.toList c.toNat.toUInt8 = r) : SoundAt Tryd.prog 50 [.one (.v (.string s)), .one (.v (.int .u8 c))] (Ret.mk (.one (.v (.int .i64 r))) []) :=
  sound_of (xs := [.string s, .int .u8 c]) (u := .int .i64 r) (fun w => (Any.strings_IndexByte Tryd.lays137 s c w).mono fun e w' ⟨h1, h2⟩ => ⟨by rw [h1, h], by rw [h2]; exact Below.refl _ _⟩) (fun w E => RelC.v rfl)
theorem shelf_trim : SoundAt Tryd.prog 48 [.one (.v (.string ⟨#[49, 48]⟩)), .one (.v (.string ⟨#[48, 49, 50, 51, 52, 53, 54, 55, 56, 57]⟩))] (Ret.mk (.one (.v (.string ⟨#[]⟩))) []) :=
  sound_of (xs := [.string ⟨#[49, 48]⟩, .string ⟨#[48, 49, 50, 51, 52, 53, 54, 55, 56, 57]⟩]) (u := .string ⟨#[]⟩)
    (fun w => Any.strings_Trim_laid Tryd.lays160 (by kernel_rfl) ⟨#[49, 48]⟩ ⟨#[48, 49, 50, 51, 52, 53, 54, 55, 56, 57]⟩ w (by decide) (by decide) (ascii_of_all (by decide))) (fun w E => RelC.v rfl)
theorem shelf_par : SoundAt Tryd.prog 49 [.one (.v (.string ⟨#[49, 48]⟩)), .one (.v (.int .i64 10)), .one (.v (.int .i64 32))] (Ret.mk (.tup [.one (.v (.int .i64 10)), .one (.v .nilIface)]) []) :=
  sound_of (xs := [.string ⟨#[49, 48]⟩, .int .i64 10, .int .i64 32]) (u := .tuple #[.int .i64 10, .nilIface])
    (fun w => (Any.strconv_ParseInt_10_at32_ok Tryd.laysC174 ⟨#[49, 48]⟩ (by decide) 10 (by decide) w).mono fun e w' ⟨h1, h2⟩ => ⟨h1, by
      rcases h2 with rfl | ⟨t, rfl⟩
      · exact Below.refl _ _
      · exact Go.Lib.bytesWorld_below _ _ _⟩)
    (fun w E => ⟨[.int .i64 10, .nilIface], rfl, rfl, fun j v x h1 h2 => by
      match j with
      | 0 => simp at h1 h2; subst h1; subst h2; exact RelC.v rfl
      | 1 => simp at h1 h2; subst h1; subst h2; exact RelC.v rfl
      | j + 2 => simp at h1⟩)

end Go.Proofs.YtgmciihlmgeecaaDoor.Fn
