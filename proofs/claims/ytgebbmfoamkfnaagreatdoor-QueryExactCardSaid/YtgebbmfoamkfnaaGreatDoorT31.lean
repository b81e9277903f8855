/-  · sig.Parse: what a text comes to. -/
import Derived.Shelf.Strings.Builder1
import Derived.Shelf.Strings.Builder2
import Derived.Shelf.Strings.OnBuilder
import Derived.Shelf.Strings.BuilderF
import Derived.Shelf.Strings.BuilderK
import Derived.Shelf.Strings.Builder2Cap
import Derived.Shelf.Strconv.Atoi
import Derived.Shelf.Strconv.Itoa0
import Derived.Shelf.Strconv.Itoa1
import Derived.Shelf.LaysM
import Derived.Shelf.Strconv.Itoa2
import Derived.Shelf.Strconv.Itoa3
import Derived.Shelf.Strconv.AtoiErrFast
import Derived.Shelf.Strconv.ParseIntEmpty
import Derived.Shelf.Strconv.AtoiFail
import Derived.Shelf.Strconv.Clone
import Derived.Shelf.Strconv.SyntaxError
import Derived.Shelf.LaysC
import Derived.Shelf.Strconv.ToError
import Derived.Shelf.Strconv.Lower
import Derived.Shelf.Strconv.ParseUint10
import Derived.Shelf.Strconv.ParseUint10Empty
import Derived.Shelf.Strconv.ParseUint10Any
import Derived.Shelf.Strconv.ParseInt10
import Derived.Shelf.Strconv.AtoiLong
import Derived.Shelf.Strconv.AtoiInnerAll
import Derived.Shelf.Strconv.RangeError
import Derived.Shelf.Strconv.ToErrorRange
import Derived.Shelf.Strconv.AtoiAll
import Derived.Shelf.Strconv.ErrVarAll
import Derived.Shelf.Strings.Search1
import Derived.Shelf.Strings.Search2
import Derived.Shelf.Strings.Search3
import Derived.Shelf.Strings.Cut
import Derived.Shelf.Strings.Count
import Derived.Shelf.Strings.Shaped
import Derived.Shelf.Strings.Prefix
import Derived.Shelf.Strings.Split
import Derived.Shelf.Strings.SplitShaped
import Derived.Shelf.Bits.Mul64
import Derived.Shelf.Strings.Repeat
import Derived.Shelf.Unicode.DecodeSlow
import Derived.Shelf.Strings.BuilderCap
import Derived.Test.YtgebbmfoamkfnaaGreatDoorProg
import Derived.Test.YtgebbmfoamkfnaaGreatDoorT26
namespace Go.Proofs
open Go.Shelf
def Tryz.laysC172_ren : Go.Shelf.Ren := ⟨fun | 172 => 69 | 244 => 103 | 245 => 104 | 247 => 139 | 279 => 140 | 280 => 141 | 281 => 142 | 282 => 143 | 287 => 170 | 316 => 171 | 171 => 78 | 205 => 172 | 321 => 197 | 322 => 198 | 243 => 109 | 246 => 145 | 283 => 174 | 284 => 175 | 285 => 176 | 286 => 177 | 129 => 201 | 317 => 200 | 318 => 202 | 319 => 203 | 320 => 204 | 337 => 211 | 338 => 212 | n => n, fun | 9 => 9 | 3 => 3 | 75 => 142 | 76 => 143 | 4 => 4 | 5 => 5 | 167 => 234 | 37 => 156 | 0 => 0 | 85 => 235 | 2 => 2 | 168 => 237 | 53 => 49 | 175 => 270 | 46 => 70 | 210 => 274 | 127 => 242 | 145 => 302 | 143 => 300 | 21 => 21 | 171 => 279 | 173 => 282 | 212 => 306 | 51 => 25 | 20 => 20 | 213 => 307 | 232 => 323 | 233 => 324 | 80 => 40 | n => n, fun | 15 => 1 | 16 => 2 | 17 => 3 | 18 => 6 | 19 => 7 | n => n⟩
theorem Tryz.laysC172 : Go.Proofs.LaysC.n172 Tryz.prog Tryz.laysC172_ren := {
  mixed := by kernel_rfl
  f129 := Tryz.func201.trans (congrArg some (by kernel_rfl))
  f171 := Tryz.func78.trans (congrArg some (by kernel_rfl))
  f172 := Tryz.func69.trans (congrArg some (by kernel_rfl))
  f205 := Tryz.func172.trans (congrArg some (by kernel_rfl))
  f243 := Tryz.func109.trans (congrArg some (by kernel_rfl))
  f244 := Tryz.func103.trans (congrArg some (by kernel_rfl))
  f245 := Tryz.func104.trans (congrArg some (by kernel_rfl))
  f246 := Tryz.func145.trans (congrArg some (by kernel_rfl))
  f247 := Tryz.func139.trans (congrArg some (by kernel_rfl))
  f279 := Tryz.func140.trans (congrArg some (by kernel_rfl))
  f280 := Tryz.func141.trans (congrArg some (by kernel_rfl))
  f281 := Tryz.func142.trans (congrArg some (by kernel_rfl))
  f282 := Tryz.func143.trans (congrArg some (by kernel_rfl))
  f283 := Tryz.func174.trans (congrArg some (by kernel_rfl))
  f284 := Tryz.func175.trans (congrArg some (by kernel_rfl))
  f285 := Tryz.func176.trans (congrArg some (by kernel_rfl))
  f286 := Tryz.func177.trans (congrArg some (by kernel_rfl))
  f287 := Tryz.func170.trans (congrArg some (by kernel_rfl))
  f316 := Tryz.func171.trans (congrArg some (by kernel_rfl))
  f317 := Tryz.func200.trans (congrArg some (by kernel_rfl))
  f318 := Tryz.func202.trans (congrArg some (by kernel_rfl))
  f319 := Tryz.func203.trans (congrArg some (by kernel_rfl))
  f320 := Tryz.func204.trans (congrArg some (by kernel_rfl))
  f321 := Tryz.func197.trans (congrArg some (by kernel_rfl))
  f322 := Tryz.func198.trans (congrArg some (by kernel_rfl))
  f337 := Tryz.func211.trans (congrArg some (by kernel_rfl))
  f338 := Tryz.func212.trans (congrArg some (by kernel_rfl))
  t0 := Tryz.underlying0
  a0 := Tryz.isAgg0
  z0 := Tryz.sizeOf0
  v0 := Tryz.zeroValue0
  t2 := Tryz.underlying2
  a2 := Tryz.isAgg2
  z2 := Tryz.sizeOf2
  v2 := Tryz.zeroValue2
  t3 := Tryz.underlying3
  a3 := Tryz.isAgg3
  z3 := Tryz.sizeOf3
  v3 := Tryz.zeroValue3
  t4 := Tryz.underlying4
  a4 := Tryz.isAgg4
  z4 := Tryz.sizeOf4
  v4 := Tryz.zeroValue4
  t5 := Tryz.underlying5
  a5 := Tryz.isAgg5
  z5 := Tryz.sizeOf5
  v5 := Tryz.zeroValue5
  t9 := Tryz.underlying9
  a9 := Tryz.isAgg9
  z9 := Tryz.sizeOf9
  v9 := Tryz.zeroValue9
  t20 := Tryz.underlying20
  a20 := Tryz.isAgg20
  z20 := Tryz.sizeOf20
  v20 := Tryz.zeroValue20
  t21 := Tryz.underlying21
  a21 := Tryz.isAgg21
  z21 := Tryz.sizeOf21
  v21 := Tryz.zeroValue21
  t37 := Tryz.underlying156
  a37 := Tryz.isAgg156
  z37 := Tryz.sizeOf156
  v37 := Tryz.zeroValue156
  t46 := Tryz.underlying70
  a46 := Tryz.isAgg70
  z46 := Tryz.sizeOf70
  v46 := Tryz.zeroValue70
  t51 := Tryz.underlying25
  a51 := Tryz.isAgg25
  z51 := Tryz.sizeOf25
  v51 := Tryz.zeroValue25
  t53 := Tryz.underlying49
  a53 := Tryz.isAgg49
  z53 := Tryz.sizeOf49
  v53 := Tryz.zeroValue49
  t75 := Tryz.underlying142
  a75 := Tryz.isAgg142
  z75 := Tryz.sizeOf142
  v75 := Tryz.zeroValue142
  t76 := Tryz.underlying143
  a76 := Tryz.isAgg143
  z76 := Tryz.sizeOf143
  v76 := Tryz.zeroValue143
  t85 := Tryz.underlying235
  a85 := Tryz.isAgg235
  z85 := Tryz.sizeOf235
  v85 := Tryz.zeroValue235
  t127 := Tryz.underlying242
  a127 := Tryz.isAgg242
  z127 := Tryz.sizeOf242
  v127 := Tryz.zeroValue242
  t143 := Tryz.underlying300
  a143 := Tryz.isAgg300
  z143 := Tryz.sizeOf300
  v143 := Tryz.zeroValue300
  t145 := Tryz.underlying302
  a145 := Tryz.isAgg302
  z145 := Tryz.sizeOf302
  v145 := Tryz.zeroValue302
  t167 := Tryz.underlying234
  a167 := Tryz.isAgg234
  z167 := Tryz.sizeOf234
  v167 := Tryz.zeroValue234
  t168 := Tryz.underlying237
  a168 := Tryz.isAgg237
  z168 := Tryz.sizeOf237
  v168 := Tryz.zeroValue237
  t171 := Tryz.underlying279
  a171 := Tryz.isAgg279
  z171 := Tryz.sizeOf279
  v171 := Tryz.zeroValue279
  t173 := Tryz.underlying282
  a173 := Tryz.isAgg282
  z173 := Tryz.sizeOf282
  v173 := Tryz.zeroValue282
  t175 := Tryz.underlying270
  a175 := Tryz.isAgg270
  z175 := Tryz.sizeOf270
  v175 := Tryz.zeroValue270
  t210 := Tryz.underlying274
  a210 := Tryz.isAgg274
  z210 := Tryz.sizeOf274
  v210 := Tryz.zeroValue274
  t212 := Tryz.underlying306
  a212 := Tryz.isAgg306
  z212 := Tryz.sizeOf306
  v212 := Tryz.zeroValue306
  t213 := Tryz.underlying307
  a213 := Tryz.isAgg307
  z213 := Tryz.sizeOf307
  t232 := Tryz.underlying323
  a232 := Tryz.isAgg323
  z232 := Tryz.sizeOf323
  v232 := Tryz.zeroValue323
  t233 := Tryz.underlying324
  a233 := Tryz.isAgg324
  z233 := Tryz.sizeOf324
  v233 := Tryz.zeroValue324
  g15 := by kernel_rfl
  g16 := by kernel_rfl
  g17 := by kernel_rfl
  g18 := by kernel_rfl
  g19 := by kernel_rfl
  t80 := Tryz.underlying40
  a80 := Tryz.isAgg40
  z80 := Tryz.sizeOf40
  v80 := Tryz.zeroValue40
  i0 := by kernel_rfl
  i2 := by kernel_rfl
  i3 := by kernel_rfl
  i4 := by kernel_rfl
  i5 := by kernel_rfl
  i9 := by kernel_rfl
  i20 := by kernel_rfl
  i21 := by kernel_rfl
  i37 := by kernel_rfl
  i46 := by kernel_rfl
  i51 := by kernel_rfl
  i53 := by kernel_rfl
  i75 := by kernel_rfl
  i76 := by kernel_rfl
  i80 := by kernel_rfl
  i85 := by kernel_rfl
  i127 := by kernel_rfl
  i143 := by kernel_rfl
  i145 := by kernel_rfl
  i167 := by kernel_rfl
  i168 := by kernel_rfl
  i171 := by kernel_rfl
  i173 := by kernel_rfl
  i175 := by kernel_rfl
  i210 := by kernel_rfl
  i212 := by kernel_rfl
  i232 := by kernel_rfl
  i233 := by kernel_rfl
  m15 := by kernel_rfl
  m16 := by kernel_rfl
  m17 := by kernel_rfl
  m18 := by kernel_rfl
  m19 := by kernel_rfl
  c0 := by kernel_rfl
  c2 := by kernel_rfl
  c3 := by kernel_rfl
  c4 := by kernel_rfl
  c5 := by kernel_rfl
  c9 := by kernel_rfl
  c20 := by kernel_rfl
  c21 := by kernel_rfl
  c37 := by kernel_rfl
  c46 := by kernel_rfl
  c51 := by kernel_rfl
  c53 := by kernel_rfl
  c75 := by kernel_rfl
  c76 := by kernel_rfl
  c80 := by kernel_rfl
  c85 := by kernel_rfl
  c127 := by kernel_rfl
  c143 := by kernel_rfl
  c145 := by kernel_rfl
  c167 := by kernel_rfl
  c168 := by kernel_rfl
  c171 := by kernel_rfl
  c173 := by kernel_rfl
  c175 := by kernel_rfl
  c210 := by kernel_rfl
  c212 := by kernel_rfl
  c213 := by kernel_rfl
  c232 := by kernel_rfl
  c233 := by kernel_rfl }
open Go.RowKit in
theorem Tryz.strconv_Atoi_ok (s : ByteArray) (hmax : s.size ≤ 9223372036854775806) (v : Int) (h : Lib.atoiAll s.data.toList = .ok v) (w : World) :
    Calls Tryz.prog 69 #[.string s] w fun e w' => e = .returned (.tuple #[.int .i64 v, .nilIface]) ∧ (w' = w ∨ ∃ t, w' = Lib.bytesWorld w 5 t) := Any.strconv_Atoi_ok Tryz.laysC172 s hmax v h w
open Go.RowKit in
theorem Tryz.strconv_Atoi_syntax (s : ByteArray) (hlim : s.size ≤ 281474976710656) (h : Lib.atoiAll s.data.toList = Lib.atoiAll []) (ev : Value) (w : World) (hv : w.cell? ⟨1, 0, none⟩ = some ev) (hev : ev = .nilIface ∨ ∃ te pe, ev = .iface te pe) :
    Calls Tryz.prog 69 #[.string s] w fun e w' => ∃ N, e = .returned (.tuple #[.int .i64 (0), .iface 237 (.pointer (some ⟨N, 0, none⟩))]) ∧ w.heap.size ≤ N ∧ w'.heap[N]? = some (.cells #[.string ⟨#[65, 116, 111, 105]⟩, .string s, ev] 274 (0, 0)) ∧ Below w.heap.size w w' := Any.strconv_Atoi_syntax Tryz.laysC172 s hlim h ev w hv hev
open Go.RowKit in
theorem Tryz.strconv_Atoi_range (s : ByteArray) (hlim : s.size ≤ 281474976710656) (h : Lib.atoiAll s.data.toList = .range) (ev : Value) (w : World) (hv : w.cell? ⟨2, 0, none⟩ = some ev) (hev : ev = .nilIface ∨ ∃ te pe, ev = .iface te pe) :
    Calls Tryz.prog 69 #[.string s] w fun e w' => ∃ N, e = .returned (.tuple #[.int .i64 (Lib.atoiSat s.data.toList), .iface 237 (.pointer (some ⟨N, 0, none⟩))]) ∧ w.heap.size ≤ N ∧ w'.heap[N]? = some (.cells #[.string ⟨#[65, 116, 111, 105]⟩, .string s, ev] 274 (0, 0)) ∧ Below w.heap.size w w' := Any.strconv_Atoi_range Tryz.laysC172 s hlim h ev w hv hev
def Tryz.lays145_ren : Go.Shelf.Ren := ⟨fun | 145 => 27 | 220 => 67 | 219 => 101 | 217 => 132 | 225 => 133 | 224 => 134 | 267 => 135 | 266 => 165 | 314 => 166 | n => n, fun | 9 => 9 | 4 => 4 | 59 => 89 | 3 => 3 | 5 => 5 | 46 => 70 | 146 => 265 | 51 => 25 | n => n, fun | 1 => 0 | n => n⟩
theorem Tryz.lays145 : Go.Proofs.Lays.n145 Tryz.prog Tryz.lays145_ren := {
  mixed := by kernel_rfl
  f145 := Tryz.func27.trans (congrArg some (by kernel_rfl))
  f217 := Tryz.func132.trans (congrArg some (by kernel_rfl))
  f219 := Tryz.func101.trans (congrArg some (by kernel_rfl))
  f220 := Tryz.func67.trans (congrArg some (by kernel_rfl))
  f224 := Tryz.func134.trans (congrArg some (by kernel_rfl))
  f225 := Tryz.func133.trans (congrArg some (by kernel_rfl))
  f266 := Tryz.func165.trans (congrArg some (by kernel_rfl))
  f267 := Tryz.func135.trans (congrArg some (by kernel_rfl))
  f314 := Tryz.func166.trans (congrArg some (by kernel_rfl))
  t3 := Tryz.underlying3
  a3 := Tryz.isAgg3
  z3 := Tryz.sizeOf3
  v3 := Tryz.zeroValue3
  t4 := Tryz.underlying4
  a4 := Tryz.isAgg4
  z4 := Tryz.sizeOf4
  v4 := Tryz.zeroValue4
  t5 := Tryz.underlying5
  a5 := Tryz.isAgg5
  z5 := Tryz.sizeOf5
  v5 := Tryz.zeroValue5
  t9 := Tryz.underlying9
  a9 := Tryz.isAgg9
  z9 := Tryz.sizeOf9
  v9 := Tryz.zeroValue9
  t46 := Tryz.underlying70
  a46 := Tryz.isAgg70
  z46 := Tryz.sizeOf70
  v46 := Tryz.zeroValue70
  t51 := Tryz.underlying25
  a51 := Tryz.isAgg25
  z51 := Tryz.sizeOf25
  v51 := Tryz.zeroValue25
  t59 := Tryz.underlying89
  a59 := Tryz.isAgg89
  z59 := Tryz.sizeOf89
  v59 := Tryz.zeroValue89
  t146 := Tryz.underlying265
  a146 := Tryz.isAgg265
  z146 := Tryz.sizeOf265
  v146 := Tryz.zeroValue265
  g1 := by kernel_rfl }
open Go.RowKit Go.Lib in
theorem Tryz.strings_Cut (s sep : ByteArray) (m : Int) (w : World) (hs : s.size < 4294967281) (hm : w.cell? ⟨0, 0, none⟩ = some (.int .i64 m)) :
    Calls Tryz.prog 27 #[.string s, .string sep] w fun e w' => e = .returned (.tuple #[.string ⟨(Lib.cut s.data.toList sep.data.toList).1.toArray⟩, .string ⟨(Lib.cut s.data.toList sep.data.toList).2.1.toArray⟩, .bool (Lib.cut s.data.toList sep.data.toList).2.2]) ∧ ∃ n, w' = w.drewN n := Any.strings_Cut Tryz.lays145 s sep m w hs hm
def Tryz.lays146_ren : Go.Shelf.Ren := ⟨fun | 146 => 68 | 221 => 102 | 268 => 136 | 138 => 137 | 143 => 138 | 195 => 167 | 197 => 168 | 218 => 169 | 219 => 101 | 260 => 196 | 217 => 132 | 225 => 133 | 224 => 134 | 267 => 135 | 266 => 165 | 314 => 166 | n => n, fun | 9 => 9 | 31 => 139 | 3 => 3 | 4 => 4 | 0 => 0 | 105 => 268 | 21 => 21 | 5 => 5 | 46 => 70 | 119 => 313 | 139 => 316 | 138 => 315 | 146 => 265 | 51 => 25 | n => n, fun | 1 => 0 | 3 => 4 | 4 => 5 | n => n⟩
theorem Tryz.lays146 : Go.Proofs.Lays.n146 Tryz.prog Tryz.lays146_ren := {
  mixed := by kernel_rfl
  f138 := Tryz.func137.trans (congrArg some (by kernel_rfl))
  f143 := Tryz.func138.trans (congrArg some (by kernel_rfl))
  f146 := Tryz.func68.trans (congrArg some (by kernel_rfl))
  f195 := Tryz.func167.trans (congrArg some (by kernel_rfl))
  f197 := Tryz.func168.trans (congrArg some (by kernel_rfl))
  f217 := Tryz.func132.trans (congrArg some (by kernel_rfl))
  f218 := Tryz.func169.trans (congrArg some (by kernel_rfl))
  f219 := Tryz.func101.trans (congrArg some (by kernel_rfl))
  f221 := Tryz.func102.trans (congrArg some (by kernel_rfl))
  f224 := Tryz.func134.trans (congrArg some (by kernel_rfl))
  f225 := Tryz.func133.trans (congrArg some (by kernel_rfl))
  f260 := Tryz.func196.trans (congrArg some (by kernel_rfl))
  f266 := Tryz.func165.trans (congrArg some (by kernel_rfl))
  f267 := Tryz.func135.trans (congrArg some (by kernel_rfl))
  f268 := Tryz.func136.trans (congrArg some (by kernel_rfl))
  f314 := Tryz.func166.trans (congrArg some (by kernel_rfl))
  t0 := Tryz.underlying0
  a0 := Tryz.isAgg0
  z0 := Tryz.sizeOf0
  v0 := Tryz.zeroValue0
  t3 := Tryz.underlying3
  a3 := Tryz.isAgg3
  z3 := Tryz.sizeOf3
  v3 := Tryz.zeroValue3
  t4 := Tryz.underlying4
  a4 := Tryz.isAgg4
  z4 := Tryz.sizeOf4
  v4 := Tryz.zeroValue4
  t5 := Tryz.underlying5
  a5 := Tryz.isAgg5
  z5 := Tryz.sizeOf5
  v5 := Tryz.zeroValue5
  t9 := Tryz.underlying9
  a9 := Tryz.isAgg9
  z9 := Tryz.sizeOf9
  v9 := Tryz.zeroValue9
  t21 := Tryz.underlying21
  a21 := Tryz.isAgg21
  z21 := Tryz.sizeOf21
  v21 := Tryz.zeroValue21
  t31 := Tryz.underlying139
  a31 := Tryz.isAgg139
  z31 := Tryz.sizeOf139
  v31 := Tryz.zeroValue139
  t46 := Tryz.underlying70
  a46 := Tryz.isAgg70
  z46 := Tryz.sizeOf70
  v46 := Tryz.zeroValue70
  t51 := Tryz.underlying25
  a51 := Tryz.isAgg25
  z51 := Tryz.sizeOf25
  v51 := Tryz.zeroValue25
  t105 := Tryz.underlying268
  a105 := Tryz.isAgg268
  z105 := Tryz.sizeOf268
  v105 := Tryz.zeroValue268
  t119 := Tryz.underlying313
  a119 := Tryz.isAgg313
  z119 := Tryz.sizeOf313
  t138 := Tryz.underlying315
  a138 := Tryz.isAgg315
  z138 := Tryz.sizeOf315
  v138 := Tryz.zeroValue315
  t139 := Tryz.underlying316
  a139 := Tryz.isAgg316
  z139 := Tryz.sizeOf316
  v139 := Tryz.zeroValue316
  t146 := Tryz.underlying265
  a146 := Tryz.isAgg265
  z146 := Tryz.sizeOf265
  v146 := Tryz.zeroValue265
  g1 := by kernel_rfl
  g3 := by kernel_rfl
  g4 := by kernel_rfl }
open Go.RowKit Go.Lib in
theorem Tryz.strings_Split (s sep : ByteArray) (m : Int) (w : World) (hs : s.size < 4294967281) (hm : w.cell? ⟨0, 0, none⟩ = some (.int .i64 m)) (h1 : 1 ≤ sep.size) :
    Calls Tryz.prog 68 #[.string s, .string sep] w fun e w' =>
      e = .returned (.slice (some ⟨w.heap.size, 0, none⟩) (Lib.countB s sep + 1) (Lib.countB s sep + 1)) ∧ w' = w.alloc (.cells ((Lib.splitB sep 0 (Lib.countB s sep) s).map Value.string).toArray 9) := Any.strings_Split Tryz.lays146 (by kernel_rfl) s sep m w hs hm h1
end Go.Proofs
namespace Go.Proofs.YtgebbmfoamkfnaaGreatDoor
open Go.RowKit
set_option linter.unusedVariables false
open Go.Lib (decDigits join)
/-- What Go's library reads of its variables: a length, two errors. -/
structure QV (w : World) : Prop where
  m : ∃ m, w.cell? ⟨0, 0, none⟩ = some (.int .i64 m)
  e1 : ∃ ev, w.cell? ⟨1, 0, none⟩ = some ev ∧ (ev = .nilIface ∨ ∃ te pe, ev = .iface te pe)
  e2 : ∃ ev, w.cell? ⟨2, 0, none⟩ = some ev ∧ (ev = .nilIface ∨ ∃ te pe, ev = .iface te pe)
  size : 2 < w.heap.size
theorem QV.below {w w' : World} (h : QV w) (hb : Below w.heap.size w w') : QV w' := by
  obtain ⟨⟨m, hm⟩, ⟨e1, h1, k1⟩, ⟨e2, h2, k2⟩, hs⟩ := h
  exact ⟨⟨m, (hb.cell (p := ⟨0, 0, none⟩) (show 0 < w.heap.size by omega)).trans hm⟩, ⟨e1, (hb.cell (p := ⟨1, 0, none⟩) (show 1 < w.heap.size by omega)).trans h1, k1⟩, ⟨e2, (hb.cell (p := ⟨2, 0, none⟩) hs).trans h2, k2⟩, Nat.lt_of_lt_of_le hs hb.size⟩
/-- A numeral's value, as Atoi tells it whatever it finds. -/
def atoiV (l : List UInt8) : Int := match Lib.atoiAll l with
  | .ok v => v
  | .range => Lib.atoiSat l
  | _ => 0
theorem atoi_any (s : ByteArray) (w : World) (hs : s.size ≤ 1000) (hv : QV w) : Calls Tryz.prog 69 #[.string s] w fun e w' => (∃ r, e = .returned (.tuple #[.int .i64 (atoiV s.data.toList), r])) ∧ Below w.heap.size w w' := by
  obtain ⟨ev1, c1, k1⟩ := hv.e1
  obtain ⟨ev2, c2, k2⟩ := hv.e2
  have hb0 : ∀ t : ByteArray, Below w.heap.size w (Lib.bytesWorld w 5 t) := fun t => ⟨rfl, rfl, rfl, by rw [Lib.bytesWorld_size]; omega, fun j hj => Lib.bytesWorld_at_old w 5 t j hj⟩
  unfold atoiV
  cases h : Lib.atoiAll s.data.toList
  · rename_i v
    refine (Tryz.strconv_Atoi_ok s (by omega) v h w).mono ?_
    rintro e w' ⟨rfl, hor⟩
    refine ⟨⟨_, rfl⟩, ?_⟩
    rcases hor with rfl | ⟨t, rfl⟩
    · exact Below.refl _ _
    · exact hb0 t
  · refine (Tryz.strconv_Atoi_syntax s (by omega) h ev1 w c1 k1).mono ?_
    rintro e w' ⟨N, rfl, _, _, hb⟩
    exact ⟨⟨_, rfl⟩, hb⟩
  · refine (Tryz.strconv_Atoi_range s (by omega) h ev2 w c2 k2).mono ?_
    rintro e w' ⟨N, rfl, _, _, hb⟩
    exact ⟨⟨_, rfl⟩, hb⟩
/-- The pieces of a text between plus signs. -/
def piecesS (s : ByteArray) : List ByteArray := Lib.splitB ⟨#[43]⟩ 0 (Lib.countB s ⟨#[43]⟩) s
def parseS (s : ByteArray) : Int := foldS ((piecesS s).map fun p => atoiV p.data.toList)
theorem foldS_take {l : List Int} {k : Nat} {x : Int} (h : l[k]? = some x) : foldS (l.take (k + 1)) = sWith (foldS (l.take k)) x := by
  rw [List.take_add_one, h]
  exact foldS_snoc _ _
theorem splitB_le (sep : ByteArray) : ∀ (k : Nat) (s : ByteArray), ∀ p ∈ Lib.splitB sep 0 k s, p.size ≤ s.size
  | 0, s, p, hp => by
    rw [Lib.splitB_zero] at hp
    obtain rfl := List.mem_singleton.1 hp
    exact Nat.le_refl _
  | k + 1, s, p, hp => by
    unfold Lib.splitB at hp
    split at hp
    · obtain rfl := List.mem_singleton.1 hp
      exact Nat.le_refl _
    · rcases List.mem_cons.1 hp with rfl | hp
      · simp [ByteArray.size_extract]
        omega
      · have := splitB_le sep k _ p hp
        rw [ByteArray.size_extract] at this
        omega
theorem withS_any (s n : Int) (w : World) (h0 : 0 ≤ s) (hs : s ≤ 4294967295) : Calls Tryz.prog 18 #[.int .u32 s, .int .i64 n] w fun e w' => e = .returned (.int .u32 (sWith s n)) ∧ w = w' := with_any s n w h0 hs
def canonB (s : ByteArray) : Bool := textS (parseS s) == s.data.toList
def parseV (s : ByteArray) : Int := if canonB s then parseS s else 0
def parseE (s : ByteArray) : Int := if canonB s then 0 else 4
set_option maxRecDepth 100000 in
set_option maxHeartbeats 2000000 in
theorem sParse_any (s : ByteArray) (w : World) (hs : s.size ≤ 1000) (hv : QV w) : Calls Tryz.prog 28 #[.string s] w fun e w' => e = .returned (.tuple #[.int .u32 (parseV s), .int .i64 (parseE s)]) ∧ Below w.heap.size w w' := by
  obtain ⟨m, hm⟩ := hv.m
  obtain ⟨xs, hxs⟩ : ∃ xs, piecesS s = xs := ⟨_, rfl⟩
  obtain ⟨n, hn⟩ : ∃ n, xs.length = n := ⟨_, rfl⟩
  have hall := Lib.splitB_all ⟨#[43]⟩ (by decide) 0 _ s rfl
  have hcn : Lib.countB s ⟨#[43]⟩ + 1 = n := by rw [← hn, ← hxs]; exact hall.symm
  have hnm : n ≤ 1001 := by have := Lib.countB_le ⟨#[43]⟩ (by decide) s.size s (Nat.le_refl _); omega
  obtain ⟨vs, hvs⟩ : ∃ vs, xs.map (fun p => atoiV p.data.toList) = vs := ⟨_, rfl⟩
  have hps : parseS s = foldS vs := by unfold parseS; rw [hxs, hvs]
  have hsp := Tryz.strings_Split s ⟨#[43]⟩ m w (by omega) hm (by decide)
  rw [hcn, show Lib.splitB ⟨#[43]⟩ 0 (Lib.countB s ⟨#[43]⟩) s = xs from hxs] at hsp
  have hsz : ∀ p ∈ xs, p.size ≤ 1000 := fun p hp => Nat.le_trans (splitB_le _ _ s p (by rw [show Lib.splitB ⟨#[43]⟩ 0 (Lib.countB s ⟨#[43]⟩) s = xs from hxs]; exact hp)) hs
  have HSP := Lib.hid hsp
  have HPS := Lib.hid hps
  have HSZ := Lib.hid hsz
  have HQV := Lib.hid hv
  have HN := Lib.hid hn
  have HVS := Lib.hid hvs
  have hbd := fun k => foldS_bd (vs.take k)
  have HBD := Lib.hid hbd
  clear hall hcn hxs hps hsp hsz hv hn hvs hm hbd
  go_enter Tryz.func28, Tryz.ntmps28
  go_wp2_with fail
  refine HSP.out.mono ?_
  rintro e w2 ⟨rfl, rfl⟩
  have hb2 : Below w.heap.size w (w.alloc (.cells (xs.map Value.string).toArray 9)) := by go_grown
  have hc2 : ∀ (k : Nat) (x : ByteArray), xs[k]? = some x → (w.alloc (.cells (xs.map Value.string).toArray 9)).cell? ⟨w.heap.size, k, none⟩ = some (.string x) := fun k x hx => by
    rw [cell_at (heap_alloc_new w _)]
    simp [hx]
  have hl2 : w.heap.size < (w.alloc (.cells (xs.map Value.string).toArray 9)).heap.size := by simp
  have HB2 := Lib.hid hb2
  have HC2 := Lib.hid (And.intro hl2 hc2)
  clear hb2 hc2 hl2
  generalize w.alloc (.cells (xs.map Value.string).toArray 9) = w2 at HB2 HC2 ⊢
  go_wp2_with fail
  go_loopw [4, 12] (fun o i wr => ∃ k : Nat, o = .int .u32 (foldS (vs.take k)) ∧ i = .int .i64 (k : Int) ∧ k ≤ n ∧ Below w2.heap.size w2 wr) (fun _ i _ => n - (intOf i).toNat)
  case atStart => exact ⟨0, rfl, rfl, Nat.zero_le _, Below.refl _ _⟩
  case round =>
    obtain ⟨k, rfl, rfl, hk, hb⟩ := hrel
    obtain ⟨b0, b1⟩ := HBD.out k
    by_cases hlt : k < n
    · obtain ⟨x, hx⟩ : ∃ x, xs[k]? = some x := ⟨_, List.getElem?_eq_getElem (by rw [HN.out]; exact hlt)⟩
      have x0 := (hb.cell (p := ⟨w.heap.size, k, none⟩) HC2.out.1).trans (HC2.out.2 k x hx)
      have hvk : vs[k]? = some (atoiV x.data.toList) := by rw [← HVS.out, List.getElem?_map, hx]; rfl
      have HAT := Lib.hid (atoi_any x wr (HSZ.out x (List.mem_of_getElem? hx)) (HQV.out.below (HB2.out.trans (hb.mono HB2.out.size))))
      have HVK := Lib.hid (foldS_take hvk)
      have HB := Lib.hid hb
      have g0 : (0 : Int) ≤ (k : Int) := by omega
      have g1 : (k : Int) < (n : Int) := by omega
      obtain ⟨acc, hacc⟩ : ∃ acc, foldS (vs.take k) = acc := ⟨_, rfl⟩
      rw [hacc] at HVK b0 b1 ⊢
      obtain ⟨v, hvv⟩ : ∃ v, atoiV x.data.toList = v := ⟨_, rfl⟩
      rw [hvv] at HVK HAT
      clear hx hvk hb hacc hvv
      go_wp2_with fail
      refine HAT.out.mono ?_
      rintro e w5 ⟨⟨r, rfl⟩, hb5⟩
      have HB5 := Lib.hid (HB.out.trans (hb5.mono HB.out.size))
      clear hb5 x0
      go_wp2_with fail
      refine (withS_any acc v _ b0 b1).mono ?_
      rintro e w6 ⟨rfl, rfl⟩
      go_wp2_with fail
      go_roundw
      case rel => exact ⟨k + 1, by rw [HVK.out], by go_num, by omega, HB5.out⟩
      case measure => simp [intOf]; omega
    · obtain rfl : k = n := by omega
      have hvl : vs.length = k := by rw [← HVS.out, List.length_map]; exact HN.out
      have hfull : vs.take k = vs := by rw [← hvl, List.take_length]
      rw [hfull] at b0 b1 ⊢
      have HPS2 := HPS
      obtain ⟨acc, hacc⟩ : ∃ acc, foldS vs = acc := ⟨_, rfl⟩
      rw [hacc] at b0 b1 HPS2 ⊢
      have HTX := Lib.hid (sText_any acc wr b0 b1)
      have HB := Lib.hid (HB2.out.trans (hb.mono HB2.out.size))
      clear hfull hacc hb hvl
      have tl : ∀ l : List UInt8, (⟨l.toArray⟩ : ByteArray).toList = l := fun l => by rw [ByteArray.toList_eq]
      by_cases hc : textS acc = s.data.toList
      · have f1 : (textS acc == s.toList) = true := by rw [ByteArray.toList_eq, hc]; simp
        have HCB : Hid (canonB s = true) := Lib.hid (by unfold canonB; rw [HPS2.out, hc]; simp)
        clear hc tl
        go_wp2_with fail
        refine HTX.out.mono ?_
        rintro e w5 ⟨rfl, hb5⟩
        have HB5 := Lib.hid (HB.out.trans (hb5.mono HB.out.size))
        clear hb5
        go_wp2_with fail
        go_returns
        exact ⟨by rw [show parseV s = acc by unfold parseV; rw [HCB.out, HPS2.out]; rfl, show parseE s = 0 by unfold parseE; rw [HCB.out]; rfl]; rfl, HB5.out⟩
      · have f1 : (textS acc == s.toList) = false := by rw [ByteArray.toList_eq]; simpa using hc
        have HCB : Hid (canonB s = false) := Lib.hid (by unfold canonB; rw [HPS2.out]; simpa using hc)
        clear hc tl
        go_wp2_with fail
        refine HTX.out.mono ?_
        rintro e w5 ⟨rfl, hb5⟩
        have HB5 := Lib.hid (HB.out.trans (hb5.mono HB.out.size))
        clear hb5
        go_wp2_with fail
        go_returns
        exact ⟨by rw [show parseV s = 0 by unfold parseV; rw [HCB.out]; rfl, show parseE s = 4 by unfold parseE; rw [HCB.out]; rfl]; rfl, HB5.out⟩
end Go.Proofs.YtgebbmfoamkfnaaGreatDoor
