/- Contracts of Go's library at this translation, laid by the kit's tool. -/
import Derived.Shelf.Strings.Builder1
import Derived.Shelf.Strings.Builder2
import Derived.Shelf.Strings.BuilderF
import Derived.Shelf.Strings.BuilderK
import Derived.Shelf.Strings.Builder2Cap
import Derived.Shelf.Strings.Prefix
import Derived.Shelf.Bits.Mul64
import Derived.Shelf.Strings.Repeat
import Derived.Shelf.Strings.BuilderCap
import Derived.Test.YtoadihebdaooaaaGreatProg
namespace Go.Proofs
open Go.Shelf
def Tryz.lays170_ren : Go.Shelf.Ren := ⟨fun | 170 => 108 | n => n, fun | 70 => 191 | 3 => 3 | 0 => 0 | 72 => 194 | 37 => 192 | 5 => 5 | n => n, fun | n => n⟩
theorem Tryz.lays170 : Go.Proofs.Lays.n170 Tryz.prog Tryz.lays170_ren := {
  mixed := by kernel_rfl
  f170 := Tryz.func108.trans (congrArg some (by kernel_rfl))
  t0 := Tryz.underlying0
  a0 := Tryz.isAgg0
  z0 := Tryz.sizeOf0
  v0 := Tryz.zeroValue0
  t3 := Tryz.underlying3
  a3 := Tryz.isAgg3
  z3 := Tryz.sizeOf3
  v3 := Tryz.zeroValue3
  t37 := Tryz.underlying192
  a37 := Tryz.isAgg192
  z37 := Tryz.sizeOf192
  v37 := Tryz.zeroValue192
  t70 := Tryz.underlying191
  a70 := Tryz.isAgg191
  z70 := Tryz.sizeOf191
  v70 := Tryz.zeroValue191
  t72 := Tryz.underlying194
  a72 := Tryz.isAgg194
  z72 := Tryz.sizeOf194
  v72 := Tryz.zeroValue194 }
def Tryz.lays169_ren : Go.Shelf.Ren := ⟨fun | 169 => 110 | n => n, fun | 70 => 191 | 9 => 9 | 0 => 0 | 72 => 194 | 37 => 192 | 127 => 238 | 3 => 3 | 5 => 5 | n => n, fun | n => n⟩
theorem Tryz.lays169 : Go.Proofs.Lays.n169 Tryz.prog Tryz.lays169_ren := {
  mixed := by kernel_rfl
  f169 := Tryz.func110.trans (congrArg some (by kernel_rfl))
  t0 := Tryz.underlying0
  a0 := Tryz.isAgg0
  z0 := Tryz.sizeOf0
  v0 := Tryz.zeroValue0
  t3 := Tryz.underlying3
  a3 := Tryz.isAgg3
  z3 := Tryz.sizeOf3
  v3 := Tryz.zeroValue3
  t9 := Tryz.underlying9
  a9 := Tryz.isAgg9
  z9 := Tryz.sizeOf9
  v9 := Tryz.zeroValue9
  t37 := Tryz.underlying192
  a37 := Tryz.isAgg192
  z37 := Tryz.sizeOf192
  v37 := Tryz.zeroValue192
  t70 := Tryz.underlying191
  a70 := Tryz.isAgg191
  z70 := Tryz.sizeOf191
  v70 := Tryz.zeroValue191
  t72 := Tryz.underlying194
  a72 := Tryz.isAgg194
  z72 := Tryz.sizeOf194
  v72 := Tryz.zeroValue194
  t127 := Tryz.underlying238
  a127 := Tryz.isAgg238
  z127 := Tryz.sizeOf238
  v127 := Tryz.zeroValue238 }
theorem Tryz.Builder_Extra_169 : Builder.Extra Tryz.prog Tryz.lays169_ren := {
  sizeBuilder := by kernel_rfl
  liesBuilder := by kernel_rfl
  t5 := Tryz.underlying5
  a5 := Tryz.isAgg5
  z5 := Tryz.sizeOf5
  v5 := Tryz.zeroValue5
  infoByte := by kernel_rfl
  cellsByte := by kernel_rfl
  sizeByte := by kernel_rfl
  neB5 := by decide }
open Go.RowKit in
theorem Tryz.Builder_Len_f (B b : Nat) (bs : List Value) (w : World) (h : Lib.IsBuilderF 194 5 B b bs w) :
    Calls Tryz.prog 108 #[.pointer (some ⟨b, 0, none⟩)] w fun e w' => e = .returned (.int .i64 bs.length) ∧ w' = w := Any.Builder_Len_f Tryz.lays170 B b bs w h
open Go.RowKit in
theorem Tryz.Builder_String_any_k (B b : Nat) (l : List UInt8) (w : World) (h : Lib.IsBuilderF 194 5 B b (Lib.byteCells l) w) (hBw : B ≤ w.heap.size) :
    Calls Tryz.prog 110 #[.pointer (some ⟨b, 0, none⟩)] w fun e w' => e = .returned (.string ⟨l.toArray⟩) ∧ (Lib.IsBuilderF 194 5 B b (Lib.byteCells l) w' ∧ Below B w w' ∧ Lib.OthersKept 5 (some b) w w') := Any.Builder_String_any_k Tryz.lays169 Tryz.Builder_Extra_169 B b l w h hBw
def Tryz.lays105_ren : Go.Shelf.Ren := ⟨fun | 105 => 107 | 212 => 139 | 99 => 140 | 165 => 141 | 166 => 106 | 170 => 108 | 169 => 110 | 263 => 162 | 264 => 163 | 206 => 164 | 240 => 138 | 241 => 165 | 276 => 161 | 277 => 177 | n => n, fun | 9 => 9 | 3 => 3 | 4 => 4 | 20 => 20 | 0 => 0 | 46 => 68 | 109 => 229 | 5 => 5 | 72 => 194 | 76 => 197 | 51 => 34 | 146 => 254 | 53 => 60 | 148 => 256 | 70 => 191 | 37 => 192 | 75 => 196 | 127 => 238 | 164 => 252 | 80 => 202 | n => n, fun | n => n⟩
theorem Tryz.lays105 : Go.Proofs.Lays.n105 Tryz.prog Tryz.lays105_ren := {
  mixed := by kernel_rfl
  f99 := Tryz.func140.trans (congrArg some (by kernel_rfl))
  f105 := Tryz.func107.trans (congrArg some (by kernel_rfl))
  f165 := Tryz.func141.trans (congrArg some (by kernel_rfl))
  f166 := Tryz.func106.trans (congrArg some (by kernel_rfl))
  f169 := Tryz.func110.trans (congrArg some (by kernel_rfl))
  f170 := Tryz.func108.trans (congrArg some (by kernel_rfl))
  f206 := Tryz.func164.trans (congrArg some (by kernel_rfl))
  f212 := Tryz.func139.trans (congrArg some (by kernel_rfl))
  f240 := Tryz.func138.trans (congrArg some (by kernel_rfl))
  f241 := Tryz.func165.trans (congrArg some (by kernel_rfl))
  f263 := Tryz.func162.trans (congrArg some (by kernel_rfl))
  f264 := Tryz.func163.trans (congrArg some (by kernel_rfl))
  f276 := Tryz.func161.trans (congrArg some (by kernel_rfl))
  f277 := Tryz.func177.trans (congrArg some (by kernel_rfl))
  t0 := Tryz.underlying0
  a0 := Tryz.isAgg0
  z0 := Tryz.sizeOf0
  v0 := Tryz.zeroValue0
  t3 := Tryz.underlying3
  a3 := Tryz.isAgg3
  z3 := Tryz.sizeOf3
  v3 := Tryz.zeroValue3
  t4 := Tryz.underlying4
  a4 := Tryz.isAgg4
  z4 := Tryz.sizeOf4
  v4 := Tryz.zeroValue4
  t5 := Tryz.underlying5
  a5 := Tryz.isAgg5
  z5 := Tryz.sizeOf5
  v5 := Tryz.zeroValue5
  t9 := Tryz.underlying9
  a9 := Tryz.isAgg9
  z9 := Tryz.sizeOf9
  v9 := Tryz.zeroValue9
  t20 := Tryz.underlying20
  a20 := Tryz.isAgg20
  z20 := Tryz.sizeOf20
  v20 := Tryz.zeroValue20
  t37 := Tryz.underlying192
  a37 := Tryz.isAgg192
  z37 := Tryz.sizeOf192
  v37 := Tryz.zeroValue192
  t46 := Tryz.underlying68
  a46 := Tryz.isAgg68
  z46 := Tryz.sizeOf68
  v46 := Tryz.zeroValue68
  t51 := Tryz.underlying34
  a51 := Tryz.isAgg34
  z51 := Tryz.sizeOf34
  v51 := Tryz.zeroValue34
  t53 := Tryz.underlying60
  a53 := Tryz.isAgg60
  z53 := Tryz.sizeOf60
  v53 := Tryz.zeroValue60
  t70 := Tryz.underlying191
  a70 := Tryz.isAgg191
  z70 := Tryz.sizeOf191
  v70 := Tryz.zeroValue191
  t72 := Tryz.underlying194
  a72 := Tryz.isAgg194
  z72 := Tryz.sizeOf194
  v72 := Tryz.zeroValue194
  t75 := Tryz.underlying196
  a75 := Tryz.isAgg196
  z75 := Tryz.sizeOf196
  v75 := Tryz.zeroValue196
  t76 := Tryz.underlying197
  a76 := Tryz.isAgg197
  z76 := Tryz.sizeOf197
  v76 := Tryz.zeroValue197
  t109 := Tryz.underlying229
  a109 := Tryz.isAgg229
  z109 := Tryz.sizeOf229
  v109 := Tryz.zeroValue229
  t127 := Tryz.underlying238
  a127 := Tryz.isAgg238
  z127 := Tryz.sizeOf238
  v127 := Tryz.zeroValue238
  t146 := Tryz.underlying254
  a146 := Tryz.isAgg254
  z146 := Tryz.sizeOf254
  v146 := Tryz.zeroValue254
  t148 := Tryz.underlying256
  a148 := Tryz.isAgg256
  z148 := Tryz.sizeOf256
  v148 := Tryz.zeroValue256
  t164 := Tryz.underlying252
  a164 := Tryz.isAgg252
  z164 := Tryz.sizeOf252
  v164 := Tryz.zeroValue252 }
theorem Tryz.Builder_Extra_105 : Builder.Extra Tryz.prog Tryz.lays105_ren := {
  sizeBuilder := by kernel_rfl
  liesBuilder := by kernel_rfl
  t5 := Tryz.underlying5
  a5 := Tryz.isAgg5
  z5 := Tryz.sizeOf5
  v5 := Tryz.zeroValue5
  infoByte := by kernel_rfl
  cellsByte := by kernel_rfl
  sizeByte := by kernel_rfl
  neB5 := by decide }
open Go.RowKit Go.Lib in
theorem Tryz.strings_Repeat (s : ByteArray) (c : Nat) (w : World) (hc : c ≤ 9223372036854775807) (hlen : s.size * c ≤ 140737488355328) :
    Calls Tryz.prog 107 #[.string s, .int .i64 c] w fun e w' => e = .returned (.string ⟨(Lib.repeatL s.data.toList c).toArray⟩) ∧ Below w.heap.size w w' := Any.strings_Repeat Tryz.lays105 Tryz.Builder_Extra_105 s c w hc hlen
open Go.RowKit in
theorem Tryz.Builder_WriteString_k (B b : Nat) (bs : List Value) (s : ByteArray) (w : World) (h : Lib.IsBuilderF 194 5 B b bs w) (hlen : bs.length + s.size ≤ 140737488355328) (hBw : B ≤ w.heap.size) :
    Calls Tryz.prog 106 #[.pointer (some ⟨b, 0, none⟩), .string s] w fun e w' => e = .returned (.tuple #[.int .i64 s.size, .nilIface]) ∧ (Lib.BuilderAtF 194 5 B b (.pointer (some ⟨b, 0, none⟩)) (bs ++ Lib.strCells s) w' ∧ Below B w w' ∧ Lib.OthersKept 5 (some b) w w') :=
  Any.Builder_WriteString_k { Tryz.lays105 with } Tryz.Builder_Extra_105 B b bs s w h hlen hBw
end Go.Proofs
