/- Contracts of Go's library at this translation, laid by the kit's tool. · Contracts of layout.Pack and its closure. · Columns with rows: how they lie; cell, check, Get. · Columns with rows: Append. · Contract of column.Append. · Contracts of column.Swap and Set. -/
import Derived.Shelf.Strings.Builder1
import Derived.Shelf.Strings.Builder2
import Derived.Shelf.Strings.BuilderF
import Derived.Shelf.Strings.BuilderK
import Derived.Shelf.Strings.Builder2Cap
import Derived.Shelf.Strings.Prefix
import Derived.Shelf.Bits.Mul64
import Derived.Shelf.Strings.Repeat
import Derived.Shelf.Strings.BuilderCap
import Derived.Test.YtoadihebdaooaaaGreatProg
import Derived.Test.YtoadihebdaooaaaGreatQ4
import Derived.Lib.BufferWrite
import Derived.Deep.DeepCutAuto
import Derived.Lib.SlBuf
import Derived.Deep.RegionHeld3
import Derived.Deep.AppendLies
import Derived.Deep.RegionLaw
namespace Go.Proofs
open Go.Shelf
def Tryz.lays170_ren : Go.Shelf.Ren := ⟨fun | 170 => 108 | n => n, fun | 70 => 191 | 3 => 3 | 0 => 0 | 72 => 194 | 37 => 192 | 5 => 5 | n => n, fun | n => n⟩
theorem Tryz.lays170 : Go.Proofs.Lays.n170 Tryz.prog Tryz.lays170_ren := {
  mixed := by kernel_rfl
  f170 := Tryz.func108.trans (congrArg some (by kernel_rfl))
  t0 := Tryz.underlying0
  a0 := Tryz.isAgg0
  z0 := Tryz.sizeOf0
  v0 := Tryz.zeroValue0
  t3 := Tryz.underlying3
  a3 := Tryz.isAgg3
  z3 := Tryz.sizeOf3
  v3 := Tryz.zeroValue3
  t37 := Tryz.underlying192
  a37 := Tryz.isAgg192
  z37 := Tryz.sizeOf192
  v37 := Tryz.zeroValue192
  t70 := Tryz.underlying191
  a70 := Tryz.isAgg191
  z70 := Tryz.sizeOf191
  v70 := Tryz.zeroValue191
  t72 := Tryz.underlying194
  a72 := Tryz.isAgg194
  z72 := Tryz.sizeOf194
  v72 := Tryz.zeroValue194 }
def Tryz.lays169_ren : Go.Shelf.Ren := ⟨fun | 169 => 110 | n => n, fun | 70 => 191 | 9 => 9 | 0 => 0 | 72 => 194 | 37 => 192 | 127 => 238 | 3 => 3 | 5 => 5 | n => n, fun | n => n⟩
theorem Tryz.lays169 : Go.Proofs.Lays.n169 Tryz.prog Tryz.lays169_ren := {
  mixed := by kernel_rfl
  f169 := Tryz.func110.trans (congrArg some (by kernel_rfl))
  t0 := Tryz.underlying0
  a0 := Tryz.isAgg0
  z0 := Tryz.sizeOf0
  v0 := Tryz.zeroValue0
  t3 := Tryz.underlying3
  a3 := Tryz.isAgg3
  z3 := Tryz.sizeOf3
  v3 := Tryz.zeroValue3
  t9 := Tryz.underlying9
  a9 := Tryz.isAgg9
  z9 := Tryz.sizeOf9
  v9 := Tryz.zeroValue9
  t37 := Tryz.underlying192
  a37 := Tryz.isAgg192
  z37 := Tryz.sizeOf192
  v37 := Tryz.zeroValue192
  t70 := Tryz.underlying191
  a70 := Tryz.isAgg191
  z70 := Tryz.sizeOf191
  v70 := Tryz.zeroValue191
  t72 := Tryz.underlying194
  a72 := Tryz.isAgg194
  z72 := Tryz.sizeOf194
  v72 := Tryz.zeroValue194
  t127 := Tryz.underlying238
  a127 := Tryz.isAgg238
  z127 := Tryz.sizeOf238
  v127 := Tryz.zeroValue238 }
theorem Tryz.Builder_Extra_169 : Builder.Extra Tryz.prog Tryz.lays169_ren := {
  sizeBuilder := by kernel_rfl
  liesBuilder := by kernel_rfl
  t5 := Tryz.underlying5
  a5 := Tryz.isAgg5
  z5 := Tryz.sizeOf5
  v5 := Tryz.zeroValue5
  infoByte := by kernel_rfl
  cellsByte := by kernel_rfl
  sizeByte := by kernel_rfl
  neB5 := by decide }
open Go.RowKit in
theorem Tryz.Builder_Len_f (B b : Nat) (bs : List Value) (w : World) (h : Lib.IsBuilderF 194 5 B b bs w) :
    Calls Tryz.prog 108 #[.pointer (some ⟨b, 0, none⟩)] w fun e w' => e = .returned (.int .i64 bs.length) ∧ w' = w := Any.Builder_Len_f Tryz.lays170 B b bs w h
open Go.RowKit in
theorem Tryz.Builder_String_any_k (B b : Nat) (l : List UInt8) (w : World) (h : Lib.IsBuilderF 194 5 B b (Lib.byteCells l) w) (hBw : B ≤ w.heap.size) :
    Calls Tryz.prog 110 #[.pointer (some ⟨b, 0, none⟩)] w fun e w' => e = .returned (.string ⟨l.toArray⟩) ∧ (Lib.IsBuilderF 194 5 B b (Lib.byteCells l) w' ∧ Below B w w' ∧ Lib.OthersKept 5 (some b) w w') := Any.Builder_String_any_k Tryz.lays169 Tryz.Builder_Extra_169 B b l w h hBw
def Tryz.lays105_ren : Go.Shelf.Ren := ⟨fun | 105 => 107 | 212 => 139 | 99 => 140 | 165 => 141 | 166 => 106 | 170 => 108 | 169 => 110 | 263 => 162 | 264 => 163 | 206 => 164 | 240 => 138 | 241 => 165 | 276 => 161 | 277 => 177 | n => n, fun | 9 => 9 | 3 => 3 | 4 => 4 | 20 => 20 | 0 => 0 | 46 => 68 | 109 => 229 | 5 => 5 | 72 => 194 | 76 => 197 | 51 => 34 | 146 => 254 | 53 => 60 | 148 => 256 | 70 => 191 | 37 => 192 | 75 => 196 | 127 => 238 | 164 => 252 | 80 => 202 | n => n, fun | n => n⟩
theorem Tryz.lays105 : Go.Proofs.Lays.n105 Tryz.prog Tryz.lays105_ren := {
  mixed := by kernel_rfl
  f99 := Tryz.func140.trans (congrArg some (by kernel_rfl))
  f105 := Tryz.func107.trans (congrArg some (by kernel_rfl))
  f165 := Tryz.func141.trans (congrArg some (by kernel_rfl))
  f166 := Tryz.func106.trans (congrArg some (by kernel_rfl))
  f169 := Tryz.func110.trans (congrArg some (by kernel_rfl))
  f170 := Tryz.func108.trans (congrArg some (by kernel_rfl))
  f206 := Tryz.func164.trans (congrArg some (by kernel_rfl))
  f212 := Tryz.func139.trans (congrArg some (by kernel_rfl))
  f240 := Tryz.func138.trans (congrArg some (by kernel_rfl))
  f241 := Tryz.func165.trans (congrArg some (by kernel_rfl))
  f263 := Tryz.func162.trans (congrArg some (by kernel_rfl))
  f264 := Tryz.func163.trans (congrArg some (by kernel_rfl))
  f276 := Tryz.func161.trans (congrArg some (by kernel_rfl))
  f277 := Tryz.func177.trans (congrArg some (by kernel_rfl))
  t0 := Tryz.underlying0
  a0 := Tryz.isAgg0
  z0 := Tryz.sizeOf0
  v0 := Tryz.zeroValue0
  t3 := Tryz.underlying3
  a3 := Tryz.isAgg3
  z3 := Tryz.sizeOf3
  v3 := Tryz.zeroValue3
  t4 := Tryz.underlying4
  a4 := Tryz.isAgg4
  z4 := Tryz.sizeOf4
  v4 := Tryz.zeroValue4
  t5 := Tryz.underlying5
  a5 := Tryz.isAgg5
  z5 := Tryz.sizeOf5
  v5 := Tryz.zeroValue5
  t9 := Tryz.underlying9
  a9 := Tryz.isAgg9
  z9 := Tryz.sizeOf9
  v9 := Tryz.zeroValue9
  t20 := Tryz.underlying20
  a20 := Tryz.isAgg20
  z20 := Tryz.sizeOf20
  v20 := Tryz.zeroValue20
  t37 := Tryz.underlying192
  a37 := Tryz.isAgg192
  z37 := Tryz.sizeOf192
  v37 := Tryz.zeroValue192
  t46 := Tryz.underlying68
  a46 := Tryz.isAgg68
  z46 := Tryz.sizeOf68
  v46 := Tryz.zeroValue68
  t51 := Tryz.underlying34
  a51 := Tryz.isAgg34
  z51 := Tryz.sizeOf34
  v51 := Tryz.zeroValue34
  t53 := Tryz.underlying60
  a53 := Tryz.isAgg60
  z53 := Tryz.sizeOf60
  v53 := Tryz.zeroValue60
  t70 := Tryz.underlying191
  a70 := Tryz.isAgg191
  z70 := Tryz.sizeOf191
  v70 := Tryz.zeroValue191
  t72 := Tryz.underlying194
  a72 := Tryz.isAgg194
  z72 := Tryz.sizeOf194
  v72 := Tryz.zeroValue194
  t75 := Tryz.underlying196
  a75 := Tryz.isAgg196
  z75 := Tryz.sizeOf196
  v75 := Tryz.zeroValue196
  t76 := Tryz.underlying197
  a76 := Tryz.isAgg197
  z76 := Tryz.sizeOf197
  v76 := Tryz.zeroValue197
  t109 := Tryz.underlying229
  a109 := Tryz.isAgg229
  z109 := Tryz.sizeOf229
  v109 := Tryz.zeroValue229
  t127 := Tryz.underlying238
  a127 := Tryz.isAgg238
  z127 := Tryz.sizeOf238
  v127 := Tryz.zeroValue238
  t146 := Tryz.underlying254
  a146 := Tryz.isAgg254
  z146 := Tryz.sizeOf254
  v146 := Tryz.zeroValue254
  t148 := Tryz.underlying256
  a148 := Tryz.isAgg256
  z148 := Tryz.sizeOf256
  v148 := Tryz.zeroValue256
  t164 := Tryz.underlying252
  a164 := Tryz.isAgg252
  z164 := Tryz.sizeOf252
  v164 := Tryz.zeroValue252 }
theorem Tryz.Builder_Extra_105 : Builder.Extra Tryz.prog Tryz.lays105_ren := {
  sizeBuilder := by kernel_rfl
  liesBuilder := by kernel_rfl
  t5 := Tryz.underlying5
  a5 := Tryz.isAgg5
  z5 := Tryz.sizeOf5
  v5 := Tryz.zeroValue5
  infoByte := by kernel_rfl
  cellsByte := by kernel_rfl
  sizeByte := by kernel_rfl
  neB5 := by decide }
open Go.RowKit Go.Lib in
theorem Tryz.strings_Repeat (s : ByteArray) (c : Nat) (w : World) (hc : c ≤ 9223372036854775807) (hlen : s.size * c ≤ 140737488355328) :
    Calls Tryz.prog 107 #[.string s, .int .i64 c] w fun e w' => e = .returned (.string ⟨(Lib.repeatL s.data.toList c).toArray⟩) ∧ Below w.heap.size w w' := Any.strings_Repeat Tryz.lays105 Tryz.Builder_Extra_105 s c w hc hlen
open Go.RowKit in
theorem Tryz.Builder_WriteString_k (B b : Nat) (bs : List Value) (s : ByteArray) (w : World) (h : Lib.IsBuilderF 194 5 B b bs w) (hlen : bs.length + s.size ≤ 140737488355328) (hBw : B ≤ w.heap.size) :
    Calls Tryz.prog 106 #[.pointer (some ⟨b, 0, none⟩), .string s] w fun e w' => e = .returned (.tuple #[.int .i64 s.size, .nilIface]) ∧ (Lib.BuilderAtF 194 5 B b (.pointer (some ⟨b, 0, none⟩)) (bs ++ Lib.strCells s) w' ∧ Below B w w' ∧ Lib.OthersKept 5 (some b) w w') :=
  Any.Builder_WriteString_k { Tryz.lays105 with } Tryz.Builder_Extra_105 B b bs s w h hlen hBw
end Go.Proofs
namespace Go.Proofs.YtoadihebdaooaaaGreat
open Go.RowKit
set_option linter.unusedVariables false
theorem builder_below {T e : TypeId} {B b : Nat} {bs : List Value} {w w' : World} (h : Lib.IsBuilderF T e B b bs w) (hb : Below w.heap.size w w') : Lib.IsBuilderF T e B b bs w' := by
  rcases h with ⟨h1, v, h2, h3, h4⟩ | ⟨h1, v, h2, h3, h4⟩
  · exact .inl ⟨h1, v, keep hb h2, h3.kept (grownOf hb none) (by cases v.ownBlock <;> simp), h4⟩
  · exact .inr ⟨h1, v, keep hb h2, h3.kept (grownOf hb none) (by cases v.ownBlock <;> simp), h4⟩
theorem othersOf {e : TypeId} {b : Option Nat} {w w' : World} (hb : Below w.heap.size w w') : Lib.OthersKept e b w w' := fun _ _ hk _ _ => keep hb hk
theorem ret_si {l l' : List UInt8} {a b : Int} (h1 : l = l') (h2 : a = b) : Ending.returned (.tuple #[.string ⟨l.toArray⟩, .int .i64 a]) = .returned (.tuple #[.string ⟨l'.toArray⟩, .int .i64 b]) := by rw [h1, h2]
theorem strCells_bytes (l : List UInt8) : Lib.strCells ⟨l.toArray⟩ = Lib.byteCells l := rfl
theorem repeatL_zero (c : Nat) : Lib.repeatL [0] c = List.replicate c 0 := by
  induction c with
  | zero => rfl
  | succ c ih => rw [Lib.repeatL, ih, List.replicate_succ]; rfl
set_option maxRecDepth 100000 in
theorem pad_any (B b : Nat) (l : List UInt8) (n : Nat) (w : World) (h : Lib.IsBuilderF 194 5 B b (Lib.byteCells l) w) (hle : l.length ≤ n) (h1 : n ≤ 100000) (hBw : B ≤ w.heap.size) :
    Calls Tryz.prog 105 #[.int .i64 (n : Int), .pointer (some ⟨b, 0, none⟩)] w fun e w' => e = .returned (.tuple #[]) ∧ Lib.IsBuilderF 194 5 B b (Lib.byteCells (padB l n)) w' ∧ Below B w w' ∧ Lib.OthersKept 5 (some b) w w' := by
  have HL := Lib.hid (Lib.byteCells_length l)
  have HH := Lib.hid h
  clear h
  go_enter Tryz.func105, Tryz.ntmps105
  go_wp2_with fail
  refine (Tryz.Builder_Len_f B b _ _ HH.out).mono ?_
  rintro e w' ⟨rfl, rfl⟩
  rw [HL.out]
  have hw1 : IntKind.i64.wrap ((n : Int) - (l.length : Int)) = ((n - l.length : Nat) : Int) := by rw [IntWalk.i64_in _ (by omega)]; omega
  obtain ⟨d, hd⟩ : ∃ d, n - l.length = d := ⟨_, rfl⟩
  rw [hd] at hw1
  have HD := Lib.hid hd
  clear hd
  go_wp2_with fail
  have hd' := HD.out
  refine (Tryz.strings_Repeat ⟨#[0]⟩ d _ (by omega) (by show 1 * d ≤ _; omega)).mono ?_
  rintro e w2 ⟨rfl, hb2⟩
  have hz := hb2.size
  have hh2 : Lib.IsBuilderF 194 5 B b (Lib.byteCells l) w2 := builder_below HH.out hb2
  go_wp2_with fail
  refine (Tryz.Builder_WriteString_k B b _ _ _ hh2 (by rw [HL.out]; show l.length + (Lib.repeatL [0] d).toArray.size ≤ _; rw [repeatL_zero]; simp; omega) (by omega)).mono ?_
  rintro e w3 ⟨rfl, hb3, hbel, hok⟩
  have HB3 := Lib.hid hb3
  have HBEL := Lib.hid hbel
  have HOK := Lib.hid hok
  clear hb3 hbel hh2 hok
  go_wp2_with fail
  go_end0
  refine ⟨rfl, ?_, hb2.mono hBw |>.trans HBEL.out, (othersOf hb2).trans HOK.out⟩
  refine .inr ?_
  have := HB3.out
  rw [repeatL_zero, strCells_bytes, ← Lib.byteCells_append] at this
  unfold padB
  rw [HD.out]
  exact this
theorem keepB {B : Nat} {w w' : World} {b : Nat} {o : Obj} (hb : Below B w w') (h : w.heap[b]? = some o) (hk : b < B) : w'.heap[b]? = some o := (hb.block b hk).trans h
theorem fit_zero {fs : List Fld} {val : List WI} (h : fitF fs val = 0) : layCheck fs = 0 ∧ val.length = cnt fs ∧ fitGo fs val = 0 := by
  unfold fitF at h
  split at h
  · contradiction
  · rename_i h1
    split at h
    · cases h
    · rename_i h2
      exact ⟨by simpa using h1, by simpa using h2, h⟩
theorem fitGo_at : ∀ (fs : List Fld) (val : List WI) (k : Nat) (f : Fld), fitGo fs val = 0 → fs[k]? = some f → ((val.drop (cnt (fs.take k))).take f.count.toNat).all (fitsF f.kind) = true
  | [], _, _, _, _, h => by simp at h
  | g :: r, val, 0, f, h0, h => by
    simp at h
    subst h
    unfold fitGo at h0
    split at h0
    · rename_i hg; simpa [cnt] using hg
    · cases h0
  | g :: r, val, k + 1, f, h0, h => by
    unfold fitGo at h0
    split at h0
    · have := fitGo_at r _ k f h0 (by simpa using h)
      rw [List.drop_drop] at this
      rw [List.take_succ_cons, cnt_cons]
      exact this
    · cases h0
/-- The plan, kept in memory. -/
structure PlanAt (fs : List Fld) (pb : Nat) (q : Nat) (n vc : Nat) (w : World) : Prop where
  blk : w.heap[pb]? = some (.cells #[.int .i64 (planSize fs), .slice (some ⟨q, 0, none⟩) n vc] 154 (0, 0))
  at_ : ∀ (k : Nat) (u : Int), (planF fs).1[k]? = some u → w.cell? ⟨q, k, none⟩ = some (.int .i64 u)
set_option maxRecDepth 100000 in
set_option maxHeartbeats 2000000 in
theorem pack_ok (fs : List Fld) (a : Option Addr) (len cap : Nat) (va : Option Addr) (vl vc : Nat) (val : List WI) (w : World) (hfs : FieldsAt w.heap.size w a len fs) (hc : len ≤ cap) (hv : IntsAt w.heap.size w va vl vc val) (hfit : fitF fs val = 0) :
    Calls Tryz.prog 68 #[.slice a len cap, .slice va vl vc] w fun e w' => e = .returned (.tuple #[.string ⟨(packF fs val).toArray⟩, .int .i64 0]) ∧ Below w.heap.size w w' := by
  have hmx : len ≤ maxLen := hfs.2.1
  have hlen := hfs.1
  have hvl := hv.1
  obtain ⟨hl, hcn, hgo⟩ := fit_zero hfit
  obtain ⟨h8, hall, h256⟩ := layCheck_zero hl
  have hcl := cnt_le fs hall
  unfold maxLen at hmx
  have HFS := Lib.hid hfs
  have HV := Lib.hid hv
  have HLN := Lib.hid hlen
  have HVL := Lib.hid hvl
  have HFIT := Lib.hid hfit
  have HLC := Lib.hid hl
  have HCN := Lib.hid hcn
  have HGO := Lib.hid hgo
  have HA := Lib.hid hall
  clear hfs hv hlen hvl hfit hl hcn hgo hall
  go_enter Tryz.func68, Tryz.ntmps68
  go_wp2_with fail
  refine (fit_any fs _ _ _ _ _ _ val _ HFS.out hc HV.out).mono ?_
  rintro e w1 ⟨rfl, hb1⟩
  rw [HFIT.out]
  go_wp2_with fail
  refine (plan_any fs _ _ _ _ ((HFS.out.below hb1).mono (by have := hb1.size; omega)) (by have := HLN.out; omega) (fun f hf => by have h := HA.out; rw [List.all_eq_true] at h; have := fldOk_bd (h f hf); omega)).mono ?_
  rintro e w2 ⟨pa, pc, rfl, hprow, hb2⟩
  go_wp2_with fail
  have hP := keepA (.cells #[.pointer none, .slice none 0 0] 194) (heap_alloc_new w2 (.cells #[.int .i64 (planSize fs), .slice pa len pc] 154))
  have hI := Lib.IsBuilderF.of (Lib.fresh_isBuilder 194 5 (w2.alloc (.cells #[.int .i64 (planSize fs), .slice pa len pc] 154)))
  have hbW : Below w.heap.size w ((w2.alloc (.cells #[.int .i64 (planSize fs), .slice pa len pc] 154)).alloc (.cells #[.pointer none, .slice none 0 0] 194)) := by
    have h1 := hb1.size
    have h2 := hb2.size
    exact ((hb1.trans (hb2.mono h1)).alloc (by omega) _).alloc (by simp; omega) _
  have hR : ∀ (k : Nat) (u : Int), (planF fs).1[k]? = some u → ∃ q, pa = some ⟨q, 0, none⟩ ∧ q < w2.heap.size ∧ ((w2.alloc (.cells #[.int .i64 (planSize fs), .slice pa len pc] 154)).alloc (.cells #[.pointer none, .slice none 0 0] 194)).cell? ⟨q, k, none⟩ = some (.int .i64 u) := by
    intro k u hu
    have hk : k < len := by have := (List.getElem?_eq_some_iff.1 hu).1; rw [planF_len] at this; have := HLN.out; omega
    obtain ⟨q, rfl, _, hq, hqc⟩ := row_block ((hprow.alloc (.cells #[.int .i64 (planSize fs), .slice pa len pc] 154)).alloc (.cells #[.pointer none, .slice none 0 0] 194)) (by omega)
    refine ⟨q, rfl, ?_, hqc k _ (by simp [hu])⟩
    obtain ⟨q', he, _, hq', _⟩ := row_block hprow (show 0 < len by omega)
    cases he
    exact hq'
  rw [World.size_alloc] at hI
  have hzW : ((w2.alloc (.cells #[.int .i64 (planSize fs), .slice pa len pc] 154)).alloc (.cells #[.pointer none, .slice none 0 0] 194)).heap.size = w2.heap.size + 2 := by rw [World.size_alloc, World.size_alloc]
  have hz0 : w.heap.size ≤ w2.heap.size := by have h1 := hb1.size; have h2 := hb2.size; omega
  generalize (w2.alloc (.cells #[.int .i64 (planSize fs), .slice pa len pc] 154)).alloc (.cells #[.pointer none, .slice none 0 0] 194) = W at *
  generalize w2.heap.size = PB at *
  have HP := Lib.hid hP
  have HI := Lib.hid hI
  have HR := Lib.hid hR
  have HZW := Lib.hid hzW
  clear hP hI hR hzW hprow hb1 hb2
  go_loopw [1, 27] (fun v j wr => ∃ k : Nat, k ≤ len ∧ j = .int .i64 (k : Int) ∧ FitVal w.heap.size val fs k v wr ∧ Lib.IsBuilderF 194 5 (PB + 1) (PB + 1) (Lib.byteCells (packPre (fs.take k) val).2.1) wr ∧ Below (PB + 1) W wr) (fun _ j _ => len - (intOf j).toNat)
  case atStart => exact ⟨0, by omega, rfl, ⟨_, _, _, rfl, by simpa [cnt] using HV.out.below hbW⟩, HI.out, Below.refl _ _⟩
  case round =>
    obtain ⟨k, hk, rfl, ⟨a2, l2, c2, rfl, hva⟩, hbd, hbr⟩ := hrel
    have hbw := hbW.trans (hbr.mono (show w.heap.size ≤ PB + 1 by omega))
    have hz := hbr.size
    have hzW := HZW.out
    have hzr : PB + 2 ≤ wr.heap.size := by omega
    clear hzW hz
    by_cases hlt : k < len
    · obtain ⟨b, off, f, rfl, hB, hf, c0, c1, c2'⟩ := HFS.out.get hbw hlt
      have hfo : fldOk f = true := by have h := HA.out; rw [List.all_eq_true] at h; exact h f (List.mem_of_getElem? hf)
      obtain ⟨ks1, ks2, f1, f2⟩ := fldOk_bd hfo
      have hct := cnt_take_succ hf
      have hcl2 := cnt_take_le (fs := fs) (k + 1)
      have hll := hva.1
      rw [List.length_drop] at hll
      have hl2x : c2 ≤ maxLen := hva.2.2.1
      have hl2y : l2 ≤ c2 := hva.2.1
      unfold maxLen at hl2x
      obtain ⟨c, hc'⟩ : ∃ c : Nat, f.count = c := ⟨f.count.toNat, by omega⟩
      have hcc : c ≤ l2 := by have h1 := HCN.out; rw [hc'] at hct; simp at hct; omega
      rw [hc'] at f1 f2 c2'
      have hfl := HLN.out
      obtain ⟨p0, p1, p2, p3⟩ := plan_bd (show (fs.take k).length ≤ 8 by rw [List.length_take]; omega) (all_take HA.out k)
      obtain ⟨u1, u2, u3⟩ := upF_eq p0 (by omega) ks1 ks2
      have hpl := (pack_len _ (fs.take k) rfl (by rw [List.length_take]; omega) (all_take HA.out k) val (by have := cnt_take_le (fs := fs) k; have := HCN.out; omega)).1
      obtain ⟨n, hn⟩ : ∃ n : Nat, upF (planF (fs.take k)).2.1 (kSize f.kind) = n := ⟨(upF (planF (fs.take k)).2.1 (kSize f.kind)).toNat, by omega⟩
      have hat := plan_at hf
      rw [hn] at hat u2 u3
      obtain ⟨q, rfl, hq, hqc⟩ := HR.out k n hat
      have hqr := (hbr.cell (p := ⟨q, k, none⟩) (show q < PB + 1 by omega)).trans hqc
      have hpb := keepB hbr HP.out (by omega)
      have t0 := cell_at hpb 0
      have t1 := cell_at hpb 1
      simp at t0 t1
      have hstep : packPre (fs.take (k + 1)) val = packStep (packPre (fs.take k) val) f := by rw [take_snoc hf, packPre_snoc]
      have hrest := (pack_len _ (fs.take k) rfl (by rw [List.length_take]; omega) (all_take HA.out k) val (by have := cnt_take_le (fs := fs) k; have := HCN.out; omega)).2
      have hstep2 : (packPre (fs.take (k + 1)) val).2.1 = padB (packPre (fs.take k) val).2.1 n ++ ((val.drop (cnt (fs.take k))).take c).flatMap (putB f.kind) := by
        rw [hstep]
        unfold packStep
        rw [hrest, packPre_fst, hn, hc']
        rfl
      have hfi := fitGo_at fs val k f HGO.out hf
      rw [hc', Int.toNat_natCast] at hfi
      have i1 : (0 : Int) ≤ (k : Int) := by omega
      have i2 : (k : Int) < (len : Int) := by omega
      have z1 : PB < wr.heap.size := by omega
      have z2 : q < wr.heap.size := by omega
      have z3 : b < wr.heap.size := by omega
      have hln : (packPre (fs.take k) val).2.1.length ≤ n := by omega
      have hn1 : n ≤ 1000 := by omega
      generalize (packPre (fs.take k) val).2.1 = pre at *
      have hvf := hva.below ((Below.refl w.heap.size wr).alloc (by omega) (.cells #[.string f.name, .int .i64 f.kind, .int .i64 (c : Int)] 123))
      have hbf := builder_below hbd ((Below.refl _ wr).alloc (Nat.le_refl _) (.cells #[.string f.name, .int .i64 f.kind, .int .i64 (c : Int)] 123))
      have HCC := Lib.hid hc'
      have HF := Lib.hid hf
      have HVA := Lib.hid hvf
      have HBF := Lib.hid hbf
      have HS2 := Lib.hid hstep2
      have HFI := Lib.hid hfi
      have HLN2 := Lib.hid hln
      have HN1 := Lib.hid hn1
      clear hfo hct hcl2 hll hc' hf hva hvf hbf hbd hstep hstep2 hrest hfi hpl hat hn u1 u2 u3 p0 p1 p2 p3 hqc hfl hpb hln hn1
      go_wp2_with fail
      have hf7 := heap_alloc_new wr (.cells #[.string f.name, .int .i64 f.kind, .int .i64 (c : Int)] 123)
      have hzf := World.size_alloc wr (.cells #[.string f.name, .int .i64 f.kind, .int .i64 (c : Int)] 123)
      have hbf : Below (PB + 1) W (wr.alloc (.cells #[.string f.name, .int .i64 f.kind, .int .i64 (c : Int)] 123)) := hbr.alloc (by omega) _
      generalize wr.alloc (.cells #[.string f.name, .int .i64 f.kind, .int .i64 (c : Int)] 123) = wf at *
      obtain ⟨H, hH⟩ : ∃ H, wr.heap.size = H := ⟨_, rfl⟩
      rw [hH] at hf7 hzf ⊢
      have hzr' : PB + 2 ≤ H := by omega
      clear hH c0 c1 c2' hbr hbw z1 z2 z3 hqr t0 t1 hzr
      refine (pad_any (PB + 1) (PB + 1) pre n wf HBF.out HLN2.out (by have := HN1.out; omega) (by omega)).mono ?_
      rintro e w3 ⟨rfl, hI3, hb3, ho3⟩
      have hf3 := ho3 H _ hf7 (by simp; omega) (fun c fz he => by cases he)
      have k0 := cell_at hf3 1
      have k1 := cell_at hf3 2
      simp at k0 k1
      have hH3 := lt_some hf3
      have HF3 := Lib.hid hf3
      have HI3 := Lib.hid hI3
      have HB3 := Lib.hid (hbf.trans hb3)
      have HVA3 := Lib.hid (HVA.out.below (hb3.mono (show w.heap.size ≤ PB + 1 by omega)))
      have HLT := Lib.hid hlt
      have HZ3 := Lib.hid (show PB + 1 ≤ w3.heap.size by have := hb3.size; omega)
      clear hf3 hI3 hb3 ho3 hf7 hzf hbf HBF HVA hlt
      go_wp2_with fail
      clear k0 k1
      go_loopw [44] (fun j ws => ∃ m : Nat, m ≤ c ∧ j = .int .i64 (m : Int) ∧ Lib.IsBuilderF 194 5 (PB + 1) (PB + 1) (Lib.byteCells (padB pre n ++ ((val.drop (cnt (fs.take k))).take m).flatMap (putB f.kind))) ws ∧ ws.heap[H]? = some (.cells #[.string f.name, .int .i64 f.kind, .int .i64 (c : Int)] 123 (0, 0)) ∧ Below (PB + 1) w3 ws) (fun j _ => c - (intOf j).toNat)
      case atStart => exact ⟨0, by omega, rfl, by simpa using HI3.out, HF3.out, Below.refl _ _⟩
      case round =>
        obtain ⟨m, hm, rfl, hI, hblk, hbs⟩ := hrel
        have k1 := cell_at hblk 1
        have k2 := cell_at hblk 2
        simp at k1 k2
        have hHs := lt_some hblk
        have hzs : PB + 1 ≤ wr.heap.size := by omega
        have HII := Lib.hid hI
        have HBLK := Lib.hid hblk
        have HBS := Lib.hid hbs
        clear hI hblk hbs
        by_cases hlt : m < c
        · obtain ⟨vb, vo, x, rfl, hvb, hx, hxw, x0, x1, x2⟩ := HVA3.out.get (HBS.out.mono (show w.heap.size ≤ PB + 1 by omega)) (show m < l2 by omega)
          have htk : ((val.drop (cnt (fs.take k))).take c)[m]? = some x := by rw [List.getElem?_take, if_pos hlt]; exact hx
          have hfx : fitsF f.kind x = true := by have h := HFI.out; rw [List.all_eq_true] at h; exact h x (List.mem_of_getElem? htk)
          have htk2 : ((val.drop (cnt (fs.take k))).take (m + 1)).flatMap (putB f.kind) = ((val.drop (cnt (fs.take k))).take m).flatMap (putB f.kind) ++ putB f.kind x := by rw [take_snoc hx, List.flatMap_append]; simp
          have hpl : (padB pre n).length + (((val.drop (cnt (fs.take k))).take m).flatMap (putB f.kind)).length ≤ 2000 := by
            rw [padB_len HLN2.out, flat_len]
            have h1 := HN1.out
            have h2 : ((val.drop (cnt (fs.take k))).take m).length ≤ 8 := by rw [List.length_take]; omega
            have h3 := (kSize_bd f.kind).2
            have h4 : ((val.drop (cnt (fs.take k))).take m).length * (kSize f.kind).toNat ≤ 8 * 8 := Nat.mul_le_mul h2 (by omega)
            omega
          have hi1 := builder_below HII.out ((Below.refl _ wr).alloc (Nat.le_refl _) (.cells #[.bool x.neg, .int .u64 x.hi, .int .u64 x.lo] 148))
          have hbl1 := keepA (.cells #[.bool x.neg, .int .u64 x.hi, .int .u64 x.lo] 148) HBLK.out
          have HI1 := Lib.hid hi1
          have HBL1 := Lib.hid hbl1
          have HTK := Lib.hid htk2
          have HPL := Lib.hid hpl
          have HFX := Lib.hid hfx
          have i1 : (0 : Int) ≤ (m : Int) := by omega
          have i2 : (m : Int) < (c : Int) := by omega
          clear hx htk hfx htk2 hpl hi1 hbl1
          obtain ⟨xn, xh, xl⟩ := x
          go_wp2_with fail
          refine (put_any f.kind ⟨xn, xh, xl⟩ _ hxw HFX.out).mono ?_
          rintro e w5 ⟨rfl, hb5⟩
          have hi5 := builder_below HI1.out hb5
          have hbl5 := keep hb5 HBL1.out
          have hzz := hb5.size
          rw [World.size_alloc] at hzz
          have HI5 := Lib.hid hi5
          have HBL5 := Lib.hid hbl5
          have HB5 := Lib.hid ((HBS.out.alloc hzs (.cells #[.bool xn, .int .u64 xh, .int .u64 xl] 148)).trans (hb5.mono (by simp; omega)))
          clear hi5 hbl5 hb5 k1 k2 x0 x1 x2
          go_wp2_with fail
          refine (Tryz.Builder_WriteString_k (PB + 1) (PB + 1) _ ⟨(putB f.kind ⟨xn, xh, xl⟩).toArray⟩ _ HI5.out (by
            rw [Lib.byteCells_length, List.length_append]
            have h1 := HPL.out
            have h2 := (kSize_bd f.kind).2
            have h3 : (putB f.kind ⟨xn, xh, xl⟩).toArray.size ≤ 8 := by rw [List.size_toArray, putB_len]; omega
            show _ + (putB f.kind ⟨xn, xh, xl⟩).toArray.size ≤ _
            omega) (by omega)).mono ?_
          rintro e w6 ⟨rfl, hI6, hb6, ho6⟩
          have hf6 := ho6 H _ HBL5.out (by simp; omega) (fun c fz he => by cases he)
          have HI6 := Lib.hid hI6
          have HF6 := Lib.hid hf6
          have HB6 := Lib.hid (HB5.out.trans hb6)
          clear hI6 hf6 hb6 ho6
          go_wp2_with fail
          go_roundw
          case rel =>
            refine ⟨m + 1, by omega, by go_num, ?_, HF6.out, HB6.out⟩
            rw [HTK.out, ← List.append_assoc, Lib.byteCells_append, ← strCells_bytes (putB f.kind ⟨xn, xh, xl⟩)]
            exact .inr HI6.out
          case measure => simp [intOf]; omega
        · obtain rfl : m = c := by omega
          have hdr := (HVA3.out.below (HBS.out.mono (show w.heap.size ≤ PB + 1 by omega))).drop hcc
          rw [List.drop_drop] at hdr
          have hct := cnt_take_succ HF.out
          rw [HCC.out, Int.toNat_natCast] at hct
          rw [← hct] at hdr
          have HDR := Lib.hid hdr
          clear hdr hct
          have hlt2 := HLT.out
          have HBB := Lib.hid (HB3.out.trans HBS.out)
          have hII := HII.out
          rw [← HS2.out] at hII
          have HII2 := Lib.hid hII
          clear hII
          by_cases he : c2 = m
          · subst he
            obtain rfl : l2 = c2 := by omega
            have hdr := HDR.out
            rw [if_pos rfl, Nat.sub_self] at hdr
            have HDR2 := Lib.hid hdr
            clear hdr
            go_wp2_with fail
            go_roundw
            case rel => exact ⟨k + 1, by omega, by go_num, ⟨_, _, _, rfl, HDR2.out⟩, HII2.out, HBB.out⟩
            case measure => simp [intOf]; omega
          · have hdr := HDR.out
            rw [if_neg he] at hdr
            have HDR2 := Lib.hid hdr
            clear hdr
            go_wp2_with fail
            go_roundw
            case rel => exact ⟨k + 1, by omega, by go_num, ⟨_, _, _, rfl, HDR2.out⟩, HII2.out, HBB.out⟩
            case measure => simp [intOf]; omega
    · obtain rfl : k = len := by omega
      rw [List.take_of_length_le (by have := HLN.out; omega)] at hbd
      have hfl := HLN.out
      obtain ⟨p0, p1, p2, p3⟩ := plan_bd (show fs.length ≤ 8 by omega) HA.out
      obtain ⟨u1, u2, u3⟩ := upF_eq p0 (by omega) p2 p3
      have hpl := (pack_len _ fs rfl (by omega) HA.out val (by have := HCN.out; omega)).1
      obtain ⟨n, hn⟩ : ∃ n : Nat, planSize fs = n := ⟨(planSize fs).toNat, by unfold planSize; omega⟩
      have hln : (packPre fs val).2.1.length ≤ n := by unfold planSize at hn; omega
      have hn1 : n ≤ 1000 := by omega
      have HRES := Lib.hid (show packF fs val = padB (packPre fs val).2.1 n by unfold packF; rw [hn]; rfl)
      have hpb := keepB hbr HP.out (by omega)
      have t0 := cell_at hpb 0
      have t1 := cell_at hpb 1
      rw [hn] at t0
      simp at t0 t1
      generalize (packPre fs val).2.1 = pre at *
      have HBD := Lib.hid hbd
      have HLN2 := Lib.hid hln
      have HBW := Lib.hid hbw
      have HN1 := Lib.hid hn1
      clear hbd hln hpb hn hpl u1 u2 u3 p0 p1 p2 p3 hfl hva hbw hn1
      go_wp2_with fail
      refine (pad_any (PB + 1) (PB + 1) pre n _ HBD.out HLN2.out (by have := HN1.out; omega) (by omega)).mono ?_
      rintro e w3 ⟨rfl, hI3, hb3, _⟩
      have hz3 := hb3.size
      have HI3 := Lib.hid hI3
      have HB3 := Lib.hid hb3
      clear hI3 hb3
      go_wp2_with fail
      refine (Tryz.Builder_String_any_k (PB + 1) (PB + 1) _ _ HI3.out (by omega)).mono ?_
      rintro e w4 ⟨rfl, _, hb4, _⟩
      have HB4 := Lib.hid hb4
      clear hb4
      go_wp2_with fail
      go_ret2
      exact ⟨ret_si HRES.out.symm rfl, (HBW.out.trans (HB3.out.mono (by omega))).trans (HB4.out.mono (by omega))⟩
set_option maxRecDepth 100000 in
theorem pack_no (fs : List Fld) (a : Option Addr) (len cap : Nat) (va : Option Addr) (vl vc : Nat) (val : List WI) (w : World) (hfs : FieldsAt w.heap.size w a len fs) (hc : len ≤ cap) (hv : IntsAt w.heap.size w va vl vc val) (hfit : fitF fs val ≠ 0) :
    Calls Tryz.prog 68 #[.slice a len cap, .slice va vl vc] w fun e w' => e = .returned (.tuple #[.string ⟨#[]⟩, .int .i64 (fitF fs val)]) ∧ Below w.heap.size w w' := by
  have hmx : len ≤ maxLen := hfs.2.1
  unfold maxLen at hmx
  have HFS := Lib.hid hfs
  have HV := Lib.hid hv
  have hb : (fitF fs val != 0) = true := by rw [bne_iff_ne]; exact hfit
  clear hfs hv hfit
  go_enter Tryz.func68, Tryz.ntmps68
  go_wp2_with fail
  refine (fit_any fs _ _ _ _ _ _ val _ HFS.out hc HV.out).mono ?_
  rintro e w1 ⟨rfl, hb1⟩
  generalize hL : fitF fs val = L at *
  have HL := Lib.hid hL
  clear hL
  go_wp2_with fail
  go_ret2
  exact ⟨ret_si (l := []) rfl HL.out.symm, hb1⟩
end Go.Proofs.YtoadihebdaooaaaGreat
namespace Go.Proofs.YtoadihebdaooaaaGreat
open Go.RowKit
set_option linter.unusedVariables false
/-- All that was and isn't in F stays. -/
structure Out (F : Nat → Prop) (w w' : World) : Prop where
  os : w'.os = w.os
  tape : w'.tape = w.tape
  output : w'.output = w.output
  size : w.heap.size ≤ w'.heap.size
  block : ∀ k, k < w.heap.size → ¬ F k → w'.heap[k]? = w.heap[k]?
theorem Out.refl (F : Nat → Prop) (w : World) : Out F w w := ⟨rfl, rfl, rfl, Nat.le_refl _, fun _ _ _ => rfl⟩
theorem Out.trans {F G : Nat → Prop} {a b c : World} (h : Out F a b) (k : Out G b c) (hG : ∀ x, G x → F x ∨ a.heap.size ≤ x) : Out F a c :=
  ⟨k.os.trans h.os, k.tape.trans h.tape, k.output.trans h.output, Nat.le_trans h.size k.size, fun i hi hF => (k.block i (by have := h.size; omega) (fun hg => by exact (hG i hg).elim hF (by omega))).trans (h.block i hi hF)⟩
theorem Out.mono {F G : Nat → Prop} {a b : World} (h : Out F a b) (hG : ∀ x, F x → G x ∨ a.heap.size ≤ x) : Out G a b := ⟨h.os, h.tape, h.output, h.size, fun i hi hn => h.block i hi (fun hf => by exact (hG i hf).elim hn (by omega))⟩
theorem Out.of {F : Nat → Prop} {a b : World} (h : Below a.heap.size a b) : Out F a b := ⟨h.os, h.tape, h.output, h.size, fun i hi _ => h.block i hi⟩
theorem Out.below {F : Nat → Prop} {B : Nat} {a b : World} (h : Out F a b) (hF : ∀ x, F x → B ≤ x) (hB : B ≤ a.heap.size) : Below B a b := ⟨h.os, h.tape, h.output, h.size, fun i hi => h.block i (by omega) (fun hf => by have := hF i hf; omega)⟩
theorem Out.keep {F : Nat → Prop} {a b : World} (h : Out F a b) {k : Nat} {o : Obj} (hk : a.heap[k]? = some o) (hn : ¬ F k) : b.heap[k]? = some o := (h.block k (lt_some hk) hn).trans hk
theorem Out.only {b : Nat} {F : Nat → Prop} {w w' : World} (h : Only b w w') (hF : F b) : Out F w w' := ⟨h.os, h.tape, h.output, by rw [h.size]; exact Nat.le_refl _, fun k _ hk => h.block k (fun e => hk (e ▸ hF))⟩
theorem ownsRow_out {F : Nat → Prop} {w w' : World} {b s : Nat} {e : TypeId} {v : Value} {n : Nat} {xs : List Value} (h : w.ownsRow b e s v n xs) (ho : Out F w w') (hn : ∀ x, v.ownBlock = some x → ¬ F x) : w'.ownsRow b e s v n xs := by
  obtain ⟨h1, h2⟩ := h
  refine ⟨h1, ?_⟩
  rcases h2 with h2 | ⟨g, cap, cur, rfl, hg, hh, r⟩
  · exact .inl h2
  · exact .inr ⟨g, cap, cur, rfl, hg, ho.keep hh (hn g rfl), r⟩
theorem drewN_heap (w : World) (n : Nat) : (w.drewN n).heap = w.heap := rfl
theorem Out.drewN {F : Nat → Prop} {a b : World} (h : Out F a b) (n : Nat) : Out F a (b.drewN n) := ⟨h.os, h.tape, h.output, h.size, h.block⟩
theorem ret_sl {a : Option Addr} {n n' c : Nat} (h : n = n') : Ending.returned (.slice a n c) = .returned (.slice a n' c) := by rw [h]
/-- A column's memory: its block, the row of its chunks, the chunks' blocks. -/
def chunkV (size g : Nat) : Value := .slice (some ⟨g, 0, none⟩) (16 * size) (16 * size)
structure ColMem (B : Nat) (w : World) (size cap n cb : Nat) (va : Option Addr) (vc : Nat) (gs : List Nat) : Prop where
  blk : w.heap[cb]? = some (.cells #[.int .i64 size, .int .i64 cap, .int .i64 n, .slice va gs.length vc] 207 (0, 0))
  own : w.ownsRow B 192 1 (.slice va gs.length vc) gs.length (gs.map (chunkV size))
  hcb : B ≤ cb
  nd : gs.Nodup
  chunk : ∀ g ∈ gs, B ≤ g ∧ ∃ arr : Array Value, w.heap[g]? = some (.cells arr 5 (0, 0)) ∧ arr.size = 16 * size
  hsz : size ≤ 256
  hn : n ≤ 65536
  hcap : cap ≤ 65536
  hgl : gs.length ≤ 4097
structure CD where
  size : Nat
  cap : Nat
  rows : List (List UInt8)
  cb : Nat
  va : Option Addr
  vc : Nat
  gs : List Nat
structure ColAt (B : Nat) (w : World) (d : CD) : Prop where
  mem : ColMem B w d.size d.cap d.rows.length d.cb d.va d.vc d.gs
  num : d.gs.length = (d.rows.length + 15) / 16
  cell : ∀ (i : Nat) (row : List UInt8), d.rows[i]? = some row → ∀ g, d.gs[i / 16]? = some g → ∀ (k : Nat) (x : UInt8), row[k]? = some x → w.cell? ⟨g, i % 16 * d.size + k, none⟩ = some (.int .u8 x.toNat)
  sz : ∀ r ∈ d.rows, r.length = d.size
  hle : d.rows.length ≤ d.cap
/-- Its own blocks. -/
def CD.foot (d : CD) (b : Nat) : Prop := b = d.cb ∨ (Value.slice d.va d.gs.length d.vc).ownBlock = some b ∨ b ∈ d.gs
theorem ColMem.out {F : Nat → Prop} {B : Nat} {w w' : World} {size cap n cb : Nat} {va : Option Addr} {vc : Nat} {gs : List Nat} (h : ColMem B w size cap n cb va vc gs) (ho : Out F w w') (h1 : ¬ F cb) (h2 : ∀ x, (Value.slice va gs.length vc).ownBlock = some x → ¬ F x) (h3 : ∀ g ∈ gs, ¬ F g) : ColMem B w' size cap n cb va vc gs :=
  ⟨ho.keep h.blk h1, ownsRow_out h.own ho h2, h.hcb, h.nd, fun g hg => ⟨(h.chunk g hg).1, by obtain ⟨arr, h4, h5⟩ := (h.chunk g hg).2; exact ⟨arr, ho.keep h4 (h3 g hg), h5⟩⟩, h.hsz, h.hn, h.hcap, h.hgl⟩
theorem ColAt.out {F : Nat → Prop} {B : Nat} {w w' : World} {d : CD} (h : ColAt B w d) (ho : Out F w w') (hF : ∀ b, d.foot b → ¬ F b) : ColAt B w' d := by
  refine ⟨h.mem.out ho (hF _ (.inl rfl)) (fun x hx => hF x (.inr (.inl hx))) (fun g hg => hF g (.inr (.inr hg))), h.num, fun i row hr g hg k x hx => ?_, h.sz, h.hle⟩
  have hgm := List.mem_of_getElem? hg
  obtain ⟨_, arr, ha, _⟩ := h.mem.chunk g hgm
  have := h.cell i row hr g hg k x hx
  rw [cell_at ha] at this
  rw [cell_at (ho.keep ha (hF g (.inr (.inr hgm))))]
  exact this
theorem ColAt.foot_ge {B : Nat} {w : World} {d : CD} (h : ColAt B w d) {b : Nat} (hb : d.foot b) : B ≤ b ∧ b < w.heap.size := by
  rcases hb with rfl | hb | hb
  · exact ⟨h.mem.hcb, lt_some h.mem.blk⟩
  · exact h.mem.own.lt b hb
  · obtain ⟨h1, arr, h2, _⟩ := h.mem.chunk b hb
    exact ⟨h1, lt_some h2⟩
/-- Blocks of the mutable types of a column. -/
def ColTy (w : World) (b : Nat) : Prop := ∃ cs t fr, w.heap[b]? = some (.cells cs t fr) ∧ (t = 207 ∨ t = 192 ∨ t = 5)
theorem ColAt.foot_ty {B : Nat} {w : World} {d : CD} (h : ColAt B w d) {b : Nat} (hb : d.foot b) : ColTy w b := by
  rcases hb with rfl | hb | hb
  · exact ⟨_, _, _, h.mem.blk, .inl rfl⟩
  · rcases h.mem.own.2 with ⟨h1, _⟩ | ⟨g, cap, cur, h1, _, h2, _⟩
    · rw [h1] at hb; cases hb
    · rw [h1] at hb
      obtain rfl : g = b := by simpa [Value.ownBlock] using hb
      exact ⟨_, _, _, h2, .inr (.inl rfl)⟩
  · obtain ⟨_, arr, h2, _⟩ := h.mem.chunk b hb
    exact ⟨_, _, _, h2, .inr (.inr rfl)⟩
set_option maxRecDepth 100000 in
set_option maxHeartbeats 1000000 in
theorem colCell_any (B : Nat) (w : World) (size cap n cb : Nat) (va : Option Addr) (vc : Nat) (gs : List Nat) (i g : Nat) (h : ColMem B w size cap n cb va vc gs) (hg : gs[i / 16]? = some g) :
    Calls Tryz.prog 113 #[.pointer (some ⟨cb, 0, none⟩), .int .i64 (i : Int)] w fun e w' => e = .returned (.slice (some ⟨g, i % 16 * size, none⟩) size (16 * size - i % 16 * size)) ∧ ∃ q, w' = w.drewN q := by
  have hlt := (List.getElem?_eq_some_iff.1 hg).1
  have hgl := h.hgl
  have hsz := h.hsz
  have c0 := cell_at h.blk 0
  have c3 := cell_at h.blk 3
  simp at c0 c3
  obtain ⟨q, rfl, _, _, hq⟩ := row_block h.own (by omega)
  have r0 := hq (i / 16) (chunkV size g) (by simp [hg])
  unfold chunkV at r0
  obtain ⟨k, hk⟩ : ∃ k, i / 16 = k := ⟨_, rfl⟩
  obtain ⟨m, hm⟩ : ∃ m, i % 16 = m := ⟨_, rfl⟩
  obtain ⟨a, ha⟩ : ∃ a, m * size = a := ⟨_, rfl⟩
  have hm16 : m < 16 := by omega
  have ha1 : a ≤ 15 * size := by rw [← ha]; exact Nat.mul_le_mul_right _ (by omega)
  rw [hm, ha]
  rw [hk] at r0 hlt
  have k1 : (i : Int) / 16 = (k : Int) := by omega
  have m1 : (i : Int) % 16 = (m : Int) := by omega
  have a1 : IntKind.i64.wrap ((m : Int) * (size : Int)) = (a : Int) := by rw [IntWalk.i64_in _ (by rw [← Int.natCast_mul, ha]; omega), ← Int.natCast_mul, ha]
  obtain ⟨e, he⟩ : ∃ e, e = a + size := ⟨_, rfl⟩
  have s1 : IntKind.i64.wrap ((a : Int) + (size : Int)) = (e : Int) := by rw [IntWalk.i64_in _ (by omega)]; omega
  have td1 : (i : Int).tdiv 16 = (k : Int) := by rw [Int.tdiv_eq_ediv_of_nonneg (by omega)]; exact k1
  have tw1 : IntKind.i64.wrap (k : Int) = (k : Int) := IntWalk.i64_in _ (by omega)
  have i1 : (0 : Int) ≤ (k : Int) := by omega
  have i2 : (k : Int) < (gs.length : Int) := by omega
  have i3 : (0 : Int) ≤ (i : Int) := by omega
  have hi : (i : Int) ≤ 100000 := by omega
  have b1 : (0 : Int) ≤ (a : Int) := by omega
  have b2 : (a : Int) ≤ (e : Int) := by omega
  have b3 : (e : Int) ≤ ((16 * size : Nat) : Int) := by omega
  have b4 : (e : Int) ≤ 16 * (size : Int) := by omega
  have HE := Lib.hid (show e - a = size by omega)
  by_cases hz : size = 0
  · subst hz
    obtain rfl : a = 0 := by omega
    obtain rfl : e = 0 := by omega
    have w0 : IntKind.i64.wrap 0 = 0 := by decide
    clear hg hlt h hq hk hm ha hm16 s1 a1 b1 b2 b3 b4 HE he ha1
    go_enter Tryz.func113, Tryz.ntmps113
    go_wp2_with fail
    go_quiet (fail)
    go_wp2_with fail
    go_returns
    exact ⟨rfl, _, rfl⟩
  · have hne : ¬ (16 * size = a) := by omega
    clear hg hlt h hq hk hm ha hm16 hz he
    go_enter Tryz.func113, Tryz.ntmps113
    go_wp2_with fail
    go_quiet (fail)
    go_wp2_with fail
    go_returns
    exact ⟨ret_sl HE.out, _, rfl⟩
set_option maxRecDepth 100000 in
theorem colCheck_any (size cap n cb : Nat) (v : Value) (i : Int) (w : World) (h : w.heap[cb]? = some (.cells #[.int .i64 size, .int .i64 cap, .int .i64 n, v] 207 (0, 0))) :
    Calls Tryz.prog 120 #[.pointer (some ⟨cb, 0, none⟩), .int .i64 i] w fun e w' => e = .returned (.int .i64 (if 0 ≤ i ∧ i < n then 0 else 3)) ∧ w = w' := by
  have c2 := cell_at h 2
  simp at c2
  clear h
  by_cases h0 : 0 ≤ i
  · by_cases h1 : i < n
    · have e1 : decide (i < 0) = false := by simp; omega
      have e2 : decide ((n : Int) ≤ i) = false := by simp; omega
      rw [if_pos ⟨h0, h1⟩]
      go_enter Tryz.func120, Tryz.ntmps120
      go_wp2_with fail
      go_returns
      exact ⟨rfl, rfl⟩
    · have e1 : decide (i < 0) = false := by simp; omega
      have e2 : decide ((n : Int) ≤ i) = true := by simp; omega
      rw [if_neg (fun h => h1 h.2)]
      go_enter Tryz.func120, Tryz.ntmps120
      go_wp2_with fail
      go_returns
      exact ⟨rfl, rfl⟩
  · have e1 : decide (i < 0) = true := by simp; omega
    rw [if_neg (fun h => h0 h.1)]
    go_enter Tryz.func120, Tryz.ntmps120
    go_wp2_with fail
    go_returns
    exact ⟨rfl, rfl⟩
set_option maxRecDepth 100000 in
theorem colGet_any (B : Nat) (w : World) (d : CD) (i : Nat) (row : List UInt8) (h : ColAt B w d) (hr : d.rows[i]? = some row) :
    Calls Tryz.prog 84 #[.pointer (some ⟨d.cb, 0, none⟩), .int .i64 (i : Int)] w fun e w' => e = .returned (.tuple #[.string ⟨row.toArray⟩, .int .i64 0]) ∧ Below w.heap.size w w' := by
  have hi := (List.getElem?_eq_some_iff.1 hr).1
  have hgi : i / 16 < d.gs.length := by have := h.num; omega
  obtain ⟨g, hg⟩ : ∃ g, d.gs[i / 16]? = some g := ⟨_, List.getElem?_eq_getElem hgi⟩
  have hsz := h.sz row (List.mem_of_getElem? hr)
  have hcell := h.cell i row hr g hg
  have hchk := colCheck_any d.size d.cap d.rows.length d.cb _ (i : Int) w h.mem.blk
  rw [if_pos ⟨by omega, by omega⟩] at hchk
  have HCHK := Lib.hid hchk
  have HCELL := Lib.hid (colCell_any B w _ _ _ _ _ _ _ i g h.mem hg)
  have hcv : ∀ q, (convert 192 9 (.slice (some ⟨g, i % 16 * d.size, none⟩) d.size (16 * d.size - i % 16 * d.size))).run Tryz.prog (w.drewN q) = .ok (.string ⟨row.toArray⟩) (w.drewN q) := by
    intro q
    rw [← hsz]
    refine run_convert_bytes_back (w.drewN q) 192 9 5 ⟨g, i % 16 * row.length, none⟩ _ row Tryz.underlying192 Tryz.underlying5 Tryz.underlying9 (fun j hj => ?_)
    rw [show (⟨g, i % 16 * row.length, none⟩ : Addr).add j = ⟨g, i % 16 * row.length + j, none⟩ from by simp [Addr.add]]
    show w.cell? ⟨g, i % 16 * row.length + j, none⟩ = _
    rw [hsz]
    exact hcell j _ (List.getElem?_eq_getElem hj)
  have HCV := Lib.hid hcv
  clear hcv hchk hcell hsz hgi hi hg hr h
  go_enter Tryz.func84, Tryz.ntmps84
  go_wp2_with fail
  refine HCHK.out.mono ?_
  rintro e w1 ⟨rfl, rfl⟩
  go_wp2_with fail
  refine HCELL.out.mono ?_
  rintro e w1 ⟨rfl, q, rfl⟩
  have hcv := HCV.out q
  clear HCV HCHK HCELL
  go_wp2_with fail
  go_ret2
  exact ⟨rfl, below_drewN (Below.refl _ _) _⟩
end Go.Proofs.YtoadihebdaooaaaGreat
namespace Go.Proofs.YtoadihebdaooaaaGreat
open Go.RowKit
set_option linter.unusedVariables false
theorem splice_get {α : Type} (L : List α) (off : Nat) (cs : List α) (h : off + cs.length ≤ L.length) (j : Nat) : (splice L off cs)[j]? = if j < off then L[j]? else if j < off + cs.length then cs[j - off]? else L[j]? := by
  unfold splice
  by_cases h1 : j < off
  · rw [if_pos h1, List.getElem?_append_left (by rw [List.length_take]; omega), List.getElem?_take, if_pos h1]
  · rw [if_neg h1, List.getElem?_append_right (by rw [List.length_take]; omega), List.length_take, Nat.min_eq_left (by omega)]
    by_cases h2 : j < off + cs.length
    · rw [if_pos h2, List.getElem?_append_left (by omega)]
    · rw [if_neg h2, List.getElem?_append_right (by omega), List.getElem?_drop]
      congr 1; omega
theorem Only.setRow (w : World) (g : Nat) (cs : Array Value) : Only g w (w.setRow g cs) := ⟨rfl, rfl, rfl, by simp [World.setRow], fun k hk => setRow_other w g k cs hk⟩
theorem copy_str (w : World) (ty : TypeId) (g off cap : Nat) (s : ByteArray) (arr : Array Value) (hg : w.heap[g]? = some (.cells arr 5 (0, 0))) (hfit : off + s.size ≤ arr.size) :
    ∃ w', (Builtin.copy_ #[192, 9] ty #[.slice (some ⟨g, off, none⟩) s.size cap, .string s]).run Tryz.prog w = .ok (goInt s.size) w' ∧ Only g w w' ∧ w'.heap[g]? = some (.cells (splice arr.toList off (Lib.byteCells s.data.toList)).toArray 5 (0, 0)) := by
  have hr := Lib.run_copy_row_string (P := Tryz.prog) w 192 9 ty 5 g off s.size cap s arr 5 Tryz.underlying192 (by kernel_rfl) hg (Nat.le_refl _) hfit
  refine ⟨_, hr, Only.setRow _ _ _, ?_⟩
  rw [setRow_heap w g _ _ _ _ hg]
  have : (Lib.byteCells s.data.toList).length = s.size := by rw [Lib.byteCells_length]; rfl
  simp [splice, this]
/-- Where old rows lie, with these chunks. -/
def RowsIn (w : World) (size : Nat) (rows : List (List UInt8)) (gs : List Nat) : Prop :=
  ∀ (i : Nat) (row : List UInt8), rows[i]? = some row → ∀ g, gs[i / 16]? = some g → ∀ (k : Nat) (x : UInt8), row[k]? = some x → w.cell? ⟨g, i % 16 * size + k, none⟩ = some (.int .u8 x.toNat)
theorem nodup_at {l : List Nat} (h : l.Nodup) {i j g : Nat} (hi : l[i]? = some g) (hj : l[j]? = some g) : i = j := by
  obtain ⟨h1, e1⟩ := List.getElem?_eq_some_iff.1 hi
  obtain ⟨h2, e2⟩ := List.getElem?_eq_some_iff.1 hj
  exact (List.getElem_inj h).1 (e1.trans e2.symm)
theorem slots_apart {size i j k : Nat} (h : i ≠ j) (hk : k < size) : ¬ (j * size ≤ i * size + k ∧ i * size + k < j * size + size) := by
  rintro ⟨h1, h2⟩
  rcases Nat.lt_or_gt_of_ne h with h3 | h3
  · have := Nat.mul_le_mul_right size (show i + 1 ≤ j from h3)
    rw [Nat.succ_mul] at this
    omega
  · have := Nat.mul_le_mul_right size (show j + 1 ≤ i from h3)
    rw [Nat.succ_mul] at this
    omega
/-- A row is laid at place m of chunk g. -/
theorem RowsIn.lay {w w' : World} {size : Nat} {rows : List (List UInt8)} {gs : List Nat} (h : RowsIn w size rows gs) (hnd : gs.Nodup) (hsz : ∀ r ∈ rows, r.length = size) {n g : Nat} {arr : Array Value} {l : List UInt8} (hg : gs[n / 16]? = some g)
    (ha : w.heap[g]? = some (.cells arr 5 (0, 0))) (hl : l.length = size) (harr : arr.size = 16 * size) (ho : Only g w w') (hw : w'.heap[g]? = some (.cells (splice arr.toList (n % 16 * size) (Lib.byteCells l)).toArray 5 (0, 0)))
    (rows' : List (List UInt8)) (hrows : ∀ i row, rows'[i]? = some row → (i ≠ n ∧ rows[i]? = some row) ∨ (i = n ∧ row = l)) : RowsIn w' size rows' gs := by
  intro i row hr g' hg' k x hx
  have hoff : n % 16 * size + (Lib.byteCells l).length ≤ arr.toList.length := by
    rw [Lib.byteCells_length, hl, Array.length_toList, harr]
    have : n % 16 * size ≤ 15 * size := Nat.mul_le_mul_right _ (by omega)
    omega
  have hbl : (Lib.byteCells l).length = size := by rw [Lib.byteCells_length, hl]
  rcases hrows i row hr with ⟨hne, hr0⟩ | ⟨rfl, rfl⟩
  · have hk : k < size := by rw [← hsz row (List.mem_of_getElem? hr0)]; exact (List.getElem?_eq_some_iff.1 hx).1
    have h0 := h i row hr0 g' hg' k x hx
    by_cases he : g' = g
    · subst he
      have hii := nodup_at hnd hg' hg
      rw [cell_at ha] at h0
      rw [cell_at hw, List.getElem?_toArray, splice_get _ _ _ hoff, hbl]
      have hap := slots_apart (size := size) (i := i % 16) (j := n % 16) (k := k) (by omega) hk
      by_cases h1 : i % 16 * size + k < n % 16 * size
      · rw [if_pos h1]; simpa using h0
      · rw [if_neg h1, if_neg (by omega)]; simpa using h0
    · rw [World.cell?_of_block (w := w) (ho.block g' he)]
      exact h0
  · rw [hg] at hg'
    cases hg'
    have hk : k < size := by rw [← hl]; exact (List.getElem?_eq_some_iff.1 hx).1
    rw [cell_at hw, List.getElem?_toArray, splice_get _ _ _ hoff, hbl, if_neg (by omega), if_pos (by omega)]
    rw [show i % 16 * size + k - i % 16 * size = k by omega]
    simp [Lib.byteCells, hx]
theorem ColMem.only {B : Nat} {w w' : World} {size cap n cb : Nat} {va : Option Addr} {vc : Nat} {gs : List Nat} (h : ColMem B w size cap n cb va vc gs) {g : Nat} (hg : g ∈ gs) {arr : Array Value} (ho : Only g w w') (hw : w'.heap[g]? = some (.cells arr 5 (0, 0))) (ha : arr.size = 16 * size) : ColMem B w' size cap n cb va vc gs := by
  obtain ⟨hgB, old, hold, _⟩ := h.chunk g hg
  refine ⟨keepO ho h.blk (fun e => by subst e; rw [h.blk] at hold; cases hold), ?_, h.hcb, h.nd, fun x hx => ?_, h.hsz, h.hn, h.hcap, h.hgl⟩
  · refine ownsRow_out h.own (Out.only (F := fun b => b = g) ho rfl) (fun x hx e => ?_)
    subst e
    exact ownsRow_ne_block3 h.own hold (fun cur he => by cases he) hx.symm
  · by_cases e : x = g
    · subst e; exact ⟨hgB, arr, hw, ha⟩
    · obtain ⟨h1, a, h2, h3⟩ := h.chunk x hx
      exact ⟨h1, a, keepO ho h2 e, h3⟩
theorem ColMem.setN {B : Nat} {w : World} {size cap n cb : Nat} {va : Option Addr} {vc : Nat} {gs : List Nat} (h : ColMem B w size cap n cb va vc gs) {m : Nat} (hm : m ≤ 65536) : ColMem B (w.setCell ⟨cb, 2, none⟩ (.int .i64 (m : Int))) size cap m cb va vc gs := by
  have ho := Only.at w cb 2 (.int .i64 (m : Int))
  refine ⟨by simpa using hset w cb 2 (.int .i64 (m : Int)) _ _ _ h.blk, ?_, h.hcb, h.nd, fun x hx => ?_, h.hsz, hm, h.hcap, h.hgl⟩
  · refine ownsRow_out h.own (Out.only (F := fun b => b = cb) ho rfl) (fun x hx e => ?_)
    subst e
    exact ownsRow_ne_block3 h.own h.blk (fun cur he => by cases he) hx.symm
  · obtain ⟨h1, a, h2, h3⟩ := h.chunk x hx
    exact ⟨h1, a, keepO ho h2 (fun e => by subst e; rw [h.blk] at h2; cases h2), h3⟩
theorem RowsIn.setN {B : Nat} {w : World} {size cap n cb : Nat} {va : Option Addr} {vc : Nat} {gs : List Nat} (hm : ColMem B w size cap n cb va vc gs) {rows : List (List UInt8)} {sz : Nat} (h : RowsIn w sz rows gs) (o : Nat) (u : Value) : RowsIn (w.setCell ⟨cb, o, none⟩ u) sz rows gs := by
  intro i row hr g hg k x hx
  have h0 := h i row hr g hg k x hx
  obtain ⟨_, a, h2, _⟩ := hm.chunk g (List.mem_of_getElem? hg)
  rw [World.cell?_of_block (w := w) (hset_ne w ⟨cb, o, none⟩ u g (fun e => by subst e; rw [hm.blk] at h2; cases h2))]
  exact h0
end Go.Proofs.YtoadihebdaooaaaGreat
namespace Go.Proofs.YtoadihebdaooaaaGreat
open Go.RowKit
set_option linter.unusedVariables false
theorem Tryz.info192 : (Tryz.prog.info? 192).map (fun i => (i.zero, i.size, i.bytes)) = some (some (.slice none 0 0), 1, 24) := by kernel_rfl
theorem ColMem.drewN {B : Nat} {w : World} {size cap n cb : Nat} {va : Option Addr} {vc : Nat} {gs : List Nat} (h : ColMem B w size cap n cb va vc gs) (m : Nat) : ColMem B (w.drewN m) size cap n cb va vc gs := h.out ((Out.refl (fun _ => False) w).drewN m) (by simp) (by simp) (by simp)
theorem RowsIn.drewN {w : World} {size : Nat} {rows : List (List UInt8)} {gs : List Nat} (h : RowsIn w size rows gs) (m : Nat) : RowsIn (w.drewN m) size rows gs := h
/-- The chunk that is wanted is there: the bytes are laid, and counted. -/
theorem col_push {B : Nat} {w w2 : World} {d : CD} {va : Option Addr} {vc : Nat} {gs : List Nat} {g : Nat} {arr : Array Value} (l : List UInt8) (hm : ColMem B w d.size d.cap d.rows.length d.cb va vc gs) (hR : RowsIn w d.size d.rows gs) (hsz : ∀ r ∈ d.rows, r.length = d.size)
    (hnum : gs.length = (d.rows.length + 1 + 15) / 16) (hcap : d.rows.length < d.cap) (hg : gs[d.rows.length / 16]? = some g) (ha : w.heap[g]? = some (.cells arr 5 (0, 0))) (hal : arr.size = 16 * d.size) (hl : l.length = d.size) (ho : Only g w w2)
    (hw : w2.heap[g]? = some (.cells (splice arr.toList (d.rows.length % 16 * d.size) (Lib.byteCells l)).toArray 5 (0, 0))) :
    ColAt B (w2.setCell ⟨d.cb, 2, none⟩ (.int .i64 ((d.rows.length + 1 : Nat) : Int))) { d with rows := d.rows ++ [l], va := va, vc := vc, gs := gs } := by
  have hgm := List.mem_of_getElem? hg
  have hoff : d.rows.length % 16 * d.size ≤ 15 * d.size := Nat.mul_le_mul_right _ (by omega)
  have hm2 := hm.only hgm ho hw (by
    have h1 : (Lib.byteCells l).length = l.length := Lib.byteCells_length l
    have h2 : arr.toList.length = arr.size := Array.length_toList
    rw [List.size_toArray, length_splice _ _ _ (by omega)]; omega)
  have hR2 : RowsIn w2 d.size (d.rows ++ [l]) gs := hR.lay hm.nd hsz hg ha hl hal ho hw _ (fun i row hr => by
    by_cases h1 : i < d.rows.length
    · rw [List.getElem?_append_left h1] at hr; exact .inl ⟨by omega, hr⟩
    · rw [List.getElem?_append_right (by omega)] at hr
      by_cases h2 : i = d.rows.length
      · subst h2; simp at hr; exact .inr ⟨rfl, hr.symm⟩
      · have : i - d.rows.length ≠ 0 := by omega
        obtain ⟨j, hj⟩ : ∃ j, i - d.rows.length = j + 1 := ⟨i - d.rows.length - 1, by omega⟩
        rw [hj] at hr; simp at hr)
  have hc := hm.hcap
  have hm3 := hm2.setN (m := d.rows.length + 1) (by omega)
  have hR3 := RowsIn.setN hm2 hR2 2 (.int .i64 ((d.rows.length + 1 : Nat) : Int))
  refine ⟨by simpa using hm3, by simpa using hnum, hR3, fun r hr => ?_, by simp; omega⟩
  rcases List.mem_append.1 hr with hr | hr
  · exact hsz r hr
  · simp at hr; rw [hr]; exact hl
/-- A chunk more. -/
theorem ColMem.chunkMore {B : Nat} {w w1 : World} {size cap n cb : Nat} {va : Option Addr} {vc : Nat} {gs : List Nat} (h : ColMem B w size cap n cb va vc gs) {gn q vc' : Nat} (hgn : w.heap.size ≤ gn) (hB : B ≤ w.heap.size) (hl : gs.length + 1 ≤ 4097)
    {arr : Array Value} (hgr : ∀ k o, w.heap[k]? = some o → some k ≠ (Value.slice va gs.length vc).ownBlock → w1.heap[k]? = some o) (hnew : w1.heap[gn]? = some (.cells arr 5 (0, 0))) (har : arr.size = 16 * size)
    (hown : w1.ownsRow B 192 1 (.slice (some ⟨q, 0, none⟩) (gs.length + 1) vc') (gs.length + 1) (gs.map (chunkV size) ++ [chunkV size gn])) :
    ColMem B (w1.setCell ⟨cb, 3, none⟩ (.slice (some ⟨q, 0, none⟩) (gs.length + 1) vc')) size cap n cb (some ⟨q, 0, none⟩) vc' (gs ++ [gn]) := by
  have hb1 := hgr cb _ h.blk (ownsRow_ne_block3 h.own h.blk (fun cur he => by cases he))
  have ho := Only.at w1 cb 3 (.slice (some ⟨q, 0, none⟩) (gs.length + 1) vc')
  refine ⟨?_, ?_, h.hcb, ?_, fun x hx => ?_, h.hsz, h.hn, h.hcap, by rw [List.length_append]; exact hl⟩
  · rw [List.length_append]
    simpa using hset w1 cb 3 (.slice (some ⟨q, 0, none⟩) (gs.length + 1) vc') _ _ _ hb1
  · rw [List.length_append, List.map_append]
    refine ownsRow_out hown (Out.only (F := fun b => b = cb) ho rfl) (fun x hx e => ?_)
    subst e
    exact ownsRow_ne_block3 hown hb1 (fun cur he => by cases he) hx.symm
  · rw [List.nodup_append]
    refine ⟨h.nd, by simp, fun a ha b hb => ?_⟩
    simp at hb
    subst hb
    obtain ⟨_, arr', h2, _⟩ := h.chunk a ha
    have := lt_some h2
    omega
  · rcases List.mem_append.1 hx with hx | hx
    · obtain ⟨h1, a, h2, h3⟩ := h.chunk x hx
      have := hgr x _ h2 (ownsRow_ne_block3 h.own h2 (fun cur he => by cases he))
      exact ⟨h1, a, keepO ho this (fun e => by subst e; rw [h.blk] at h2; cases h2), h3⟩
    · simp at hx
      subst hx
      exact ⟨by omega, arr, keepO ho hnew (fun e => by subst e; have := lt_some h.blk; omega), har⟩
theorem make_bytes (n : Nat) (h : n ≤ 100000) (w : World) : (Instr.makeSlice 192 (.int .i64 (n : Int)) (.int .i64 (n : Int))).run Tryz.prog w = .ok (.slice (some ⟨w.heap.size, 0, none⟩) n n) (w.alloc (.cells (madeCells #[.int .u8 0] n) 5)) := by
  obtain ⟨i0, hi, hz0, hz1, hz2⟩ := info_parts Tryz.info5
  have := run_makeSlice (P := Tryz.prog) w 192 5 i0 (.int .u8 0) Tryz.underlying192 hi hz0 .i64 .i64 (n : Int) (n : Int) (by omega) (Int.le_refl _) (by rw [hz1, Int.toNat_natCast]; omega) (by rw [hz2]; omega) (by omega)
  rw [hz1, Int.toNat_natCast, Nat.mul_one] at this
  exact this
set_option maxRecDepth 100000 in
set_option maxHeartbeats 4000000 in
theorem colAppend_any (B : Nat) (w : World) (d : CD) (s : ByteArray) (h : ColAt B w d) (hs : s.size = d.size) (hc : d.rows.length < d.cap) (hB : B ≤ w.heap.size) :
    Calls Tryz.prog 70 #[.pointer (some ⟨d.cb, 0, none⟩), .string s] w fun e w' => e = .returned (.int .i64 0) ∧ ∃ va vc gs, ColAt B w' { d with rows := d.rows ++ [s.data.toList], va := va, vc := vc, gs := gs } ∧ Out d.foot w w' ∧ (∀ b, CD.foot { d with rows := d.rows ++ [s.data.toList], va := va, vc := vc, gs := gs } b → d.foot b ∨ w.heap.size ≤ b) := by
  obtain ⟨size, cap, rows, cb, va, vc, gs⟩ := d
  simp only at hs hc ⊢
  obtain ⟨hm, hnum, hcell, hsz, hle⟩ := h
  simp only at hm hnum hcell hsz hle
  have hcap := hm.hcap
  have hsz256 := hm.hsz
  have hgl := hm.hgl
  have c0 := cell_at hm.blk 0
  have c1 := cell_at hm.blk 1
  have c2 := cell_at hm.blk 2
  have c3 := cell_at hm.blk 3
  simp at c0 c1 c2 c3
  have e1 : ((s.size : Int) != (size : Int)) = false := by rw [hs]; simp
  obtain ⟨n, hn⟩ : ∃ n, rows.length = n := ⟨_, rfl⟩
  obtain ⟨G, hG⟩ : ∃ G, gs.length = G := ⟨_, rfl⟩
  have e2 : ((n : Int) == (cap : Int)) = false := by rw [beq_eq_false_iff_ne]; omega
  rw [hn] at c2
  rw [hG] at c3
  have w1 : IntKind.i64.wrap ((G : Int) * 16) = (G : Int) * 16 := IntWalk.i64_in _ (by omega)
  rw [hn] at hnum hm hc hle
  rw [hG] at hnum
  have HM := Lib.hid hm
  have HR := Lib.hid (show RowsIn w size rows gs from hcell)
  have HSZ := Lib.hid hsz
  have HN := Lib.hid hn
  have HG := Lib.hid hG
  have HS := Lib.hid hs
  have HNUM := Lib.hid hnum
  clear hnum
  by_cases hch : n = G * 16
  · have e3 : ((n : Int) == (G : Int) * 16) = true := by rw [beq_iff_eq]; omega
    obtain ⟨i0, hi, hz0, hz1, hz2⟩ := info_parts Tryz.info192
    obtain ⟨K, hK⟩ : ∃ K, 16 * size = K := ⟨_, rfl⟩
    have hK1 : IntKind.i64.wrap (16 * (size : Int)) = (K : Int) := by rw [IntWalk.i64_in _ (by omega)]; omega
    have hK2 : K ≤ 5000 := by omega
    have hmk := make_bytes K (by omega)
    have HZ := Lib.hid (show (madeCells #[.int .u8 0] K).size = K from size_madeCells _ _)
    generalize madeCells #[.int .u8 0] K = Z at *
    have HK := Lib.hid hK
    have HCH := Lib.hid hch
    clear hch hm hcell hsz hn hG hs hK
    go_enter Tryz.func70, Tryz.ntmps70
    go_wp2_with fail
    go_quiet (fail)
    obtain ⟨n1, rfl⟩ : ∃ n1, n1 = nq := ⟨_, rfl⟩
    go_wp2_with fail
    go_quiet (fail)
    obtain ⟨n2, rfl⟩ : ∃ n2, n2 = nq := ⟨_, rfl⟩
    go_wp2_with fail
    have hMW := (HM.out.drewN n1).drewN n2
    have hRW := (HR.out.drewN n1).drewN n2
    have hOW := ((Out.refl (CD.foot ⟨size, cap, rows, cb, va, vc, gs⟩) w).drewN n1).drewN n2
    have hBW : B ≤ ((w.drewN n1).drewN n2).heap.size := hB
    clear c0 c1 c2 c3
    generalize (w.drewN n1).drewN n2 = W at *
    have c0 := cell_at hMW.blk 0
    have c3 := cell_at hMW.blk 3
    rw [HG.out] at c3
    simp at c0 c3
    have hcbW := lt_some hMW.blk
    have HMW := Lib.hid hMW
    have HRW := Lib.hid hRW
    have HOW := Lib.hid hOW
    have hown : (((W.alloc (.cells Z 5)).alloc (.cells #[.slice (some ⟨W.heap.size, 0, none⟩) K K] 192)).drew).ownsRow B 192 1 (.slice va G vc) G (gs.map (chunkV size)) := by
      have := ((hMW.own.alloc (.cells Z 5)).alloc (.cells #[.slice (some ⟨W.heap.size, 0, none⟩) K K] 192))
      rw [HG.out] at this
      exact this
    have hnews : ∀ j u, ([.slice (some ⟨W.heap.size, 0, none⟩) K K] : List Value)[j]? = some u → (((W.alloc (.cells Z 5)).alloc (.cells #[.slice (some ⟨W.heap.size, 0, none⟩) K K] 192)).drew).cell? ((⟨W.heap.size + 1, 0, none⟩ : Addr).add j) = some u := by
      have := World.news_of_block (w := ((W.alloc (.cells Z 5)).alloc (.cells #[.slice (some ⟨W.heap.size, 0, none⟩) K K] 192)).drew) (cs := #[.slice (some ⟨W.heap.size, 0, none⟩) K K]) (t := 192) (fr := (0, 0)) (heap_alloc_new (W.alloc (.cells Z 5)) _)
      rw [World.size_alloc] at this
      exact this
    have hd : ∀ w6, (((W.alloc (.cells Z 5)).alloc (.cells #[.slice (some ⟨W.heap.size, 0, none⟩) K K] 192)).drew).grownBy w6 (Value.slice va G vc).ownBlock → w6.cell? ⟨cb, 3, none⟩ = some (.slice va G vc) ∧ w6.cell? ⟨cb, 0, none⟩ = some (.int .i64 size) ∧ w6.frozen? ⟨cb, 3, none⟩ = false := by
      intro w6 hg6
      have hb6 := keepG hg6 (show (((W.alloc (.cells Z 5)).alloc (.cells #[.slice (some ⟨W.heap.size, 0, none⟩) K K] 192)).drew).heap[cb]? = _ from keepA _ (keepA _ HMW.out.blk)) (by
        have := ownsRow_ne_block3 HMW.out.own HMW.out.blk (fun cur he => by cases he)
        rw [HG.out] at this
        exact this)
      refine ⟨?_, ?_, free_at hb6 3⟩
      · rw [cell_at hb6, HG.out]; rfl
      · rw [cell_at hb6]; rfl
    have HOWN := Lib.hid hown
    have HNEWS := Lib.hid hnews
    have HD := Lib.hid hd
    clear hMW hRW hOW hown hnews hd
    have hG4 : G ≤ 4097 := by have := HG.out; omega
    have hm1 : G + 1 ≤ maxLen := by unfold maxLen; omega
    have hm2 : (G + 1) * 24 ≤ 140737488355328 := by omega
    go_region_law (first | (refine step_append_lies _ (by rfl) _ _ 205 (by rfl) B 192 i0 _ 1 24 Tryz.underlying205 hi hz0 hz1 hz2 rfl (by omega) (.slice va G vc) G (gs.map (chunkV size)) (by rfl) HOWN.out ⟨W.heap.size + 1, 0, none⟩ 1 1 [.slice (some ⟨W.heap.size, 0, none⟩) K K] (by rfl) (by rfl) HNEWS.out (by intro u hu; simp at hu; subst hu; rfl) (by omega) hm1 hm2 (by simp; omega) (W.heap.size + 2) (by simp) ?_; intro gq cap6 w6 hown6 hg6 hat6 hlt6; obtain ⟨d0, d1, d2⟩ := HD.out _ hg6))
    all_goals
      have hblk6 : ∀ k o, W.heap[k]? = some o → some k ≠ (Value.slice va gs.length vc).ownBlock → w6.heap[k]? = some o := by
        intro k o hk hne
        rw [HG.out] at hne
        exact keepG hg6 (keepA _ (keepA _ hk)) hne
      have hnew6 : w6.heap[W.heap.size]? = some (.cells Z 5 (0, 0)) := keepG hg6 (keepA _ (heap_alloc_new W _)) (fun e => by have := HOWN.out.lt _ e.symm; rw [← HG.out] at e; have h2 := HMW.out.own.lt _ e.symm; omega)
      have hm3 := HMW.out.chunkMore (Nat.le_refl _) hBW (by have h1 := HCH.out; have h2 := HG.out; omega) hblk6 hnew6 (by rw [HZ.out, HK.out]) (by
        rw [HG.out]
        have e : chunkV size W.heap.size = .slice (some ⟨W.heap.size, 0, none⟩) K K := by unfold chunkV; rw [HK.out]
        rw [e]
        exact hown6)
      rw [HG.out] at hm3
      have hout3 : Out (CD.foot ⟨size, cap, rows, cb, va, vc, gs⟩) w (w6.setCell ⟨cb, 3, none⟩ (.slice (some ⟨gq, 0, none⟩) (G + 1) cap6)) := by
        have h1 : Out (CD.foot ⟨size, cap, rows, cb, va, vc, gs⟩) W w6 := ⟨hg6.os, hg6.tape, hg6.output, by have := hg6.size; simp at this; omega, fun k hk hF => (hg6.block k (by simp; omega) (fun e => hF (.inr (.inl (by rw [HG.out]; exact e.symm))))).trans (by
          show (((W.alloc (.cells Z 5)).alloc (.cells #[.slice (some ⟨W.heap.size, 0, none⟩) K K] 192)).drew).heap[k]? = _
          show ((W.alloc (.cells Z 5)).alloc (.cells #[.slice (some ⟨W.heap.size, 0, none⟩) K K] 192)).heap[k]? = _
          rw [halloc, if_neg (by simp; omega), halloc, if_neg (by omega)])⟩
        exact (HOW.out.trans h1 (fun x h => .inl h)).trans (Out.only (Only.at w6 cb 3 _) (.inl rfl)) (fun x h => .inl h)
      have hrow3 : RowsIn (w6.setCell ⟨cb, 3, none⟩ (.slice (some ⟨gq, 0, none⟩) (G + 1) cap6)) size rows (gs ++ [W.heap.size]) := by
        intro i row hr g hg k x hx
        have hi := (List.getElem?_eq_some_iff.1 hr).1
        have h1 := HNUM.out
        have h2 := HN.out
        have h3 := HG.out
        rw [List.getElem?_append_left (by omega)] at hg
        have h4 := HRW.out i row hr g hg k x hx
        obtain ⟨_, a, h5, _⟩ := HMW.out.chunk g (List.mem_of_getElem? hg)
        have h6 := hblk6 g _ h5 (ownsRow_ne_block3 HMW.out.own h5 (fun cur he => by cases he))
        have h7 : g ≠ cb := fun e => by subst e; have := HMW.out.blk; rw [this] at h5; cases h5
        rw [cell_at h5] at h4
        rw [cell_at (keepO (Only.at w6 cb 3 _) h6 h7)]
        exact h4
      have hszW := HOW.out.size
      have hgn : ∃ gn, W.heap.size = gn := ⟨_, rfl⟩
      obtain ⟨gn, hgn⟩ := hgn
      rw [hgn] at hm3 hrow3 hat6 hszW
      have hlen3 : (gs ++ [gn]).length = G + 1 := by rw [List.length_append, HG.out]; rfl
      have hnG : n / 16 < G + 1 := by have := HCH.out; omega
      generalize w6.setCell ⟨cb, 3, none⟩ (.slice (some ⟨gq, 0, none⟩) (G + 1) cap6) = W3 at *
      obtain ⟨GS, hGS⟩ : ∃ GS, gs ++ [gn] = GS := ⟨_, rfl⟩
      rw [hGS] at hm3 hrow3 hlen3
      have c2 := cell_at hm3.blk 2
      simp at c2
      have HM3 := Lib.hid hm3
      have HR3 := Lib.hid hrow3
      have HO3 := Lib.hid hout3
      have HL3 := Lib.hid hlen3
      have HGS := Lib.hid hGS
      have HAT := Lib.hid hat6
      clear hm3 hrow3 hout3 hlen3 hGS hgn hat6 hblk6 hnew6 d0 d1 d2 c0 c3 hg6 hown6
      go_wp2_with fail
      obtain ⟨g, hgg⟩ : ∃ g, GS[n / 16]? = some g := ⟨_, List.getElem?_eq_getElem (by rw [HL3.out]; omega)⟩
      have HGG := Lib.hid hgg
      refine (colCell_any B _ size cap n cb _ _ GS n g HM3.out hgg).mono ?_
      rintro e w1 ⟨rfl, q, rfl⟩
      clear hgg
      obtain ⟨arr, harr, hal⟩ := (HM3.out.chunk g (List.mem_of_getElem? HGG.out)).2
      have hoff : n % 16 * size + s.size ≤ arr.size := by
        have h1 : n % 16 * size ≤ 15 * size := Nat.mul_le_mul_right _ (by omega)
        have h2 := HS.out
        omega
      obtain ⟨w2, hr, ho, hh⟩ := copy_str (W3.drewN q) 3 g (n % 16 * size) (16 * size - n % 16 * size) s arr harr hoff
      rw [HS.out] at hr
      have hm2 : ColMem B w2 size cap n cb _ _ GS := (HM3.out.drewN q).only (List.mem_of_getElem? HGG.out) ho hh (by
        have h3 : (Lib.byteCells s.data.toList).length = s.size := by rw [Lib.byteCells_length]; rfl
        have h4 : arr.toList.length = arr.size := Array.length_toList
        rw [List.size_toArray, length_splice _ _ _ (by omega)]; omega)
      have d2 := cell_at hm2.blk 2
      have d3 := free_at hm2.blk 2
      simp at d2
      have HHR := Lib.hid hr
      have HHO := Lib.hid ho
      have HHH := Lib.hid hh
      have HAR := Lib.hid harr
      have HAL := Lib.hid hal
      clear hr ho hh hm2 harr hal hoff
      go_wp2_with (first | (refine Lib.wpList_copy_run _ rfl _ _ 192 9 rfl _ _ rfl rfl HHR.out ?_))
      go_returns
      have hsl : s.data.toList.length = size := by have := HS.out; exact this
      have hcol := col_push (d := ⟨size, cap, rows, cb, va, vc, gs⟩) s.data.toList (by simpa [HN.out] using HM3.out.drewN q) (HR3.out.drewN q) HSZ.out (by simp only [HN.out]; have h1 := HL3.out; have h2 := HCH.out; omega) (by simp only [HN.out]; exact hc) (by simpa [HN.out] using HGG.out) HAR.out HAL.out hsl HHO.out (by simp only [HN.out]; exact HHH.out)
      simp only [HN.out] at hcol
      refine ⟨rfl, _, _, GS, hcol, ?_, ?_⟩
      · have hcbw := lt_some HM.out.blk
        refine ((HO3.out.drewN q).trans (Out.only (F := fun b => b ∈ GS) HHO.out (List.mem_of_getElem? HGG.out)) (fun x h => ?_)).trans (Out.only (Only.at w2 cb 2 _) (.inl rfl)) (fun x h => .inl h)
        rw [← HGS.out] at h
        rcases List.mem_append.1 h with h | h
        · exact .inl (.inr (.inr h))
        · simp at h; exact .inr (by omega)
      · intro b hb
        rcases hb with rfl | hb | hb
        · exact .inl (.inl rfl)
        · have hb' : gq = b := by simpa [Value.ownBlock] using hb
          subst hb'
          rcases HAT.out with h | h
          · exact .inl (.inr (.inl (by rw [HG.out]; exact h)))
          · exact .inr (by omega)
        · have hb' : b ∈ GS := hb
          rw [← HGS.out] at hb'
          rcases List.mem_append.1 hb' with h | h
          · exact .inl (.inr (.inr h))
          · simp at h; exact .inr (by omega)
  · have e3 : ((n : Int) == (G : Int) * 16) = false := by rw [beq_eq_false_iff_ne]; omega
    have hnG : n / 16 < G := by have := HNUM.out; omega
    clear hm hcell hsz hn hG hs hch
    go_enter Tryz.func70, Tryz.ntmps70
    go_wp2_with fail
    go_quiet (fail)
    obtain ⟨n1, rfl⟩ : ∃ n1, n1 = nq := ⟨_, rfl⟩
    go_wp2_with fail
    go_quiet (fail)
    obtain ⟨n2, rfl⟩ : ∃ n2, n2 = nq := ⟨_, rfl⟩
    have HMW := Lib.hid (HM.out.drewN (n1 + n2))
    have HRW := Lib.hid (HR.out.drewN (n1 + n2))
    go_wp2_with fail
    obtain ⟨g, hgg⟩ : ∃ g, gs[n / 16]? = some g := ⟨_, List.getElem?_eq_getElem (by have := HG.out; omega)⟩
    have HGG := Lib.hid hgg
    refine (colCell_any B _ size cap n cb _ _ gs n g HMW.out hgg).mono ?_
    rintro e w1 ⟨rfl, q, rfl⟩
    clear hgg
    obtain ⟨arr, harr, hal⟩ := (HMW.out.chunk g (List.mem_of_getElem? HGG.out)).2
    obtain ⟨w2, hr, ho, hh⟩ := copy_str (w.drewN (n1 + n2 + q)) 3 g (n % 16 * size) (16 * size - n % 16 * size) s arr harr (by
      have h1 : n % 16 * size ≤ 15 * size := Nat.mul_le_mul_right _ (by omega)
      have h2 := HS.out
      omega)
    rw [HS.out] at hr
    have hm2 : ColMem B w2 size cap n cb _ _ gs := (HM.out.drewN (n1 + n2 + q)).only (List.mem_of_getElem? HGG.out) ho hh (by
      have h1 : n % 16 * size ≤ 15 * size := Nat.mul_le_mul_right _ (by omega)
      have h2 := HS.out
      have h3 : (Lib.byteCells s.data.toList).length = s.size := by rw [Lib.byteCells_length]; rfl
      have h4 : arr.toList.length = arr.size := Array.length_toList
      rw [List.size_toArray, length_splice _ _ _ (by omega)]; omega)
    have d2 := cell_at hm2.blk 2
    have d3 := free_at hm2.blk 2
    simp at d2
    have HHR := Lib.hid hr
    have HHO := Lib.hid ho
    have HHH := Lib.hid hh
    have HAR := Lib.hid harr
    have HAL := Lib.hid hal
    clear hr ho hh hm2 harr hal
    go_wp2_with (first | (refine Lib.wpList_copy_run _ rfl _ _ 192 9 rfl _ _ rfl rfl HHR.out ?_))
    go_returns
    have hsl : s.data.toList.length = size := by have := HS.out; exact this
    have hcol := col_push (d := ⟨size, cap, rows, cb, va, vc, gs⟩) s.data.toList (by simpa [HN.out] using HM.out.drewN (n1 + n2 + q)) (HR.out.drewN (n1 + n2 + q)) HSZ.out (by simp only [HN.out]; have h1 := HNUM.out; have h2 := HG.out; omega) (by simp only [HN.out]; exact hc) (by simpa [HN.out] using HGG.out) HAR.out HAL.out hsl HHO.out (by simp only [HN.out]; exact HHH.out)
    simp only [HN.out] at hcol
    refine ⟨rfl, _, _, gs, hcol, ?_, ?_⟩
    · exact (((Out.refl (CD.foot ⟨size, cap, rows, cb, va, vc, gs⟩) w).drewN _).trans (Out.only HHO.out (.inr (.inr (List.mem_of_getElem? HGG.out)))) (fun x h => .inl h)).trans (Out.only (Only.at w2 cb 2 _) (.inl rfl)) (fun x h => .inl h)
    · exact fun b hb => .inl hb
end Go.Proofs.YtoadihebdaooaaaGreat
namespace Go.Proofs.YtoadihebdaooaaaGreat
open Go.RowKit
set_option linter.unusedVariables false
theorem Out.drew {F : Nat → Prop} {a b : World} (h : Out F a b) : Out F a b.drew := ⟨h.os, h.tape, h.output, h.size, h.block⟩
theorem copy_sl (w : World) (ty : TypeId) (g off cap g2 off2 cap2 : Nat) (l : List UInt8) (arr : Array Value) (hg : w.heap[g]? = some (.cells arr 5 (0, 0))) (hfit : off + l.length ≤ arr.size) (hsrc : ∀ (k : Nat) (x : UInt8), l[k]? = some x → w.cell? ⟨g2, off2 + k, none⟩ = some (.int .u8 x.toNat)) :
    ∃ w', (Builtin.copy_ #[192, 192] ty #[.slice (some ⟨g, off, none⟩) l.length cap, .slice (some ⟨g2, off2, none⟩) l.length cap2]).run Tryz.prog w = .ok (goInt l.length) w' ∧ Only g w w' ∧ w'.heap[g]? = some (.cells (splice arr.toList off (Lib.byteCells l)).toArray 5 (0, 0)) := by
  have hlen : (Lib.byteCells l).length = l.length := Lib.byteCells_length l
  have hr := run_copy_row (P := Tryz.prog) w 192 192 ty 5 g off l.length cap ⟨g2, off2, none⟩ l.length cap2 arr 5 (Lib.byteCells l) Tryz.underlying192 (by kernel_rfl) hg (by rw [hlen]; exact (Nat.min_self _).symm) (fun j v hv => by
    have : (⟨g2, off2, none⟩ : Addr).add j = ⟨g2, off2 + j, none⟩ := by simp [Addr.add]
    rw [this]
    simp only [Lib.byteCells, List.getElem?_map, Option.map_eq_some_iff] at hv
    obtain ⟨x, hx, rfl⟩ := hv
    exact hsrc j x hx) (by rw [hlen]; exact hfit) (Lib.byteCells_one l)
  rw [hlen] at hr
  refine ⟨_, hr, Only.setRow _ _ _, ?_⟩
  rw [setRow_heap w g _ _ _ _ hg]
  simp [splice, hlen]
theorem ownsRow_shrink {w : World} {b : Nat} {e : TypeId} {va : Option Addr} {n vc m : Nat} {xs : List Value} (h : w.ownsRow b e 1 (.slice va n vc) n xs) (hm : m ≤ n) (h0 : 0 < n) : w.ownsRow b e 1 (.slice va m vc) m (xs.take m) := by
  obtain ⟨h1, h2⟩ := h
  refine ⟨by rw [List.length_take]; omega, ?_⟩
  rcases h2 with ⟨_, h3⟩ | ⟨g, cap, cur, hv, hg, hh, hc1, hc2, hc3, hc4⟩
  · omega
  · cases hv
    exact .inr ⟨g, vc, cur, rfl, hg, hh, by omega, hc2, hc3, by rw [← hc4, List.take_take]; congr 1; omega⟩
theorem ColMem.shrink {B : Nat} {w : World} {size cap n cb : Nat} {va : Option Addr} {vc : Nat} {gs : List Nat} {G : Nat} (h : ColMem B w size cap n cb va vc gs) (hG : gs.length = G + 1) : ColMem B (w.setCell ⟨cb, 3, none⟩ (.slice va G vc)) size cap n cb va vc (gs.take G) := by
  have ho := Only.at w cb 3 (.slice va G vc)
  have hl : (gs.take G).length = G := by rw [List.length_take]; omega
  refine ⟨?_, ?_, h.hcb, h.nd.sublist (List.take_sublist _ _), fun x hx => ?_, h.hsz, h.hn, h.hcap, by rw [hl]; have := h.hgl; omega⟩
  · rw [hl]
    simpa using hset w cb 3 (.slice va G vc) _ _ _ h.blk
  · rw [hl]
    have := ownsRow_shrink h.own (show G ≤ gs.length by omega) (by omega)
    rw [← List.map_take] at this
    refine ownsRow_out this (Out.only (F := fun b => b = cb) ho rfl) (fun x hx e => ?_)
    subst e
    exact ownsRow_ne_block3 this h.blk (fun cur he => by cases he) hx.symm
  · obtain ⟨h1, a, h2, h3⟩ := h.chunk x (List.mem_of_mem_take hx)
    exact ⟨h1, a, keepO ho h2 (fun e => by subst e; rw [h.blk] at h2; cases h2), h3⟩
theorem RowsIn.sub {w : World} {size : Nat} {rows rows' : List (List UInt8)} {gs gs' : List Nat} (h : RowsIn w size rows gs) (h1 : ∀ (i : Nat) (r : List UInt8), rows'[i]? = some r → rows[i]? = some r) (h2 : ∀ (i g : Nat), gs'[i]? = some g → gs[i]? = some g) : RowsIn w size rows' gs' :=
  fun i row hr g hg k x hx => h i row (h1 i row hr) g (h2 _ g hg) k x hx
theorem take_sub {α : Type} {l : List α} {m i : Nat} {x : α} (h : (l.take m)[i]? = some x) : l[i]? = some x := by
  rw [List.getElem?_take] at h
  split at h
  · exact h
  · cases h
set_option maxRecDepth 100000 in
set_option maxHeartbeats 4000000 in
theorem colSet_any (B : Nat) (w : World) (d : CD) (i : Nat) (s : ByteArray) (h : ColAt B w d) (hi : i < d.rows.length) (hs : s.size = d.size) :
    Calls Tryz.prog 83 #[.pointer (some ⟨d.cb, 0, none⟩), .int .i64 (i : Int), .string s] w fun e w' => e = .returned (.int .i64 0) ∧ ColAt B w' { d with rows := d.rows.set i s.data.toList } ∧ Out d.foot w w' := by
  obtain ⟨size, cap, rows, cb, va, vc, gs⟩ := d
  simp only at hs hi ⊢
  obtain ⟨hm, hnum, hcell, hsz, hle⟩ := h
  simp only at hm hnum hcell hsz hle
  have hchk := colCheck_any size cap rows.length cb _ (i : Int) w hm.blk
  rw [if_pos ⟨by omega, by omega⟩] at hchk
  have HCHK := Lib.hid hchk
  have hsz256 := hm.hsz
  have c0 := cell_at hm.blk 0
  simp at c0
  have e1 : ((s.size : Int) != (size : Int)) = false := by rw [hs]; simp
  obtain ⟨g, hgg⟩ : ∃ g, gs[i / 16]? = some g := ⟨_, List.getElem?_eq_getElem (by omega)⟩
  obtain ⟨arr, harr, hal⟩ := (hm.chunk g (List.mem_of_getElem? hgg)).2
  have hsl : s.data.toList.length = size := by exact hs
  have hoff : i % 16 * size + s.size ≤ arr.size := by
    have h1 : i % 16 * size ≤ 15 * size := Nat.mul_le_mul_right _ (by omega)
    omega
  have hmem : g ∈ gs := List.mem_of_getElem? hgg
  have HM := Lib.hid hm
  have HR := Lib.hid (show RowsIn w size rows gs from hcell)
  have HSZ := Lib.hid hsz
  have HS := Lib.hid hs
  have HNUM := Lib.hid hnum
  have HGG := Lib.hid hgg
  have HAR := Lib.hid harr
  have HAL := Lib.hid hal
  clear hm hcell hsz hs hnum hgg harr hal hchk
  go_enter Tryz.func83, Tryz.ntmps83
  go_wp2_with fail
  refine HCHK.out.mono ?_
  rintro e w1 ⟨rfl, rfl⟩
  clear HCHK
  go_wp2_with fail
  refine (colCell_any B _ size cap rows.length cb _ _ gs i g HM.out HGG.out).mono ?_
  rintro e w1 ⟨rfl, q, rfl⟩
  obtain ⟨w2, hr, ho, hh⟩ := copy_str (w.drewN q) 3 g (i % 16 * size) (16 * size - i % 16 * size) s arr HAR.out hoff
  rw [HS.out] at hr
  have HHR := Lib.hid hr
  have HHO := Lib.hid ho
  have HHH := Lib.hid hh
  clear hr ho hh
  go_wp2_with (first | (refine Lib.wpList_copy_run _ rfl _ _ 192 9 rfl _ _ rfl rfl HHR.out ?_))
  go_returns
  have hasz : (splice arr.toList (i % 16 * size) (Lib.byteCells s.data.toList)).toArray.size = 16 * size := by
    have h3 : (Lib.byteCells s.data.toList).length = s.size := by rw [Lib.byteCells_length]; rfl
    have h4 : arr.toList.length = arr.size := Array.length_toList
    have h5 := HAL.out
    rw [List.size_toArray, length_splice _ _ _ (by omega)]; omega
  have hm2 := (HM.out.drewN q).only hmem HHO.out HHH.out hasz
  refine ⟨rfl, ⟨by simpa using hm2, by simpa using HNUM.out, ?_, fun r hr => ?_, by simpa using hle⟩, ((Out.refl _ w).drewN _).trans (Out.only HHO.out (.inr (.inr hmem))) (fun x h => .inl h)⟩
  · refine (HR.out.drewN q).lay HM.out.nd HSZ.out HGG.out HAR.out hsl HAL.out HHO.out HHH.out _ (fun j row hj => ?_)
    by_cases e : j = i
    · subst e
      rw [List.getElem?_set_self hi] at hj
      cases hj
      exact .inr ⟨rfl, rfl⟩
    · rw [List.getElem?_set_ne (Ne.symm e)] at hj
      exact .inl ⟨e, hj⟩
  · rcases List.mem_or_eq_of_mem_set hr with hr | rfl
    · exact HSZ.out r hr
    · exact hsl
set_option maxRecDepth 100000 in
set_option maxHeartbeats 400000 in
theorem colSwap_any (B : Nat) (w : World) (d : CD) (i m : Nat) (l : List UInt8) (h : ColAt B w d) (hi : i ≤ m) (hm : d.rows.length = m + 1) (hl : d.rows[m]? = some l) :
    Calls Tryz.prog 80 #[.pointer (some ⟨d.cb, 0, none⟩), .int .i64 (i : Int)] w fun e w' => e = .returned (.tuple #[.int .i64 (m : Int), .int .i64 0]) ∧ ∃ gs, ColAt B w' { d with rows := (d.rows.set i l).take m, gs := gs } ∧ Out d.foot w w' ∧ (∀ b, CD.foot { d with rows := (d.rows.set i l).take m, gs := gs } b → d.foot b) := by
  obtain ⟨size, cap, rows, cb, va, vc, gs⟩ := d
  simp only at hm hl ⊢
  obtain ⟨hmm, hnum, hcell, hsz, hle⟩ := h
  simp only at hmm hnum hcell hsz hle
  have hchk := colCheck_any size cap rows.length cb _ (i : Int) w hmm.blk
  rw [if_pos ⟨by omega, by omega⟩] at hchk
  have HCHK := Lib.hid hchk
  have hsz256 := hmm.hsz
  have hcap := hmm.hcap
  have c2 := cell_at hmm.blk 2
  rw [hm] at c2
  simp at c2
  obtain ⟨g, hgg⟩ : ∃ g, gs[i / 16]? = some g := ⟨_, List.getElem?_eq_getElem (by omega)⟩
  obtain ⟨g2, hgg2⟩ : ∃ g2, gs[m / 16]? = some g2 := ⟨_, List.getElem?_eq_getElem (by omega)⟩
  obtain ⟨arr, harr, hal⟩ := (hmm.chunk g (List.mem_of_getElem? hgg)).2
  have hsl : l.length = size := hsz l (List.mem_of_getElem? hl)
  have hoff : i % 16 * size + l.length ≤ arr.size := by
    have h1 : i % 16 * size ≤ 15 * size := Nat.mul_le_mul_right _ (by omega)
    omega
  have hmem : g ∈ gs := List.mem_of_getElem? hgg
  have hsrc : ∀ (k : Nat) (x : UInt8), l[k]? = some x → w.cell? ⟨g2, m % 16 * size + k, none⟩ = some (.int .u8 x.toNat) := hcell m l hl g2 hgg2
  have HM := Lib.hid hmm
  have HR := Lib.hid (show RowsIn w size rows gs from hcell)
  have HSZ := Lib.hid hsz
  have HSL := Lib.hid hsl
  have HLM := Lib.hid hm
  have HNUM := Lib.hid hnum
  have HGG := Lib.hid hgg
  have HGG2 := Lib.hid hgg2
  have HAR := Lib.hid harr
  have HAL := Lib.hid hal
  have HSRC := Lib.hid hsrc
  have HLE := Lib.hid hle
  have hmb : m < 65536 := by omega
  clear hmm hcell hsz hsl hnum hgg hgg2 harr hal hchk hsrc hl hm hle
  go_enter Tryz.func80, Tryz.ntmps80
  go_wp2_with fail
  refine HCHK.out.mono ?_
  rintro e w1 ⟨rfl, rfl⟩
  clear HCHK
  go_wp2_with fail
  refine (colCell_any B _ size cap rows.length cb _ _ gs i g HM.out HGG.out).mono ?_
  rintro e w1 ⟨rfl, q, rfl⟩
  go_wp2_with fail
  refine (colCell_any B _ size cap rows.length cb _ _ gs m g2 (HM.out.drewN q) HGG2.out).mono ?_
  rintro e w1 ⟨rfl, q2, rfl⟩
  obtain ⟨w2, hr, ho, hh⟩ := copy_sl (w.drewN (q + q2)) 3 g (i % 16 * size) (16 * size - i % 16 * size) g2 (m % 16 * size) (16 * size - m % 16 * size) l arr HAR.out hoff HSRC.out
  rw [HSL.out] at hr
  have hasz : (splice arr.toList (i % 16 * size) (Lib.byteCells l)).toArray.size = 16 * size := by
    have h3 : (Lib.byteCells l).length = l.length := Lib.byteCells_length l
    have h4 : arr.toList.length = arr.size := Array.length_toList
    have h5 := HAL.out
    rw [List.size_toArray, length_splice _ _ _ (by omega)]; omega
  have hm2 := (HM.out.drewN (q + q2)).only hmem ho hh hasz
  have d2 := cell_at hm2.blk 2
  have d3 := cell_at hm2.blk 3
  have f2 := free_at hm2.blk 2
  have f3 := free_at hm2.blk 3
  simp at d2 d3
  have HHR := Lib.hid hr
  have HHO := Lib.hid ho
  have HHH := Lib.hid hh
  have HM2 := Lib.hid hm2
  clear hr ho hh hm2
  go_wp2_with (first | (refine Lib.wpList_copy_run _ rfl _ _ 192 192 rfl _ _ rfl rfl HHR.out ?_))
  all_goals
    have hrow2 : RowsIn w2 size (rows.set i l) gs := (HR.out.drewN (q + q2)).lay HM.out.nd HSZ.out HGG.out HAR.out HSL.out HAL.out HHO.out HHH.out _ (fun j row hj => by
      by_cases e : j = i
      · subst e
        rw [List.getElem?_set_self (by have := HLM.out; omega)] at hj
        cases hj
        exact .inr ⟨rfl, rfl⟩
      · rw [List.getElem?_set_ne (Ne.symm e)] at hj
        exact .inl ⟨e, hj⟩)
    have hm3 := HM2.out.setN (m := m) (by omega)
    have hrow3 := RowsIn.setN HM2.out hrow2 2 (.int .i64 (m : Int))
    have hout3 : Out (CD.foot ⟨size, cap, rows, cb, va, vc, gs⟩) w (w2.setCell ⟨cb, 2, none⟩ (.int .i64 (m : Int))) := (((Out.refl _ w).drewN _).trans (Out.only HHO.out (.inr (.inr hmem))) (fun x h => .inl h)).trans (Out.only (Only.at w2 cb 2 _) (.inl rfl)) (fun x h => .inl h)
    have hsz3 : ∀ r ∈ (rows.set i l).take m, r.length = size := fun r hr => by
      rcases List.mem_or_eq_of_mem_set (List.mem_of_mem_take hr) with hr | rfl
      · exact HSZ.out r hr
      · exact HSL.out
    have hlen3 : ((rows.set i l).take m).length = m := by rw [List.length_take, List.length_set]; have := HLM.out; omega
    generalize w2.setCell ⟨cb, 2, none⟩ (.int .i64 (m : Int)) = W3 at *
    have HM3 := Lib.hid hm3
    have HR3 := Lib.hid hrow3
    have HO3 := Lib.hid hout3
    have HS3 := Lib.hid hsz3
    have HL3 := Lib.hid hlen3
    clear hrow2 hm3 hrow3 hout3 hsz3 hlen3 HHR HHO HHH HM2 d2 d3 f2 f3
  · have hdiv : m % 16 = 0 := by
      have : ((m : Int) % 16 == 0) = true := by assumption
      rw [beq_iff_eq] at this; omega
    obtain ⟨G, hG⟩ : ∃ G, gs.length = G + 1 := ⟨gs.length - 1, by have := HGG.out; have := (List.getElem?_eq_some_iff.1 this).1; omega⟩
    have hGm : G * 16 = m := by have h1 := HNUM.out; have h2 := HLM.out; omega
    have c3 := cell_at HM3.out.blk 3
    have f3 := free_at HM3.out.blk 3
    rw [hG] at c3
    simp at c3
    have hgl := HM3.out.hgl
    have hG1 : G ≤ 5000 := by omega
    have hw1 : IntKind.i64.wrap (G : Int) = (G : Int) := IntWalk.i64_in _ (by omega)
    have i1 : (0 : Int) ≤ (G : Int) := by omega
    have hvc : G + 1 ≤ vc := by
      rcases HM3.out.own.2 with ⟨_, h0⟩ | ⟨q0, cap', cur', h1, _, _, h4, _⟩
      · omega
      · cases h1; omega
    have i2 : (G : Int) ≤ (vc : Int) := by omega
    have HGL := Lib.hid hG
    have HGM := Lib.hid hGm
    have HDIV := Lib.hid hdiv
    clear hG hGm hdiv hgl
    go_region_law (fail)
    all_goals
      go_wp2_with fail
      go_ret2
      have hms := (HM3.out.shrink HGL.out).out ((Out.refl (fun _ => False) _).drew) (by simp) (by simp) (by simp)
      have hrs := RowsIn.setN HM3.out HR3.out 3 (.slice va G vc)
      have hlg : (gs.take G).length = G := by rw [List.length_take]; have := HGL.out; omega
      refine ⟨rfl, gs.take G, ⟨by simpa [HL3.out] using hms, by simp only [HL3.out]; have h1 := HGM.out; omega, RowsIn.sub hrs (fun i r h => take_sub h) (fun i g h => take_sub h), HS3.out, by simp only [HL3.out]; have h1 := HLE.out; have h2 := HLM.out; omega⟩, ?_, fun b hb => ?_⟩
      · exact (HO3.out.trans (Out.only (Only.at W3 cb 3 _) (.inl rfl)) (fun x h => .inl h)).drew
      · rcases hb with rfl | hb | hb
        · exact .inl rfl
        · refine .inr (.inl ?_)
          show (Value.slice va gs.length vc).ownBlock = some b
          cases va with
          | none => cases hb
          | some a => exact hb
        · exact .inr (.inr (List.mem_of_mem_take hb))
  · have hdiv : ¬ m % 16 = 0 := by
      have : ((m : Int) % 16 == 0) = false := by assumption
      rw [beq_eq_false_iff_ne] at this; omega
    go_ret2
    refine ⟨rfl, gs, ⟨by simpa [HL3.out] using HM3.out, by simp only [HL3.out]; have h1 := HNUM.out; have h2 := HLM.out; omega, HR3.out.sub (fun i r h => take_sub h) (fun i g h => h), HS3.out, by simp only [HL3.out]; have h1 := HLE.out; have h2 := HLM.out; omega⟩, HO3.out, fun b hb => hb⟩
end Go.Proofs.YtoadihebdaooaaaGreat
