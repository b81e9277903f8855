/- Contracts of Go's library at this translation, laid by the kit's tool. · Contracts of layout.Pack and its closure. · Frames: all stays but a set of blocks; rows. -/
import Derived.Shelf.Strings.Builder1
import Derived.Shelf.Strings.Builder2
import Derived.Shelf.Strings.BuilderF
import Derived.Shelf.Strings.BuilderK
import Derived.Shelf.Strings.Builder2Cap
import Derived.Shelf.Strings.Prefix
import Derived.Shelf.Bits.Mul64
import Derived.Shelf.Strings.Repeat
import Derived.Shelf.Strings.BuilderCap
import Derived.Test.YthmpknlgkflhiabGreatProg
import Derived.Test.YthmpknlgkflhiabGreatP9
import Derived.Test.YthmpknlgkflhiabGreatP1
namespace Go.Proofs
open Go.Shelf
def Tryz.lays170_ren : Go.Shelf.Ren := ⟨fun | 170 => 116 | n => n, fun | 70 => 188 | 3 => 3 | 0 => 0 | 72 => 191 | 37 => 189 | 5 => 5 | n => n, fun | n => n⟩
theorem Tryz.lays170 : Go.Proofs.Lays.n170 Tryz.prog Tryz.lays170_ren := {
  mixed := by kernel_rfl
  f170 := Tryz.func116.trans (congrArg some (by kernel_rfl))
  t0 := Tryz.underlying0
  a0 := Tryz.isAgg0
  z0 := Tryz.sizeOf0
  v0 := Tryz.zeroValue0
  t3 := Tryz.underlying3
  a3 := Tryz.isAgg3
  z3 := Tryz.sizeOf3
  v3 := Tryz.zeroValue3
  t37 := Tryz.underlying189
  a37 := Tryz.isAgg189
  z37 := Tryz.sizeOf189
  v37 := Tryz.zeroValue189
  t70 := Tryz.underlying188
  a70 := Tryz.isAgg188
  z70 := Tryz.sizeOf188
  v70 := Tryz.zeroValue188
  t72 := Tryz.underlying191
  a72 := Tryz.isAgg191
  z72 := Tryz.sizeOf191
  v72 := Tryz.zeroValue191 }
def Tryz.lays169_ren : Go.Shelf.Ren := ⟨fun | 169 => 118 | n => n, fun | 70 => 188 | 9 => 9 | 0 => 0 | 72 => 191 | 37 => 189 | 127 => 236 | 3 => 3 | 5 => 5 | n => n, fun | n => n⟩
theorem Tryz.lays169 : Go.Proofs.Lays.n169 Tryz.prog Tryz.lays169_ren := {
  mixed := by kernel_rfl
  f169 := Tryz.func118.trans (congrArg some (by kernel_rfl))
  t0 := Tryz.underlying0
  a0 := Tryz.isAgg0
  z0 := Tryz.sizeOf0
  v0 := Tryz.zeroValue0
  t3 := Tryz.underlying3
  a3 := Tryz.isAgg3
  z3 := Tryz.sizeOf3
  v3 := Tryz.zeroValue3
  t9 := Tryz.underlying9
  a9 := Tryz.isAgg9
  z9 := Tryz.sizeOf9
  v9 := Tryz.zeroValue9
  t37 := Tryz.underlying189
  a37 := Tryz.isAgg189
  z37 := Tryz.sizeOf189
  v37 := Tryz.zeroValue189
  t70 := Tryz.underlying188
  a70 := Tryz.isAgg188
  z70 := Tryz.sizeOf188
  v70 := Tryz.zeroValue188
  t72 := Tryz.underlying191
  a72 := Tryz.isAgg191
  z72 := Tryz.sizeOf191
  v72 := Tryz.zeroValue191
  t127 := Tryz.underlying236
  a127 := Tryz.isAgg236
  z127 := Tryz.sizeOf236
  v127 := Tryz.zeroValue236 }
theorem Tryz.Builder_Extra_169 : Builder.Extra Tryz.prog Tryz.lays169_ren := {
  sizeBuilder := by kernel_rfl
  liesBuilder := by kernel_rfl
  t5 := Tryz.underlying5
  a5 := Tryz.isAgg5
  z5 := Tryz.sizeOf5
  v5 := Tryz.zeroValue5
  infoByte := by kernel_rfl
  cellsByte := by kernel_rfl
  sizeByte := by kernel_rfl
  neB5 := by decide }
open Go.RowKit in
theorem Tryz.Builder_Len_f (B b : Nat) (bs : List Value) (w : World) (h : Lib.IsBuilderF 191 5 B b bs w) :
    Calls Tryz.prog 116 #[.pointer (some ⟨b, 0, none⟩)] w fun e w' => e = .returned (.int .i64 bs.length) ∧ w' = w := Any.Builder_Len_f Tryz.lays170 B b bs w h
open Go.RowKit in
theorem Tryz.Builder_String_any_k (B b : Nat) (l : List UInt8) (w : World) (h : Lib.IsBuilderF 191 5 B b (Lib.byteCells l) w) (hBw : B ≤ w.heap.size) :
    Calls Tryz.prog 118 #[.pointer (some ⟨b, 0, none⟩)] w fun e w' => e = .returned (.string ⟨l.toArray⟩) ∧ (Lib.IsBuilderF 191 5 B b (Lib.byteCells l) w' ∧ Below B w w' ∧ Lib.OthersKept 5 (some b) w w') := Any.Builder_String_any_k Tryz.lays169 Tryz.Builder_Extra_169 B b l w h hBw
def Tryz.lays105_ren : Go.Shelf.Ren := ⟨fun | 105 => 115 | 212 => 142 | 99 => 143 | 165 => 144 | 166 => 114 | 170 => 116 | 169 => 118 | 263 => 171 | 264 => 172 | 206 => 173 | 240 => 141 | 241 => 174 | 276 => 170 | 277 => 189 | n => n, fun | 9 => 9 | 3 => 3 | 4 => 4 | 20 => 20 | 0 => 0 | 46 => 59 | 109 => 227 | 5 => 5 | 72 => 191 | 76 => 194 | 51 => 56 | 146 => 258 | 53 => 34 | 148 => 260 | 70 => 188 | 37 => 189 | 75 => 193 | 127 => 236 | 164 => 256 | 80 => 199 | n => n, fun | n => n⟩
theorem Tryz.lays105 : Go.Proofs.Lays.n105 Tryz.prog Tryz.lays105_ren := {
  mixed := by kernel_rfl
  f99 := Tryz.func143.trans (congrArg some (by kernel_rfl))
  f105 := Tryz.func115.trans (congrArg some (by kernel_rfl))
  f165 := Tryz.func144.trans (congrArg some (by kernel_rfl))
  f166 := Tryz.func114.trans (congrArg some (by kernel_rfl))
  f169 := Tryz.func118.trans (congrArg some (by kernel_rfl))
  f170 := Tryz.func116.trans (congrArg some (by kernel_rfl))
  f206 := Tryz.func173.trans (congrArg some (by kernel_rfl))
  f212 := Tryz.func142.trans (congrArg some (by kernel_rfl))
  f240 := Tryz.func141.trans (congrArg some (by kernel_rfl))
  f241 := Tryz.func174.trans (congrArg some (by kernel_rfl))
  f263 := Tryz.func171.trans (congrArg some (by kernel_rfl))
  f264 := Tryz.func172.trans (congrArg some (by kernel_rfl))
  f276 := Tryz.func170.trans (congrArg some (by kernel_rfl))
  f277 := Tryz.func189.trans (congrArg some (by kernel_rfl))
  t0 := Tryz.underlying0
  a0 := Tryz.isAgg0
  z0 := Tryz.sizeOf0
  v0 := Tryz.zeroValue0
  t3 := Tryz.underlying3
  a3 := Tryz.isAgg3
  z3 := Tryz.sizeOf3
  v3 := Tryz.zeroValue3
  t4 := Tryz.underlying4
  a4 := Tryz.isAgg4
  z4 := Tryz.sizeOf4
  v4 := Tryz.zeroValue4
  t5 := Tryz.underlying5
  a5 := Tryz.isAgg5
  z5 := Tryz.sizeOf5
  v5 := Tryz.zeroValue5
  t9 := Tryz.underlying9
  a9 := Tryz.isAgg9
  z9 := Tryz.sizeOf9
  v9 := Tryz.zeroValue9
  t20 := Tryz.underlying20
  a20 := Tryz.isAgg20
  z20 := Tryz.sizeOf20
  v20 := Tryz.zeroValue20
  t37 := Tryz.underlying189
  a37 := Tryz.isAgg189
  z37 := Tryz.sizeOf189
  v37 := Tryz.zeroValue189
  t46 := Tryz.underlying59
  a46 := Tryz.isAgg59
  z46 := Tryz.sizeOf59
  v46 := Tryz.zeroValue59
  t51 := Tryz.underlying56
  a51 := Tryz.isAgg56
  z51 := Tryz.sizeOf56
  v51 := Tryz.zeroValue56
  t53 := Tryz.underlying34
  a53 := Tryz.isAgg34
  z53 := Tryz.sizeOf34
  v53 := Tryz.zeroValue34
  t70 := Tryz.underlying188
  a70 := Tryz.isAgg188
  z70 := Tryz.sizeOf188
  v70 := Tryz.zeroValue188
  t72 := Tryz.underlying191
  a72 := Tryz.isAgg191
  z72 := Tryz.sizeOf191
  v72 := Tryz.zeroValue191
  t75 := Tryz.underlying193
  a75 := Tryz.isAgg193
  z75 := Tryz.sizeOf193
  v75 := Tryz.zeroValue193
  t76 := Tryz.underlying194
  a76 := Tryz.isAgg194
  z76 := Tryz.sizeOf194
  v76 := Tryz.zeroValue194
  t109 := Tryz.underlying227
  a109 := Tryz.isAgg227
  z109 := Tryz.sizeOf227
  v109 := Tryz.zeroValue227
  t127 := Tryz.underlying236
  a127 := Tryz.isAgg236
  z127 := Tryz.sizeOf236
  v127 := Tryz.zeroValue236
  t146 := Tryz.underlying258
  a146 := Tryz.isAgg258
  z146 := Tryz.sizeOf258
  v146 := Tryz.zeroValue258
  t148 := Tryz.underlying260
  a148 := Tryz.isAgg260
  z148 := Tryz.sizeOf260
  v148 := Tryz.zeroValue260
  t164 := Tryz.underlying256
  a164 := Tryz.isAgg256
  z164 := Tryz.sizeOf256
  v164 := Tryz.zeroValue256 }
theorem Tryz.Builder_Extra_105 : Builder.Extra Tryz.prog Tryz.lays105_ren := {
  sizeBuilder := by kernel_rfl
  liesBuilder := by kernel_rfl
  t5 := Tryz.underlying5
  a5 := Tryz.isAgg5
  z5 := Tryz.sizeOf5
  v5 := Tryz.zeroValue5
  infoByte := by kernel_rfl
  cellsByte := by kernel_rfl
  sizeByte := by kernel_rfl
  neB5 := by decide }
open Go.RowKit Go.Lib in
theorem Tryz.strings_Repeat (s : ByteArray) (c : Nat) (w : World) (hc : c ≤ 9223372036854775807) (hlen : s.size * c ≤ 140737488355328) :
    Calls Tryz.prog 115 #[.string s, .int .i64 c] w fun e w' => e = .returned (.string ⟨(Lib.repeatL s.data.toList c).toArray⟩) ∧ Below w.heap.size w w' := Any.strings_Repeat Tryz.lays105 Tryz.Builder_Extra_105 s c w hc hlen
open Go.RowKit in
theorem Tryz.Builder_WriteString_k (B b : Nat) (bs : List Value) (s : ByteArray) (w : World) (h : Lib.IsBuilderF 191 5 B b bs w) (hlen : bs.length + s.size ≤ 140737488355328) (hBw : B ≤ w.heap.size) :
    Calls Tryz.prog 114 #[.pointer (some ⟨b, 0, none⟩), .string s] w fun e w' => e = .returned (.tuple #[.int .i64 s.size, .nilIface]) ∧ (Lib.BuilderAtF 191 5 B b (.pointer (some ⟨b, 0, none⟩)) (bs ++ Lib.strCells s) w' ∧ Below B w w' ∧ Lib.OthersKept 5 (some b) w w') :=
  Any.Builder_WriteString_k { Tryz.lays105 with } Tryz.Builder_Extra_105 B b bs s w h hlen hBw
end Go.Proofs
namespace Go.Proofs.YthmpknlgkflhiabGreat
open Go.RowKit
set_option linter.unusedVariables false
theorem builder_below {T e : TypeId} {B b : Nat} {bs : List Value} {w w' : World} (h : Lib.IsBuilderF T e B b bs w) (hb : Below w.heap.size w w') : Lib.IsBuilderF T e B b bs w' := by
  rcases h with ⟨h1, v, h2, h3, h4⟩ | ⟨h1, v, h2, h3, h4⟩
  · exact .inl ⟨h1, v, keep hb h2, h3.kept (grownOf hb none) (by cases v.ownBlock <;> simp), h4⟩
  · exact .inr ⟨h1, v, keep hb h2, h3.kept (grownOf hb none) (by cases v.ownBlock <;> simp), h4⟩
theorem othersOf {e : TypeId} {b : Option Nat} {w w' : World} (hb : Below w.heap.size w w') : Lib.OthersKept e b w w' := fun _ _ hk _ _ => keep hb hk
theorem ret_si {l l' : List UInt8} {a b : Int} (h1 : l = l') (h2 : a = b) : Ending.returned (.tuple #[.string ⟨l.toArray⟩, .int .i64 a]) = .returned (.tuple #[.string ⟨l'.toArray⟩, .int .i64 b]) := by rw [h1, h2]
theorem strCells_bytes (l : List UInt8) : Lib.strCells ⟨l.toArray⟩ = Lib.byteCells l := rfl
theorem repeatL_zero (c : Nat) : Lib.repeatL [0] c = List.replicate c 0 := by
  induction c with
  | zero => rfl
  | succ c ih => rw [Lib.repeatL, ih, List.replicate_succ]; rfl
set_option maxRecDepth 100000 in
theorem pad_any (B b : Nat) (l : List UInt8) (n : Nat) (w : World) (h : Lib.IsBuilderF 191 5 B b (Lib.byteCells l) w) (hle : l.length ≤ n) (h1 : n ≤ 100000) (hBw : B ≤ w.heap.size) :
    Calls Tryz.prog 113 #[.int .i64 (n : Int), .pointer (some ⟨b, 0, none⟩)] w fun e w' => e = .returned (.tuple #[]) ∧ Lib.IsBuilderF 191 5 B b (Lib.byteCells (padB l n)) w' ∧ Below B w w' ∧ Lib.OthersKept 5 (some b) w w' := by
  have HL := Lib.hid (Lib.byteCells_length l)
  have HH := Lib.hid h
  clear h
  go_enter Tryz.func113, Tryz.ntmps113
  go_wp2_with fail
  refine (Tryz.Builder_Len_f B b _ _ HH.out).mono ?_
  rintro e w' ⟨rfl, rfl⟩
  rw [HL.out]
  have hw1 : IntKind.i64.wrap ((n : Int) - (l.length : Int)) = ((n - l.length : Nat) : Int) := by rw [IntWalk.i64_in _ (by omega)]; omega
  obtain ⟨d, hd⟩ : ∃ d, n - l.length = d := ⟨_, rfl⟩
  rw [hd] at hw1
  have HD := Lib.hid hd
  clear hd
  go_wp2_with fail
  have hd' := HD.out
  refine (Tryz.strings_Repeat ⟨#[0]⟩ d _ (by omega) (by show 1 * d ≤ _; omega)).mono ?_
  rintro e w2 ⟨rfl, hb2⟩
  have hz := hb2.size
  have hh2 : Lib.IsBuilderF 191 5 B b (Lib.byteCells l) w2 := builder_below HH.out hb2
  go_wp2_with fail
  refine (Tryz.Builder_WriteString_k B b _ _ _ hh2 (by rw [HL.out]; show l.length + (Lib.repeatL [0] d).toArray.size ≤ _; rw [repeatL_zero]; simp; omega) (by omega)).mono ?_
  rintro e w3 ⟨rfl, hb3, hbel, hok⟩
  have HB3 := Lib.hid hb3
  have HBEL := Lib.hid hbel
  have HOK := Lib.hid hok
  clear hb3 hbel hh2 hok
  go_wp2_with fail
  go_end0
  refine ⟨rfl, ?_, hb2.mono hBw |>.trans HBEL.out, (othersOf hb2).trans HOK.out⟩
  refine .inr ?_
  have := HB3.out
  rw [repeatL_zero, strCells_bytes, ← Lib.byteCells_append] at this
  unfold padB
  rw [HD.out]
  exact this
theorem keepB {B : Nat} {w w' : World} {b : Nat} {o : Obj} (hb : Below B w w') (h : w.heap[b]? = some o) (hk : b < B) : w'.heap[b]? = some o := (hb.block b hk).trans h
theorem fit_zero {fs : List Fld} {val : List WI} (h : fitF fs val = 0) : layCheck fs = 0 ∧ val.length = cnt fs ∧ fitGo fs val = 0 := by
  unfold fitF at h
  split at h
  · contradiction
  · rename_i h1
    split at h
    · cases h
    · rename_i h2
      exact ⟨by simpa using h1, by simpa using h2, h⟩
theorem fitGo_at : ∀ (fs : List Fld) (val : List WI) (k : Nat) (f : Fld), fitGo fs val = 0 → fs[k]? = some f → ((val.drop (cnt (fs.take k))).take f.count.toNat).all (fitsF f.kind) = true
  | [], _, _, _, _, h => by simp at h
  | g :: r, val, 0, f, h0, h => by
    simp at h
    subst h
    unfold fitGo at h0
    split at h0
    · rename_i hg; simpa [cnt] using hg
    · cases h0
  | g :: r, val, k + 1, f, h0, h => by
    unfold fitGo at h0
    split at h0
    · have := fitGo_at r _ k f h0 (by simpa using h)
      rw [List.drop_drop] at this
      rw [List.take_succ_cons, cnt_cons]
      exact this
    · cases h0
set_option maxRecDepth 100000 in
set_option maxHeartbeats 2000000 in
theorem pack_ok (fs : List Fld) (a : Option Addr) (len cap : Nat) (va : Option Addr) (vl vc : Nat) (val : List WI) (w : World) (hfs : FieldsAt w.heap.size w a len fs) (hc : len ≤ cap) (hv : IntsAt w.heap.size w va vl vc val) (hfit : fitF fs val = 0) :
    Calls Tryz.prog 80 #[.slice a len cap, .slice va vl vc] w fun e w' => e = .returned (.tuple #[.string ⟨(packF fs val).toArray⟩, .int .i64 0]) ∧ Below w.heap.size w w' := by
  have hmx : len ≤ maxLen := hfs.2.1
  have hlen := hfs.1
  have hvl := hv.1
  obtain ⟨hl, hcn, hgo⟩ := fit_zero hfit
  obtain ⟨h8, hall, h256⟩ := layCheck_zero hl
  have hcl := cnt_le fs hall
  unfold maxLen at hmx
  have HFS := Lib.hid hfs
  have HV := Lib.hid hv
  have HLN := Lib.hid hlen
  have HVL := Lib.hid hvl
  have HFIT := Lib.hid hfit
  have HLC := Lib.hid hl
  have HCN := Lib.hid hcn
  have HGO := Lib.hid hgo
  have HA := Lib.hid hall
  clear hfs hv hlen hvl hfit hl hcn hgo hall
  go_enter Tryz.func80, Tryz.ntmps80
  go_wp2_with fail
  refine (fit_any fs _ _ _ _ _ _ val _ HFS.out hc HV.out).mono ?_
  rintro e w1 ⟨rfl, hb1⟩
  rw [HFIT.out]
  go_wp2_with fail
  refine (plan_any fs _ _ _ _ ((HFS.out.below hb1).mono (by have := hb1.size; omega)) (by have := HLN.out; omega) (fun f hf => by have h := HA.out; rw [List.all_eq_true] at h; have := fldOk_bd (h f hf); omega)).mono ?_
  rintro e w2 ⟨pa, pc, rfl, hprow, hb2⟩
  go_wp2_with fail
  have hP := keepA (.cells #[.pointer none, .slice none 0 0] 191) (heap_alloc_new w2 (.cells #[.int .i64 (planSize fs), .slice pa len pc] 186))
  have hI := Lib.IsBuilderF.of (Lib.fresh_isBuilder 191 5 (w2.alloc (.cells #[.int .i64 (planSize fs), .slice pa len pc] 186)))
  have hbW : Below w.heap.size w ((w2.alloc (.cells #[.int .i64 (planSize fs), .slice pa len pc] 186)).alloc (.cells #[.pointer none, .slice none 0 0] 191)) := by
    have h1 := hb1.size
    have h2 := hb2.size
    exact ((hb1.trans (hb2.mono h1)).alloc (by omega) _).alloc (by simp; omega) _
  have hR : ∀ (k : Nat) (u : Int), (planF fs).1[k]? = some u → ∃ q, pa = some ⟨q, 0, none⟩ ∧ q < w2.heap.size ∧ ((w2.alloc (.cells #[.int .i64 (planSize fs), .slice pa len pc] 186)).alloc (.cells #[.pointer none, .slice none 0 0] 191)).cell? ⟨q, k, none⟩ = some (.int .i64 u) := by
    intro k u hu
    have hk : k < len := by have := (List.getElem?_eq_some_iff.1 hu).1; rw [planF_len] at this; have := HLN.out; omega
    obtain ⟨q, rfl, _, hq, hqc⟩ := row_block ((hprow.alloc (.cells #[.int .i64 (planSize fs), .slice pa len pc] 186)).alloc (.cells #[.pointer none, .slice none 0 0] 191)) (by omega)
    refine ⟨q, rfl, ?_, hqc k _ (by simp [hu])⟩
    obtain ⟨q', he, _, hq', _⟩ := row_block hprow (show 0 < len by omega)
    cases he
    exact hq'
  rw [World.size_alloc] at hI
  have hzW : ((w2.alloc (.cells #[.int .i64 (planSize fs), .slice pa len pc] 186)).alloc (.cells #[.pointer none, .slice none 0 0] 191)).heap.size = w2.heap.size + 2 := by rw [World.size_alloc, World.size_alloc]
  have hz0 : w.heap.size ≤ w2.heap.size := by have h1 := hb1.size; have h2 := hb2.size; omega
  generalize (w2.alloc (.cells #[.int .i64 (planSize fs), .slice pa len pc] 186)).alloc (.cells #[.pointer none, .slice none 0 0] 191) = W at *
  generalize w2.heap.size = PB at *
  have HP := Lib.hid hP
  have HI := Lib.hid hI
  have HR := Lib.hid hR
  have HZW := Lib.hid hzW
  clear hP hI hR hzW hprow hb1 hb2
  go_loopw [1, 27] (fun v j wr => ∃ k : Nat, k ≤ len ∧ j = .int .i64 (k : Int) ∧ FitVal w.heap.size val fs k v wr ∧ Lib.IsBuilderF 191 5 (PB + 1) (PB + 1) (Lib.byteCells (packPre (fs.take k) val).2.1) wr ∧ Below (PB + 1) W wr) (fun _ j _ => len - (intOf j).toNat)
  case atStart => exact ⟨0, by omega, rfl, ⟨_, _, _, rfl, by simpa [cnt] using HV.out.below hbW⟩, HI.out, Below.refl _ _⟩
  case round =>
    obtain ⟨k, hk, rfl, ⟨a2, l2, c2, rfl, hva⟩, hbd, hbr⟩ := hrel
    have hbw := hbW.trans (hbr.mono (show w.heap.size ≤ PB + 1 by omega))
    have hz := hbr.size
    have hzW := HZW.out
    have hzr : PB + 2 ≤ wr.heap.size := by omega
    clear hzW hz
    by_cases hlt : k < len
    · obtain ⟨b, off, f, rfl, hB, hf, c0, c1, c2'⟩ := HFS.out.get hbw hlt
      have hfo : fldOk f = true := by have h := HA.out; rw [List.all_eq_true] at h; exact h f (List.mem_of_getElem? hf)
      obtain ⟨ks1, ks2, f1, f2⟩ := fldOk_bd hfo
      have hct := cnt_take_succ hf
      have hcl2 := cnt_take_le (fs := fs) (k + 1)
      have hll := hva.1
      rw [List.length_drop] at hll
      have hl2x : c2 ≤ maxLen := hva.2.2.1
      have hl2y : l2 ≤ c2 := hva.2.1
      unfold maxLen at hl2x
      obtain ⟨c, hc'⟩ : ∃ c : Nat, f.count = c := ⟨f.count.toNat, by omega⟩
      have hcc : c ≤ l2 := by have h1 := HCN.out; rw [hc'] at hct; simp at hct; omega
      rw [hc'] at f1 f2 c2'
      have hfl := HLN.out
      obtain ⟨p0, p1, p2, p3⟩ := plan_bd (show (fs.take k).length ≤ 8 by rw [List.length_take]; omega) (all_take HA.out k)
      obtain ⟨u1, u2, u3⟩ := upF_eq p0 (by omega) ks1 ks2
      have hpl := (pack_len _ (fs.take k) rfl (by rw [List.length_take]; omega) (all_take HA.out k) val (by have := cnt_take_le (fs := fs) k; have := HCN.out; omega)).1
      obtain ⟨n, hn⟩ : ∃ n : Nat, upF (planF (fs.take k)).2.1 (kSize f.kind) = n := ⟨(upF (planF (fs.take k)).2.1 (kSize f.kind)).toNat, by omega⟩
      have hat := plan_at hf
      rw [hn] at hat u2 u3
      obtain ⟨q, rfl, hq, hqc⟩ := HR.out k n hat
      have hqr := (hbr.cell (p := ⟨q, k, none⟩) (show q < PB + 1 by omega)).trans hqc
      have hpb := keepB hbr HP.out (by omega)
      have t0 := cell_at hpb 0
      have t1 := cell_at hpb 1
      simp at t0 t1
      have hstep : packPre (fs.take (k + 1)) val = packStep (packPre (fs.take k) val) f := by rw [take_snoc hf, packPre_snoc]
      have hrest := (pack_len _ (fs.take k) rfl (by rw [List.length_take]; omega) (all_take HA.out k) val (by have := cnt_take_le (fs := fs) k; have := HCN.out; omega)).2
      have hstep2 : (packPre (fs.take (k + 1)) val).2.1 = padB (packPre (fs.take k) val).2.1 n ++ ((val.drop (cnt (fs.take k))).take c).flatMap (putB f.kind) := by
        rw [hstep]
        unfold packStep
        rw [hrest, packPre_fst, hn, hc']
        rfl
      have hfi := fitGo_at fs val k f HGO.out hf
      rw [hc', Int.toNat_natCast] at hfi
      have i1 : (0 : Int) ≤ (k : Int) := by omega
      have i2 : (k : Int) < (len : Int) := by omega
      have z1 : PB < wr.heap.size := by omega
      have z2 : q < wr.heap.size := by omega
      have z3 : b < wr.heap.size := by omega
      have hln : (packPre (fs.take k) val).2.1.length ≤ n := by omega
      have hn1 : n ≤ 1000 := by omega
      generalize (packPre (fs.take k) val).2.1 = pre at *
      have hvf := hva.below ((Below.refl w.heap.size wr).alloc (by omega) (.cells #[.string f.name, .int .i64 f.kind, .int .i64 (c : Int)] 117))
      have hbf := builder_below hbd ((Below.refl _ wr).alloc (Nat.le_refl _) (.cells #[.string f.name, .int .i64 f.kind, .int .i64 (c : Int)] 117))
      have HCC := Lib.hid hc'
      have HF := Lib.hid hf
      have HVA := Lib.hid hvf
      have HBF := Lib.hid hbf
      have HS2 := Lib.hid hstep2
      have HFI := Lib.hid hfi
      have HLN2 := Lib.hid hln
      have HN1 := Lib.hid hn1
      clear hfo hct hcl2 hll hc' hf hva hvf hbf hbd hstep hstep2 hrest hfi hpl hat hn u1 u2 u3 p0 p1 p2 p3 hqc hfl hpb hln hn1
      go_wp2_with fail
      have hf7 := heap_alloc_new wr (.cells #[.string f.name, .int .i64 f.kind, .int .i64 (c : Int)] 117)
      have hzf := World.size_alloc wr (.cells #[.string f.name, .int .i64 f.kind, .int .i64 (c : Int)] 117)
      have hbf : Below (PB + 1) W (wr.alloc (.cells #[.string f.name, .int .i64 f.kind, .int .i64 (c : Int)] 117)) := hbr.alloc (by omega) _
      generalize wr.alloc (.cells #[.string f.name, .int .i64 f.kind, .int .i64 (c : Int)] 117) = wf at *
      obtain ⟨H, hH⟩ : ∃ H, wr.heap.size = H := ⟨_, rfl⟩
      rw [hH] at hf7 hzf ⊢
      have hzr' : PB + 2 ≤ H := by omega
      clear hH c0 c1 c2' hbr hbw z1 z2 z3 hqr t0 t1 hzr
      refine (pad_any (PB + 1) (PB + 1) pre n wf HBF.out HLN2.out (by have := HN1.out; omega) (by omega)).mono ?_
      rintro e w3 ⟨rfl, hI3, hb3, ho3⟩
      have hf3 := ho3 H _ hf7 (by simp; omega) (fun c fz he => by cases he)
      have k0 := cell_at hf3 1
      have k1 := cell_at hf3 2
      simp at k0 k1
      have hH3 := lt_some hf3
      have HF3 := Lib.hid hf3
      have HI3 := Lib.hid hI3
      have HB3 := Lib.hid (hbf.trans hb3)
      have HVA3 := Lib.hid (HVA.out.below (hb3.mono (show w.heap.size ≤ PB + 1 by omega)))
      have HLT := Lib.hid hlt
      have HZ3 := Lib.hid (show PB + 1 ≤ w3.heap.size by have := hb3.size; omega)
      clear hf3 hI3 hb3 ho3 hf7 hzf hbf HBF HVA hlt
      go_wp2_with fail
      clear k0 k1
      go_loopw [44] (fun j ws => ∃ m : Nat, m ≤ c ∧ j = .int .i64 (m : Int) ∧ Lib.IsBuilderF 191 5 (PB + 1) (PB + 1) (Lib.byteCells (padB pre n ++ ((val.drop (cnt (fs.take k))).take m).flatMap (putB f.kind))) ws ∧ ws.heap[H]? = some (.cells #[.string f.name, .int .i64 f.kind, .int .i64 (c : Int)] 117 (0, 0)) ∧ Below (PB + 1) w3 ws) (fun j _ => c - (intOf j).toNat)
      case atStart => exact ⟨0, by omega, rfl, by simpa using HI3.out, HF3.out, Below.refl _ _⟩
      case round =>
        obtain ⟨m, hm, rfl, hI, hblk, hbs⟩ := hrel
        have k1 := cell_at hblk 1
        have k2 := cell_at hblk 2
        simp at k1 k2
        have hHs := lt_some hblk
        have hzs : PB + 1 ≤ wr.heap.size := by omega
        have HII := Lib.hid hI
        have HBLK := Lib.hid hblk
        have HBS := Lib.hid hbs
        clear hI hblk hbs
        by_cases hlt : m < c
        · obtain ⟨vb, vo, x, rfl, hvb, hx, hxw, x0, x1, x2⟩ := HVA3.out.get (HBS.out.mono (show w.heap.size ≤ PB + 1 by omega)) (show m < l2 by omega)
          have htk : ((val.drop (cnt (fs.take k))).take c)[m]? = some x := by rw [List.getElem?_take, if_pos hlt]; exact hx
          have hfx : fitsF f.kind x = true := by have h := HFI.out; rw [List.all_eq_true] at h; exact h x (List.mem_of_getElem? htk)
          have htk2 : ((val.drop (cnt (fs.take k))).take (m + 1)).flatMap (putB f.kind) = ((val.drop (cnt (fs.take k))).take m).flatMap (putB f.kind) ++ putB f.kind x := by rw [take_snoc hx, List.flatMap_append]; simp
          have hpl : (padB pre n).length + (((val.drop (cnt (fs.take k))).take m).flatMap (putB f.kind)).length ≤ 2000 := by
            rw [padB_len HLN2.out, flat_len]
            have h1 := HN1.out
            have h2 : ((val.drop (cnt (fs.take k))).take m).length ≤ 8 := by rw [List.length_take]; omega
            have h3 := (kSize_bd f.kind).2
            have h4 : ((val.drop (cnt (fs.take k))).take m).length * (kSize f.kind).toNat ≤ 8 * 8 := Nat.mul_le_mul h2 (by omega)
            omega
          have hi1 := builder_below HII.out ((Below.refl _ wr).alloc (Nat.le_refl _) (.cells #[.bool x.neg, .int .u64 x.hi, .int .u64 x.lo] 67))
          have hbl1 := keepA (.cells #[.bool x.neg, .int .u64 x.hi, .int .u64 x.lo] 67) HBLK.out
          have HI1 := Lib.hid hi1
          have HBL1 := Lib.hid hbl1
          have HTK := Lib.hid htk2
          have HPL := Lib.hid hpl
          have HFX := Lib.hid hfx
          have i1 : (0 : Int) ≤ (m : Int) := by omega
          have i2 : (m : Int) < (c : Int) := by omega
          clear hx htk hfx htk2 hpl hi1 hbl1
          obtain ⟨xn, xh, xl⟩ := x
          go_wp2_with fail
          refine (put_any f.kind ⟨xn, xh, xl⟩ _ hxw HFX.out).mono ?_
          rintro e w5 ⟨rfl, hb5⟩
          have hi5 := builder_below HI1.out hb5
          have hbl5 := keep hb5 HBL1.out
          have hzz := hb5.size
          rw [World.size_alloc] at hzz
          have HI5 := Lib.hid hi5
          have HBL5 := Lib.hid hbl5
          have HB5 := Lib.hid ((HBS.out.alloc hzs (.cells #[.bool xn, .int .u64 xh, .int .u64 xl] 67)).trans (hb5.mono (by simp; omega)))
          clear hi5 hbl5 hb5 k1 k2 x0 x1 x2
          go_wp2_with fail
          refine (Tryz.Builder_WriteString_k (PB + 1) (PB + 1) _ ⟨(putB f.kind ⟨xn, xh, xl⟩).toArray⟩ _ HI5.out (by
            rw [Lib.byteCells_length, List.length_append]
            have h1 := HPL.out
            have h2 := (kSize_bd f.kind).2
            have h3 : (putB f.kind ⟨xn, xh, xl⟩).toArray.size ≤ 8 := by rw [List.size_toArray, putB_len]; omega
            show _ + (putB f.kind ⟨xn, xh, xl⟩).toArray.size ≤ _
            omega) (by omega)).mono ?_
          rintro e w6 ⟨rfl, hI6, hb6, ho6⟩
          have hf6 := ho6 H _ HBL5.out (by simp; omega) (fun c fz he => by cases he)
          have HI6 := Lib.hid hI6
          have HF6 := Lib.hid hf6
          have HB6 := Lib.hid (HB5.out.trans hb6)
          clear hI6 hf6 hb6 ho6
          go_wp2_with fail
          go_roundw
          case rel =>
            refine ⟨m + 1, by omega, by go_num, ?_, HF6.out, HB6.out⟩
            rw [HTK.out, ← List.append_assoc, Lib.byteCells_append, ← strCells_bytes (putB f.kind ⟨xn, xh, xl⟩)]
            exact .inr HI6.out
          case measure => simp [intOf]; omega
        · obtain rfl : m = c := by omega
          have hdr := (HVA3.out.below (HBS.out.mono (show w.heap.size ≤ PB + 1 by omega))).drop hcc
          rw [List.drop_drop] at hdr
          have hct := cnt_take_succ HF.out
          rw [HCC.out, Int.toNat_natCast] at hct
          rw [← hct] at hdr
          have HDR := Lib.hid hdr
          clear hdr hct
          have hlt2 := HLT.out
          have HBB := Lib.hid (HB3.out.trans HBS.out)
          have hII := HII.out
          rw [← HS2.out] at hII
          have HII2 := Lib.hid hII
          clear hII
          by_cases he : c2 = m
          · subst he
            obtain rfl : l2 = c2 := by omega
            have hdr := HDR.out
            rw [if_pos rfl, Nat.sub_self] at hdr
            have HDR2 := Lib.hid hdr
            clear hdr
            go_wp2_with fail
            go_roundw
            case rel => exact ⟨k + 1, by omega, by go_num, ⟨_, _, _, rfl, HDR2.out⟩, HII2.out, HBB.out⟩
            case measure => simp [intOf]; omega
          · have hdr := HDR.out
            rw [if_neg he] at hdr
            have HDR2 := Lib.hid hdr
            clear hdr
            go_wp2_with fail
            go_roundw
            case rel => exact ⟨k + 1, by omega, by go_num, ⟨_, _, _, rfl, HDR2.out⟩, HII2.out, HBB.out⟩
            case measure => simp [intOf]; omega
    · obtain rfl : k = len := by omega
      rw [List.take_of_length_le (by have := HLN.out; omega)] at hbd
      have hfl := HLN.out
      obtain ⟨p0, p1, p2, p3⟩ := plan_bd (show fs.length ≤ 8 by omega) HA.out
      obtain ⟨u1, u2, u3⟩ := upF_eq p0 (by omega) p2 p3
      have hpl := (pack_len _ fs rfl (by omega) HA.out val (by have := HCN.out; omega)).1
      obtain ⟨n, hn⟩ : ∃ n : Nat, planSize fs = n := ⟨(planSize fs).toNat, by unfold planSize; omega⟩
      have hln : (packPre fs val).2.1.length ≤ n := by unfold planSize at hn; omega
      have hn1 : n ≤ 1000 := by omega
      have HRES := Lib.hid (show packF fs val = padB (packPre fs val).2.1 n by unfold packF; rw [hn]; rfl)
      have hpb := keepB hbr HP.out (by omega)
      have t0 := cell_at hpb 0
      have t1 := cell_at hpb 1
      rw [hn] at t0
      simp at t0 t1
      generalize (packPre fs val).2.1 = pre at *
      have HBD := Lib.hid hbd
      have HLN2 := Lib.hid hln
      have HBW := Lib.hid hbw
      have HN1 := Lib.hid hn1
      clear hbd hln hpb hn hpl u1 u2 u3 p0 p1 p2 p3 hfl hva hbw hn1
      go_wp2_with fail
      refine (pad_any (PB + 1) (PB + 1) pre n _ HBD.out HLN2.out (by have := HN1.out; omega) (by omega)).mono ?_
      rintro e w3 ⟨rfl, hI3, hb3, _⟩
      have hz3 := hb3.size
      have HI3 := Lib.hid hI3
      have HB3 := Lib.hid hb3
      clear hI3 hb3
      go_wp2_with fail
      refine (Tryz.Builder_String_any_k (PB + 1) (PB + 1) _ _ HI3.out (by omega)).mono ?_
      rintro e w4 ⟨rfl, _, hb4, _⟩
      have HB4 := Lib.hid hb4
      clear hb4
      go_wp2_with fail
      go_ret2
      exact ⟨ret_si HRES.out.symm rfl, (HBW.out.trans (HB3.out.mono (by omega))).trans (HB4.out.mono (by omega))⟩
end Go.Proofs.YthmpknlgkflhiabGreat
namespace Go.Proofs.YthmpknlgkflhiabGreat
open Go.RowKit
set_option linter.unusedVariables false
/-- All that was and isn't in F stays. -/
structure Out (F : Nat → Prop) (w w' : World) : Prop where
  os : w'.os = w.os
  tape : w'.tape = w.tape
  output : w'.output = w.output
  size : w.heap.size ≤ w'.heap.size
  block : ∀ k, k < w.heap.size → ¬ F k → w'.heap[k]? = w.heap[k]?
theorem Out.refl (F : Nat → Prop) (w : World) : Out F w w := ⟨rfl, rfl, rfl, Nat.le_refl _, fun _ _ _ => rfl⟩
theorem Out.trans {F G : Nat → Prop} {a b c : World} (h : Out F a b) (k : Out G b c) (hG : ∀ x, G x → F x ∨ a.heap.size ≤ x) : Out F a c :=
  ⟨k.os.trans h.os, k.tape.trans h.tape, k.output.trans h.output, Nat.le_trans h.size k.size, fun i hi hF => (k.block i (by have := h.size; omega) (fun hg => by exact (hG i hg).elim hF (by omega))).trans (h.block i hi hF)⟩
theorem Out.mono {F G : Nat → Prop} {a b : World} (h : Out F a b) (hG : ∀ x, F x → G x ∨ a.heap.size ≤ x) : Out G a b := ⟨h.os, h.tape, h.output, h.size, fun i hi hn => h.block i hi (fun hf => by exact (hG i hf).elim hn (by omega))⟩
theorem Out.of {F : Nat → Prop} {a b : World} (h : Below a.heap.size a b) : Out F a b := ⟨h.os, h.tape, h.output, h.size, fun i hi _ => h.block i hi⟩
theorem Out.below {F : Nat → Prop} {B : Nat} {a b : World} (h : Out F a b) (hF : ∀ x, F x → B ≤ x) (hB : B ≤ a.heap.size) : Below B a b := ⟨h.os, h.tape, h.output, h.size, fun i hi => h.block i (by omega) (fun hf => by have := hF i hf; omega)⟩
theorem Out.keep {F : Nat → Prop} {a b : World} (h : Out F a b) {k : Nat} {o : Obj} (hk : a.heap[k]? = some o) (hn : ¬ F k) : b.heap[k]? = some o := (h.block k (lt_some hk) hn).trans hk
theorem Out.only {b : Nat} {F : Nat → Prop} {w w' : World} (h : Only b w w') (hF : F b) : Out F w w' := ⟨h.os, h.tape, h.output, by rw [h.size]; exact Nat.le_refl _, fun k _ hk => h.block k (fun e => hk (e ▸ hF))⟩
theorem ownsRow_out {F : Nat → Prop} {w w' : World} {b s : Nat} {e : TypeId} {v : Value} {n : Nat} {xs : List Value} (h : w.ownsRow b e s v n xs) (ho : Out F w w') (hn : ∀ x, v.ownBlock = some x → ¬ F x) : w'.ownsRow b e s v n xs := by
  obtain ⟨h1, h2⟩ := h
  refine ⟨h1, ?_⟩
  rcases h2 with h2 | ⟨g, cap, cur, rfl, hg, hh, r⟩
  · exact .inl h2
  · exact .inr ⟨g, cap, cur, rfl, hg, ho.keep hh (hn g rfl), r⟩
theorem Out.drewN {F : Nat → Prop} {a b : World} (h : Out F a b) (n : Nat) : Out F a (b.drewN n) := ⟨h.os, h.tape, h.output, h.size, h.block⟩
theorem ret_sl {a : Option Addr} {n n' c : Nat} (h : n = n') : Ending.returned (.slice a n c) = .returned (.slice a n' c) := by rw [h]
theorem row_type {w : World} {B s : Nat} {e : TypeId} {v : Value} {n : Nat} {xs : List Value} (h : w.ownsRow B e s v n xs) {b : Nat} (hb : v.ownBlock = some b) : ∃ cur, w.heap[b]? = some (.cells cur e (0, 0)) := by
  rcases h.2 with ⟨rfl, _⟩ | ⟨g, cap, cur, rfl, _, hh, _⟩
  · cases hb
  · obtain rfl : g = b := by simpa [Value.ownBlock] using hb
    exact ⟨cur, hh⟩
theorem ownsRow_set {w : World} {b : Nat} {e : TypeId} {va : Option Addr} {n vc r : Nat} {xs : List Value} (u : Value) (h : w.ownsRow b e 1 (.slice va n vc) n xs) (hr : r < n) :
    ∃ q, va = some ⟨q, 0, none⟩ ∧ (w.setCell ⟨q, r, none⟩ u).ownsRow b e 1 (.slice va n vc) n (xs.set r u) ∧ w.frozen? ⟨q, r, none⟩ = false ∧ q < w.heap.size ∧ n ≤ vc := by
  obtain ⟨h1, h2⟩ := h
  rcases h2 with ⟨_, h3⟩ | ⟨g, cap, cur, hv, hg, hh, hc1, hc2, hc3, hc4⟩
  · omega
  · cases hv
    refine ⟨g, rfl, ⟨by rw [List.length_set]; exact h1, .inr ⟨g, vc, cur.setIfInBounds r u, rfl, hg, hset w g r u _ _ _ hh, hc1, hc2, by rw [Array.size_setIfInBounds]; exact hc3, ?_⟩⟩, free_at hh r, lt_some hh, hc1⟩
    rw [Array.toList_setIfInBounds, ← hc4, List.take_set]
end Go.Proofs.YthmpknlgkflhiabGreat
