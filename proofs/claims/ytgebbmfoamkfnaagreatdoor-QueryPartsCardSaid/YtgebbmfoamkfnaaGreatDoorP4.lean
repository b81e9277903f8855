/-  · strings.Join of a row of texts. · Contracts of the two slices.Clone. · Contract of schema.Clone. -/
import Derived.Shelf.Strings.Builder1
import Derived.Shelf.Strings.Builder2
import Derived.Shelf.Strings.OnBuilder
import Derived.Shelf.Strings.BuilderF
import Derived.Shelf.Strings.BuilderK
import Derived.Shelf.Strings.Builder2Cap
import Derived.Shelf.Strconv.Itoa0
import Derived.Shelf.Strconv.Itoa1
import Derived.Shelf.LaysM
import Derived.Shelf.Strconv.Itoa2
import Derived.Shelf.Strconv.Itoa3
import Derived.Shelf.Strings.Search1
import Derived.Shelf.Strings.Search2
import Derived.Shelf.Strings.Search3
import Derived.Shelf.Strings.Cut
import Derived.Shelf.Strings.Count
import Derived.Shelf.Strings.Shaped
import Derived.Shelf.Strings.Prefix
import Derived.Shelf.Bits.Mul64
import Derived.Shelf.Strings.Repeat
import Derived.Shelf.Unicode.DecodeSlow
import Derived.Shelf.Strings.BuilderCap
import Derived.Test.YtgebbmfoamkfnaaGreatDoorProg
import Derived.Test.YtgebbmfoamkfnaaGreatDoorP1
import Derived.Test.YtgebbmfoamkfnaaGreatDoorP3
import Derived.Test.YtgebbmfoamkfnaaGreatDoorP2
import Derived.Deep.RegionHeld3
import Derived.Deep.RegionWith
import Derived.BigRegion
namespace Go.Proofs
open Go.Shelf
def Tryz.lays156_ren : Go.Shelf.Ren := ⟨fun | 156 => 79 | 165 => 110 | 166 => 111 | 169 => 112 | 240 => 146 | 241 => 147 | 276 => 178 | 277 => 179 | n => n, fun | 31 => 139 | 9 => 9 | 3 => 3 | 4 => 4 | 0 => 0 | 20 => 20 | 72 => 203 | 76 => 143 | 70 => 201 | 37 => 156 | 75 => 142 | 127 => 242 | 164 => 284 | 5 => 5 | 80 => 40 | n => n, fun | n => n⟩
theorem Tryz.lays156 : Go.Proofs.Lays.n156 Tryz.prog Tryz.lays156_ren := {
  mixed := by kernel_rfl
  f156 := Tryz.func79.trans (congrArg some (by kernel_rfl))
  f165 := Tryz.func110.trans (congrArg some (by kernel_rfl))
  f166 := Tryz.func111.trans (congrArg some (by kernel_rfl))
  f169 := Tryz.func112.trans (congrArg some (by kernel_rfl))
  f240 := Tryz.func146.trans (congrArg some (by kernel_rfl))
  f241 := Tryz.func147.trans (congrArg some (by kernel_rfl))
  f276 := Tryz.func178.trans (congrArg some (by kernel_rfl))
  f277 := Tryz.func179.trans (congrArg some (by kernel_rfl))
  t0 := Tryz.underlying0
  a0 := Tryz.isAgg0
  z0 := Tryz.sizeOf0
  v0 := Tryz.zeroValue0
  t3 := Tryz.underlying3
  a3 := Tryz.isAgg3
  z3 := Tryz.sizeOf3
  v3 := Tryz.zeroValue3
  t4 := Tryz.underlying4
  a4 := Tryz.isAgg4
  z4 := Tryz.sizeOf4
  v4 := Tryz.zeroValue4
  t9 := Tryz.underlying9
  a9 := Tryz.isAgg9
  z9 := Tryz.sizeOf9
  v9 := Tryz.zeroValue9
  t20 := Tryz.underlying20
  a20 := Tryz.isAgg20
  z20 := Tryz.sizeOf20
  v20 := Tryz.zeroValue20
  t31 := Tryz.underlying139
  a31 := Tryz.isAgg139
  z31 := Tryz.sizeOf139
  v31 := Tryz.zeroValue139
  t37 := Tryz.underlying156
  a37 := Tryz.isAgg156
  z37 := Tryz.sizeOf156
  v37 := Tryz.zeroValue156
  t70 := Tryz.underlying201
  a70 := Tryz.isAgg201
  z70 := Tryz.sizeOf201
  v70 := Tryz.zeroValue201
  t72 := Tryz.underlying203
  a72 := Tryz.isAgg203
  z72 := Tryz.sizeOf203
  v72 := Tryz.zeroValue203
  t75 := Tryz.underlying142
  a75 := Tryz.isAgg142
  z75 := Tryz.sizeOf142
  v75 := Tryz.zeroValue142
  t76 := Tryz.underlying143
  a76 := Tryz.isAgg143
  z76 := Tryz.sizeOf143
  v76 := Tryz.zeroValue143
  t127 := Tryz.underlying242
  a127 := Tryz.isAgg242
  z127 := Tryz.sizeOf242
  v127 := Tryz.zeroValue242
  t164 := Tryz.underlying284
  a164 := Tryz.isAgg284
  z164 := Tryz.sizeOf284
  v164 := Tryz.zeroValue284 }
theorem Tryz.Builder_Extra_156 : Builder.Extra Tryz.prog Tryz.lays156_ren := {
  sizeBuilder := by kernel_rfl
  liesBuilder := by kernel_rfl
  t5 := Tryz.underlying5
  a5 := Tryz.isAgg5
  z5 := Tryz.sizeOf5
  v5 := Tryz.zeroValue5
  infoByte := by kernel_rfl
  cellsByte := by kernel_rfl
  sizeByte := by kernel_rfl
  neB5 := by decide }
open Go.RowKit in
theorem Tryz.strings_Join (bk o c : Nat) (xs : List ByteArray) (sep : ByteArray) (w : World) (hcells : ∀ (j : Nat) x, xs[j]? = some x → w.cell? ⟨bk, o + j, none⟩ = some (.string x)) (hbk : bk < w.heap.size) (hN : xs.length ≤ 140737488355328) (hcap : xs.length ≤ c) (hlen : (Lib.join (xs.map (·.data.toList)) sep.data.toList).length ≤ 140737488355328) :
    Calls Tryz.prog 79 #[.slice (some ⟨bk, o, none⟩) xs.length c, .string sep] w fun e w' => e = .returned (.string ⟨(Lib.join (xs.map (·.data.toList)) sep.data.toList).toArray⟩) ∧ Below w.heap.size w w' := Any.strings_Join Tryz.lays156 Tryz.Builder_Extra_156 bk o c xs sep w hcells hbk hN hcap hlen
def Tryz.lays171_ren : Go.Shelf.Ren := ⟨fun | 171 => 78 | 243 => 109 | 246 => 145 | 283 => 174 | 284 => 175 | 285 => 176 | 286 => 177 | 129 => 201 | 317 => 200 | 318 => 202 | 319 => 203 | 320 => 204 | 337 => 211 | 338 => 212 | n => n, fun | 3 => 3 | 9 => 9 | 2 => 2 | 4 => 4 | 171 => 279 | 0 => 0 | 53 => 49 | 37 => 156 | 5 => 5 | 173 => 282 | 212 => 306 | 51 => 25 | 20 => 20 | 213 => 307 | 46 => 70 | 232 => 323 | 233 => 324 | n => n, fun | 17 => 3 | 18 => 6 | 19 => 7 | n => n⟩
theorem Tryz.lays171 : Go.Proofs.Lays.n171 Tryz.prog Tryz.lays171_ren := {
  mixed := by kernel_rfl
  f129 := Tryz.func201.trans (congrArg some (by kernel_rfl))
  f171 := Tryz.func78.trans (congrArg some (by kernel_rfl))
  f243 := Tryz.func109.trans (congrArg some (by kernel_rfl))
  f246 := Tryz.func145.trans (congrArg some (by kernel_rfl))
  f283 := Tryz.func174.trans (congrArg some (by kernel_rfl))
  f284 := Tryz.func175.trans (congrArg some (by kernel_rfl))
  f285 := Tryz.func176.trans (congrArg some (by kernel_rfl))
  f286 := Tryz.func177.trans (congrArg some (by kernel_rfl))
  f317 := Tryz.func200.trans (congrArg some (by kernel_rfl))
  f318 := Tryz.func202.trans (congrArg some (by kernel_rfl))
  f319 := Tryz.func203.trans (congrArg some (by kernel_rfl))
  f320 := Tryz.func204.trans (congrArg some (by kernel_rfl))
  f337 := Tryz.func211.trans (congrArg some (by kernel_rfl))
  f338 := Tryz.func212.trans (congrArg some (by kernel_rfl))
  t0 := Tryz.underlying0
  a0 := Tryz.isAgg0
  z0 := Tryz.sizeOf0
  v0 := Tryz.zeroValue0
  t2 := Tryz.underlying2
  a2 := Tryz.isAgg2
  z2 := Tryz.sizeOf2
  v2 := Tryz.zeroValue2
  t3 := Tryz.underlying3
  a3 := Tryz.isAgg3
  z3 := Tryz.sizeOf3
  v3 := Tryz.zeroValue3
  t4 := Tryz.underlying4
  a4 := Tryz.isAgg4
  z4 := Tryz.sizeOf4
  v4 := Tryz.zeroValue4
  t5 := Tryz.underlying5
  a5 := Tryz.isAgg5
  z5 := Tryz.sizeOf5
  v5 := Tryz.zeroValue5
  t9 := Tryz.underlying9
  a9 := Tryz.isAgg9
  z9 := Tryz.sizeOf9
  v9 := Tryz.zeroValue9
  t20 := Tryz.underlying20
  a20 := Tryz.isAgg20
  z20 := Tryz.sizeOf20
  v20 := Tryz.zeroValue20
  t37 := Tryz.underlying156
  a37 := Tryz.isAgg156
  z37 := Tryz.sizeOf156
  v37 := Tryz.zeroValue156
  t46 := Tryz.underlying70
  a46 := Tryz.isAgg70
  z46 := Tryz.sizeOf70
  v46 := Tryz.zeroValue70
  t51 := Tryz.underlying25
  a51 := Tryz.isAgg25
  z51 := Tryz.sizeOf25
  v51 := Tryz.zeroValue25
  t53 := Tryz.underlying49
  a53 := Tryz.isAgg49
  z53 := Tryz.sizeOf49
  v53 := Tryz.zeroValue49
  t171 := Tryz.underlying279
  a171 := Tryz.isAgg279
  z171 := Tryz.sizeOf279
  v171 := Tryz.zeroValue279
  t173 := Tryz.underlying282
  a173 := Tryz.isAgg282
  z173 := Tryz.sizeOf282
  v173 := Tryz.zeroValue282
  t212 := Tryz.underlying306
  a212 := Tryz.isAgg306
  z212 := Tryz.sizeOf306
  v212 := Tryz.zeroValue306
  t213 := Tryz.underlying307
  a213 := Tryz.isAgg307
  z213 := Tryz.sizeOf307
  t232 := Tryz.underlying323
  a232 := Tryz.isAgg323
  z232 := Tryz.sizeOf323
  v232 := Tryz.zeroValue323
  t233 := Tryz.underlying324
  a233 := Tryz.isAgg324
  z233 := Tryz.sizeOf324
  v233 := Tryz.zeroValue324
  g17 := by kernel_rfl
  g18 := by kernel_rfl
  g19 := by kernel_rfl }
open Go.RowKit Go.Sort Go.Lib in
theorem Tryz.strconv_Itoa_small (i : Nat) (hi : i < 100) (w : World) :
    Calls Tryz.prog 78 #[.int .i64 i] w fun e w' => e = .returned (.string ⟨(Lib.decDigits i).toArray⟩) ∧ w' = w := Any.strconv_Itoa_small Tryz.lays171 i hi w
end Go.Proofs
namespace Go.Proofs.YtgebbmfoamkfnaaGreatDoor
open Go.RowKit
set_option linter.unusedVariables false
open Go.Lib (decDigits byteCells join)
theorem Tryz.infoS9 : (Tryz.prog.info? 9).map (fun i => (i.zero, i.size, i.bytes)) = some (some (.string ByteArray.empty), 1, 16) := by kernel_rfl
theorem join_len {s : UInt8} {m : Nat} : ∀ {l : List (List UInt8)}, (∀ x ∈ l, x.length ≤ m) → (join l [s]).length ≤ l.length * (m + 1)
  | [], _ => by simp [Lib.join_nil]
  | x :: r, h => by
    have h1 := h x (by simp)
    rw [join_step, List.length_append, List.length_cons]
    cases r with
    | nil => simp; omega
    | cons y t =>
      have h2 := join_len (s := s) (l := y :: t) (fun z hz => h z (List.mem_cons_of_mem _ hz))
      have e : (s :: join (y :: t) [s]).length = (join (y :: t) [s]).length + 1 := rfl
      show x.length + (s :: join (y :: t) [s]).length ≤ _
      rw [e, Nat.add_mul]
      omega
/-- Texts as a row of strings. -/
def strV (l : List (List UInt8)) : List Value := l.map fun x => .string ⟨x.toArray⟩
theorem strV_at {l : List (List UInt8)} {i : Nat} {x : List UInt8} (h : l[i]? = some x) : (strV l)[i]? = some (.string ⟨x.toArray⟩) := by
  unfold strV
  rw [List.getElem?_map, h]
  rfl
theorem strV_snoc (l : List (List UInt8)) (x : List UInt8) : strV (l ++ [x]) = strV l ++ [.string ⟨x.toArray⟩] := by simp [strV]
theorem ba_lists (l : List (List UInt8)) : (l.map fun x => (⟨x.toArray⟩ : ByteArray)).map (·.data.toList) = l := by
  rw [List.map_map]
  exact (List.map_congr_left (fun x _ => rfl)).trans (List.map_id l)
/-- strings.Join of a row of texts. -/
theorem join_any {B n c : Nat} {a : Option Addr} {l : List (List UInt8)} {s : UInt8} {w : World} (h : w.ownsRow B 9 1 (.slice a n c) n (strV l)) (hn : l.length = n) (h0 : 0 < n) (hl : (join l [s]).length ≤ 1000000) (hn2 : n ≤ 1000000) :
    Calls Tryz.prog 79 #[.slice a n c, .string ⟨#[s]⟩] w fun e w' => e = .returned (.string ⟨(join l [s]).toArray⟩) ∧ Below w.heap.size w w' := by
  obtain ⟨q, rfl, _, hql, hqc⟩ := row_block h h0
  have hcap : n ≤ c := by
    rcases h.2 with ⟨he, _⟩ | ⟨g, cap, cur, he, _, _, hc, _⟩
    · cases he
    · cases he; exact hc
  have hJ := Tryz.strings_Join q 0 c (l.map fun x => (⟨x.toArray⟩ : ByteArray)) ⟨#[s]⟩ w (fun j x hx => by
    rw [List.getElem?_map] at hx
    cases hj : l[j]? with
    | none => rw [hj] at hx; cases hx
    | some y =>
      rw [hj] at hx
      cases hx
      rw [Nat.zero_add]
      exact hqc j _ (strV_at hj)) hql (by rw [List.length_map]; omega) (by rw [List.length_map]; omega) (by
    rw [ba_lists]
    exact Nat.le_trans hl (by omega))
  rw [ba_lists, List.length_map, hn] at hJ
  exact hJ
end Go.Proofs.YtgebbmfoamkfnaaGreatDoor
namespace Go.Proofs.YtgebbmfoamkfnaaGreatDoor
open Go.RowKit
set_option linter.unusedVariables false
theorem Tryz.info79 : (Tryz.prog.info? 79).map (fun i => (i.zero, i.size, i.bytes)) = some (some (.agg #[.string ByteArray.empty, .int .i64 0, .int .i64 0]), 3, 32) := by kernel_rfl
theorem Tryz.info82 : (Tryz.prog.info? 82).map (fun i => (i.zero, i.size, i.bytes)) = some (some (.agg #[.int .i64 0, .string ByteArray.empty, .slice none 0 0]), 3, 48) := by kernel_rfl
/-- Cells, three a place, as one list. -/
theorem flat3 {α : Type} (c0 c1 c2 : α → Value) : ∀ (l : List α) (i : Nat) (x : α), l[i]? = some x →
    (l.flatMap fun x => [c0 x, c1 x, c2 x])[i * 3]? = some (c0 x) ∧ (l.flatMap fun x => [c0 x, c1 x, c2 x])[i * 3 + 1]? = some (c1 x) ∧ (l.flatMap fun x => [c0 x, c1 x, c2 x])[i * 3 + 2]? = some (c2 x)
  | [], i, x, h => by simp at h
  | y :: r, 0, x, h => by simp at h; subst h; simp
  | y :: r, i + 1, x, h => by
    have ih := flat3 c0 c1 c2 r i x (by simpa using h)
    have e : (i + 1) * 3 = i * 3 + 3 := by omega
    simp only [List.flatMap_cons, e]
    refine ⟨?_, ?_, ?_⟩
    · rw [List.getElem?_append_right (by simp)]; simpa using ih.1
    · rw [List.getElem?_append_right (by simp)]; simpa [show i * 3 + 3 + 1 - 3 = i * 3 + 1 by omega] using ih.2.1
    · rw [List.getElem?_append_right (by simp)]; simpa [show i * 3 + 3 + 2 - 3 = i * 3 + 2 by omega] using ih.2.2
theorem flat3_len {α : Type} (c0 c1 c2 : α → Value) (l : List α) : (l.flatMap fun x => [c0 x, c1 x, c2 x]).length = l.length * 3 := by
  induction l with
  | nil => rfl
  | cons a l ih => simp only [List.flatMap_cons, List.length_append, ih]; simp; omega
theorem flat3_at {α : Type} (c0 c1 c2 : α → Value) (l : List α) (j : Nat) (u : Value) (h : (l.flatMap fun x => [c0 x, c1 x, c2 x])[j]? = some u) :
    ∃ i x, l[i]? = some x ∧ ((j = i * 3 ∧ u = c0 x) ∨ (j = i * 3 + 1 ∧ u = c1 x) ∨ (j = i * 3 + 2 ∧ u = c2 x)) := by
  have hj : j < l.length * 3 := by rw [← flat3_len c0 c1 c2]; exact (List.getElem?_eq_some_iff.1 h).1
  have hi : j / 3 < l.length := by omega
  obtain ⟨h0, h1, h2⟩ := flat3 c0 c1 c2 l (j / 3) l[j / 3] (List.getElem?_eq_getElem hi)
  refine ⟨j / 3, l[j / 3], List.getElem?_eq_getElem hi, ?_⟩
  rcases (by omega : j = j / 3 * 3 ∨ j = j / 3 * 3 + 1 ∨ j = j / 3 * 3 + 2) with e | e | e
  · rw [e] at h; rw [h0] at h; exact .inl ⟨e, (Option.some.inj h).symm⟩
  · rw [e] at h; rw [h1] at h; exact .inr (.inl ⟨e, (Option.some.inj h).symm⟩)
  · rw [e] at h; rw [h2] at h; exact .inr (.inr ⟨e, (Option.some.inj h).symm⟩)
def fldCells (fs : List Fld) : List Value := fs.flatMap fun f => [.string f.name, .int .i64 f.kind, .int .i64 f.count]
/-- The answer of slices.Clone: nil stays nil; else a row of one's own. -/
def IsClone (e : TypeId) (a : Option Addr) (len : Nat) (cells : List Value) (w : World) (en : Ending) (w' : World) : Prop :=
  ∃ va vc, en = .returned (.slice va len vc) ∧ w'.ownsRow w.heap.size e 3 (.slice va len vc) len cells ∧ Below w.heap.size w w' ∧ (va = none → len = 0 ∧ vc = 0)
theorem FieldsAt.cells {B : Nat} {w : World} {b off len : Nat} {fs : List Fld} (h : FieldsAt B w (some ⟨b, off, none⟩) len fs) :
    ∀ j u, (fldCells fs)[j]? = some u → w.cell? ((⟨b, off, none⟩ : Addr).add j) = some u := by
  intro j u hu
  obtain ⟨h1, h2, h3⟩ := h
  obtain ⟨i, x, hx, hc⟩ := flat3_at _ _ _ fs j u hu
  have hadd : (⟨b, off, none⟩ : Addr).add j = ⟨b, off + j, none⟩ := by unfold Addr.add; split <;> simp_all
  rw [hadd]
  rcases h3 with h3 | ⟨b', off', ha, hB, hcell⟩
  · have := (List.getElem?_eq_some_iff.1 hx).1
    omega
  · cases ha
    obtain ⟨c0, c1, c2⟩ := hcell i x hx
    rcases hc with ⟨rfl, rfl⟩ | ⟨rfl, rfl⟩ | ⟨rfl, rfl⟩
    · exact c0
    · exact c1
    · exact c2
theorem fldCells_one (fs : List Fld) : ∀ u ∈ fldCells fs, u.oneCell' = true := by
  intro u hu
  simp only [fldCells, List.mem_flatMap] at hu
  obtain ⟨f, _, hf⟩ := hu
  simp at hf
  rcases hf with rfl | rfl | rfl <;> rfl
set_option maxRecDepth 100000 in
set_option maxHeartbeats 400000 in
theorem cloneFields_any (a : Option Addr) (len cap : Nat) (w : World) (hl : len ≤ 100000) (hn : a = none → len = 0 ∧ cap = 0) (cells : List Value) (hcl : cells.length = len * 3)
    (hc : ∀ ad, a = some ad → ∀ j u, cells[j]? = some u → w.cell? (ad.add j) = some u) (h1 : ∀ u ∈ cells, u.oneCell' = true) :
    Calls Tryz.prog 114 #[.slice a len cap] w (IsClone 79 a len cells w) := by
  obtain ⟨i0, hi, hz0, hz1, hz2⟩ := info_parts Tryz.info79
  have hnn := fun (wx : World) (a : Option Addr) (n c : Nat) => Lib.run_eql_slice_nil (P := Tryz.prog) wx 80 79 a n c 0 0 Tryz.underlying80
  cases a with
  | none =>
    obtain ⟨rfl, rfl⟩ := hn rfl
    go_enter Tryz.func114, Tryz.ntmps114
    go_wp2
    go_returns
    exact ⟨none, 0, rfl, ⟨by simpa using hcl, .inl ⟨rfl, rfl⟩⟩, Below.refl _ _, fun _ => ⟨rfl, rfl⟩⟩
  | some ad =>
    have hcc : ∀ j u, cells[j]? = some u → (w.alloc (.cells #[] 79)).cell? (ad.add j) = some u := fun j u hu => by
      have h := hc ad rfl j u hu
      have hb := World.block_lt_of_cell? w _ h
      rw [World.cell?_of_block (w := w) (by rw [halloc, if_neg (by omega)])]
      exact h
    have hown : (w.alloc (.cells #[] 79)).ownsRow w.heap.size 79 3 (.slice (some ⟨w.heap.size, 0, none⟩) 0 0) 0 [] := World.ownsRow_made w #[] 0 (Nat.le_refl _) (by simp) (by simp)
    go_enter Tryz.func114, Tryz.ntmps114
    go_wp2_with (at_builtin; refine wpList_append_own _ rfl (.tmp 5) (.tmp 6) 80 rfl w.heap.size 79 i0 (.agg #[.string ByteArray.empty, .int .i64 0, .int .i64 0]) 3 32 Tryz.underlying80 hi hz0 hz1 hz2 rfl (by decide) (.slice (some ⟨w.heap.size, 0, none⟩) 0 0) 0 [] rfl hown ad len cap cells rfl hcl hcc h1 (by unfold maxLen; omega) (by omega) (by simp) ?_)
    intro v' w1 hown1 hg1 hnil
    obtain ⟨va, vc, hv⟩ := ownsRow_slice hown1
    rw [hv] at hown1 hnil ⊢
    clear hv
    have hbel : Below w.heap.size w w1 := ((Below.refl _ w).alloc (Nat.le_refl _) _).grown hg1 (by simp) (fun x hx => by simp [Value.ownBlock] at hx; omega)
    have HO := Lib.hid hown1
    have HN : Hid (va = none → len = 0 ∧ vc = 0) := Lib.hid (by
      intro h; subst h
      rcases hown1.2 with ⟨h2, _⟩ | ⟨g, cap', cur, hv, _⟩
      · cases h2; exact ⟨by omega, rfl⟩
      · cases hv)
    clear hown1 hnil
    go_wp2
    go_returns
    exact ⟨va, vc, rfl, HO.out, hbel, HN.out⟩
set_option maxRecDepth 100000 in
set_option maxHeartbeats 400000 in
theorem cloneComps_any (a : Option Addr) (len cap : Nat) (w : World) (hl : len ≤ 100000) (hn : a = none → len = 0 ∧ cap = 0) (cells : List Value) (hcl : cells.length = len * 3)
    (hc : ∀ ad, a = some ad → ∀ j u, cells[j]? = some u → w.cell? (ad.add j) = some u) (h1 : ∀ u ∈ cells, u.oneCell' = true) :
    Calls Tryz.prog 113 #[.slice a len cap] w (IsClone 82 a len cells w) := by
  obtain ⟨i0, hi, hz0, hz1, hz2⟩ := info_parts Tryz.info82
  have hnn := fun (wx : World) (a : Option Addr) (n c : Nat) => Lib.run_eql_slice_nil (P := Tryz.prog) wx 22 82 a n c 0 0 Tryz.underlying22
  cases a with
  | none =>
    obtain ⟨rfl, rfl⟩ := hn rfl
    go_enter Tryz.func113, Tryz.ntmps113
    go_wp2
    go_returns
    exact ⟨none, 0, rfl, ⟨by simpa using hcl, .inl ⟨rfl, rfl⟩⟩, Below.refl _ _, fun _ => ⟨rfl, rfl⟩⟩
  | some ad =>
    have hcc : ∀ j u, cells[j]? = some u → (w.alloc (.cells #[] 82)).cell? (ad.add j) = some u := fun j u hu => by
      have h := hc ad rfl j u hu
      have hb := World.block_lt_of_cell? w _ h
      rw [World.cell?_of_block (w := w) (by rw [halloc, if_neg (by omega)])]
      exact h
    have hown : (w.alloc (.cells #[] 82)).ownsRow w.heap.size 82 3 (.slice (some ⟨w.heap.size, 0, none⟩) 0 0) 0 [] := World.ownsRow_made w #[] 0 (Nat.le_refl _) (by simp) (by simp)
    go_enter Tryz.func113, Tryz.ntmps113
    go_wp2_with (at_builtin; refine wpList_append_own _ rfl (.tmp 5) (.tmp 6) 22 rfl w.heap.size 82 i0 (.agg #[.int .i64 0, .string ByteArray.empty, .slice none 0 0]) 3 48 Tryz.underlying22 hi hz0 hz1 hz2 rfl (by decide) (.slice (some ⟨w.heap.size, 0, none⟩) 0 0) 0 [] rfl hown ad len cap cells rfl hcl hcc h1 (by unfold maxLen; omega) (by omega) (by simp) ?_)
    intro v' w1 hown1 hg1 hnil
    obtain ⟨va, vc, hv⟩ := ownsRow_slice hown1
    rw [hv] at hown1 hnil ⊢
    clear hv
    have hbel : Below w.heap.size w w1 := ((Below.refl _ w).alloc (Nat.le_refl _) _).grown hg1 (by simp) (fun x hx => by simp [Value.ownBlock] at hx; omega)
    have HO := Lib.hid hown1
    have HN : Hid (va = none → len = 0 ∧ vc = 0) := Lib.hid (by
      intro h; subst h
      rcases hown1.2 with ⟨h2, _⟩ | ⟨g, cap', cur, hv, _⟩
      · cases h2; exact ⟨by omega, rfl⟩
      · cases hv)
    clear hown1 hnil
    go_wp2
    go_returns
    exact ⟨va, vc, rfl, HO.out, hbel, HN.out⟩
end Go.Proofs.YtgebbmfoamkfnaaGreatDoor
namespace Go.Proofs.YtgebbmfoamkfnaaGreatDoor
open Go.RowKit
set_option linter.unusedVariables false
/-- A slice of fields that lies in blocks of S. -/
def FieldsOn (S : Nat → Prop) (w : World) (a : Option Addr) (len : Nat) (fs : List Fld) : Prop :=
  fs.length = len ∧ len ≤ maxLen ∧ (len = 0 ∨ ∃ b off, a = some ⟨b, off, none⟩ ∧ S b ∧ ∀ (i : Nat) (f : Fld), fs[i]? = some f →
    w.cell? ⟨b, off + i * 3, none⟩ = some (.string f.name) ∧ w.cell? ⟨b, off + i * 3 + 1, none⟩ = some (.int .i64 f.kind) ∧ w.cell? ⟨b, off + i * 3 + 2, none⟩ = some (.int .i64 f.count))
theorem FieldsAt.on {B : Nat} {w : World} {a : Option Addr} {len : Nat} {fs : List Fld} (h : FieldsAt B w a len fs) : FieldsOn (· < B) w a len fs := h
theorem FieldsOn.imp {S S' : Nat → Prop} {w w' : World} {a : Option Addr} {len : Nat} {fs : List Fld} (h : FieldsOn S w a len fs) (hS : ∀ b, S b → S' b ∧ w'.heap[b]? = w.heap[b]?) : FieldsOn S' w' a len fs := by
  obtain ⟨h1, h2, h3⟩ := h
  refine ⟨h1, h2, ?_⟩
  rcases h3 with h3 | ⟨b, off, ha, hB, hc⟩
  · exact .inl h3
  · obtain ⟨q, e⟩ := hS b hB
    refine .inr ⟨b, off, ha, q, fun i f hf => ?_⟩
    obtain ⟨c0, c1, c2⟩ := hc i f hf
    exact ⟨(World.cell?_of_block (w := w) e).trans c0, (World.cell?_of_block (w := w) e).trans c1, (World.cell?_of_block (w := w) e).trans c2⟩
theorem FieldsOn.cells {S : Nat → Prop} {w : World} {a : Option Addr} {len : Nat} {fs : List Fld} (h : FieldsOn S w a len fs) :
    ∀ ad, a = some ad → ∀ j u, (fldCells fs)[j]? = some u → w.cell? (ad.add j) = some u := by
  intro ad ha j u hu
  obtain ⟨h1, h2, h3⟩ := h
  obtain ⟨i, x, hx, hc⟩ := flat3_at _ _ _ fs j u hu
  rcases h3 with h3 | ⟨b', off', ha', hB, hcell⟩
  · have := (List.getElem?_eq_some_iff.1 hx).1
    omega
  · rw [ha'] at ha
    cases ha
    have hadd : (⟨b', off', none⟩ : Addr).add j = ⟨b', off' + j, none⟩ := by unfold Addr.add; split <;> simp_all
    rw [hadd]
    obtain ⟨c0, c1, c2⟩ := hcell i x hx
    rcases hc with ⟨rfl, rfl⟩ | ⟨rfl, rfl⟩ | ⟨rfl, rfl⟩
    · exact c0
    · exact c1
    · exact c2
/-- A row of one's own, as a slice of fields. -/
theorem FieldsOn.of_row {w : World} {base : Nat} {va : Option Addr} {len vc : Nat} {fs : List Fld} (h : w.ownsRow base 79 3 (.slice va len vc) len (fldCells fs)) (hl : fs.length = len) (hm : len ≤ maxLen) :
    FieldsOn (fun b => base ≤ b ∧ b < w.heap.size) w va len fs := by
  refine ⟨hl, hm, ?_⟩
  rcases h.2 with ⟨hv, h0⟩ | ⟨g, cap, cur, hv, hg, hh, hc1, hc2, hc3, hc4⟩
  · exact .inl h0
  · cases hv
    refine .inr ⟨g, 0, rfl, ⟨hg, lt_some hh⟩, fun i f hf => ?_⟩
    obtain ⟨c0, c1, c2⟩ := flat3 (fun f : Fld => Value.string f.name) (fun f => .int .i64 f.kind) (fun f => .int .i64 f.count) fs i f hf
    have key : ∀ (j : Nat) (u : Value), (fldCells fs)[j]? = some u → w.cell? ⟨g, 0 + j, none⟩ = some u := by
      intro j u hu
      rw [cell_at hh, Nat.zero_add]
      rw [← hc4, List.getElem?_take] at hu
      split at hu
      · simpa using hu
      · cases hu
    exact ⟨key _ _ c0, key _ _ c1, key _ _ c2⟩
/-- The array of a schema's components, one's own. -/
def CompArr (r : Nat) (w : World) (g : Nat) (arr : Array Value) (cs : List Cmp) : Prop :=
  ∀ i c, cs[i]? = some c → arr[i * 3]? = some (.int .i64 c.id) ∧ arr[i * 3 + 1]? = some (.string c.name) ∧
    ∃ fa fl fc, arr[i * 3 + 2]? = some (.slice fa fl fc) ∧ FieldsOn (fun b => b ≠ g ∧ b ≠ r ∧ b < w.heap.size) w fa fl c.fields ∧ (fa = none → fl = 0 ∧ fc = 0)
theorem CompArr.out {r : Nat} {w : World} {g : Nat} {arr : Array Value} {cs : List Cmp} {fz : Nat × Nat} (h : CompArr r w g arr cs) (hg : w.heap[g]? = some (.cells arr 82 fz)) {len : Nat} (hl : cs.length = len) (hm : len ≤ maxLen) : CompsAt w.heap.size w (some ⟨g, 0, none⟩) len cs := by
  refine ⟨hl, hm, .inr ⟨g, 0, rfl, lt_some hg, fun i c hc => ?_⟩⟩
  obtain ⟨a0, a1, fa, fl, fc, a2, hF, hn⟩ := h i c hc
  simp only [Nat.zero_add]
  rw [cell_at hg, cell_at hg]
  exact ⟨a0, a1, fa, fl, fc, by rw [cell_at hg]; exact a2, hF.imp (fun b hb => ⟨hb.2.2, rfl⟩), hn⟩
/-- A store of a new slice at place k. -/
theorem CompArr.set {r : Nat} {w w' : World} {g : Nat} {arr : Array Value} {cs : List Cmp} (h : CompArr r w g arr cs) {k : Nat} {c : Cmp} (hc : cs[k]? = some c) {fa : Option Addr} {fl fc : Nat}
    (hk : ∀ b, b ≠ g → b < w.heap.size → w'.heap[b]? = w.heap[b]?) (hs : w.heap.size ≤ w'.heap.size)
    (hF : FieldsOn (fun b => b ≠ g ∧ b ≠ r ∧ b < w'.heap.size) w' fa fl c.fields) (hn : fa = none → fl = 0 ∧ fc = 0) : CompArr r w' g (arr.setIfInBounds (k * 3 + 2) (.slice fa fl fc)) cs := by
  intro i c' hc'
  obtain ⟨a0, a1, fa', fl', fc', a2, hF', hn'⟩ := h i c' hc'
  have hlt : i * 3 + 2 < arr.size := by
    have := (Array.getElem?_eq_some_iff.1 a2).1
    omega
  rw [Array.getElem?_setIfInBounds_ne (by omega), Array.getElem?_setIfInBounds_ne (by omega)]
  refine ⟨a0, a1, ?_⟩
  by_cases hik : i = k
  · subst hik
    rw [hc] at hc'; cases hc'
    exact ⟨fa, fl, fc, by rw [Array.getElem?_setIfInBounds_self_of_lt hlt], hF, hn⟩
  · exact ⟨fa', fl', fc', by rw [Array.getElem?_setIfInBounds_ne (by omega)]; exact a2, hF'.imp (fun b hb => ⟨⟨hb.1, hb.2.1, by omega⟩, hk b hb.1 hb.2.2⟩), hn'⟩
/-- The blocks of fields, and of components, by their types. -/
def FieldsTy (w : World) (fa : Option Addr) (fl : Nat) : Prop := fl = 0 ∨ ∃ b off cur fz, fa = some ⟨b, off, none⟩ ∧ w.heap[b]? = some (.cells cur 79 fz)
def CompsTy (w : World) (ca : Option Addr) (cl : Nat) (cs : List Cmp) : Prop := cl = 0 ∨ ∃ b off cur fz, ca = some ⟨b, off, none⟩ ∧ w.heap[b]? = some (.cells cur 82 fz) ∧
  ∀ i c, cs[i]? = some c → ∃ fa fl fc, w.cell? ⟨b, off + i * 3 + 2, none⟩ = some (.slice fa fl fc) ∧ FieldsTy w fa fl
/-- What keeps such blocks. -/
def KeepsTy (w w' : World) : Prop := ∀ (b : Nat) (c : Array Value) (e : TypeId) (fz : Nat × Nat), w.heap[b]? = some (.cells c e fz) → e = 82 ∨ e = 79 → w'.heap[b]? = some (.cells c e fz)
theorem KeepsTy.of_below {w w' : World} (hb : Below w.heap.size w w') : KeepsTy w w' := fun _ _ _ _ h _ => keep hb h
theorem FieldsTy.hk {w w' : World} (hk : KeepsTy w w') {fa : Option Addr} {fl : Nat} (h : FieldsTy w fa fl) : FieldsTy w' fa fl := by
  rcases h with h | ⟨b, off, cur, fz, h1, h2⟩
  · exact .inl h
  · exact .inr ⟨b, off, cur, fz, h1, hk _ _ _ _ h2 (.inr rfl)⟩
theorem CompsTy.hk {w w' : World} (hk : KeepsTy w w') {ca : Option Addr} {cl : Nat} {cs : List Cmp} (h : CompsTy w ca cl cs) : CompsTy w' ca cl cs := by
  rcases h with h | ⟨b, off, cur, fz, h1, h2, h3⟩
  · exact .inl h
  · have e := hk _ _ _ _ h2 (.inl rfl)
    refine .inr ⟨b, off, cur, fz, h1, e, fun i c hc => ?_⟩
    obtain ⟨fa, fl, fc, c2, hF⟩ := h3 i c hc
    exact ⟨fa, fl, fc, by rw [cell_at e]; rw [cell_at h2] at c2; exact c2, hF.hk hk⟩
theorem FieldsAt.ty {B : Nat} {w w' : World} {fa : Option Addr} {fl : Nat} {fs : List Fld} (h : FieldsAt B w fa fl fs) (ht : FieldsTy w fa fl) (hk : KeepsTy w w') : FieldsAt B w' fa fl fs := by
  obtain ⟨h1, h2, h3⟩ := h
  refine ⟨h1, h2, ?_⟩
  rcases ht with ht | ⟨b, off, cur, fz, hb, ht⟩
  · exact .inl ht
  · rcases h3 with h3 | ⟨b', off', ha, hB, hc⟩
    · exact .inl h3
    · rw [hb] at ha
      cases ha
      have e := hk _ _ _ _ ht (.inr rfl)
      refine .inr ⟨b, off, hb, hB, fun i f hf => ?_⟩
      obtain ⟨c0, c1, c2⟩ := hc i f hf
      rw [cell_at ht] at c0 c1 c2
      rw [cell_at e, cell_at e, cell_at e]
      exact ⟨c0, c1, c2⟩
theorem CompsAt.ty {B : Nat} {w w' : World} {ca : Option Addr} {cl : Nat} {cs : List Cmp} (h : CompsAt B w ca cl cs) (ht : CompsTy w ca cl cs) (hk : KeepsTy w w') : CompsAt B w' ca cl cs := by
  obtain ⟨h1, h2, h3⟩ := h
  refine ⟨h1, h2, ?_⟩
  rcases ht with ht | ⟨b, off, cur, fz, hb, ht, hty⟩
  · exact .inl ht
  · rcases h3 with h3 | ⟨b', off', ha, hB, hc⟩
    · exact .inl h3
    · rw [hb] at ha
      cases ha
      have e := hk _ _ _ _ ht (.inl rfl)
      refine .inr ⟨b, off, hb, hB, fun i c hci => ?_⟩
      obtain ⟨c0, c1, fa, fl, fc, c2, hF, hn⟩ := hc i c hci
      obtain ⟨fa', fl', fc', c2', hF'⟩ := hty i c hci
      rw [c2] at c2'
      cases c2'
      rw [cell_at ht] at c0 c1 c2
      rw [cell_at e, cell_at e]
      exact ⟨c0, c1, fa, fl, fc, by rw [cell_at e]; exact c2, hF.ty hF' hk, hn⟩
/-- The first k components' fields lie in blocks of fields. -/
def CompTyArr (w : World) (arr : Array Value) (cs : List Cmp) (k : Nat) : Prop := ∀ i c, i < k → cs[i]? = some c → ∃ fa fl fc, arr[i * 3 + 2]? = some (.slice fa fl fc) ∧ FieldsTy w fa fl
end Go.Proofs.YtgebbmfoamkfnaaGreatDoor
