/- Maps told as functions: general lemmas, over any program. · Contract of schema.fields. · Contract of schema.Check. · A region that draws its order, each operation of which leaves what was there as it was (it reads, calls, makes memory): one fact an operation, in whatever order. -/
import Derived.Test.YtnhlnnehpmjeiaaGreatDoorRows
import Derived.WalkKit
import Derived.Lib.Hide
import Derived.Maps.OwnSet
import Derived.Test.YtnhlnnehpmjeiaaGreatDoorP2
import Derived.RegionTactic
import Derived.Test.YtnhlnnehpmjeiaaGreatDoorP1
import Derived.Orders
import Derived.BigFrame
namespace Go.Proofs.YtnhlnnehpmjeiaaGreatDoor
open Go.RowKit
open Go.Maps (Keyed IsMap Tidy)
set_option linter.unusedVariables false
section
variable {P : Program} {w : World} {k e : TypeId} {b cnt : Nat} {f : Lit → Option Lit}
/-- Block b is a map of cnt entries, that holds at each key what f says. -/
def MapIs (P : Program) (w : World) (k e : TypeId) (b cnt : Nat) (f : Lit → Option Lit) : Prop :=
  ∃ D : DataW Unit, w.ownsMap P k (plainElem P e) b cnt D ∧ Maps.size D = cnt ∧ ∀ kl, Maps.has D kl = (f kl).isSome ∧ ∀ v, f kl = some v → ∀ z, D.atKey kl z = .lit v
/-- Are two keys one? -/
def litEq : Lit → Lit → Bool
  | .bool a, .bool b => decide (a = b)
  | .int k n, .int k' n' => decide (k = k') && decide (n = n')
  | .float k n, .float k' n' => decide (k = k') && decide (n = n')
  | .string a, .string b => decide (a = b)
  | .nil, .nil => true
  | _, _ => false
theorem litEq_iff {x y : Lit} : litEq x y = true ↔ x = y := by
  cases x <;> cases y <;> simp [litEq]
def putF (f : Lit → Option Lit) (kl v : Lit) : Lit → Option Lit := fun x => if litEq x kl = true then some v else f x
theorem putF_same (f : Lit → Option Lit) (kl v : Lit) : putF f kl v kl = some v := if_pos (litEq_iff.2 rfl)
theorem putF_ne {f : Lit → Option Lit} {kl v x : Lit} (h : x ≠ kl) : putF f kl v x = f x := if_neg (fun e => h (litEq_iff.1 e))
theorem MapIs.made (w : World) (P : Program) (k e : TypeId) : MapIs P (w.alloc (.map #[] 0)) k e w.heap.size 0 (fun _ => none) :=
  ⟨.map [], World.ownsMap_made _ _ _ _, rfl, fun kl => ⟨rfl, fun v h => by cases h⟩⟩
theorem MapIs.kept {w' : World} {row : Option Nat} (h : MapIs P w k e b cnt f) (hg : w.grownBy w' row) (hne : some b ≠ row) : MapIs P w' k e b cnt f := by
  obtain ⟨D, h1, h2, h3⟩ := h
  exact ⟨D, h1.kept hg hne, h2, h3⟩
theorem MapIs.alloc (h : MapIs P w k e b cnt f) (o : Obj) : MapIs P (w.alloc o) k e b cnt f := by
  obtain ⟨D, h1, h2, h3⟩ := h
  exact ⟨D, h1.alloc o, h2, h3⟩
theorem MapIs.setCell (h : MapIs P w k e b cnt f) {a : Addr} (ha : b ≠ a.block) (u : Value) : MapIs P (w.setCell a u) k e b cnt f := by
  obtain ⟨D, h1, h2, h3⟩ := h
  exact ⟨D, h1.setCell ha u, h2, h3⟩
theorem MapIs.below (h : MapIs P w k e b cnt f) {w' : World} (hb : Below w.heap.size w w') : MapIs P w' k e b cnt f :=
  h.kept (row := none) ⟨hb.os, hb.tape, hb.output, hb.size, fun k hk _ => hb.block k hk⟩ (by simp)
theorem MapIs.lt (h : MapIs P w k e b cnt f) : b < w.heap.size := by obtain ⟨D, h1, _⟩ := h; exact h1.lt
theorem MapIs.obj (h : MapIs P w k e b cnt f) : ∃ es c, w.heap[b]? = some (.map es c) := by
  obtain ⟨D, ⟨es, c, hb, _⟩, _⟩ := h
  exact ⟨es, c, hb⟩
/-- What is not there at a bool's map is false. -/
def boolAt (o : Option Lit) : Bool := match o with | some (.bool b) => b | _ => false
def intAt (o : Option Lit) : Int := match o with | some (.int _ n) => n | _ => 0
/-- m[k], m a map of bools. -/
theorem MapIs.look_bool {t : TypeId} (h : MapIs P w k e b cnt f) (K : Keyed P k) (ht : P.underlying t = some (.map k e)) (he : P.underlying e = some .bool) (hz : ∀ w, (zeroValue e).run P w = .ok (.bool false) w)
    {key : Value} {kl : Lit} (hkey : keyOf P k key = some kl) : (Instr.lookup t (.map (some b)) key false).run P w = .ok (.bool (boolAt (f kl))) w := by
  obtain ⟨D, h1, h2, h3⟩ := h
  obtain ⟨v, ps, hrun, hv⟩ := h1.lookup K ht (hz w) (plainElem_bool he false) hkey
  rw [hrun]
  obtain ⟨hh, hat⟩ := h3 kl
  have hv' : ∃ x, v = .bool x ∧ D.atKey kl (.lit (.bool false)) = .lit (.bool x) := by
    unfold plainElem at hv
    rw [he] at hv
    cases v <;> simp at hv
    exact ⟨_, rfl, hv.1.symm⟩
  obtain ⟨x, rfl, hx⟩ := hv'
  cases hf : f kl with
  | none =>
    rw [hf] at hh
    rw [Maps.atKey_of_not_has hh] at hx
    cases hx
    rfl
  | some v =>
    rw [hat v hf] at hx
    cases hx
    rfl
/-- v, ok := m[k], m a map of integers. -/
theorem MapIs.look_ok_int {t : TypeId} {q : IntKind} (h : MapIs P w k e b cnt f) (K : Keyed P k) (ht : P.underlying t = some (.map k e)) (he : P.underlying e = some (.int q)) (hz : ∀ w, (zeroValue e).run P w = .ok (.int q 0) w)
    {key : Value} {kl : Lit} (hkey : keyOf P k key = some kl) : (Instr.lookup t (.map (some b)) key true).run P w = .ok (.tuple #[.int q (intAt (f kl)), .bool (f kl).isSome]) w := by
  obtain ⟨D, h1, h2, h3⟩ := h
  obtain ⟨v, ps, hrun, hv⟩ := h1.look_ok K ht (hz w) (plainElem_int he (by cases q <;> decide)) hkey
  rw [hrun]
  obtain ⟨hh, hat⟩ := h3 kl
  obtain ⟨c, rfl, hc, hwc⟩ := plainElem_int_inv he hv
  have hc' := congrArg Prod.fst hc
  simp only at hc'
  rw [hh]
  cases hf : f kl with
  | none =>
    rw [hf] at hh
    rw [Maps.atKey_of_not_has hh] at hc'
    cases hc'
    rfl
  | some v =>
    rw [hat v hf] at hc'
    cases hc'
    rfl
/-- len(m). -/
theorem MapIs.len {t : TypeId} (h : MapIs P w k e b cnt f) (ht : P.underlying t = some (.map k e)) (ty : TypeId) : (Builtin.len_ #[t] ty #[.map (some b)]).run P w = .ok (.int .i64 cnt) w := by
  obtain ⟨D, h1, h2, h3⟩ := h
  rw [h1.len ht, h2]
/-- m[k] = v. -/
theorem MapIs.store {t : TypeId} (h : MapIs P w k e b cnt f) (K : Keyed P k) (ht : P.underlying t = some (.map k e)) (hn : cnt < maxLen) {key val : Value} {kl v : Lit}
    (hkey : keyOf P k key = some kl) (hv : plainElem (H := Unit) P e val = some (.lit v, [])) :
    ∃ w', (Instr.mapUpdate t (.map (some b)) key val).run P w = .ok () w' ∧ MapIs P w' k e b (if (f kl).isSome then cnt else cnt + 1) (putF f kl v) ∧ w.grownBy w' (some b) ∧ w'.heap.size = w.heap.size ∧ (∀ a, w'.frozen? a = w.frozen? a) := by
  obtain ⟨D, h1, h2, h3⟩ := h
  obtain ⟨w', hrun, h1', ht'⟩ := h1.store K ht hn hkey hv
  have hs : Maps.size (D.put kl (.lit v)) = if (f kl).isSome then cnt else cnt + 1 := by
    rw [Maps.size_put (h1.tidy K), (h3 kl).1, h2]
  have hsz : w'.heap.size = w.heap.size := by
    obtain ⟨es, clock, es', clock', hb, rfl⟩ := ht'
    simp [ChangeMaps.setBlock]
  refine ⟨w', hrun, ⟨D.put kl (.lit v), ?_, hs, fun x => ?_⟩, ht'.grown, hsz, ht'.frozen⟩
  · obtain ⟨es, clock, hb, F, hle, hD⟩ := h1'
    refine ⟨es, clock, hb, F, ?_, hD⟩
    rw [← hs, hD]
    simp [Maps.size, length_sorted]
  · by_cases hx : x = kl
    · subst hx
      rw [putF_same]
      refine ⟨by rw [Maps.has_put_same h1.isMap (K.key hkey)]; rfl, fun u hu z => ?_⟩
      rw [Maps.atKey_put_same h1.isMap (K.key hkey)]
      cases hu
      rfl
    · rw [putF_ne hx]
      refine ⟨by rw [Maps.has_put_other hx, (h3 x).1], fun u hu z => ?_⟩
      rw [Maps.atKey_put_other hx]
      exact (h3 x).2 u hu z
end
end Go.Proofs.YtnhlnnehpmjeiaaGreatDoor
namespace Go.Proofs.YtnhlnnehpmjeiaaGreatDoor
open Go.RowKit
open Go.Maps (Keyed string_keyed)
open Go.WideMaps (keyOf_string_mk)
set_option linter.unusedVariables false
def nmOk : List (List UInt8) → List ByteArray → Bool
  | _, [] => true
  | seen, s :: r => isNameB s && !seen.contains ((s).data.toList) && nmOk (seen ++ [(s).data.toList]) r
theorem nmOk_append (l r : List ByteArray) : ∀ seen, nmOk seen (l ++ r) = (nmOk seen l && nmOk (seen ++ l.map (fun s : ByteArray => s.data.toList)) r) := by
  induction l with
  | nil => intro seen; simp [nmOk]
  | cons a l ih => intro seen; simp only [List.cons_append, nmOk, ih, List.map_cons]; simp [Bool.and_assoc]
theorem nmOk_bad {l : List ByteArray} {k : Nat} {s : ByteArray} (hs : l[k]? = some s) (h : isNameB s = false ∨ ((l.take k).map (fun s : ByteArray => s.data.toList)).contains ((s).data.toList) = true) : nmOk [] l = false := by
  have hl : l = l.take k ++ s :: l.drop (k + 1) := by
    have hk := (List.getElem?_eq_some_iff.1 hs)
    obtain ⟨hk1, hk2⟩ := hk
    conv => lhs; rw [← List.take_append_drop k l]
    rw [List.drop_eq_getElem_cons hk1, hk2]
  rw [hl, nmOk_append]
  simp only [nmOk, List.nil_append]
  rcases h with h | h
  · simp [h]
  · rw [h]; simp
theorem nmOk_snoc {l : List ByteArray} {s : ByteArray} (h : nmOk [] l = true) (h1 : isNameB s = true) (h2 : (l.map (fun s : ByteArray => s.data.toList)).contains ((s).data.toList) = false) : nmOk [] (l ++ [s]) = true := by
  rw [nmOk_append, h]; simp only [nmOk, List.nil_append, h1, h2]; rfl
theorem Tryz.law9 : Keyed Tryz.prog 9 := string_keyed Tryz.underlying9
theorem Tryz.zero4 (w : World) : (zeroValue 4).run Tryz.prog w = .ok (.bool false) w := by kernel_rfl
/-- The map of the names that were seen. -/
def SeenIs (w : World) (b : Nat) (n : Nat) (l : List (List UInt8)) : Prop :=
  ∃ cnt f, cnt ≤ n ∧ MapIs Tryz.prog w 9 4 b cnt f ∧ ∀ x, f (.string x) = if l.contains x then some (.bool true) else none
theorem SeenIs.look {w : World} {b n : Nat} {l : List (List UInt8)} (h : SeenIs w b n l) {s : ByteArray} (hs : s.size ≤ maxLen) :
    (Instr.lookup 103 (.map (some b)) (.string s) false).run Tryz.prog w = .ok (.bool (l.contains ((s).data.toList))) w := by
  obtain ⟨cnt, f, hc, hM, hf⟩ := h
  rw [hM.look_bool Tryz.law9 Tryz.underlying103 Tryz.underlying4 Tryz.zero4 (keyOf_string_mk Tryz.underlying9 hs), hf]
  cases l.contains ((s).data.toList) <;> rfl
theorem SeenIs.store {w : World} {b n : Nat} {l : List (List UInt8)} (h : SeenIs w b n l) {s : ByteArray} (hs : s.size ≤ maxLen) (hn : n < maxLen) :
    ∃ w', (Instr.mapUpdate 103 (.map (some b)) (.string s) (.bool true)).run Tryz.prog w = .ok () w' ∧ SeenIs w' b (n + 1) (l ++ [(s).data.toList]) ∧ w.grownBy w' (some b) ∧ w'.heap.size = w.heap.size ∧ (∀ a, w'.frozen? a = w.frozen? a) := by
  obtain ⟨cnt, f, hc, hM, hf⟩ := h
  obtain ⟨w', h1, h2, h3, h4, h5⟩ := hM.store Tryz.law9 Tryz.underlying103 (by omega) (keyOf_string_mk Tryz.underlying9 hs) (plainElem_bool Tryz.underlying4 true)
  refine ⟨w', h1, ⟨_, _, ?_, h2, fun x => ?_⟩, h3, h4, h5⟩
  · split <;> omega
  · by_cases hx : x = (s).data.toList
    · subst hx; rw [putF_same]; simp
    · rw [putF_ne (by simpa using hx), hf]
      have : (l ++ [(s).data.toList]).contains x = l.contains x := by
        rw [Bool.eq_iff_iff]; simp [hx]
      rw [this]
theorem SeenIs.made (w : World) : SeenIs (w.alloc (.map #[] 0)) w.heap.size 0 [] := ⟨0, _, Nat.le_refl _, MapIs.made _ _ _ _, fun x => rfl⟩
theorem SeenIs.below {w w' : World} {b n : Nat} {l : List (List UInt8)} (h : SeenIs w b n l) (hb : Below w.heap.size w w') : SeenIs w' b n l := by
  obtain ⟨cnt, f, hc, hM, hf⟩ := h
  exact ⟨cnt, f, hc, hM.below hb, hf⟩
theorem SeenIs.alloc {w : World} {b n : Nat} {l : List (List UInt8)} (h : SeenIs w b n l) (o : Obj) : SeenIs (w.alloc o) b n l := by
  obtain ⟨cnt, f, hc, hM, hf⟩ := h
  exact ⟨cnt, f, hc, hM.alloc o, hf⟩
theorem SeenIs.lt {w : World} {b n : Nat} {l : List (List UInt8)} (h : SeenIs w b n l) : b < w.heap.size := by
  obtain ⟨cnt, f, hc, hM, hf⟩ := h
  exact hM.lt
def fieldsF (fs : List Fld) : Int := if nmOk [] (fs.map (·.name)) then layCheck fs else 4
set_option maxRecDepth 100000 in
set_option maxHeartbeats 1000000 in
theorem fields_any (fs : List Fld) (a : Option Addr) (len cap : Nat) (w : World) (hfs : FieldsAt w.heap.size w a len fs) (hw : ∀ f ∈ fs, f.name.size ≤ maxLen) :
    Calls Tryz.prog 46 #[.slice a len cap] w fun e w' => e = .returned (.int .i64 (fieldsF fs)) ∧ Below w.heap.size w w' := by
  have hmx : len ≤ maxLen := hfs.2.1
  have hmm := @run_makeMap Tryz.prog
  have HMX := Lib.hid hmx
  unfold maxLen at hmx
  go_enter Tryz.func46, Tryz.ntmps46
  go_wp2
  go_loopw [9] (fun i wr => ∃ (k : Nat), k ≤ len ∧ i = .int .i64 k ∧ nmOk [] ((fs.take k).map (·.name)) = true ∧ SeenIs wr w.heap.size k (((fs.take k).map (·.name)).map (fun s : ByteArray => s.data.toList)) ∧ Below w.heap.size w wr)
      (fun i _ => len - (intOf i).toNat)
  case atStart => exact ⟨0, Nat.zero_le _, rfl, rfl, SeenIs.made w, by go_grown⟩
  case round =>
    obtain ⟨k, hk, rfl, hall, hseen, hbw⟩ := hrel
    have HA := Lib.hid hall
    clear hall
    have hzr := hbw.size
    have hbl := hseen.lt
    by_cases hlt : k < len
    · obtain ⟨b, off, f, rfl, hB, hf, c0, c1, c2⟩ := hfs.get hbw hlt
      have htk := Lib.hid (take_snoc hf)
      have hfn : (fs.map (·.name))[k]? = some f.name := by rw [List.getElem?_map, hf]; rfl
      have HFN := Lib.hid hfn
      clear hfn
      have hsz := hw f (List.mem_of_getElem? hf)
      go_wp2_with fail
      refine (isName_any _ _ hsz).mono ?_
      rintro e w' ⟨rfl, rfl⟩
      cases hn : isNameB f.name
      · have H : Hid (fieldsF fs = 4) := Lib.hid (by unfold fieldsF; rw [nmOk_bad HFN.out (.inl hn)]; rfl)
        go_wp2
        go_ret
        exact ⟨ret_intk H.out.symm, hbw.alloc (by omega) _⟩
      · have HN := Lib.hid hn
        have hlk := (hseen.alloc (Obj.cells #[Value.string f.name, Value.int IntKind.i64 f.kind, Value.int IntKind.i64 f.count] 143)).look (s := f.name) hsz
        have hM : ((((fs.map (·.name)).take k).map (fun s : ByteArray => s.data.toList)).contains ((f.name).data.toList)) = ((((fs.take k).map (·.name)).map (fun s : ByteArray => s.data.toList)).contains ((f.name).data.toList)) := by rw [← List.map_take]
        have HM := Lib.hid hM
        clear hM
        generalize hct : (List.map (fun s : ByteArray => s.data.toList) (List.map (fun x => x.name) (List.take k fs))).contains ((f.name).data.toList) = ct at hlk
        cases ct
        · obtain ⟨w2, hup, hseen2, hg2, hz2, hfr⟩ := (hseen.alloc (Obj.cells #[Value.string f.name, Value.int IntKind.i64 f.kind, Value.int IntKind.i64 f.count] 143)).store (s := f.name) hsz (by have := HMX.out; omega)
          have HS := Lib.hid hseen2
          clear hseen2
          have HCT := Lib.hid hct
          clear hct hfr
          have hbel : Below w.heap.size w w2 := (hbw.alloc (by omega) _).grown hg2 (by simp; omega) (fun x hx => by cases hx; omega)
          clear hg2
          go_wp2
          go_roundw
          case rel =>
            refine ⟨k + 1, by omega, by go_num, ?_, ?_, hbel⟩
            · rw [htk.out, List.map_append]; exact nmOk_snoc HA.out HN.out HCT.out
            · rw [htk.out, List.map_append, List.map_append]; exact HS.out
          case measure => simp [intOf]; omega
        · have H : Hid (fieldsF fs = 4) := Lib.hid (by unfold fieldsF; rw [nmOk_bad HFN.out (.inr (by rw [HM.out]; exact hct))]; rfl)
          clear hct
          go_wp2
          go_ret
          exact ⟨ret_intk H.out.symm, hbw.alloc (by omega) _⟩
    · obtain rfl : k = len := by omega
      have H : Hid (fieldsF fs = layCheck fs) := Lib.hid (by
        have := HA.out
        rw [List.take_of_length_le (by have := hfs.1; omega)] at this
        unfold fieldsF; rw [this]; rfl)
      go_wp2_with fail
      refine (layCheck_any fs _ _ _ _ ((hfs.below hbw).mono hzr)).mono ?_
      rintro e w1 ⟨rfl, hb1⟩
      go_wp2
      go_ret
      exact ⟨ret_intk H.out.symm, hbw.trans (hb1.mono hzr)⟩
end Go.Proofs.YtnhlnnehpmjeiaaGreatDoor
namespace Go.Proofs.YtnhlnnehpmjeiaaGreatDoor
open Go.RowKit
set_option linter.unusedVariables false
structure Cmp where
  id : Int
  name : ByteArray
  fields : List Fld
/-- A slice of components that lies below block B. -/
def CompsAt (B : Nat) (w : World) (a : Option Addr) (len : Nat) (cs : List Cmp) : Prop :=
  cs.length = len ∧ len ≤ maxLen ∧ (len = 0 ∨ ∃ b off, a = some ⟨b, off, none⟩ ∧ b < B ∧ ∀ (i : Nat) (c : Cmp), cs[i]? = some c →
    w.cell? ⟨b, off + i * 3, none⟩ = some (.int .i64 c.id) ∧ w.cell? ⟨b, off + i * 3 + 1, none⟩ = some (.string c.name) ∧
      ∃ fa fl fc, w.cell? ⟨b, off + i * 3 + 2, none⟩ = some (.slice fa fl fc) ∧ FieldsAt B w fa fl c.fields ∧ (fa = none → fl = 0 ∧ fc = 0))
/-- The strings of a schema are strings. -/
def CompsWf (cs : List Cmp) : Prop := ∀ c ∈ cs, c.name.size ≤ maxLen ∧ ∀ f ∈ c.fields, f.name.size ≤ maxLen
theorem CompsAt.below {B : Nat} {w w' : World} {a : Option Addr} {len : Nat} {cs : List Cmp} (h : CompsAt B w a len cs) (hb : Below B w w') : CompsAt B w' a len cs := by
  obtain ⟨h1, h2, h3⟩ := h
  refine ⟨h1, h2, ?_⟩
  rcases h3 with h3 | ⟨b, off, ha, hB, hc⟩
  · exact .inl h3
  · refine .inr ⟨b, off, ha, hB, fun i f hf => ?_⟩
    obtain ⟨c0, c1, fa, fl, fc, c2, hF, hn⟩ := hc i f hf
    exact ⟨(hb.cell (p := ⟨b, off + i * 3, none⟩) hB).trans c0, (hb.cell (p := ⟨b, off + i * 3 + 1, none⟩) hB).trans c1, fa, fl, fc, (hb.cell (p := ⟨b, off + i * 3 + 2, none⟩) hB).trans c2, hF.below hb, hn⟩
theorem CompsAt.mono {B B' : Nat} {w : World} {a : Option Addr} {len : Nat} {cs : List Cmp} (h : CompsAt B w a len cs) (hb : B ≤ B') : CompsAt B' w a len cs := by
  obtain ⟨h1, h2, h3⟩ := h
  refine ⟨h1, h2, ?_⟩
  rcases h3 with h3 | ⟨b, off, ha, hB, hc⟩
  · exact .inl h3
  · refine .inr ⟨b, off, ha, by omega, fun i f hf => ?_⟩
    obtain ⟨c0, c1, fa, fl, fc, c2, hF, hn⟩ := hc i f hf
    exact ⟨c0, c1, fa, fl, fc, c2, hF.mono hb, hn⟩
theorem CompsAt.get {B : Nat} {w w' : World} {a : Option Addr} {len : Nat} {cs : List Cmp} (h : CompsAt B w a len cs) (hb : Below B w w') {k : Nat} (hk : k < len) :
    ∃ b off c, a = some ⟨b, off, none⟩ ∧ b < B ∧ cs[k]? = some c ∧ w'.cell? ⟨b, off + k * 3, none⟩ = some (.int .i64 c.id) ∧ w'.cell? ⟨b, off + k * 3 + 1, none⟩ = some (.string c.name) ∧
      ∃ fa fl fc, w'.cell? ⟨b, off + k * 3 + 2, none⟩ = some (.slice fa fl fc) ∧ FieldsAt B w' fa fl c.fields ∧ (fa = none → fl = 0 ∧ fc = 0) := by
  obtain ⟨h1, h2, h3⟩ := h.below hb
  rcases h3 with h3 | ⟨b, off, ha, hB, hc⟩
  · omega
  · have hl : k < cs.length := by omega
    exact ⟨b, off, cs[k], ha, hB, List.getElem?_eq_getElem hl, hc k _ (List.getElem?_eq_getElem hl)⟩
def compsGo (last : Int) (seen : List (List UInt8)) : List Cmp → Int
  | [] => 0
  | c :: r => if c.id ≤ last ∨ 24 < c.id then 1 else if isNameB c.name = false ∨ seen.contains ((c.name).data.toList) = true then 4 else if fieldsF c.fields ≠ 0 then fieldsF c.fields else compsGo c.id (seen ++ [(c.name).data.toList]) r
def schemaCheck (ver : Int) (cs : List Cmp) : Int := if ver < 1 ∨ 1073741824 < ver then 1 else compsGo 0 [] cs
theorem drop_get {α : Type} {l : List α} {k : Nat} {x : α} (h : l[k]? = some x) : l.drop k = x :: l.drop (k + 1) := by
  obtain ⟨h1, h2⟩ := List.getElem?_eq_some_iff.1 h
  rw [List.drop_eq_getElem_cons h1, h2]
theorem SeenIs.drew {w : World} {b n : Nat} {l : List (List UInt8)} (h : SeenIs w b n l) : SeenIs w.drew b n l := h
set_option maxRecDepth 100000 in
set_option maxHeartbeats 2000000 in
theorem schemaCheck_any (ver : Int) (cs : List Cmp) (a : Option Addr) (len cap : Nat) (w : World) (hcs : CompsAt w.heap.size w a len cs) (hw : CompsWf cs) :
    Calls Tryz.prog 25 #[.agg #[.int .i64 ver, .slice a len cap]] w fun e w' => e = .returned (.int .i64 (schemaCheck ver cs)) ∧ Below w.heap.size w w' := by
  have hmx : len ≤ maxLen := hcs.2.1
  have hmm := @run_makeMap Tryz.prog
  have HMX := Lib.hid hmx
  unfold maxLen at hmx
  rcases (by omega : ver < 1 ∨ (1 ≤ ver ∧ 1073741824 < ver) ∨ (1 ≤ ver ∧ ver ≤ 1073741824)) with h | ⟨h, h'⟩ | ⟨h, h'⟩
  · have H : Hid (schemaCheck ver cs = 1) := Lib.hid (by unfold schemaCheck; rw [if_pos (.inl h)])
    go_enter Tryz.func25, Tryz.ntmps25
    go_wp2
    go_ret
    exact ⟨ret_intk H.out.symm, by go_grown⟩
  · have H : Hid (schemaCheck ver cs = 1) := Lib.hid (by unfold schemaCheck; rw [if_pos (.inr h')])
    go_enter Tryz.func25, Tryz.ntmps25
    go_wp2
    go_ret
    exact ⟨ret_intk H.out.symm, by go_grown⟩
  · have H : Hid (schemaCheck ver cs = compsGo 0 [] cs) := Lib.hid (by unfold schemaCheck; rw [if_neg (by omega)])
    go_enter Tryz.func25, Tryz.ntmps25
    go_wp2
    go_loopw [4, 20] (fun l i wr => ∃ (k : Nat) (last : Int), k ≤ len ∧ i = .int .i64 k ∧ l = .int .i64 last ∧ compsGo 0 [] cs = compsGo last ((cs.take k).map fun c => (c.name).data.toList) (cs.drop k) ∧
        SeenIs wr (w.heap.size + 1) k ((cs.take k).map fun c => (c.name).data.toList) ∧ Below w.heap.size w wr)
        (fun _ i _ => len - (intOf i).toNat)
    case atStart => exact ⟨0, 0, Nat.zero_le _, rfl, rfl, rfl, by simpa using SeenIs.made (w.alloc (.cells #[.int .i64 ver, .slice a len cap] 43)), by go_grown⟩
    case round =>
      obtain ⟨k, last, hk, rfl, rfl, hgo, hseen, hbw⟩ := hrel
      have HG := Lib.hid hgo
      clear hgo
      have hzr := hbw.size
      have hbl := hseen.lt
      by_cases hlt : k < len
      · obtain ⟨b, off, c, rfl, hB, hc, c0, c1, fa, fl, fc, c2, hF, hnil⟩ := hcs.get hbw hlt
        have htk := Lib.hid (take_snoc hc)
        have hdr := Lib.hid (drop_get hc)
        obtain ⟨hsz, hszf⟩ := hw c (List.mem_of_getElem? hc)
        have hstep := Lib.hid (HG.out.trans (by rw [hdr.out]))
        rcases (by omega : c.id ≤ last ∨ (last < c.id ∧ 24 < c.id) ∨ (last < c.id ∧ c.id ≤ 24)) with h1 | ⟨h1, h2⟩ | ⟨h1, h2⟩
        · have H1 : Hid (schemaCheck ver cs = 1) := Lib.hid (by rw [H.out, hstep.out]; unfold compsGo; rw [if_pos (.inl h1)])
          go_wp2
          go_ret
          exact ⟨ret_intk H1.out.symm, hbw.alloc hzr _⟩
        · have H1 : Hid (schemaCheck ver cs = 1) := Lib.hid (by rw [H.out, hstep.out]; unfold compsGo; rw [if_pos (.inr h2)])
          go_wp2
          go_ret
          exact ⟨ret_intk H1.out.symm, hbw.alloc hzr _⟩
        · have hd1 : decide (c.id ≤ last) = false := by simp; omega
          have hd2 : decide (24 < c.id) = false := by simp; omega
          go_wp2_with fail
          refine (isName_any _ _ hsz).mono ?_
          rintro e w' ⟨rfl, rfl⟩
          cases hn : isNameB c.name
          · have H1 : Hid (schemaCheck ver cs = 4) := Lib.hid (by rw [H.out, hstep.out]; unfold compsGo; rw [if_neg (by omega), if_pos (.inl hn)])
            go_wp2
            go_ret
            exact ⟨ret_intk H1.out.symm, hbw.alloc hzr _⟩
          · have HN := Lib.hid hn
            have hseenA := hseen.alloc (Obj.cells #[Value.int IntKind.i64 c.id, Value.string c.name, Value.slice fa fl fc] 51)
            have hlk := hseenA.look (s := c.name) hsz
            generalize hct : (List.map (fun c => (c.name).data.toList) (List.take k cs)).contains ((c.name).data.toList) = ct at hlk
            cases ct
            · have H1 : Hid (schemaCheck ver cs = if fieldsF c.fields ≠ 0 then fieldsF c.fields else compsGo c.id ((cs.take (k + 1)).map fun c => (c.name).data.toList) (cs.drop (k + 1))) := Lib.hid (by
                rw [H.out, hstep.out]; conv => lhs; unfold compsGo
                rw [if_neg (by omega), if_neg (by rw [hn, hct]; simp), htk.out, List.map_append]; rfl)
              obtain ⟨w2, hup, hseen2, hg2, hz2, hfr⟩ := hseenA.drew.store (s := c.name) hsz (by have := HMX.out; omega)
              clear hct hfr
              have HS := Lib.hid hseen2
              clear hseen2
              have hf2 := keepG hg2 (show (wr.alloc (Obj.cells #[Value.int IntKind.i64 c.id, Value.string c.name, Value.slice fa fl fc] 51)).drew.heap[wr.heap.size]? = some _ from heap_alloc_new wr _) (by simp; omega)
              have g0 := cell_at hf2 0
              have g1 := cell_at hf2 1
              have g2 := cell_at hf2 2
              simp at g0 g1 g2
              have hbel2 : Below w.heap.size wr w2 := ((Below.refl _ wr).alloc hzr _).drew.grown hg2 (by simp [World.drew]; omega) (fun x hx => by cases hx; omega)
              have hbel : Below w.heap.size w w2 := hbw.trans hbel2
              have hF2 := (hF.below hbel2).mono hbel.size
              have hz2' : w2.heap.size = wr.heap.size + 1 := by simpa [World.drew] using hz2
              have HZ := Lib.hid hz2'
              clear hz2 hz2' hg2 hf2
              go_wp2
              go_region
              go_wp2_with fail
              refine (fields_any c.fields _ _ _ _ hF2 hszf).mono ?_
              rintro e w3 ⟨rfl, hb3⟩
              have hbel3 : Below w.heap.size w w3 := hbel.trans (hb3.mono hbel.size)
              by_cases h0 : fieldsF c.fields = 0
              · have H2 := Lib.hid (H1.out.trans (by rw [if_neg (by simpa using h0)]))
                have e1 : (fieldsF c.fields != 0) = false := by simp [h0]
                have HS3 := Lib.hid (HS.out.below hb3)
                clear h0
                go_wp2
                go_roundw
                case rel =>
                  refine ⟨k + 1, c.id, by omega, by go_num, rfl, H.out.symm.trans H2.out, ?_, hbel3⟩
                  have := HS3.out
                  rw [htk.out, List.map_append]; exact this
                case measure => simp [intOf]; omega
              · have H2 := Lib.hid (H1.out.trans (by rw [if_pos h0]))
                have e1 : (fieldsF c.fields != 0) = true := by simp [h0]
                clear h0
                go_wp2
                go_ret
                exact ⟨ret_intk H2.out.symm, hbel3⟩
            · have H1 : Hid (schemaCheck ver cs = 4) := Lib.hid (by rw [H.out, hstep.out]; unfold compsGo; rw [if_neg (by omega), if_pos (.inr hct)])
              clear hct
              go_wp2
              go_ret
              exact ⟨ret_intk H1.out.symm, hbw.alloc hzr _⟩
      · obtain rfl : k = len := by omega
        have H1 : Hid (schemaCheck ver cs = 0) := Lib.hid (by rw [H.out, HG.out, List.drop_eq_nil_of_le (by have := hcs.1; omega)]; rfl)
        go_wp2
        go_ret
        exact ⟨ret_intk H1.out.symm, hbw⟩
end Go.Proofs.YtnhlnnehpmjeiaaGreatDoor
namespace Go.Proofs.YtnhlnnehpmjeiaaGreatDoor
open Go.RowKit
set_option linter.unusedVariables false
section
variable {P : Program} {l : List Oper} {Q : Exit → Act → World → Prop} {a0 : Act} {w0 : World} {R : Nat → Value → World → Prop}
/-- A frame in which each operation has laid its value. -/
def putAll (vs : Nat → Value) : Nat → List Oper → Act → Act
  | _, [], a => a
  | k, o :: r, a => putAll vs (k + 1) r (a.put o.dst (vs k))
def noDup : List Oper → Bool
  | [] => true
  | o :: r => (match o.dst with | none => true | some d => r.all fun x => x.dst != some d) && noDup r
def edgesB : Nat → List Oper → Bool
  | _, [] => true
  | k, o :: r => (o.after.all fun e => !(Region.binds .any e) || decide (e.on < k)) && edgesB (k + 1) r
def updV (vs : Nat → Value) (i : Nat) (v : Value) : Nat → Value := fun j => if j = i then v else vs j
theorem put_put_same (a : Act) (d : Option Tmp) (v u : Value) : (a.put d v).put d u = a.put d u := by
  cases d with
  | none => rfl
  | some d => simp [Act.put, Array.setIfInBounds_setIfInBounds]
theorem putAll_congr {vs vs' : Nat → Value} : ∀ (l : List Oper) (k : Nat) (a : Act), (∀ j, k ≤ j → vs j = vs' j) → putAll vs k l a = putAll vs' k l a
  | [], _, _, _ => rfl
  | o :: r, k, a, h => by
    unfold putAll
    rw [h k (Nat.le_refl k)]
    exact putAll_congr r (k + 1) _ (fun j hj => h j (by omega))
theorem putAll_put {vs : Nat → Value} {d : Tmp} {v : Value} : ∀ (l : List Oper) (k : Nat) (a : Act), (l.all fun x => x.dst != some d) = true → (putAll vs k l a).put (some d) v = putAll vs k l (a.put (some d) v)
  | [], _, _, _ => rfl
  | o :: r, k, a, h => by
    rw [List.all_cons, Bool.and_eq_true] at h
    unfold putAll
    rw [putAll_put r (k + 1) _ h.2]
    congr 1
    refine Act.put_comm a _ _ (fun d' hd hd' => ?_)
    have := h.1
    rw [hd] at this
    cases hd'
    simp at this
theorem putAll_upd {vs : Nat → Value} {v : Value} : ∀ (l : List Oper) (k i : Nat) (a : Act) (o : Oper), noDup l = true → l[i]? = some o → (putAll vs k l a).put o.dst v = putAll (updV vs (k + i) v) k l a
  | [], _, _, _, _, _, h => by simp at h
  | x :: r, k, 0, a, o, hn, h => by
    simp at h
    subst h
    unfold noDup at hn
    rw [Bool.and_eq_true] at hn
    unfold putAll
    have e : updV vs (k + 0) v k = v := by simp [updV]
    rw [e]
    have e2 : ∀ a', putAll vs (k + 1) r a' = putAll (updV vs (k + 0) v) (k + 1) r a' := fun a' => putAll_congr r (k + 1) a' (fun j hj => by unfold updV; rw [if_neg (by omega)])
    cases hd : x.dst with
    | none => rw [show a.put none (vs k) = a from rfl, show a.put none v = a from rfl, ← e2]; rfl
    | some d =>
      have hr := hn.1
      rw [hd] at hr
      rw [putAll_put r (k + 1) _ hr, put_put_same, e2]
  | x :: r, k, i + 1, a, o, hn, h => by
    unfold noDup at hn
    rw [Bool.and_eq_true] at hn
    unfold putAll
    have e : updV vs (k + (i + 1)) v k = vs k := by unfold updV; rw [if_neg (by omega)]
    rw [e, putAll_upd r (k + 1) i _ o hn.2 (by simpa using h), show k + 1 + i = k + (i + 1) by omega]
theorem edges_at : ∀ (l : List Oper) (k i : Nat) (o : Oper), edgesB k l = true → l[i]? = some o → ∀ e ∈ o.after, Region.binds .any e = true → e.on < k + i
  | [], _, _, _, _, h => by simp at h
  | x :: r, k, 0, o, hb, h => by
    simp at h
    subst h
    unfold edgesB at hb
    rw [Bool.and_eq_true, Array.all_eq_true_iff_forall_mem] at hb
    intro e he hbd
    have := hb.1 e he
    rw [hbd] at this
    simp at this
    omega
  | x :: r, k, i + 1, o, hb, h => by
    unfold edgesB at hb
    rw [Bool.and_eq_true] at hb
    intro e he hbd
    have := edges_at r (k + 1) i o hb.2 (by simpa using h) e he hbd
    omega
theorem all_listed {listed : Array Bool} (he : edgesB 0 l = true) (hs : listed.size = l.length) (hr : Region.ready .any l.toArray listed = []) : ∀ i, i < l.length → listed.getD i true = true := by
  intro i
  induction i using Nat.strongRecOn with
  | _ i ih =>
    intro hi
    cases hl : listed.getD i true with
    | true => rfl
    | false =>
      exfalso
      have : i ∈ Region.ready .any l.toArray listed := mem_ready.2 ⟨hl, l[i], by simp [hi], fun e hm hb => by
        have hlt := edges_at l 0 i _ he (List.getElem?_eq_getElem hi) e hm hb
        have := ih e.on (by omega) (by omega)
        have hlt2 : e.on < listed.size := by omega
        simpa [hlt2] using this⟩
      rw [hr] at this
      cases this
def falses (listed : Array Bool) : Nat := listed.toList.countP (fun b => !b)
theorem falses_set {listed : Array Bool} {i : Nat} (h : listed.getD i true = false) : falses listed = falses (listed.setIfInBounds i true) + 1 := by
  unfold falses
  rw [Array.toList_setIfInBounds]
  have hi : i < listed.toList.length := by
    rcases Nat.lt_or_ge i listed.size with h' | h'
    · simpa using h'
    · simp [Array.getElem?_eq_none h'] at h
  have hv : listed.toList[i]? = some false := by
    have : i < listed.size := by simpa using hi
    simp [this] at h
    simp [this, h]
  have e := List.take_append_drop i listed.toList
  have hset : listed.toList.set i true = listed.toList.take i ++ true :: listed.toList.drop (i + 1) := by
    rw [List.set_eq_take_append_cons_drop, if_pos hi]
  have hold : listed.toList = listed.toList.take i ++ false :: listed.toList.drop (i + 1) := by
    conv => lhs; rw [← e]
    rw [drop_get hv]
  rw [hset]
  conv => lhs; rw [hold]
  simp [List.countP_append]
  omega
theorem wpAny_grow (hn : noDup l = true) (he : edgesB 0 l = true) (stable : ∀ i v w w', R i v w → Below w.heap.size w w' → R i v w')
    (step : ∀ (vs : Nat → Value) (w : World) (i : Nat) (o : Oper), Below w0.heap.size w0 w → l[i]? = some o → (∀ e ∈ o.after, Region.binds .any e = true → R e.on (vs e.on) w) →
      if Region.wanted o (yielded l.toArray (putAll vs 0 l a0).tmps) = true then o.wp P (putAll vs 0 l a0) w (fun a' w' => ∃ v, a' = (putAll vs 0 l a0).put o.dst v ∧ R i v w' ∧ Below w.heap.size w w') Q else R i undef w)
    (fin : ∀ (vs : Nat → Value) (w : World), Below w0.heap.size w0 w → (∀ i, i < l.length → R i (vs i) w) → Q .normal (putAll vs 0 l a0) w) :
    ∀ (fuel : Nat) (listed : Array Bool) (vs : Nat → Value) (w : World), listed.size = l.length → falses listed = fuel → (∀ i, listed.getD i false = true → R i (vs i) w) → Below w0.heap.size w0 w →
      wpAny P .any l.toArray Q fuel listed (putAll vs 0 l a0) w := by
  have done : ∀ (listed : Array Bool) (vs : Nat → Value) (w : World), listed.size = l.length → (∀ i, listed.getD i false = true → R i (vs i) w) → Below w0.heap.size w0 w → Region.ready .any l.toArray listed = [] → Q .normal (putAll vs 0 l a0) w := by
    intro listed vs w hs hR hb hr
    refine fin vs w hb (fun i hi => hR i ?_)
    have := all_listed he hs hr i hi
    have hlt : i < listed.size := by omega
    simpa [hlt] using this
  intro fuel
  induction fuel with
  | zero =>
    intro listed vs w hs hf hR hb
    have hr : Region.ready .any l.toArray listed = [] := by
      cases hq : Region.ready .any l.toArray listed with
      | nil => rfl
      | cons x xs =>
        exfalso
        have hx : x ∈ Region.ready .any l.toArray listed := by rw [hq]; simp
        have := falses_set (mem_ready.1 hx).1
        omega
    exact ⟨hr, done listed vs w hs hR hb hr⟩
  | succ fuel ih =>
    intro listed vs w hs hf hR hb
    refine ⟨done listed vs w hs hR hb, fun i hi => ?_⟩
    obtain ⟨h0, o, ho, hall⟩ := mem_ready.1 hi
    have ho' : l[i]? = some o := by simpa using ho
    have hst := step vs w i o hb ho' (fun e hm hbd => hR e.on (hall e hm hbd))
    have next : ∀ (v : Value) (w' : World), R i v w' → Below w.heap.size w w' → wpAny P .any l.toArray Q fuel (listed.setIfInBounds i true) ((putAll vs 0 l a0).put o.dst v) w' := by
      intro v w' hv hbw
      rw [putAll_upd l 0 i a0 o hn ho', Nat.zero_add]
      refine ih _ _ _ (by simpa using hs) (by have := falses_set h0; omega) (fun j hj => ?_) (hb.trans (hbw.mono hb.size))
      by_cases hji : j = i
      · subst hji; simpa [updV] using hv
      · rw [getD_set_ne false (Ne.symm hji)] at hj
        unfold updV
        rw [if_neg hji]
        exact stable j _ w w' (hR j hj) hbw
    unfold wpOp
    simp only [ho]
    split
    · rename_i hw
      rw [if_pos hw] at hst
      exact .inl (Oper.wp_mono (fun a' w' ⟨v, ha, hv, hbw⟩ => by rw [ha]; exact next v w' hv hbw) hst)
    · rename_i hw
      rw [if_neg hw] at hst
      exact next undef w hst (Below.refl _ _)
theorem putAll_self : ∀ (l : List Oper) (k : Nat), ∃ vs : Nat → Value, putAll vs k l a0 = a0
  | [], k => ⟨fun _ => undef, rfl⟩
  | o :: r, k => by
    obtain ⟨vs, h⟩ := putAll_self r (k + 1)
    refine ⟨updV vs k (match o.dst with | some d => a0.tmps.getD d undef | none => undef), ?_⟩
    unfold putAll
    have e : a0.put o.dst (updV vs k (match o.dst with | some d => a0.tmps.getD d undef | none => undef) k) = a0 := by
      cases hd : o.dst with
      | none => rfl
      | some d =>
        unfold Act.put updV
        simp only [if_true]
        have : a0.tmps.setIfInBounds d (a0.tmps.getD d undef) = a0.tmps := by
          apply Array.ext_getElem?
          intro j
          by_cases hj : d = j
          · subst hj
            rw [Array.getElem?_setIfInBounds]
            rcases Nat.lt_or_ge d a0.tmps.size with h' | h'
            · simp [h']
            · simp [Array.getElem?_eq_none h']; omega
          · rw [Array.getElem?_setIfInBounds_ne hj]
        rw [this]
    rw [e]
    rw [putAll_congr (vs' := vs) r (k + 1) a0 (fun j hj => by unfold updV; rw [if_neg (by omega)])]
    exact h
/-! ### The rule's steps -/
/-- What a step owes. -/
def StepGoal (P : Program) (l : List Oper) (o : Oper) (a : Act) (w : World) (R : Value → World → Prop) (Q : Exit → Act → World → Prop) : Prop :=
  if Region.wanted o (yielded l.toArray a.tmps) = true then o.wp P a w (fun a' w' => ∃ v, a' = a.put o.dst v ∧ R v w' ∧ Below w.heap.size w w') Q else R undef w
theorem step_open {o : Oper} {a : Act} {w : World} {R : Value → World → Prop} (hg : o.guard = none) (h : o.wp P a w (fun a' w' => ∃ v, a' = a.put o.dst v ∧ R v w' ∧ Below w.heap.size w w') Q) : StepGoal P l o a w R Q := by
  unfold StepGoal
  rw [if_pos (by simp [Region.wanted, hg])]
  exact h
/-- The rule. -/
theorem wp_region_grow {id : Nat} (hm : P.follows .mixedOrders = true) (hn : noDup l = true) (he : edgesB 0 l = true) (R : Nat → Value → World → Prop) (stable : ∀ i v w w', R i v w → Below w.heap.size w w' → R i v w')
    (step : ∀ (vs : Nat → Value) (w : World) (i : Nat) (o : Oper), Below w0.heap.size w0 w → l[i]? = some o → (∀ e ∈ o.after, Region.binds .any e = true → R e.on (vs e.on) w) →
      StepGoal P l o (putAll vs 0 l a0) w (R i) Q)
    (fin : ∀ (vs : Nat → Value) (w : World), Below w0.heap.size w0 w → (∀ i, i < l.length → R i (vs i) w) → Q .normal (putAll vs 0 l a0) w) :
    (Code.region id l.toArray true).wp P Q a0 w0 := by
  refine wp_region_any hm ?_
  obtain ⟨vs, h⟩ := putAll_self (a0 := a0) l 0
  have hfl : falses (Array.replicate l.toArray.size false) = l.toArray.size := by simp [falses, List.countP_replicate]
  have := wpAny_grow (w0 := w0) (a0 := a0) hn he stable step fin l.toArray.size (Array.replicate l.toArray.size false) vs { w0 with drawn := w0.drawn + 1 } (by simp) hfl (fun i hi => by
    exfalso
    by_cases h' : i < l.length
    · simp [h'] at hi
    · simp [h'] at hi) ⟨rfl, rfl, rfl, Nat.le_refl _, fun _ _ => rfl⟩
  rw [h] at this
  exact this
/-- Facts that last while memory only grows. -/
def Lasts (p : Value → World → Prop) : Prop := ∀ v w w', p v w → Below w.heap.size w w' → p v w'
def IsV (x : Value) : Value → World → Prop := fun v _ => v = x
theorem lasts_v (x : Value) : Lasts (IsV x) := fun _ _ _ h _ => h
def byList (ps : List (Value → World → Prop)) (i : Nat) : Value → World → Prop := (ps[i]?).getD fun _ _ => True
theorem lasts_list {ps : List (Value → World → Prop)} (h : ∀ p ∈ ps, Lasts p) : ∀ i v w w', byList ps i v w → Below w.heap.size w w' → byList ps i v w' := by
  intro i v w w' hv hb
  unfold byList at *
  cases hp : ps[i]? with
  | none => simp
  | some p =>
    rw [hp] at hv
    exact h p (List.mem_of_getElem? hp) v w w' hv hb
end
end Go.Proofs.YtnhlnnehpmjeiaaGreatDoor
