/- Contracts of layout.Check, layout.Of, column.New, schema.IsName. · Contracts of column.New, schema.IsName. · Maps told as functions: general lemmas, over any program. · Contract of schema.fields. · Contract of schema.Check. -/
import Derived.Test.YtgnilkjdpfbjgaaGreatQ1
import Derived.Test.YtgnilkjdpfbjgaaGreatRows
import Derived.WalkKit
import Derived.Lib.Hide
import Derived.Maps.OwnSet
import Derived.RegionTactic
namespace Go.Proofs.YtgnilkjdpfbjgaaGreat
open Go.RowKit
set_option linter.unusedVariables false
theorem FieldsAt.mono {B B' : Nat} {w : World} {a : Option Addr} {len : Nat} {fs : List Fld} (h : FieldsAt B w a len fs) (hb : B ≤ B') : FieldsAt B' w a len fs := by
  obtain ⟨h1, h2, h3⟩ := h
  refine ⟨h1, h2, ?_⟩
  rcases h3 with h3 | ⟨b, off, ha, hB, hc⟩
  · exact .inl h3
  · exact .inr ⟨b, off, ha, by omega, hc⟩
def fldOk (f : Fld) : Bool := decide (1 ≤ kSize f.kind) && decide (1 ≤ f.count) && decide (f.count ≤ 8)
def layCheck (fs : List Fld) : Int :=
  if 8 < fs.length then 1 else if fs.all fldOk then (if 256 < planSize fs then 5 else 0) else 1
theorem layCheck_long {fs : List Fld} (h : 8 < fs.length) : layCheck fs = 1 := by simp [layCheck, h]
theorem layCheck_bad {fs : List Fld} {f : Fld} {k : Nat} (hf : fs[k]? = some f) (h : fldOk f = false) : layCheck fs = 1 := by
  unfold layCheck
  split
  · rfl
  · rw [if_neg]
    intro ha
    rw [List.all_eq_true] at ha
    have := ha f (List.mem_of_getElem? hf)
    rw [h] at this; cases this
theorem layCheck_ok {fs : List Fld} (h : fs.length ≤ 8) (ha : fs.all fldOk = true) : layCheck fs = if 256 < planSize fs then 5 else 0 := by
  unfold layCheck; rw [if_neg (by omega), if_pos ha]
theorem fldOk_size {fs : List Fld} (h : fs.all fldOk = true) : ∀ f ∈ fs, 1 ≤ kSize f.kind := by
  intro f hf
  have := List.all_eq_true.1 h f hf
  simp [fldOk] at this
  omega
theorem fld84_0 (k : Int) (va : Option Addr) (n c : Nat) (w : World) : Sem.run Tryz.prog (Instr.field 235 (.agg #[.int .i64 k, .slice va n c]) 0) w = .ok (.int .i64 k) w := by kernel_rfl
set_option maxRecDepth 100000 in
set_option maxHeartbeats 1000000 in
theorem layCheck_any (fs : List Fld) (a : Option Addr) (len cap : Nat) (w : World) (hfs : FieldsAt w.heap.size w a len fs) :
    Calls Tryz.prog 121 #[.slice a len cap] w fun e w' => e = .returned (.int .i64 (layCheck fs)) ∧ Below w.heap.size w w' := by
  have hmx : len ≤ maxLen := hfs.2.1
  unfold maxLen at hmx
  have hfl := fld84_0
  by_cases h8 : 8 < len
  · have HL := Lib.hid (layCheck_long (fs := fs) (by rw [hfs.1]; exact h8))
    go_enter Tryz.func121, Tryz.ntmps121
    go_wp2
    go_ret
    exact ⟨ret_intk HL.out.symm, Below.refl _ _⟩
  · go_enter Tryz.func121, Tryz.ntmps121
    go_wp2
    go_loopw [10] (fun i wr => ∃ (k : Nat), k ≤ len ∧ i = .int .i64 k ∧ (fs.take k).all fldOk = true ∧ Below w.heap.size w wr)
      (fun i _ => len - (intOf i).toNat)
    case atStart => exact ⟨0, Nat.zero_le _, rfl, rfl, Below.refl _ _⟩
    case round =>
      obtain ⟨k, hk, rfl, hall, hbw⟩ := hrel
      have HA := Lib.hid hall
      clear hall
      have hzr := hbw.size
      by_cases hlt : k < len
      · obtain ⟨b, off, f, rfl, hB, hf, c0, c1, c2⟩ := hfs.get hbw hlt
        have htk := Lib.hid (take_snoc hf)
        have hks := kSize_bd f.kind
        go_wp2_with fail
        refine (size_any _ _).mono ?_
        rintro e w1 ⟨rfl, hb1⟩
        have hf1 := keep hb1 (heap_alloc_new wr _)
        have f2 := cell_at hf1 2
        simp at f2
        have hbel : Below w.heap.size w w1 := (hbw.alloc (by omega) _).trans (hb1.mono (by simp; omega))
        rcases (by omega : kSize f.kind = 0 ∨ (1 ≤ kSize f.kind ∧ f.count < 1) ∨ (1 ≤ kSize f.kind ∧ 1 ≤ f.count ∧ 8 < f.count) ∨ (1 ≤ kSize f.kind ∧ 1 ≤ f.count ∧ f.count ≤ 8)) with h | ⟨h, h'⟩ | ⟨h, h', h''⟩ | ⟨h, h', h''⟩
        · have HB := Lib.hid (layCheck_bad hf (by simp [fldOk, h]))
          rw [h]
          clear h
          go_wp2
          go_returns
          exact ⟨ret_intk HB.out.symm, hbel⟩
        · have HB := Lib.hid (layCheck_bad hf (by simp [fldOk, h]; omega))
          have e1 : (kSize f.kind == 0) = false := by simp; omega
          go_wp2
          go_returns
          exact ⟨ret_intk HB.out.symm, hbel⟩
        · have HB := Lib.hid (layCheck_bad hf (by simp [fldOk, h]; omega))
          have e1 : (kSize f.kind == 0) = false := by simp; omega
          go_wp2
          go_returns
          exact ⟨ret_intk HB.out.symm, hbel⟩
        · have HB := Lib.hid (show fldOk f = true by simp [fldOk]; omega)
          have e1 : (kSize f.kind == 0) = false := by simp; omega
          go_wp2
          go_roundw
          case rel =>
            refine ⟨k + 1, by omega, by go_num, ?_, hbel⟩
            rw [htk.out, List.all_append, HA.out]
            simp [HB.out]
          case measure => simp [intOf]; omega
      · obtain rfl : k = len := by omega
        have ht : fs.take k = fs := List.take_of_length_le (by have := hfs.1; omega)
        have HA' : Hid (fs.all fldOk = true) := Lib.hid (by have := HA.out; rwa [ht] at this)
        have HL := Lib.hid (layCheck_ok (by have := hfs.1; omega) HA'.out)
        clear ht
        go_wp2_with fail
        refine (plan_any fs _ _ _ _ ((hfs.below hbw).mono hzr) (by omega) (fldOk_size HA'.out)).mono ?_
        rintro e w1 ⟨va, vc, rfl, hown, hb1⟩
        by_cases h : 256 < planSize fs
        · go_wp2
          go_returns
          exact ⟨ret_intk (by rw [HL.out, if_pos h]), hbw.trans (hb1.mono (by omega))⟩
        · go_wp2
          go_returns
          exact ⟨ret_intk (by rw [HL.out, if_neg (by omega)]), hbw.trans (hb1.mono (by omega))⟩
end Go.Proofs.YtgnilkjdpfbjgaaGreat
namespace Go.Proofs.YtgnilkjdpfbjgaaGreat
open Go.RowKit
set_option linter.unusedVariables false
def chB (c : UInt8) : Bool := letB c.toNat || (decide (48 ≤ c.toNat) && decide (c.toNat ≤ 57))
def isNameB (s : ByteArray) : Bool := decide (1 ≤ s.size) && decide (s.size ≤ 12) && letB ((s.data.toList.getD 0 0).toNat) && s.data.toList.all chB
theorem isName_long {s : ByteArray} (h : s.size = 0 ∨ 12 < s.size) : isNameB s = false := by unfold isNameB; rcases h with h | h <;> simp [h] <;> omega
theorem data_getD {s : ByteArray} {k : Nat} (h : k < s.size) : s.data.toList.getD k 0 = s[k] := by
  have h' : k < s.data.toList.length := by simpa using h
  rw [List.getD_eq_getElem?_getD, List.getElem?_eq_getElem h']
  simp; rfl
theorem data_get? {s : ByteArray} {k : Nat} (h : k < s.size) : s.data.toList[k]? = some s[k] := by
  have h' : k < s.data.toList.length := by simpa using h
  rw [List.getElem?_eq_getElem h']
  simp; rfl
theorem isName_head {s : ByteArray} (h0 : 0 < s.size) (h : letB (s[0].toNat) = false) : isNameB s = false := by
  unfold isNameB; rw [data_getD h0, h]; simp
theorem isName_bad {s : ByteArray} {k : Nat} (hk : k < s.size) (h : chB s[k] = false) : isNameB s = false := by
  unfold isNameB
  have : s.data.toList.all chB = false := by
    rw [List.all_eq_false]
    exact ⟨s[k], List.mem_of_getElem? (data_get? hk), by rw [h]; simp⟩
  rw [this]; simp
theorem isName_good {s : ByteArray} (h0 : 0 < s.size) (h1 : s.size ≤ 12) (h : letB (s[0].toNat) = true) (ha : s.data.toList.all chB = true) : isNameB s = true := by
  unfold isNameB; rw [data_getD h0, h, ha]; simp; omega
theorem empty_true {s : ByteArray} (h : s.size = 0) : s.toList = [] := by
  rw [ByteArray.toList_eq]
  have : s.data.size = 0 := h
  rw [← List.length_eq_zero_iff]
  simpa using this
theorem empty_false {s : ByteArray} (h : s.size ≠ 0) : s.toList.isEmpty = false := by
  rw [ByteArray.toList_eq]
  have : s.data.size ≠ 0 := h
  rw [Bool.eq_false_iff]
  intro h'
  rw [List.isEmpty_iff] at h'
  exact this (by rw [← Array.length_toList, h']; rfl)
set_option maxRecDepth 100000 in
theorem isName_any (s : ByteArray) (w : World) (hs : s.size ≤ maxLen) : Calls Tryz.prog 102 #[.string s] w fun e w' => e = .returned (.bool (isNameB s)) ∧ w = w' := by
  unfold maxLen at hs
  by_cases h0 : s.size = 0
  · have H := Lib.hid (isName_long (.inl h0))
    have e0 := empty_true h0
    clear h0
    go_enter Tryz.func102, Tryz.ntmps102
    go_wp2
    go_ret
    exact ⟨ret_bool H.out.symm, rfl⟩
  · have e0 := empty_false h0
    by_cases h1 : 12 < s.size
    · have H := Lib.hid (isName_long (.inr h1))
      go_enter Tryz.func102, Tryz.ntmps102
      go_wp2
      go_ret
      exact ⟨ret_bool H.out.symm, rfl⟩
    · have hp : 0 < s.size := by omega
      have hp' : (0 : Int) < (s.size : Int) := by omega
      have hd : decide (12 < (s.size : Int)) = false := by simp; omega
      go_enter Tryz.func102, Tryz.ntmps102
      go_wp2_with fail
      refine (isLetter_any _ _ (by omega) (by have := s[0].toNat_lt; omega)).mono ?_
      rintro e w' ⟨rfl, rfl⟩
      cases hl : letB (s[0].toNat)
      · have H := Lib.hid (isName_head hp hl)
        clear hl
        go_wp2
        go_ret
        exact ⟨ret_bool H.out.symm, rfl⟩
      · have HL := Lib.hid hl
        clear hl
        go_wp2_with fail
        go_loop [19] (fun i => ∃ k : Nat, k ≤ s.size ∧ i = .int .i64 k ∧ (s.data.toList.take k).all chB = true) (fun i => s.size - (intOf i).toNat)
        case atStart => exact ⟨0, Nat.zero_le _, rfl, rfl⟩
        case round =>
          obtain ⟨k, hk, rfl, hall⟩ := hrel
          have HA := Lib.hid hall
          clear hall
          by_cases hlt : k < s.size
          · have HT := Lib.hid (take_snoc (data_get? hlt))
            have hlt' : (k : Int) < (s.size : Int) := by omega
            go_wp2_with fail
            refine (isLetter_any _ _ (by omega) (by have := s[k].toNat_lt; omega)).mono ?_
            rintro e w' ⟨rfl, rfl⟩
            cases hl : letB (s[k].toNat)
            · rcases (by omega : (s[k].toNat : Int) < 48 ∨ (48 ≤ (s[k].toNat : Int) ∧ 57 < (s[k].toNat : Int)) ∨ (48 ≤ (s[k].toNat : Int) ∧ (s[k].toNat : Int) ≤ 57)) with h | ⟨h, h'⟩ | ⟨h, h'⟩
              · have H := Lib.hid (isName_bad hlt (by unfold chB; rw [hl]; simp; omega))
                have e1 : decide ((s[k].toNat : Int) < 48) = true := by simp; omega
                clear hl
                go_wp2
                go_ret
                exact ⟨ret_bool H.out.symm, rfl⟩
              · have H := Lib.hid (isName_bad hlt (by unfold chB; rw [hl]; simp; omega))
                have e1 : decide ((s[k].toNat : Int) < 48) = false := by simp; omega
                have e2 : decide (57 < (s[k].toNat : Int)) = true := by simp; omega
                clear hl
                go_wp2
                go_ret
                exact ⟨ret_bool H.out.symm, rfl⟩
              · have H := Lib.hid (show chB s[k] = true by unfold chB; rw [hl]; simp; omega)
                have e1 : decide ((s[k].toNat : Int) < 48) = false := by simp; omega
                have e2 : decide (57 < (s[k].toNat : Int)) = false := by simp; omega
                clear hl
                go_wp2
                go_round
                case rel => exact ⟨k + 1, by omega, by go_num, by rw [HT.out, List.all_append, HA.out]; simp [H.out]⟩
                case measure => simp [intOf]; omega
            · have H := Lib.hid (show chB s[k] = true by unfold chB; rw [hl]; simp)
              clear hl
              go_wp2
              go_round
              case rel => exact ⟨k + 1, by omega, by go_num, by rw [HT.out, List.all_append, HA.out]; simp [H.out]⟩
              case measure => simp [intOf]; omega
          · obtain rfl : k = s.size := by omega
            have H := Lib.hid (isName_good hp (by omega) HL.out (by have := HA.out; rwa [List.take_of_length_le (by simp)] at this))
            go_wp2
            go_ret
            exact ⟨ret_bool H.out.symm, rfl⟩
end Go.Proofs.YtgnilkjdpfbjgaaGreat
namespace Go.Proofs.YtgnilkjdpfbjgaaGreat
open Go.RowKit
open Go.Maps (Keyed IsMap Tidy)
set_option linter.unusedVariables false
section
variable {P : Program} {w : World} {k e : TypeId} {b cnt : Nat} {f : Lit → Option Lit}
/-- Block b is a map of cnt entries, that holds at each key what f says. -/
def MapIs (P : Program) (w : World) (k e : TypeId) (b cnt : Nat) (f : Lit → Option Lit) : Prop :=
  ∃ D : DataW Unit, w.ownsMap P k (plainElem P e) b cnt D ∧ Maps.size D = cnt ∧ ∀ kl, Maps.has D kl = (f kl).isSome ∧ ∀ v, f kl = some v → ∀ z, D.atKey kl z = .lit v
/-- Are two keys one? -/
def litEq : Lit → Lit → Bool
  | .bool a, .bool b => decide (a = b)
  | .int k n, .int k' n' => decide (k = k') && decide (n = n')
  | .float k n, .float k' n' => decide (k = k') && decide (n = n')
  | .string a, .string b => decide (a = b)
  | .nil, .nil => true
  | _, _ => false
theorem litEq_iff {x y : Lit} : litEq x y = true ↔ x = y := by
  cases x <;> cases y <;> simp [litEq]
def putF (f : Lit → Option Lit) (kl v : Lit) : Lit → Option Lit := fun x => if litEq x kl = true then some v else f x
theorem putF_same (f : Lit → Option Lit) (kl v : Lit) : putF f kl v kl = some v := if_pos (litEq_iff.2 rfl)
theorem putF_ne {f : Lit → Option Lit} {kl v x : Lit} (h : x ≠ kl) : putF f kl v x = f x := if_neg (fun e => h (litEq_iff.1 e))
theorem MapIs.made (w : World) (P : Program) (k e : TypeId) : MapIs P (w.alloc (.map #[] 0)) k e w.heap.size 0 (fun _ => none) :=
  ⟨.map [], World.ownsMap_made _ _ _ _, rfl, fun kl => ⟨rfl, fun v h => by cases h⟩⟩
theorem MapIs.kept {w' : World} {row : Option Nat} (h : MapIs P w k e b cnt f) (hg : w.grownBy w' row) (hne : some b ≠ row) : MapIs P w' k e b cnt f := by
  obtain ⟨D, h1, h2, h3⟩ := h
  exact ⟨D, h1.kept hg hne, h2, h3⟩
theorem MapIs.alloc (h : MapIs P w k e b cnt f) (o : Obj) : MapIs P (w.alloc o) k e b cnt f := by
  obtain ⟨D, h1, h2, h3⟩ := h
  exact ⟨D, h1.alloc o, h2, h3⟩
theorem MapIs.setCell (h : MapIs P w k e b cnt f) {a : Addr} (ha : b ≠ a.block) (u : Value) : MapIs P (w.setCell a u) k e b cnt f := by
  obtain ⟨D, h1, h2, h3⟩ := h
  exact ⟨D, h1.setCell ha u, h2, h3⟩
theorem MapIs.below (h : MapIs P w k e b cnt f) {w' : World} (hb : Below w.heap.size w w') : MapIs P w' k e b cnt f :=
  h.kept (row := none) ⟨hb.os, hb.tape, hb.output, hb.size, fun k hk _ => hb.block k hk⟩ (by simp)
theorem MapIs.lt (h : MapIs P w k e b cnt f) : b < w.heap.size := by obtain ⟨D, h1, _⟩ := h; exact h1.lt
/-- What is not there at a bool's map is false. -/
def boolAt (o : Option Lit) : Bool := match o with | some (.bool b) => b | _ => false
/-- m[k], m a map of bools. -/
theorem MapIs.look_bool {t : TypeId} (h : MapIs P w k e b cnt f) (K : Keyed P k) (ht : P.underlying t = some (.map k e)) (he : P.underlying e = some .bool) (hz : ∀ w, (zeroValue e).run P w = .ok (.bool false) w)
    {key : Value} {kl : Lit} (hkey : keyOf P k key = some kl) : (Instr.lookup t (.map (some b)) key false).run P w = .ok (.bool (boolAt (f kl))) w := by
  obtain ⟨D, h1, h2, h3⟩ := h
  obtain ⟨v, ps, hrun, hv⟩ := h1.lookup K ht (hz w) (plainElem_bool he false) hkey
  rw [hrun]
  obtain ⟨hh, hat⟩ := h3 kl
  have hv' : ∃ x, v = .bool x ∧ D.atKey kl (.lit (.bool false)) = .lit (.bool x) := by
    unfold plainElem at hv
    rw [he] at hv
    cases v <;> simp at hv
    exact ⟨_, rfl, hv.1.symm⟩
  obtain ⟨x, rfl, hx⟩ := hv'
  cases hf : f kl with
  | none =>
    rw [hf] at hh
    rw [Maps.atKey_of_not_has hh] at hx
    cases hx
    rfl
  | some v =>
    rw [hat v hf] at hx
    cases hx
    rfl
/-- len(m). -/
theorem MapIs.len {t : TypeId} (h : MapIs P w k e b cnt f) (ht : P.underlying t = some (.map k e)) (ty : TypeId) : (Builtin.len_ #[t] ty #[.map (some b)]).run P w = .ok (.int .i64 cnt) w := by
  obtain ⟨D, h1, h2, h3⟩ := h
  rw [h1.len ht, h2]
/-- m[k] = v. -/
theorem MapIs.store {t : TypeId} (h : MapIs P w k e b cnt f) (K : Keyed P k) (ht : P.underlying t = some (.map k e)) (hn : cnt < maxLen) {key val : Value} {kl v : Lit}
    (hkey : keyOf P k key = some kl) (hv : plainElem (H := Unit) P e val = some (.lit v, [])) :
    ∃ w', (Instr.mapUpdate t (.map (some b)) key val).run P w = .ok () w' ∧ MapIs P w' k e b (if (f kl).isSome then cnt else cnt + 1) (putF f kl v) ∧ w.grownBy w' (some b) ∧ w'.heap.size = w.heap.size ∧ (∀ a, w'.frozen? a = w.frozen? a) := by
  obtain ⟨D, h1, h2, h3⟩ := h
  obtain ⟨w', hrun, h1', ht'⟩ := h1.store K ht hn hkey hv
  have hs : Maps.size (D.put kl (.lit v)) = if (f kl).isSome then cnt else cnt + 1 := by
    rw [Maps.size_put (h1.tidy K), (h3 kl).1, h2]
  have hsz : w'.heap.size = w.heap.size := by
    obtain ⟨es, clock, es', clock', hb, rfl⟩ := ht'
    simp [ChangeMaps.setBlock]
  refine ⟨w', hrun, ⟨D.put kl (.lit v), ?_, hs, fun x => ?_⟩, ht'.grown, hsz, ht'.frozen⟩
  · obtain ⟨es, clock, hb, F, hle, hD⟩ := h1'
    refine ⟨es, clock, hb, F, ?_, hD⟩
    rw [← hs, hD]
    simp [Maps.size, length_sorted]
  · by_cases hx : x = kl
    · subst hx
      rw [putF_same]
      refine ⟨by rw [Maps.has_put_same h1.isMap (K.key hkey)]; rfl, fun u hu z => ?_⟩
      rw [Maps.atKey_put_same h1.isMap (K.key hkey)]
      cases hu
      rfl
    · rw [putF_ne hx]
      refine ⟨by rw [Maps.has_put_other hx, (h3 x).1], fun u hu z => ?_⟩
      rw [Maps.atKey_put_other hx]
      exact (h3 x).2 u hu z
end
end Go.Proofs.YtgnilkjdpfbjgaaGreat
namespace Go.Proofs.YtgnilkjdpfbjgaaGreat
open Go.RowKit
open Go.Maps (Keyed string_keyed)
open Go.WideMaps (keyOf_string_mk)
set_option linter.unusedVariables false
def nmOk : List (List UInt8) → List ByteArray → Bool
  | _, [] => true
  | seen, s :: r => isNameB s && !seen.contains ((s).data.toList) && nmOk (seen ++ [(s).data.toList]) r
theorem nmOk_append (l r : List ByteArray) : ∀ seen, nmOk seen (l ++ r) = (nmOk seen l && nmOk (seen ++ l.map (fun s : ByteArray => s.data.toList)) r) := by
  induction l with
  | nil => intro seen; simp [nmOk]
  | cons a l ih => intro seen; simp only [List.cons_append, nmOk, ih, List.map_cons]; simp [Bool.and_assoc]
theorem nmOk_bad {l : List ByteArray} {k : Nat} {s : ByteArray} (hs : l[k]? = some s) (h : isNameB s = false ∨ ((l.take k).map (fun s : ByteArray => s.data.toList)).contains ((s).data.toList) = true) : nmOk [] l = false := by
  have hl : l = l.take k ++ s :: l.drop (k + 1) := by
    have hk := (List.getElem?_eq_some_iff.1 hs)
    obtain ⟨hk1, hk2⟩ := hk
    conv => lhs; rw [← List.take_append_drop k l]
    rw [List.drop_eq_getElem_cons hk1, hk2]
  rw [hl, nmOk_append]
  simp only [nmOk, List.nil_append]
  rcases h with h | h
  · simp [h]
  · rw [h]; simp
theorem nmOk_snoc {l : List ByteArray} {s : ByteArray} (h : nmOk [] l = true) (h1 : isNameB s = true) (h2 : (l.map (fun s : ByteArray => s.data.toList)).contains ((s).data.toList) = false) : nmOk [] (l ++ [s]) = true := by
  rw [nmOk_append, h]; simp only [nmOk, List.nil_append, h1, h2]; rfl
theorem Tryz.law9 : Keyed Tryz.prog 9 := string_keyed Tryz.underlying9
theorem Tryz.zero4 (w : World) : (zeroValue 4).run Tryz.prog w = .ok (.bool false) w := by kernel_rfl
/-- The map of the names that were seen. -/
def SeenIs (w : World) (b : Nat) (n : Nat) (l : List (List UInt8)) : Prop :=
  ∃ cnt f, cnt ≤ n ∧ MapIs Tryz.prog w 9 4 b cnt f ∧ ∀ x, f (.string x) = if l.contains x then some (.bool true) else none
theorem SeenIs.look {w : World} {b n : Nat} {l : List (List UInt8)} (h : SeenIs w b n l) {s : ByteArray} (hs : s.size ≤ maxLen) :
    (Instr.lookup 197 (.map (some b)) (.string s) false).run Tryz.prog w = .ok (.bool (l.contains ((s).data.toList))) w := by
  obtain ⟨cnt, f, hc, hM, hf⟩ := h
  rw [hM.look_bool Tryz.law9 Tryz.underlying197 Tryz.underlying4 Tryz.zero4 (keyOf_string_mk Tryz.underlying9 hs), hf]
  cases l.contains ((s).data.toList) <;> rfl
theorem SeenIs.store {w : World} {b n : Nat} {l : List (List UInt8)} (h : SeenIs w b n l) {s : ByteArray} (hs : s.size ≤ maxLen) (hn : n < maxLen) :
    ∃ w', (Instr.mapUpdate 197 (.map (some b)) (.string s) (.bool true)).run Tryz.prog w = .ok () w' ∧ SeenIs w' b (n + 1) (l ++ [(s).data.toList]) ∧ w.grownBy w' (some b) ∧ w'.heap.size = w.heap.size ∧ (∀ a, w'.frozen? a = w.frozen? a) := by
  obtain ⟨cnt, f, hc, hM, hf⟩ := h
  obtain ⟨w', h1, h2, h3, h4, h5⟩ := hM.store Tryz.law9 Tryz.underlying197 (by omega) (keyOf_string_mk Tryz.underlying9 hs) (plainElem_bool Tryz.underlying4 true)
  refine ⟨w', h1, ⟨_, _, ?_, h2, fun x => ?_⟩, h3, h4, h5⟩
  · split <;> omega
  · by_cases hx : x = (s).data.toList
    · subst hx; rw [putF_same]; simp
    · rw [putF_ne (by simpa using hx), hf]
      have : (l ++ [(s).data.toList]).contains x = l.contains x := by
        rw [Bool.eq_iff_iff]; simp [hx]
      rw [this]
theorem SeenIs.made (w : World) : SeenIs (w.alloc (.map #[] 0)) w.heap.size 0 [] := ⟨0, _, Nat.le_refl _, MapIs.made _ _ _ _, fun x => rfl⟩
theorem SeenIs.below {w w' : World} {b n : Nat} {l : List (List UInt8)} (h : SeenIs w b n l) (hb : Below w.heap.size w w') : SeenIs w' b n l := by
  obtain ⟨cnt, f, hc, hM, hf⟩ := h
  exact ⟨cnt, f, hc, hM.below hb, hf⟩
theorem SeenIs.alloc {w : World} {b n : Nat} {l : List (List UInt8)} (h : SeenIs w b n l) (o : Obj) : SeenIs (w.alloc o) b n l := by
  obtain ⟨cnt, f, hc, hM, hf⟩ := h
  exact ⟨cnt, f, hc, hM.alloc o, hf⟩
theorem SeenIs.lt {w : World} {b n : Nat} {l : List (List UInt8)} (h : SeenIs w b n l) : b < w.heap.size := by
  obtain ⟨cnt, f, hc, hM, hf⟩ := h
  exact hM.lt
def fieldsF (fs : List Fld) : Int := if nmOk [] (fs.map (·.name)) then layCheck fs else 4
set_option maxRecDepth 100000 in
set_option maxHeartbeats 1000000 in
theorem fields_any (fs : List Fld) (a : Option Addr) (len cap : Nat) (w : World) (hfs : FieldsAt w.heap.size w a len fs) (hw : ∀ f ∈ fs, f.name.size ≤ maxLen) :
    Calls Tryz.prog 103 #[.slice a len cap] w fun e w' => e = .returned (.int .i64 (fieldsF fs)) ∧ Below w.heap.size w w' := by
  have hmx : len ≤ maxLen := hfs.2.1
  have hmm := @run_makeMap Tryz.prog
  have HMX := Lib.hid hmx
  unfold maxLen at hmx
  go_enter Tryz.func103, Tryz.ntmps103
  go_wp2
  go_loopw [9] (fun i wr => ∃ (k : Nat), k ≤ len ∧ i = .int .i64 k ∧ nmOk [] ((fs.take k).map (·.name)) = true ∧ SeenIs wr w.heap.size k (((fs.take k).map (·.name)).map (fun s : ByteArray => s.data.toList)) ∧ Below w.heap.size w wr)
      (fun i _ => len - (intOf i).toNat)
  case atStart => exact ⟨0, Nat.zero_le _, rfl, rfl, SeenIs.made w, by go_grown⟩
  case round =>
    obtain ⟨k, hk, rfl, hall, hseen, hbw⟩ := hrel
    have HA := Lib.hid hall
    clear hall
    have hzr := hbw.size
    have hbl := hseen.lt
    by_cases hlt : k < len
    · obtain ⟨b, off, f, rfl, hB, hf, c0, c1, c2⟩ := hfs.get hbw hlt
      have htk := Lib.hid (take_snoc hf)
      have hfn : (fs.map (·.name))[k]? = some f.name := by rw [List.getElem?_map, hf]; rfl
      have HFN := Lib.hid hfn
      clear hfn
      have hsz := hw f (List.mem_of_getElem? hf)
      go_wp2_with fail
      refine (isName_any _ _ hsz).mono ?_
      rintro e w' ⟨rfl, rfl⟩
      cases hn : isNameB f.name
      · have H : Hid (fieldsF fs = 4) := Lib.hid (by unfold fieldsF; rw [nmOk_bad HFN.out (.inl hn)]; rfl)
        go_wp2
        go_ret
        exact ⟨ret_intk H.out.symm, hbw.alloc (by omega) _⟩
      · have HN := Lib.hid hn
        have hlk := (hseen.alloc (Obj.cells #[Value.string f.name, Value.int IntKind.i64 f.kind, Value.int IntKind.i64 f.count] 64)).look (s := f.name) hsz
        have hM : ((((fs.map (·.name)).take k).map (fun s : ByteArray => s.data.toList)).contains ((f.name).data.toList)) = ((((fs.take k).map (·.name)).map (fun s : ByteArray => s.data.toList)).contains ((f.name).data.toList)) := by rw [← List.map_take]
        have HM := Lib.hid hM
        clear hM
        generalize hct : (List.map (fun s : ByteArray => s.data.toList) (List.map (fun x => x.name) (List.take k fs))).contains ((f.name).data.toList) = ct at hlk
        cases ct
        · obtain ⟨w2, hup, hseen2, hg2, hz2, hfr⟩ := (hseen.alloc (Obj.cells #[Value.string f.name, Value.int IntKind.i64 f.kind, Value.int IntKind.i64 f.count] 64)).store (s := f.name) hsz (by have := HMX.out; omega)
          have HS := Lib.hid hseen2
          clear hseen2
          have HCT := Lib.hid hct
          clear hct hfr
          have hbel : Below w.heap.size w w2 := (hbw.alloc (by omega) _).grown hg2 (by simp; omega) (fun x hx => by cases hx; omega)
          clear hg2
          go_wp2
          go_roundw
          case rel =>
            refine ⟨k + 1, by omega, by go_num, ?_, ?_, hbel⟩
            · rw [htk.out, List.map_append]; exact nmOk_snoc HA.out HN.out HCT.out
            · rw [htk.out, List.map_append, List.map_append]; exact HS.out
          case measure => simp [intOf]; omega
        · have H : Hid (fieldsF fs = 4) := Lib.hid (by unfold fieldsF; rw [nmOk_bad HFN.out (.inr (by rw [HM.out]; exact hct))]; rfl)
          clear hct
          go_wp2
          go_ret
          exact ⟨ret_intk H.out.symm, hbw.alloc (by omega) _⟩
    · obtain rfl : k = len := by omega
      have H : Hid (fieldsF fs = layCheck fs) := Lib.hid (by
        have := HA.out
        rw [List.take_of_length_le (by have := hfs.1; omega)] at this
        unfold fieldsF; rw [this]; rfl)
      go_wp2_with fail
      refine (layCheck_any fs _ _ _ _ ((hfs.below hbw).mono hzr)).mono ?_
      rintro e w1 ⟨rfl, hb1⟩
      go_wp2
      go_ret
      exact ⟨ret_intk H.out.symm, hbw.trans (hb1.mono hzr)⟩
end Go.Proofs.YtgnilkjdpfbjgaaGreat
namespace Go.Proofs.YtgnilkjdpfbjgaaGreat
open Go.RowKit
set_option linter.unusedVariables false
structure Cmp where
  id : Int
  name : ByteArray
  fields : List Fld
/-- A slice of components that lies below block B. -/
def CompsAt (B : Nat) (w : World) (a : Option Addr) (len : Nat) (cs : List Cmp) : Prop :=
  cs.length = len ∧ len ≤ maxLen ∧ (len = 0 ∨ ∃ b off, a = some ⟨b, off, none⟩ ∧ b < B ∧ ∀ (i : Nat) (c : Cmp), cs[i]? = some c →
    w.cell? ⟨b, off + i * 3, none⟩ = some (.int .i64 c.id) ∧ w.cell? ⟨b, off + i * 3 + 1, none⟩ = some (.string c.name) ∧
      ∃ fa fl fc, w.cell? ⟨b, off + i * 3 + 2, none⟩ = some (.slice fa fl fc) ∧ FieldsAt B w fa fl c.fields ∧ (fa = none → fl = 0 ∧ fc = 0))
/-- The strings of a schema are strings. -/
def CompsWf (cs : List Cmp) : Prop := ∀ c ∈ cs, c.name.size ≤ maxLen ∧ ∀ f ∈ c.fields, f.name.size ≤ maxLen
theorem CompsAt.below {B : Nat} {w w' : World} {a : Option Addr} {len : Nat} {cs : List Cmp} (h : CompsAt B w a len cs) (hb : Below B w w') : CompsAt B w' a len cs := by
  obtain ⟨h1, h2, h3⟩ := h
  refine ⟨h1, h2, ?_⟩
  rcases h3 with h3 | ⟨b, off, ha, hB, hc⟩
  · exact .inl h3
  · refine .inr ⟨b, off, ha, hB, fun i f hf => ?_⟩
    obtain ⟨c0, c1, fa, fl, fc, c2, hF, hn⟩ := hc i f hf
    exact ⟨(hb.cell (p := ⟨b, off + i * 3, none⟩) hB).trans c0, (hb.cell (p := ⟨b, off + i * 3 + 1, none⟩) hB).trans c1, fa, fl, fc, (hb.cell (p := ⟨b, off + i * 3 + 2, none⟩) hB).trans c2, hF.below hb, hn⟩
theorem CompsAt.mono {B B' : Nat} {w : World} {a : Option Addr} {len : Nat} {cs : List Cmp} (h : CompsAt B w a len cs) (hb : B ≤ B') : CompsAt B' w a len cs := by
  obtain ⟨h1, h2, h3⟩ := h
  refine ⟨h1, h2, ?_⟩
  rcases h3 with h3 | ⟨b, off, ha, hB, hc⟩
  · exact .inl h3
  · refine .inr ⟨b, off, ha, by omega, fun i f hf => ?_⟩
    obtain ⟨c0, c1, fa, fl, fc, c2, hF, hn⟩ := hc i f hf
    exact ⟨c0, c1, fa, fl, fc, c2, hF.mono hb, hn⟩
theorem CompsAt.get {B : Nat} {w w' : World} {a : Option Addr} {len : Nat} {cs : List Cmp} (h : CompsAt B w a len cs) (hb : Below B w w') {k : Nat} (hk : k < len) :
    ∃ b off c, a = some ⟨b, off, none⟩ ∧ b < B ∧ cs[k]? = some c ∧ w'.cell? ⟨b, off + k * 3, none⟩ = some (.int .i64 c.id) ∧ w'.cell? ⟨b, off + k * 3 + 1, none⟩ = some (.string c.name) ∧
      ∃ fa fl fc, w'.cell? ⟨b, off + k * 3 + 2, none⟩ = some (.slice fa fl fc) ∧ FieldsAt B w' fa fl c.fields ∧ (fa = none → fl = 0 ∧ fc = 0) := by
  obtain ⟨h1, h2, h3⟩ := h.below hb
  rcases h3 with h3 | ⟨b, off, ha, hB, hc⟩
  · omega
  · have hl : k < cs.length := by omega
    exact ⟨b, off, cs[k], ha, hB, List.getElem?_eq_getElem hl, hc k _ (List.getElem?_eq_getElem hl)⟩
def compsGo (last : Int) (seen : List (List UInt8)) : List Cmp → Int
  | [] => 0
  | c :: r => if c.id ≤ last ∨ 24 < c.id then 1 else if isNameB c.name = false ∨ seen.contains ((c.name).data.toList) = true then 4 else if fieldsF c.fields ≠ 0 then fieldsF c.fields else compsGo c.id (seen ++ [(c.name).data.toList]) r
def schemaCheck (ver : Int) (cs : List Cmp) : Int := if ver < 1 ∨ 1073741824 < ver then 1 else compsGo 0 [] cs
theorem drop_get {α : Type} {l : List α} {k : Nat} {x : α} (h : l[k]? = some x) : l.drop k = x :: l.drop (k + 1) := by
  obtain ⟨h1, h2⟩ := List.getElem?_eq_some_iff.1 h
  rw [List.drop_eq_getElem_cons h1, h2]
theorem SeenIs.drew {w : World} {b n : Nat} {l : List (List UInt8)} (h : SeenIs w b n l) : SeenIs w.drew b n l := h
set_option maxRecDepth 100000 in
set_option maxHeartbeats 2000000 in
theorem schemaCheck_any (ver : Int) (cs : List Cmp) (a : Option Addr) (len cap : Nat) (w : World) (hcs : CompsAt w.heap.size w a len cs) (hw : CompsWf cs) :
    Calls Tryz.prog 74 #[.agg #[.int .i64 ver, .slice a len cap]] w fun e w' => e = .returned (.int .i64 (schemaCheck ver cs)) ∧ Below w.heap.size w w' := by
  have hmx : len ≤ maxLen := hcs.2.1
  have hmm := @run_makeMap Tryz.prog
  have HMX := Lib.hid hmx
  unfold maxLen at hmx
  rcases (by omega : ver < 1 ∨ (1 ≤ ver ∧ 1073741824 < ver) ∨ (1 ≤ ver ∧ ver ≤ 1073741824)) with h | ⟨h, h'⟩ | ⟨h, h'⟩
  · have H : Hid (schemaCheck ver cs = 1) := Lib.hid (by unfold schemaCheck; rw [if_pos (.inl h)])
    go_enter Tryz.func74, Tryz.ntmps74
    go_wp2
    go_ret
    exact ⟨ret_intk H.out.symm, by go_grown⟩
  · have H : Hid (schemaCheck ver cs = 1) := Lib.hid (by unfold schemaCheck; rw [if_pos (.inr h')])
    go_enter Tryz.func74, Tryz.ntmps74
    go_wp2
    go_ret
    exact ⟨ret_intk H.out.symm, by go_grown⟩
  · have H : Hid (schemaCheck ver cs = compsGo 0 [] cs) := Lib.hid (by unfold schemaCheck; rw [if_neg (by omega)])
    go_enter Tryz.func74, Tryz.ntmps74
    go_wp2
    go_loopw [4, 20] (fun l i wr => ∃ (k : Nat) (last : Int), k ≤ len ∧ i = .int .i64 k ∧ l = .int .i64 last ∧ compsGo 0 [] cs = compsGo last ((cs.take k).map fun c => (c.name).data.toList) (cs.drop k) ∧
        SeenIs wr (w.heap.size + 1) k ((cs.take k).map fun c => (c.name).data.toList) ∧ Below w.heap.size w wr)
        (fun _ i _ => len - (intOf i).toNat)
    case atStart => exact ⟨0, 0, Nat.zero_le _, rfl, rfl, rfl, by simpa using SeenIs.made (w.alloc (.cells #[.int .i64 ver, .slice a len cap] 25)), by go_grown⟩
    case round =>
      obtain ⟨k, last, hk, rfl, rfl, hgo, hseen, hbw⟩ := hrel
      have HG := Lib.hid hgo
      clear hgo
      have hzr := hbw.size
      have hbl := hseen.lt
      by_cases hlt : k < len
      · obtain ⟨b, off, c, rfl, hB, hc, c0, c1, fa, fl, fc, c2, hF, hnil⟩ := hcs.get hbw hlt
        have htk := Lib.hid (take_snoc hc)
        have hdr := Lib.hid (drop_get hc)
        obtain ⟨hsz, hszf⟩ := hw c (List.mem_of_getElem? hc)
        have hstep := Lib.hid (HG.out.trans (by rw [hdr.out]))
        rcases (by omega : c.id ≤ last ∨ (last < c.id ∧ 24 < c.id) ∨ (last < c.id ∧ c.id ≤ 24)) with h1 | ⟨h1, h2⟩ | ⟨h1, h2⟩
        · have H1 : Hid (schemaCheck ver cs = 1) := Lib.hid (by rw [H.out, hstep.out]; unfold compsGo; rw [if_pos (.inl h1)])
          go_wp2
          go_ret
          exact ⟨ret_intk H1.out.symm, hbw.alloc hzr _⟩
        · have H1 : Hid (schemaCheck ver cs = 1) := Lib.hid (by rw [H.out, hstep.out]; unfold compsGo; rw [if_pos (.inr h2)])
          go_wp2
          go_ret
          exact ⟨ret_intk H1.out.symm, hbw.alloc hzr _⟩
        · have hd1 : decide (c.id ≤ last) = false := by simp; omega
          have hd2 : decide (24 < c.id) = false := by simp; omega
          go_wp2_with fail
          refine (isName_any _ _ hsz).mono ?_
          rintro e w' ⟨rfl, rfl⟩
          cases hn : isNameB c.name
          · have H1 : Hid (schemaCheck ver cs = 4) := Lib.hid (by rw [H.out, hstep.out]; unfold compsGo; rw [if_neg (by omega), if_pos (.inl hn)])
            go_wp2
            go_ret
            exact ⟨ret_intk H1.out.symm, hbw.alloc hzr _⟩
          · have HN := Lib.hid hn
            have hseenA := hseen.alloc (Obj.cells #[Value.int IntKind.i64 c.id, Value.string c.name, Value.slice fa fl fc] 67)
            have hlk := hseenA.look (s := c.name) hsz
            generalize hct : (List.map (fun c => (c.name).data.toList) (List.take k cs)).contains ((c.name).data.toList) = ct at hlk
            cases ct
            · have H1 : Hid (schemaCheck ver cs = if fieldsF c.fields ≠ 0 then fieldsF c.fields else compsGo c.id ((cs.take (k + 1)).map fun c => (c.name).data.toList) (cs.drop (k + 1))) := Lib.hid (by
                rw [H.out, hstep.out]; conv => lhs; unfold compsGo
                rw [if_neg (by omega), if_neg (by rw [hn, hct]; simp), htk.out, List.map_append]; rfl)
              obtain ⟨w2, hup, hseen2, hg2, hz2, hfr⟩ := hseenA.drew.store (s := c.name) hsz (by have := HMX.out; omega)
              clear hct hfr
              have HS := Lib.hid hseen2
              clear hseen2
              have hf2 := keepG hg2 (show (wr.alloc (Obj.cells #[Value.int IntKind.i64 c.id, Value.string c.name, Value.slice fa fl fc] 67)).drew.heap[wr.heap.size]? = some _ from heap_alloc_new wr _) (by simp; omega)
              have g0 := cell_at hf2 0
              have g1 := cell_at hf2 1
              have g2 := cell_at hf2 2
              simp at g0 g1 g2
              have hbel2 : Below w.heap.size wr w2 := ((Below.refl _ wr).alloc hzr _).drew.grown hg2 (by simp [World.drew]; omega) (fun x hx => by cases hx; omega)
              have hbel : Below w.heap.size w w2 := hbw.trans hbel2
              have hF2 := (hF.below hbel2).mono hbel.size
              have hz2' : w2.heap.size = wr.heap.size + 1 := by simpa [World.drew] using hz2
              have HZ := Lib.hid hz2'
              clear hz2 hz2' hg2 hf2
              go_wp2
              go_region
              go_wp2_with fail
              refine (fields_any c.fields _ _ _ _ hF2 hszf).mono ?_
              rintro e w3 ⟨rfl, hb3⟩
              have hbel3 : Below w.heap.size w w3 := hbel.trans (hb3.mono hbel.size)
              by_cases h0 : fieldsF c.fields = 0
              · have H2 := Lib.hid (H1.out.trans (by rw [if_neg (by simpa using h0)]))
                have e1 : (fieldsF c.fields != 0) = false := by simp [h0]
                have HS3 := Lib.hid (HS.out.below hb3)
                clear h0
                go_wp2
                go_roundw
                case rel =>
                  refine ⟨k + 1, c.id, by omega, by go_num, rfl, H.out.symm.trans H2.out, ?_, hbel3⟩
                  have := HS3.out
                  rw [htk.out, List.map_append]; exact this
                case measure => simp [intOf]; omega
              · have H2 := Lib.hid (H1.out.trans (by rw [if_pos h0]))
                have e1 : (fieldsF c.fields != 0) = true := by simp [h0]
                clear h0
                go_wp2
                go_ret
                exact ⟨ret_intk H2.out.symm, hbel3⟩
            · have H1 : Hid (schemaCheck ver cs = 4) := Lib.hid (by rw [H.out, hstep.out]; unfold compsGo; rw [if_neg (by omega), if_pos (.inr hct)])
              clear hct
              go_wp2
              go_ret
              exact ⟨ret_intk H1.out.symm, hbw.alloc hzr _⟩
      · obtain rfl : k = len := by omega
        have H1 : Hid (schemaCheck ver cs = 0) := Lib.hid (by rw [H.out, HG.out, List.drop_eq_nil_of_le (by have := hcs.1; omega)]; rfl)
        go_wp2
        go_ret
        exact ⟨ret_intk H1.out.symm, hbw⟩
end Go.Proofs.YtgnilkjdpfbjgaaGreat
