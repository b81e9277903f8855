/- Contract of schema.fields. -/
import Derived.Test.YtoadihebdaooaaaGreatA5
import Derived.Test.YtoadihebdaooaaaGreatM0
namespace Go.Proofs.YtoadihebdaooaaaGreat
open Go.RowKit
open Go.Maps (Keyed string_keyed)
open Go.WideMaps (keyOf_string_mk)
set_option linter.unusedVariables false

def nmOk : List (List UInt8) → List ByteArray → Bool
  | _, [] => true
  | seen, s :: r => isNameB s && !seen.contains ((s).data.toList) && nmOk (seen ++ [(s).data.toList]) r
theorem nmOk_append (l r : List ByteArray) : ∀ seen, nmOk seen (l ++ r) = (nmOk seen l && nmOk (seen ++ l.map (fun s : ByteArray => s.data.toList)) r) := by
  induction l with
  | nil => intro seen; simp [nmOk]
  | cons a l ih => intro seen; simp only [List.cons_append, nmOk, ih, List.map_cons]; simp [Bool.and_assoc]
theorem nmOk_bad {l : List ByteArray} {k : Nat} {s : ByteArray} (hs : l[k]? = some s) (h : isNameB s = false ∨ ((l.take k).map (fun s : ByteArray => s.data.toList)).contains ((s).data.toList) = true) : nmOk [] l = false := by
  have hl : l = l.take k ++ s :: l.drop (k + 1) := by
    have hk := (List.getElem?_eq_some_iff.1 hs)
    obtain ⟨hk1, hk2⟩ := hk
    conv => lhs; rw [← List.take_append_drop k l]
    rw [List.drop_eq_getElem_cons hk1, hk2]
  rw [hl, nmOk_append]
  simp only [nmOk, List.nil_append]
  rcases h with h | h
  · simp [h]
  · rw [h]; simp
theorem nmOk_snoc {l : List ByteArray} {s : ByteArray} (h : nmOk [] l = true) (h1 : isNameB s = true) (h2 : (l.map (fun s : ByteArray => s.data.toList)).contains ((s).data.toList) = false) : nmOk [] (l ++ [s]) = true := by
  rw [nmOk_append, h]; simp only [nmOk, List.nil_append, h1, h2]; rfl

theorem Tryz.law9 : Keyed Tryz.prog 9 := string_keyed Tryz.underlying9
theorem Tryz.zero4 (w : World) : (zeroValue 4).run Tryz.prog w = .ok (.bool false) w := by kernel_rfl

/-- The map of the names that were seen. -/
def SeenIs (w : World) (b : Nat) (n : Nat) (l : List (List UInt8)) : Prop :=
  ∃ cnt f, cnt ≤ n ∧ MapIs Tryz.prog w 9 4 b cnt f ∧ ∀ x, f (.string x) = if l.contains x then some (.bool true) else none
theorem SeenIs.look {w : World} {b n : Nat} {l : List (List UInt8)} (h : SeenIs w b n l) {s : ByteArray} (hs : s.size ≤ maxLen) :
    (Instr.lookup 177 (.map (some b)) (.string s) false).run Tryz.prog w = .ok (.bool (l.contains ((s).data.toList))) w := by
  obtain ⟨cnt, f, hc, hM, hf⟩ := h
  rw [hM.look_bool Tryz.law9 Tryz.underlying177 Tryz.underlying4 Tryz.zero4 (keyOf_string_mk Tryz.underlying9 hs), hf]
  cases l.contains ((s).data.toList) <;> rfl
theorem SeenIs.store {w : World} {b n : Nat} {l : List (List UInt8)} (h : SeenIs w b n l) {s : ByteArray} (hs : s.size ≤ maxLen) (hn : n < maxLen) :
    ∃ w', (Instr.mapUpdate 177 (.map (some b)) (.string s) (.bool true)).run Tryz.prog w = .ok () w' ∧ SeenIs w' b (n + 1) (l ++ [(s).data.toList]) ∧ w.grownBy w' (some b) ∧ w'.heap.size = w.heap.size ∧ (∀ a, w'.frozen? a = w.frozen? a) := by
  obtain ⟨cnt, f, hc, hM, hf⟩ := h
  obtain ⟨w', h1, h2, h3, h4, h5⟩ := hM.store Tryz.law9 Tryz.underlying177 (by omega) (keyOf_string_mk Tryz.underlying9 hs) (plainElem_bool Tryz.underlying4 true)
  refine ⟨w', h1, ⟨_, _, ?_, h2, fun x => ?_⟩, h3, h4, h5⟩
  · split <;> omega
  · by_cases hx : x = (s).data.toList
    · subst hx; rw [putF_same]; simp
    · rw [putF_ne (by simpa using hx), hf]
      have : (l ++ [(s).data.toList]).contains x = l.contains x := by
        rw [Bool.eq_iff_iff]; simp [hx]
      rw [this]
theorem SeenIs.made (w : World) : SeenIs (w.alloc (.map #[] 0)) w.heap.size 0 [] := ⟨0, _, Nat.le_refl _, MapIs.made _ _ _ _, fun x => rfl⟩
theorem SeenIs.below {w w' : World} {b n : Nat} {l : List (List UInt8)} (h : SeenIs w b n l) (hb : Below w.heap.size w w') : SeenIs w' b n l := by
  obtain ⟨cnt, f, hc, hM, hf⟩ := h
  exact ⟨cnt, f, hc, hM.below hb, hf⟩
theorem SeenIs.alloc {w : World} {b n : Nat} {l : List (List UInt8)} (h : SeenIs w b n l) (o : Obj) : SeenIs (w.alloc o) b n l := by
  obtain ⟨cnt, f, hc, hM, hf⟩ := h
  exact ⟨cnt, f, hc, hM.alloc o, hf⟩
theorem SeenIs.lt {w : World} {b n : Nat} {l : List (List UInt8)} (h : SeenIs w b n l) : b < w.heap.size := by
  obtain ⟨cnt, f, hc, hM, hf⟩ := h
  exact hM.lt

def fieldsF (fs : List Fld) : Int := if nmOk [] (fs.map (·.name)) then layCheck fs else 4

set_option maxRecDepth 100000 in
set_option maxHeartbeats 1000000 in
theorem fields_any (fs : List Fld) (a : Option Addr) (len cap : Nat) (w : World) (hfs : FieldsAt w.heap.size w a len fs) (hw : ∀ f ∈ fs, f.name.size ≤ maxLen) :
    Calls Tryz.prog 94 #[.slice a len cap] w fun e w' => e = .returned (.int .i64 (fieldsF fs)) ∧ Below w.heap.size w w' := by
  have hmx : len ≤ maxLen := hfs.2.1
  have hmm := @run_makeMap Tryz.prog
  have HMX := Lib.hid hmx
  unfold maxLen at hmx
  go_enter Tryz.func94, Tryz.ntmps94
  go_wp2
  go_loopw [9] (fun i wr => ∃ (k : Nat), k ≤ len ∧ i = .int .i64 k ∧ nmOk [] ((fs.take k).map (·.name)) = true ∧ SeenIs wr w.heap.size k (((fs.take k).map (·.name)).map (fun s : ByteArray => s.data.toList)) ∧ Below w.heap.size w wr)
      (fun i _ => len - (intOf i).toNat)
  case atStart => exact ⟨0, Nat.zero_le _, rfl, rfl, SeenIs.made w, by go_grown⟩
  case round =>
    obtain ⟨k, hk, rfl, hall, hseen, hbw⟩ := hrel
    have HA := Lib.hid hall
    clear hall
    have hzr := hbw.size
    have hbl := hseen.lt
    by_cases hlt : k < len
    · obtain ⟨b, off, f, rfl, hB, hf, c0, c1, c2⟩ := hfs.get hbw hlt
      have htk := Lib.hid (take_snoc hf)
      have hfn : (fs.map (·.name))[k]? = some f.name := by rw [List.getElem?_map, hf]; rfl
      have HFN := Lib.hid hfn
      clear hfn
      have hsz := hw f (List.mem_of_getElem? hf)
      go_wp2_with fail
      refine (isName_any _ _ hsz).mono ?_
      rintro e w' ⟨rfl, rfl⟩
      cases hn : isNameB f.name
      · have H : Hid (fieldsF fs = 4) := Lib.hid (by unfold fieldsF; rw [nmOk_bad HFN.out (.inl hn)]; rfl)
        go_wp2
        go_ret
        exact ⟨ret_intk H.out.symm, hbw.alloc (by omega) _⟩
      · have HN := Lib.hid hn
        have hlk := (hseen.alloc (Obj.cells #[Value.string f.name, Value.int IntKind.i64 f.kind, Value.int IntKind.i64 f.count] 123)).look (s := f.name) hsz
        have hM : ((((fs.map (·.name)).take k).map (fun s : ByteArray => s.data.toList)).contains ((f.name).data.toList)) = ((((fs.take k).map (·.name)).map (fun s : ByteArray => s.data.toList)).contains ((f.name).data.toList)) := by rw [← List.map_take]
        have HM := Lib.hid hM
        clear hM
        generalize hct : (List.map (fun s : ByteArray => s.data.toList) (List.map (fun x => x.name) (List.take k fs))).contains ((f.name).data.toList) = ct at hlk
        cases ct
        · obtain ⟨w2, hup, hseen2, hg2, hz2, hfr⟩ := (hseen.alloc (Obj.cells #[Value.string f.name, Value.int IntKind.i64 f.kind, Value.int IntKind.i64 f.count] 123)).store (s := f.name) hsz (by have := HMX.out; omega)
          have HS := Lib.hid hseen2
          clear hseen2
          have HCT := Lib.hid hct
          clear hct hfr
          have hbel : Below w.heap.size w w2 := (hbw.alloc (by omega) _).grown hg2 (by simp; omega) (fun x hx => by cases hx; omega)
          clear hg2
          go_wp2
          go_roundw
          case rel =>
            refine ⟨k + 1, by omega, by go_num, ?_, ?_, hbel⟩
            · rw [htk.out, List.map_append]; exact nmOk_snoc HA.out HN.out HCT.out
            · rw [htk.out, List.map_append, List.map_append]; exact HS.out
          case measure => simp [intOf]; omega
        · have H : Hid (fieldsF fs = 4) := Lib.hid (by unfold fieldsF; rw [nmOk_bad HFN.out (.inr (by rw [HM.out]; exact hct))]; rfl)
          clear hct
          go_wp2
          go_ret
          exact ⟨ret_intk H.out.symm, hbw.alloc (by omega) _⟩
    · obtain rfl : k = len := by omega
      have H : Hid (fieldsF fs = layCheck fs) := Lib.hid (by
        have := HA.out
        rw [List.take_of_length_le (by have := hfs.1; omega)] at this
        unfold fieldsF; rw [this]; rfl)
      go_wp2_with fail
      refine (layCheck_any fs _ _ _ _ ((hfs.below hbw).mono hzr)).mono ?_
      rintro e w1 ⟨rfl, hb1⟩
      go_wp2
      go_ret
      exact ⟨ret_intk H.out.symm, hbw.trans (hb1.mono hzr)⟩
end Go.Proofs.YtoadihebdaooaaaGreat
