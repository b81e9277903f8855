/- Contract of schema.Check. -/
import Derived.Test.YtoadihebdaooaaaGreatA6
import Derived.RegionTactic
namespace Go.Proofs.YtoadihebdaooaaaGreat
open Go.RowKit
set_option linter.unusedVariables false

structure Cmp where
  id : Int
  name : ByteArray
  fields : List Fld

/-- A slice of components that lies below block B. -/
def CompsAt (B : Nat) (w : World) (a : Option Addr) (len : Nat) (cs : List Cmp) : Prop :=
  cs.length = len ∧ len ≤ maxLen ∧ (len = 0 ∨ ∃ b off, a = some ⟨b, off, none⟩ ∧ b < B ∧ ∀ (i : Nat) (c : Cmp), cs[i]? = some c →
    w.cell? ⟨b, off + i * 3, none⟩ = some (.int .i64 c.id) ∧ w.cell? ⟨b, off + i * 3 + 1, none⟩ = some (.string c.name) ∧
      ∃ fa fl fc, w.cell? ⟨b, off + i * 3 + 2, none⟩ = some (.slice fa fl fc) ∧ FieldsAt B w fa fl c.fields ∧ (fa = none → fl = 0 ∧ fc = 0))
/-- The strings of a schema are strings. -/
def CompsWf (cs : List Cmp) : Prop := ∀ c ∈ cs, c.name.size ≤ maxLen ∧ ∀ f ∈ c.fields, f.name.size ≤ maxLen

theorem CompsAt.below {B : Nat} {w w' : World} {a : Option Addr} {len : Nat} {cs : List Cmp} (h : CompsAt B w a len cs) (hb : Below B w w') : CompsAt B w' a len cs := by
  obtain ⟨h1, h2, h3⟩ := h
  refine ⟨h1, h2, ?_⟩
  rcases h3 with h3 | ⟨b, off, ha, hB, hc⟩
  · exact .inl h3
  · refine .inr ⟨b, off, ha, hB, fun i f hf => ?_⟩
    obtain ⟨c0, c1, fa, fl, fc, c2, hF, hn⟩ := hc i f hf
    exact ⟨(hb.cell (p := ⟨b, off + i * 3, none⟩) hB).trans c0, (hb.cell (p := ⟨b, off + i * 3 + 1, none⟩) hB).trans c1, fa, fl, fc, (hb.cell (p := ⟨b, off + i * 3 + 2, none⟩) hB).trans c2, hF.below hb, hn⟩
theorem CompsAt.mono {B B' : Nat} {w : World} {a : Option Addr} {len : Nat} {cs : List Cmp} (h : CompsAt B w a len cs) (hb : B ≤ B') : CompsAt B' w a len cs := by
  obtain ⟨h1, h2, h3⟩ := h
  refine ⟨h1, h2, ?_⟩
  rcases h3 with h3 | ⟨b, off, ha, hB, hc⟩
  · exact .inl h3
  · refine .inr ⟨b, off, ha, by omega, fun i f hf => ?_⟩
    obtain ⟨c0, c1, fa, fl, fc, c2, hF, hn⟩ := hc i f hf
    exact ⟨c0, c1, fa, fl, fc, c2, hF.mono hb, hn⟩
theorem CompsAt.get {B : Nat} {w w' : World} {a : Option Addr} {len : Nat} {cs : List Cmp} (h : CompsAt B w a len cs) (hb : Below B w w') {k : Nat} (hk : k < len) :
    ∃ b off c, a = some ⟨b, off, none⟩ ∧ b < B ∧ cs[k]? = some c ∧ w'.cell? ⟨b, off + k * 3, none⟩ = some (.int .i64 c.id) ∧ w'.cell? ⟨b, off + k * 3 + 1, none⟩ = some (.string c.name) ∧
      ∃ fa fl fc, w'.cell? ⟨b, off + k * 3 + 2, none⟩ = some (.slice fa fl fc) ∧ FieldsAt B w' fa fl c.fields ∧ (fa = none → fl = 0 ∧ fc = 0) := by
  obtain ⟨h1, h2, h3⟩ := h.below hb
  rcases h3 with h3 | ⟨b, off, ha, hB, hc⟩
  · omega
  · have hl : k < cs.length := by omega
    exact ⟨b, off, cs[k], ha, hB, List.getElem?_eq_getElem hl, hc k _ (List.getElem?_eq_getElem hl)⟩

def compsGo (last : Int) (seen : List (List UInt8)) : List Cmp → Int
  | [] => 0
  | c :: r => if c.id ≤ last ∨ 24 < c.id then 1 else if isNameB c.name = false ∨ seen.contains ((c.name).data.toList) = true then 4 else if fieldsF c.fields ≠ 0 then fieldsF c.fields else compsGo c.id (seen ++ [(c.name).data.toList]) r
def schemaCheck (ver : Int) (cs : List Cmp) : Int := if ver < 1 ∨ 1073741824 < ver then 1 else compsGo 0 [] cs
theorem drop_get {α : Type} {l : List α} {k : Nat} {x : α} (h : l[k]? = some x) : l.drop k = x :: l.drop (k + 1) := by
  obtain ⟨h1, h2⟩ := List.getElem?_eq_some_iff.1 h
  rw [List.drop_eq_getElem_cons h1, h2]
theorem SeenIs.drew {w : World} {b n : Nat} {l : List (List UInt8)} (h : SeenIs w b n l) : SeenIs w.drew b n l := h

set_option maxRecDepth 100000 in
set_option maxHeartbeats 2000000 in
theorem schemaCheck_any (ver : Int) (cs : List Cmp) (a : Option Addr) (len cap : Nat) (w : World) (hcs : CompsAt w.heap.size w a len cs) (hw : CompsWf cs) :
    Calls Tryz.prog 56 #[.agg #[.int .i64 ver, .slice a len cap]] w fun e w' => e = .returned (.int .i64 (schemaCheck ver cs)) ∧ Below w.heap.size w w' := by
  have hmx : len ≤ maxLen := hcs.2.1
  have hmm := @run_makeMap Tryz.prog
  have HMX := Lib.hid hmx
  unfold maxLen at hmx
  rcases (by omega : ver < 1 ∨ (1 ≤ ver ∧ 1073741824 < ver) ∨ (1 ≤ ver ∧ ver ≤ 1073741824)) with h | ⟨h, h'⟩ | ⟨h, h'⟩
  · have H : Hid (schemaCheck ver cs = 1) := Lib.hid (by unfold schemaCheck; rw [if_pos (.inl h)])
    go_enter Tryz.func56, Tryz.ntmps56
    go_wp2
    go_ret
    exact ⟨ret_intk H.out.symm, by go_grown⟩
  · have H : Hid (schemaCheck ver cs = 1) := Lib.hid (by unfold schemaCheck; rw [if_pos (.inr h')])
    go_enter Tryz.func56, Tryz.ntmps56
    go_wp2
    go_ret
    exact ⟨ret_intk H.out.symm, by go_grown⟩
  · have H : Hid (schemaCheck ver cs = compsGo 0 [] cs) := Lib.hid (by unfold schemaCheck; rw [if_neg (by omega)])
    go_enter Tryz.func56, Tryz.ntmps56
    go_wp2
    go_loopw [4, 20] (fun l i wr => ∃ (k : Nat) (last : Int), k ≤ len ∧ i = .int .i64 k ∧ l = .int .i64 last ∧ compsGo 0 [] cs = compsGo last ((cs.take k).map fun c => (c.name).data.toList) (cs.drop k) ∧
        SeenIs wr (w.heap.size + 1) k ((cs.take k).map fun c => (c.name).data.toList) ∧ Below w.heap.size w wr)
        (fun _ i _ => len - (intOf i).toNat)
    case atStart => exact ⟨0, 0, Nat.zero_le _, rfl, rfl, rfl, by simpa using SeenIs.made (w.alloc (.cells #[.int .i64 ver, .slice a len cap] 24)), by go_grown⟩
    case round =>
      obtain ⟨k, last, hk, rfl, rfl, hgo, hseen, hbw⟩ := hrel
      have HG := Lib.hid hgo
      clear hgo
      have hzr := hbw.size
      have hbl := hseen.lt
      by_cases hlt : k < len
      · obtain ⟨b, off, c, rfl, hB, hc, c0, c1, fa, fl, fc, c2, hF, hnil⟩ := hcs.get hbw hlt
        have htk := Lib.hid (take_snoc hc)
        have hdr := Lib.hid (drop_get hc)
        obtain ⟨hsz, hszf⟩ := hw c (List.mem_of_getElem? hc)
        have hstep := Lib.hid (HG.out.trans (by rw [hdr.out]))
        rcases (by omega : c.id ≤ last ∨ (last < c.id ∧ 24 < c.id) ∨ (last < c.id ∧ c.id ≤ 24)) with h1 | ⟨h1, h2⟩ | ⟨h1, h2⟩
        · have H1 : Hid (schemaCheck ver cs = 1) := Lib.hid (by rw [H.out, hstep.out]; unfold compsGo; rw [if_pos (.inl h1)])
          go_wp2
          go_ret
          exact ⟨ret_intk H1.out.symm, hbw.alloc hzr _⟩
        · have H1 : Hid (schemaCheck ver cs = 1) := Lib.hid (by rw [H.out, hstep.out]; unfold compsGo; rw [if_pos (.inr h2)])
          go_wp2
          go_ret
          exact ⟨ret_intk H1.out.symm, hbw.alloc hzr _⟩
        · have hd1 : decide (c.id ≤ last) = false := by simp; omega
          have hd2 : decide (24 < c.id) = false := by simp; omega
          go_wp2_with fail
          refine (isName_any _ _ hsz).mono ?_
          rintro e w' ⟨rfl, rfl⟩
          cases hn : isNameB c.name
          · have H1 : Hid (schemaCheck ver cs = 4) := Lib.hid (by rw [H.out, hstep.out]; unfold compsGo; rw [if_neg (by omega), if_pos (.inl hn)])
            go_wp2
            go_ret
            exact ⟨ret_intk H1.out.symm, hbw.alloc hzr _⟩
          · have HN := Lib.hid hn
            have hseenA := hseen.alloc (Obj.cells #[Value.int IntKind.i64 c.id, Value.string c.name, Value.slice fa fl fc] 112)
            have hlk := hseenA.look (s := c.name) hsz
            generalize hct : (List.map (fun c => (c.name).data.toList) (List.take k cs)).contains ((c.name).data.toList) = ct at hlk
            cases ct
            · have H1 : Hid (schemaCheck ver cs = if fieldsF c.fields ≠ 0 then fieldsF c.fields else compsGo c.id ((cs.take (k + 1)).map fun c => (c.name).data.toList) (cs.drop (k + 1))) := Lib.hid (by
                rw [H.out, hstep.out]; conv => lhs; unfold compsGo
                rw [if_neg (by omega), if_neg (by rw [hn, hct]; simp), htk.out, List.map_append]; rfl)
              obtain ⟨w2, hup, hseen2, hg2, hz2, hfr⟩ := hseenA.drew.store (s := c.name) hsz (by have := HMX.out; omega)
              clear hct hfr
              have HS := Lib.hid hseen2
              clear hseen2
              have hf2 := keepG hg2 (show (wr.alloc (Obj.cells #[Value.int IntKind.i64 c.id, Value.string c.name, Value.slice fa fl fc] 112)).drew.heap[wr.heap.size]? = some _ from heap_alloc_new wr _) (by simp; omega)
              have g0 := cell_at hf2 0
              have g1 := cell_at hf2 1
              have g2 := cell_at hf2 2
              simp at g0 g1 g2
              have hbel2 : Below w.heap.size wr w2 := ((Below.refl _ wr).alloc hzr _).drew.grown hg2 (by simp [World.drew]; omega) (fun x hx => by cases hx; omega)
              have hbel : Below w.heap.size w w2 := hbw.trans hbel2
              have hF2 := (hF.below hbel2).mono hbel.size
              have hz2' : w2.heap.size = wr.heap.size + 1 := by simpa [World.drew] using hz2
              have HZ := Lib.hid hz2'
              clear hz2 hz2' hg2 hf2
              go_wp2
              go_region
              go_wp2_with fail
              refine (fields_any c.fields _ _ _ _ hF2 hszf).mono ?_
              rintro e w3 ⟨rfl, hb3⟩
              have hbel3 : Below w.heap.size w w3 := hbel.trans (hb3.mono hbel.size)
              by_cases h0 : fieldsF c.fields = 0
              · have H2 := Lib.hid (H1.out.trans (by rw [if_neg (by simpa using h0)]))
                have e1 : (fieldsF c.fields != 0) = false := by simp [h0]
                have HS3 := Lib.hid (HS.out.below hb3)
                clear h0
                go_wp2
                go_roundw
                case rel =>
                  refine ⟨k + 1, c.id, by omega, by go_num, rfl, H.out.symm.trans H2.out, ?_, hbel3⟩
                  have := HS3.out
                  rw [htk.out, List.map_append]; exact this
                case measure => simp [intOf]; omega
              · have H2 := Lib.hid (H1.out.trans (by rw [if_pos h0]))
                have e1 : (fieldsF c.fields != 0) = true := by simp [h0]
                clear h0
                go_wp2
                go_ret
                exact ⟨ret_intk H2.out.symm, hbel3⟩
            · have H1 : Hid (schemaCheck ver cs = 4) := Lib.hid (by rw [H.out, hstep.out]; unfold compsGo; rw [if_neg (by omega), if_pos (.inr hct)])
              clear hct
              go_wp2
              go_ret
              exact ⟨ret_intk H1.out.symm, hbw.alloc hzr _⟩
      · obtain rfl : k = len := by omega
        have H1 : Hid (schemaCheck ver cs = 0) := Lib.hid (by rw [H.out, HG.out, List.drop_eq_nil_of_le (by have := hcs.1; omega)]; rfl)
        go_wp2
        go_ret
        exact ⟨ret_intk H1.out.symm, hbw⟩
end Go.Proofs.YtoadihebdaooaaaGreat
