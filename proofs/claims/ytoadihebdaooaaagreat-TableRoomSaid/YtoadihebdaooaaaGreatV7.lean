/- A new table; table.Bytes; Get where there is nothing. -/
import Derived.Test.YtoadihebdaooaaaGreatV6
namespace Go.Proofs.YtoadihebdaooaaaGreat
open Go.RowKit
set_option linter.unusedVariables false
theorem findC_id {i : Int} {c : Cmp} {cs : List Cmp} (h : findC i cs = some c) : c.id = i := by
  unfold findC at h
  have := List.find?_some h
  simpa using this
def newCD (most : Nat) (x : CV) : CD := ⟨(planSize x.c.fields).toNat, most, [], x.cb, none, 0, []⟩
theorem TabIn.of_new {w : World} {tb : Nat} {ver : Int} {cs : List Cmp} {set : Int} {most : Nat} (h : TableNew w tb ver cs set (most : Int)) (hok : tableOk ver cs set (most : Int) = true) (h0 : 0 ≤ set) (h1 : set ≤ 4294967295) :
    ∃ t : TD, TabIn tb w t ∧ t.tb = tb ∧ t.ver = ver ∧ t.set = set ∧ t.most = most ∧ t.kept = 0 ∧ t.ents = [] ∧ (idsTo set 24).map (findC · cs) = t.cs.map some := by
  obtain ⟨ca, cc, la, lc, cps, hh, he⟩ := h
  unfold tableOk at hok
  simp only [Bool.and_eq_true, decide_eq_true_eq, beq_iff_eq] at hok
  obtain ⟨⟨⟨⟨hsc, _⟩, hm1⟩, hm2⟩, _⟩ := hok
  have hlen : cps.length = (idsTo set 24).length := by have := congrArg List.length he; simpa using this.symm
  have h24 : cps.length ≤ 24 := by have := idsTo_len set 24; omega
  have hfind : ∀ x ∈ cps, ∃ i ∈ idsTo set 24, findC i cs = some x.c := by
    intro x hx
    have : some x.c ∈ (idsTo set 24).map (findC · cs) := by rw [he]; exact List.mem_map_of_mem (f := fun x : CV => some x.c) hx
    obtain ⟨i, hi, hic⟩ := List.mem_map.1 this
    exact ⟨i, hi, hic⟩
  have hlay : ∀ x ∈ cps, layCheck x.c.fields = 0 := by
    intro x hx
    obtain ⟨i, _, hi⟩ := hfind x hx
    exact schema_lay hsc _ (findC_mem hi)
  have hids : cps.map (·.c.id) = idsTo set 24 := by
    apply List.ext_getElem?
    intro k
    have hk := congrArg (fun l => l[k]?) he
    simp only [List.getElem?_map] at hk ⊢
    cases h1 : (idsTo set 24)[k]? with
    | none => rw [h1] at hk; cases h2 : cps[k]? with
      | none => rfl
      | some x => rw [h2] at hk; cases hk
    | some i =>
      rw [h1] at hk
      cases h2 : cps[k]? with
      | none => rw [h2] at hk; cases hk
      | some x =>
        rw [h2] at hk
        simp only [Option.map_some, Option.some.injEq] at hk ⊢
        exact findC_id hk
  have hcol : ∀ x ∈ cps, ColAt tb w (newCD most x) := by
    intro x hx
    obtain ⟨hf, hce⟩ := hh.good x hx
    have hl := hlay x hx
    obtain ⟨l8, la', l256⟩ := layCheck_zero hl
    obtain ⟨b0, _⟩ := planSize_bd l8 la'
    refine ⟨⟨?_, World.ownsRow_nil _ _ _ _, by have := hce.le; show tb ≤ x.cb; omega, by simp [newCD], by simp [newCD], by show (planSize x.c.fields).toNat ≤ 256; omega, by simp [newCD], by show most ≤ 65536; omega, by simp [newCD]⟩, by simp [newCD], by simp [newCD], by simp [newCD], by simp [newCD]⟩
    have := hce.blk
    show w.heap[x.cb]? = _
    rw [this]
    simp only [newCD, List.length_nil]
    rw [Int.toNat_of_nonneg b0]
    rfl
  have hfoot : ∀ (x : CV) (b : Nat), (newCD most x).foot b → b = x.cb := by
    intro x b hb
    rcases hb with hb | hb | hb
    · exact hb
    · cases hb
    · cases hb
  refine ⟨⟨tb, ver, set, most, 0, [], none, 0, ca, cc, la, lc, cps, cps.map (newCD most)⟩, ⟨hh.blk, ownsRow_mono hh.comps (by omega), ownsRow_mono hh.cols (by omega), fun x hx => ?_, World.ownsRow_nil _ _ _ _, Nat.le_refl _, by simp, fun i x d hx hd => ?_, fun d hd => ?_, fun i j d e hij hd he' b hb hb' => ?_, hlay, h24, by show 1 ≤ most; omega, by show most ≤ 256; omega, by simp, h0, h1, hids⟩, rfl, rfl, rfl, rfl, rfl, rfl, by simp only [TD.cs]; rw [he]; simp⟩
  · have hf := (hh.good x hx).1
    exact ⟨ownsRow_mono hf.row (by omega), hf.len, hf.max, hf.nil⟩
  · simp only [List.getElem?_map, Option.map_eq_some_iff] at hd
    obtain ⟨y, hy, rfl⟩ := hd
    have : y = x := by have h2 : cps[i]? = some x := hx; rw [h2] at hy; cases hy; rfl
    subst this
    exact ⟨rfl, rfl, rfl, rfl⟩
  · obtain ⟨x, hx, rfl⟩ := List.mem_map.1 hd
    exact hcol x hx
  · simp only [List.getElem?_map, Option.map_eq_some_iff] at hd he'
    obtain ⟨x, hx, rfl⟩ := hd
    obtain ⟨y, hy, rfl⟩ := he'
    have h3 := hfoot x b hb
    have h4 := hfoot y b hb'
    have hnd := hh.nodup
    have e1 : (cps.map (·.cb))[i]? = some b := by rw [List.getElem?_map, hx, h3]; rfl
    have e2 : (cps.map (·.cb))[j]? = some b := by rw [List.getElem?_map, hy, h4]; rfl
    exact hij (nodup_at hnd e1 e2)
section
variable {B : Nat} {w : World} {t : TD}
set_option maxRecDepth 100000 in
theorem tabGet_no (h : TabIn B w t) (row comp : Int) (he : findErr t row comp ≠ 0) : Calls Tryz.prog 41 #[.pointer (some ⟨t.tb, 0, none⟩), .int .i64 row, .int .i64 comp] w fun e w' => e = .returned (.tuple #[.slice none 0 0, .int .i64 (findErr t row comp)]) ∧ Below w.heap.size w w' := by
  have hv : findVal t row comp = .agg #[.int .i64 0, .string ByteArray.empty, .slice none 0 0, .pointer none] := by
    unfold findErr at he
    unfold findVal
    split
    · rename_i h1
      rw [if_pos h1] at he
      cases hc : colOf t.cps comp with
      | none => rfl
      | some x => rw [hc] at he; exact absurd rfl he
    · rfl
  have HF := Lib.hid (tabFind_in h row comp)
  rw [hv] at HF
  obtain ⟨r, hr⟩ : ∃ r, findErr t row comp = r := ⟨_, rfl⟩
  rw [hr] at HF he ⊢
  have e1 : (r != 0) = true := by rw [bne_iff_ne]; exact he
  clear h hv hr he
  go_enter Tryz.func41, Tryz.ntmps41
  go_wp2_with fail
  refine HF.out.mono ?_
  rintro e w1 ⟨rfl, hb⟩
  have hz := hb.size
  go_wp2_with fail
  go_ret2
  exact ⟨rfl, hb.alloc hz _⟩
set_option maxRecDepth 100000 in
theorem tabBytes_in (h : TabIn B w t) (r : Nat) (i : Nat) (x : CV) (d : CD) (l : List UInt8) (comp : Int) (hr : r < t.ents.length) (hc : colOf t.cps comp = some x) (hx : t.cps[i]? = some x) (hd : t.cols[i]? = some d) (hl : d.rows[r]? = some l) :
    Calls Tryz.prog 44 #[.pointer (some ⟨t.tb, 0, none⟩), .int .i64 (r : Int), .int .i64 comp] w fun e w' => e = .returned (.tuple #[.string ⟨l.toArray⟩, .int .i64 0]) ∧ Below w.heap.size w w' := by
  have hv : findVal t (r : Int) comp = .agg #[.int .i64 x.c.id, .string x.c.name, .slice x.fa x.fl x.fc, .pointer (some ⟨x.cb, 0, none⟩)] := by unfold findVal; rw [if_pos ⟨by omega, by omega⟩, hc]
  have he : findErr t (r : Int) comp = 0 := by unfold findErr; rw [if_pos ⟨by omega, by omega⟩, hc]; rfl
  have hf := tabFind_in h (r : Int) comp
  rw [hv, he] at hf
  obtain ⟨k1, _, _, _⟩ := h.col i x d hx hd
  have HF := Lib.hid hf
  have HG := Lib.hid (fun (W : World) (hW : ColAt B W d) => colGet_any B W d r l hW hl)
  rw [k1] at HG
  have HC := Lib.hid (h.colsA d (List.mem_of_getElem? hd))
  clear h hv he hf hr hc hx hd hl k1
  go_enter Tryz.func44, Tryz.ntmps44
  go_wp2_with fail
  refine HF.out.mono ?_
  rintro e w1 ⟨rfl, hb⟩
  have hz := hb.size
  have hb2 := hb.alloc hz (.cells #[.int .i64 x.c.id, .string x.c.name, .slice x.fa x.fl x.fc, .pointer (some ⟨x.cb, 0, none⟩)] 142)
  have HB2 := Lib.hid hb2
  have HC2 := Lib.hid (HC.out.out (F := fun _ => False) (Out.of hb2) (fun _ _ => id))
  clear hb hb2 HC HF
  go_wp2_with fail
  refine (HG.out _ HC2.out).mono ?_
  rintro e w2 ⟨rfl, hb3⟩
  have HB3 := Lib.hid (HB2.out.trans (hb3.mono HB2.out.size))
  clear hb3
  go_wp2_with fail
  go_ret2
  exact ⟨rfl, HB3.out⟩
end
end Go.Proofs.YtoadihebdaooaaaGreat
