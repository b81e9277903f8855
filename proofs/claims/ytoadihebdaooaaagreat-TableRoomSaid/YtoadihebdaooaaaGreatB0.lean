/- Contract of schema.Clone, the walk. -/
import Derived.Test.YtoadihebdaooaaaGreatA9
namespace Go.Proofs.YtoadihebdaooaaaGreat
open Go.RowKit
set_option linter.unusedVariables false

/-- The cells of the components as they lie. -/
theorem CompsAt.cells {B : Nat} {w : World} {a : Option Addr} {len : Nat} {cs : List Cmp} (h : CompsAt B w a len cs) :
    ∃ cells : List Value, cells.length = len * 3 ∧ (∀ ad, a = some ad → ∀ j u, cells[j]? = some u → w.cell? (ad.add j) = some u) ∧ (∀ u ∈ cells, u.oneCell' = true) ∧
      ∀ i c, cs[i]? = some c → cells[i * 3]? = some (.int .i64 c.id) ∧ cells[i * 3 + 1]? = some (.string c.name) ∧ ∃ fa fl fc, cells[i * 3 + 2]? = some (.slice fa fl fc) ∧ FieldsAt B w fa fl c.fields ∧ (fa = none → fl = 0 ∧ fc = 0) := by
  obtain ⟨h1, h2, h3⟩ := h
  rcases h3 with h3 | ⟨b, off, rfl, hB, hc⟩
  · subst h3
    refine ⟨[], rfl, by simp, by simp, fun i c hc => ?_⟩
    have := (List.getElem?_eq_some_iff.1 hc).1
    omega
  · have key : ∀ j, j < len * 3 → ∃ u, w.cell? ⟨b, off + j, none⟩ = some u ∧ u.oneCell' = true := by
      intro j hj
      obtain ⟨c0, c1, fa, fl, fc, c2, _⟩ := hc (j / 3) (cs[j / 3]'(by omega)) (List.getElem?_eq_getElem (by omega))
      rcases (by omega : j = j / 3 * 3 ∨ j = j / 3 * 3 + 1 ∨ j = j / 3 * 3 + 2) with e | e | e
      · exact ⟨_, by rw [e]; exact c0, rfl⟩
      · exact ⟨_, by rw [e]; exact c1, rfl⟩
      · exact ⟨_, by rw [e]; exact c2, rfl⟩
    have hget : ∀ j, j < len * 3 → ((List.range (len * 3)).map fun j => (w.cell? ⟨b, off + j, none⟩).getD default)[j]? = some ((w.cell? ⟨b, off + j, none⟩).getD default) := by
      intro j hj
      rw [List.getElem?_map, List.getElem?_range hj]; rfl
    refine ⟨(List.range (len * 3)).map fun j => (w.cell? ⟨b, off + j, none⟩).getD default, by simp, ?_, ?_, ?_⟩
    · intro ad had j u hu
      cases had
      have hj : j < len * 3 := by have := (List.getElem?_eq_some_iff.1 hu).1; simpa using this
      obtain ⟨u', hu', _⟩ := key j hj
      rw [hget j hj, hu'] at hu
      cases hu
      have hadd : (⟨b, off, none⟩ : Addr).add j = ⟨b, off + j, none⟩ := by unfold Addr.add; split <;> simp_all
      rw [hadd]; exact hu'
    · intro u hu
      obtain ⟨j, hj, rfl⟩ := List.mem_map.1 hu
      obtain ⟨u', hu', h1'⟩ := key j (List.mem_range.1 hj)
      rw [hu']; exact h1'
    · intro i c hcs
      have hi : i < len := by have := (List.getElem?_eq_some_iff.1 hcs).1; omega
      obtain ⟨c0, c1, fa, fl, fc, c2, hF, hn⟩ := hc i c hcs
      refine ⟨?_, ?_, fa, fl, fc, ?_, hF, hn⟩
      · rw [hget _ (by omega), c0]; rfl
      · rw [hget _ (by omega), show off + (i * 3 + 1) = off + i * 3 + 1 by omega, c1]; rfl
      · rw [hget _ (by omega), show off + (i * 3 + 2) = off + i * 3 + 2 by omega, c2]; rfl

theorem undrew {B : Nat} {w w' : World} (h : Below B w.drew w') : Below B w w' := ⟨h.os, h.tape, h.output, h.size, h.block⟩
/-- What one round of schema.Clone does. -/
theorem clone_round {w wr wx : World} {ver : Int} {va : Option Addr} {len vc g k : Nat} {arr : Array Value} {cs : List Cmp} {c : Cmp} {va' : Option Addr} {fl vc' : Nat}
    (hs : wr.heap[w.heap.size]? = some (.cells #[.int .i64 ver, .slice va len vc] 24 (0, 0))) (hr : wr.heap[w.heap.size + 1]? = some (.cells #[.int .i64 0, .slice none 0 0] 24 (0, 0)))
    (hgb : w.heap.size + 2 ≤ g) (hga : wr.heap[g]? = some (.cells arr 112 (0, 0))) (hC : CompArr (w.heap.size + 1) wr g arr cs) (hbw : Below w.heap.size w wr) (hc : cs[k]? = some c)
    (hfl : c.fields.length = fl) (hm : fl ≤ maxLen) (hown : wx.ownsRow wr.heap.size 123 3 (.slice va' fl vc') fl (fldCells c.fields)) (hbx : Below wr.heap.size wr wx) (hn : va' = none → fl = 0 ∧ vc' = 0) :
    (wx.setCell ⟨g, k * 3 + 2, none⟩ (.slice va' fl vc')).heap[w.heap.size]? = some (.cells #[.int .i64 ver, .slice va len vc] 24 (0, 0)) ∧
    (wx.setCell ⟨g, k * 3 + 2, none⟩ (.slice va' fl vc')).heap[w.heap.size + 1]? = some (.cells #[.int .i64 0, .slice none 0 0] 24 (0, 0)) ∧
    (wx.setCell ⟨g, k * 3 + 2, none⟩ (.slice va' fl vc')).heap[g]? = some (.cells (arr.setIfInBounds (k * 3 + 2) (.slice va' fl vc')) 112 (0, 0)) ∧
    CompArr (w.heap.size + 1) (wx.setCell ⟨g, k * 3 + 2, none⟩ (.slice va' fl vc')) g (arr.setIfInBounds (k * 3 + 2) (.slice va' fl vc')) cs ∧
    Below w.heap.size w (wx.setCell ⟨g, k * 3 + 2, none⟩ (.slice va' fl vc')) := by
  have hgl := lt_some hga
  have hz := hbw.size
  have hzx := hbx.size
  have hsz : (wx.setCell ⟨g, k * 3 + 2, none⟩ (.slice va' fl vc')).heap.size = wx.heap.size := by simp [World.setCell]
  refine ⟨?_, ?_, ?_, ?_, ?_⟩
  · rw [hset_ne _ _ _ _ (by simp; omega)]; exact keep hbx hs
  · rw [hset_ne _ _ _ _ (by simp; omega)]; exact keep hbx hr
  · exact hset _ _ _ _ _ _ _ (keep hbx hga)
  · refine hC.set hc (fun b hb1 hb2 => ?_) (by omega) ?_ hn
    · rw [hset_ne _ _ _ _ (by simpa using hb1)]; exact hbx.block b hb2
    · have hrl := lt_some hr
      refine (FieldsOn.of_row hown hfl hm).imp (fun b hb => ⟨⟨by omega, by omega, by omega⟩, ?_⟩)
      rw [hset_ne _ _ _ _ (by simp; omega)]
  · exact (hbw.trans (hbx.mono (by omega))).setCell (by simp; omega) _

theorem clone_round_ty {wr wx : World} {g k : Nat} {arr : Array Value} {cs : List Cmp} {va' : Option Addr} {fl vc' : Nat} {xs : List Value} (hga : wr.heap[g]? = some (.cells arr 112 (0, 0))) (hC : CompTyArr wr arr cs k) (hk : k * 3 + 2 < arr.size)
    (hown : wx.ownsRow wr.heap.size 123 3 (.slice va' fl vc') fl xs) (hbx : Below wr.heap.size wr wx) : CompTyArr (wx.setCell ⟨g, k * 3 + 2, none⟩ (.slice va' fl vc')) (arr.setIfInBounds (k * 3 + 2) (.slice va' fl vc')) cs (k + 1) := by
  intro i c hi hc
  have hgl := lt_some hga
  by_cases hik : i = k
  · subst hik
    refine ⟨va', fl, vc', by rw [Array.getElem?_setIfInBounds_self_of_lt hk], ?_⟩
    rcases hown.2 with ⟨hv, h0⟩ | ⟨q, cap, cur, hv, hq, hh, _⟩
    · exact .inl h0
    · cases hv
      exact .inr ⟨q, 0, cur, (0, 0), rfl, by rw [hset_ne _ _ _ _ (by simp; omega)]; exact hh⟩
  · obtain ⟨fa, fl', fc, a2, hF⟩ := hC i c (by omega) hc
    refine ⟨fa, fl', fc, by rw [Array.getElem?_setIfInBounds_ne (by omega)]; exact a2, ?_⟩
    rcases hF with h0 | ⟨b, off, cur, fz, h1, h2⟩
    · exact .inl h0
    · refine .inr ⟨b, off, cur, fz, h1, ?_⟩
      have hbg : b ≠ g := fun e => by subst e; rw [hga] at h2; cases h2
      rw [hset_ne _ _ _ _ (by simpa using hbg)]
      exact keep hbx h2
/-- The answer of schema.Clone. -/
def IsSchemaClone (ver : Int) (len : Nat) (cs : List Cmp) (w : World) (e : Ending) (w' : World) : Prop :=
  ∃ va vc, e = .returned (.agg #[.int .i64 ver, .slice va len vc]) ∧ CompsAt w'.heap.size w' va len cs ∧ (va = none → len = 0 ∧ vc = 0) ∧ Below w.heap.size w w' ∧ CompsTy w' va len cs

set_option maxRecDepth 100000 in
set_option maxHeartbeats 4000000 in
theorem schemaClone_any (ver : Int) (cs : List Cmp) (a : Option Addr) (len cap : Nat) (w : World) (hcs : CompsAt w.heap.size w a len cs) (hl : len ≤ 100000) (hf : ∀ c ∈ cs, c.fields.length ≤ 100000) (hn : a = none → len = 0 ∧ cap = 0) :
    Calls Tryz.prog 57 #[.agg #[.int .i64 ver, .slice a len cap]] w (IsSchemaClone ver len cs w) := by
  have hmx : len ≤ maxLen := hcs.2.1
  have HMX := Lib.hid hmx
  unfold maxLen at hmx
  obtain ⟨cells, hcl, hcc, hc1, hcv⟩ := (hcs.below (((Below.refl w.heap.size w).alloc (Nat.le_refl _) (.cells #[.int .i64 ver, .slice a len cap] 24)).alloc (by simp) (.cells #[.int .i64 0, .slice none 0 0] 24))).cells
  have hcc' := Lib.hid hcc
  have hcv' := Lib.hid hcv
  have hc1' := Lib.hid hc1
  clear hcc hcv hc1
  go_enter Tryz.func57, Tryz.ntmps57
  go_wp2_with fail
  refine (cloneComps_any _ _ _ _ hl hn cells hcl hcc'.out hc1'.out).mono ?_
  rintro e w1 ⟨va, vc, rfl, hown, hb1, hvn⟩
  have hs1 := keep hb1 (keepA _ (heap_alloc_new w (.cells #[.int .i64 ver, .slice a len cap] 24)))
  have hr1 := keep hb1 (heap_alloc_new (w.alloc (.cells #[.int .i64 ver, .slice a len cap] 24)) (.cells #[.int .i64 0, .slice none 0 0] 24))
  rw [World.size_alloc] at hr1
  have hz1 := hb1.size
  simp only [World.size_alloc] at hz1
  have s0 := cell_at hs1 0
  have s1 := cell_at hs1 1
  have s2 := free_at hs1 1
  simp at s0 s1
  have hbel : Below w.heap.size w w1 := (((Below.refl _ w).alloc (Nat.le_refl _) _).alloc (by simp) _).trans (hb1.mono (by simp; omega))
  have HO := Lib.hid hown
  clear hown hb1
  go_wp2_with fail
  go_loopw [11] (fun i wr => ∃ (k g : Nat) (arr : Array Value), k ≤ len ∧ i = .int .i64 k ∧ wr.heap[w.heap.size]? = some (.cells #[.int .i64 ver, .slice va len vc] 24 (0, 0)) ∧ wr.heap[w.heap.size + 1]? = some (.cells #[.int .i64 0, .slice none 0 0] 24 (0, 0)) ∧
      (0 < len → va = some ⟨g, 0, none⟩ ∧ w.heap.size + 2 ≤ g ∧ wr.heap[g]? = some (.cells arr 112 (0, 0)) ∧ CompArr (w.heap.size + 1) wr g arr cs ∧ CompTyArr wr arr cs k) ∧ Below w.heap.size w wr)
      (fun i _ => len - (intOf i).toNat)
  case atStart =>
    have hset := hset w1 w.heap.size 1 (.slice va len vc) _ _ _ hs1
    rcases HO.out.2 with ⟨hv, h0⟩ | ⟨g, cap', cur, hv, hg, hh, hcap, hcm, hcz, htk⟩
    · refine ⟨0, 0, #[], Nat.zero_le _, rfl, by simpa using hset, ?_, fun h => by omega, hbel.setCell (by simp) _⟩
      rw [hset_ne _ _ _ _ (by simp)]; exact hr1
    · cases hv
      simp only [World.size_alloc] at hg
      refine ⟨0, g, cur, Nat.zero_le _, rfl, by simpa using hset, ?_, fun _ => ⟨rfl, hg, ?_, ?_, fun i c hi => by omega⟩, hbel.setCell (by simp) _⟩
      · rw [hset_ne _ _ _ _ (by simp)]; exact hr1
      · rw [hset_ne _ _ _ _ (by simp; omega)]; exact hh
      · intro i c hc
        obtain ⟨a0, a1, fa, fl, fc, a2, hF, hn'⟩ := hcv'.out i c hc
        have key : ∀ (j : Nat) (u : Value), cells[j]? = some u → cur[j]? = some u := by
          intro j u hu
          rw [← htk, List.getElem?_take] at hu
          split at hu
          · simpa using hu
          · cases hu
        refine ⟨key _ _ a0, key _ _ a1, fa, fl, fc, key _ _ a2, hF.on.imp (fun b hb => ⟨⟨by omega, by omega, by simp [World.setCell]; omega⟩, ?_⟩), hn'⟩
        rw [hset_ne _ _ _ _ (by simp; omega)]
        have e1 := hbel.block b hb
        have e2 := (((Below.refl w.heap.size w).alloc (Nat.le_refl _) (.cells #[.int .i64 ver, .slice a len cap] 24)).alloc (by simp) (.cells #[.int .i64 0, .slice none 0 0] 24)).block b hb
        rw [e1, e2]
  case round =>
    obtain ⟨k, g, arr, hk, rfl, hs, hr, hg, hbw⟩ := hrel
    have hzr := hbw.size
    by_cases hlt : k < len
    · obtain ⟨rfl, hgb, hga, hC, hTy⟩ := hg (by omega)
      have HTY := Lib.hid hTy
      clear hTy
      have HC := Lib.hid hC
      obtain ⟨c, hc⟩ : ∃ c, cs[k]? = some c := ⟨_, List.getElem?_eq_getElem (by have := hcs.1; omega)⟩
      obtain ⟨a0, a1, fa, fl, fc, a2, hF, hn'⟩ := hC k c hc
      clear hC hg
      have p1 := cell_at hs 1
      have e2 := (cell_at hga (k * 3 + 2)).trans a2
      have e3 := free_at hga (k * 3 + 2)
      simp at p1
      have i1 : (0 : Int) ≤ (k : Int) := by omega
      have i2 : (k : Int) < (len : Int) := by omega
      have hlc : ∀ wx : World, (∀ b : Nat, wx.heap[b]? = wr.heap[b]?) → ∀ ad, fa = some ad → ∀ j u, (fldCells c.fields)[j]? = some u → wx.cell? (ad.add j) = some u := by
        intro wx hx ad had j u hu
        rw [World.cell?_of_block (w := wr) (hx _)]
        exact hF.cells ad had j u hu
      have hfl : fl ≤ 100000 := by have := hf c (List.mem_of_getElem? hc); have := hF.1; omega
      have hfz : (fldCells c.fields).length = fl * 3 := by rw [← hF.1]; exact flat3_len _ _ _ _
      have HLC := Lib.hid hlc
      have HFF := Lib.hid hF
      have HA2 := Lib.hid a2
      clear hlc hF a0 a1 a2
      go_wp2_with fail
      go_region_with (go_at_call 96; refine (cloneFields_any fa fl fc _ hfl hn' (fldCells c.fields) hfz (HLC.out wr.drew (fun _ => rfl)) (fldCells_one _)).mono ?_; rintro e wx ⟨va', vc', rfl, hownx, hbx, hnx⟩; have q1 := (World.cell?_of_block (w := wr) (a := ⟨w.heap.size, 1, none⟩) (hbx.block _ (lt_some hs))).trans p1; have q2 := (World.cell?_of_block (w := wr) (a := ⟨g, k * 3 + 2, none⟩) (hbx.block _ (lt_some hga))).trans e2; have q3 := (World.frozen?_of_block (w := wr) (a := ⟨g, k * 3 + 2, none⟩) (hbx.block _ (lt_some hga))).trans e3)
      all_goals
        have R := Lib.hid (clone_round hs hr hgb hga HC.out hbw hc HFF.out.1 HFF.out.2.1 hownx (undrew hbx) hnx)
        have RT := Lib.hid (clone_round_ty hga HTY.out (Array.getElem?_eq_some_iff.1 HA2.out).1 hownx (undrew hbx))
        clear hs hr hga hownx hbx q1 q2 q3 hnx p1 e2 e3
        go_wp2
        go_roundw
        case rel =>
          obtain ⟨r1, r2, r3, r4, r5⟩ := R.out
          exact ⟨k + 1, g, _, by omega, by go_num, r1, r2, fun _ => ⟨rfl, hgb, r3, r4, RT.out⟩, r5⟩
        case measure => simp [intOf]; omega
    · obtain rfl : k = len := by omega
      have s0 := cell_at hs 0
      have s1 := cell_at hs 1
      have r0 := cell_at hr 0
      have r1 := cell_at hr 1
      have f0 := free_at hr 0
      have f1 := free_at hr 1
      simp at s0 s1 r0 r1
      have HG := Lib.hid hg
      clear hg
      go_wp2
      refine bodyPost_ret (v := .agg #[.int .i64 ver, .slice va k vc]) (by simp [results, Tryz.results57, go_sem, r0, r1]) rfl ?_
      refine ⟨va, vc, rfl, ?_, hvn, (hbw.setCell (by simp) _).setCell (by simp) _, ?_⟩
      rotate_left
      · by_cases h0 : k = 0
        · exact .inl h0
        · obtain ⟨rfl, hgb, hga, _, hTy⟩ := HG.out (by omega)
          have hk : KeepsTy wr ((wr.setCell ⟨w.heap.size + 1, 0, none⟩ (.int .i64 ver)).setCell ⟨w.heap.size + 1, 1, none⟩ (.slice (some ⟨g, 0, none⟩) k vc)) := by
            intro b c e fz hb he
            have hbn : b ≠ w.heap.size + 1 := fun e' => by subst e'; rw [hr] at hb; cases hb; rcases he with he | he <;> exact absurd he (by decide)
            rw [hset_ne _ _ _ _ (by simpa using hbn), hset_ne _ _ _ _ (by simpa using hbn)]; exact hb
          refine .inr ⟨g, 0, arr, (0, 0), rfl, hk _ _ _ _ hga (.inl rfl), fun i c hc => ?_⟩
          obtain ⟨fa, fl, fc, a2, hF⟩ := hTy i c (by have := (List.getElem?_eq_some_iff.1 hc).1; have := hcs.1; omega) hc
          exact ⟨fa, fl, fc, by rw [Nat.zero_add, cell_at (hk _ _ _ _ hga (.inl rfl))]; exact a2, hF.hk hk⟩
      by_cases h0 : k = 0
      · exact ⟨hcs.1, HMX.out, .inl h0⟩
      · obtain ⟨rfl, hgb, hga, hC, _⟩ := HG.out (by omega)
        have hga' : ((wr.setCell ⟨w.heap.size + 1, 0, none⟩ (.int .i64 ver)).setCell ⟨w.heap.size + 1, 1, none⟩ (.slice (some ⟨g, 0, none⟩) k vc)).heap[g]? = some (.cells arr 112 (0, 0)) := by
          rw [hset_ne _ _ _ _ (by simp; omega), hset_ne _ _ _ _ (by simp; omega)]; exact hga
        refine CompArr.out (r := w.heap.size + 1) (arr := arr) ?_ hga' hcs.1 HMX.out
        intro i c hc
        obtain ⟨a0, a1, fa, fl, fc, a2, hF, hn'⟩ := hC i c hc
        refine ⟨a0, a1, fa, fl, fc, a2, hF.imp (fun b hb => ⟨⟨hb.1, hb.2.1, by simp [World.setCell]; omega⟩, ?_⟩), hn'⟩
        rw [hset_ne _ _ _ _ (by simpa using hb.2.1), hset_ne _ _ _ _ (by simpa using hb.2.1)]
end Go.Proofs.YtoadihebdaooaaaGreat
