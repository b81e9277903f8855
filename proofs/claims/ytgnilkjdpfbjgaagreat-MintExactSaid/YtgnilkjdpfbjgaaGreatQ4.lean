/- Contract of schema.Clone. · Contract of schema.Clone, the walk. · Contracts of schema.Find and what it calls. -/
import Derived.Test.YtgnilkjdpfbjgaaGreatQ3
import Derived.Deep.RegionHeld3
import Derived.Deep.RegionWith
import Derived.BigRegion
namespace Go.Proofs.YtgnilkjdpfbjgaaGreat
open Go.RowKit
set_option linter.unusedVariables false
/-- A slice of fields that lies in blocks of S. -/
def FieldsOn (S : Nat → Prop) (w : World) (a : Option Addr) (len : Nat) (fs : List Fld) : Prop :=
  fs.length = len ∧ len ≤ maxLen ∧ (len = 0 ∨ ∃ b off, a = some ⟨b, off, none⟩ ∧ S b ∧ ∀ (i : Nat) (f : Fld), fs[i]? = some f →
    w.cell? ⟨b, off + i * 3, none⟩ = some (.string f.name) ∧ w.cell? ⟨b, off + i * 3 + 1, none⟩ = some (.int .i64 f.kind) ∧ w.cell? ⟨b, off + i * 3 + 2, none⟩ = some (.int .i64 f.count))
theorem FieldsAt.on {B : Nat} {w : World} {a : Option Addr} {len : Nat} {fs : List Fld} (h : FieldsAt B w a len fs) : FieldsOn (· < B) w a len fs := h
theorem FieldsOn.imp {S S' : Nat → Prop} {w w' : World} {a : Option Addr} {len : Nat} {fs : List Fld} (h : FieldsOn S w a len fs) (hS : ∀ b, S b → S' b ∧ w'.heap[b]? = w.heap[b]?) : FieldsOn S' w' a len fs := by
  obtain ⟨h1, h2, h3⟩ := h
  refine ⟨h1, h2, ?_⟩
  rcases h3 with h3 | ⟨b, off, ha, hB, hc⟩
  · exact .inl h3
  · obtain ⟨q, e⟩ := hS b hB
    refine .inr ⟨b, off, ha, q, fun i f hf => ?_⟩
    obtain ⟨c0, c1, c2⟩ := hc i f hf
    exact ⟨(World.cell?_of_block (w := w) e).trans c0, (World.cell?_of_block (w := w) e).trans c1, (World.cell?_of_block (w := w) e).trans c2⟩
theorem FieldsOn.cells {S : Nat → Prop} {w : World} {a : Option Addr} {len : Nat} {fs : List Fld} (h : FieldsOn S w a len fs) :
    ∀ ad, a = some ad → ∀ j u, (fldCells fs)[j]? = some u → w.cell? (ad.add j) = some u := by
  intro ad ha j u hu
  obtain ⟨h1, h2, h3⟩ := h
  obtain ⟨i, x, hx, hc⟩ := flat3_at _ _ _ fs j u hu
  rcases h3 with h3 | ⟨b', off', ha', hB, hcell⟩
  · have := (List.getElem?_eq_some_iff.1 hx).1
    omega
  · rw [ha'] at ha
    cases ha
    have hadd : (⟨b', off', none⟩ : Addr).add j = ⟨b', off' + j, none⟩ := by unfold Addr.add; split <;> simp_all
    rw [hadd]
    obtain ⟨c0, c1, c2⟩ := hcell i x hx
    rcases hc with ⟨rfl, rfl⟩ | ⟨rfl, rfl⟩ | ⟨rfl, rfl⟩
    · exact c0
    · exact c1
    · exact c2
/-- A row of one's own, as a slice of fields. -/
theorem FieldsOn.of_row {w : World} {base : Nat} {va : Option Addr} {len vc : Nat} {fs : List Fld} (h : w.ownsRow base 64 3 (.slice va len vc) len (fldCells fs)) (hl : fs.length = len) (hm : len ≤ maxLen) :
    FieldsOn (fun b => base ≤ b ∧ b < w.heap.size) w va len fs := by
  refine ⟨hl, hm, ?_⟩
  rcases h.2 with ⟨hv, h0⟩ | ⟨g, cap, cur, hv, hg, hh, hc1, hc2, hc3, hc4⟩
  · exact .inl h0
  · cases hv
    refine .inr ⟨g, 0, rfl, ⟨hg, lt_some hh⟩, fun i f hf => ?_⟩
    obtain ⟨c0, c1, c2⟩ := flat3 (fun f : Fld => Value.string f.name) (fun f => .int .i64 f.kind) (fun f => .int .i64 f.count) fs i f hf
    have key : ∀ (j : Nat) (u : Value), (fldCells fs)[j]? = some u → w.cell? ⟨g, 0 + j, none⟩ = some u := by
      intro j u hu
      rw [cell_at hh, Nat.zero_add]
      rw [← hc4, List.getElem?_take] at hu
      split at hu
      · simpa using hu
      · cases hu
    exact ⟨key _ _ c0, key _ _ c1, key _ _ c2⟩
/-- The array of a schema's components, one's own. -/
def CompArr (r : Nat) (w : World) (g : Nat) (arr : Array Value) (cs : List Cmp) : Prop :=
  ∀ i c, cs[i]? = some c → arr[i * 3]? = some (.int .i64 c.id) ∧ arr[i * 3 + 1]? = some (.string c.name) ∧
    ∃ fa fl fc, arr[i * 3 + 2]? = some (.slice fa fl fc) ∧ FieldsOn (fun b => b ≠ g ∧ b ≠ r ∧ b < w.heap.size) w fa fl c.fields ∧ (fa = none → fl = 0 ∧ fc = 0)
theorem CompArr.out {r : Nat} {w : World} {g : Nat} {arr : Array Value} {cs : List Cmp} {fz : Nat × Nat} (h : CompArr r w g arr cs) (hg : w.heap[g]? = some (.cells arr 67 fz)) {len : Nat} (hl : cs.length = len) (hm : len ≤ maxLen) : CompsAt w.heap.size w (some ⟨g, 0, none⟩) len cs := by
  refine ⟨hl, hm, .inr ⟨g, 0, rfl, lt_some hg, fun i c hc => ?_⟩⟩
  obtain ⟨a0, a1, fa, fl, fc, a2, hF, hn⟩ := h i c hc
  simp only [Nat.zero_add]
  rw [cell_at hg, cell_at hg]
  exact ⟨a0, a1, fa, fl, fc, by rw [cell_at hg]; exact a2, hF.imp (fun b hb => ⟨hb.2.2, rfl⟩), hn⟩
/-- A store of a new slice at place k. -/
theorem CompArr.set {r : Nat} {w w' : World} {g : Nat} {arr : Array Value} {cs : List Cmp} (h : CompArr r w g arr cs) {k : Nat} {c : Cmp} (hc : cs[k]? = some c) {fa : Option Addr} {fl fc : Nat}
    (hk : ∀ b, b ≠ g → b < w.heap.size → w'.heap[b]? = w.heap[b]?) (hs : w.heap.size ≤ w'.heap.size)
    (hF : FieldsOn (fun b => b ≠ g ∧ b ≠ r ∧ b < w'.heap.size) w' fa fl c.fields) (hn : fa = none → fl = 0 ∧ fc = 0) : CompArr r w' g (arr.setIfInBounds (k * 3 + 2) (.slice fa fl fc)) cs := by
  intro i c' hc'
  obtain ⟨a0, a1, fa', fl', fc', a2, hF', hn'⟩ := h i c' hc'
  have hlt : i * 3 + 2 < arr.size := by
    have := (Array.getElem?_eq_some_iff.1 a2).1
    omega
  rw [Array.getElem?_setIfInBounds_ne (by omega), Array.getElem?_setIfInBounds_ne (by omega)]
  refine ⟨a0, a1, ?_⟩
  by_cases hik : i = k
  · subst hik
    rw [hc] at hc'; cases hc'
    exact ⟨fa, fl, fc, by rw [Array.getElem?_setIfInBounds_self_of_lt hlt], hF, hn⟩
  · exact ⟨fa', fl', fc', by rw [Array.getElem?_setIfInBounds_ne (by omega)]; exact a2, hF'.imp (fun b hb => ⟨⟨hb.1, hb.2.1, by omega⟩, hk b hb.1 hb.2.2⟩), hn'⟩
/-- The blocks of fields, and of components, by their types. -/
def FieldsTy (w : World) (fa : Option Addr) (fl : Nat) : Prop := fl = 0 ∨ ∃ b off cur fz, fa = some ⟨b, off, none⟩ ∧ w.heap[b]? = some (.cells cur 64 fz)
def CompsTy (w : World) (ca : Option Addr) (cl : Nat) (cs : List Cmp) : Prop := cl = 0 ∨ ∃ b off cur fz, ca = some ⟨b, off, none⟩ ∧ w.heap[b]? = some (.cells cur 67 fz) ∧
  ∀ i c, cs[i]? = some c → ∃ fa fl fc, w.cell? ⟨b, off + i * 3 + 2, none⟩ = some (.slice fa fl fc) ∧ FieldsTy w fa fl
/-- What keeps such blocks. -/
def KeepsTy (w w' : World) : Prop := ∀ (b : Nat) (c : Array Value) (e : TypeId) (fz : Nat × Nat), w.heap[b]? = some (.cells c e fz) → e = 67 ∨ e = 64 → w'.heap[b]? = some (.cells c e fz)
theorem KeepsTy.of_below {w w' : World} (hb : Below w.heap.size w w') : KeepsTy w w' := fun _ _ _ _ h _ => keep hb h
theorem FieldsTy.hk {w w' : World} (hk : KeepsTy w w') {fa : Option Addr} {fl : Nat} (h : FieldsTy w fa fl) : FieldsTy w' fa fl := by
  rcases h with h | ⟨b, off, cur, fz, h1, h2⟩
  · exact .inl h
  · exact .inr ⟨b, off, cur, fz, h1, hk _ _ _ _ h2 (.inr rfl)⟩
theorem CompsTy.hk {w w' : World} (hk : KeepsTy w w') {ca : Option Addr} {cl : Nat} {cs : List Cmp} (h : CompsTy w ca cl cs) : CompsTy w' ca cl cs := by
  rcases h with h | ⟨b, off, cur, fz, h1, h2, h3⟩
  · exact .inl h
  · have e := hk _ _ _ _ h2 (.inl rfl)
    refine .inr ⟨b, off, cur, fz, h1, e, fun i c hc => ?_⟩
    obtain ⟨fa, fl, fc, c2, hF⟩ := h3 i c hc
    exact ⟨fa, fl, fc, by rw [cell_at e]; rw [cell_at h2] at c2; exact c2, hF.hk hk⟩
theorem FieldsAt.ty {B : Nat} {w w' : World} {fa : Option Addr} {fl : Nat} {fs : List Fld} (h : FieldsAt B w fa fl fs) (ht : FieldsTy w fa fl) (hk : KeepsTy w w') : FieldsAt B w' fa fl fs := by
  obtain ⟨h1, h2, h3⟩ := h
  refine ⟨h1, h2, ?_⟩
  rcases ht with ht | ⟨b, off, cur, fz, hb, ht⟩
  · exact .inl ht
  · rcases h3 with h3 | ⟨b', off', ha, hB, hc⟩
    · exact .inl h3
    · rw [hb] at ha
      cases ha
      have e := hk _ _ _ _ ht (.inr rfl)
      refine .inr ⟨b, off, hb, hB, fun i f hf => ?_⟩
      obtain ⟨c0, c1, c2⟩ := hc i f hf
      rw [cell_at ht] at c0 c1 c2
      rw [cell_at e, cell_at e, cell_at e]
      exact ⟨c0, c1, c2⟩
theorem CompsAt.ty {B : Nat} {w w' : World} {ca : Option Addr} {cl : Nat} {cs : List Cmp} (h : CompsAt B w ca cl cs) (ht : CompsTy w ca cl cs) (hk : KeepsTy w w') : CompsAt B w' ca cl cs := by
  obtain ⟨h1, h2, h3⟩ := h
  refine ⟨h1, h2, ?_⟩
  rcases ht with ht | ⟨b, off, cur, fz, hb, ht, hty⟩
  · exact .inl ht
  · rcases h3 with h3 | ⟨b', off', ha, hB, hc⟩
    · exact .inl h3
    · rw [hb] at ha
      cases ha
      have e := hk _ _ _ _ ht (.inl rfl)
      refine .inr ⟨b, off, hb, hB, fun i c hci => ?_⟩
      obtain ⟨c0, c1, fa, fl, fc, c2, hF, hn⟩ := hc i c hci
      obtain ⟨fa', fl', fc', c2', hF'⟩ := hty i c hci
      rw [c2] at c2'
      cases c2'
      rw [cell_at ht] at c0 c1 c2
      rw [cell_at e, cell_at e]
      exact ⟨c0, c1, fa, fl, fc, by rw [cell_at e]; exact c2, hF.ty hF' hk, hn⟩
/-- The first k components' fields lie in blocks of fields. -/
def CompTyArr (w : World) (arr : Array Value) (cs : List Cmp) (k : Nat) : Prop := ∀ i c, i < k → cs[i]? = some c → ∃ fa fl fc, arr[i * 3 + 2]? = some (.slice fa fl fc) ∧ FieldsTy w fa fl
end Go.Proofs.YtgnilkjdpfbjgaaGreat
namespace Go.Proofs.YtgnilkjdpfbjgaaGreat
open Go.RowKit
set_option linter.unusedVariables false
/-- The cells of the components as they lie. -/
theorem CompsAt.cells {B : Nat} {w : World} {a : Option Addr} {len : Nat} {cs : List Cmp} (h : CompsAt B w a len cs) :
    ∃ cells : List Value, cells.length = len * 3 ∧ (∀ ad, a = some ad → ∀ j u, cells[j]? = some u → w.cell? (ad.add j) = some u) ∧ (∀ u ∈ cells, u.oneCell' = true) ∧
      ∀ i c, cs[i]? = some c → cells[i * 3]? = some (.int .i64 c.id) ∧ cells[i * 3 + 1]? = some (.string c.name) ∧ ∃ fa fl fc, cells[i * 3 + 2]? = some (.slice fa fl fc) ∧ FieldsAt B w fa fl c.fields ∧ (fa = none → fl = 0 ∧ fc = 0) := by
  obtain ⟨h1, h2, h3⟩ := h
  rcases h3 with h3 | ⟨b, off, rfl, hB, hc⟩
  · subst h3
    refine ⟨[], rfl, by simp, by simp, fun i c hc => ?_⟩
    have := (List.getElem?_eq_some_iff.1 hc).1
    omega
  · have key : ∀ j, j < len * 3 → ∃ u, w.cell? ⟨b, off + j, none⟩ = some u ∧ u.oneCell' = true := by
      intro j hj
      obtain ⟨c0, c1, fa, fl, fc, c2, _⟩ := hc (j / 3) (cs[j / 3]'(by omega)) (List.getElem?_eq_getElem (by omega))
      rcases (by omega : j = j / 3 * 3 ∨ j = j / 3 * 3 + 1 ∨ j = j / 3 * 3 + 2) with e | e | e
      · exact ⟨_, by rw [e]; exact c0, rfl⟩
      · exact ⟨_, by rw [e]; exact c1, rfl⟩
      · exact ⟨_, by rw [e]; exact c2, rfl⟩
    have hget : ∀ j, j < len * 3 → ((List.range (len * 3)).map fun j => (w.cell? ⟨b, off + j, none⟩).getD default)[j]? = some ((w.cell? ⟨b, off + j, none⟩).getD default) := by
      intro j hj
      rw [List.getElem?_map, List.getElem?_range hj]; rfl
    refine ⟨(List.range (len * 3)).map fun j => (w.cell? ⟨b, off + j, none⟩).getD default, by simp, ?_, ?_, ?_⟩
    · intro ad had j u hu
      cases had
      have hj : j < len * 3 := by have := (List.getElem?_eq_some_iff.1 hu).1; simpa using this
      obtain ⟨u', hu', _⟩ := key j hj
      rw [hget j hj, hu'] at hu
      cases hu
      have hadd : (⟨b, off, none⟩ : Addr).add j = ⟨b, off + j, none⟩ := by unfold Addr.add; split <;> simp_all
      rw [hadd]; exact hu'
    · intro u hu
      obtain ⟨j, hj, rfl⟩ := List.mem_map.1 hu
      obtain ⟨u', hu', h1'⟩ := key j (List.mem_range.1 hj)
      rw [hu']; exact h1'
    · intro i c hcs
      have hi : i < len := by have := (List.getElem?_eq_some_iff.1 hcs).1; omega
      obtain ⟨c0, c1, fa, fl, fc, c2, hF, hn⟩ := hc i c hcs
      refine ⟨?_, ?_, fa, fl, fc, ?_, hF, hn⟩
      · rw [hget _ (by omega), c0]; rfl
      · rw [hget _ (by omega), show off + (i * 3 + 1) = off + i * 3 + 1 by omega, c1]; rfl
      · rw [hget _ (by omega), show off + (i * 3 + 2) = off + i * 3 + 2 by omega, c2]; rfl
theorem undrew {B : Nat} {w w' : World} (h : Below B w.drew w') : Below B w w' := ⟨h.os, h.tape, h.output, h.size, h.block⟩
/-- What one round of schema.Clone does. -/
theorem clone_round {w wr wx : World} {ver : Int} {va : Option Addr} {len vc g k : Nat} {arr : Array Value} {cs : List Cmp} {c : Cmp} {va' : Option Addr} {fl vc' : Nat}
    (hs : wr.heap[w.heap.size]? = some (.cells #[.int .i64 ver, .slice va len vc] 25 (0, 0))) (hr : wr.heap[w.heap.size + 1]? = some (.cells #[.int .i64 0, .slice none 0 0] 25 (0, 0)))
    (hgb : w.heap.size + 2 ≤ g) (hga : wr.heap[g]? = some (.cells arr 67 (0, 0))) (hC : CompArr (w.heap.size + 1) wr g arr cs) (hbw : Below w.heap.size w wr) (hc : cs[k]? = some c)
    (hfl : c.fields.length = fl) (hm : fl ≤ maxLen) (hown : wx.ownsRow wr.heap.size 64 3 (.slice va' fl vc') fl (fldCells c.fields)) (hbx : Below wr.heap.size wr wx) (hn : va' = none → fl = 0 ∧ vc' = 0) :
    (wx.setCell ⟨g, k * 3 + 2, none⟩ (.slice va' fl vc')).heap[w.heap.size]? = some (.cells #[.int .i64 ver, .slice va len vc] 25 (0, 0)) ∧
    (wx.setCell ⟨g, k * 3 + 2, none⟩ (.slice va' fl vc')).heap[w.heap.size + 1]? = some (.cells #[.int .i64 0, .slice none 0 0] 25 (0, 0)) ∧
    (wx.setCell ⟨g, k * 3 + 2, none⟩ (.slice va' fl vc')).heap[g]? = some (.cells (arr.setIfInBounds (k * 3 + 2) (.slice va' fl vc')) 67 (0, 0)) ∧
    CompArr (w.heap.size + 1) (wx.setCell ⟨g, k * 3 + 2, none⟩ (.slice va' fl vc')) g (arr.setIfInBounds (k * 3 + 2) (.slice va' fl vc')) cs ∧
    Below w.heap.size w (wx.setCell ⟨g, k * 3 + 2, none⟩ (.slice va' fl vc')) := by
  have hgl := lt_some hga
  have hz := hbw.size
  have hzx := hbx.size
  have hsz : (wx.setCell ⟨g, k * 3 + 2, none⟩ (.slice va' fl vc')).heap.size = wx.heap.size := by simp [World.setCell]
  refine ⟨?_, ?_, ?_, ?_, ?_⟩
  · rw [hset_ne _ _ _ _ (by simp; omega)]; exact keep hbx hs
  · rw [hset_ne _ _ _ _ (by simp; omega)]; exact keep hbx hr
  · exact hset _ _ _ _ _ _ _ (keep hbx hga)
  · refine hC.set hc (fun b hb1 hb2 => ?_) (by omega) ?_ hn
    · rw [hset_ne _ _ _ _ (by simpa using hb1)]; exact hbx.block b hb2
    · have hrl := lt_some hr
      refine (FieldsOn.of_row hown hfl hm).imp (fun b hb => ⟨⟨by omega, by omega, by omega⟩, ?_⟩)
      rw [hset_ne _ _ _ _ (by simp; omega)]
  · exact (hbw.trans (hbx.mono (by omega))).setCell (by simp; omega) _
theorem clone_round_ty {wr wx : World} {g k : Nat} {arr : Array Value} {cs : List Cmp} {va' : Option Addr} {fl vc' : Nat} {xs : List Value} (hga : wr.heap[g]? = some (.cells arr 67 (0, 0))) (hC : CompTyArr wr arr cs k) (hk : k * 3 + 2 < arr.size)
    (hown : wx.ownsRow wr.heap.size 64 3 (.slice va' fl vc') fl xs) (hbx : Below wr.heap.size wr wx) : CompTyArr (wx.setCell ⟨g, k * 3 + 2, none⟩ (.slice va' fl vc')) (arr.setIfInBounds (k * 3 + 2) (.slice va' fl vc')) cs (k + 1) := by
  intro i c hi hc
  have hgl := lt_some hga
  by_cases hik : i = k
  · subst hik
    refine ⟨va', fl, vc', by rw [Array.getElem?_setIfInBounds_self_of_lt hk], ?_⟩
    rcases hown.2 with ⟨hv, h0⟩ | ⟨q, cap, cur, hv, hq, hh, _⟩
    · exact .inl h0
    · cases hv
      exact .inr ⟨q, 0, cur, (0, 0), rfl, by rw [hset_ne _ _ _ _ (by simp; omega)]; exact hh⟩
  · obtain ⟨fa, fl', fc, a2, hF⟩ := hC i c (by omega) hc
    refine ⟨fa, fl', fc, by rw [Array.getElem?_setIfInBounds_ne (by omega)]; exact a2, ?_⟩
    rcases hF with h0 | ⟨b, off, cur, fz, h1, h2⟩
    · exact .inl h0
    · refine .inr ⟨b, off, cur, fz, h1, ?_⟩
      have hbg : b ≠ g := fun e => by subst e; rw [hga] at h2; cases h2
      rw [hset_ne _ _ _ _ (by simpa using hbg)]
      exact keep hbx h2
/-- The answer of schema.Clone. -/
def IsSchemaClone (ver : Int) (len : Nat) (cs : List Cmp) (w : World) (e : Ending) (w' : World) : Prop :=
  ∃ va vc, e = .returned (.agg #[.int .i64 ver, .slice va len vc]) ∧ CompsAt w'.heap.size w' va len cs ∧ (va = none → len = 0 ∧ vc = 0) ∧ Below w.heap.size w w' ∧ CompsTy w' va len cs
set_option maxRecDepth 100000 in
set_option maxHeartbeats 4000000 in
theorem schemaClone_any (ver : Int) (cs : List Cmp) (a : Option Addr) (len cap : Nat) (w : World) (hcs : CompsAt w.heap.size w a len cs) (hl : len ≤ 100000) (hf : ∀ c ∈ cs, c.fields.length ≤ 100000) (hn : a = none → len = 0 ∧ cap = 0) :
    Calls Tryz.prog 50 #[.agg #[.int .i64 ver, .slice a len cap]] w (IsSchemaClone ver len cs w) := by
  have hmx : len ≤ maxLen := hcs.2.1
  have HMX := Lib.hid hmx
  unfold maxLen at hmx
  obtain ⟨cells, hcl, hcc, hc1, hcv⟩ := (hcs.below (((Below.refl w.heap.size w).alloc (Nat.le_refl _) (.cells #[.int .i64 ver, .slice a len cap] 25)).alloc (by simp) (.cells #[.int .i64 0, .slice none 0 0] 25))).cells
  have hcc' := Lib.hid hcc
  have hcv' := Lib.hid hcv
  have hc1' := Lib.hid hc1
  clear hcc hcv hc1
  go_enter Tryz.func50, Tryz.ntmps50
  go_wp2_with fail
  refine (cloneComps_any _ _ _ _ hl hn cells hcl hcc'.out hc1'.out).mono ?_
  rintro e w1 ⟨va, vc, rfl, hown, hb1, hvn⟩
  have hs1 := keep hb1 (keepA _ (heap_alloc_new w (.cells #[.int .i64 ver, .slice a len cap] 25)))
  have hr1 := keep hb1 (heap_alloc_new (w.alloc (.cells #[.int .i64 ver, .slice a len cap] 25)) (.cells #[.int .i64 0, .slice none 0 0] 25))
  rw [World.size_alloc] at hr1
  have hz1 := hb1.size
  simp only [World.size_alloc] at hz1
  have s0 := cell_at hs1 0
  have s1 := cell_at hs1 1
  have s2 := free_at hs1 1
  simp at s0 s1
  have hbel : Below w.heap.size w w1 := (((Below.refl _ w).alloc (Nat.le_refl _) _).alloc (by simp) _).trans (hb1.mono (by simp; omega))
  have HO := Lib.hid hown
  clear hown hb1
  go_wp2_with fail
  go_loopw [11] (fun i wr => ∃ (k g : Nat) (arr : Array Value), k ≤ len ∧ i = .int .i64 k ∧ wr.heap[w.heap.size]? = some (.cells #[.int .i64 ver, .slice va len vc] 25 (0, 0)) ∧ wr.heap[w.heap.size + 1]? = some (.cells #[.int .i64 0, .slice none 0 0] 25 (0, 0)) ∧
      (0 < len → va = some ⟨g, 0, none⟩ ∧ w.heap.size + 2 ≤ g ∧ wr.heap[g]? = some (.cells arr 67 (0, 0)) ∧ CompArr (w.heap.size + 1) wr g arr cs ∧ CompTyArr wr arr cs k) ∧ Below w.heap.size w wr)
      (fun i _ => len - (intOf i).toNat)
  case atStart =>
    have hset := hset w1 w.heap.size 1 (.slice va len vc) _ _ _ hs1
    rcases HO.out.2 with ⟨hv, h0⟩ | ⟨g, cap', cur, hv, hg, hh, hcap, hcm, hcz, htk⟩
    · refine ⟨0, 0, #[], Nat.zero_le _, rfl, by simpa using hset, ?_, fun h => by omega, hbel.setCell (by simp) _⟩
      rw [hset_ne _ _ _ _ (by simp)]; exact hr1
    · cases hv
      simp only [World.size_alloc] at hg
      refine ⟨0, g, cur, Nat.zero_le _, rfl, by simpa using hset, ?_, fun _ => ⟨rfl, hg, ?_, ?_, fun i c hi => by omega⟩, hbel.setCell (by simp) _⟩
      · rw [hset_ne _ _ _ _ (by simp)]; exact hr1
      · rw [hset_ne _ _ _ _ (by simp; omega)]; exact hh
      · intro i c hc
        obtain ⟨a0, a1, fa, fl, fc, a2, hF, hn'⟩ := hcv'.out i c hc
        have key : ∀ (j : Nat) (u : Value), cells[j]? = some u → cur[j]? = some u := by
          intro j u hu
          rw [← htk, List.getElem?_take] at hu
          split at hu
          · simpa using hu
          · cases hu
        refine ⟨key _ _ a0, key _ _ a1, fa, fl, fc, key _ _ a2, hF.on.imp (fun b hb => ⟨⟨by omega, by omega, by simp [World.setCell]; omega⟩, ?_⟩), hn'⟩
        rw [hset_ne _ _ _ _ (by simp; omega)]
        have e1 := hbel.block b hb
        have e2 := (((Below.refl w.heap.size w).alloc (Nat.le_refl _) (.cells #[.int .i64 ver, .slice a len cap] 25)).alloc (by simp) (.cells #[.int .i64 0, .slice none 0 0] 25)).block b hb
        rw [e1, e2]
  case round =>
    obtain ⟨k, g, arr, hk, rfl, hs, hr, hg, hbw⟩ := hrel
    have hzr := hbw.size
    by_cases hlt : k < len
    · obtain ⟨rfl, hgb, hga, hC, hTy⟩ := hg (by omega)
      have HTY := Lib.hid hTy
      clear hTy
      have HC := Lib.hid hC
      obtain ⟨c, hc⟩ : ∃ c, cs[k]? = some c := ⟨_, List.getElem?_eq_getElem (by have := hcs.1; omega)⟩
      obtain ⟨a0, a1, fa, fl, fc, a2, hF, hn'⟩ := hC k c hc
      clear hC hg
      have p1 := cell_at hs 1
      have e2 := (cell_at hga (k * 3 + 2)).trans a2
      have e3 := free_at hga (k * 3 + 2)
      simp at p1
      have i1 : (0 : Int) ≤ (k : Int) := by omega
      have i2 : (k : Int) < (len : Int) := by omega
      have hlc : ∀ wx : World, (∀ b : Nat, wx.heap[b]? = wr.heap[b]?) → ∀ ad, fa = some ad → ∀ j u, (fldCells c.fields)[j]? = some u → wx.cell? (ad.add j) = some u := by
        intro wx hx ad had j u hu
        rw [World.cell?_of_block (w := wr) (hx _)]
        exact hF.cells ad had j u hu
      have hfl : fl ≤ 100000 := by have := hf c (List.mem_of_getElem? hc); have := hF.1; omega
      have hfz : (fldCells c.fields).length = fl * 3 := by rw [← hF.1]; exact flat3_len _ _ _ _
      have HLC := Lib.hid hlc
      have HFF := Lib.hid hF
      have HA2 := Lib.hid a2
      clear hlc hF a0 a1 a2
      go_wp2_with fail
      go_region_with (go_at_call 83; refine (cloneFields_any fa fl fc _ hfl hn' (fldCells c.fields) hfz (HLC.out wr.drew (fun _ => rfl)) (fldCells_one _)).mono ?_; rintro e wx ⟨va', vc', rfl, hownx, hbx, hnx⟩; have q1 := (World.cell?_of_block (w := wr) (a := ⟨w.heap.size, 1, none⟩) (hbx.block _ (lt_some hs))).trans p1; have q2 := (World.cell?_of_block (w := wr) (a := ⟨g, k * 3 + 2, none⟩) (hbx.block _ (lt_some hga))).trans e2; have q3 := (World.frozen?_of_block (w := wr) (a := ⟨g, k * 3 + 2, none⟩) (hbx.block _ (lt_some hga))).trans e3)
      all_goals
        have R := Lib.hid (clone_round hs hr hgb hga HC.out hbw hc HFF.out.1 HFF.out.2.1 hownx (undrew hbx) hnx)
        have RT := Lib.hid (clone_round_ty hga HTY.out (Array.getElem?_eq_some_iff.1 HA2.out).1 hownx (undrew hbx))
        clear hs hr hga hownx hbx q1 q2 q3 hnx p1 e2 e3
        go_wp2
        go_roundw
        case rel =>
          obtain ⟨r1, r2, r3, r4, r5⟩ := R.out
          exact ⟨k + 1, g, _, by omega, by go_num, r1, r2, fun _ => ⟨rfl, hgb, r3, r4, RT.out⟩, r5⟩
        case measure => simp [intOf]; omega
    · obtain rfl : k = len := by omega
      have s0 := cell_at hs 0
      have s1 := cell_at hs 1
      have r0 := cell_at hr 0
      have r1 := cell_at hr 1
      have f0 := free_at hr 0
      have f1 := free_at hr 1
      simp at s0 s1 r0 r1
      have HG := Lib.hid hg
      clear hg
      go_wp2
      refine bodyPost_ret (v := .agg #[.int .i64 ver, .slice va k vc]) (by simp [results, Tryz.results50, go_sem, r0, r1]) rfl ?_
      refine ⟨va, vc, rfl, ?_, hvn, (hbw.setCell (by simp) _).setCell (by simp) _, ?_⟩
      rotate_left
      · by_cases h0 : k = 0
        · exact .inl h0
        · obtain ⟨rfl, hgb, hga, _, hTy⟩ := HG.out (by omega)
          have hk : KeepsTy wr ((wr.setCell ⟨w.heap.size + 1, 0, none⟩ (.int .i64 ver)).setCell ⟨w.heap.size + 1, 1, none⟩ (.slice (some ⟨g, 0, none⟩) k vc)) := by
            intro b c e fz hb he
            have hbn : b ≠ w.heap.size + 1 := fun e' => by subst e'; rw [hr] at hb; cases hb; rcases he with he | he <;> exact absurd he (by decide)
            rw [hset_ne _ _ _ _ (by simpa using hbn), hset_ne _ _ _ _ (by simpa using hbn)]; exact hb
          refine .inr ⟨g, 0, arr, (0, 0), rfl, hk _ _ _ _ hga (.inl rfl), fun i c hc => ?_⟩
          obtain ⟨fa, fl, fc, a2, hF⟩ := hTy i c (by have := (List.getElem?_eq_some_iff.1 hc).1; have := hcs.1; omega) hc
          exact ⟨fa, fl, fc, by rw [Nat.zero_add, cell_at (hk _ _ _ _ hga (.inl rfl))]; exact a2, hF.hk hk⟩
      by_cases h0 : k = 0
      · exact ⟨hcs.1, HMX.out, .inl h0⟩
      · obtain ⟨rfl, hgb, hga, hC, _⟩ := HG.out (by omega)
        have hga' : ((wr.setCell ⟨w.heap.size + 1, 0, none⟩ (.int .i64 ver)).setCell ⟨w.heap.size + 1, 1, none⟩ (.slice (some ⟨g, 0, none⟩) k vc)).heap[g]? = some (.cells arr 67 (0, 0)) := by
          rw [hset_ne _ _ _ _ (by simp; omega), hset_ne _ _ _ _ (by simp; omega)]; exact hga
        refine CompArr.out (r := w.heap.size + 1) (arr := arr) ?_ hga' hcs.1 HMX.out
        intro i c hc
        obtain ⟨a0, a1, fa, fl, fc, a2, hF, hn'⟩ := hC i c hc
        refine ⟨a0, a1, fa, fl, fc, a2, hF.imp (fun b hb => ⟨⟨hb.1, hb.2.1, by simp [World.setCell]; omega⟩, ?_⟩), hn'⟩
        rw [hset_ne _ _ _ _ (by simpa using hb.2.1), hset_ne _ _ _ _ (by simpa using hb.2.1)]
end Go.Proofs.YtgnilkjdpfbjgaaGreat
namespace Go.Proofs.YtgnilkjdpfbjgaaGreat
open Go.RowKit
set_option linter.unusedVariables false
theorem find1_any (i : Int) (nme : Value) (fv : Value) (id : Int) (p : Addr) (w : World) (hp : w.cell? p = some (.int .i64 id)) (hs : ∃ s, nme = .string s) (hv : ∃ a n c, fv = .slice a n c) :
    Calls Tryz.prog 111 #[.agg #[.int .i64 i, nme, fv], .pointer (some p)] w fun e w' => e = .returned (.bool (i == id)) ∧ Below w.heap.size w w' := by
  obtain ⟨s, rfl⟩ := hs
  obtain ⟨a, n, c, rfl⟩ := hv
  have hpb := World.block_lt_of_cell? w p hp
  have hp' : (w.alloc (.cells #[.int .i64 i, .string s, .slice a n c] 67)).cell? p = some (.int .i64 id) := by
    rw [World.cell?_of_block (w := w) (by rw [halloc, if_neg (by omega)])]; exact hp
  go_enter Tryz.func111, Tryz.ntmps111
  go_wp2
  go_ret
  exact ⟨rfl, by go_grown⟩
def idxF (id : Int) : Nat → List Cmp → Int
  | _, [] => -1
  | k, c :: r => if c.id = id then k else idxF id (k + 1) r
theorem idxF_skip {id : Int} {k : Nat} {c : Cmp} {r : List Cmp} (h : ¬ c.id = id) : idxF id k (c :: r) = idxF id (k + 1) r := by
  conv => lhs; unfold idxF
  rw [if_neg h]
theorem idxF_none {id : Int} : ∀ (l : List Cmp) (k : Nat), l.find? (fun c => decide (c.id = id)) = none → idxF id k l = -1
  | [], k, _ => rfl
  | c :: r, k, h => by
    rw [List.find?_cons] at h
    split at h
    · cases h
    · rename_i hc
      unfold idxF
      rw [if_neg (by simpa using hc)]
      exact idxF_none r (k + 1) h
theorem idxF_some {id : Int} {c : Cmp} : ∀ (l : List Cmp) (k : Nat), l.find? (fun c => decide (c.id = id)) = some c → ∃ j, idxF id k l = ((k + j : Nat) : Int) ∧ l[j]? = some c
  | [], k, h => by cases h
  | d :: r, k, h => by
    rw [List.find?_cons] at h
    split at h
    · rename_i hc
      cases h
      exact ⟨0, by unfold idxF; rw [if_pos (by simpa using hc)]; rfl, rfl⟩
    · rename_i hc
      obtain ⟨j, h1, h2⟩ := idxF_some r (k + 1) h
      exact ⟨j + 1, by unfold idxF; rw [if_neg (by simpa using hc), h1]; congr 1; omega, by simpa using h2⟩
set_option maxRecDepth 100000 in
set_option maxHeartbeats 1000000 in
theorem indexFunc_any (id : Int) (cs : List Cmp) (a : Option Addr) (len cap : Nat) (p : Addr) (w : World) (hcs : CompsAt w.heap.size w a len cs) (hp : w.cell? p = some (.int .i64 id)) :
    Calls Tryz.prog 135 #[.slice a len cap, .func (.func 111) #[] #[.pointer (some p)]] w fun e w' => e = .returned (.int .i64 (idxF id 0 cs)) ∧ Below w.heap.size w w' := by
  have hmx : len ≤ maxLen := hcs.2.1
  unfold maxLen at hmx
  have hpb := World.block_lt_of_cell? w p hp
  go_enter Tryz.func135, Tryz.ntmps135
  go_wp2_with fail
  go_loopw [8] (fun i wr => ∃ (k : Nat), k ≤ len ∧ i = .int .i64 k ∧ idxF id 0 cs = idxF id k (cs.drop k) ∧ Below w.heap.size w wr) (fun i _ => len - (intOf i).toNat)
  case atStart => exact ⟨0, Nat.zero_le _, rfl, rfl, Below.refl _ _⟩
  case round =>
    obtain ⟨k, hk, rfl, hgo, hbw⟩ := hrel
    have HG := Lib.hid hgo
    clear hgo
    have hzr := hbw.size
    by_cases hlt : k < len
    · obtain ⟨b, off, c, rfl, hB, hc, c0, c1, fa, fl, fc, c2, hF, hnil⟩ := hcs.get hbw hlt
      have hstep := Lib.hid (HG.out.trans (by rw [drop_get hc]))
      go_wp2_with fail
      refine (find1_any _ _ _ id p _ ((hbw.cell hpb).trans hp) ⟨_, rfl⟩ ⟨_, _, _, rfl⟩).mono ?_
      rintro e w1 ⟨rfl, hb1⟩
      by_cases h : c.id = id
      · have H1 : Hid (idxF id 0 cs = k) := Lib.hid (by rw [hstep.out]; unfold idxF; rw [if_pos h])
        have e1 : (c.id == id) = true := by simp [h]
        clear h
        go_wp2
        go_ret
        exact ⟨ret_intk H1.out.symm, hbw.trans (hb1.mono hzr)⟩
      · have H1 := Lib.hid (hstep.out.trans (idxF_skip h))
        have e1 : (c.id == id) = false := by simp [h]
        clear h
        go_wp2
        go_roundw
        case rel => exact ⟨k + 1, by omega, by go_num, H1.out, hbw.trans (hb1.mono hzr)⟩
        case measure => simp [intOf]; omega
    · obtain rfl : k = len := by omega
      have H1 : Hid (idxF id 0 cs = -1) := Lib.hid (by rw [HG.out, List.drop_eq_nil_of_le (by have := hcs.1; omega)]; rfl)
      go_wp2
      go_ret
      exact ⟨ret_intk H1.out.symm, hbw⟩
/-- The component of an id. -/
def findC (id : Int) (cs : List Cmp) : Option Cmp := cs.find? fun c => decide (c.id = id)
/-- The answer of 'find': the component, its fields in new memory. -/
def IsFind (id : Int) (cs : List Cmp) (w : World) (e : Ending) (w' : World) : Prop :=
  match findC id cs with
  | some c => ∃ va fl vc, e = .returned (.tuple #[.agg #[.int .i64 c.id, .string c.name, .slice va fl vc], .bool true]) ∧ (w'.ownsRow w.heap.size 64 3 (.slice va fl vc) fl (fldCells c.fields) ∧ c.fields.length = fl ∧ fl ≤ maxLen) ∧ (va = none → fl = 0 ∧ vc = 0) ∧ Below w.heap.size w w'
  | none => e = .returned (.tuple #[.agg #[.int .i64 0, .string ByteArray.empty, .slice none 0 0], .bool false]) ∧ Below w.heap.size w w'
set_option maxRecDepth 100000 in
set_option maxHeartbeats 2000000 in
theorem find_any (ver id : Int) (cs : List Cmp) (a : Option Addr) (len cap : Nat) (p : Addr) (w : World) (hcs : CompsAt w.heap.size w a len cs) (hf : ∀ c ∈ cs, c.fields.length ≤ 100000) (hp : w.cell? p = some (.int .i64 id)) :
    Calls Tryz.prog 110 #[.agg #[.int .i64 ver, .slice a len cap], .func (.func 111) #[] #[.pointer (some p)]] w (IsFind id cs w) := by
  have hpb := World.block_lt_of_cell? w p hp
  have hbel0 : Below w.heap.size w ((w.alloc (.cells #[.int .i64 ver, .slice a len cap] 25)).alloc (.cells #[.int .i64 0, .string ByteArray.empty, .slice none 0 0] 67)) := by go_grown
  go_enter Tryz.func110, Tryz.ntmps110
  go_wp2_with fail
  refine (indexFunc_any id cs _ _ _ p _ ((hcs.below hbel0).mono hbel0.size) ((hbel0.cell hpb).trans hp)).mono ?_
  rintro e w1 ⟨rfl, hb1⟩
  have hs1 := keep hb1 (keepA _ (heap_alloc_new w (.cells #[.int .i64 ver, .slice a len cap] 25)))
  have hr1 := keep hb1 (heap_alloc_new (w.alloc (.cells #[.int .i64 ver, .slice a len cap] 25)) (.cells #[.int .i64 0, .string ByteArray.empty, .slice none 0 0] 67))
  rw [World.size_alloc] at hr1
  have hbel1 : Below w.heap.size w w1 := hbel0.trans (hb1.mono hbel0.size)
  have s1 := cell_at hs1 1
  have r0 := cell_at hr1 0
  have r1 := cell_at hr1 1
  have r2 := cell_at hr1 2
  have f0 := free_at hr1 0
  have f1 := free_at hr1 1
  have f2 := free_at hr1 2
  simp at s1 r0 r1 r2
  cases hfc : findC id cs with
  | none =>
    have h0 := idxF_none cs 0 hfc
    have HF := Lib.hid hfc
    rw [h0]
    clear h0 hfc
    go_wp2
    refine bodyPost_ret (v := .tuple #[.agg #[.int .i64 0, .string ByteArray.empty, .slice none 0 0], .bool false]) (by simp [results, Tryz.results110, go_sem, r0, r1, r2]; rfl) rfl ?_
    unfold IsFind
    rw [HF.out]
    exact ⟨rfl, ((hbel1.setCell (by simp) _).setCell (by simp) _).setCell (by simp) _⟩
  | some c =>
    obtain ⟨j, h0, hj⟩ := idxF_some cs 0 hfc
    have HF := Lib.hid hfc
    rw [h0, Nat.zero_add]
    have hjl : j < len := by have := (List.getElem?_eq_some_iff.1 hj).1; have := hcs.1; omega
    obtain ⟨b, off, c', rfl, hB, hc', c0, c1, fa, fl, fc, c2, hF, hnil⟩ := hcs.get hbel1 hjl
    have hcc : c' = c := by rw [hj] at hc'; exact (Option.some.inj hc').symm
    subst hcc
    clear h0 hfc
    have hfl : fl ≤ 100000 := by have := hf c' (List.mem_of_getElem? hj); have := hF.1; omega
    have hmx : len ≤ maxLen := hcs.2.1
    unfold maxLen at hmx
    go_wp2_with fail
    have hzw := hbel1.size
    have HFF := Lib.hid hF
    have hFA : FieldsOn (· < w.heap.size) (w1.alloc (.cells #[.int .i64 c'.id, .string c'.name, .slice fa fl fc] 67)) fa fl c'.fields := HFF.out.on.imp (fun b hb => ⟨hb, by rw [halloc, if_neg (by omega)]⟩)
    refine (cloneFields_any fa fl fc _ hfl hnil (fldCells c'.fields) (by rw [← HFF.out.1]; exact flat3_len _ _ _ _) hFA.cells (fldCells_one _)).mono ?_
    rintro e w2 ⟨va, vc, rfl, hown, hb2, hnv⟩
    have hr2 := keep hb2 (keepA _ hr1)
    have hn2 := keep hb2 (heap_alloc_new w1 _)
    have q0 := cell_at hr2 0
    have q1 := cell_at hr2 1
    have q2 := cell_at hr2 2
    have g0 := free_at hr2 0
    have g1 := free_at hr2 1
    have g2 := free_at hr2 2
    have n0 := cell_at hn2 0
    have n1 := cell_at hn2 1
    have n2 := cell_at hn2 2
    have m2 := free_at hn2 2
    simp at q0 q1 q2 n0 n1 n2
    have hl1 := lt_some hr1
    have HO := Lib.hid hown
    have HB2 := Lib.hid hb2
    clear hown hb2 hF hFA
    go_wp2
    refine bodyPost_ret (v := .tuple #[.agg #[.int .i64 c'.id, .string c'.name, .slice va fl vc], .bool true]) (by simp [results, Tryz.results110, go_sem, q0, q1, q2]) rfl ?_
    unfold IsFind
    rw [HF.out]
    have hz2 := HB2.out.size
    simp only [World.size_alloc] at hz2
    refine ⟨va, fl, vc, rfl, ?_, hnv, ?_⟩
    · refine ⟨?_, HFF.out.1, HFF.out.2.1⟩
      refine ownsRow_mono (base := (w1.alloc (.cells #[.int .i64 c'.id, .string c'.name, .slice fa fl fc] 67)).heap.size) ?_ (by simp; omega)
      exact ownsRow_setCell_below (ownsRow_setCell_below (ownsRow_setCell_below (ownsRow_setCell_below HO.out (by simp <;> omega) _) (by simp <;> omega) _) (by simp <;> omega) _) (by simp <;> omega) _
    · have hb' : Below w.heap.size w w2 := (hbel1.alloc (by omega) _).trans (HB2.out.mono (by simp; omega))
      exact (((hb'.setCell (by simp; omega) _).setCell (by simp) _).setCell (by simp) _).setCell (by simp) _
set_option maxRecDepth 100000 in
theorem Find_any (ver id : Int) (cs : List Cmp) (a : Option Addr) (len cap : Nat) (w : World) (hcs : CompsAt w.heap.size w a len cs) (hf : ∀ c ∈ cs, c.fields.length ≤ 100000) :
    Calls Tryz.prog 84 #[.agg #[.int .i64 ver, .slice a len cap], .int .i64 id] w (IsFind id cs w) := by
  have hbel0 : Below w.heap.size w (((w.alloc (.cells #[.int .i64 ver, .slice a len cap] 25)).alloc (.cells #[.int .i64 id] 3)).alloc (.cells #[.int .i64 0, .string ByteArray.empty, .slice none 0 0] 67)) := by go_grown
  go_enter Tryz.func84, Tryz.ntmps84
  go_wp2_with fail
  refine (find_any ver id cs _ _ _ _ _ ((hcs.below hbel0).mono hbel0.size) hf ?_).mono ?_
  · rw [World.cell?_of_block (w := (w.alloc (.cells #[.int .i64 ver, .slice a len cap] 25)).alloc (.cells #[.int .i64 id] 3)) (by rw [halloc, if_neg (by simp)])]
    simp
  intro e w1 h
  have hz0 := hbel0.size
  unfold IsFind at h
  cases hfc : findC id cs with
  | none =>
    rw [hfc] at h
    obtain ⟨rfl, hb1⟩ := h
    have HF := Lib.hid hfc
    clear hfc
    have hr1 := keep hb1 (heap_alloc_new ((w.alloc (.cells #[.int .i64 ver, .slice a len cap] 25)).alloc (.cells #[.int .i64 id] 3)) (.cells #[.int .i64 0, .string ByteArray.empty, .slice none 0 0] 67))
    rw [World.size_alloc, World.size_alloc] at hr1
    have q0 := cell_at hr1 0
    have q1 := cell_at hr1 1
    have q2 := cell_at hr1 2
    have g0 := free_at hr1 0
    have g1 := free_at hr1 1
    have g2 := free_at hr1 2
    simp at q0 q1 q2
    have hbel1 : Below w.heap.size w w1 := hbel0.trans (hb1.mono hz0)
    go_wp2
    refine bodyPost_ret (v := .tuple #[.agg #[.int .i64 0, .string ByteArray.empty, .slice none 0 0], .bool false]) (by simp [results, Tryz.results84, go_sem, q0, q1, q2]) rfl ?_
    unfold IsFind
    rw [HF.out]
    exact ⟨rfl, ((hbel1.setCell (by simp; omega) _).setCell (by simp; omega) _).setCell (by simp; omega) _⟩
  | some c =>
    rw [hfc] at h
    obtain ⟨va, fl, vc, rfl, hF, hn, hb1⟩ := h
    have HF := Lib.hid hfc
    clear hfc
    have hr1 := keep hb1 (heap_alloc_new ((w.alloc (.cells #[.int .i64 ver, .slice a len cap] 25)).alloc (.cells #[.int .i64 id] 3)) (.cells #[.int .i64 0, .string ByteArray.empty, .slice none 0 0] 67))
    rw [World.size_alloc, World.size_alloc] at hr1
    have q0 := cell_at hr1 0
    have q1 := cell_at hr1 1
    have q2 := cell_at hr1 2
    have g0 := free_at hr1 0
    have g1 := free_at hr1 1
    have g2 := free_at hr1 2
    simp at q0 q1 q2
    have hbel1 : Below w.heap.size w w1 := hbel0.trans (hb1.mono hz0)
    have HFF := Lib.hid hF
    clear hF
    go_wp2
    refine bodyPost_ret (v := .tuple #[.agg #[.int .i64 c.id, .string c.name, .slice va fl vc], .bool true]) (by simp [results, Tryz.results84, go_sem, q0, q1, q2]) rfl ?_
    unfold IsFind
    rw [HF.out]
    refine ⟨va, fl, vc, rfl, ?_, hn, ((hbel1.setCell (by simp; omega) _).setCell (by simp; omega) _).setCell (by simp; omega) _⟩
    refine ⟨?_, HFF.out.2⟩
    refine ownsRow_mono (base := (((w.alloc (.cells #[.int .i64 ver, .slice a len cap] 25)).alloc (.cells #[.int .i64 id] 3)).alloc (.cells #[.int .i64 0, .string ByteArray.empty, .slice none 0 0] 67)).heap.size) ?_ (by simp; omega)
    exact ownsRow_setCell_below (ownsRow_setCell_below (ownsRow_setCell_below HFF.out.1 (by simp) _) (by simp) _) (by simp) _
end Go.Proofs.YtgnilkjdpfbjgaaGreat
