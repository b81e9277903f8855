/- Contract of schema.Clone. -/
import Derived.Test.YtoadihebdaooaaaGreatA8
import Derived.Deep.RegionHeld3
import Derived.Deep.RegionWith
import Derived.BigRegion
namespace Go.Proofs.YtoadihebdaooaaaGreat
open Go.RowKit
set_option linter.unusedVariables false

/-- A slice of fields that lies in blocks of S. -/
def FieldsOn (S : Nat → Prop) (w : World) (a : Option Addr) (len : Nat) (fs : List Fld) : Prop :=
  fs.length = len ∧ len ≤ maxLen ∧ (len = 0 ∨ ∃ b off, a = some ⟨b, off, none⟩ ∧ S b ∧ ∀ (i : Nat) (f : Fld), fs[i]? = some f →
    w.cell? ⟨b, off + i * 3, none⟩ = some (.string f.name) ∧ w.cell? ⟨b, off + i * 3 + 1, none⟩ = some (.int .i64 f.kind) ∧ w.cell? ⟨b, off + i * 3 + 2, none⟩ = some (.int .i64 f.count))
theorem FieldsAt.on {B : Nat} {w : World} {a : Option Addr} {len : Nat} {fs : List Fld} (h : FieldsAt B w a len fs) : FieldsOn (· < B) w a len fs := h
theorem FieldsOn.imp {S S' : Nat → Prop} {w w' : World} {a : Option Addr} {len : Nat} {fs : List Fld} (h : FieldsOn S w a len fs) (hS : ∀ b, S b → S' b ∧ w'.heap[b]? = w.heap[b]?) : FieldsOn S' w' a len fs := by
  obtain ⟨h1, h2, h3⟩ := h
  refine ⟨h1, h2, ?_⟩
  rcases h3 with h3 | ⟨b, off, ha, hB, hc⟩
  · exact .inl h3
  · obtain ⟨q, e⟩ := hS b hB
    refine .inr ⟨b, off, ha, q, fun i f hf => ?_⟩
    obtain ⟨c0, c1, c2⟩ := hc i f hf
    exact ⟨(World.cell?_of_block (w := w) e).trans c0, (World.cell?_of_block (w := w) e).trans c1, (World.cell?_of_block (w := w) e).trans c2⟩
theorem FieldsOn.cells {S : Nat → Prop} {w : World} {a : Option Addr} {len : Nat} {fs : List Fld} (h : FieldsOn S w a len fs) :
    ∀ ad, a = some ad → ∀ j u, (fldCells fs)[j]? = some u → w.cell? (ad.add j) = some u := by
  intro ad ha j u hu
  obtain ⟨h1, h2, h3⟩ := h
  obtain ⟨i, x, hx, hc⟩ := flat3_at _ _ _ fs j u hu
  rcases h3 with h3 | ⟨b', off', ha', hB, hcell⟩
  · have := (List.getElem?_eq_some_iff.1 hx).1
    omega
  · rw [ha'] at ha
    cases ha
    have hadd : (⟨b', off', none⟩ : Addr).add j = ⟨b', off' + j, none⟩ := by unfold Addr.add; split <;> simp_all
    rw [hadd]
    obtain ⟨c0, c1, c2⟩ := hcell i x hx
    rcases hc with ⟨rfl, rfl⟩ | ⟨rfl, rfl⟩ | ⟨rfl, rfl⟩
    · exact c0
    · exact c1
    · exact c2
/-- A row of one's own, as a slice of fields. -/
theorem FieldsOn.of_row {w : World} {base : Nat} {va : Option Addr} {len vc : Nat} {fs : List Fld} (h : w.ownsRow base 123 3 (.slice va len vc) len (fldCells fs)) (hl : fs.length = len) (hm : len ≤ maxLen) :
    FieldsOn (fun b => base ≤ b ∧ b < w.heap.size) w va len fs := by
  refine ⟨hl, hm, ?_⟩
  rcases h.2 with ⟨hv, h0⟩ | ⟨g, cap, cur, hv, hg, hh, hc1, hc2, hc3, hc4⟩
  · exact .inl h0
  · cases hv
    refine .inr ⟨g, 0, rfl, ⟨hg, lt_some hh⟩, fun i f hf => ?_⟩
    obtain ⟨c0, c1, c2⟩ := flat3 (fun f : Fld => Value.string f.name) (fun f => .int .i64 f.kind) (fun f => .int .i64 f.count) fs i f hf
    have key : ∀ (j : Nat) (u : Value), (fldCells fs)[j]? = some u → w.cell? ⟨g, 0 + j, none⟩ = some u := by
      intro j u hu
      rw [cell_at hh, Nat.zero_add]
      rw [← hc4, List.getElem?_take] at hu
      split at hu
      · simpa using hu
      · cases hu
    exact ⟨key _ _ c0, key _ _ c1, key _ _ c2⟩

def cmpCells (l : List (Cmp × Value)) : List Value := l.flatMap fun x => [.int .i64 x.1.id, .string x.1.name, x.2]

/-- The array of a schema's components, one's own. -/
def CompArr (r : Nat) (w : World) (g : Nat) (arr : Array Value) (cs : List Cmp) : Prop :=
  ∀ i c, cs[i]? = some c → arr[i * 3]? = some (.int .i64 c.id) ∧ arr[i * 3 + 1]? = some (.string c.name) ∧
    ∃ fa fl fc, arr[i * 3 + 2]? = some (.slice fa fl fc) ∧ FieldsOn (fun b => b ≠ g ∧ b ≠ r ∧ b < w.heap.size) w fa fl c.fields ∧ (fa = none → fl = 0 ∧ fc = 0)

theorem CompArr.out {r : Nat} {w : World} {g : Nat} {arr : Array Value} {cs : List Cmp} {fz : Nat × Nat} (h : CompArr r w g arr cs) (hg : w.heap[g]? = some (.cells arr 112 fz)) {len : Nat} (hl : cs.length = len) (hm : len ≤ maxLen) : CompsAt w.heap.size w (some ⟨g, 0, none⟩) len cs := by
  refine ⟨hl, hm, .inr ⟨g, 0, rfl, lt_some hg, fun i c hc => ?_⟩⟩
  obtain ⟨a0, a1, fa, fl, fc, a2, hF, hn⟩ := h i c hc
  simp only [Nat.zero_add]
  rw [cell_at hg, cell_at hg]
  exact ⟨a0, a1, fa, fl, fc, by rw [cell_at hg]; exact a2, hF.imp (fun b hb => ⟨hb.2.2, rfl⟩), hn⟩

/-- A store of a new slice at place k. -/
theorem CompArr.set {r : Nat} {w w' : World} {g : Nat} {arr : Array Value} {cs : List Cmp} (h : CompArr r w g arr cs) {k : Nat} {c : Cmp} (hc : cs[k]? = some c) {fa : Option Addr} {fl fc : Nat}
    (hk : ∀ b, b ≠ g → b < w.heap.size → w'.heap[b]? = w.heap[b]?) (hs : w.heap.size ≤ w'.heap.size)
    (hF : FieldsOn (fun b => b ≠ g ∧ b ≠ r ∧ b < w'.heap.size) w' fa fl c.fields) (hn : fa = none → fl = 0 ∧ fc = 0) : CompArr r w' g (arr.setIfInBounds (k * 3 + 2) (.slice fa fl fc)) cs := by
  intro i c' hc'
  obtain ⟨a0, a1, fa', fl', fc', a2, hF', hn'⟩ := h i c' hc'
  have hlt : i * 3 + 2 < arr.size := by
    have := (Array.getElem?_eq_some_iff.1 a2).1
    omega
  rw [Array.getElem?_setIfInBounds_ne (by omega), Array.getElem?_setIfInBounds_ne (by omega)]
  refine ⟨a0, a1, ?_⟩
  by_cases hik : i = k
  · subst hik
    rw [hc] at hc'; cases hc'
    exact ⟨fa, fl, fc, by rw [Array.getElem?_setIfInBounds_self_of_lt hlt], hF, hn⟩
  · exact ⟨fa', fl', fc', by rw [Array.getElem?_setIfInBounds_ne (by omega)]; exact a2, hF'.imp (fun b hb => ⟨⟨hb.1, hb.2.1, by omega⟩, hk b hb.1 hb.2.2⟩), hn'⟩
/-- The blocks of fields, and of components, by their types. -/
def FieldsTy (w : World) (fa : Option Addr) (fl : Nat) : Prop := fl = 0 ∨ ∃ b off cur fz, fa = some ⟨b, off, none⟩ ∧ w.heap[b]? = some (.cells cur 123 fz)
def CompsTy (w : World) (ca : Option Addr) (cl : Nat) (cs : List Cmp) : Prop := cl = 0 ∨ ∃ b off cur fz, ca = some ⟨b, off, none⟩ ∧ w.heap[b]? = some (.cells cur 112 fz) ∧
  ∀ i c, cs[i]? = some c → ∃ fa fl fc, w.cell? ⟨b, off + i * 3 + 2, none⟩ = some (.slice fa fl fc) ∧ FieldsTy w fa fl
/-- What keeps such blocks. -/
def KeepsTy (w w' : World) : Prop := ∀ (b : Nat) (c : Array Value) (e : TypeId) (fz : Nat × Nat), w.heap[b]? = some (.cells c e fz) → e = 112 ∨ e = 123 → w'.heap[b]? = some (.cells c e fz)
theorem KeepsTy.of_below {w w' : World} (hb : Below w.heap.size w w') : KeepsTy w w' := fun _ _ _ _ h _ => keep hb h
theorem FieldsTy.hk {w w' : World} (hk : KeepsTy w w') {fa : Option Addr} {fl : Nat} (h : FieldsTy w fa fl) : FieldsTy w' fa fl := by
  rcases h with h | ⟨b, off, cur, fz, h1, h2⟩
  · exact .inl h
  · exact .inr ⟨b, off, cur, fz, h1, hk _ _ _ _ h2 (.inr rfl)⟩
theorem CompsTy.hk {w w' : World} (hk : KeepsTy w w') {ca : Option Addr} {cl : Nat} {cs : List Cmp} (h : CompsTy w ca cl cs) : CompsTy w' ca cl cs := by
  rcases h with h | ⟨b, off, cur, fz, h1, h2, h3⟩
  · exact .inl h
  · have e := hk _ _ _ _ h2 (.inl rfl)
    refine .inr ⟨b, off, cur, fz, h1, e, fun i c hc => ?_⟩
    obtain ⟨fa, fl, fc, c2, hF⟩ := h3 i c hc
    exact ⟨fa, fl, fc, by rw [cell_at e]; rw [cell_at h2] at c2; exact c2, hF.hk hk⟩
theorem FieldsAt.ty {B : Nat} {w w' : World} {fa : Option Addr} {fl : Nat} {fs : List Fld} (h : FieldsAt B w fa fl fs) (ht : FieldsTy w fa fl) (hk : KeepsTy w w') : FieldsAt B w' fa fl fs := by
  obtain ⟨h1, h2, h3⟩ := h
  refine ⟨h1, h2, ?_⟩
  rcases ht with ht | ⟨b, off, cur, fz, hb, ht⟩
  · exact .inl ht
  · rcases h3 with h3 | ⟨b', off', ha, hB, hc⟩
    · exact .inl h3
    · rw [hb] at ha
      cases ha
      have e := hk _ _ _ _ ht (.inr rfl)
      refine .inr ⟨b, off, hb, hB, fun i f hf => ?_⟩
      obtain ⟨c0, c1, c2⟩ := hc i f hf
      rw [cell_at ht] at c0 c1 c2
      rw [cell_at e, cell_at e, cell_at e]
      exact ⟨c0, c1, c2⟩
theorem CompsAt.ty {B : Nat} {w w' : World} {ca : Option Addr} {cl : Nat} {cs : List Cmp} (h : CompsAt B w ca cl cs) (ht : CompsTy w ca cl cs) (hk : KeepsTy w w') : CompsAt B w' ca cl cs := by
  obtain ⟨h1, h2, h3⟩ := h
  refine ⟨h1, h2, ?_⟩
  rcases ht with ht | ⟨b, off, cur, fz, hb, ht, hty⟩
  · exact .inl ht
  · rcases h3 with h3 | ⟨b', off', ha, hB, hc⟩
    · exact .inl h3
    · rw [hb] at ha
      cases ha
      have e := hk _ _ _ _ ht (.inl rfl)
      refine .inr ⟨b, off, hb, hB, fun i c hci => ?_⟩
      obtain ⟨c0, c1, fa, fl, fc, c2, hF, hn⟩ := hc i c hci
      obtain ⟨fa', fl', fc', c2', hF'⟩ := hty i c hci
      rw [c2] at c2'
      cases c2'
      rw [cell_at ht] at c0 c1 c2
      rw [cell_at e, cell_at e]
      exact ⟨c0, c1, fa, fl, fc, by rw [cell_at e]; exact c2, hF.ty hF' hk, hn⟩
/-- The first k components' fields lie in blocks of fields. -/
def CompTyArr (w : World) (arr : Array Value) (cs : List Cmp) (k : Nat) : Prop := ∀ i c, i < k → cs[i]? = some c → ∃ fa fl fc, arr[i * 3 + 2]? = some (.slice fa fl fc) ∧ FieldsTy w fa fl
end Go.Proofs.YtoadihebdaooaaaGreat
