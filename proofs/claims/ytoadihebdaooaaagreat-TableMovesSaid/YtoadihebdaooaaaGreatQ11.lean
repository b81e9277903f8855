/- TableRoom: the walk of the law. Printed by mkV9.py. · How the arguments of the tables' laws are read: a schema, parts, deeds. · Contracts of octet.Reader. · Contracts of wide.Add and wide.Sub where the signs differ. · Contracts of wide.Sub where the difference is not above 0. · The contract of field.Get. -/
import Derived.Test.YtoadihebdaooaaaGreatQ10
import Derived.ProofKit
import Derived.OpenShut
import Derived.Deep.Slices
import Derived.Deep.Fields
import Derived.Lib.SmallJoins
import Derived.Test.YtoadihebdaooaaaGreatQ4
import Derived.Laws.Externs
namespace Go.Proofs.YtoadihebdaooaaaGreat
open Go.RowKit
set_option linter.unusedVariables false
def great16B (cs : List Cmp) : Bool := decide (30 < cs.length) || cs.any fun c => decide (12 < c.fields.length)
theorem great16_f {cs : List Cmp} (h : great16B cs = false) : ∀ c ∈ cs, c.fields.length ≤ 100000 := by
  intro c hc
  unfold great16B at h
  rw [Bool.or_eq_false_iff, List.any_eq_false] at h
  have := h.2 c hc
  simp at this
  omega
set_option maxRecDepth 100000 in
theorem great16_any (ver : Int) (cs : List Cmp) (a : Option Addr) (len cap : Nat) (w : World) (hcs : CompsAt w.heap.size w a len cs) : Calls Tryz.prog 32 #[.agg #[.int .i64 ver, .slice a len cap]] w fun e w' => e = .returned (.bool (great16B cs)) ∧ Below w.heap.size w w' := by
  have hmx : len ≤ maxLen := hcs.2.1
  have hll := hcs.1
  unfold maxLen at hmx
  have HLL := Lib.hid hll
  clear hll
  have hbel0 : Below w.heap.size w (w.alloc (.cells #[.int .i64 ver, .slice a len cap] 24)) := by go_grown
  by_cases h30 : 30 < len
  · have HT : Hid (great16B cs = true) := Lib.hid (by simp [great16B, HLL.out]; omega)
    go_enter Tryz.func32, Tryz.ntmps32
    go_wp2_with fail
    go_returns
    exact ⟨ret_bool HT.out.symm, hbel0⟩
  · go_enter Tryz.func32, Tryz.ntmps32
    go_wp2_with fail
    go_loopw [3] (fun i wr => ∃ k : Nat, k ≤ len ∧ i = .int .i64 k ∧ great16B cs = ((cs.drop k).any fun c => decide (12 < c.fields.length)) ∧ w.alloc (.cells #[.int .i64 ver, .slice a len cap] 24) = wr) (fun i _ => len - (intOf i).toNat)
    case atStart => exact ⟨0, Nat.zero_le _, rfl, by simp [great16B, HLL.out]; omega, rfl⟩
    case round =>
      obtain ⟨k, hk, rfl, hgo, rfl⟩ := hrel
      have HGO := Lib.hid hgo
      clear hgo
      by_cases hlt : k < len
      · obtain ⟨b, off, c, rfl, hB, hc, c0, c1, fa, fl, fc, c2, hF, hnil⟩ := hcs.get hbel0 hlt
        have hstep := Lib.hid (HGO.out.trans (by rw [drop_get hc]))
        have hfl := hF.1
        have hfm := hF.2.1
        unfold maxLen at hfm
        have HFL := Lib.hid hfl
        clear hF hfl
        by_cases h12 : 12 < fl
        · have HT : Hid (great16B cs = true) := Lib.hid (by rw [hstep.out, List.any_cons, HFL.out]; simp [h12])
          go_wp2_with fail
          go_returns
          exact ⟨ret_bool HT.out.symm, hbel0⟩
        · have HT := Lib.hid (hstep.out.trans (show _ = ((cs.drop (k + 1)).any fun c => decide (12 < c.fields.length)) by rw [List.any_cons, HFL.out]; simp [h12]))
          go_wp2_with fail
          go_roundw
          case rel => exact ⟨k + 1, by omega, by go_num, HT.out, by trivial⟩
          case measure => simp [intOf]; omega
      · obtain rfl : k = len := by omega
        have HT : Hid (great16B cs = false) := Lib.hid (by rw [HGO.out, List.drop_eq_nil_of_le (by rw [HLL.out]; exact Nat.le_refl _)]; rfl)
        go_wp2_with fail
        go_returns
        exact ⟨ret_bool HT.out.symm, hbel0⟩
/-- A deed of the law. -/
structure TA where
  kind : Int
  i : Int
  e : Int
  pa : Option Addr
  pl : Nat
  pc : Nat
  ps : List PW
/-- A slice of deeds that lies below block B. -/
def TActsAt (B : Nat) (w : World) (a : Option Addr) (len : Nat) (l : List TA) : Prop :=
  l.length = len ∧ len ≤ maxLen ∧ (∀ x ∈ l, PartsAt B w x.pa x.pl x.pc x.ps) ∧ (len = 0 ∨ ∃ b off, a = some ⟨b, off, none⟩ ∧ b < B ∧ ∀ (i : Nat) (x : TA), l[i]? = some x →
    w.cell? ⟨b, off + i * 4, none⟩ = some (.int .i64 x.kind) ∧ w.cell? ⟨b, off + i * 4 + 1, none⟩ = some (.int .i64 x.i) ∧ w.cell? ⟨b, off + i * 4 + 2, none⟩ = some (.int .u64 x.e) ∧ w.cell? ⟨b, off + i * 4 + 3, none⟩ = some (.slice x.pa x.pl x.pc))
theorem TActsAt.get {B : Nat} {w w' : World} {a : Option Addr} {len : Nat} {l : List TA} (h : TActsAt B w a len l) (hb : Below B w w') {k : Nat} (hk : k < len) :
    ∃ b off x, a = some ⟨b, off, none⟩ ∧ b < B ∧ l[k]? = some x ∧ PartsAt B w' x.pa x.pl x.pc x.ps ∧ w'.cell? ⟨b, off + k * 4, none⟩ = some (.int .i64 x.kind) ∧ w'.cell? ⟨b, off + k * 4 + 1, none⟩ = some (.int .i64 x.i) ∧ w'.cell? ⟨b, off + k * 4 + 2, none⟩ = some (.int .u64 x.e) ∧ w'.cell? ⟨b, off + k * 4 + 3, none⟩ = some (.slice x.pa x.pl x.pc) := by
  obtain ⟨h1, h2, h4, h3⟩ := h
  rcases h3 with h3 | ⟨b, off, ha, hB, hc⟩
  · omega
  · have hl : k < l.length := by omega
    obtain ⟨c0, c1, c2, c3⟩ := hc k _ (List.getElem?_eq_getElem hl)
    exact ⟨b, off, l[k], ha, hB, List.getElem?_eq_getElem hl, (h4 _ (List.getElem_mem hl)).below hb, (hb.cell (p := ⟨b, _, none⟩) hB).trans c0, (hb.cell (p := ⟨b, _, none⟩) hB).trans c1, (hb.cell (p := ⟨b, _, none⟩) hB).trans c2, (hb.cell (p := ⟨b, _, none⟩) hB).trans c3⟩
theorem fitF_five {fs : List Fld} {val : List WI} (h : layCheck fs = 0) : fitF fs val ≠ 5 := by
  unfold fitF
  rw [if_neg (by simp [h])]
  split
  · decide
  · rcases fitGo_val fs val with h | h <;> rw [h] <;> decide
theorem cpF_five {cs : List Cmp} (h : ∀ c ∈ cs, layCheck c.fields = 0) (p : PW) : cpF cs p ≠ 5 := by
  unfold cpF
  cases hf : findC p.comp cs with
  | none => show (6 : Int) ≠ 5; decide
  | some c => exact fitF_five (h c (findC_mem hf))
theorem cpsGo_five {cs : List Cmp} (h : ∀ c ∈ cs, layCheck c.fields = 0) : ∀ (ps seen : List PW), cpsGo cs seen ps ≠ 5
  | [], _ => by unfold cpsGo; decide
  | p :: r, seen => by
    unfold cpsGo
    split
    · decide
    · split
      · exact cpF_five h p
      · exact cpsGo_five h r _
theorem TabIn.lay' {B : Nat} {w : World} {t : TD} (h : TabIn B w t) : ∀ c ∈ t.cs, layCheck c.fields = 0 := by
  intro c hc
  obtain ⟨x, hx, rfl⟩ := List.mem_map.1 hc
  exact h.lay x hx
theorem addErr_five {B : Nat} {w : World} {t : TD} (h : TabIn B w t) {e : Int} {ps : List PW} (he : addErr t e ps = 5) : t.free = 0 := by
  unfold addErr at he
  split at he
  · cases he
  · split at he
    · cases he
    · split at he
      · exact absurd he (cpsGo_five h.lay' _ _)
      · split at he
        · assumption
        · cases he
/-- What the law's rounds keep. -/
structure RoomS (w0 : World) (TB n : Nat) (t : TD) (w : World) : Prop where
  tab : TabIn TB w t
  tb : t.tb = TB
  most : t.most = n
  bel : Below w0.heap.size w0 w
  le : w0.heap.size ≤ TB
theorem RoomS.next {w0 w w' : World} {TB n : Nat} {t t' : TD} (h : RoomS w0 TB n t w) (ho : Out t.foot w w') (ht : TabIn TB w' t') (h1 : t'.tb = t.tb) (h2 : t'.most = t.most) : RoomS w0 TB n t' w' :=
  ⟨ht, h1.trans h.tb, h2.trans h.most, h.bel.trans (ho.below (fun b hb => Nat.le_trans h.le (h.tab.foot_ge hb).1) h.bel.size), h.le⟩
theorem RoomS.below {w0 w w' : World} {TB n : Nat} {t : TD} (h : RoomS w0 TB n t w) (hb : Below w.heap.size w w') : RoomS w0 TB n t w' := h.next (Out.of hb) (h.tab.below hb) rfl rfl
theorem RoomS.room {w0 w : World} {TB n : Nat} {t : TD} (h : RoomS w0 TB n t w) {fr : Nat} (hf : t.free = fr) : Calls Tryz.prog 29 #[.pointer (some ⟨TB, 0, none⟩)] w fun e w' => e = .returned (.int .i64 (fr : Int)) ∧ RoomS w0 TB n t w' := by
  have := tabRoom_in h.tab
  rw [h.tb, hf] at this
  exact this.mono fun e w' ⟨he, m, hm⟩ => ⟨he, by rw [hm]; exact h.below (below_drewN (Below.refl _ _) m)⟩
/-- Parts that lie below are left alone. -/
theorem RoomS.parts {w0 w : World} {TB n : Nat} {t : TD} (h : RoomS w0 TB n t w) {pa : Option Addr} {pl pc : Nat} {ps : List PW} (hp : PartsAt w0.heap.size w0 pa pl pc ps) : ∀ w', Out t.cfoot w w' → PartsAt w'.heap.size w' pa pl pc ps := by
  intro w' ho
  have hb : Below w0.heap.size w w' := ho.below (fun b hb => Nat.le_trans h.le (h.tab.foot_ge (TabIn.cfoot_foot hb)).1) h.bel.size
  have := h.bel.trans hb
  exact (hp.below this).mono this.size
end Go.Proofs.YtoadihebdaooaaaGreat
namespace Go.Proofs.YtoadihebdaooaaaGreat
open Go.ChangeShapes Go.WideShapes Go.RowKit Go.Deep
set_option linter.unusedVariables false
theorem list_of {α : Type} (P : Nat → α → Prop) : ∀ (len : Nat), (∀ i, i < len → ∃ x, P i x) → ∃ l : List α, l.length = len ∧ ∀ (i : Nat) (x : α), l[i]? = some x → P i x
  | 0, _ => ⟨[], rfl, fun i x h => by simp at h⟩
  | n + 1, h => by
    obtain ⟨l, hl, hp⟩ := list_of P n (fun i hi => h i (by omega))
    obtain ⟨x, hx⟩ := h n (by omega)
    refine ⟨l ++ [x], by simp [hl], fun i y hy => ?_⟩
    by_cases hi : i < n
    · rw [List.getElem?_append_left (by omega)] at hy; exact hp i y hy
    · have hlt := (List.getElem?_eq_some_iff.1 hy).1
      simp [hl] at hlt
      obtain rfl : i = n := by omega
      rw [List.getElem?_append_right (by omega), hl] at hy
      simp at hy
      subst hy; exact hx
section
variable {H : Type} {enc : TypeId × Value → H} {P : Program} {w : World} {base : Nat} {spare : Nat → Bool} {held : Bool}
/-- A slice of structs of one-cell fields: each field's cell, and its reading. -/
theorem open_elems {t e : TypeId} {fs : Array Field} {fuel : Nat} {cs : List Value} {x : DataW H × List MemPlace} (ht : P.underlying t = some (.slice e)) (he : P.underlying e = some (.struct fs)) (hone : oneCellFields P fs = true) (hC : P.cellsOf e = fs.size) (h0 : 0 < fs.size)
    (h : DataW.trod enc P w base spare held fuel t cs = some x) :
    cs = [.slice none 0 0] ∨ ∃ (b off : Nat) (sp : Option Nat) (len cap : Nat), cs = [.slice (some ⟨b, off, sp⟩) len cap] ∧ len ≤ maxLen ∧ (len ≤ cap ∧ cap ≤ maxLen) ∧ (0 < len → sp = none ∧ b < w.heap.size) ∧
      ∀ i, i < len → ∀ (j : Nat) (f : Field), fs[j]? = some f → ∃ (v : Value) (y : DataW H × List MemPlace) (n : Nat), w.cell? ⟨b, off + (i * fs.size + j), none⟩ = some v ∧ DataW.trod enc P w base spare held n f.type [v] = some y := by
  rcases open_slice ht h with ⟨h1, _⟩ | ⟨a, len, cap, m, n, D, Pl, hcs, hb, hl, hm, hmm, hx, hi⟩
  · exact .inl h1
  · obtain ⟨b, off, sp⟩ := a
    have hlm : len ≤ m := by rw [hmm]; split <;> omega
    have key : ∀ i, i < len → ∀ (j : Nat) (f : Field), fs[j]? = some f → ∃ (v : Value) (y : DataW H × List MemPlace) (n : Nat), w.cell? ((⟨b, off, sp⟩ : Addr).add (i * fs.size + j)) = some v ∧ DataW.trod enc P w base spare held n f.type [v] = some y := by
      intro i hil j f hf
      obtain ⟨cs', hc, ht'⟩ := hi i (by omega)
      rw [hC] at hc
      obtain ⟨_, hcl, hcell⟩ := World.cells?_some hc
      obtain ⟨xs, n', _, _, _, hxl, hall⟩ := DataW.trod_struct he ht'
      obtain ⟨ho, hc1⟩ := hone_of hone j f hf
      have hj : j < fs.size := (Array.getElem?_eq_some_iff.1 hf).1
      have hlt : j < cs'.length := by omega
      have ha := hall j f hf
      rw [ho, hc1, List.drop_eq_getElem_cons hlt] at ha
      simp only [List.take_succ_cons, List.take_zero] at ha
      have hxs : xs[j]? = some (xs[j]'(by omega)) := List.getElem?_eq_getElem (by omega)
      refine ⟨cs'[j], xs[j]'(by omega), n', ?_, ha.trans hxs⟩
      have := hcell j hj
      rw [List.getElem?_eq_getElem hlt] at this
      rw [← Go.Deep.add_add]
      exact this
    refine .inr ⟨b, off, sp, len, cap, hcs, by omega, ⟨hl, hm⟩, fun hpos => ?_, fun i hil j f hf => ?_⟩
    · obtain ⟨v, y, n', hv, _⟩ := key 0 hpos 0 fs[0] (Array.getElem?_eq_getElem h0)
      have e : (⟨b, off, sp⟩ : Addr).add (0 * fs.size + 0) = ⟨b, off, sp⟩ := by simp [Addr.add]
      rw [e] at hv
      exact ⟨World.cell?_spot hv, World.block_lt_of_cell? w _ hv⟩
    · obtain ⟨v, y, n', hv, ht'⟩ := key i hil j f hf
      refine ⟨v, y, n', ?_, ht'⟩
      obtain ⟨v0, y0, n0, hv0, _⟩ := key 0 (by omega) 0 fs[0] (Array.getElem?_eq_getElem h0)
      have e : (⟨b, off, sp⟩ : Addr).add (0 * fs.size + 0) = ⟨b, off, sp⟩ := by simp [Addr.add]
      rw [e] at hv0
      have hsp : sp = none := World.cell?_spot hv0
      subst hsp
      have hadd : (⟨b, off, none⟩ : Addr).add (i * fs.size + j) = ⟨b, off + (i * fs.size + j), none⟩ := by unfold Addr.add; split <;> simp_all
      rw [← hadd]; exact hv
end

section
variable {H : Type} {enc : TypeId × Value → H} {w : World} {base : Nat} {spare : Nat → Bool} {held : Bool}
theorem Tryz.one123 : ∃ fs, Tryz.prog.underlying 123 = some (.struct fs) ∧ oneCellFields Tryz.prog fs = true ∧ Tryz.prog.cellsOf 123 = fs.size ∧ fs.size = 3 ∧ (fs[0]?.map (·.type)) = some 9 ∧ (fs[1]?.map (·.type)) = some 121 ∧ (fs[2]?.map (·.type)) = some 3 :=
  ⟨_, Tryz.underlying123, by kernel_rfl, by kernel_rfl, rfl, rfl, rfl, rfl⟩
theorem Tryz.one112 : ∃ fs, Tryz.prog.underlying 112 = some (.struct fs) ∧ oneCellFields Tryz.prog fs = true ∧ Tryz.prog.cellsOf 112 = fs.size ∧ fs.size = 3 ∧ (fs[0]?.map (·.type)) = some 3 ∧ (fs[1]?.map (·.type)) = some 9 ∧ (fs[2]?.map (·.type)) = some 110 :=
  ⟨_, Tryz.underlying112, by kernel_rfl, by kernel_rfl, rfl, rfl, rfl, rfl⟩
theorem Tryz.one148 : ∃ fs, Tryz.prog.underlying 148 = some (.struct fs) ∧ oneCellFields Tryz.prog fs = true ∧ Tryz.prog.cellsOf 148 = fs.size ∧ fs.size = 3 ∧ (fs[0]?.map (·.type)) = some 4 ∧ (fs[1]?.map (·.type)) = some 60 ∧ (fs[2]?.map (·.type)) = some 60 :=
  ⟨_, Tryz.underlying148, by kernel_rfl, by kernel_rfl, rfl, rfl, rfl, rfl⟩
theorem Tryz.one85 : ∃ fs, Tryz.prog.underlying 85 = some (.struct fs) ∧ oneCellFields Tryz.prog fs = true ∧ Tryz.prog.cellsOf 85 = fs.size ∧ fs.size = 2 ∧ (fs[0]?.map (·.type)) = some 3 ∧ (fs[1]?.map (·.type)) = some 83 :=
  ⟨_, Tryz.underlying85, by kernel_rfl, by kernel_rfl, rfl, rfl, rfl⟩
theorem Tryz.one72 : ∃ fs, Tryz.prog.underlying 72 = some (.struct fs) ∧ oneCellFields Tryz.prog fs = true ∧ Tryz.prog.cellsOf 72 = fs.size ∧ fs.size = 4 ∧ (fs[0]?.map (·.type)) = some 3 ∧ (fs[1]?.map (·.type)) = some 3 ∧ (fs[2]?.map (·.type)) = some 60 ∧ (fs[3]?.map (·.type)) = some 70 :=
  ⟨_, Tryz.underlying72, by kernel_rfl, by kernel_rfl, rfl, rfl, rfl, rfl, rfl⟩
theorem field_of {fs : Array Field} {j : Nat} {t : TypeId} (h : (fs[j]?.map (·.type)) = some t) : ∃ f, fs[j]? = some f ∧ f.type = t := by
  cases hf : fs[j]? with
  | none => rw [hf] at h; cases h
  | some f => rw [hf] at h; exact ⟨f, rfl, Option.some.inj h⟩

theorem open_fields {fuel : Nat} {v : Value} {x : DataW H × List MemPlace} (h : DataW.trod enc Tryz.prog w base spare held fuel 110 [v] = some x) :
    ∃ a len cap fs, v = .slice a len cap ∧ FieldsAt w.heap.size w a len fs ∧ (a = none → len = 0 ∧ cap = 0) ∧ ∀ f ∈ fs, f.name.size ≤ maxLen := by
  obtain ⟨fds, hu, hone, hC, hsz, g0, g1, g2⟩ := Tryz.one123
  rcases open_elems Tryz.underlying110 hu hone hC (by omega) h with h1 | ⟨b, off, sp, len, cap, h1, hlm, hlc, hsp, hel⟩
  · cases h1
    exact ⟨none, 0, 0, [], rfl, ⟨rfl, by unfold maxLen; omega, .inl rfl⟩, fun _ => ⟨rfl, rfl⟩, by simp⟩
  · cases h1
    obtain ⟨f0, q0, r0⟩ := field_of g0
    obtain ⟨f1, q1, r1⟩ := field_of g1
    obtain ⟨f2, q2, r2⟩ := field_of g2
    obtain ⟨l, hl, hp⟩ := list_of (fun i (f : Fld) => w.cell? ⟨b, off + i * 3, none⟩ = some (.string f.name) ∧ w.cell? ⟨b, off + i * 3 + 1, none⟩ = some (.int .i64 f.kind) ∧ w.cell? ⟨b, off + i * 3 + 2, none⟩ = some (.int .i64 f.count) ∧ f.name.size ≤ maxLen) len (by
      intro i hi
      obtain ⟨v0, y0, n0, c0, t0⟩ := hel i hi 0 f0 q0
      obtain ⟨v1, y1, n1, c1, t1⟩ := hel i hi 1 f1 q1
      obtain ⟨v2, y2, n2, c2, t2⟩ := hel i hi 2 f2 q2
      rw [r0] at t0; rw [r1] at t1; rw [r2] at t2
      obtain ⟨s, e0, _, hs⟩ := DataW.trod_string Tryz.underlying9 t0
      obtain ⟨k, e1, _, hk⟩ := DataW.trod_int Tryz.underlying121 t1
      obtain ⟨c, e2, _, hc⟩ := DataW.trod_int Tryz.underlying3 t2
      cases e0; cases e1; cases e2
      rw [hsz] at c0 c1 c2
      exact ⟨⟨s, k, c⟩, c0, c1, c2, hs⟩)
    refine ⟨some ⟨b, off, sp⟩, len, cap, l, rfl, ⟨hl, hlm, ?_⟩, fun hh => by (cases hh), fun f hf => ?_⟩
    · by_cases h0 : len = 0
      · exact .inl h0
      · obtain ⟨rfl, hb⟩ := hsp (by omega)
        exact .inr ⟨b, off, rfl, hb, fun i f hf => ⟨(hp i f hf).1, (hp i f hf).2.1, (hp i f hf).2.2.1⟩⟩
    · obtain ⟨i, hi⟩ := List.getElem?_of_mem hf
      exact (hp i f hi).2.2.2

theorem open_comps {fuel : Nat} {v : Value} {x : DataW H × List MemPlace} (h : DataW.trod enc Tryz.prog w base spare held fuel 22 [v] = some x) :
    ∃ a len cap cs, v = .slice a len cap ∧ CompsAt w.heap.size w a len cs ∧ (a = none → len = 0 ∧ cap = 0) ∧ CompsWf cs := by
  obtain ⟨fds, hu, hone, hC, hsz, g0, g1, g2⟩ := Tryz.one112
  rcases open_elems Tryz.underlying22 hu hone hC (by omega) h with h1 | ⟨b, off, sp, len, cap, h1, hlm, hlc, hsp, hel⟩
  · cases h1
    exact ⟨none, 0, 0, [], rfl, ⟨rfl, by unfold maxLen; omega, .inl rfl⟩, fun _ => ⟨rfl, rfl⟩, by intro c hc; cases hc⟩
  · cases h1
    obtain ⟨f0, q0, r0⟩ := field_of g0
    obtain ⟨f1, q1, r1⟩ := field_of g1
    obtain ⟨f2, q2, r2⟩ := field_of g2
    obtain ⟨l, hl, hp⟩ := list_of (fun i (c : Cmp) => (w.cell? ⟨b, off + i * 3, none⟩ = some (.int .i64 c.id) ∧ w.cell? ⟨b, off + i * 3 + 1, none⟩ = some (.string c.name) ∧
        ∃ fa fl fc, w.cell? ⟨b, off + i * 3 + 2, none⟩ = some (.slice fa fl fc) ∧ FieldsAt w.heap.size w fa fl c.fields ∧ (fa = none → fl = 0 ∧ fc = 0)) ∧ c.name.size ≤ maxLen ∧ ∀ f ∈ c.fields, f.name.size ≤ maxLen) len (by
      intro i hi
      obtain ⟨v0, y0, n0, c0, t0⟩ := hel i hi 0 f0 q0
      obtain ⟨v1, y1, n1, c1, t1⟩ := hel i hi 1 f1 q1
      obtain ⟨v2, y2, n2, c2, t2⟩ := hel i hi 2 f2 q2
      rw [r0] at t0; rw [r1] at t1; rw [r2] at t2
      obtain ⟨k, e0, _, hk⟩ := DataW.trod_int Tryz.underlying3 t0
      obtain ⟨s, e1, _, hs⟩ := DataW.trod_string Tryz.underlying9 t1
      obtain ⟨fa, fl, fc, fs, e2, hF, hn, hfn⟩ := open_fields t2
      cases e0; cases e1; subst e2
      rw [hsz] at c0 c1 c2
      exact ⟨⟨k, s, fs⟩, ⟨c0, c1, fa, fl, fc, c2, hF, hn⟩, hs, hfn⟩)
    refine ⟨some ⟨b, off, sp⟩, len, cap, l, rfl, ⟨hl, hlm, ?_⟩, fun hh => by (cases hh), fun c hc => ?_⟩
    · by_cases h0 : len = 0
      · exact .inl h0
      · obtain ⟨rfl, hb⟩ := hsp (by omega)
        exact .inr ⟨b, off, rfl, hb, fun i c hc => (hp i c hc).1⟩
    · obtain ⟨i, hi⟩ := List.getElem?_of_mem hc
      exact (hp i c hi).2

theorem u32_of {n : Int} (h : (Lit.int .u32 n).wf = true) : 0 ≤ n ∧ n ≤ 4294967295 := by
  simpa [Lit.wf, IntKind.min, IntKind.max, IntKind.signed, IntKind.bits] using h
theorem u64_of {n : Int} (h : (Lit.int .u64 n).wf = true) : 0 ≤ n ∧ n ≤ 18446744073709551615 := by
  simpa [Lit.wf, IntKind.min, IntKind.max, IntKind.signed, IntKind.bits] using h
theorem open_ints16 {fuel : Nat} {v : Value} {x : DataW H × List MemPlace} (h : DataW.trod enc Tryz.prog w base spare held fuel 83 [v] = some x) :
    ∃ a len cap xs, v = .slice a len cap ∧ IntsAt w.heap.size w a len cap xs := by
  obtain ⟨fds, hu, hone, hC, hsz, g0, g1, g2⟩ := Tryz.one148
  rcases open_elems Tryz.underlying83 hu hone hC (by omega) h with h1 | ⟨b, off, sp, len, cap, h1, hlm, hlc, hsp, hel⟩
  · cases h1
    exact ⟨none, 0, 0, [], rfl, rfl, Nat.le_refl _, by unfold maxLen; omega, by simp, .inl rfl⟩
  · cases h1
    obtain ⟨f0, q0, r0⟩ := field_of g0
    obtain ⟨f1, q1, r1⟩ := field_of g1
    obtain ⟨f2, q2, r2⟩ := field_of g2
    obtain ⟨l, hl, hp⟩ := list_of (fun i (y : WI) => (w.cell? ⟨b, off + i * 3, none⟩ = some (.bool y.neg) ∧ w.cell? ⟨b, off + i * 3 + 1, none⟩ = some (.int .u64 y.hi) ∧ w.cell? ⟨b, off + i * 3 + 2, none⟩ = some (.int .u64 y.lo)) ∧ y.wf) len (by
      intro i hi
      obtain ⟨v0, y0, n0, c0, t0⟩ := hel i hi 0 f0 q0
      obtain ⟨v1, y1, n1, c1, t1⟩ := hel i hi 1 f1 q1
      obtain ⟨v2, y2, n2, c2, t2⟩ := hel i hi 2 f2 q2
      rw [r0] at t0; rw [r1] at t1; rw [r2] at t2
      obtain ⟨a0, e0, _⟩ := DataW.trod_bool Tryz.underlying4 t0
      obtain ⟨a1, e1, _, w1⟩ := DataW.trod_int Tryz.underlying60 t1
      obtain ⟨a2, e2, _, w2⟩ := DataW.trod_int Tryz.underlying60 t2
      cases e0; cases e1; cases e2
      rw [hsz] at c0 c1 c2
      exact ⟨⟨a0, a1, a2⟩, ⟨c0, c1, c2⟩, u64_of w1, u64_of w2⟩)
    refine ⟨some ⟨b, off, sp⟩, len, cap, l, rfl, hl, hlc.1, hlc.2, fun y hy => ?_, ?_⟩
    · obtain ⟨i, hi⟩ := List.getElem?_of_mem hy
      exact (hp i y hi).2
    · by_cases h0 : len = 0
      · exact .inl h0
      · obtain ⟨rfl, hb⟩ := hsp (by omega)
        exact .inr ⟨b, off, rfl, hb, fun i y hy => (hp i y hy).1⟩
theorem open_parts {fuel : Nat} {v : Value} {x : DataW H × List MemPlace} (h : DataW.trod enc Tryz.prog w base spare held fuel 70 [v] = some x) :
    ∃ a len cap ps, v = .slice a len cap ∧ PartsAt w.heap.size w a len cap ps := by
  obtain ⟨fds, hu, hone, hC, hsz, g0, g1⟩ := Tryz.one85
  rcases open_elems Tryz.underlying70 hu hone hC (by omega) h with h1 | ⟨b, off, sp, len, cap, h1, hlm, hlc, hsp, hel⟩
  · cases h1
    exact ⟨none, 0, 0, [], rfl, rfl, Nat.le_refl _, by unfold maxLen; omega, by simp, .inl rfl⟩
  · cases h1
    obtain ⟨f0, q0, r0⟩ := field_of g0
    obtain ⟨f1, q1, r1⟩ := field_of g1
    obtain ⟨l, hl, hp⟩ := list_of (fun i (p : PW) => (w.cell? ⟨b, off + i * 2, none⟩ = some (.int .i64 p.comp) ∧ w.cell? ⟨b, off + i * 2 + 1, none⟩ = some (.slice p.va p.vl p.vc)) ∧ IntsAt w.heap.size w p.va p.vl p.vc p.val) len (by
      intro i hi
      obtain ⟨v0, y0, n0, c0, t0⟩ := hel i hi 0 f0 q0
      obtain ⟨v1, y1, n1, c1, t1⟩ := hel i hi 1 f1 q1
      rw [r0] at t0; rw [r1] at t1
      obtain ⟨a0, e0, _, _⟩ := DataW.trod_int Tryz.underlying3 t0
      obtain ⟨va, vl, vc, xs, e1, hv⟩ := open_ints16 t1
      cases e0; subst e1
      rw [hsz] at c0 c1
      exact ⟨⟨a0, va, vl, vc, xs⟩, ⟨c0, c1⟩, hv⟩)
    refine ⟨some ⟨b, off, sp⟩, len, cap, l, rfl, hl, hlc.1, hlc.2, fun y hy => ?_, ?_⟩
    · obtain ⟨i, hi⟩ := List.getElem?_of_mem hy
      exact (hp i y hi).2
    · by_cases h0 : len = 0
      · exact .inl h0
      · obtain ⟨rfl, hb⟩ := hsp (by omega)
        exact .inr ⟨b, off, rfl, hb, fun i y hy => (hp i y hy).1⟩
theorem open_tacts {fuel : Nat} {v : Value} {x : DataW H × List MemPlace} (h : DataW.trod enc Tryz.prog w base spare held fuel 67 [v] = some x) :
    ∃ a len cap l, v = .slice a len cap ∧ TActsAt w.heap.size w a len l := by
  obtain ⟨fds, hu, hone, hC, hsz, g0, g1, g2, g3⟩ := Tryz.one72
  rcases open_elems Tryz.underlying67 hu hone hC (by omega) h with h1 | ⟨b, off, sp, len, cap, h1, hlm, hlc, hsp, hel⟩
  · cases h1
    exact ⟨none, 0, 0, [], rfl, rfl, by unfold maxLen; omega, by simp, .inl rfl⟩
  · cases h1
    obtain ⟨f0, q0, r0⟩ := field_of g0
    obtain ⟨f1, q1, r1⟩ := field_of g1
    obtain ⟨f2, q2, r2⟩ := field_of g2
    obtain ⟨f3, q3, r3⟩ := field_of g3
    obtain ⟨l, hl, hp⟩ := list_of (fun i (x : TA) => (w.cell? ⟨b, off + i * 4, none⟩ = some (.int .i64 x.kind) ∧ w.cell? ⟨b, off + i * 4 + 1, none⟩ = some (.int .i64 x.i) ∧ w.cell? ⟨b, off + i * 4 + 2, none⟩ = some (.int .u64 x.e) ∧ w.cell? ⟨b, off + i * 4 + 3, none⟩ = some (.slice x.pa x.pl x.pc)) ∧ PartsAt w.heap.size w x.pa x.pl x.pc x.ps) len (by
      intro i hi
      obtain ⟨v0, y0, n0, c0, t0⟩ := hel i hi 0 f0 q0
      obtain ⟨v1, y1, n1, c1, t1⟩ := hel i hi 1 f1 q1
      obtain ⟨v2, y2, n2, c2, t2⟩ := hel i hi 2 f2 q2
      obtain ⟨v3, y3, n3, c3, t3⟩ := hel i hi 3 f3 q3
      rw [r0] at t0; rw [r1] at t1; rw [r2] at t2; rw [r3] at t3
      obtain ⟨a0, e0, _, _⟩ := DataW.trod_int Tryz.underlying3 t0
      obtain ⟨a1, e1, _, _⟩ := DataW.trod_int Tryz.underlying3 t1
      obtain ⟨a2, e2, _, _⟩ := DataW.trod_int Tryz.underlying60 t2
      obtain ⟨pa, pl, pc, ps, e3, hv⟩ := open_parts t3
      cases e0; cases e1; cases e2; subst e3
      rw [hsz] at c0 c1 c2 c3
      exact ⟨⟨a0, a1, a2, pa, pl, pc, ps⟩, ⟨c0, c1, c2, c3⟩, hv⟩)
    refine ⟨some ⟨b, off, sp⟩, len, cap, l, rfl, hl, hlm, fun x hx => ?_, ?_⟩
    · obtain ⟨i, hi⟩ := List.getElem?_of_mem hx
      exact (hp i x hi).2
    · by_cases h0 : len = 0
      · exact .inl h0
      · obtain ⟨rfl, hb⟩ := hsp (by omega)
        exact .inr ⟨b, off, rfl, hb, fun i x hx => (hp i x hx).1⟩
end
end Go.Proofs.YtoadihebdaooaaaGreat
namespace Go.Proofs.YtoadihebdaooaaaGreat
open Go.RowKit
set_option linter.unusedVariables false
/-- The number of bytes, little end first. -/
def leV : List UInt8 → Nat
  | [] => 0
  | b :: r => b.toNat + 256 * leV r
theorem leV_lt : ∀ l : List UInt8, leV l < 256 ^ l.length
  | [] => by simp [leV]
  | b :: r => by
    have h1 := leV_lt r
    have h2 := b.toNat_lt
    simp only [leV, List.length_cons, Nat.pow_succ]
    omega
theorem or_byte {m b : Nat} (hm : m < 72057594037927936) (hb : b < 256) : bits BinOp.or .u64 ((m * 256 : Nat) : Int) (b : Int) = ((b + 256 * m : Nat) : Int) := by
  rw [u64_or_nat _ _ (by omega) (by omega)]
  congr 1
  have : m * 256 ||| b = 2 ^ 8 * m + b := by rw [Nat.mul_comm, show 256 = 2 ^ 8 from rfl, ← Nat.two_pow_add_eq_or_of_lt (by omega)]
  rw [this]; omega
set_option maxRecDepth 100000 in
theorem read_any (s : ByteArray) (w : World) : Calls Tryz.prog 148 #[.string s] w fun e w' => e = .returned (.pointer (some ⟨w.heap.size, 0, none⟩)) ∧ w.alloc (.cells #[.string s, .bool false] 261) = w' := by
  go_enter Tryz.func148, Tryz.ntmps148
  go_wp2_with fail
  go_returns
  exact ⟨rfl, rfl⟩
theorem rBad_any (rb : Nat) (s : ByteArray) (b : Bool) (w : World) (h : w.heap[rb]? = some (.cells #[.string s, .bool b] 261 (0, 0))) : Calls Tryz.prog 174 #[.pointer (some ⟨rb, 0, none⟩)] w fun e w' => e = .returned (.bool b) ∧ w = w' := by
  have c1 := cell_at h 1
  simp at c1
  clear h
  go_enter Tryz.func174, Tryz.ntmps174
  go_wp2_with fail
  go_returns
  exact ⟨rfl, rfl⟩
theorem rLeft_any (rb : Nat) (s : ByteArray) (w : World) (h : w.heap[rb]? = some (.cells #[.string s, .bool false] 261 (0, 0))) : Calls Tryz.prog 178 #[.pointer (some ⟨rb, 0, none⟩)] w fun e w' => e = .returned (.int .i64 (s.size : Int)) ∧ w = w' := by
  have c0 := cell_at h 0
  simp at c0
  have HB := Lib.hid (rBad_any rb s false w h)
  clear h
  go_enter Tryz.func178, Tryz.ntmps178
  go_wp2_with fail
  refine HB.out.mono ?_
  rintro e w1 ⟨rfl, rfl⟩
  go_wp2_with fail
  go_returns
  exact ⟨rfl, rfl⟩
theorem rDone_any (rb : Nat) (s : ByteArray) (w : World) (h : w.heap[rb]? = some (.cells #[.string s, .bool false] 261 (0, 0))) (hs : s = ⟨#[]⟩) : Calls Tryz.prog 153 #[.pointer (some ⟨rb, 0, none⟩)] w fun e w' => e = .returned (.bool true) ∧ w = w' := by
  have c0 := cell_at h 0
  subst hs
  simp at c0
  have HB := Lib.hid (rBad_any rb _ false w h)
  clear h
  go_enter Tryz.func153, Tryz.ntmps153
  go_wp2_with fail
  refine HB.out.mono ?_
  rintro e w1 ⟨rfl, rfl⟩
  go_wp2_with fail
  go_returns
  exact ⟨rfl, rfl⟩
set_option maxRecDepth 100000 in
set_option maxHeartbeats 1000000 in
theorem rSee_any (rb : Nat) (s : ByteArray) (k : Nat) (w : World) (h : w.heap[rb]? = some (.cells #[.string s, .bool false] 261 (0, 0))) (hk : k = 1 ∨ k = 2 ∨ k = 4 ∨ k = 8) (hs : k ≤ s.size) (hm : s.size ≤ maxLen) :
    Calls Tryz.prog 168 #[.pointer (some ⟨rb, 0, none⟩), .int .i64 (k : Int)] w fun e w' => e = .returned (.tuple #[.int .u64 (leV (s.data.toList.take k) : Int), .bool true]) ∧ w = w' := by
  have c0 := cell_at h 0
  simp at c0
  unfold maxLen at hm
  have HL := Lib.hid (rLeft_any rb s w h)
  have hk8 : k ≤ 8 := by omega
  have HK := Lib.hid hk
  have e1 : decide ((s.size : Int) < (k : Int)) = false := by simp; omega
  have hw1 : IntKind.i64.wrap ((k : Int) - 1) = (k : Int) - 1 := IntWalk.i64_in _ (by omega)
  clear h hk
  go_enter Tryz.func168, Tryz.ntmps168
  go_wp2_with fail
  refine (iswide_any _ _ (by have := HK.out; omega)).mono ?_
  rintro e w1 ⟨rfl, rfl⟩
  go_wp2_with fail
  refine HL.out.mono ?_
  rintro e w1 ⟨rfl, rfl⟩
  go_wp2_with fail
  go_loop [6, 7] (fun n i => ∃ j : Nat, j ≤ k ∧ i = .int .i64 ((j : Int) - 1) ∧ n = .int .u64 (leV ((s.data.toList.take k).drop j) : Int)) (fun _ i => ((intOf i) + 1).toNat)
  case atStart => exact ⟨k, Nat.le_refl _, rfl, by rw [List.drop_eq_nil_of_le (List.length_take_le _ _)]; rfl⟩
  case round =>
    obtain ⟨j, hj, rfl, rfl⟩ := hrel
    rcases Nat.eq_zero_or_pos j with rfl | hpos
    · go_wp2_with fail
      go_ret2
      exact ⟨by simp, rfl⟩
    · obtain ⟨m, rfl⟩ : ∃ m, j = m + 1 := ⟨j - 1, by omega⟩
      have hms : m < s.size := by omega
      have hd : (s.data.toList.take k).drop m = s[m] :: (s.data.toList.take k).drop (m + 1) := by
        have : (s.data.toList.take k)[m]? = some s[m] := by rw [List.getElem?_take, if_pos (by omega)]; exact data_get? hms
        exact drop_get this
      have hlen : ((s.data.toList.take k).drop (m + 1)).length ≤ 7 := by rw [List.length_drop, List.length_take]; omega
      have hlt := leV_lt ((s.data.toList.take k).drop (m + 1))
      have hlt7 : 256 ^ ((s.data.toList.take k).drop (m + 1)).length ≤ 256 ^ 7 := Nat.pow_le_pow_right (by decide) hlen
      have hb := s[m].toNat_lt
      have hnew : leV ((s.data.toList.take k).drop m) = s[m].toNat + 256 * leV ((s.data.toList.take k).drop (m + 1)) := by rw [hd]; rfl
      generalize leV ((s.data.toList.take k).drop (m + 1)) = n at *
      have hn : n < 72057594037927936 := by have : 256 ^ 7 = 72057594037927936 := by decide
                                            omega
      have HNEW := Lib.hid hnew
      have hor := or_byte hn hb
      have hsh : ((n * 256 : Nat) : Int) = (n : Int) * 256 := by omega
      have e0 : ((m + 1 : Nat) : Int) - 1 = (m : Int) := by omega
      rw [hsh] at hor
      rw [e0]
      go_wp2_with fail
      go_round
      case rel => exact ⟨m, by omega, rfl, by rw [HNEW.out, Int.natCast_add, Int.natCast_mul]; rfl⟩
      case measure => simp only [intOf]; omega
set_option maxRecDepth 100000 in
set_option maxHeartbeats 1000000 in
theorem rTake_any (rb : Nat) (s : ByteArray) (k : Nat) (w : World) (h : w.heap[rb]? = some (.cells #[.string s, .bool false] 261 (0, 0))) (hk : k ≤ s.size) (hm : s.size ≤ maxLen) :
    Calls Tryz.prog 169 #[.pointer (some ⟨rb, 0, none⟩), .int .i64 0, .int .i64 (k : Int), .bool true] w fun e w' => e = .returned (.string (s.extract 0 k)) ∧ w'.heap[rb]? = some (.cells #[.string (s.extract k s.size), .bool false] 261 (0, 0)) ∧ Only rb w w' := by
  have c0 := cell_at h 0
  have f0 := free_at h 0
  simp at c0
  unfold maxLen at hm
  have HB := Lib.hid (rBad_any rb s false w h)
  have HH := Lib.hid h
  have e1 : decide ((k : Int) < 0) = false := by simp
  have e2 : decide ((s.size : Int) < (k : Int)) = false := by simp; omega
  have hw1 : IntKind.i64.wrap (0 + (k : Int)) = (k : Int) := by rw [Int.zero_add]; exact IntWalk.i64_in _ (by omega)
  have hw2 : IntKind.i64.wrap ((s.size : Int) - 0) = (s.size : Int) := by rw [Int.sub_zero]; exact IntWalk.i64_in _ (by omega)
  clear h
  go_enter Tryz.func169, Tryz.ntmps169
  go_wp2_with fail
  refine HB.out.mono ?_
  rintro e w1 ⟨rfl, rfl⟩
  go_wp2_with fail
  go_returns
  exact ⟨rfl, by rw [hset _ _ _ _ _ _ _ HH.out]; rfl, Only.at _ _ _ _⟩
/-- Num reads the number of the first k bytes. -/
theorem rNum_any (rb : Nat) (s : ByteArray) (k : Nat) (w : World) (h : w.heap[rb]? = some (.cells #[.string s, .bool false] 261 (0, 0))) (hk : k = 1 ∨ k = 2 ∨ k = 4 ∨ k = 8) (hs : k ≤ s.size) (hm : s.size ≤ maxLen) :
    Calls Tryz.prog 149 #[.pointer (some ⟨rb, 0, none⟩), .int .i64 (k : Int)] w fun e w' => e = .returned (.int .u64 (leV (s.data.toList.take k) : Int)) ∧ w'.heap[rb]? = some (.cells #[.string (s.extract k s.size), .bool false] 261 (0, 0)) ∧ Only rb w w' := by
  have HS := Lib.hid (rSee_any rb s k w h hk hs hm)
  have HT := Lib.hid (rTake_any rb s k w h hs hm)
  clear h hk
  go_enter Tryz.func149, Tryz.ntmps149
  go_wp2_with fail
  refine HS.out.mono ?_
  rintro e w1 ⟨rfl, rfl⟩
  go_wp2_with fail
  refine HT.out.mono ?_
  rintro e w1 ⟨rfl, ht⟩
  go_wp2_with fail
  go_returns
  exact ⟨rfl, ht⟩
end Go.Proofs.YtoadihebdaooaaaGreat
namespace Go.Proofs.YtoadihebdaooaaaGreat
open Go.RowKit
set_option linter.unusedVariables false
def sub64E : Array Value → Sem Value := fun args => do
  let (x, y, b) ← Extern.MathBitsCarry.three "Sub64" args
  pure (Extern.MathBitsCarry.pair ((x + Extern.MathBitsCarry.m64 - y - b) % Extern.MathBitsCarry.m64) (if x < y + b then 1 else 0))
theorem run_sub64E {P : Program} (x y : Int) (h0 : 0 ≤ y) (h1 : y ≤ x) (h2 : x ≤ 18446744073709551615) (w : World) :
    (sub64E #[.int .u64 x, .int .u64 y, .int .u64 0]).run P w = .ok (.tuple #[.int .u64 (x - y), .int .u64 0]) w := by
  have key : (sub64E #[.int .u64 x, .int .u64 y, .int .u64 0]).run P w =
      .ok (Extern.MathBitsCarry.pair ((x.toNat + Extern.MathBitsCarry.m64 - y.toNat - 0) % Extern.MathBitsCarry.m64) (if x.toNat < y.toNat + 0 then 1 else 0)) w := rfl
  rw [key]
  obtain ⟨X, rfl⟩ := Int.eq_ofNat_of_zero_le (show 0 ≤ x by omega)
  obtain ⟨Y, rfl⟩ := Int.eq_ofNat_of_zero_le h0
  have e : (X + 18446744073709551616 - Y - 0) % 18446744073709551616 = X - Y := by omega
  have e2 : ¬ X < Y + 0 := by omega
  have e3 : ((X - Y : Nat) : Int) = (X : Int) - Y := by omega
  simp only [Extern.MathBitsCarry.pair, Extern.MathBitsCarry.m64, Int.toNat_natCast]
  rw [show (2 ^ 64 : Nat) = 18446744073709551616 from rfl, e, if_neg e2, Int.ofNat_eq_natCast, e3]
  rfl
theorem made_zero {n : Bool} : WI.made n 0 0 = ⟨false, 0, 0⟩ := by unfold WI.made; simp
theorem sizeF_lt {n m : Bool} {p q : Int} (h : p < q) : sizeF ⟨n, 0, p⟩ ⟨m, 0, q⟩ = -1 := by
  unfold sizeF; simp; omega
theorem sizeF_eq {n m : Bool} {p : Int} : sizeF ⟨n, 0, p⟩ ⟨m, 0, p⟩ = 0 := by
  unfold sizeF; simp
theorem swap_world (w : World) (a b r : Nat) (x0 x1 x2 y0 y1 y2 : Value) (T : TypeId) (o : Obj) (ha : w.heap[a]? = some (.cells #[x0, x1, x2] T (0, 0))) (hb : w.heap[b]? = some (.cells #[y0, y1, y2] T (0, 0))) (hr : w.heap[r]? = some o) (hab : a ≠ b) (hra : r ≠ a) (hrb : r ≠ b) :
    ∃ w3, w3 = (((((w.setCell ⟨a, 0, none⟩ y0).setCell ⟨a, 1, none⟩ y1).setCell ⟨a, 2, none⟩ y2).setCell ⟨b, 0, none⟩ x0).setCell ⟨b, 1, none⟩ x1).setCell ⟨b, 2, none⟩ x2 ∧
      w3.heap[a]? = some (.cells #[y0, y1, y2] T (0, 0)) ∧ w3.heap[b]? = some (.cells #[x0, x1, x2] T (0, 0)) ∧ w3.heap[r]? = some o ∧ ∀ B, B ≤ a → B ≤ b → Below B w w3 := by
  refine ⟨_, rfl, ?_, ?_, ?_, ?_⟩
  · rw [hset_ne _ _ _ _ hab, hset_ne _ _ _ _ hab, hset_ne _ _ _ _ hab, hset _ _ _ _ _ _ _ (hset _ _ _ _ _ _ _ (hset _ _ _ _ _ _ _ ha))]; rfl
  · have h1 : (((w.setCell ⟨a, 0, none⟩ y0).setCell ⟨a, 1, none⟩ y1).setCell ⟨a, 2, none⟩ y2).heap[b]? = some (.cells #[y0, y1, y2] T (0, 0)) := by
      rw [hset_ne _ _ _ _ (Ne.symm hab), hset_ne _ _ _ _ (Ne.symm hab), hset_ne _ _ _ _ (Ne.symm hab)]; exact hb
    rw [hset _ _ _ _ _ _ _ (hset _ _ _ _ _ _ _ (hset _ _ _ _ _ _ _ h1))]; rfl
  · rw [hset_ne _ _ _ _ hrb, hset_ne _ _ _ _ hrb, hset_ne _ _ _ _ hrb, hset_ne _ _ _ _ hra, hset_ne _ _ _ _ hra, hset_ne _ _ _ _ hra]; exact hr
  · intro B h1 h2
    exact ((((((Below.refl B w).setCell h1 _).setCell h1 _).setCell h1 _).setCell h2 _).setCell h2 _).setCell h2 _
set_option maxRecDepth 100000 in
set_option maxHeartbeats 2000000 in
theorem wadd_lt (p q : Int) (w : World) (h0 : 0 ≤ p) (h1 : p < q) (h2 : q ≤ 18446744073709551615) : Calls Tryz.prog 172 #[WI.v ⟨false, 0, p⟩, WI.v ⟨true, 0, q⟩] w fun e w' => e = .returned (.tuple #[WI.v ⟨true, 0, q - p⟩, .int .i64 0]) ∧ Below w.heap.size w w' := by
  have hb : Below w.heap.size w (((w.alloc (.cells #[.bool false, .int .u64 0, .int .u64 p] 148)).alloc (.cells #[.bool true, .int .u64 0, .int .u64 q] 148)).alloc (.cells #[.bool false, .int .u64 0, .int .u64 0] 148)) := by go_grown
  have kx := keepA (.cells #[.bool false, .int .u64 0, .int .u64 0] 148) (keepA (.cells #[.bool true, .int .u64 0, .int .u64 q] 148) (heap_alloc_new w (.cells #[.bool false, .int .u64 0, .int .u64 p] 148)))
  have ky := keepA (.cells #[.bool false, .int .u64 0, .int .u64 0] 148) (heap_alloc_new (w.alloc (.cells #[.bool false, .int .u64 0, .int .u64 p] 148)) (.cells #[.bool true, .int .u64 0, .int .u64 q] 148))
  have kr := heap_alloc_new ((w.alloc (.cells #[.bool false, .int .u64 0, .int .u64 p] 148)).alloc (.cells #[.bool true, .int .u64 0, .int .u64 q] 148)) (.cells #[.bool false, .int .u64 0, .int .u64 0] 148)
  rw [World.size_alloc] at ky
  rw [World.size_alloc, World.size_alloc] at kr
  have KX := Lib.hid kx
  have KY := Lib.hid ky
  have KR := Lib.hid kr
  have HB := Lib.hid hb
  clear kx ky kr hb
  dsimp only [WI.v]
  go_enter Tryz.func172, Tryz.ntmps172
  go_wp2_with fail
  refine (wcheck_any ⟨false, 0, p⟩ ⟨true, 0, q⟩ _ ⟨⟨by simp, by simp⟩, h0, by show p ≤ _; omega⟩ (wf_lo (by omega) (by omega)) (by simp [WI.form]) (form_lo (by omega))).mono ?_
  rintro e w1 ⟨rfl, hb1⟩
  have hx1 := keep hb1 KX.out
  have hy1 := keep hb1 KY.out
  have hr1 := keep hb1 KR.out
  have x0 := cell_at hx1 0
  have x1 := cell_at hx1 1
  have x2 := cell_at hx1 2
  have y0 := cell_at hy1 0
  have y1 := cell_at hy1 1
  have y2 := cell_at hy1 2
  simp at x0 x1 x2 y0 y1 y2
  have HB1 := Lib.hid (HB.out.trans (hb1.mono HB.out.size))
  have HR1 := Lib.hid hr1
  have HX1 := Lib.hid hx1
  have HY1 := Lib.hid hy1
  clear hb1 hx1 hy1 hr1
  go_wp2_with fail
  refine (wsize_any ⟨false, 0, p⟩ ⟨true, 0, q⟩ _).mono ?_
  rintro e w2 ⟨rfl, hb2⟩
  rw [sizeF_lt h1]
  have hx2 := keep hb2 HX1.out
  have hy2 := keep hb2 HY1.out
  have hr2 := keep hb2 HR1.out
  have u0 := cell_at hx2 0
  have u1 := cell_at hx2 1
  have u2 := cell_at hx2 2
  have v0 := cell_at hy2 0
  have v1 := cell_at hy2 1
  have v2 := cell_at hy2 2
  have fu0 := free_at hx2 0
  have fu1 := free_at hx2 1
  have fu2 := free_at hx2 2
  have fv0 := free_at hy2 0
  have fv1 := free_at hy2 1
  have fv2 := free_at hy2 2
  simp at u0 u1 u2 v0 v1 v2
  have HB2 := Lib.hid (HB1.out.trans (hb2.mono HB1.out.size))
  have HX2 := Lib.hid hx2
  have HY2 := Lib.hid hy2
  have HR2 := Lib.hid hr2
  clear hb2 hx2 hy2 hr2 x0 x1 x2 y0 y1 y2
  go_wp2_with fail
  obtain ⟨w3, hw3, hx3, hy3, hr3, hb3⟩ := swap_world w2 _ _ _ _ _ _ _ _ _ _ _ HX2.out HY2.out HR2.out (by omega) (by omega) (by omega)
  rw [← hw3]
  clear hw3 u0 u1 u2 v0 v1 v2 fu0 fu1 fu2 fv0 fv1 fv2
  have u0 := cell_at hx3 0
  have u1 := cell_at hx3 1
  have u2 := cell_at hx3 2
  have v0 := cell_at hy3 0
  have v1 := cell_at hy3 1
  have v2 := cell_at hy3 2
  simp at u0 u1 u2 v0 v1 v2
  have HB3 := Lib.hid (HB2.out.trans (hb3 w.heap.size (by omega) (by omega)))
  have HR3 := Lib.hid hr3
  clear hb3 hx3 hy3 hr3
  rw [run_callFunc_extern Tryz.func181 (by kernel_rfl) (by kernel_rfl) (by kernel_rfl) (e := sub64E) (by kernel_rfl), run_sub64E q p (by omega) (by omega) (by omega)]
  simp only [Result.andThen]
  rw [Oper.upon_value]
  go_wp2
  rw [run_callFunc_extern Tryz.func181 (by kernel_rfl) (by kernel_rfl) (by kernel_rfl) (e := sub64E) (by kernel_rfl), run_sub64E 0 0 (by omega) (by omega) (by omega)]
  simp only [Result.andThen]
  rw [Oper.upon_value]
  go_wp2_with fail
  refine (wfit_any true 0 (q - p) _ (by omega) (by omega) (by omega) (by omega)).mono ?_
  rintro e w4 ⟨rfl, hb4⟩
  rw [one_made (by omega)]
  have hr4 := keep hb4 HR3.out
  have q0 := cell_at hr4 0
  have q1 := cell_at hr4 1
  have q2 := cell_at hr4 2
  have g0 := free_at hr4 0
  have g1 := free_at hr4 1
  have g2 := free_at hr4 2
  simp at q0 q1 q2
  have HB4 := Lib.hid (HB3.out.trans (hb4.mono HB3.out.size))
  clear hb4 u0 u1 u2 v0 v1 v2
  dsimp only [WI.v]
  go_wp2_with fail
  refine bodyPost_ret (v := .tuple #[.agg #[.bool true, .int .u64 0, .int .u64 (q - p)], .int .i64 0]) (by simp [results, Tryz.results172, go_sem, q0, q1, q2]) rfl ?_
  exact ⟨rfl, ((HB4.out.setCell (by show w.heap.size ≤ w.heap.size + 1 + 1; omega) _).setCell (by show w.heap.size ≤ w.heap.size + 1 + 1; omega) _).setCell (by show w.heap.size ≤ w.heap.size + 1 + 1; omega) _⟩
set_option maxRecDepth 100000 in
set_option maxHeartbeats 2000000 in
theorem wadd_eq (q : Int) (w : World) (h0 : 1 ≤ q) (h2 : q ≤ 18446744073709551615) : Calls Tryz.prog 172 #[WI.v ⟨false, 0, q⟩, WI.v ⟨true, 0, q⟩] w fun e w' => e = .returned (.tuple #[WI.v ⟨false, 0, 0⟩, .int .i64 0]) ∧ Below w.heap.size w w' := by
  have hb : Below w.heap.size w (((w.alloc (.cells #[.bool false, .int .u64 0, .int .u64 q] 148)).alloc (.cells #[.bool true, .int .u64 0, .int .u64 q] 148)).alloc (.cells #[.bool false, .int .u64 0, .int .u64 0] 148)) := by go_grown
  have kx := keepA (.cells #[.bool false, .int .u64 0, .int .u64 0] 148) (keepA (.cells #[.bool true, .int .u64 0, .int .u64 q] 148) (heap_alloc_new w (.cells #[.bool false, .int .u64 0, .int .u64 q] 148)))
  have ky := keepA (.cells #[.bool false, .int .u64 0, .int .u64 0] 148) (heap_alloc_new (w.alloc (.cells #[.bool false, .int .u64 0, .int .u64 q] 148)) (.cells #[.bool true, .int .u64 0, .int .u64 q] 148))
  have kr := heap_alloc_new ((w.alloc (.cells #[.bool false, .int .u64 0, .int .u64 q] 148)).alloc (.cells #[.bool true, .int .u64 0, .int .u64 q] 148)) (.cells #[.bool false, .int .u64 0, .int .u64 0] 148)
  rw [World.size_alloc] at ky
  rw [World.size_alloc, World.size_alloc] at kr
  have KX := Lib.hid kx
  have KY := Lib.hid ky
  have KR := Lib.hid kr
  have HB := Lib.hid hb
  clear kx ky kr hb
  dsimp only [WI.v]
  go_enter Tryz.func172, Tryz.ntmps172
  go_wp2_with fail
  refine (wcheck_any ⟨false, 0, q⟩ ⟨true, 0, q⟩ _ (wf_lo (by omega) (by omega)) (wf_lo (by omega) (by omega)) (by simp [WI.form]) (form_lo (by omega))).mono ?_
  rintro e w1 ⟨rfl, hb1⟩
  have hx1 := keep hb1 KX.out
  have hy1 := keep hb1 KY.out
  have hr1 := keep hb1 KR.out
  have x0 := cell_at hx1 0
  have x1 := cell_at hx1 1
  have x2 := cell_at hx1 2
  have y0 := cell_at hy1 0
  have y1 := cell_at hy1 1
  have y2 := cell_at hy1 2
  simp at x0 x1 x2 y0 y1 y2
  have HB1 := Lib.hid (HB.out.trans (hb1.mono HB.out.size))
  have HR1 := Lib.hid hr1
  have HX1 := Lib.hid hx1
  have HY1 := Lib.hid hy1
  clear hb1 hx1 hy1 hr1
  go_wp2_with fail
  refine (wsize_any ⟨false, 0, q⟩ ⟨true, 0, q⟩ _).mono ?_
  rintro e w2 ⟨rfl, hb2⟩
  rw [sizeF_eq]
  have hx2 := keep hb2 HX1.out
  have hy2 := keep hb2 HY1.out
  have hr2 := keep hb2 HR1.out
  have u0 := cell_at hx2 0
  have u1 := cell_at hx2 1
  have u2 := cell_at hx2 2
  have v0 := cell_at hy2 0
  have v1 := cell_at hy2 1
  have v2 := cell_at hy2 2
  have fu0 := free_at hx2 0
  have fu1 := free_at hx2 1
  have fu2 := free_at hx2 2
  have fv0 := free_at hy2 0
  have fv1 := free_at hy2 1
  have fv2 := free_at hy2 2
  simp at u0 u1 u2 v0 v1 v2
  have HB2 := Lib.hid (HB1.out.trans (hb2.mono HB1.out.size))
  have HX2 := Lib.hid hx2
  have HY2 := Lib.hid hy2
  have HR2 := Lib.hid hr2
  clear hb2 hx2 hy2 hr2 x0 x1 x2 y0 y1 y2
  have HB3 := HB2
  have HR3 := HR2
  go_wp2_with fail
  rw [run_callFunc_extern Tryz.func181 (by kernel_rfl) (by kernel_rfl) (by kernel_rfl) (e := sub64E) (by kernel_rfl), run_sub64E q q (by omega) (by omega) (by omega), Int.sub_self]
  simp only [Result.andThen]
  rw [Oper.upon_value]
  go_wp2
  rw [run_callFunc_extern Tryz.func181 (by kernel_rfl) (by kernel_rfl) (by kernel_rfl) (e := sub64E) (by kernel_rfl), run_sub64E 0 0 (by omega) (by omega) (by omega)]
  simp only [Result.andThen]
  rw [Oper.upon_value]
  go_wp2_with fail
  refine (wfit_any false 0 0 _ (by omega) (by omega) (by omega) (by omega)).mono ?_
  rintro e w4 ⟨rfl, hb4⟩
  rw [made_zero]
  have hr4 := keep hb4 HR3.out
  have q0 := cell_at hr4 0
  have q1 := cell_at hr4 1
  have q2 := cell_at hr4 2
  have g0 := free_at hr4 0
  have g1 := free_at hr4 1
  have g2 := free_at hr4 2
  simp at q0 q1 q2
  have HB4 := Lib.hid (HB3.out.trans (hb4.mono HB3.out.size))
  clear hb4 u0 u1 u2 v0 v1 v2
  dsimp only [WI.v]
  go_wp2_with fail
  refine bodyPost_ret (v := .tuple #[.agg #[.bool false, .int .u64 0, .int .u64 0], .int .i64 0]) (by simp [results, Tryz.results172, go_sem, q0, q1, q2]) rfl ?_
  exact ⟨rfl, ((HB4.out.setCell (by show w.heap.size ≤ w.heap.size + 1 + 1; omega) _).setCell (by show w.heap.size ≤ w.heap.size + 1 + 1; omega) _).setCell (by show w.heap.size ≤ w.heap.size + 1 + 1; omega) _⟩

end Go.Proofs.YtoadihebdaooaaaGreat
namespace Go.Proofs.YtoadihebdaooaaaGreat
open Go.RowKit
set_option linter.unusedVariables false
theorem wadd_mix (p q : Int) (w : World) (h0 : 0 ≤ p) (h1 : p ≤ q) (h2 : 1 ≤ q) (h3 : q ≤ 18446744073709551615) : Calls Tryz.prog 172 #[WI.v ⟨false, 0, p⟩, WI.v ⟨true, 0, q⟩] w fun e w' => e = .returned (.tuple #[WI.v (WI.made true 0 (q - p)), .int .i64 0]) ∧ Below w.heap.size w w' := by
  by_cases he : p = q
  · subst he
    rw [Int.sub_self, made_zero]
    exact wadd_eq p w h2 h3
  · rw [one_made (by omega)]
    exact wadd_lt p q w h0 (by omega) h3
set_option maxRecDepth 100000 in
set_option maxHeartbeats 8000000 in
theorem wsub_pos (p q : Int) (w : World) (h0 : 0 ≤ p) (h1 : p ≤ q) (h2 : 1 ≤ q) (h3 : q ≤ 18446744073709551615) : Calls Tryz.prog 152 #[WI.v ⟨false, 0, p⟩, WI.v ⟨false, 0, q⟩] w fun e w' => e = .returned (.tuple #[WI.v (WI.made true 0 (q - p)), .int .i64 0]) ∧ Below w.heap.size w w' := by
  have hb : Below w.heap.size w (((w.alloc (.cells #[.bool false, .int .u64 0, .int .u64 p] 148)).alloc (.cells #[.bool false, .int .u64 0, .int .u64 q] 148)).alloc (.cells #[.bool false, .int .u64 0, .int .u64 0] 148)) := by go_grown
  have kx := keepA (.cells #[.bool false, .int .u64 0, .int .u64 0] 148) (keepA (.cells #[.bool false, .int .u64 0, .int .u64 q] 148) (heap_alloc_new w (.cells #[.bool false, .int .u64 0, .int .u64 p] 148)))
  have ky := keepA (.cells #[.bool false, .int .u64 0, .int .u64 0] 148) (heap_alloc_new (w.alloc (.cells #[.bool false, .int .u64 0, .int .u64 p] 148)) (.cells #[.bool false, .int .u64 0, .int .u64 q] 148))
  have kr := heap_alloc_new ((w.alloc (.cells #[.bool false, .int .u64 0, .int .u64 p] 148)).alloc (.cells #[.bool false, .int .u64 0, .int .u64 q] 148)) (.cells #[.bool false, .int .u64 0, .int .u64 0] 148)
  rw [World.size_alloc] at ky
  rw [World.size_alloc, World.size_alloc] at kr
  have KX := Lib.hid kx
  have KY := Lib.hid ky
  have KR := Lib.hid kr
  have HB := Lib.hid hb
  clear kx ky kr hb
  have HA : Hid (∀ w, Calls Tryz.prog 172 #[WI.v ⟨false, 0, p⟩, WI.v ⟨true, 0, q⟩] w fun e w' => e = .returned (.tuple #[WI.v (WI.made true 0 (q - p)), .int .i64 0]) ∧ Below w.heap.size w w') := Lib.hid (fun w => wadd_mix p q w h0 h1 h2 h3)
  obtain ⟨⟨rn, rh, rl⟩, hr⟩ : ∃ r, r = WI.made true 0 (q - p) := ⟨_, rfl⟩
  rw [← hr] at HA ⊢
  clear hr
  dsimp only [WI.v] at *
  have HN : Hid (WI.made (!(⟨false, 0, q⟩ : WI).neg) (⟨false, 0, q⟩ : WI).hi (⟨false, 0, q⟩ : WI).lo = ⟨true, 0, q⟩) := Lib.hid (by show WI.made true 0 q = _; exact one_made (by omega))
  have H0 := Lib.hid (show WI.wf ⟨false, 0, p⟩ from ⟨⟨by simp, by simp⟩, h0, by show p ≤ _; omega⟩)
  go_enter Tryz.func152, Tryz.ntmps152
  go_wp2_with fail
  refine (wcheck_any ⟨false, 0, p⟩ ⟨false, 0, q⟩ _ H0.out (wf_lo (by omega) (by omega)) (by simp [WI.form]) (form_lo (by omega))).mono ?_
  rintro e w1 ⟨rfl, hb1⟩
  have hx1 := keep hb1 KX.out
  have hy1 := keep hb1 KY.out
  have hr1 := keep hb1 KR.out
  have x0 := cell_at hx1 0
  have x1 := cell_at hx1 1
  have x2 := cell_at hx1 2
  have y0 := cell_at hy1 0
  have y1 := cell_at hy1 1
  have y2 := cell_at hy1 2
  simp at x0 x1 x2 y0 y1 y2
  have HB1 := Lib.hid (HB.out.trans (hb1.mono HB.out.size))
  have HR1 := Lib.hid hr1
  have HX1 := Lib.hid hx1
  clear hb1 hx1 hy1 hr1
  have fin : ∀ w3, Below w1.heap.size w1 w3 → w3.heap[w.heap.size + 1 + 1]? = some (.cells #[.bool false, .int .u64 0, .int .u64 0] 148 (0, 0)) := fun w3 h => keep h HR1.out
  have FIN := Lib.hid fin
  clear fin
  go_upto_region 4 with (fail)
  go_region_with (first
    | (go_at_call 173; refine (wneg_any ⟨false, 0, q⟩ _ (wf_lo (by omega) (by omega)) (form_lo (by omega))).mono ?_; rintro e w2 ⟨rfl, hb2⟩; rw [HN.out]; dsimp only [WI.v]; have HB2 := Lib.hid (show Below w1.heap.size w1 w2 from ((Below.refl w1.heap.size w1).drew).trans (hb2.mono (by simp))); clear hb2; have z0 := cell_at (keep HB2.out HX1.out) 0; have z1 := cell_at (keep HB2.out HX1.out) 1; have z2 := cell_at (keep HB2.out HX1.out) 2; simp at z0 z1 z2)
    | (go_at_call 172; refine (HA.out _).mono ?_; rintro e w3 ⟨rfl, hb3⟩; dsimp only [WI.v]; have HB3 := Lib.hid (HB2.out.trans (hb3.mono HB2.out.size)); clear hb3; have hr2 := FIN.out _ HB3.out; have q0 := cell_at hr2 0; have q1 := cell_at hr2 1; have q2 := cell_at hr2 2; have g0 := free_at hr2 0; have g1 := free_at hr2 1; have g2 := free_at hr2 2; simp at q0 q1 q2; have HB4 := Lib.hid (HB1.out.trans (HB3.out.mono HB1.out.size)))
    )
  all_goals
    go_wp2_with fail
    refine bodyPost_ret (v := .tuple #[.agg #[.bool rn, .int .u64 rh, .int .u64 rl], .int .i64 0]) (by simp [results, Tryz.results152, go_sem, q0, q1, q2]) rfl ?_
    exact ⟨rfl, ((HB4.out.setCell (by show w.heap.size ≤ w.heap.size + 1 + 1; omega) _).setCell (by show w.heap.size ≤ w.heap.size + 1 + 1; omega) _).setCell (by show w.heap.size ≤ w.heap.size + 1 + 1; omega) _⟩
end Go.Proofs.YtoadihebdaooaaaGreat
namespace Go.Proofs.YtoadihebdaooaaaGreat
open Go.RowKit
set_option linter.unusedVariables false
/-- The number that field.Get makes of a word. -/
def getW (k : Int) (n : Nat) : WI := if kSig k = true ∧ kMax k < (n : Int) then ⟨true, 0, pMax (8 * kSize k) + 1 - n⟩ else ⟨false, 0, n⟩
/-- The name that the list of shapes holds for a kind. -/
def kNm (k : Int) : ByteArray := match shapesObj with
  | .cells cs _ _ => match cs[k.toNat * 3]? with
    | some (.string s) => s
    | _ => ⟨#[]⟩
  | _ => ⟨#[]⟩
theorem shapes_named (W : World) (k : Int) (h1 : 1 ≤ k) (h2 : k ≤ 10) : (W.alloc shapesObj).cell? ⟨W.heap.size, k.toNat * 3, none⟩ = some (.string (kNm k)) ∧
    (W.alloc shapesObj).cell? ⟨W.heap.size, k.toNat * 3 + 1, none⟩ = some (.int .i64 (kSize k)) ∧ (W.alloc shapesObj).cell? ⟨W.heap.size, k.toNat * 3 + 2, none⟩ = some (.bool (kSig k)) := by
  have h' : k = 1 ∨ k = 2 ∨ k = 3 ∨ k = 4 ∨ k = 5 ∨ k = 6 ∨ k = 7 ∨ k = 8 ∨ k = 9 ∨ k = 10 := by omega
  have hh : (W.alloc shapesObj).heap[W.heap.size]? = some shapesObj := heap_alloc_new W _
  rcases h' with rfl | rfl | rfl | rfl | rfl | rfl | rfl | rfl | rfl | rfl
  all_goals
    refine ⟨?_, ?_, ?_⟩
    all_goals (unfold World.cell?; rw [hh]; rfl)
theorem of_named (k : Int) (w : World) (h1 : 1 ≤ k) (h2 : k ≤ 10) : Calls Tryz.prog 147 #[.int .i64 k] w fun e w' => e = .returned (.agg #[.string (kNm k), .int .i64 (kSize k), .bool (kSig k)]) ∧ Below w.heap.size w w' := by
  obtain ⟨c0, c1, c2⟩ := shapes_named (w.alloc (Obj.cells #[Value.string { data := #[] }, Value.int IntKind.i64 0, Value.bool false] 241)) k h1 h2
  rw [World.size_alloc] at c0 c1 c2
  have hk := kindB_true h1 h2
  go_enter Tryz.func147, Tryz.ntmps147
  go_wp2_with (first | (go_at_call 167; refine (shapes_any _).mono ?_; rintro e w' ⟨rfl, rfl⟩) | (go_at_call 142; refine (isKind_any _ _).mono ?_; rintro e w' ⟨rfl, rfl⟩))
  go_returns
  exact ⟨rfl, by go_grown⟩
theorem cmp_great (k : Int) (n : Nat) : decide (0 < cmpF ⟨false, 0, n⟩ (greatW k)) = decide (kMax k < (n : Int)) := by
  have h : cmpF ⟨false, 0, n⟩ (greatW k) = signF (n : Int) (kMax k) := by
    unfold cmpF
    rw [greatW_form, greatW_val]
    simp [WI.form, WI.val]
  rw [h]
  have := @sign_le (n : Int) (kMax k)
  exact decide_eq_decide.2 (by omega)
def get_un (k : Int) : List (Value → World → Prop) :=
  [IsV (.int .i64 k),
   IsV (.agg #[.string (kNm k), .int .i64 (kSize k), .bool false]),
   IsV (.bool false),
   IsV (.bool false),
   IsV undef,
   IsV undef,
   IsV undef,
   IsV undef,
   IsV undef,
   IsV (.bool false)]
theorem get_un_lasts (k : Int) : ∀ p ∈ get_un k , Lasts p := by
  simp only [get_un, List.mem_cons, List.not_mem_nil, or_false]
  rintro p hp
  repeat (rcases hp with rfl | hp; exact lasts_v _)
def get_si (k : Int) (n : Nat) (q : Int) (b : Bool) : List (Value → World → Prop) :=
  [IsV (.int .i64 k),
   IsV (.agg #[.string (kNm k), .int .i64 (kSize k), .bool true]),
   IsV (.bool true),
   IsV (.bool true),
   IsV (.agg #[.bool false, .int .u64 0, .int .u64 (n : Int)]),
   IsV (.int .i64 k),
   IsV (.agg #[.bool false, .int .u64 0, .int .u64 (kMax k)]),
   IsV (.int .i64 q),
   IsV (.bool b),
   IsV (.bool b)]
theorem get_si_lasts (k : Int) (n : Nat) (q : Int) (b : Bool) : ∀ p ∈ get_si k  n  q  b , Lasts p := by
  simp only [get_si, List.mem_cons, List.not_mem_nil, or_false]
  rintro p hp
  repeat (rcases hp with rfl | hp; exact lasts_v _)
set_option maxRecDepth 100000 in
set_option maxHeartbeats 4000000 in
/-- Where the number stays as it is. -/
theorem get_stay (k : Int) (s : ByteArray) (c n : Nat) (w : World) (h1 : 1 ≤ k) (h2 : k ≤ 10) (hc : kSize k = (c : Int)) (hs : s.size = c) (hn : leV s.data.toList = n) (hu : kSig k = false) (hf : fitsF k ⟨false, 0, n⟩ = true) (hwf : WI.wf ⟨false, 0, n⟩) :
    Calls Tryz.prog 124 #[.int .i64 k, .string s] w fun e w' => e = .returned (.tuple #[WI.v ⟨false, 0, n⟩, .int .i64 0]) ∧ Below w.heap.size w w' := by
  have hcs : c = 1 ∨ c = 2 ∨ c = 4 ∨ c = 8 := by have := kSize_set h1 h2; omega
  have hn' : leV (s.data.toList.take c) = n := by rw [List.take_of_length_le (by have : s.data.toList.length = s.size := rfl; omega)]; exact hn
  have hempty : s.extract c s.size = ⟨#[]⟩ := by rw [hs]; apply ByteArray.ext; rw [ByteArray.data_extract]; simp [hs]
  have hmx : s.size ≤ maxLen := by unfold maxLen; omega
  have HNUM := Lib.hid (fun rb w h => rNum_any rb s c w h hcs (by omega) hmx)
  rw [hn', hempty] at HNUM
  have HK := Lib.hid (kindB_true h1 h2)
  have HC := Lib.hid hc
  have HU := Lib.hid hu
  have HF := Lib.hid hf
  have HWF := Lib.hid hwf
  have hb : Below w.heap.size w (w.alloc (.cells #[.bool false, .int .u64 0, .int .u64 0] 148)) := by go_grown
  have kr := heap_alloc_new w (.cells #[.bool false, .int .u64 0, .int .u64 0] 148)
  have HB := Lib.hid hb
  have HR := Lib.hid kr
  clear hb kr hc hs hn hu hf hwf hcs hn' hempty hmx
  go_enter Tryz.func124, Tryz.ntmps124
  go_wp2_with fail
  refine (isKind_any _ _).mono ?_
  rintro e w1 ⟨rfl, rfl⟩
  rw [HK.out]
  go_wp2_with fail
  refine (size_any _ _).mono ?_
  rintro e w1 ⟨rfl, hb1⟩
  rw [HC.out]
  have HR1 := Lib.hid (keep hb1 HR.out)
  have HB1 := Lib.hid (HB.out.trans (hb1.mono HB.out.size))
  clear hb1
  go_wp2_with fail
  refine (read_any _ _).mono ?_
  rintro e w2 ⟨rfl, rfl⟩
  have HX2 := Lib.hid (heap_alloc_new w1 (.cells #[.string s, .bool false] 261))
  have HR2 := Lib.hid (keepA (.cells #[.string s, .bool false] 261) HR1.out)
  have HB2 := Lib.hid (HB1.out.alloc HB1.out.size (.cells #[.string s, .bool false] 261))
  generalize w1.alloc (.cells #[.string s, .bool false] 261) = w2 at *
  have hrb : w.heap.size < w1.heap.size := by have := lt_some HR1.out; omega
  generalize w1.heap.size = rb at *
  go_wp2_with fail
  refine (HNUM.out rb w2 HX2.out).mono ?_
  rintro e w3 ⟨rfl, hx3, ho3⟩
  have HX3 := Lib.hid hx3
  have HR3 := Lib.hid ((ho3.block _ (by omega)).trans HR2.out)
  have HB3 := Lib.hid (HB2.out.trans (ho3.below (by omega)))
  clear hx3 ho3
  go_wp2_with fail
  refine (wofword_any _ _).mono ?_
  rintro e w4 ⟨rfl, hb4⟩
  dsimp only [WI.v]
  go_wp2_with fail
  have hs4 : rb < w4.heap.size := lt_some (keep hb4 HX3.out)
  have HN5 := Lib.hid (heap_alloc_new w4 (.cells #[.bool false, .int .u64 0, .int .u64 (n : Int)] 148))
  have HR5 := Lib.hid (keepA (.cells #[.bool false, .int .u64 0, .int .u64 (n : Int)] 148) (keep hb4 HR3.out))
  have HX5 := Lib.hid (keepA (.cells #[.bool false, .int .u64 0, .int .u64 (n : Int)] 148) (keep hb4 HX3.out))
  have HB4 := HB3.out.trans (hb4.mono HB3.out.size)
  have HB5 := Lib.hid (HB4.alloc HB4.size (.cells #[.bool false, .int .u64 0, .int .u64 (n : Int)] 148))
  clear hb4 HB4
  generalize w4.alloc (.cells #[.bool false, .int .u64 0, .int .u64 (n : Int)] 148) = w5 at *
  generalize w4.heap.size = xb at *
  have HFL := Lib.hid (fun s => fldShape s (kSize k) (kSig k))
  rw [HU.out] at HFL
  refine wp_region_frame (by kernel_rfl) (by kernel_rfl) (by kernel_rfl) (byList (get_un k)) (lasts_list (get_un_lasts k)) ?_ ?_
  · intro vs w' iq o A F hb ho hd
    have m0 : A.tmps[0]?.getD undef = (.int .i64 k) := F.m (by kernel_rfl) rfl
    have m8 : A.tmps[8]?.getD undef = (.pointer (some ⟨xb, 0, none⟩)) := F.m (by kernel_rfl) rfl
    have G := F.light (n := 57) (by kernel_rfl)
    clear F
    clear hb
    revert ho hd
    match iq with
    | 0 =>
      intro ho hd
      obtain rfl := (Option.some.inj ho).symm
      clear hd ho
      refine step_open rfl ?_
      clear G
      exact step_run (v := (.int .i64 k)) (by go_simp) rfl
    | 1 =>
      intro ho hd
      obtain rfl := (Option.some.inj ho).symm
      have d0 : vs 0 = (.int .i64 k) := hd ⟨0, .data⟩ (by simp) rfl
      clear hd ho
      have h21 := G.h (j := 0) (d := 21) rfl (by decide) d0
      refine step_open rfl ?_
      clear G
      go_simp
      refine (of_named _ _ h1 h2).mono ?_
      rintro e w2 ⟨rfl, hb2⟩
      rw [HU.out]
      exact ⟨_, rfl, rfl, hb2⟩
    | 2 =>
      intro ho hd
      obtain rfl := (Option.some.inj ho).symm
      have d1 : vs 1 = (.agg #[.string (kNm k), .int .i64 (kSize k), .bool false]) := hd ⟨1, .data⟩ (by simp) rfl
      clear hd ho
      have h22 := G.h (j := 1) (d := 22) rfl (by decide) d1
      refine step_open rfl ?_
      clear G
      have hfld := HFL.out (kNm k)
      exact step_run (v := (.bool false)) (by go_simp) rfl
    | 3 =>
      intro ho hd
      obtain rfl := (Option.some.inj ho).symm
      have d2 : vs 2 = (.bool false) := hd ⟨2, .data⟩ (by simp) rfl
      clear hd ho
      have h23 := G.h (j := 2) (d := 23) rfl (by decide) d2
      refine step_open rfl ?_
      clear G
      exact step_run (v := (.bool false)) (by go_simp) rfl
    | 4 =>
      intro ho hd
      obtain rfl := (Option.some.inj ho).symm
      have d3 : vs 3 = (.bool false) := hd ⟨3, .guard⟩ (by simp) rfl
      clear hd ho
      exact step_not G rfl rfl (by decide) d3 rfl
    | 5 =>
      intro ho hd
      obtain rfl := (Option.some.inj ho).symm
      have d3 : vs 3 = (.bool false) := hd ⟨3, .guard⟩ (by simp) rfl
      clear hd ho
      exact step_not G rfl rfl (by decide) d3 rfl
    | 6 =>
      intro ho hd
      obtain rfl := (Option.some.inj ho).symm
      have d3 : vs 3 = (.bool false) := hd ⟨3, .guard⟩ (by simp) rfl
      clear hd ho
      exact step_not G rfl rfl (by decide) d3 rfl
    | 7 =>
      intro ho hd
      obtain rfl := (Option.some.inj ho).symm
      have d3 : vs 3 = (.bool false) := hd ⟨3, .guard⟩ (by simp) rfl
      clear hd ho
      exact step_not G rfl rfl (by decide) d3 rfl
    | 8 =>
      intro ho hd
      obtain rfl := (Option.some.inj ho).symm
      have d3 : vs 3 = (.bool false) := hd ⟨3, .guard⟩ (by simp) rfl
      clear hd ho
      exact step_not G rfl rfl (by decide) d3 rfl
    | 9 =>
      intro ho hd
      obtain rfl := (Option.some.inj ho).symm
      have d3 : vs 3 = (.bool false) := hd ⟨3, .data⟩ (by simp) rfl
      have d8 : vs 8 = undef := hd ⟨8, .data⟩ (by simp) rfl
      clear hd ho
      have h24 := G.h (j := 3) (d := 24) rfl (by decide) d3
      have h29 := G.h (j := 8) (d := 29) rfl (by decide) d8
      refine step_open rfl ?_
      clear G
      exact step_run (v := (.bool false)) (by go_simp) rfl
    | n + 10 =>
      intro ho hd
      simp at ho
  intro vs w6 hb hR
  have hv : vs 9 = .bool false := hR 9 (by simp)
  have HX6 := Lib.hid (keep hb HX5.out)
  have HR6 := Lib.hid (keep hb HR5.out)
  have HN6 := Lib.hid (keep hb HN5.out)
  have HB6 := Lib.hid (HB5.out.trans (hb.mono HB5.out.size))
  simp only [putAll, Act.put, List.setIfInBounds_toArray, List.set_cons_succ, List.set_cons_zero]
  rw [hv]
  generalize vs 0 = y0
  generalize vs (0 + 1) = y1
  generalize vs (0 + 1 + 1) = y2
  generalize vs (0 + 1 + 1 + 1) = y3
  generalize vs (0 + 1 + 1 + 1 + 1) = y4
  generalize vs (0 + 1 + 1 + 1 + 1 + 1) = y5
  generalize vs (0 + 1 + 1 + 1 + 1 + 1 + 1) = y6
  generalize vs (0 + 1 + 1 + 1 + 1 + 1 + 1 + 1) = y7
  generalize vs (0 + 1 + 1 + 1 + 1 + 1 + 1 + 1 + 1) = y8
  clear hR hb hv
  have n0 := cell_at HN6.out 0
  have n1 := cell_at HN6.out 1
  have n2 := cell_at HN6.out 2
  simp at n0 n1 n2
  go_wp2_with fail
  refine (rDone_any rb _ _ HX6.out rfl).mono ?_
  rintro e w7 ⟨rfl, rfl⟩
  go_wp2_with fail
  refine (fits_any k ⟨false, 0, n⟩ _ HWF.out).mono ?_
  rintro e w7 ⟨rfl, hb7⟩
  rw [HF.out]
  have hn7 := keep hb7 HN6.out
  have hr7 := keep hb7 HR6.out
  have HB7 := Lib.hid (HB6.out.trans (hb7.mono HB6.out.size))
  have a0 := cell_at hn7 0
  have a1 := cell_at hn7 1
  have a2 := cell_at hn7 2
  have g0 := free_at hr7 0
  have g1 := free_at hr7 1
  have g2 := free_at hr7 2
  have q0 := cell_at hr7 0
  have q1 := cell_at hr7 1
  have q2 := cell_at hr7 2
  simp at a0 a1 a2 q0 q1 q2
  clear hb7
  go_wp2_with fail
  refine bodyPost_ret (v := .tuple #[.agg #[.bool false, .int .u64 0, .int .u64 (n : Int)], .int .i64 0]) (by simp [results, Tryz.results124, go_sem, q0, q1, q2]) rfl ?_
  exact ⟨rfl, ((HB7.out.setCell (by simp) _).setCell (by simp) _).setCell (by simp) _⟩
set_option maxRecDepth 100000 in
set_option maxHeartbeats 4000000 in
/-- Where a signed number is not above the greatest. -/
theorem get_low (k : Int) (s : ByteArray) (c n : Nat) (w : World) (h1 : 1 ≤ k) (h2 : k ≤ 10) (hc : kSize k = (c : Int)) (hs : s.size = c) (hn : leV s.data.toList = n) (hu : kSig k = true) (hg : (n : Int) ≤ kMax k) (hf : fitsF k ⟨false, 0, n⟩ = true) (hwf : WI.wf ⟨false, 0, n⟩) :
    Calls Tryz.prog 124 #[.int .i64 k, .string s] w fun e w' => e = .returned (.tuple #[WI.v ⟨false, 0, n⟩, .int .i64 0]) ∧ Below w.heap.size w w' := by
  have hcs : c = 1 ∨ c = 2 ∨ c = 4 ∨ c = 8 := by have := kSize_set h1 h2; omega
  have hn' : leV (s.data.toList.take c) = n := by rw [List.take_of_length_le (by have : s.data.toList.length = s.size := rfl; omega)]; exact hn
  have hempty : s.extract c s.size = ⟨#[]⟩ := by rw [hs]; apply ByteArray.ext; rw [ByteArray.data_extract]; simp [hs]
  have hmx : s.size ≤ maxLen := by unfold maxLen; omega
  have HNUM := Lib.hid (fun rb w h => rNum_any rb s c w h hcs (by omega) hmx)
  rw [hn', hempty] at HNUM
  have HK := Lib.hid (kindB_true h1 h2)
  have HC := Lib.hid hc
  have HU := Lib.hid hu
  obtain ⟨q, hq⟩ : ∃ q, q = cmpF ⟨false, 0, n⟩ (greatW k) := ⟨_, rfl⟩
  have HQ := Lib.hid hq
  have HGT := Lib.hid (show decide (0 < q) = false by rw [hq, cmp_great]; simp; exact hg)
  have HF := Lib.hid hf
  have HWF := Lib.hid hwf
  have hb : Below w.heap.size w (w.alloc (.cells #[.bool false, .int .u64 0, .int .u64 0] 148)) := by go_grown
  have kr := heap_alloc_new w (.cells #[.bool false, .int .u64 0, .int .u64 0] 148)
  have HB := Lib.hid hb
  have HR := Lib.hid kr
  clear hb kr hc hs hn hu hg hq hf hwf hcs hn' hempty hmx
  go_enter Tryz.func124, Tryz.ntmps124
  go_wp2_with fail
  refine (isKind_any _ _).mono ?_
  rintro e w1 ⟨rfl, rfl⟩
  rw [HK.out]
  go_wp2_with fail
  refine (size_any _ _).mono ?_
  rintro e w1 ⟨rfl, hb1⟩
  rw [HC.out]
  have HR1 := Lib.hid (keep hb1 HR.out)
  have HB1 := Lib.hid (HB.out.trans (hb1.mono HB.out.size))
  clear hb1
  go_wp2_with fail
  refine (read_any _ _).mono ?_
  rintro e w2 ⟨rfl, rfl⟩
  have HX2 := Lib.hid (heap_alloc_new w1 (.cells #[.string s, .bool false] 261))
  have HR2 := Lib.hid (keepA (.cells #[.string s, .bool false] 261) HR1.out)
  have HB2 := Lib.hid (HB1.out.alloc HB1.out.size (.cells #[.string s, .bool false] 261))
  generalize w1.alloc (.cells #[.string s, .bool false] 261) = w2 at *
  have hrb : w.heap.size < w1.heap.size := by have := lt_some HR1.out; omega
  generalize w1.heap.size = rb at *
  go_wp2_with fail
  refine (HNUM.out rb w2 HX2.out).mono ?_
  rintro e w3 ⟨rfl, hx3, ho3⟩
  have HX3 := Lib.hid hx3
  have HR3 := Lib.hid ((ho3.block _ (by omega)).trans HR2.out)
  have HB3 := Lib.hid (HB2.out.trans (ho3.below (by omega)))
  clear hx3 ho3
  go_wp2_with fail
  refine (wofword_any _ _).mono ?_
  rintro e w4 ⟨rfl, hb4⟩
  dsimp only [WI.v]
  go_wp2_with fail
  have hs4 : rb < w4.heap.size := lt_some (keep hb4 HX3.out)
  have HN5 := Lib.hid (heap_alloc_new w4 (.cells #[.bool false, .int .u64 0, .int .u64 (n : Int)] 148))
  have HR5 := Lib.hid (keepA (.cells #[.bool false, .int .u64 0, .int .u64 (n : Int)] 148) (keep hb4 HR3.out))
  have HX5 := Lib.hid (keepA (.cells #[.bool false, .int .u64 0, .int .u64 (n : Int)] 148) (keep hb4 HX3.out))
  have HB4 := HB3.out.trans (hb4.mono HB3.out.size)
  have HB5 := Lib.hid (HB4.alloc HB4.size (.cells #[.bool false, .int .u64 0, .int .u64 (n : Int)] 148))
  clear hb4 HB4
  generalize w4.alloc (.cells #[.bool false, .int .u64 0, .int .u64 (n : Int)] 148) = w5 at *
  generalize w4.heap.size = xb at *
  have HFL := Lib.hid (fun s => fldShape s (kSize k) (kSig k))
  rw [HU.out] at HFL
  refine wp_region_frame (by kernel_rfl) (by kernel_rfl) (by kernel_rfl) (byList (get_si k n q false)) (lasts_list (get_si_lasts k n q false)) ?_ ?_
  · intro vs w' iq o A F hb ho hd
    have m0 : A.tmps[0]?.getD undef = (.int .i64 k) := F.m (by kernel_rfl) rfl
    have m8 : A.tmps[8]?.getD undef = (.pointer (some ⟨xb, 0, none⟩)) := F.m (by kernel_rfl) rfl
    have G := F.light (n := 57) (by kernel_rfl)
    clear F
    have hn6 := keep hb HN5.out
    have z0 := cell_at hn6 0
    have z1 := cell_at hn6 1
    have z2 := cell_at hn6 2
    simp at z0 z1 z2
    clear hb hn6
    revert ho hd
    match iq with
    | 0 =>
      intro ho hd
      obtain rfl := (Option.some.inj ho).symm
      clear hd ho
      refine step_open rfl ?_
      clear G
      exact step_run (v := (.int .i64 k)) (by go_simp) rfl
    | 1 =>
      intro ho hd
      obtain rfl := (Option.some.inj ho).symm
      have d0 : vs 0 = (.int .i64 k) := hd ⟨0, .data⟩ (by simp) rfl
      clear hd ho
      have h21 := G.h (j := 0) (d := 21) rfl (by decide) d0
      refine step_open rfl ?_
      clear G
      go_simp
      refine (of_named _ _ h1 h2).mono ?_
      rintro e w2 ⟨rfl, hb2⟩
      rw [HU.out]
      exact ⟨_, rfl, rfl, hb2⟩
    | 2 =>
      intro ho hd
      obtain rfl := (Option.some.inj ho).symm
      have d1 : vs 1 = (.agg #[.string (kNm k), .int .i64 (kSize k), .bool true]) := hd ⟨1, .data⟩ (by simp) rfl
      clear hd ho
      have h22 := G.h (j := 1) (d := 22) rfl (by decide) d1
      refine step_open rfl ?_
      clear G
      have hfld := HFL.out (kNm k)
      exact step_run (v := (.bool true)) (by go_simp) rfl
    | 3 =>
      intro ho hd
      obtain rfl := (Option.some.inj ho).symm
      have d2 : vs 2 = (.bool true) := hd ⟨2, .data⟩ (by simp) rfl
      clear hd ho
      have h23 := G.h (j := 2) (d := 23) rfl (by decide) d2
      refine step_open rfl ?_
      clear G
      exact step_run (v := (.bool true)) (by go_simp) rfl
    | 4 =>
      intro ho hd
      obtain rfl := (Option.some.inj ho).symm
      have d3 : vs 3 = (.bool true) := hd ⟨3, .guard⟩ (by simp) rfl
      clear hd ho
      refine step_yes G rfl rfl (by decide) d3 ?_
      clear G
      exact step_run (v := (.agg #[.bool false, .int .u64 0, .int .u64 (n : Int)])) (by go_simp) rfl
    | 5 =>
      intro ho hd
      obtain rfl := (Option.some.inj ho).symm
      have d3 : vs 3 = (.bool true) := hd ⟨3, .guard⟩ (by simp) rfl
      clear hd ho
      refine step_yes G rfl rfl (by decide) d3 ?_
      clear G
      exact step_run (v := (.int .i64 k)) (by go_simp) rfl
    | 6 =>
      intro ho hd
      obtain rfl := (Option.some.inj ho).symm
      have d5 : vs 5 = (.int .i64 k) := hd ⟨5, .data⟩ (by simp) rfl
      have d3 : vs 3 = (.bool true) := hd ⟨3, .guard⟩ (by simp) rfl
      clear hd ho
      have h26 := G.h (j := 5) (d := 26) rfl (by decide) d5
      refine step_yes G rfl rfl (by decide) d3 ?_
      clear G
      go_simp
      refine (greatest_any k _ h1 h2).mono ?_
      rintro e w2 ⟨rfl, hb2⟩
      exact ⟨_, rfl, rfl, hb2⟩
    | 7 =>
      intro ho hd
      obtain rfl := (Option.some.inj ho).symm
      have d4 : vs 4 = (.agg #[.bool false, .int .u64 0, .int .u64 (n : Int)]) := hd ⟨4, .data⟩ (by simp) rfl
      have d6 : vs 6 = (.agg #[.bool false, .int .u64 0, .int .u64 (kMax k)]) := hd ⟨6, .data⟩ (by simp) rfl
      have d3 : vs 3 = (.bool true) := hd ⟨3, .guard⟩ (by simp) rfl
      clear hd ho
      have h25 := G.h (j := 4) (d := 25) rfl (by decide) d4
      have h27 := G.h (j := 6) (d := 27) rfl (by decide) d6
      refine step_yes G rfl rfl (by decide) d3 ?_
      clear G
      go_simp
      refine (wcmp_any ⟨false, 0, n⟩ (greatW k) _ HWF.out (greatW_wf k)).mono ?_
      rintro e w2 ⟨rfl, hb2⟩
      rw [← HQ.out]
      exact ⟨_, rfl, rfl, hb2⟩
    | 8 =>
      intro ho hd
      obtain rfl := (Option.some.inj ho).symm
      have d7 : vs 7 = (.int .i64 q) := hd ⟨7, .data⟩ (by simp) rfl
      have d3 : vs 3 = (.bool true) := hd ⟨3, .guard⟩ (by simp) rfl
      clear hd ho
      have h28 := G.h (j := 7) (d := 28) rfl (by decide) d7
      refine step_yes G rfl rfl (by decide) d3 ?_
      clear G
      have hgt := HGT.out
      exact step_run (v := (.bool false)) (by go_simp) rfl
    | 9 =>
      intro ho hd
      obtain rfl := (Option.some.inj ho).symm
      have d3 : vs 3 = (.bool true) := hd ⟨3, .data⟩ (by simp) rfl
      have d8 : vs 8 = (.bool false) := hd ⟨8, .data⟩ (by simp) rfl
      clear hd ho
      have h24 := G.h (j := 3) (d := 24) rfl (by decide) d3
      have h29 := G.h (j := 8) (d := 29) rfl (by decide) d8
      refine step_open rfl ?_
      clear G
      exact step_run (v := (.bool false)) (by go_simp) rfl
    | n + 10 =>
      intro ho hd
      simp at ho
  intro vs w6 hb hR
  have hv : vs 9 = .bool false := hR 9 (by simp)
  have HX6 := Lib.hid (keep hb HX5.out)
  have HR6 := Lib.hid (keep hb HR5.out)
  have HN6 := Lib.hid (keep hb HN5.out)
  have HB6 := Lib.hid (HB5.out.trans (hb.mono HB5.out.size))
  simp only [putAll, Act.put, List.setIfInBounds_toArray, List.set_cons_succ, List.set_cons_zero]
  rw [hv]
  generalize vs 0 = y0
  generalize vs (0 + 1) = y1
  generalize vs (0 + 1 + 1) = y2
  generalize vs (0 + 1 + 1 + 1) = y3
  generalize vs (0 + 1 + 1 + 1 + 1) = y4
  generalize vs (0 + 1 + 1 + 1 + 1 + 1) = y5
  generalize vs (0 + 1 + 1 + 1 + 1 + 1 + 1) = y6
  generalize vs (0 + 1 + 1 + 1 + 1 + 1 + 1 + 1) = y7
  generalize vs (0 + 1 + 1 + 1 + 1 + 1 + 1 + 1 + 1) = y8
  clear hR hb hv
  have n0 := cell_at HN6.out 0
  have n1 := cell_at HN6.out 1
  have n2 := cell_at HN6.out 2
  simp at n0 n1 n2
  go_wp2_with fail
  refine (rDone_any rb _ _ HX6.out rfl).mono ?_
  rintro e w7 ⟨rfl, rfl⟩
  go_wp2_with fail
  refine (fits_any k ⟨false, 0, n⟩ _ HWF.out).mono ?_
  rintro e w7 ⟨rfl, hb7⟩
  rw [HF.out]
  have hn7 := keep hb7 HN6.out
  have hr7 := keep hb7 HR6.out
  have HB7 := Lib.hid (HB6.out.trans (hb7.mono HB6.out.size))
  have a0 := cell_at hn7 0
  have a1 := cell_at hn7 1
  have a2 := cell_at hn7 2
  have g0 := free_at hr7 0
  have g1 := free_at hr7 1
  have g2 := free_at hr7 2
  have q0 := cell_at hr7 0
  have q1 := cell_at hr7 1
  have q2 := cell_at hr7 2
  simp at a0 a1 a2 q0 q1 q2
  clear hb7
  go_wp2_with fail
  refine bodyPost_ret (v := .tuple #[.agg #[.bool false, .int .u64 0, .int .u64 (n : Int)], .int .i64 0]) (by simp [results, Tryz.results124, go_sem, q0, q1, q2]) rfl ?_
  exact ⟨rfl, ((HB7.out.setCell (by simp) _).setCell (by simp) _).setCell (by simp) _⟩
end Go.Proofs.YtoadihebdaooaaaGreat
