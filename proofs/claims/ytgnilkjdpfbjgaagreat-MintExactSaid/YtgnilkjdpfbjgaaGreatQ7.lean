/- A schema as bytes: scode.comp, scode.Encode. · A formula of one instruction as bytes: expr.isIns, args, Check, isPlain, encode, Encode. -/
import Derived.Test.YtgnilkjdpfbjgaaGreatQ6
namespace Go.Proofs.YtgnilkjdpfbjgaaGreat
open Go.RowKit
set_option linter.unusedVariables false
theorem notWk {cur : Array Value} {t : TypeId} {fz : Nat × Nat} (h1 : t ≠ 133) (h2 : t ≠ 5) : ¬ Wk (.cells cur t fz) := by
  rintro ⟨c, z, h | h⟩ <;> cases h
  · exact h1 rfl
  · exact h2 rfl
theorem wr_num1 {B b : Nat} {bs : List UInt8} {w : World} {x : Int} (h : WrS B b bs w) (h0 : 0 ≤ x) (h1 : x < 256) (hl : bs.length ≤ 100000) :
    Calls Tryz.prog 46 #[.pointer (some ⟨b, 0, none⟩), .int .i64 1, .int .u64 x] w fun e w' => e = .returned (.bool true) ∧ WrS B b (bs ++ leB x.toNat 1) w' ∧ WF B w w' := by
  have := wr_num (k := 1) (n := x.toNat) h (.inl rfl) (by omega) hl
  rw [Int.toNat_of_nonneg h0] at this
  exact this
theorem wr_num4 {B b : Nat} {bs : List UInt8} {w : World} {x : Int} (h : WrS B b bs w) (h0 : 0 ≤ x) (h1 : x < 4294967296) (hl : bs.length ≤ 100000) :
    Calls Tryz.prog 46 #[.pointer (some ⟨b, 0, none⟩), .int .i64 4, .int .u64 x] w fun e w' => e = .returned (.bool true) ∧ WrS B b (bs ++ leB x.toNat 4) w' ∧ WF B w w' := by
  have := wr_num (k := 4) (n := x.toNat) h (.inr (.inr (.inl rfl))) (by omega) hl
  rw [Int.toNat_of_nonneg h0] at this
  exact this
theorem wr_num8 {B b : Nat} {bs : List UInt8} {w : World} {x : Int} (h : WrS B b bs w) (h0 : 0 ≤ x) (h1 : x < 18446744073709551616) (hl : bs.length ≤ 100000) :
    Calls Tryz.prog 46 #[.pointer (some ⟨b, 0, none⟩), .int .i64 8, .int .u64 x] w fun e w' => e = .returned (.bool true) ∧ WrS B b (bs ++ leB x.toNat 8) w' ∧ WF B w w' := by
  have := wr_num (k := 8) (n := x.toNat) h (.inr (.inr (.inr rfl))) (by omega) hl
  rw [Int.toNat_of_nonneg h0] at this
  exact this
theorem nameB_len (s : ByteArray) : (nameB s).length = s.size + 1 := by
  unfold nameB
  rw [List.length_append, leB_len, Array.length_toList]
  show 1 + s.size = _
  omega
theorem fldBytes_len {f : Fld} (h : fldFit f = true) : (fldBytes f).length ≤ 258 := by
  unfold fldFit at h
  simp only [Bool.and_eq_true, decide_eq_true_eq] at h
  unfold fldBytes
  rw [List.length_append, List.length_append, nameB_len, leB_len, leB_len]
  omega
theorem flat_len_le {α β : Type} (f : α → List β) (m : Nat) : ∀ (l : List α), (∀ x ∈ l, (f x).length ≤ m) → (l.flatMap f).length ≤ l.length * m
  | [], _ => by simp
  | x :: r, h => by
    have ih := flat_len_le f m r fun y hy => h y (List.mem_cons_of_mem _ hy)
    have := h x List.mem_cons_self
    rw [List.flatMap_cons, List.length_append, List.length_cons, Nat.succ_mul]
    omega
theorem all_mem {α : Type} {p : α → Bool} {l : List α} (h : l.all p = true) {k : Nat} {x : α} (hx : l[k]? = some x) : p x = true := List.all_eq_true.1 h x (List.mem_of_getElem? hx)
theorem flat_snoc {α β : Type} (f : α → List β) {l : List α} {k : Nat} {x : α} (h : l[k]? = some x) : (l.take (k + 1)).flatMap f = (l.take k).flatMap f ++ f x := by
  rw [take_snoc h, List.flatMap_append]
  simp
set_option maxRecDepth 100000 in
set_option maxHeartbeats 1000000 in
theorem comp_any {B b : Nat} {bs : List UInt8} {w : World} (h : WrS B b bs w) (c : Cmp) (fa : Option Addr) (fl fc : Nat) (hF : FieldsAt B w fa fl c.fields) (hfit : cmpFit c = true) (hl : bs.length + (cmpBytes c).length ≤ 100000) :
    Calls Tryz.prog 75 #[.pointer (some ⟨b, 0, none⟩), .agg #[.int .i64 c.id, .string c.name, .slice fa fl fc]] w fun e w' => e = .returned (.tuple #[]) ∧ WrS B b (bs ++ cmpBytes c) w' ∧ WF B w w' := by
  obtain ⟨id, nm, fs⟩ := c
  unfold cmpFit at hfit
  simp only [Bool.and_eq_true, decide_eq_true_eq] at hfit
  obtain ⟨⟨⟨⟨i0, i1⟩, i2⟩, i3⟩, hall⟩ := hfit
  have hlen := hF.1
  have HB := h.size
  unfold cmpBytes at hl ⊢
  simp only [List.length_append, leB_len, nameB_len] at hl hlen ⊢
  subst hlen
  have H := Lib.hid h
  have HF := Lib.hid hF
  have HA := Lib.hid hall
  clear h hF hall
  go_enter Tryz.func75, Tryz.ntmps75
  go_wp2_with fail
  refine (wr_num1 (H.out.alloc _) i0 i1 (by omega)).mono ?_
  rintro e w1 ⟨rfl, h1, hf1⟩
  have hq1 := hf1.blk _ _ (heap_alloc_new w _) (notWk (by decide) (by decide))
  have F1 := ((WF.refl B w).alloc HB (.cells #[.int .i64 id, .string nm, .slice fa fs.length fc] 67)).trans hf1
  generalize hq : w.heap.size = q at *
  have q0 := cell_at hq1 1
  have q1 := cell_at hq1 2
  simp at q0 q1
  have H1 := Lib.hid h1
  have HF1 := Lib.hid F1
  clear h1 hf1 F1
  go_wp2_with fail
  refine (wr_name H1.out nm i2 (by simp [leB_len]; omega)).mono ?_
  rintro e w2 ⟨rfl, h2, hf2⟩
  have hq2 := hf2.blk _ _ hq1 (notWk (by decide) (by decide))
  have p1 := cell_at hq2 2
  simp at p1
  have H2 := Lib.hid h2
  have HF2 := Lib.hid (HF1.out.trans hf2)
  clear h2 hf2 hq1 q0 q1 H1 HF1
  go_wp2_with fail
  refine (wr_num1 H2.out (by omega) (by omega) (by simp [leB_len, nameB_len]; omega)).mono ?_
  rintro e w3 ⟨rfl, h3, hf3⟩
  have hq3 := hf3.blk _ _ hq2 (notWk (by decide) (by decide))
  have r1 := cell_at hq3 2
  simp at r1
  have H3 := Lib.hid h3
  have HF3 := Lib.hid (HF2.out.trans hf3)
  clear h3 hf3 hq2 p1 H2 HF2
  have HL : Hid (fs.length ≤ maxLen) := Lib.hid (by unfold maxLen; omega)
  go_wp2_with fail
  go_loopw [24] (fun i wr => ∃ (k : Nat), k ≤ fs.length ∧ i = .int .i64 k ∧ WrS B b (bs ++ leB id.toNat 1 ++ nameB nm ++ leB fs.length 1 ++ (fs.take k).flatMap fldBytes) wr ∧ WF B w wr) (fun i _ => fs.length - (intOf i).toNat)
  case atStart => exact ⟨0, Nat.zero_le _, rfl, by simpa using H3.out, HF3.out⟩
  case round =>
    obtain ⟨k, hk, rfl, hw, hf⟩ := hrel
    have hbr := hw.size
    by_cases hlt : k < fs.length
    · obtain ⟨fb, off, f, rfl, hB, hfk, c0, c1, c2⟩ := HF.out.get hf.bel hlt
      have hfit := all_mem HA.out hfk
      have hlf := Lib.hid (fldBytes_len hfit)
      have hsn := Lib.hid (flat_snoc fldBytes hfk)
      have hlt2 := Lib.hid (flat_take_len fldBytes fs k)
      have hlt3 := Lib.hid (flat_take_len fldBytes fs (k + 1))
      rw [hsn.out, List.length_append] at hlt3
      unfold fldFit at hfit
      simp only [Bool.and_eq_true, decide_eq_true_eq] at hfit
      obtain ⟨⟨⟨⟨f0, f1⟩, f2⟩, f3⟩, f4⟩ := hfit
      have HC := Lib.hid hsn.out
      go_wp2_with fail
      refine (wr_name (hw.alloc _) f.name f0 (by simp only [List.length_append, leB_len, nameB_len]; have := hlt2.out; omega)).mono ?_
      rintro e x1 ⟨rfl, h1, hf1⟩
      have hb1 := hf1.blk _ _ (heap_alloc_new wr _) (notWk (by decide) (by decide))
      have F1 := Lib.hid (((hf.alloc hbr (.cells #[.string f.name, .int .i64 f.kind, .int .i64 f.count] 64))).trans hf1)
      generalize hqr : wr.heap.size = qr at *
      have a1 := cell_at hb1 1
      simp at a1
      have H1 := Lib.hid h1
      clear h1 hf1 c0 c1 c2 hw hf
      go_wp2_with fail
      refine (wr_num1 H1.out f1 f2 (by have := hlt3.out; simp only [fldBytes, List.length_append, leB_len, nameB_len] at this ⊢; omega)).mono ?_
      rintro e x2 ⟨rfl, h2, hf2⟩
      have hb2 := hf2.blk _ _ hb1 (notWk (by decide) (by decide))
      have F2 := Lib.hid (F1.out.trans hf2)
      have a2 := cell_at hb2 2
      simp at a2
      have H2 := Lib.hid h2
      clear h2 hf2 hb1 a1 H1 F1
      go_wp2_with fail
      refine (wr_num1 H2.out f3 f4 (by have := hlt3.out; simp only [fldBytes, List.length_append, leB_len, nameB_len] at this ⊢; omega)).mono ?_
      rintro e x3 ⟨rfl, h3, hf3⟩
      have F3 := Lib.hid (F2.out.trans hf3)
      have H3' := Lib.hid h3
      clear h3 hf3 hb2 a2 H2 F2
      go_wp2
      go_roundw
      case rel =>
        refine ⟨k + 1, by omega, by go_num, ?_, F3.out⟩
        have := H3'.out
        rw [HC.out]
        simpa [fldBytes, List.append_assoc] using this
      case measure => simp [intOf]; omega
    · obtain rfl : k = fs.length := by omega
      have HW := Lib.hid hw
      clear hw
      go_wp2
      go_end0
      refine ⟨rfl, ?_, hf⟩
      have := HW.out
      rw [List.take_length] at this
      simpa [List.append_assoc] using this
theorem scFit_wf {cs : List Cmp} (h : scFit cs = true) : CompsWf cs := by
  unfold scFit at h
  simp only [Bool.and_eq_true, List.all_eq_true] at h
  intro c hc
  have := h.2 c hc
  unfold cmpFit at this
  simp only [Bool.and_eq_true, decide_eq_true_eq, List.all_eq_true] at this
  refine ⟨by unfold maxLen; omega, fun f hf => ?_⟩
  have := this.2 f hf
  unfold fldFit at this
  simp only [Bool.and_eq_true, decide_eq_true_eq] at this
  unfold maxLen
  omega
theorem schema_ver {ver : Int} {cs : List Cmp} (h : schemaCheck ver cs = 0) : 1 ≤ ver ∧ ver ≤ 1073741824 := by
  unfold schemaCheck at h
  split at h
  · cases h
  · omega
set_option maxRecDepth 100000 in
set_option maxHeartbeats 1000000 in
theorem scEncode_any {w : World} (ver : Int) (cs : List Cmp) (a : Option Addr) (len cap : Nat) (hcs : CompsAt w.heap.size w a len cs) (h0 : schemaCheck ver cs = 0) (hfit : scFit cs = true) (hl : (scBytes ver cs).length ≤ 100000) :
    Calls Tryz.prog 43 #[.agg #[.int .i64 ver, .slice a len cap]] w fun e w' => e = .returned (.tuple #[.string ⟨(scBytes ver cs).toArray⟩, .int .i64 0]) ∧ Below w.heap.size w w' := by
  obtain ⟨v0, v1⟩ := schema_ver h0
  have hwf := Lib.hid (scFit_wf hfit)
  have hlen := hcs.1
  subst hlen
  unfold scFit at hfit
  simp only [Bool.and_eq_true, decide_eq_true_eq] at hfit
  obtain ⟨i3, hall⟩ := hfit
  unfold scBytes at hl ⊢
  have HA := Lib.hid hall
  have HC := Lib.hid hcs
  have H0 := Lib.hid h0
  have HLL := Lib.hid hl
  clear hall hcs h0 hl
  go_enter Tryz.func43, Tryz.ntmps43
  go_wp2_with fail
  refine (schemaCheck_any ver cs a cs.length cap _ ((HC.out.below (by go_grown)).mono (by simp)) hwf.out).mono ?_
  rintro e w1 ⟨rfl, hb1⟩
  have hq1 := keep hb1 (heap_alloc_new w (.cells #[.int .i64 ver, .slice a cs.length cap] 25))
  have hbel1 : Below w.heap.size w w1 := ((Below.refl _ w).alloc (Nat.le_refl _) (.cells #[.int .i64 ver, .slice a cs.length cap] 25)).trans (hb1.mono (by simp))
  rw [H0.out]
  generalize hq : w.heap.size = q at *
  have q0 := cell_at hq1 0
  have q1 := cell_at hq1 1
  simp at q0 q1
  have hz1 := lt_some hq1
  go_wp2_with fail
  refine (wr_num1 (x := 83) (WrS.made w1) (by decide) (by decide) (by simp)).mono ?_
  rintro e w2 ⟨rfl, h2, hf2⟩
  have F2 := Lib.hid (((WF.refl w1.heap.size w1).alloc (Nat.le_refl _) (.cells #[.slice none 0 0] 133)).trans hf2)
  have hq2 := F2.out.blk _ _ hq1 (notWk (by decide) (by decide))
  have p0 := cell_at hq2 0
  have p1 := cell_at hq2 1
  simp at p0 p1
  have H2 := Lib.hid h2
  clear h2 hf2 q0 q1
  go_wp2_with fail
  refine (wr_num4 H2.out (by omega) (by omega) (by simp [leB_len])).mono ?_
  rintro e w3 ⟨rfl, h3, hf3⟩
  have F3 := Lib.hid (F2.out.trans hf3)
  have hq3 := F3.out.blk _ _ hq1 (notWk (by decide) (by decide))
  have r1 := cell_at hq3 1
  simp at r1
  have H3 := Lib.hid h3
  clear h3 hf3 hq2 p0 p1 H2 F2
  go_wp2_with fail
  refine (wr_num1 H3.out (by omega) (by omega) (by simp [leB_len])).mono ?_
  rintro e w4 ⟨rfl, h4, hf4⟩
  have F4 := Lib.hid (F3.out.trans hf4)
  have hq4 := F4.out.blk _ _ hq1 (notWk (by decide) (by decide))
  have s1 := cell_at hq4 1
  simp at s1
  have H4 := Lib.hid h4
  clear h4 hf4 hq3 r1 H3 F3
  have HL : Hid (cs.length ≤ maxLen) := Lib.hid (by unfold maxLen; omega)
  have HB1 := Lib.hid hbel1
  have HQ1 := Lib.hid hq1
  clear hbel1 hq1
  go_wp2_with fail
  go_loopw [31] (fun i wr => ∃ (k : Nat), k ≤ cs.length ∧ i = .int .i64 k ∧ WrS w1.heap.size w1.heap.size ([83] ++ leB ver.toNat 4 ++ leB cs.length 1 ++ (cs.take k).flatMap cmpBytes) wr ∧ WF w1.heap.size w1 wr) (fun i _ => cs.length - (intOf i).toNat)
  case atStart => exact ⟨0, Nat.zero_le _, rfl, by have := H4.out; simpa [leB] using this, F4.out⟩
  case round =>
    obtain ⟨k, hk, rfl, hw, hf⟩ := hrel
    have hbr := hw.size
    by_cases hlt : k < cs.length
    · have hbel := HB1.out.trans (hf.bel.mono (by omega))
      obtain ⟨fb, off, c, rfl, hB, hck, c0, c1, fa, fl, fc, c2, hF, _⟩ := HC.out.get hbel hlt
      have hfit := all_mem HA.out hck
      have hsn := Lib.hid (flat_snoc cmpBytes hck)
      have hlt3 := Lib.hid (flat_take_len cmpBytes cs (k + 1))
      rw [hsn.out, List.length_append] at hlt3
      have hF' := Lib.hid ((hF.mono (by omega : q ≤ w1.heap.size)).below ((Below.refl _ wr).alloc hbr (.cells #[.int .i64 c.id, .string c.name, .slice fa fl fc] 67)))
      clear hF hbel
      go_wp2_with fail
      refine (comp_any (hw.alloc _) c fa fl fc hF'.out hfit (by have := hlt3.out; have := HLL.out; simp only [List.length_append, leB_len, List.length_cons, List.length_nil] at *; omega)).mono ?_
      rintro e x1 ⟨rfl, h1, hf1⟩
      have F1 := Lib.hid ((hf.alloc hbr _).trans hf1)
      have H1 := Lib.hid h1
      clear h1 hf1 c0 c1 c2 hw hf
      go_wp2
      go_roundw
      case rel =>
        refine ⟨k + 1, by omega, by go_num, ?_, F1.out⟩
        have := H1.out
        rw [hsn.out]
        simpa [List.append_assoc] using this
      case measure => simp [intOf]; omega
    · obtain rfl : k = cs.length := by omega
      have HW := Lib.hid hw
      have HF := Lib.hid (HB1.out.trans (hf.bel.mono (by omega)))
      clear hw hf
      go_wp2_with fail
      refine (wr_string HW.out).mono ?_
      rintro e w5 ⟨rfl, rfl⟩
      go_wp2
      go_returns
      exact ⟨by simp, hq ▸ HF.out⟩
end Go.Proofs.YtgnilkjdpfbjgaaGreat
namespace Go.Proofs.YtgnilkjdpfbjgaaGreat
open Go.RowKit
set_option linter.unusedVariables false
/-- A formula as told data. -/
def insD (x : InsT) : List Dat := [.v (.int .i64 x.op), .v (.int .i64 x.a), .v (.int .i64 0), .v (.bool false), .v (.int .u64 0), .v (.int .u64 0)]
def codeD (x : InsT) : Dat := .r 1 (insD x)
def insV (x : InsT) : Value := .agg #[.int .i64 x.op, .int .i64 x.a, .int .i64 0, .bool false, .int .u64 0, .int .u64 0]
theorem at_v {w : World} {T : Nat → TypeId → Prop} {x u : Value} (h : At w T (.v x) u) : u = x := by unfold At at h; exact h
theorem code_at {w : World} {T : Nat → TypeId → Prop} {x : InsT} {u : Value} (h : At w T (codeD x) u) : ∃ q off c, u = .slice (some ⟨q, off, none⟩) 1 c ∧ 1 ≤ c ∧ c ≤ maxLen ∧ q < w.heap.size ∧ w.cell? ⟨q, off, none⟩ = some (.int .i64 x.op) ∧ w.cell? ⟨q, off + 1, none⟩ = some (.int .i64 x.a) ∧ w.cell? ⟨q, off + 2, none⟩ = some (.int .i64 0) ∧
    w.cell? ⟨q, off + 3, none⟩ = some (.bool false) ∧ w.cell? ⟨q, off + 4, none⟩ = some (.int .u64 0) ∧ w.cell? ⟨q, off + 5, none⟩ = some (.int .u64 0) := by
  obtain ⟨a, c, rfl, h1, h2, h3⟩ := At.row h
  obtain ⟨q, off, rfl, hq, hc⟩ := h3 (by simp [insD])
  refine ⟨q, off, c, rfl, h1, h2, hq, ?_, ?_, ?_, ?_, ?_, ?_⟩
  · obtain ⟨y, hy, hd⟩ := hc 0 _ rfl
    cases at_v hd; exact hy
  · obtain ⟨y, hy, hd⟩ := hc 1 _ rfl
    cases at_v hd; exact hy
  · obtain ⟨y, hy, hd⟩ := hc 2 _ rfl
    cases at_v hd; exact hy
  · obtain ⟨y, hy, hd⟩ := hc 3 _ rfl
    cases at_v hd; exact hy
  · obtain ⟨y, hy, hd⟩ := hc 4 _ rfl
    cases at_v hd; exact hy
  · obtain ⟨y, hy, hd⟩ := hc 5 _ rfl
    cases at_v hd; exact hy
theorem insOk_bd {x : InsT} (h : insOk x = true) : x.op = 3 ∧ 0 ≤ x.a ∧ x.a < 8 := by
  unfold insOk at h
  simp only [Bool.and_eq_true, decide_eq_true_eq] at h
  exact ⟨h.1.1, h.1.2, h.2⟩
set_option maxRecDepth 100000 in
theorem isIns_any (x : InsT) (w : World) (h : insOk x = true) : Calls Tryz.prog 141 #[insV x] w fun e w' => e = .returned (.bool true) ∧ Below w.heap.size w w' := by
  obtain ⟨op, a⟩ := x
  obtain ⟨rfl, h0, h1⟩ := insOk_bd h
  dsimp only at h0 h1
  unfold insV
  clear h
  have hmin : min a 0 = 0 := by omega
  have hmax : max a 0 = a := by omega
  go_enter Tryz.func141, Tryz.ntmps141
  go_wp2_with fail
  refine (wform_any ⟨false, 0, 0⟩ _ ⟨⟨by decide, by decide⟩, by decide, by decide⟩).mono ?_
  rintro e w1 ⟨rfl, hb1⟩
  have hq1 := keep hb1 (heap_alloc_new w _)
  have c1 := cell_at hq1 1
  have c2 := cell_at hq1 2
  simp at c1 c2
  have hf : WI.form ⟨false, 0, 0⟩ = true := by decide
  rw [hf]
  go_wp2
  all_goals
    go_ret
    exact ⟨rfl, ((Below.refl _ w).alloc (Nat.le_refl _) _).trans (hb1.mono (by simp))⟩
set_option maxRecDepth 100000 in
theorem exArgs_any (x : InsT) (w : World) (h : insOk x = true) : Calls Tryz.prog 142 #[insV x] w fun e w' => e = .returned (.int .i64 0) ∧ Below w.heap.size w w' := by
  obtain ⟨op, a⟩ := x
  obtain ⟨rfl, h0, h1⟩ := insOk_bd h
  unfold insV
  clear h
  go_enter Tryz.func142, Tryz.ntmps142
  go_wp2
  go_ret
  exact ⟨rfl, by go_grown⟩
set_option maxRecDepth 100000 in
theorem exIsPlain_any (x : InsT) (w : World) (h : insOk x = true) : Calls Tryz.prog 125 #[insV x] w fun e w' => e = .returned (.bool true) ∧ Below w.heap.size w w' := by
  obtain ⟨op, a⟩ := x
  obtain ⟨rfl, h0, h1⟩ := insOk_bd h
  unfold insV
  clear h
  go_enter Tryz.func125, Tryz.ntmps125
  go_wp2
  go_ret
  exact ⟨rfl, by go_grown⟩
set_option maxRecDepth 100000 in
theorem exEnc1_any (x : InsT) (w : World) (h : insOk x = true) : Calls Tryz.prog 124 #[insV x] w fun e w' => e = .returned (.bool false) ∧ Below w.heap.size w w' := by
  have hp := fun w => exIsPlain_any x w h
  unfold insV at *
  go_enter Tryz.func124, Tryz.ntmps124
  go_wp2_with fail
  refine (hp _).mono ?_
  rintro e w1 ⟨rfl, hb1⟩
  go_wp2
  go_ret
  exact ⟨rfl, ((Below.refl _ w).alloc (Nat.le_refl _) _).trans (hb1.mono (by simp))⟩
set_option maxRecDepth 100000 in
theorem ixIns_any (x : InsT) (w : World) (T : Nat → TypeId → Prop) (u : Value) (hu : At w T (codeD x) u) (h : insOk x = true) : Calls Tryz.prog 143 #[u, .func (.func 124) #[] #[]] w fun e w' => e = .returned (.int .i64 (-1)) ∧ Below w.heap.size w w' := by
  have hp := fun w => exEnc1_any x w h
  obtain ⟨q, off, c, rfl, _, _, hq, c0, c1, c2, c3, c4, c5⟩ := code_at hu
  unfold insV at *
  clear hu
  go_enter Tryz.func143, Tryz.ntmps143
  go_wp2_with fail
  go_loopw [8] (fun i wr => ∃ (k : Nat), k ≤ 1 ∧ i = .int .i64 k ∧ Below w.heap.size w wr) (fun i _ => 1 - (intOf i).toNat)
  case atStart => exact ⟨0, Nat.zero_le _, rfl, Below.refl _ _⟩
  case round =>
    obtain ⟨k, hk, rfl, hbw⟩ := hrel
    rcases (by omega : k = 0 ∨ k = 1) with rfl | rfl
    · have d := fun o => hbw.cell (p := ⟨q, o, none⟩) hq
      have d0 := (d _).trans c0
      have d1 := (d _).trans c1
      have d2 := (d _).trans c2
      have d3 := (d _).trans c3
      have d4 := (d _).trans c4
      have d5 := (d _).trans c5
      go_wp2_with fail
      refine (hp _).mono ?_
      rintro e w1 ⟨rfl, hb1⟩
      have hbel := hbw.trans (hb1.mono hbw.size)
      go_wp2
      go_roundw
      case rel => exact ⟨1, by omega, by go_num, hbel⟩
      case measure => simp [intOf]
    · go_wp2
      go_ret
      exact ⟨rfl, hbw⟩
set_option maxRecDepth 100000 in
theorem hasIns_any (x : InsT) (w : World) (T : Nat → TypeId → Prop) (u : Value) (hu : At w T (codeD x) u) (h : insOk x = true) : Calls Tryz.prog 123 #[u, .func (.func 124) #[] #[]] w fun e w' => e = .returned (.bool false) ∧ Below w.heap.size w w' := by
  go_enter Tryz.func123, Tryz.ntmps123
  go_wp2_with fail
  refine (ixIns_any x w T u hu h).mono ?_
  rintro e w1 ⟨rfl, hb1⟩
  go_wp2
  go_ret
  exact ⟨rfl, hb1⟩
set_option maxRecDepth 100000 in
set_option maxHeartbeats 1000000 in
theorem exCheck_any (x : InsT) (w : World) (T : Nat → TypeId → Prop) (u : Value) (hu : At w T (codeD x) u) (h : insOk x = true) : Calls Tryz.prog 122 #[u] w fun e w' => e = .returned (.int .i64 0) ∧ Below w.heap.size w w' := by
  have hi := fun w => isIns_any x w h
  have ha := fun w => exArgs_any x w h
  obtain ⟨q, off, c, rfl, _, _, hq, c0, c1, c2, c3, c4, c5⟩ := code_at hu
  unfold insV at *
  clear hu
  go_enter Tryz.func122, Tryz.ntmps122
  go_wp2_with fail
  go_loopw [3, 11] (fun n i wr => ∃ (k : Nat), k ≤ 1 ∧ i = .int .i64 k ∧ n = .int .i64 k ∧ Below w.heap.size w wr) (fun _ i _ => 1 - (intOf i).toNat)
  case atStart => exact ⟨0, Nat.zero_le _, rfl, rfl, Below.refl _ _⟩
  case round =>
    obtain ⟨k, hk, rfl, rfl, hbw⟩ := hrel
    rcases (by omega : k = 0 ∨ k = 1) with rfl | rfl
    · have d := fun o => hbw.cell (p := ⟨q, o, none⟩) hq
      have d0 := (d _).trans c0
      have d1 := (d _).trans c1
      have d2 := (d _).trans c2
      have d3 := (d _).trans c3
      have d4 := (d _).trans c4
      have d5 := (d _).trans c5
      clear d
      go_wp2_with fail
      refine (hi _).mono ?_
      rintro e w1 ⟨rfl, hb1⟩
      have hq1 := keep hb1 (heap_alloc_new wr _)
      have hbel1 := (hbw.alloc hbw.size (.cells #[.int .i64 x.op, .int .i64 x.a, .int .i64 0, .bool false, .int .u64 0, .int .u64 0] 207)).trans (hb1.mono (by have := hbw.size; simp; omega))
      generalize hqr : wr.heap.size = qr at *
      have e0 := cell_at hq1 0
      have e1 := cell_at hq1 1
      have e2 := cell_at hq1 2
      have e3 := cell_at hq1 3
      have e4 := cell_at hq1 4
      have e5 := cell_at hq1 5
      simp at e0 e1 e2 e3 e4 e5
      clear d0 d1 d2 d3 d4 d5 c0 c1 c2 c3 c4 c5 hb1
      go_wp2_with fail
      refine (ha _).mono ?_
      rintro e w2 ⟨rfl, hb2⟩
      have hq2 := keep hb2 hq1
      have hbel2 := hbel1.trans (hb2.mono hbel1.size)
      have f0 := cell_at hq2 0
      have f1 := cell_at hq2 1
      have f2 := cell_at hq2 2
      have f3 := cell_at hq2 3
      have f4 := cell_at hq2 4
      have f5 := cell_at hq2 5
      simp at f0 f1 f2 f3 f4 f5
      clear e0 e1 e2 e3 e4 e5 hb2 hq1 hbel1
      go_wp2_with fail
      refine (ha _).mono ?_
      rintro e w3 ⟨rfl, hb3⟩
      have hbel3 := hbel2.trans (hb3.mono hbel2.size)
      clear hbel2 hb3 f0 f1 f2 f3 f4 f5 hq2
      go_wp2
      go_roundw
      case rel => exact ⟨1, by omega, by go_num, by go_num, hbel3⟩
      case measure => simp [intOf]
    · go_wp2
      go_ret
      exact ⟨rfl, hbw⟩
set_option maxRecDepth 100000 in
theorem exenc_any {B b : Nat} {bs : List UInt8} {w : World} (hw : WrS B b bs w) (x : InsT) (h : insOk x = true) (hl : bs.length ≤ 90000) : Calls Tryz.prog 126 #[.pointer (some ⟨b, 0, none⟩), insV x] w fun e w' => e = .returned (.tuple #[]) ∧ WrS B b (bs ++ insBytes x) w' ∧ WF B w w' := by
  obtain ⟨op, a⟩ := x
  obtain ⟨rfl, h0, h1⟩ := insOk_bd h
  dsimp only at h0 h1
  unfold insV insBytes
  dsimp only
  have hB := hw.size
  have H := Lib.hid hw
  clear h hw
  go_enter Tryz.func126, Tryz.ntmps126
  go_wp2_with fail
  refine (wr_num1 (x := 3) (H.out.alloc _) (by decide) (by decide) (by omega)).mono ?_
  rintro e w1 ⟨rfl, h1', hf1⟩
  have hq1 := hf1.blk _ _ (heap_alloc_new w _) (notWk (by decide) (by decide))
  have F1 := Lib.hid (((WF.refl B w).alloc hB _).trans hf1)
  have H1 := Lib.hid h1'
  have c0 := cell_at hq1 0
  have c1 := cell_at hq1 1
  simp at c0 c1
  clear hf1 h1'
  go_wp2_with fail
  refine (wr_num1 (x := a) H1.out h0 (by omega) (by rw [List.length_append, leB_len]; omega)).mono ?_
  rintro e w2 ⟨rfl, h2', hf2⟩
  have F2 := Lib.hid (F1.out.trans hf2)
  have H2 := Lib.hid h2'
  clear hf2 h2'
  go_wp2
  go_end0
  refine ⟨rfl, ?_, F2.out⟩
  have := H2.out
  simpa [List.append_assoc] using this
theorem codeBytes_len (x : InsT) : (codeBytes x).length = 3 := by
  unfold codeBytes insBytes
  simp only [List.length_append, leB_len]
set_option maxRecDepth 100000 in
set_option maxHeartbeats 1000000 in
theorem exEnc_any (x : InsT) (w : World) (T : Nat → TypeId → Prop) (u : Value) (hu : At w T (codeD x) u) (h : insOk x = true) : Calls Tryz.prog 107 #[u] w fun e w' => e = .returned (.tuple #[.string ⟨(codeBytes x).toArray⟩, .int .i64 0]) ∧ Below w.heap.size w w' := by
  have hk := exCheck_any x w T u hu h
  have hh := fun w' (hb : Below w.heap.size w w') => hasIns_any x w' T u (hu.below hb) h
  obtain ⟨q, off, c, rfl, _, _, hq, c0, c1, c2, c3, c4, c5⟩ := code_at hu
  clear hu
  go_enter Tryz.func107, Tryz.ntmps107
  go_wp2_with fail
  refine hk.mono ?_
  rintro e w1 ⟨rfl, hb1⟩
  go_wp2_with fail
  refine (hh _ hb1).mono ?_
  rintro e w2 ⟨rfl, hb2⟩
  have hbel2 := hb1.trans (hb2.mono hb1.size)
  clear hb1 hb2 hk hh
  go_wp2_with fail
  refine (wr_num1 (x := 1) (WrS.made w2) (by decide) (by decide) (by simp)).mono ?_
  rintro e w3 ⟨rfl, h3, hf3⟩
  have F3 := Lib.hid (((WF.refl w2.heap.size w2).alloc (Nat.le_refl _) (.cells #[.slice none 0 0] 133)).trans hf3)
  have H3 := Lib.hid h3
  have HB2 := Lib.hid hbel2
  clear h3 hf3 hbel2
  go_wp2_with fail
  go_loopw [24] (fun i wr => ∃ (k : Nat), k ≤ 1 ∧ i = .int .i64 k ∧ WrS w2.heap.size w2.heap.size (if k = 0 then leB 1 1 else codeBytes x) wr ∧ WF w2.heap.size w2 wr) (fun i _ => 1 - (intOf i).toNat)
  case atStart => exact ⟨0, Nat.zero_le _, rfl, by have := H3.out; simpa using this, F3.out⟩
  case round =>
    obtain ⟨k, hk, rfl, hw, hf⟩ := hrel
    have hbw := HB2.out.trans (hf.bel.mono HB2.out.size)
    rcases (by omega : k = 0 ∨ k = 1) with rfl | rfl
    · have hen := fun w (hw : WrS w2.heap.size w2.heap.size (leB 1 1) w) => exenc_any hw x h (by simp [leB])
      rw [if_pos rfl] at hw
      have hzr := hw.size
      have d := fun o => hbw.cell (p := ⟨q, o, none⟩) hq
      have d0 := (d _).trans c0
      have d1 := (d _).trans c1
      have d2 := (d _).trans c2
      have d3 := (d _).trans c3
      have d4 := (d _).trans c4
      have d5 := (d _).trans c5
      clear d
      unfold insV at hen
      have HE := Lib.hid (hen _ (hw.alloc (.cells #[.int .i64 x.op, .int .i64 x.a, .int .i64 0, .bool false, .int .u64 0, .int .u64 0] 207)))
      clear hen hw
      go_wp2_with fail
      refine HE.out.mono ?_
      rintro e w4 ⟨rfl, h4, hf4⟩
      have F4 := Lib.hid ((hf.alloc hzr _).trans hf4)
      have H4 := Lib.hid h4
      clear h4 hf4 hf hbw
      go_wp2
      go_roundw
      case rel => exact ⟨1, by omega, by go_num, by simpa [codeBytes] using H4.out, F4.out⟩
      case measure => simp [intOf]
    · rw [if_neg (by decide)] at hw
      have HW := Lib.hid hw
      clear hw
      go_wp2_with fail
      refine (wr_string HW.out).mono ?_
      rintro e w5 ⟨rfl, rfl⟩
      go_wp2
      go_returns
      exact ⟨rfl, hbw⟩
end Go.Proofs.YtgnilkjdpfbjgaaGreat
