/- Rules as bytes: rule.isVersion, Rule.check, Check, encode, Encode. · Systems as bytes, the first part: craft.rows, of, isCode, isOp. · Systems as bytes: craft.of, isCode, isOp. ·  -/
import Derived.Test.YtgnilkjdpfbjgaaGreatQ7
import Derived.Deep.RegionWith
import Derived.Shelf.Strings.Search1
import Derived.Shelf.Strings.Search2
import Derived.Shelf.Strings.Search3
import Derived.Shelf.LaysM
import Derived.Shelf.Strings.Shaped
import Derived.Test.YtgnilkjdpfbjgaaGreatProg
namespace Go.Proofs.YtgnilkjdpfbjgaaGreat
open Go.RowKit
set_option linter.unusedVariables false
/-- A told row, element by element. -/
theorem row_at {α : Type} (f : α → List Dat) (s : Nat) (hs : ∀ x, (f x).length = s) (h0 : 0 < s) {w : World} {T : Nat → TypeId → Prop} {l : List α} {u : Value} (h : At w T (.r l.length (l.flatMap f)) u) :
    ∃ a c, u = .slice a l.length c ∧ l.length ≤ c ∧ c ≤ maxLen ∧ ∀ k x, l[k]? = some x → ∃ q off, a = some ⟨q, off, none⟩ ∧ q < w.heap.size ∧ ∀ j d, (f x)[j]? = some d → ∃ v, w.cell? ⟨q, off + k * s + j, none⟩ = some v ∧ At w T d v := by
  obtain ⟨a, c, rfl, h1, h2, h3⟩ := h.row
  refine ⟨a, c, rfl, h1, h2, fun k x hx => ?_⟩
  have hfa := flat_at f s hs l k x hx
  obtain ⟨q, off, rfl, hq, hc⟩ := h3 (by
    have h2 := hfa 0 h0
    have h3 := (List.getElem?_eq_some_iff.1 (h2.trans (List.getElem?_eq_getElem (by rw [hs]; exact h0)))).1
    omega)
  refine ⟨q, off, rfl, hq, fun j d hd => ?_⟩
  have hj : j < s := by rw [← hs x]; exact (List.getElem?_eq_some_iff.1 hd).1
  obtain ⟨v, hv, hA⟩ := hc (k * s + j) d ((hfa j hj).trans hd)
  exact ⟨v, by rw [Nat.add_assoc]; exact hv, hA⟩
theorem row1_at {α : Type} (f : α → Dat) {w : World} {T : Nat → TypeId → Prop} {l : List α} {u : Value} (h : At w T (.r l.length (l.map f)) u) :
    ∃ a c, u = .slice a l.length c ∧ l.length ≤ c ∧ c ≤ maxLen ∧ ∀ k x, l[k]? = some x → ∃ q off v, a = some ⟨q, off, none⟩ ∧ q < w.heap.size ∧ w.cell? ⟨q, off + k, none⟩ = some v ∧ At w T (f x) v := by
  obtain ⟨a, c, rfl, h1, h2, h3⟩ := h.row
  refine ⟨a, c, rfl, h1, h2, fun k x hx => ?_⟩
  have hk := (List.getElem?_eq_some_iff.1 hx).1
  obtain ⟨q, off, rfl, hq, hc⟩ := h3 (by simp; omega)
  obtain ⟨v, hv, hA⟩ := hc k (f x) (by rw [List.getElem?_map, hx]; rfl)
  exact ⟨q, off, v, rfl, hq, hv, hA⟩
/-- Rules as told data. -/
def exsD (l : List InsT) : Dat := .r l.length (l.map codeD)
def ruD (r : RuT) : List Dat := [.v (.int .i64 r.nw), .v (.int .i64 r.old), exsD r.ex]
def rusD (rs : List RuT) : Dat := .r rs.length (rs.flatMap ruD)
set_option maxRecDepth 100000 in
theorem ruIsVer_any (v : Int) (w : World) (h0 : 1 ≤ v) (h1 : v ≤ 1073741824) : Calls Tryz.prog 105 #[.int .i64 v] w fun e w' => e = .returned (.bool true) ∧ w = w' := by
  go_enter Tryz.func105, Tryz.ntmps105
  go_wp2
  go_ret
  exact ⟨rfl, rfl⟩
/-- A rule behind one of another id. -/
def ruOk (l : Int) (r : RuT) : Bool := decide (l < r.nw) && decide (r.nw ≤ 24) && decide (0 ≤ r.old) && decide (r.old ≤ 24) && (decide (r.old ≠ 0) || r.ex.isEmpty) && decide (r.ex.length ≤ 8) && r.ex.all insOk
set_option maxRecDepth 100000 in
set_option maxHeartbeats 1000000 in
theorem rucheck_any (r : RuT) (l : Int) (w : World) (T : Nat → TypeId → Prop) (u : Value) (hu : At w T (exsD r.ex) u) (h : ruOk l r = true) :
    Calls Tryz.prog 106 #[.agg #[.int .i64 r.nw, .int .i64 r.old, u], .int .i64 l] w fun e w' => e = .returned (.int .i64 0) ∧ Below w.heap.size w w' := by
  obtain ⟨nw, old, ex⟩ := r
  unfold ruOk at h
  simp only [Bool.and_eq_true, decide_eq_true_eq, Bool.or_eq_true, List.isEmpty_iff] at h
  obtain ⟨⟨⟨⟨⟨⟨g0, g1⟩, g2⟩, g3⟩, g4⟩, g5⟩, hall⟩ := h
  obtain ⟨a, c, rfl, _, _, hrow⟩ := row1_at codeD hu
  have hz : old = 0 → ex.length = 0 := fun h0 => by
    rcases g4 with g | g
    · exact absurd h0 g
    · rw [g]; rfl
  have HU := Lib.hid hu
  have HA := Lib.hid hall
  have HR := Lib.hid hrow
  clear hu hall g4 hrow
  go_enter Tryz.func106, Tryz.ntmps106
  go_wp2_with fail
  all_goals
    go_loopw [47] (fun i wr => ∃ (k : Nat), k ≤ ex.length ∧ i = .int .i64 k ∧ Below w.heap.size w wr) (fun i _ => ex.length - (intOf i).toNat)
    case atStart => exact ⟨0, Nat.zero_le _, rfl, by go_grown⟩
    case round =>
      obtain ⟨k, hk, rfl, hbw⟩ := hrel
      by_cases hlt : k < ex.length
      · obtain ⟨q, off, v, rfl, hq, hv, hA⟩ := HR.out k _ (List.getElem?_eq_getElem hlt)
        have hv' := (hbw.cell (p := ⟨q, off + k, none⟩) hq).trans hv
        have hio := all_mem HA.out (List.getElem?_eq_getElem hlt)
        have HV := Lib.hid (hA.below hbw)
        clear hv hA
        go_wp2_with fail
        all_goals
          refine (exEnc_any _ _ T v HV.out hio).mono ?_
          rintro e w1 ⟨rfl, hb1⟩
          have hbel := hbw.trans (hb1.mono hbw.size)
          go_wp2
          go_roundw
          case rel => exact ⟨k + 1, by omega, by go_num, hbel⟩
          case measure => simp [intOf]; omega
      · obtain rfl : k = ex.length := by omega
        go_wp2
        go_ret
        exact ⟨rfl, hbw⟩
set_option maxRecDepth 100000 in
set_option maxHeartbeats 1000000 in
theorem ruCheck_any (a b : Int) (rs : List RuT) (w : World) (T : Nat → TypeId → Prop) (u : Value) (hu : At w T (rusD rs) u) (h : rusOk 0 rs = true) (a0 : 1 ≤ a) (a1 : a ≤ 1073741824) (b0 : 1 ≤ b) (b1 : b ≤ 1073741824) :
    Calls Tryz.prog 76 #[.agg #[.int .i64 a, .int .i64 b, u]] w fun e w' => e = .returned (.int .i64 0) ∧ Below w.heap.size w w' := by
  obtain ⟨ra, c, rfl, hc0, hc1, hrow⟩ := row_at ruD 3 (fun _ => rfl) (by decide) hu
  have hmx : rs.length ≤ maxLen := by omega
  unfold maxLen at hmx
  have HR := Lib.hid hrow
  have HO := Lib.hid h
  clear hu hrow h
  go_enter Tryz.func76, Tryz.ntmps76
  go_wp2_with fail
  refine (ruIsVer_any a _ a0 a1).mono ?_
  rintro e w1 ⟨rfl, rfl⟩
  go_wp2_with fail
  refine (ruIsVer_any b _ b0 b1).mono ?_
  rintro e w1 ⟨rfl, rfl⟩
  go_wp2_with fail
  go_loopw [3, 20] (fun l i wr => ∃ (k : Nat) (x : Int), k ≤ rs.length ∧ i = .int .i64 k ∧ l = .int .i64 x ∧ rusOk x (rs.drop k) = true ∧ Below w.heap.size w wr) (fun _ i _ => rs.length - (intOf i).toNat)
  case atStart => exact ⟨0, 0, Nat.zero_le _, rfl, rfl, HO.out, by go_grown⟩
  case round =>
    obtain ⟨k, l, hk, rfl, rfl, hok, hbw⟩ := hrel
    by_cases hlt : k < rs.length
    · have hk' := List.getElem?_eq_getElem hlt
      generalize rs[k] = r at *
      obtain ⟨q, off, rfl, hq, hcell⟩ := HR.out k r hk'
      obtain ⟨v0, c0, e0⟩ := hcell 0 _ rfl
      obtain rfl := at_v e0
      obtain ⟨v1, c1, e1⟩ := hcell 1 _ rfl
      obtain rfl := at_v e1
      obtain ⟨v2, c2, e2⟩ := hcell 2 _ rfl
      have d0 := (hbw.cell (p := ⟨q, off + k * 3, none⟩) hq).trans c0
      have d1 := (hbw.cell (p := ⟨q, off + k * 3 + 1, none⟩) hq).trans c1
      have d2 := (hbw.cell (p := ⟨q, off + k * 3 + 2, none⟩) hq).trans c2
      rw [drop_get hk'] at hok
      have hok1 : ruOk l r = true ∧ rusOk r.nw (rs.drop (k + 1)) = true := by
        unfold rusOk at hok
        simp only [Bool.and_eq_true] at hok
        unfold ruOk
        simp only [Bool.and_eq_true]
        exact ⟨⟨⟨⟨⟨⟨⟨hok.1.1.1.1.1.1.1, hok.1.1.1.1.1.1.2⟩, hok.1.1.1.1.1.2⟩, hok.1.1.1.1.2⟩, hok.1.1.1.2⟩, hok.1.1.2⟩, hok.1.2⟩, hok.2⟩
      have HV := Lib.hid (e2.below hbw)
      have HK := Lib.hid hok1
      obtain ⟨ba, bl, bc, rfl⟩ : ∃ x y z, v2 = .slice x y z := by
        obtain ⟨xa, xc, hx, _⟩ := e2.row
        exact ⟨_, _, _, hx⟩
      clear hcell c0 c1 c2 e0 e1 e2 hok hok1
      go_wp2_with fail
      refine (rucheck_any r l _ T _ (HV.out.below ((Below.refl _ wr).alloc (Nat.le_refl _) _)) HK.out.1).mono ?_
      rintro e w1 ⟨rfl, hb1⟩
      have hq1 := keep hb1 (heap_alloc_new wr _)
      have hbel := (hbw.alloc hbw.size (.cells #[.int .i64 r.nw, .int .i64 r.old, .slice ba bl bc] 167)).trans (hb1.mono (by have := hbw.size; simp; omega))
      have f0 := cell_at hq1 0
      simp at f0
      clear hb1
      go_wp2
      go_roundw
      case rel => exact ⟨k + 1, _, by omega, by go_num, rfl, HK.out.2, hbel⟩
      case measure => simp [intOf]; omega
    · obtain rfl : k = rs.length := by omega
      go_wp2
      go_ret
      exact ⟨rfl, hbw⟩
theorem exs_len (l : List InsT) : (l.flatMap fun x => partB (codeBytes x)).length = l.length * 7 := by
  induction l with
  | nil => rfl
  | cons x r ih =>
    rw [List.flatMap_cons, List.length_append, ih, List.length_cons, Nat.succ_mul]
    unfold partB
    rw [List.length_append, leB_len, codeBytes_len]
    omega
theorem ruBytes_len (r : RuT) : (ruBytes r).length = 3 + r.ex.length * 7 := by
  unfold ruBytes
  simp only [List.length_append, leB_len, exs_len]
set_option maxRecDepth 100000 in
set_option maxHeartbeats 1000000 in
theorem ruenc_any {B b : Nat} {bs : List UInt8} {w : World} (hw : WrS B b bs w) (r : RuT) (l : Int) (T : Nat → TypeId → Prop) (u : Value) (hu : At w T (exsD r.ex) u) (hT : ∀ q t, T q t → t ≠ 133 ∧ t ≠ 5) (h : ruOk l r = true) (hl0 : 0 ≤ l) (hl : bs.length ≤ 50000) :
    Calls Tryz.prog 77 #[.pointer (some ⟨b, 0, none⟩), .agg #[.int .i64 r.nw, .int .i64 r.old, u]] w fun e w' => e = .returned (.tuple #[]) ∧ WrS B b (bs ++ ruBytes r) w' ∧ WF B w w' := by
  obtain ⟨nw, old, ex⟩ := r
  unfold ruOk at h
  simp only [Bool.and_eq_true, decide_eq_true_eq, Bool.or_eq_true, List.isEmpty_iff] at h
  obtain ⟨⟨⟨⟨⟨⟨g0, g1⟩, g2⟩, g3⟩, g4⟩, g5⟩, hall⟩ := h
  obtain ⟨a, c, rfl, _, _, hrow⟩ := row1_at codeD hu
  have hB := hw.size
  have hAt : ∀ w1, WF B w w1 → At w1 T (exsD ex) (.slice a ex.length c) := fun w1 hf => hu.kept (fun _ _ _ _ _ h => h) fun q cur t fz hq ht => hf.blk q _ hq (notWk (hT q t ht).1 (hT q t ht).2)
  unfold ruBytes
  dsimp only at g0 g1 g2 g3 g5 hall ⊢
  have HA := Lib.hid hall
  have HAt := Lib.hid hAt
  have HW := Lib.hid hw
  clear hu hall g4 hrow hw hAt
  go_enter Tryz.func77, Tryz.ntmps77
  go_wp2_with fail
  refine (wr_num1 (x := nw) (HW.out.alloc _) (by omega) (by omega) (by omega)).mono ?_
  rintro e w1 ⟨rfl, h1, hf1⟩
  have hq1 := hf1.blk _ _ (heap_alloc_new w _) (notWk (by decide) (by decide))
  have F1 := Lib.hid (((WF.refl B w).alloc hB _).trans hf1)
  have H1 := Lib.hid h1
  have c1 := cell_at hq1 1
  simp at c1
  clear hf1 h1
  go_wp2_with fail
  refine (wr_num1 (x := old) H1.out (by omega) (by omega) (by simp only [List.length_append, leB_len]; omega)).mono ?_
  rintro e w2 ⟨rfl, h2, hf2⟩
  have hq2 := hf2.blk _ _ hq1 (notWk (by decide) (by decide))
  have F2 := Lib.hid (F1.out.trans hf2)
  have H2 := Lib.hid h2
  have c2 := cell_at hq2 2
  simp at c2
  clear hf2 h2 H1 F1 hq1 c1
  go_wp2_with fail
  refine (wr_num1 (x := (ex.length : Int)) H2.out (by omega) (by omega) (by simp only [List.length_append, leB_len]; omega)).mono ?_
  rintro e w3 ⟨rfl, h3, hf3⟩
  have hq3 := hf3.blk _ _ hq2 (notWk (by decide) (by decide))
  have F3 := Lib.hid (F2.out.trans hf3)
  have H3 := Lib.hid h3
  have c3 := cell_at hq3 2
  simp at c3
  clear hf3 h3 H2 F2 hq2 c2
  go_wp2_with fail
  go_loopw [27] (fun i wr => ∃ (k : Nat), k ≤ ex.length ∧ i = .int .i64 k ∧ WrS B b (bs ++ leB nw.toNat 1 ++ leB old.toNat 1 ++ leB ex.length 1 ++ (ex.take k).flatMap (fun x => partB (codeBytes x))) wr ∧ WF B w wr) (fun i _ => ex.length - (intOf i).toNat)
  case atStart => exact ⟨0, Nat.zero_le _, rfl, by simpa using H3.out, F3.out⟩
  case round =>
    obtain ⟨k, hk, rfl, hw, hf⟩ := hrel
    by_cases hlt : k < ex.length
    · have hx := List.getElem?_eq_getElem hlt
      generalize ex[k] = x at *
      have hio := all_mem HA.out hx
      have hsn := Lib.hid (flat_snoc (fun x => partB (codeBytes x)) hx)
      obtain ⟨a', c', hac, _, _, hrow⟩ := row1_at codeD (HAt.out _ hf)
      cases hac
      obtain ⟨q, off, v, rfl, hq, hv, hA⟩ := hrow k _ hx
      have HV := Lib.hid hA
      have HW := Lib.hid hw
      clear hA hw hrow
      go_wp2_with fail
      refine (exEnc_any _ _ T v HV.out hio).mono ?_
      rintro e w4 ⟨rfl, hb4⟩
      have F4 := Lib.hid (hf.trans (WF.of hb4 HW.out.size))
      have H4 := Lib.hid (HW.out.below hb4)
      clear hb4 hf
      go_wp2_with fail
      refine (wr_part H4.out _ (by show (codeBytes x).toArray.size ≤ _; simp [codeBytes_len]) (by simp only [List.length_append, leB_len, exs_len, List.length_take]; omega)).mono ?_
      rintro e w5 ⟨rfl, h5, hf5⟩
      have F5 := Lib.hid (F4.out.trans hf5)
      have H5 := Lib.hid h5
      clear h5 hf5
      go_wp2
      go_roundw
      case rel =>
        refine ⟨k + 1, by omega, by go_num, ?_, F5.out⟩
        have := H5.out
        rw [hsn.out]
        simpa [List.append_assoc] using this
      case measure => simp [intOf]; omega
    · obtain rfl : k = ex.length := by omega
      have HW := Lib.hid hw
      clear hw
      go_wp2
      go_end0
      refine ⟨rfl, ?_, hf⟩
      have := HW.out
      rw [List.take_length] at this
      simpa [List.append_assoc] using this
theorem rusOk_get : ∀ {rs : List RuT} {l : Int}, 0 ≤ l → rusOk l rs = true → ∀ {k : Nat} {r : RuT}, rs[k]? = some r → ∃ m, 0 ≤ m ∧ ruOk m r = true
  | [], _, _, _, _, _, h => by simp at h
  | x :: rs, l, hl, h, k, r, hr => by
    unfold rusOk at h
    simp only [Bool.and_eq_true] at h
    have h1 : ruOk l x = true := by
      unfold ruOk
      simp only [Bool.and_eq_true]
      exact ⟨⟨⟨⟨⟨⟨h.1.1.1.1.1.1.1, h.1.1.1.1.1.1.2⟩, h.1.1.1.1.1.2⟩, h.1.1.1.1.2⟩, h.1.1.1.2⟩, h.1.1.2⟩, h.1.2⟩
    match k, hr with
    | 0, hr =>
      obtain rfl : x = r := by simpa using hr
      exact ⟨l, hl, h1⟩
    | k + 1, hr =>
      have hlt := h.1.1.1.1.1.1.1
      simp only [decide_eq_true_eq] at hlt
      exact rusOk_get (by omega) h.2 (k := k) (by simpa using hr)
set_option maxRecDepth 100000 in
set_option maxHeartbeats 1000000 in
theorem ruEnc_any (a b : Int) (rs : List RuT) (w : World) (T : Nat → TypeId → Prop) (u : Value) (hu : At w T (rusD rs) u) (hT : ∀ q t, T q t → t ≠ 133 ∧ t ≠ 5) (h : rusOk 0 rs = true) (hrs : rs.length ≤ 24) (a0 : 1 ≤ a) (a1 : a ≤ 1073741824) (b0 : 1 ≤ b) (b1 : b ≤ 1073741824) :
    Calls Tryz.prog 44 #[.agg #[.int .i64 a, .int .i64 b, u]] w fun e w' => e = .returned (.tuple #[.string ⟨(prBytes a b rs).toArray⟩, .int .i64 0]) ∧ Below w.heap.size w w' := by
  obtain ⟨ra, c, rfl, hc0, hc1, _⟩ := row_at ruD 3 (fun _ => rfl) (by decide) hu
  have HU := Lib.hid hu
  have HO := Lib.hid h
  clear hu h
  go_enter Tryz.func44, Tryz.ntmps44
  go_wp2_with fail
  refine (ruCheck_any a b rs _ T _ (HU.out.below (by go_grown)) HO.out a0 a1 b0 b1).mono ?_
  rintro e w1 ⟨rfl, hb1⟩
  have hq1 := keep hb1 (heap_alloc_new w _)
  have hbel1 := ((Below.refl _ w).alloc (Nat.le_refl _) (.cells #[.int .i64 a, .int .i64 b, .slice ra rs.length c] 93)).trans (hb1.mono (by simp))
  have HU1 := Lib.hid (HU.out.below hbel1)
  have HB1 := Lib.hid hbel1
  have HQ1 := Lib.hid hq1
  clear hb1 HU hbel1 hq1
  go_wp2_with fail
  refine (wr_num1 (x := 77) (WrS.made w1) (by decide) (by decide) (by simp)).mono ?_
  rintro e w2 ⟨rfl, h2, hf2⟩
  have F2 := Lib.hid (((WF.refl w1.heap.size w1).alloc (Nat.le_refl _) (.cells #[.slice none 0 0] 133)).trans hf2)
  have hq2 := F2.out.blk _ _ HQ1.out (notWk (by decide) (by decide))
  have p0 := cell_at hq2 0
  simp at p0
  have H2 := Lib.hid h2
  clear h2 hf2 hq2
  go_wp2_with fail
  refine (wr_num4 (x := a) H2.out (by omega) (by omega) (by simp [leB_len])).mono ?_
  rintro e w3 ⟨rfl, h3, hf3⟩
  have F3 := Lib.hid (F2.out.trans hf3)
  have hq3 := F3.out.blk _ _ HQ1.out (notWk (by decide) (by decide))
  have p1 := cell_at hq3 1
  simp at p1
  have H3 := Lib.hid h3
  clear h3 hf3 hq3 p0 H2 F2
  go_wp2_with fail
  refine (wr_num4 (x := b) H3.out (by omega) (by omega) (by simp [leB_len])).mono ?_
  rintro e w4 ⟨rfl, h4, hf4⟩
  have F4 := Lib.hid (F3.out.trans hf4)
  have hq4 := F4.out.blk _ _ HQ1.out (notWk (by decide) (by decide))
  have p2 := cell_at hq4 2
  simp at p2
  have H4 := Lib.hid h4
  clear h4 hf4 hq4 p1 H3 F3
  go_wp2_with fail
  refine (wr_num1 (x := (rs.length : Int)) H4.out (by omega) (by omega) (by simp [leB_len])).mono ?_
  rintro e w5 ⟨rfl, h5, hf5⟩
  have F5 := Lib.hid (F4.out.trans hf5)
  have hq5 := F5.out.blk _ _ HQ1.out (notWk (by decide) (by decide))
  have p2 := cell_at hq5 2
  simp at p2
  have H5 := Lib.hid h5
  clear h5 hf5 hq5 H4 F4
  go_wp2_with fail
  go_loopw [36] (fun i wr => ∃ (k : Nat), k ≤ rs.length ∧ i = .int .i64 k ∧ WrS w1.heap.size w1.heap.size ([77] ++ leB a.toNat 4 ++ leB b.toNat 4 ++ leB rs.length 1 ++ (rs.take k).flatMap ruBytes) wr ∧ WF w1.heap.size w1 wr) (fun i _ => rs.length - (intOf i).toNat)
  case atStart => exact ⟨0, Nat.zero_le _, rfl, by have := H5.out; simpa [leB] using this, F5.out⟩
  case round =>
    obtain ⟨k, hk, rfl, hw, hf⟩ := hrel
    by_cases hlt : k < rs.length
    · have hx := List.getElem?_eq_getElem hlt
      generalize rs[k] = r at *
      obtain ⟨m, hm0, hm⟩ := rusOk_get (Int.le_refl 0) HO.out hx
      have hsn := Lib.hid (flat_snoc ruBytes hx)
      have hAt := HU1.out.kept (w' := wr) (fun _ _ _ _ _ h => h) fun q cur t fz hq ht => hf.blk q _ hq (notWk (hT q t ht).1 (hT q t ht).2)
      obtain ⟨a', c', hac, _, _, hrow⟩ := row_at ruD 3 (fun _ => rfl) (by decide) hAt
      cases hac
      obtain ⟨q, off, rfl, hq, hcell⟩ := hrow k r hx
      obtain ⟨v0, c0, e0⟩ := hcell 0 _ rfl
      obtain rfl := at_v e0
      obtain ⟨v1, c1, e1⟩ := hcell 1 _ rfl
      obtain rfl := at_v e1
      obtain ⟨v2, c2, e2⟩ := hcell 2 _ rfl
      obtain ⟨ba, bl, bc, rfl⟩ : ∃ x y z, v2 = .slice x y z := by
        obtain ⟨xa, xc, hx, _⟩ := e2.row
        exact ⟨_, _, _, hx⟩
      replace c0 : wr.cell? ⟨q, off + k * 3, none⟩ = some (.int .i64 r.nw) := c0
      have HV := Lib.hid (e2.below ((Below.refl _ wr).alloc (Nat.le_refl _) (.cells #[.int .i64 r.nw, .int .i64 r.old, .slice ba bl bc] 167)))
      have HW := Lib.hid hw
      have hlen := flat_len_le ruBytes 59 (rs.take k) (fun x hx => by
        obtain ⟨j, hj⟩ := List.mem_iff_getElem?.1 (List.mem_of_mem_take hx)
        obtain ⟨m, _, hm⟩ := rusOk_get (Int.le_refl 0) HO.out hj
        unfold ruOk at hm
        simp only [Bool.and_eq_true, decide_eq_true_eq] at hm
        rw [ruBytes_len]
        omega)
      rw [List.length_take] at hlen
      clear hw hrow hcell e0 e1 e2 hAt
      go_wp2_with fail
      refine (ruenc_any (HW.out.alloc _) r m T _ HV.out hT hm hm0 (by simp only [List.length_append, leB_len, List.length_cons, List.length_nil]; omega)).mono ?_
      rintro e w6 ⟨rfl, h6, hf6⟩
      have F6 := Lib.hid ((hf.alloc HW.out.size _).trans hf6)
      have H6 := Lib.hid h6
      clear hf6 h6
      go_wp2
      go_roundw
      case rel =>
        refine ⟨k + 1, by omega, by go_num, ?_, F6.out⟩
        have := H6.out
        rw [hsn.out]
        simpa [List.append_assoc] using this
      case measure => simp [intOf]; omega
    · obtain rfl : k = rs.length := by omega
      have HW := Lib.hid hw
      have HF := Lib.hid (HB1.out.trans (hf.bel.mono HB1.out.size))
      clear hw hf
      go_wp2_with fail
      refine (wr_string HW.out).mono ?_
      rintro e w7 ⟨rfl, rfl⟩
      go_wp2
      go_returns
      exact ⟨by unfold prBytes; simp, HF.out⟩
end Go.Proofs.YtgnilkjdpfbjgaaGreat
namespace Go.Proofs.YtgnilkjdpfbjgaaGreat
open Go.RowKit
set_option linter.unusedVariables false
/-- The cells of the rows that are asked. -/
def crCell : Nat → Option Value
  | 4 => some (.string ⟨#[112, 117, 115, 104]⟩)
  | 5 => some (.string ⟨#[75]⟩)
  | 6 => some (.int .i64 0)
  | 7 => some (.int .i64 1)
  | 8 => some (.string ⟨#[108, 111, 97, 100]⟩)
  | 9 => some (.string ⟨#[65, 66, 67]⟩)
  | 10 => some (.int .i64 0)
  | 11 => some (.int .i64 1)
  | 12 => some (.string ⟨#[115, 116, 111, 114, 101]⟩)
  | 13 => some (.string ⟨#[65, 66, 67]⟩)
  | 14 => some (.int .i64 1)
  | 15 => some (.int .i64 0)
  | 16 => some (.string ⟨#[97, 100, 100]⟩)
  | 17 => some (.string ⟨#[]⟩)
  | 18 => some (.int .i64 2)
  | 19 => some (.int .i64 1)
  | _ => none
set_option maxRecDepth 100000 in
set_option maxHeartbeats 1000000 in
theorem crRows_any (w : World) : Calls Tryz.prog 153 #[] w fun e w' => e = .returned (.slice (some ⟨w.heap.size, 0, none⟩) 24 24) ∧ (∀ j u, crCell j = some u → w'.cell? ⟨w.heap.size, j, none⟩ = some u) ∧ Below w.heap.size w w' := by
  go_enter Tryz.func153, Tryz.ntmps153
  go_wp2_with fail
  go_returns
  refine ⟨rfl, ?_, by go_grown⟩
  intro j u h
  unfold crCell at h
  rw [cell_at (heap_alloc_new w _)]
  split at h <;> cases h <;> rfl
end Go.Proofs.YtgnilkjdpfbjgaaGreat
namespace Go.Proofs.YtgnilkjdpfbjgaaGreat
open Go.RowKit
set_option linter.unusedVariables false
/-- An instruction that can be. -/
def opOk (x : OpT) : Bool := (decide (x.code = 1) && decide (x.a = 0) && decide (x.b = 0) && decide (x.c = 0) && decide (0 ≤ x.k) && decide (x.k < 1000)) ||
  ((decide (x.code = 2) || decide (x.code = 3)) && decide (1 ≤ x.a) && decide (x.a ≤ 24) && decide (0 ≤ x.b) && decide (x.b ≤ 7) && decide (x.c = 0) && decide (x.k = 0)) ||
  (decide (x.code = 4) && decide (x.a = 0) && decide (x.b = 0) && decide (x.c = 0) && decide (x.k = 0))
theorem opOk_is {x : OpT} (h : opOk x = true) : (x.code = 1 ∧ x.a = 0 ∧ x.b = 0 ∧ x.c = 0 ∧ 0 ≤ x.k ∧ x.k < 1000) ∨ ((x.code = 2 ∨ x.code = 3) ∧ 1 ≤ x.a ∧ x.a ≤ 24 ∧ 0 ≤ x.b ∧ x.b ≤ 7 ∧ x.c = 0 ∧ x.k = 0) ∨ (x.code = 4 ∧ x.a = 0 ∧ x.b = 0 ∧ x.c = 0 ∧ x.k = 0) := by
  unfold opOk at h
  simp only [Bool.or_eq_true, Bool.and_eq_true, decide_eq_true_eq] at h
  omega
def opV (x : OpT) : Value := .agg #[.int .i64 x.code, .int .i64 x.a, .int .i64 x.b, .int .i64 x.c, .int .i64 x.k]
/-- An instruction's row. -/
def crV (c : Nat) : Value := .agg #[(crCell (c * 4)).getD undef, (crCell (c * 4 + 1)).getD undef, (crCell (c * 4 + 2)).getD undef, (crCell (c * 4 + 3)).getD undef]
set_option maxRecDepth 100000 in
theorem crIsCode_any (c : Int) (w : World) (h0 : 1 ≤ c) (h1 : c ≤ 4) : Calls Tryz.prog 146 #[.int .i64 c] w fun e w' => e = .returned (.bool true) ∧ w = w' := by
  go_enter Tryz.func146, Tryz.ntmps146
  have h2 : decide (c ≤ 23) = true := by simp; omega
  go_wp2
  go_ret
  exact ⟨rfl, rfl⟩
set_option maxRecDepth 100000 in
set_option maxHeartbeats 1000000 in
theorem crOf_1 (a b c k : Int) (w : World) : Calls Tryz.prog 147 #[.agg #[.int .i64 1, .int .i64 a, .int .i64 b, .int .i64 c, .int .i64 k]] w fun e w' => e = .returned (crV 1) ∧ Below w.heap.size w w' := by
  have hp := keepA (.cells #[.string ⟨#[]⟩, .string ⟨#[]⟩, .int .i64 0, .int .i64 0] 242) (heap_alloc_new w (.cells #[.int .i64 1, .int .i64 a, .int .i64 b, .int .i64 c, .int .i64 k] 83))
  have hr : ((w.alloc (.cells #[.int .i64 1, .int .i64 a, .int .i64 b, .int .i64 c, .int .i64 k] 83)).alloc (.cells #[.string ⟨#[]⟩, .string ⟨#[]⟩, .int .i64 0, .int .i64 0] 242)).heap[w.heap.size + 1]? = some (.cells #[.string ⟨#[]⟩, .string ⟨#[]⟩, .int .i64 0, .int .i64 0] 242 (0, 0)) := by
    simpa using heap_alloc_new (w.alloc (.cells #[.int .i64 1, .int .i64 a, .int .i64 b, .int .i64 c, .int .i64 k] 83)) (.cells #[.string ⟨#[]⟩, .string ⟨#[]⟩, .int .i64 0, .int .i64 0] 242)
  have HP := Lib.hid hp
  have HR := Lib.hid hr
  clear hp hr
  go_enter Tryz.func147, Tryz.ntmps147
  go_wp2_with fail
  refine (crIsCode_any 1 _ (by decide) (by decide)).mono ?_
  rintro e w1 ⟨rfl, rfl⟩
  go_wp2_with fail
  have HZ : Hid (((w.alloc (.cells #[.int .i64 1, .int .i64 a, .int .i64 b, .int .i64 c, .int .i64 k] 83)).alloc (.cells #[.string ⟨#[]⟩, .string ⟨#[]⟩, .int .i64 0, .int .i64 0] 242)).heap.size = w.heap.size + 2 ∧ Below w.heap.size w ((w.alloc (.cells #[.int .i64 1, .int .i64 a, .int .i64 b, .int .i64 c, .int .i64 k] 83)).alloc (.cells #[.string ⟨#[]⟩, .string ⟨#[]⟩, .int .i64 0, .int .i64 0] 242))) := Lib.hid ⟨by simp, by go_grown⟩
  generalize hW : (w.alloc (.cells #[.int .i64 1, .int .i64 a, .int .i64 b, .int .i64 c, .int .i64 k] 83)).alloc (.cells #[.string ⟨#[]⟩, .string ⟨#[]⟩, .int .i64 0, .int .i64 0] 242) = W at *
  clear hW
  have p0 := cell_at HP.out 0
  simp at p0
  have hzd : W.drew.heap.size = W.heap.size := rfl
  go_region_with (go_at_call 153; refine (crRows_any _).mono ?_; rintro e w2 ⟨rfl, hc, hb⟩; have hb' : Below W.heap.size W w2 := undrew hb; clear hb; rw [hzd] at hc ⊢; have HR2 := keep hb' HR.out; have r0 := cell_at HR2 0; have r1 := cell_at HR2 1; have r2 := cell_at HR2 2; have r3 := cell_at HR2 3; have f0 := free_at HR2 0; have f1 := free_at HR2 1; have f2 := free_at HR2 2; have f3 := free_at HR2 3; have P2 := keep hb' HP.out; have p0 := cell_at P2 0; have c4 := hc 4 _ rfl; have c5 := hc 5 _ rfl; have c6 := hc 6 _ rfl; have c7 := hc 7 _ rfl; simp at r0 r1 r2 r3 p0; have HB2 := Lib.hid hb'; clear hb' hc HR2 P2)
  all_goals
    have q0 := free_at HR.out 0
    go_wp2_with fail
    refine bodyPost_ret (v := crV 1) (by simp [results, Tryz.results147, go_sem, r0, r1, r2, r3]; rfl) rfl ?_
    exact ⟨rfl, ((((HZ.out.2.trans (HB2.out.mono (by rw [HZ.out.1]; omega))).setCell (by simp) _).setCell (by simp) _).setCell (by simp) _).setCell (by simp) _⟩
set_option maxRecDepth 100000 in
set_option maxHeartbeats 1000000 in
theorem crOf_2 (a b c k : Int) (w : World) : Calls Tryz.prog 147 #[.agg #[.int .i64 2, .int .i64 a, .int .i64 b, .int .i64 c, .int .i64 k]] w fun e w' => e = .returned (crV 2) ∧ Below w.heap.size w w' := by
  have hp := keepA (.cells #[.string ⟨#[]⟩, .string ⟨#[]⟩, .int .i64 0, .int .i64 0] 242) (heap_alloc_new w (.cells #[.int .i64 2, .int .i64 a, .int .i64 b, .int .i64 c, .int .i64 k] 83))
  have hr : ((w.alloc (.cells #[.int .i64 2, .int .i64 a, .int .i64 b, .int .i64 c, .int .i64 k] 83)).alloc (.cells #[.string ⟨#[]⟩, .string ⟨#[]⟩, .int .i64 0, .int .i64 0] 242)).heap[w.heap.size + 1]? = some (.cells #[.string ⟨#[]⟩, .string ⟨#[]⟩, .int .i64 0, .int .i64 0] 242 (0, 0)) := by
    simpa using heap_alloc_new (w.alloc (.cells #[.int .i64 2, .int .i64 a, .int .i64 b, .int .i64 c, .int .i64 k] 83)) (.cells #[.string ⟨#[]⟩, .string ⟨#[]⟩, .int .i64 0, .int .i64 0] 242)
  have HP := Lib.hid hp
  have HR := Lib.hid hr
  clear hp hr
  go_enter Tryz.func147, Tryz.ntmps147
  go_wp2_with fail
  refine (crIsCode_any 2 _ (by decide) (by decide)).mono ?_
  rintro e w1 ⟨rfl, rfl⟩
  go_wp2_with fail
  have HZ : Hid (((w.alloc (.cells #[.int .i64 2, .int .i64 a, .int .i64 b, .int .i64 c, .int .i64 k] 83)).alloc (.cells #[.string ⟨#[]⟩, .string ⟨#[]⟩, .int .i64 0, .int .i64 0] 242)).heap.size = w.heap.size + 2 ∧ Below w.heap.size w ((w.alloc (.cells #[.int .i64 2, .int .i64 a, .int .i64 b, .int .i64 c, .int .i64 k] 83)).alloc (.cells #[.string ⟨#[]⟩, .string ⟨#[]⟩, .int .i64 0, .int .i64 0] 242))) := Lib.hid ⟨by simp, by go_grown⟩
  generalize hW : (w.alloc (.cells #[.int .i64 2, .int .i64 a, .int .i64 b, .int .i64 c, .int .i64 k] 83)).alloc (.cells #[.string ⟨#[]⟩, .string ⟨#[]⟩, .int .i64 0, .int .i64 0] 242) = W at *
  clear hW
  have p0 := cell_at HP.out 0
  simp at p0
  have hzd : W.drew.heap.size = W.heap.size := rfl
  go_region_with (go_at_call 153; refine (crRows_any _).mono ?_; rintro e w2 ⟨rfl, hc, hb⟩; have hb' : Below W.heap.size W w2 := undrew hb; clear hb; rw [hzd] at hc ⊢; have HR2 := keep hb' HR.out; have r0 := cell_at HR2 0; have r1 := cell_at HR2 1; have r2 := cell_at HR2 2; have r3 := cell_at HR2 3; have f0 := free_at HR2 0; have f1 := free_at HR2 1; have f2 := free_at HR2 2; have f3 := free_at HR2 3; have P2 := keep hb' HP.out; have p0 := cell_at P2 0; have c4 := hc 8 _ rfl; have c5 := hc 9 _ rfl; have c6 := hc 10 _ rfl; have c7 := hc 11 _ rfl; simp at r0 r1 r2 r3 p0; have HB2 := Lib.hid hb'; clear hb' hc HR2 P2)
  all_goals
    have q0 := free_at HR.out 0
    go_wp2_with fail
    refine bodyPost_ret (v := crV 2) (by simp [results, Tryz.results147, go_sem, r0, r1, r2, r3]; rfl) rfl ?_
    exact ⟨rfl, ((((HZ.out.2.trans (HB2.out.mono (by rw [HZ.out.1]; omega))).setCell (by simp) _).setCell (by simp) _).setCell (by simp) _).setCell (by simp) _⟩
set_option maxRecDepth 100000 in
set_option maxHeartbeats 1000000 in
theorem crOf_3 (a b c k : Int) (w : World) : Calls Tryz.prog 147 #[.agg #[.int .i64 3, .int .i64 a, .int .i64 b, .int .i64 c, .int .i64 k]] w fun e w' => e = .returned (crV 3) ∧ Below w.heap.size w w' := by
  have hp := keepA (.cells #[.string ⟨#[]⟩, .string ⟨#[]⟩, .int .i64 0, .int .i64 0] 242) (heap_alloc_new w (.cells #[.int .i64 3, .int .i64 a, .int .i64 b, .int .i64 c, .int .i64 k] 83))
  have hr : ((w.alloc (.cells #[.int .i64 3, .int .i64 a, .int .i64 b, .int .i64 c, .int .i64 k] 83)).alloc (.cells #[.string ⟨#[]⟩, .string ⟨#[]⟩, .int .i64 0, .int .i64 0] 242)).heap[w.heap.size + 1]? = some (.cells #[.string ⟨#[]⟩, .string ⟨#[]⟩, .int .i64 0, .int .i64 0] 242 (0, 0)) := by
    simpa using heap_alloc_new (w.alloc (.cells #[.int .i64 3, .int .i64 a, .int .i64 b, .int .i64 c, .int .i64 k] 83)) (.cells #[.string ⟨#[]⟩, .string ⟨#[]⟩, .int .i64 0, .int .i64 0] 242)
  have HP := Lib.hid hp
  have HR := Lib.hid hr
  clear hp hr
  go_enter Tryz.func147, Tryz.ntmps147
  go_wp2_with fail
  refine (crIsCode_any 3 _ (by decide) (by decide)).mono ?_
  rintro e w1 ⟨rfl, rfl⟩
  go_wp2_with fail
  have HZ : Hid (((w.alloc (.cells #[.int .i64 3, .int .i64 a, .int .i64 b, .int .i64 c, .int .i64 k] 83)).alloc (.cells #[.string ⟨#[]⟩, .string ⟨#[]⟩, .int .i64 0, .int .i64 0] 242)).heap.size = w.heap.size + 2 ∧ Below w.heap.size w ((w.alloc (.cells #[.int .i64 3, .int .i64 a, .int .i64 b, .int .i64 c, .int .i64 k] 83)).alloc (.cells #[.string ⟨#[]⟩, .string ⟨#[]⟩, .int .i64 0, .int .i64 0] 242))) := Lib.hid ⟨by simp, by go_grown⟩
  generalize hW : (w.alloc (.cells #[.int .i64 3, .int .i64 a, .int .i64 b, .int .i64 c, .int .i64 k] 83)).alloc (.cells #[.string ⟨#[]⟩, .string ⟨#[]⟩, .int .i64 0, .int .i64 0] 242) = W at *
  clear hW
  have p0 := cell_at HP.out 0
  simp at p0
  have hzd : W.drew.heap.size = W.heap.size := rfl
  go_region_with (go_at_call 153; refine (crRows_any _).mono ?_; rintro e w2 ⟨rfl, hc, hb⟩; have hb' : Below W.heap.size W w2 := undrew hb; clear hb; rw [hzd] at hc ⊢; have HR2 := keep hb' HR.out; have r0 := cell_at HR2 0; have r1 := cell_at HR2 1; have r2 := cell_at HR2 2; have r3 := cell_at HR2 3; have f0 := free_at HR2 0; have f1 := free_at HR2 1; have f2 := free_at HR2 2; have f3 := free_at HR2 3; have P2 := keep hb' HP.out; have p0 := cell_at P2 0; have c4 := hc 12 _ rfl; have c5 := hc 13 _ rfl; have c6 := hc 14 _ rfl; have c7 := hc 15 _ rfl; simp at r0 r1 r2 r3 p0; have HB2 := Lib.hid hb'; clear hb' hc HR2 P2)
  all_goals
    have q0 := free_at HR.out 0
    go_wp2_with fail
    refine bodyPost_ret (v := crV 3) (by simp [results, Tryz.results147, go_sem, r0, r1, r2, r3]; rfl) rfl ?_
    exact ⟨rfl, ((((HZ.out.2.trans (HB2.out.mono (by rw [HZ.out.1]; omega))).setCell (by simp) _).setCell (by simp) _).setCell (by simp) _).setCell (by simp) _⟩
set_option maxRecDepth 100000 in
set_option maxHeartbeats 1000000 in
theorem crOf_4 (a b c k : Int) (w : World) : Calls Tryz.prog 147 #[.agg #[.int .i64 4, .int .i64 a, .int .i64 b, .int .i64 c, .int .i64 k]] w fun e w' => e = .returned (crV 4) ∧ Below w.heap.size w w' := by
  have hp := keepA (.cells #[.string ⟨#[]⟩, .string ⟨#[]⟩, .int .i64 0, .int .i64 0] 242) (heap_alloc_new w (.cells #[.int .i64 4, .int .i64 a, .int .i64 b, .int .i64 c, .int .i64 k] 83))
  have hr : ((w.alloc (.cells #[.int .i64 4, .int .i64 a, .int .i64 b, .int .i64 c, .int .i64 k] 83)).alloc (.cells #[.string ⟨#[]⟩, .string ⟨#[]⟩, .int .i64 0, .int .i64 0] 242)).heap[w.heap.size + 1]? = some (.cells #[.string ⟨#[]⟩, .string ⟨#[]⟩, .int .i64 0, .int .i64 0] 242 (0, 0)) := by
    simpa using heap_alloc_new (w.alloc (.cells #[.int .i64 4, .int .i64 a, .int .i64 b, .int .i64 c, .int .i64 k] 83)) (.cells #[.string ⟨#[]⟩, .string ⟨#[]⟩, .int .i64 0, .int .i64 0] 242)
  have HP := Lib.hid hp
  have HR := Lib.hid hr
  clear hp hr
  go_enter Tryz.func147, Tryz.ntmps147
  go_wp2_with fail
  refine (crIsCode_any 4 _ (by decide) (by decide)).mono ?_
  rintro e w1 ⟨rfl, rfl⟩
  go_wp2_with fail
  have HZ : Hid (((w.alloc (.cells #[.int .i64 4, .int .i64 a, .int .i64 b, .int .i64 c, .int .i64 k] 83)).alloc (.cells #[.string ⟨#[]⟩, .string ⟨#[]⟩, .int .i64 0, .int .i64 0] 242)).heap.size = w.heap.size + 2 ∧ Below w.heap.size w ((w.alloc (.cells #[.int .i64 4, .int .i64 a, .int .i64 b, .int .i64 c, .int .i64 k] 83)).alloc (.cells #[.string ⟨#[]⟩, .string ⟨#[]⟩, .int .i64 0, .int .i64 0] 242))) := Lib.hid ⟨by simp, by go_grown⟩
  generalize hW : (w.alloc (.cells #[.int .i64 4, .int .i64 a, .int .i64 b, .int .i64 c, .int .i64 k] 83)).alloc (.cells #[.string ⟨#[]⟩, .string ⟨#[]⟩, .int .i64 0, .int .i64 0] 242) = W at *
  clear hW
  have p0 := cell_at HP.out 0
  simp at p0
  have hzd : W.drew.heap.size = W.heap.size := rfl
  go_region_with (go_at_call 153; refine (crRows_any _).mono ?_; rintro e w2 ⟨rfl, hc, hb⟩; have hb' : Below W.heap.size W w2 := undrew hb; clear hb; rw [hzd] at hc ⊢; have HR2 := keep hb' HR.out; have r0 := cell_at HR2 0; have r1 := cell_at HR2 1; have r2 := cell_at HR2 2; have r3 := cell_at HR2 3; have f0 := free_at HR2 0; have f1 := free_at HR2 1; have f2 := free_at HR2 2; have f3 := free_at HR2 3; have P2 := keep hb' HP.out; have p0 := cell_at P2 0; have c4 := hc 16 _ rfl; have c5 := hc 17 _ rfl; have c6 := hc 18 _ rfl; have c7 := hc 19 _ rfl; simp at r0 r1 r2 r3 p0; have HB2 := Lib.hid hb'; clear hb' hc HR2 P2)
  all_goals
    have q0 := free_at HR.out 0
    go_wp2_with fail
    refine bodyPost_ret (v := crV 4) (by simp [results, Tryz.results147, go_sem, r0, r1, r2, r3]; rfl) rfl ?_
    exact ⟨rfl, ((((HZ.out.2.trans (HB2.out.mono (by rw [HZ.out.1]; omega))).setCell (by simp) _).setCell (by simp) _).setCell (by simp) _).setCell (by simp) _⟩
end Go.Proofs.YtgnilkjdpfbjgaaGreat
namespace Go.Proofs
open Go.Shelf
def Tryz.lays144_ren : Go.Shelf.Ren := ⟨fun | 144 => 148 | 143 => 154 | 219 => 157 | 217 => 158 | 225 => 159 | 224 => 160 | 267 => 161 | 266 => 162 | 314 => 163 | n => n, fun | 9 => 9 | 4 => 4 | 3 => 3 | 5 => 5 | 46 => 121 | 146 => 258 | 51 => 48 | n => n, fun | 1 => 0 | n => n⟩
theorem Tryz.lays144 : Go.Proofs.Lays.n144 Tryz.prog Tryz.lays144_ren := {
  mixed := by kernel_rfl
  f143 := Tryz.func154.trans (congrArg some (by kernel_rfl))
  f144 := Tryz.func148.trans (congrArg some (by kernel_rfl))
  f217 := Tryz.func158.trans (congrArg some (by kernel_rfl))
  f219 := Tryz.func157.trans (congrArg some (by kernel_rfl))
  f224 := Tryz.func160.trans (congrArg some (by kernel_rfl))
  f225 := Tryz.func159.trans (congrArg some (by kernel_rfl))
  f266 := Tryz.func162.trans (congrArg some (by kernel_rfl))
  f267 := Tryz.func161.trans (congrArg some (by kernel_rfl))
  f314 := Tryz.func163.trans (congrArg some (by kernel_rfl))
  t3 := Tryz.underlying3
  a3 := Tryz.isAgg3
  z3 := Tryz.sizeOf3
  v3 := Tryz.zeroValue3
  t4 := Tryz.underlying4
  a4 := Tryz.isAgg4
  z4 := Tryz.sizeOf4
  v4 := Tryz.zeroValue4
  t5 := Tryz.underlying5
  a5 := Tryz.isAgg5
  z5 := Tryz.sizeOf5
  v5 := Tryz.zeroValue5
  t9 := Tryz.underlying9
  a9 := Tryz.isAgg9
  z9 := Tryz.sizeOf9
  v9 := Tryz.zeroValue9
  t46 := Tryz.underlying121
  a46 := Tryz.isAgg121
  z46 := Tryz.sizeOf121
  v46 := Tryz.zeroValue121
  t51 := Tryz.underlying48
  a51 := Tryz.isAgg48
  z51 := Tryz.sizeOf48
  v51 := Tryz.zeroValue48
  t146 := Tryz.underlying258
  a146 := Tryz.isAgg258
  z146 := Tryz.sizeOf258
  v146 := Tryz.zeroValue258
  g1 := by kernel_rfl }
open Go.RowKit Go.Lib in
theorem Tryz.strings_Contains_one (s : ByteArray) (c : UInt8) (w : World) :
    Calls Tryz.prog 148 #[.string s, .string ⟨#[c]⟩] w fun e w' => e = .returned (.bool (decide (0 ≤ Lib.indexByte s.data.toList c))) ∧ w' = w := Any.strings_Contains_one Tryz.lays144 s c w
end Go.Proofs
