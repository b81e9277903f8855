/- Contract of tally.line: a word and numbers, joined by blanks. -/
import Derived.Test.YtgngpanimeigbabDoorG0
import Derived.Test.YtgngpanimeigbabDoorShelf
import Derived.Lib.ItoaLen
import Derived.Lib.LaidTab
import Derived.Laws.OwnMore
namespace Go.Proofs.YtgngpanimeigbabDoor
open Go.RowKit
set_option linter.unusedVariables false

/-- The table of Go's library that its numerals are made with. -/
def Tab (w : World) : Prop := Lib.TabIs Tryd.prog w "internal/strconv.uint64pow10" .u64 Lib.pow10Tab
theorem Tab.below {B : Nat} {w w' : World} (h : Tab w) (hb : Below w.heap.size w w') : Tab w' := by
  unfold Tab Lib.TabIs World.var? at *
  cases hg : Tryd.prog.globalNamed "internal/strconv.uint64pow10" with
  | none => rw [hg] at h; cases h
  | some g =>
    rw [hg] at h
    simp only [Option.bind_some] at h ⊢
    cases ho : w.heap[g]? with
    | none => rw [ho] at h; cases h
    | some o => rw [keep hb ho]; rw [ho] at h; exact h
theorem below_grow (w : World) (k : Nat) (os : Array Obj) : Below w.heap.size w (Sort.grow (w.drewN k) os) :=
  ⟨rfl, rfl, rfl, by simp [Sort.grow], fun i hi => by simp [Sort.grow, Array.getElem?_append, hi]⟩
theorem itoa_any (n : Int) (w : World) (hn : I64 n) (ht : Tab w) : Calls Tryd.prog 20 #[.int .i64 n] w fun e w' => e = .returned (.string ⟨(Lib.itoa n).toArray⟩) ∧ Below w.heap.size w w' := by
  refine (Tryd.strconv_Itoa n hn.1 hn.2 w ht).mono ?_
  rintro e w' ⟨rfl, k, os, rfl⟩
  exact ⟨rfl, below_grow w k os⟩
def itoaB (n : Int) : ByteArray := ⟨(Lib.itoa n).toArray⟩
def lineF (wd : ByteArray) (ns : List Int) : List UInt8 := Lib.join (wd.data.toList :: ns.map Lib.itoa) [32]
theorem lens_le (ns : List Int) (h : ∀ n ∈ ns, I64 n) : Lib.lens (ns.map Lib.itoa) ≤ 21 * ns.length := by
  induction ns with
  | nil => simp [Lib.lens]
  | cons n r ih =>
    have := Lib.itoa_length_le n (h n (by simp)).1 (h n (by simp)).2
    have := ih (fun m hm => h m (by simp [hm]))
    simp only [List.map_cons, Lib.lens, List.sum_cons, List.length_cons] at *
    omega
theorem Tryd.info9 : (Tryd.prog.info? 9).map (fun i => (i.zero, i.size, i.bytes)) = some (some (.string ByteArray.empty), 1, 16) := by kernel_rfl
set_option maxRecDepth 100000 in
set_option maxHeartbeats 1000000 in
theorem line_any (wd : ByteArray) (ns : List Int) (a : Option Addr) (n c : Nat) (w : World) (ht : Tab w) (hwd : wd.size ≤ 1000) (hl : ns.length = n) (hn : n ≤ 1000) (hns : ∀ m ∈ ns, I64 m)
    (hcs : n = 0 ∨ ∃ b off, a = some ⟨b, off, none⟩ ∧ b < w.heap.size ∧ ∀ (i : Nat) (m : Int), ns[i]? = some m → w.cell? ⟨b, off + i, none⟩ = some (.int .i64 m)) :
    Calls Tryd.prog 16 #[.string wd, .slice a n c] w fun e w' => e = .returned (.string ⟨(lineF wd ns).toArray⟩) ∧ Below w.heap.size w w' := by
  obtain ⟨i0, hi, hz0, hz1, hz2⟩ := info_parts Tryd.info9
  have HL := Lib.hid hl
  have HNS := Lib.hid hns
  have HT := Lib.hid ht
  clear hl hns ht
  go_enter Tryd.func16, Tryd.ntmps16
  go_wp2_with fail
  go_loopw [5, 12] (fun v i wr => ∃ (k : Nat) (va : Option Addr) (vc : Nat), k ≤ n ∧ i = .int .i64 k ∧ v = .slice va (k + 1) vc ∧ wr.ownsRow w.heap.size 9 1 (.slice va (k + 1) vc) (k + 1) ((wd :: (ns.take k).map itoaB).map .string) ∧ Below w.heap.size w wr) (fun _ i _ => n - (intOf i).toNat)
  case atStart =>
    refine ⟨0, _, _, by omega, rfl, rfl, ?_, by go_grown⟩
    exact World.ownsRow_lit w #[.string wd] 1 (Nat.le_refl _) (by unfold maxLen; omega) rfl
  case round =>
    obtain ⟨k, va, vc, hk, rfl, rfl, hown, hbw⟩ := hrel
    have hz := hbw.size
    by_cases hlt : k < n
    · obtain ⟨m, hm⟩ : ∃ m, ns[k]? = some m := ⟨_, List.getElem?_eq_getElem (by have := HL.out; omega)⟩
      obtain ⟨b, off, rfl, hB, hcell⟩ := hcs.resolve_left (by omega)
      have c0 := (hbw.cell (p := ⟨b, off + k, none⟩) hB).trans (hcell k m hm)
      have htk := Lib.hid (take_snoc hm)
      have hmi := HNS.out m (List.mem_of_getElem? hm)
      have i1 : (0 : Int) ≤ (k : Int) := by omega
      have i2 : (k : Int) < (n : Int) := by omega
      have HC := Lib.hid hcell
      clear hm hcs hcell
      go_wp2_with fail
      refine (itoa_any m _ hmi (HT.out.below (B := 0) hbw)).mono ?_
      rintro e w1 ⟨rfl, hb1⟩
      have hown1 := (ownsRow_below hown hb1).alloc (.cells #[.string ⟨(Lib.itoa m).toArray⟩] 9)
      have hbw1 : Below w.heap.size w w1 := hbw.trans (hb1.mono hz)
      have hzw := hb1.size
      clear hown hb1 c0 hbw
      go_wp2_with (at_builtin; refine wpList_append_own _ rfl (.tmp 16) (.tmp 19) 51 rfl w.heap.size 9 i0 (.string ByteArray.empty) 1 16 Tryd.underlying51 hi hz0 hz1 hz2 rfl (by decide) (.slice va (k + 1) vc) (k + 1) ((wd :: (ns.take k).map itoaB).map .string) rfl hown1 ⟨w1.heap.size, 0, none⟩ 1 1 [.string ⟨(Lib.itoa m).toArray⟩] rfl rfl (cell_one_new _ _ _) (by intro u hu; simp at hu; subst hu; rfl) (by unfold maxLen; omega) (by omega) (by simp; omega) ?_)
      intro v' w2 hown2 hg2 _
      obtain ⟨va', vc', hv'⟩ := ownsRow_slice hown2
      rw [hv'] at hown2 ⊢
      clear hv'
      have hrow := hown1.lt
      have hbw2 : Below w.heap.size w w2 := (hbw1.alloc hbw1.size _).grown hg2 (by simp; omega) (fun x hx => (hrow x hx).1)
      have HO := Lib.hid (And.intro hown2 hbw2)
      clear hown2 hbw2 hrow hown1 hg2 hbw1
      go_wp2_with fail
      go_roundw
      case rel =>
        refine ⟨k + 1, va', vc', by omega, by go_num, rfl, ?_, HO.out.2⟩
        rw [htk.out]
        simpa [itoaB] using HO.out.1
      case measure => simp [intOf]; omega
    · obtain rfl : k = n := by omega
      have ht' : ns.take k = ns := List.take_of_length_le (by have := HL.out; omega)
      rw [ht'] at hown
      clear ht'
      obtain ⟨q, rfl, hq1, hq2, hqc⟩ := row_block hown (by omega)
      have hvc : k + 1 ≤ vc := by
        rcases hown.2 with ⟨_, h⟩ | ⟨g, cap, cur, hv, _, _, hle, _⟩
        · omega
        · cases hv; exact hle
      have hjl : (Lib.join ((wd :: ns.map itoaB).map (·.data.toList)) ([32] : List UInt8)).length ≤ 140737488355328 := by
        have e : (wd :: ns.map itoaB).map (·.data.toList) = wd.data.toList :: ns.map Lib.itoa := by simp [itoaB, Function.comp_def]
        rw [e, Lib.join_length]
        have := lens_le ns HNS.out
        have := HL.out
        have hw : wd.data.toList.length = wd.size := by simp
        simp only [Lib.lens, List.map_cons, List.sum_cons, List.length_map, List.length_cons, List.length_nil] at *
        omega
      have hfin : Lib.join ((wd :: ns.map itoaB).map (·.data.toList)) ([32] : List UInt8) = lineF wd ns := by
        unfold lineF
        congr 1
        simp [itoaB, Function.comp_def]
      have hlen : (wd :: ns.map itoaB).length = k + 1 := by simp; exact HL.out
      have HJ := Lib.hid (And.intro hjl (And.intro hfin hlen))
      have HQ := Lib.hid (show ∀ (j : Nat) (x : ByteArray), (wd :: ns.map itoaB)[j]? = some x → wr.cell? ⟨q, 0 + j, none⟩ = some (.string x) from fun j x hx => by rw [Nat.zero_add]; exact hqc j _ (by rw [List.getElem?_map, hx]; rfl))
      clear hjl hfin hlen hqc hown hcs
      go_wp2_with fail
      have key := Tryd.strings_Join q 0 vc (wd :: ns.map itoaB) ⟨#[32]⟩ wr HQ.out hq2 (by rw [HJ.out.2.2]; omega) (by rw [HJ.out.2.2]; exact hvc) HJ.out.1
      rw [HJ.out.2.2, show (⟨#[32]⟩ : ByteArray).data.toList = [32] from rfl, HJ.out.2.1] at key
      refine key.mono ?_
      clear key
      rintro e w1 ⟨rfl, hb1⟩
      have hbf := hbw.trans (hb1.mono hz)
      clear hb1
      go_wp2_with fail
      go_returns
      exact ⟨rfl, hbf⟩
end Go.Proofs.YtgngpanimeigbabDoor
