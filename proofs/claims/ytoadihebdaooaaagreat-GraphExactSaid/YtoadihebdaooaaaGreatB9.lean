/- Contracts of graph.New, two, great. -/
import Derived.Test.YtoadihebdaooaaaGreatB8
namespace Go.Proofs.YtoadihebdaooaaaGreat
open Go.RowKit
set_option linter.unusedVariables false

def newOk (ver : Int) (cs : List Cmp) (archs rows : Int) : Bool := (schemaCheck ver cs == 0) && decide (1 ≤ archs) && decide (archs ≤ 64) && decide (1 ≤ rows) && decide (rows ≤ 256)
def GS0 (ver : Int) (cs : List Cmp) (archs rows : Int) : GS := { ver := ver, archs := archs, rows := rows, cs := cs, ts := [], ways := fun _ => none, nw := 0 }
/-- The answer of 'New'. -/
def IsNew (ver : Int) (cs : List Cmp) (archs rows : Int) (w : World) (e : Ending) (w' : World) : Prop :=
  Below w.heap.size w w' ∧ if newOk ver cs archs rows then ∃ B1 gb, e = .returned (.pointer (some ⟨gb, 0, none⟩)) ∧ w.heap.size ≤ B1 ∧ Graph B1 gb (GS0 ver cs archs rows) w' else e = .returned (.pointer none)

set_option maxRecDepth 100000 in
set_option maxHeartbeats 2000000 in
theorem graphNew_any (ver : Int) (cs : List Cmp) (a : Option Addr) (len cap : Nat) (archs rows : Int) (w : World) (hcs : CompsAt w.heap.size w a len cs) (hw : CompsWf cs) (hl : len ≤ 100000) (hf : ∀ c ∈ cs, c.fields.length ≤ 100000) (hn : a = none → len = 0 ∧ cap = 0) :
    Calls Tryz.prog 9 #[.agg #[.int .i64 ver, .slice a len cap], .int .i64 archs, .int .i64 rows] w (IsNew ver cs archs rows w) := by
  have hmm := @run_makeMap Tryz.prog
  have hbel0 : Below w.heap.size w (w.alloc (.cells #[.int .i64 ver, .slice a len cap] 24)) := by go_grown
  go_enter Tryz.func9, Tryz.ntmps9
  go_wp2_with fail
  refine (schemaCheck_any ver cs _ _ _ _ ((hcs.below hbel0).mono hbel0.size) hw).mono ?_
  rintro e w1 ⟨rfl, hb1⟩
  have hs1 := keep hb1 (heap_alloc_new w (.cells #[.int .i64 ver, .slice a len cap] 24))
  have s0 := cell_at hs1 0
  have s1 := cell_at hs1 1
  simp at s0 s1
  have hbel1 : Below w.heap.size w w1 := hbel0.trans (hb1.mono hbel0.size)
  by_cases hsc : schemaCheck ver cs = 0
  · have e1 : (schemaCheck ver cs != 0) = false := by simp [hsc]
    have HSC := Lib.hid hsc
    clear hsc
    rcases (by omega : archs < 1 ∨ (1 ≤ archs ∧ 64 < archs) ∨ (1 ≤ archs ∧ archs ≤ 64 ∧ rows < 1) ∨ (1 ≤ archs ∧ archs ≤ 64 ∧ 1 ≤ rows ∧ 256 < rows) ∨ (1 ≤ archs ∧ archs ≤ 64 ∧ 1 ≤ rows ∧ rows ≤ 256)) with h | ⟨h, h'⟩ | ⟨h, h', h2⟩ | ⟨h, h', h2, h3⟩ | ⟨h, h', h2, h3⟩
    · have HT : Hid (newOk ver cs archs rows = false) := Lib.hid (by simp [newOk]; omega)
      go_wp2_with fail
      go_returns
      exact ⟨hbel1, by rw [HT.out]; rfl⟩
    · have HT : Hid (newOk ver cs archs rows = false) := Lib.hid (by simp [newOk]; omega)
      go_wp2_with fail
      go_returns
      exact ⟨hbel1, by rw [HT.out]; rfl⟩
    · have HT : Hid (newOk ver cs archs rows = false) := Lib.hid (by simp [newOk]; omega)
      go_wp2_with fail
      go_returns
      exact ⟨hbel1, by rw [HT.out]; rfl⟩
    · have HT : Hid (newOk ver cs archs rows = false) := Lib.hid (by simp [newOk]; omega)
      go_wp2_with fail
      go_returns
      exact ⟨hbel1, by rw [HT.out]; rfl⟩
    · have HT : Hid (newOk ver cs archs rows = true) := Lib.hid (by simp [newOk, HSC.out]; omega)
      go_wp2_with fail
      refine (schemaClone_any ver cs _ _ _ _ ((hcs.below hbel1).mono hbel1.size) hl hf hn).mono ?_
      rintro e w2 ⟨va, vc, rfl, hcs2, hvn, hb2, hty2⟩
      have hbel2 : Below w.heap.size w w2 := hbel1.trans (hb2.mono hbel1.size)
      go_wp2_with fail
      go_returns
      refine ⟨((hbel2.alloc hbel2.size _).alloc (by have := hbel2.size; simp; omega) _).alloc (by have := hbel2.size; simp; omega) _, ?_⟩
      rw [HT.out]
      refine ⟨w2.heap.size, w2.heap.size + 2, ?_, hbel2.size, w2.heap.size, w2.heap.size + 1, va, len, vc, none, 0, fun _ => none, fun _ => none, ?_⟩
      · rfl
      · refine { bg := by omega, bm := by omega, bw := by omega, ne := by omega, blk := ?_, comps := ?_, cty := hty2.hk (KeepsTy.of_below (((Below.refl _ w2).alloc (Nat.le_refl _) _).alloc (by simp) _ |>.alloc (by simp; omega) _)), row := World.ownsRow_nil _ _ _ _, bySet := ?_, byWay := ?_, tab := (fun t ht => by cases ht), hbs := fun s => rfl, hws := fun x hx => rfl, wf := ⟨hw, hf, h, h', by simp [GS0]; omega, by simp; omega, by simp [GS0]⟩, wok := (fun x n hx => by cases hx), tlo := (fun t ht => by cases ht), cn := ⟨hvn, hl⟩ }
        · have := heap_alloc_new ((w2.alloc (.map #[] 0)).alloc (.map #[] 0)) (.cells #[.int .i64 ver, .slice va len vc, .int .i64 archs, .int .i64 rows, .slice none 0 0, .map (some w2.heap.size), .map (some (w2.heap.size + 1))] 119)
          rw [World.size_alloc, World.size_alloc] at this
          exact this
        · exact (hcs2.below (((Below.refl _ w2).alloc (Nat.le_refl _) _).alloc (by simp) _ |>.alloc (by simp; omega) _)).mono (by simp; omega)
        · exact ((MapIs.made w2 Tryz.prog 35 3).alloc _).alloc _
        · have := (MapIs.made (w2.alloc (.map #[] 0)) Tryz.prog 128 3).alloc (.cells #[.int .i64 ver, .slice va len vc, .int .i64 archs, .int .i64 rows, .slice none 0 0, .map (some w2.heap.size), .map (some (w2.heap.size + 1))] 119)
          rw [World.size_alloc] at this
          exact this
  · have e1 : (schemaCheck ver cs != 0) = true := by simp [hsc]
    have HT : Hid (newOk ver cs archs rows = false) := Lib.hid (by simp [newOk, hsc])
    clear hsc
    go_wp2_with fail
    go_returns
    exact ⟨hbel1, by rw [HT.out]; rfl⟩

def cs2 : List Cmp := [⟨1, ⟨#[97]⟩, []⟩, ⟨2, ⟨#[98]⟩, []⟩]
def IsTwo (w : World) (e : Ending) (w' : World) : Prop := ∃ a c, e = .returned (.agg #[.int .i64 1, .slice (some a) 2 c]) ∧ CompsAt w'.heap.size w' (some a) 2 cs2 ∧ Below w.heap.size w w'
theorem two_any (w : World) : Calls Tryz.prog 55 #[] w (IsTwo w) := by
  go_enter Tryz.func55, Tryz.ntmps55
  go_wp2_with fail
  go_returns
  refine ⟨_, _, rfl, ⟨rfl, by unfold maxLen; omega, .inr ⟨w.heap.size + 1, 0, rfl, by simp, ?_⟩⟩, by go_grown⟩
  intro i c hc
  have hh := heap_alloc_new (w.alloc (.cells #[.int .i64 1, .slice (some ⟨w.heap.size + 1, 0, none⟩) 2 2] 24)) (.cells #[.int .i64 1, .string ⟨#[97]⟩, .slice none 0 0, .int .i64 2, .string ⟨#[98]⟩, .slice none 0 0] 112)
  rw [World.size_alloc] at hh
  match i, hc with
  | 0, hc =>
    cases hc
    exact ⟨by rw [cell_at hh]; rfl, by rw [cell_at hh]; rfl, none, 0, 0, by rw [cell_at hh]; rfl, ⟨rfl, by unfold maxLen; omega, .inl rfl⟩, fun _ => ⟨rfl, rfl⟩⟩
  | 1, hc =>
    cases hc
    exact ⟨by rw [cell_at hh]; rfl, by rw [cell_at hh]; rfl, none, 0, 0, by rw [cell_at hh]; rfl, ⟨rfl, by unfold maxLen; omega, .inl rfl⟩, fun _ => ⟨rfl, rfl⟩⟩
  | n + 2, hc => simp [cs2] at hc

def greatB (cs : List Cmp) : Bool := decide (30 < cs.length) || cs.any fun c => decide (12 < c.fields.length)
set_option maxRecDepth 100000 in
theorem great_any (ver : Int) (cs : List Cmp) (a : Option Addr) (len cap : Nat) (w : World) (hcs : CompsAt w.heap.size w a len cs) : Calls Tryz.prog 8 #[.agg #[.int .i64 ver, .slice a len cap]] w fun e w' => e = .returned (.bool (greatB cs)) ∧ Below w.heap.size w w' := by
  have hmx : len ≤ maxLen := hcs.2.1
  have hll := hcs.1
  unfold maxLen at hmx
  have HLL := Lib.hid hll
  clear hll
  have hbel0 : Below w.heap.size w (w.alloc (.cells #[.int .i64 ver, .slice a len cap] 24)) := by go_grown
  by_cases h30 : 30 < len
  · have HT : Hid (greatB cs = true) := Lib.hid (by simp [greatB, HLL.out]; omega)
    go_enter Tryz.func8, Tryz.ntmps8
    go_wp2_with fail
    go_returns
    exact ⟨ret_bool HT.out.symm, hbel0⟩
  · go_enter Tryz.func8, Tryz.ntmps8
    go_wp2_with fail
    go_loopw [3] (fun i wr => ∃ k : Nat, k ≤ len ∧ i = .int .i64 k ∧ greatB cs = ((cs.drop k).any fun c => decide (12 < c.fields.length)) ∧ w.alloc (.cells #[.int .i64 ver, .slice a len cap] 24) = wr) (fun i _ => len - (intOf i).toNat)
    case atStart => exact ⟨0, Nat.zero_le _, rfl, by simp [greatB, HLL.out]; omega, rfl⟩
    case round =>
      obtain ⟨k, hk, rfl, hgo, rfl⟩ := hrel
      have HGO := Lib.hid hgo
      clear hgo
      by_cases hlt : k < len
      · obtain ⟨b, off, c, rfl, hB, hc, c0, c1, fa, fl, fc, c2, hF, hnil⟩ := hcs.get hbel0 hlt
        have hstep := Lib.hid (HGO.out.trans (by rw [drop_get hc]))
        have hfl := hF.1
        have hfm := hF.2.1
        unfold maxLen at hfm
        have HFL := Lib.hid hfl
        clear hF hfl
        by_cases h12 : 12 < fl
        · have HT : Hid (greatB cs = true) := Lib.hid (by rw [hstep.out, List.any_cons, HFL.out]; simp [h12])
          go_wp2_with fail
          go_returns
          exact ⟨ret_bool HT.out.symm, hbel0⟩
        · have HT := Lib.hid (hstep.out.trans (show _ = ((cs.drop (k + 1)).any fun c => decide (12 < c.fields.length)) by rw [List.any_cons, HFL.out]; simp [h12]))
          go_wp2_with fail
          go_roundw
          case rel => exact ⟨k + 1, by omega, by go_num, HT.out, by trivial⟩
          case measure => simp [intOf]; omega
      · obtain rfl : k = len := by omega
        have HT : Hid (greatB cs = false) := Lib.hid (by rw [HGO.out, List.drop_eq_nil_of_le (by rw [HLL.out]; exact Nat.le_refl _)]; rfl)
        go_wp2_with fail
        go_returns
        exact ⟨ret_bool HT.out.symm, hbel0⟩
end Go.Proofs.YtoadihebdaooaaaGreat
