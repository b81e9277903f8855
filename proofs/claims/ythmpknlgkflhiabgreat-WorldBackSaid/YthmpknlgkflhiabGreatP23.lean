/- Contracts of (*Graph).Sigs, check. -/
import Derived.Test.YthmpknlgkflhiabGreatP22
import Derived.WalkSmall
import Derived.Deep.DeepCutAuto
namespace Go.Proofs.YthmpknlgkflhiabGreat
open Go.RowKit
set_option linter.unusedVariables false
theorem Tryz.info57 : (Tryz.prog.info? 57).map (fun i => (i.zero, i.size, i.bytes)) = some (some (.int .u32 0), 1, 4) := by kernel_rfl
/-- The answer of 'Sigs'. -/
def IsSigs (g : GS) (w : World) (e : Ending) (w' : World) : Prop :=
  ∃ va vc, e = .returned (.slice va g.ts.length vc) ∧ w'.ownsRow w.heap.size 57 1 (.slice va g.ts.length vc) g.ts.length (g.sigs.map (.int .u32)) ∧ Below w.heap.size w w'
theorem sigs_get {g : GS} {k : Nat} {t : Nat × Int} (h : g.ts[k]? = some t) : g.sigs[k]? = some t.2 := by
  unfold GS.sigs; rw [List.getElem?_map, h]; rfl
set_option maxRecDepth 100000 in
set_option maxHeartbeats 1000000 in
theorem sigs_any (B1 gb : Nat) (g : GS) (w : World) {mb wb : Nat} {ta : Option Addr} {tc : Nat} (h : Graph B1 gb g mb wb ta tc w) : Calls Tryz.prog 34 #[.pointer (some ⟨gb, 0, none⟩)] w (IsSigs g w) := by
  obtain ⟨i0, hi, hz0, hz1, hz2⟩ := info_parts Tryz.info57
  have H := Lib.hid h
  clear h
  have hlen : g.ts.length ≤ 64 := by obtain ⟨ca, cl, cc, bs, ws, h⟩ := H.out; have := h.wf; omega
  go_enter Tryz.func34, Tryz.ntmps34
  go_wp2_with fail
  refine (len_any B1 gb g _ H.out).mono ?_
  rintro e w' ⟨rfl, rfl⟩
  go_wp2_with fail
  go_loopw [3, 7] (fun v i wr => ∃ (k : Nat) (va : Option Addr) (vc : Nat), k ≤ g.ts.length ∧ i = .int .i64 k ∧ v = .slice va k vc ∧ wr.ownsRow w.heap.size 57 1 (.slice va k vc) k ((g.sigs.take k).map (.int .u32)) ∧ Below w.heap.size w wr)
    (fun _ i _ => g.ts.length - (intOf i).toNat)
  case atStart => exact ⟨0, none, 0, Nat.zero_le _, rfl, rfl, World.ownsRow_nil _ _ _ _, Below.refl _ _⟩
  case round =>
    obtain ⟨k, va, vc, hk, rfl, rfl, hown, hbw⟩ := hrel
    have hzr := hbw.size
    by_cases hlt : k < g.ts.length
    · obtain ⟨t, ht⟩ : ∃ t, g.ts[k]? = some t := ⟨_, List.getElem?_eq_getElem hlt⟩
      obtain ⟨ca, cl, cc, bs, ws, h⟩ := H.out.below hbw
      obtain ⟨q, rfl, hc⟩ := h.cell ht
      have c4 := cell_at h.blk 4
      simp at c4
      have htab := (h.tab t (List.mem_of_getElem? ht)).1
      have HT := Lib.hid htab
      have HTK := Lib.hid (take_snoc (sigs_get ht))
      clear h htab ht
      go_wp2_with fail
      refine (tsig_any _ _ _ HT.out).mono ?_
      rintro e w' ⟨rfl, rfl⟩
      have hownA := hown.alloc (.cells #[.int .u32 t.2] 57)
      go_wp2_with (at_builtin; refine wpList_append_own _ rfl (.tmp 10) (.tmp 19) 44 rfl w.heap.size 57 i0 (.int .u32 0) 1 4 Tryz.underlying44 hi hz0 hz1 hz2 rfl (by decide) (.slice va k vc) k ((g.sigs.take k).map (.int .u32)) rfl hownA ⟨wr.heap.size, 0, none⟩ 1 1 [.int .u32 t.2] rfl rfl (cell_one_new _ _ _) (ints_oneCell .u32 [t.2]) (by unfold maxLen; omega) (by omega) (by simp; omega) ?_)
      intro v' w2 hown2 hg2 _
      obtain ⟨va', vc', hv'⟩ := ownsRow_slice hown2
      rw [hv'] at hown2 ⊢
      clear hv'
      have hrow : ∀ x, (Value.slice va k vc).ownBlock = some x → w.heap.size ≤ x := fun x hx => (hown.lt x hx).1
      have hbel : Below w.heap.size w w2 := (hbw.alloc hzr _).grown hg2 (by simp; omega) hrow
      have HO := Lib.hid hown2
      clear hown2 hown hownA hg2 hrow
      go_wp2_with fail
      go_roundw
      case rel => exact ⟨k + 1, va', vc', by omega, by go_num, rfl, by rw [HTK.out, List.map_append]; simpa using HO.out, hbel⟩
      case measure => simp [intOf]; omega
    · obtain rfl : k = g.ts.length := by omega
      have ht : g.sigs.take g.ts.length = g.sigs := List.take_of_length_le (by simp [GS.sigs])
      rw [ht] at hown
      have HO := Lib.hid hown
      clear hown ht
      go_wp2_with fail
      go_returns
      exact ⟨va, vc, rfl, HO.out, hbw⟩
def chkF (g : GS) (i c : Int) (b : Bool) : Int :=
  if i < 0 ∨ (g.ts.length : Int) ≤ i then 3 else if (findC c g.cs).isSome = false then 6 else if hasB (g.sigs.getD i.toNat 0) c = b then 7 else 0
theorem set3_ne (w : World) (a : Nat) (u0 u1 u2 : Value) (b : Nat) (h : b ≠ a) : (((w.setCell ⟨a, 0, none⟩ u0).setCell ⟨a, 1, none⟩ u1).setCell ⟨a, 2, none⟩ u2).heap[b]? = w.heap[b]? := by
  rw [hset_ne _ _ _ _ (by simpa using h), hset_ne _ _ _ _ (by simpa using h), hset_ne _ _ _ _ (by simpa using h)]
theorem quiet_same {P : Program} {f : FuncId} {args : Array Value} {w : World} {n : Nat} {v : Value} (h : Calls P f args (w.drewN n) fun e w' => e = .returned v ∧ w.drewN n = w') :
    Calls P f args (w.drewN n) fun e w'' => e = .returned v ∧ ∃ m, w'' = w.drewN m := h.mono fun _ _ ⟨he, hm⟩ => ⟨he, n, hm.symm⟩
theorem Find_none (ver id : Int) (cs : List Cmp) (a : Option Addr) (len cap : Nat) (w : World) (hcs : CompsAt w.heap.size w a len cs) (hf : ∀ c ∈ cs, c.fields.length ≤ 100000) (hn : findC id cs = none) :
    Calls Tryz.prog 87 #[.agg #[.int .i64 ver, .slice a len cap], .int .i64 id] w fun e w' => e = .returned (.tuple #[.agg #[.int .i64 0, .string ByteArray.empty, .slice none 0 0], .bool false]) ∧ Below w.heap.size w w' := by
  refine (Find_any ver id cs a len cap w hcs hf).mono ?_
  intro e w' h
  unfold IsFind at h
  rw [hn] at h
  exact h
theorem Find_some (ver id : Int) (cs : List Cmp) (a : Option Addr) (len cap : Nat) (w : World) (hcs : CompsAt w.heap.size w a len cs) (hf : ∀ c ∈ cs, c.fields.length ≤ 100000) (hn : (findC id cs).isSome = true) :
    Calls Tryz.prog 87 #[.agg #[.int .i64 ver, .slice a len cap], .int .i64 id] w fun e w' => ∃ x s va fl vc, e = .returned (.tuple #[.agg #[.int .i64 x, .string s, .slice va fl vc], .bool true]) ∧ Below w.heap.size w w' := by
  refine (Find_any ver id cs a len cap w hcs hf).mono ?_
  intro e w' h
  unfold IsFind at h
  cases hc : findC id cs with
  | none => rw [hc] at hn; cases hn
  | some c =>
    rw [hc] at h
    obtain ⟨va, fl, vc, he, _, _, hb⟩ := h
    exact ⟨_, _, va, fl, vc, he, hb⟩
set_option maxRecDepth 100000 in
set_option maxHeartbeats 2000000 in
theorem check_any (B1 gb : Nat) (g : GS) (i c : Int) (b : Bool) (w : World) {mb wb : Nat} {ta : Option Addr} {tc : Nat} (h : Graph B1 gb g mb wb ta tc w) : Calls Tryz.prog 128 #[.pointer (some ⟨gb, 0, none⟩), .agg #[.int .i64 i, .int .i64 c, .bool b]] w fun e w' => e = .returned (.int .i64 (chkF g i c b)) ∧ Below w.heap.size w w' := by
  obtain ⟨ca, cl, cc, bs, ws, h⟩ := h
  have c0 := cell_at h.blk 0
  have c1 := cell_at h.blk 1
  have c4 := cell_at h.blk 4
  simp at c0 c1 c4
  have hgl := lt_some h.blk
  have hlen : g.ts.length ≤ 64 := by have := h.wf; omega
  have H := Lib.hid h
  clear h
  rcases (by omega : i < 0 ∨ (0 ≤ i ∧ (g.ts.length : Int) ≤ i) ∨ (0 ≤ i ∧ i < (g.ts.length : Int))) with hi | ⟨hi, hi'⟩ | ⟨hi, hi'⟩
  · have HC : Hid (chkF g i c b = 3) := Lib.hid (by unfold chkF; rw [if_pos (.inl hi)])
    have hd : decide (i < 0) = true := by simpa using hi
    go_enter Tryz.func128, Tryz.ntmps128
    go_wp2_with fail
    go_quiet (fail)
    go_wp2_with fail
    go_returns
    exact ⟨ret_intk HC.out.symm, below_drewN ((Below.refl _ _).alloc (Nat.le_refl _) _) _⟩
  · have HC : Hid (chkF g i c b = 3) := Lib.hid (by unfold chkF; rw [if_pos (.inr hi')])
    have hd : decide (i < 0) = false := by simpa using hi
    go_enter Tryz.func128, Tryz.ntmps128
    go_wp2_with fail
    go_quiet (fail)
    go_wp2_with fail
    go_returns
    exact ⟨ret_intk HC.out.symm, below_drewN ((Below.refl _ _).alloc (Nat.le_refl _) _) _⟩
  · obtain ⟨k, rfl⟩ := Int.eq_ofNat_of_zero_le hi
    have hd : decide ((k : Int) < 0) = false := by simp
    go_enter Tryz.func128, Tryz.ntmps128
    go_wp2_with fail
    go_quiet (fail)
    have hbW : Below w.heap.size w ((w.alloc (.cells #[.int .i64 k, .int .i64 c, .bool b] 212)).drewN nq) := below_drewN ((Below.refl _ _).alloc (Nat.le_refl _) _) nq
    have hzW : ((w.alloc (.cells #[.int .i64 k, .int .i64 c, .bool b] 212)).drewN nq).heap.size = w.heap.size + 1 := by simp
    have hX : ((w.alloc (.cells #[.int .i64 k, .int .i64 c, .bool b] 212)).drewN nq).heap[w.heap.size]? = some (.cells #[.int .i64 k, .int .i64 c, .bool b] 212 (0, 0)) := heap_alloc_new w _
    generalize (w.alloc (.cells #[.int .i64 k, .int .i64 c, .bool b] 212)).drewN nq = W at hbW hzW hX ⊢
    have HW := Lib.hid (H.out.below hbW)
    have d0 := cell_at HW.out.blk 0
    have d1 := cell_at HW.out.blk 1
    have x0 := cell_at hX 0
    have x1 := cell_at hX 1
    have x2 := cell_at hX 2
    simp at d0 d1 x0 x1 x2
    clear c0 c1 c4
    have hcW : CompsAt W.drew.heap.size W.drew ca cl g.cs := HW.out.comps
    have HCW := Lib.hid hcW
    clear hcW
    have hcW2 : CompsAt (W.alloc (.cells #[.int .i64 0, .string ByteArray.empty, .slice none 0 0] 80)).drew.heap.size (W.alloc (.cells #[.int .i64 0, .string ByteArray.empty, .slice none 0 0] 80)).drew ca cl g.cs := (HW.out.comps.below ((Below.refl W.heap.size W).alloc (Nat.le_refl _) (.cells #[.int .i64 0, .string ByteArray.empty, .slice none 0 0] 80))).mono (by simp)
    have HCW2 := Lib.hid hcW2
    clear hcW2
    have hz : ∀ wf, Below (W.alloc (.cells #[.int .i64 0, .string ByteArray.empty, .slice none 0 0] 80)).drew.heap.size (W.alloc (.cells #[.int .i64 0, .string ByteArray.empty, .slice none 0 0] 80)).drew wf → (wf.cell? ⟨gb, 0, none⟩ = some (.int .i64 g.ver) ∧ wf.cell? ⟨gb, 1, none⟩ = some (.slice ca cl cc) ∧ wf.cell? ⟨w.heap.size, 1, none⟩ = some (.int .i64 c)) ∧
        wf.cell? ⟨w.heap.size + 1, 0, none⟩ = some (.int .i64 0) ∧ wf.cell? ⟨w.heap.size + 1, 1, none⟩ = some (.string ByteArray.empty) ∧ wf.cell? ⟨w.heap.size + 1, 2, none⟩ = some (.slice none 0 0) ∧ wf.frozen? ⟨w.heap.size + 1, 0, none⟩ = false ∧ wf.frozen? ⟨w.heap.size + 1, 1, none⟩ = false ∧ wf.frozen? ⟨w.heap.size + 1, 2, none⟩ = false ∧
        ∀ u0 u1 u2, (((wf.setCell ⟨w.heap.size + 1, 0, none⟩ u0).setCell ⟨w.heap.size + 1, 1, none⟩ u1).setCell ⟨w.heap.size + 1, 2, none⟩ u2).cell? ⟨gb, 0, none⟩ = some (.int .i64 g.ver) ∧ (((wf.setCell ⟨w.heap.size + 1, 0, none⟩ u0).setCell ⟨w.heap.size + 1, 1, none⟩ u1).setCell ⟨w.heap.size + 1, 2, none⟩ u2).cell? ⟨gb, 1, none⟩ = some (.slice ca cl cc) ∧ (((wf.setCell ⟨w.heap.size + 1, 0, none⟩ u0).setCell ⟨w.heap.size + 1, 1, none⟩ u1).setCell ⟨w.heap.size + 1, 2, none⟩ u2).cell? ⟨w.heap.size, 1, none⟩ = some (.int .i64 c) := by
      intro wf hb
      have k1 := keep hb (show (W.alloc (.cells #[.int .i64 0, .string ByteArray.empty, .slice none 0 0] 80)).drew.heap[gb]? = _ from keepA _ HW.out.blk)
      have k2 := keep hb (show (W.alloc (.cells #[.int .i64 0, .string ByteArray.empty, .slice none 0 0] 80)).drew.heap[w.heap.size]? = _ from keepA _ hX)
      have k3 := keep hb (show (W.alloc (.cells #[.int .i64 0, .string ByteArray.empty, .slice none 0 0] 80)).drew.heap[W.heap.size]? = _ from heap_alloc_new W _)
      rw [hzW] at k3
      refine ⟨⟨by rw [cell_at k1]; rfl, by rw [cell_at k1]; rfl, by rw [cell_at k2]; rfl⟩, by rw [cell_at k3]; rfl, by rw [cell_at k3]; rfl, by rw [cell_at k3]; rfl, free_at k3 _, free_at k3 _, free_at k3 _, fun u0 u1 u2 => ?_⟩
      have k4 := (set3_ne wf (w.heap.size + 1) u0 u1 u2 gb (by omega)).trans k1
      have k5 := (set3_ne wf (w.heap.size + 1) u0 u1 u2 w.heap.size (by omega)).trans k2
      exact ⟨by rw [cell_at k4]; rfl, by rw [cell_at k4]; rfl, by rw [cell_at k5]; rfl⟩
    have HZ := Lib.hid hz
    clear hz
    have hb1 : ∀ wf, Below W.drew.heap.size W.drew wf → ∀ o, Below w.heap.size w (wf.alloc o) ∧ (wf.alloc o).heap[w.heap.size]? = some (.cells #[.int .i64 k, .int .i64 c, .bool b] 212 (0, 0)) := by
      intro wf hb o
      have h1 : Below w.heap.size w wf := hbW.trans (Below.mono (B := W.heap.size) (undrew hb) (by omega))
      exact ⟨h1.alloc h1.size _, keepA _ (keep hb hX)⟩
    have HB1 := Lib.hid hb1
    clear hb1
    have hb2 : ∀ wf, Below (W.alloc (.cells #[.int .i64 0, .string ByteArray.empty, .slice none 0 0] 80)).drew.heap.size (W.alloc (.cells #[.int .i64 0, .string ByteArray.empty, .slice none 0 0] 80)).drew wf → ∀ u0 u1 u2, Below w.heap.size w (((wf.setCell ⟨w.heap.size + 1, 0, none⟩ u0).setCell ⟨w.heap.size + 1, 1, none⟩ u1).setCell ⟨w.heap.size + 1, 2, none⟩ u2) ∧
        (((wf.setCell ⟨w.heap.size + 1, 0, none⟩ u0).setCell ⟨w.heap.size + 1, 1, none⟩ u1).setCell ⟨w.heap.size + 1, 2, none⟩ u2).heap[w.heap.size]? = some (.cells #[.int .i64 k, .int .i64 c, .bool b] 212 (0, 0)) := by
      intro wf hb u0 u1 u2
      have hz : (W.alloc (.cells #[.int .i64 0, .string ByteArray.empty, .slice none 0 0] 80)).heap.size = W.heap.size + 1 := World.size_alloc _ _
      have h1 : Below w.heap.size w wf := (hbW.alloc (by omega) _).trans (Below.mono (B := (W.alloc (.cells #[.int .i64 0, .string ByteArray.empty, .slice none 0 0] 80)).heap.size) (undrew hb) (by omega))
      exact ⟨((h1.setCell (by simp) _).setCell (by simp) _).setCell (by simp) _, (set3_ne wf (w.heap.size + 1) u0 u1 u2 w.heap.size (by omega)).trans (keep hb (show (W.alloc (.cells #[.int .i64 0, .string ByteArray.empty, .slice none 0 0] 80)).drew.heap[w.heap.size]? = _ from keepA _ hX))⟩
    have HB2 := Lib.hid hb2
    clear hb2
    go_upto_region 5 with (fail)
    go_cut [6] (fun s6 wx => s6 = .bool (findC c g.cs).isSome ∧ Below w.heap.size w wx ∧ wx.heap[w.heap.size]? = some (.cells #[.int .i64 k, .int .i64 c, .bool b] 212 (0, 0)))
    case first =>
      cases hfc : (findC c g.cs).isSome
      · have hfn : findC c g.cs = none := by cases h : findC c g.cs <;> simp_all
        have HFC := Lib.hid hfc
        clear hfc
        go_region_held3 (fun w' => w'.cell? ⟨gb, 0, none⟩ = some (.int .i64 g.ver) ∧ w'.cell? ⟨gb, 1, none⟩ = some (.slice ca cl cc) ∧ w'.cell? ⟨w.heap.size, 1, none⟩ = some (.int .i64 c))
          (first | go_keep | (refine ⟨?_, ?_, ?_⟩; (rw [cell_at (keep hbf HW.out.blk)]; rfl); (rw [cell_at (keep hbf HW.out.blk)]; rfl); (rw [cell_at (keep hbf hX)]; rfl)) | (refine ⟨?_, ?_, ?_⟩; (rw [cell_at (keepA _ (keep hbf HW.out.blk))]; rfl); (rw [cell_at (keepA _ (keep hbf HW.out.blk))]; rfl); (rw [cell_at (keepA _ (keep hbf hX))]; rfl)) | exact (HZ.out _ hbf2).1 | exact (HZ.out _ hbf2).2.2.2.2.2.2.2 _ _ _)
          (first | (go_at_call 87; refine (Find_none _ _ g.cs _ _ _ _ HCW.out H.out.wf.2.1 hfn).mono ?_; rintro e wf ⟨rfl, hbf⟩) | (go_at_call 87; refine (Find_none _ _ g.cs _ _ _ _ HCW2.out H.out.wf.2.1 hfn).mono ?_; rintro e wf2 ⟨rfl, hbf2⟩; obtain ⟨_, z0, z1, z2, y0, y1, y2, _⟩ := HZ.out _ hbf2))
        all_goals
          go_wp2_with fail
          go_meet
          first | exact ⟨congrArg Value.bool HFC.out.symm, HB1.out _ hbf _⟩ | exact ⟨congrArg Value.bool HFC.out.symm, HB2.out _ hbf2 _ _ _⟩
      · have HFS := Lib.hid hfc
        have HFC := Lib.hid hfc
        clear hfc
        go_region_held3 (fun w' => w'.cell? ⟨gb, 0, none⟩ = some (.int .i64 g.ver) ∧ w'.cell? ⟨gb, 1, none⟩ = some (.slice ca cl cc) ∧ w'.cell? ⟨w.heap.size, 1, none⟩ = some (.int .i64 c))
          (first | go_keep | (refine ⟨?_, ?_, ?_⟩; (rw [cell_at (keep hbf HW.out.blk)]; rfl); (rw [cell_at (keep hbf HW.out.blk)]; rfl); (rw [cell_at (keep hbf hX)]; rfl)) | (refine ⟨?_, ?_, ?_⟩; (rw [cell_at (keepA _ (keep hbf HW.out.blk))]; rfl); (rw [cell_at (keepA _ (keep hbf HW.out.blk))]; rfl); (rw [cell_at (keepA _ (keep hbf hX))]; rfl)) | exact (HZ.out _ hbf2).1 | exact (HZ.out _ hbf2).2.2.2.2.2.2.2 _ _ _)
          (first | (go_at_call 87; refine (Find_some _ _ g.cs _ _ _ _ HCW.out H.out.wf.2.1 HFS.out).mono ?_; rintro e wf ⟨fx, fs, va, fl, vc, rfl, hbf⟩) | (go_at_call 87; refine (Find_some _ _ g.cs _ _ _ _ HCW2.out H.out.wf.2.1 HFS.out).mono ?_; rintro e wf2 ⟨fx, fs, va, fl, vc, rfl, hbf2⟩; obtain ⟨_, z0, z1, z2, y0, y1, y2, _⟩ := HZ.out _ hbf2))
        all_goals
          go_wp2_with fail
          go_meet
          first | exact ⟨congrArg Value.bool HFC.out.symm, HB1.out _ hbf _⟩ | exact ⟨congrArg Value.bool HFC.out.symm, HB2.out _ hbf2 _ _ _⟩
    case rest =>
      obtain ⟨rfl, hbc, hXc⟩ := hcut
      cases hfc : (findC c g.cs).isSome
      · have HC : Hid (chkF g k c b = 6) := Lib.hid (by unfold chkF; rw [if_neg (by omega), if_pos hfc])
        clear hfc
        go_wp2_with fail
        go_returns
        exact ⟨ret_intk HC.out.symm, hbc⟩
      · obtain ⟨t, ht⟩ : ∃ t, g.ts[k]? = some t := ⟨_, List.getElem?_eq_getElem (by omega)⟩
        have HC : Hid (chkF g k c b = if hasB t.2 c = b then 7 else 0) := Lib.hid (by
          unfold chkF
          rw [if_neg (by omega), if_neg (by rw [hfc]; simp), Int.toNat_natCast, List.getD_eq_getElem?_getD, sigs_get ht]
          rfl)
        clear hfc
        have HWc := Lib.hid (H.out.below hbc)
        obtain ⟨q, rfl, hq⟩ := HWc.out.cell ht
        obtain ⟨htab, ht0, ht1⟩ := HWc.out.tab t (List.mem_of_getElem? ht)
        have HT := Lib.hid htab
        have e4 := cell_at HWc.out.blk 4
        have y0 := cell_at hXc 0
        have y1 := cell_at hXc 1
        have y2 := cell_at hXc 2
        simp at e4 y0 y1 y2
        have i1 : (0 : Int) ≤ (k : Int) := by omega
        have i2 : (k : Int) < (g.ts.length : Int) := by omega
        clear htab d0 d1 x0 x1 x2
        have hsc : ∀ n, Calls Tryz.prog 50 #[.pointer (some ⟨t.1, 0, none⟩)] (wc.drewN n) fun e w' => e = .returned (.int .u32 t.2) ∧ ∃ m, w' = wc.drewN m := fun n => quiet_same (tsig_any _ _ _ (HT.out.drewN _))
        have HSC := Lib.hid hsc
        clear hsc
        go_wp2_with fail
        go_quiet (first | (go_at_call 50; exact HSC.out _) | (go_at_call 48; exact quiet_same (has_any _ _ _ ht0 ht1)))
        cases hbb : (hasB t.2 c == b)
        · have H2 := Lib.hid (HC.out.trans (if_neg (by simpa using hbb)))
          clear hbb
          go_wp2_with fail
          go_returns
          exact ⟨ret_intk H2.out.symm, below_drewN hbc _⟩
        · have H2 := Lib.hid (HC.out.trans (if_pos (by simpa using hbb)))
          clear hbb
          go_wp2_with fail
          go_returns
          exact ⟨ret_intk H2.out.symm, below_drewN hbc _⟩
end Go.Proofs.YthmpknlgkflhiabGreat
