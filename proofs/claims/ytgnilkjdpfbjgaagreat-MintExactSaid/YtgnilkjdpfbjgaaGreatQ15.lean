/- Mint's ops: wait (the other way), begin, last. · Mint's ops: spawn. · Mint's ops: spawn with two parts. · Mint's next op. Printed by mkfor.py out of MU.in. -/
import Derived.Test.YtgnilkjdpfbjgaaGreatQ14
import Derived.Deep.AppendLies
namespace Go.Proofs.YtgnilkjdpfbjgaaGreat
open Go.RowKit
set_option linter.unusedVariables false
/-- What an op that has no parts leaves. -/
theorem op_plain {sb x r : Nat} {v : Int} {w W : World} {cur : Array Value} (o : OpM) (hw : r = w.heap.size) (hsb : sb < w.heap.size) (hr : W.heap[r]? = some (.cells cur 61 (0, 0))) (hs : StrM W sb x v) (hf : SF sb w W) (hp : o.parts = []) (hc : o.cp = []) :
    IsOp o (W.setRow r (opC o (.slice none 0 0) (.slice none 0 0))) (.returned (.agg (opC o (.slice none 0 0) (.slice none 0 0)))) ∧ StrM (W.setRow r (opC o (.slice none 0 0) (.slice none 0 0))) sb x v ∧ SF sb w (W.setRow r (opC o (.slice none 0 0) (.slice none 0 0))) := by
  obtain ⟨e1, e2, e3⟩ := op_fin hw hsb hr hs hf (setRow_only _ _ _)
  exact ⟨⟨_, _, _, _, _, _, rfl, by rw [hp]; exact parts_nil _, by rw [hc]; exact parts_nil _⟩, e1, e2⟩
set_option maxRecDepth 100000 in
set_option maxHeartbeats 2000000 in
theorem mWait_0 (sb x : Nat) (v : Int) (w : World) (h : StrM w sb x v) (hd : drawN x 2 = 0) : Calls Tryz.prog 63 #[.pointer (some ⟨sb, 0, none⟩)] w fun e w' => IsOp ⟨8, 0, 0, [], 0, 0, 2, entM (drawN (drawX x) 6), 0, [], 0, ByteArray.empty⟩ w' e ∧ StrM w' sb (drawX (drawX x)) v ∧ SF sb w w' := by
  have hl := lt_some h.1
  have hs0 := h.below ((Below.refl _ w).alloc (Nat.le_refl _) (.cells opZ 61))
  have hr0 := heap_alloc_new w (.cells opZ 61)
  have hf0 : SF sb w (w.alloc (.cells opZ 61)) := SF.of ((Below.refl _ w).alloc (Nat.le_refl _) _)
  unfold opZ at hs0 hr0 hf0
  have H := Lib.hid (And.intro hs0 (And.intro hr0 hf0))
  clear h hs0 hr0 hf0
  go_enter Tryz.func63, Tryz.ntmps63
  go_wp2_with fail
  refine (mDraw_any sb x 2 v _ H.out.1 (by decide) (by decide)).mono ?_
  rintro e w1 ⟨rfl, h1, ho⟩
  rw [hd]
  have H1 := Lib.hid (And.intro h1 (And.intro (keepO ho H.out.2.1 (by omega)) (H.out.2.2.trans (SF.only ho))))
  clear h1 ho H
  go_wp2_with fail
  refine (mEnt_any sb _ v _ H1.out.1).mono ?_
  rintro e w2 ⟨rfl, h2, hf2⟩
  have H2 := Lib.hid (And.intro h2 (And.intro (hf2.keep H1.out.2.1 (by omega)) (H1.out.2.2.trans hf2)))
  clear h2 hf2 H1
  have HT := Lib.hid (setRow_get _ _ _ (opC ⟨8, 0, 0, [], 0, 0, 2, entM (drawN (drawX x) 6), 0, [], 0, ByteArray.empty⟩ (.slice none 0 0) (.slice none 0 0)) _ _ H2.out.2.1)
  go_wp2_with (refine wpList_store_row rfl 61 (.tmp 2) (.tmp 18) rfl w.heap.size (opC ⟨8, 0, 0, [], 0, 0, 2, entM (drawN (drawX x) 6), 0, [], 0, ByteArray.empty⟩ (.slice none 0 0) (.slice none 0 0)) rfl rfl 61 _ H2.out.2.1 Tryz.infoRO rfl (opC_one _ _ _ _ _ _ _) ?_)
  refine bodyPost_ret (results_cell_row rfl _ _ w.heap.size 61 _ (0, 0) _ rfl HT.out Tryz.underlying61 rfl Tryz.infoRO) rfl ?_
  exact op_plain _ rfl hl H2.out.2.1 H2.out.1 H2.out.2.2 rfl rfl
set_option maxRecDepth 100000 in
set_option maxHeartbeats 2000000 in
theorem mBegin_any (sb x : Nat) (v : Int) (w : World) (h : StrM w sb x v) (v0 : 0 ≤ v) (v1 : v ≤ 1000000) : Calls Tryz.prog 64 #[.pointer (some ⟨sb, 0, none⟩)] w fun e w' => IsOp ⟨10, 0, 0, [], 0, 0, 0, 0, 0, [], 0, ⟨(mintB v).toArray⟩⟩ w' e ∧ StrM w' sb x (v + 1) ∧ SF sb w w' := by
  have hl := lt_some h.1
  have c1 := cell_at h.1 1
  have f1 := free_at h.1 1
  simp at c1
  have hs1 : StrM (w.setCell ⟨sb, 1, none⟩ (.int .i64 (v + 1))) sb x (v + 1) := ⟨hset _ sb 1 _ _ _ _ h.1, h.2⟩
  have hz1 : (w.setCell ⟨sb, 1, none⟩ (.int .i64 (v + 1))).heap.size = w.heap.size := by simp [World.setCell]
  have hs2 := hs1.below ((Below.refl _ _).alloc (Nat.le_refl _) (.cells opZ 61))
  have hr2 := heap_alloc_new (w.setCell ⟨sb, 1, none⟩ (.int .i64 (v + 1))) (.cells opZ 61)
  have hf2 : SF sb w ((w.setCell ⟨sb, 1, none⟩ (.int .i64 (v + 1))).alloc (.cells opZ 61)) := (SF.only (Only.at w sb 1 (.int .i64 (v + 1)))).trans (SF.of ((Below.refl _ _).alloc (Nat.le_refl _) _))
  rw [hz1] at hr2
  unfold opZ at hs2 hr2 hf2
  have H1 := Lib.hid (And.intro hs2 (And.intro hr2 hf2))
  clear h hs1 hs2 hr2 hf2
  go_enter Tryz.func64, Tryz.ntmps64
  go_wp2_with fail
  refine (mBundle_any v _).mono ?_
  rintro e w2 ⟨rfl, hb2⟩
  have H2 := Lib.hid (And.intro (H1.out.1.below hb2) (And.intro (keep hb2 H1.out.2.1) (H1.out.2.2.trans (SF.of hb2))))
  clear hb2 H1
  have HT := Lib.hid (setRow_get _ _ _ (opC ⟨10, 0, 0, [], 0, 0, 0, 0, 0, [], 0, ⟨(mintB v).toArray⟩⟩ (.slice none 0 0) (.slice none 0 0)) _ _ H2.out.2.1)
  go_wp2_with (refine wpList_store_row rfl 61 (.tmp 2) (.tmp 16) rfl w.heap.size (opC ⟨10, 0, 0, [], 0, 0, 0, 0, 0, [], 0, ⟨(mintB v).toArray⟩⟩ (.slice none 0 0) (.slice none 0 0)) rfl rfl 61 _ H2.out.2.1 Tryz.infoRO rfl (opC_one _ _ _ _ _ _ _) ?_)
  refine bodyPost_ret (results_cell_row rfl _ _ w.heap.size 61 _ (0, 0) _ rfl HT.out Tryz.underlying61 rfl Tryz.infoRO) rfl ?_
  exact op_plain _ rfl hl H2.out.2.1 H2.out.1 H2.out.2.2 rfl rfl
set_option maxRecDepth 100000 in
set_option maxHeartbeats 2000000 in
theorem mLast_0 (sb x : Nat) (v : Int) (w : World) (h : StrM w sb x v) (hd : drawN x 2 = 0) : Calls Tryz.prog 65 #[.pointer (some ⟨sb, 0, none⟩)] w fun e w' => IsOp ⟨7, 0, 0, [], 2, 0, 0, 0, 0, [], 0, ByteArray.empty⟩ w' e ∧ StrM w' sb (drawX x) v ∧ SF sb w w' := by
  have hw2 : sWith 0 1 = 2 := by decide +kernel
  have hl := lt_some h.1
  have hs0 := h.below ((Below.refl _ w).alloc (Nat.le_refl _) (.cells opZ 61))
  have hr0 := heap_alloc_new w (.cells opZ 61)
  have hf0 : SF sb w (w.alloc (.cells opZ 61)) := SF.of ((Below.refl _ w).alloc (Nat.le_refl _) _)
  unfold opZ at hs0 hr0 hf0
  have H := Lib.hid (And.intro hs0 (And.intro hr0 hf0))
  clear h hs0 hr0 hf0
  go_enter Tryz.func65, Tryz.ntmps65
  go_wp2_with fail
  refine (mDraw_any sb x 2 v _ H.out.1 (by decide) (by decide)).mono ?_
  rintro e w1 ⟨rfl, h1, ho⟩
  rw [hd]
  have H1 := Lib.hid (And.intro h1 (And.intro (keepO ho H.out.2.1 (by omega)) (H.out.2.2.trans (SF.only ho))))
  clear h1 ho H
  go_wp2_with fail
  refine (with_any 0 1 _ (by decide) (by decide)).mono ?_
  rintro e w2 ⟨rfl, rfl⟩
  rw [hw2]
  have HT := Lib.hid (setRow_get _ _ _ (opC ⟨7, 0, 0, [], 2, 0, 0, 0, 0, [], 0, ByteArray.empty⟩ (.slice none 0 0) (.slice none 0 0)) _ _ H1.out.2.1)
  go_wp2_with (refine wpList_store_row rfl 61 (.tmp 2) (.tmp 18) rfl w.heap.size (opC ⟨7, 0, 0, [], 2, 0, 0, 0, 0, [], 0, ByteArray.empty⟩ (.slice none 0 0) (.slice none 0 0)) rfl rfl 61 _ H1.out.2.1 Tryz.infoRO rfl (opC_one _ _ _ _ _ _ _) ?_)
  refine bodyPost_ret (results_cell_row rfl _ _ w.heap.size 61 _ (0, 0) _ rfl HT.out Tryz.underlying61 rfl Tryz.infoRO) rfl ?_
  exact op_plain _ rfl hl H1.out.2.1 H1.out.1 H1.out.2.2 rfl rfl
set_option maxRecDepth 100000 in
set_option maxHeartbeats 2000000 in
theorem mLast_1 (sb x : Nat) (v : Int) (w : World) (h : StrM w sb x v) (hd : drawN x 2 = 1) (v0 : 0 ≤ v) (v1 : v ≤ 1000000) : Calls Tryz.prog 65 #[.pointer (some ⟨sb, 0, none⟩)] w fun e w' => IsOp ⟨11, 0, 0, [], 0, 0, 0, 0, 0, [], 0, ByteArray.empty⟩ w' e ∧ StrM w' sb (drawX x) (max 1 (v - 1)) ∧ SF sb w w' := by
  have hl := lt_some h.1
  have hs0 := h.below ((Below.refl _ w).alloc (Nat.le_refl _) (.cells opZ 61))
  have hr0 := heap_alloc_new w (.cells opZ 61)
  have hf0 : SF sb w (w.alloc (.cells opZ 61)) := SF.of ((Below.refl _ w).alloc (Nat.le_refl _) _)
  unfold opZ at hs0 hr0 hf0
  have H := Lib.hid (And.intro hs0 (And.intro hr0 hf0))
  clear h hs0 hr0 hf0
  go_enter Tryz.func65, Tryz.ntmps65
  go_wp2_with fail
  refine (mDraw_any sb x 2 v _ H.out.1 (by decide) (by decide)).mono ?_
  rintro e w1 ⟨rfl, h1, ho⟩
  rw [hd]
  have hr1 := keepO ho H.out.2.1 (by omega)
  have c1 := cell_at h1.1 1
  have f1 := free_at h1.1 1
  simp at c1
  have hl1 := lt_some h1.1
  have hs1 : StrM (w1.setCell ⟨sb, 1, none⟩ (.int .i64 (max 1 (v - 1)))) sb (drawX x) (max 1 (v - 1)) := ⟨hset _ sb 1 _ _ _ _ h1.1, h1.2⟩
  have ho1 := Only.at w1 sb 1 (.int .i64 (max 1 (v - 1)))
  have H1 := Lib.hid (And.intro hs1 (And.intro (keepO ho1 hr1 (by omega)) (H.out.2.2.trans ((SF.only ho).trans (SF.only ho1)))))
  clear h1 ho H hr1 hs1 ho1
  have HT := Lib.hid (setRow_get _ _ _ (opC ⟨11, 0, 0, [], 0, 0, 0, 0, 0, [], 0, ByteArray.empty⟩ (.slice none 0 0) (.slice none 0 0)) _ _ H1.out.2.1)
  go_wp2_with (refine wpList_store_row rfl 61 (.tmp 2) (.tmp 15) rfl w.heap.size (opC ⟨11, 0, 0, [], 0, 0, 0, 0, 0, [], 0, ByteArray.empty⟩ (.slice none 0 0) (.slice none 0 0)) rfl rfl 61 _ H1.out.2.1 Tryz.infoRO rfl (opC_one _ _ _ _ _ _ _) ?_)
  refine bodyPost_ret (results_cell_row rfl _ _ w.heap.size 61 _ (0, 0) _ rfl HT.out Tryz.underlying61 rfl Tryz.infoRO) rfl ?_
  exact op_plain _ rfl hl H1.out.2.1 H1.out.1 H1.out.2.2 rfl rfl
end Go.Proofs.YtgnilkjdpfbjgaaGreat
namespace Go.Proofs.YtgnilkjdpfbjgaaGreat
open Go.RowKit
set_option linter.unusedVariables false
theorem Tryz.infoPa : (Tryz.prog.info? 113).map (fun i => (i.zero, i.size, i.bytes)) = some (some (.agg #[.int .i64 0, .slice none 0 0]), 2, 32) := by kernel_rfl
def spawnA (d : Nat) : OpM := ⟨1, 0, 0, [hpM d], 0, 0, 0, 0, 0, [], 0, ByteArray.empty⟩
def spawnB (d a b : Nat) : OpM := ⟨1, 0, 0, [hpM d, ⟨2, [numW a, numW (-(b : Int))]⟩], 0, 0, 0, 0, 0, [], 0, ByteArray.empty⟩
/-- What spawn has where its op has one part. -/
structure SpM (w W : World) (sb x : Nat) (v : Int) (d q g : Nat) : Prop where
  str : StrM W sb x v
  sf : SF sb w W
  res : W.heap[w.heap.size]? = some (.cells opZ 61 (0, 0))
  op : W.heap[g]? = some (.cells (opC (spawnA d) (.slice (some ⟨q, 0, none⟩) 1 1) (.slice none 0 0)) 61 (0, 0))
  row : ∃ qi, W.heap[q]? = some (.cells #[.int .i64 1, .slice (some ⟨qi, 0, none⟩) 1 1] 113 (0, 0)) ∧ At W TN (.r 1 [.v (.bool false), .v (.int .u64 0), .v (.int .u64 (d : Nat))]) (.slice (some ⟨qi, 0, none⟩) 1 1)
  lt : w.heap.size < q ∧ q < g
theorem SpM.sf' {w W W' : World} {sb x x' : Nat} {v : Int} {d q g : Nat} (h : SpM w W sb x v d q g) (hf : SF sb W W') (hs : StrM W' sb x' v) (hsb : sb < w.heap.size) : SpM w W' sb x' v d q g := by
  have hl := h.lt
  obtain ⟨qi, hq, ha⟩ := h.row
  exact ⟨hs, h.sf.trans hf, hf.keep h.res (by omega), hf.keep h.op (by omega), ⟨qi, hf.keep hq (by omega), ha.sf hf h.str (fun h => absurd (show (70 : TypeId) = 109 from h) (by decide))⟩, hl⟩
theorem SpM.below {w W W' : World} {sb x : Nat} {v : Int} {d q g : Nat} (h : SpM w W sb x v d q g) (hb : Below W.heap.size W W') (hsb : sb < w.heap.size) : SpM w W' sb x v d q g := h.sf' (SF.of hb) (h.str.below hb) hsb
theorem spawn_made {w w1 : World} {sb x : Nat} {v : Int} {d qi : Nat} (hsb : sb < w.heap.size) (h1 : StrM w1 sb x v) (hf : SF sb w w1) (hr : w1.heap[w.heap.size]? = some (.cells opZ 61 (0, 0))) (ha : At w1 TN (.r 1 [.v (.bool false), .v (.int .u64 0), .v (.int .u64 (d : Nat))]) (.slice (some ⟨qi, 0, none⟩) 1 1)) :
    SpM w (((w1.alloc (.cells #[.int .i64 1, .slice (some ⟨qi, 0, none⟩) 1 1] 113)).alloc (.cells opZ 61)).setRow (w1.heap.size + 1) (opC (spawnA d) (.slice (some ⟨w1.heap.size, 0, none⟩) 1 1) (.slice none 0 0))) sb x v d w1.heap.size (w1.heap.size + 1) := by
  have hl1 := lt_some hr
  have hb : Below w1.heap.size w1 ((w1.alloc (.cells #[.int .i64 1, .slice (some ⟨qi, 0, none⟩) 1 1] 113)).alloc (.cells opZ 61)) := by go_grown
  have ho := setRow_only ((w1.alloc (.cells #[.int .i64 1, .slice (some ⟨qi, 0, none⟩) 1 1] 113)).alloc (.cells opZ 61)) (w1.heap.size + 1) (opC (spawnA d) (.slice (some ⟨w1.heap.size, 0, none⟩) 1 1) (.slice none 0 0))
  have hB : Below w1.heap.size w1 (((w1.alloc (.cells #[.int .i64 1, .slice (some ⟨qi, 0, none⟩) 1 1] 113)).alloc (.cells opZ 61)).setRow (w1.heap.size + 1) (opC (spawnA d) (.slice (some ⟨w1.heap.size, 0, none⟩) 1 1) (.slice none 0 0))) := hb.trans (ho.below (by omega))
  refine ⟨h1.below hB, hf.trans (SF.of hB), keep hB hr, ?_, ⟨qi, ?_, ha.below hB⟩, by omega, by omega⟩
  · exact setRow_get _ _ _ _ _ _ (at_new (by simp))
  · exact keepO ho (keepA _ (heap_alloc_new w1 _)) (by omega)
/-- The end of spawn: the op is its result. -/
theorem spawn_end {w W : World} {sb x : Nat} {v : Int} {d q g : Nat} (h : SpM w W sb x v d q g) (hsb : sb < w.heap.size) :
    IsOp (spawnA d) (W.setRow w.heap.size (opC (spawnA d) (.slice (some ⟨q, 0, none⟩) 1 1) (.slice none 0 0))) (.returned (.agg (opC (spawnA d) (.slice (some ⟨q, 0, none⟩) 1 1) (.slice none 0 0)))) ∧ StrM (W.setRow w.heap.size (opC (spawnA d) (.slice (some ⟨q, 0, none⟩) 1 1) (.slice none 0 0))) sb x v ∧ SF sb w (W.setRow w.heap.size (opC (spawnA d) (.slice (some ⟨q, 0, none⟩) 1 1) (.slice none 0 0))) := by
  obtain ⟨e1, e2, e3⟩ := op_fin rfl hsb h.res h.str h.sf (setRow_only _ _ _)
  obtain ⟨qi, hq, ha⟩ := h.row
  refine ⟨⟨_, _, _, _, _, _, rfl, e3 _ _ ?_, parts_nil _⟩, e1, e2⟩
  exact parts_one (p := hpM d) hq (by unfold hpM; rw [numW_nat]; exact ha.types fun _ _ _ _ _ h => .inr h)
set_option maxRecDepth 100000 in
set_option maxHeartbeats 2000000 in
theorem mSpawn_0 (sb x : Nat) (v : Int) (w : World) (h : StrM w sb x v) (hd : drawN (drawX x) 2 = 0) : Calls Tryz.prog 66 #[.pointer (some ⟨sb, 0, none⟩)] w fun e w' => IsOp (spawnA (drawN x 200)) w' e ∧ StrM w' sb (drawX (drawX x)) v ∧ SF sb w w' := by
  have hl := lt_some h.1
  have hs0 := h.below ((Below.refl _ w).alloc (Nat.le_refl _) (.cells opZ 61))
  have hr0 := heap_alloc_new w (.cells opZ 61)
  have hf0 : SF sb w (w.alloc (.cells opZ 61)) := SF.of ((Below.refl _ w).alloc (Nat.le_refl _) _)
  unfold opZ at hs0 hr0 hf0
  have H := Lib.hid (And.intro hs0 (And.intro hr0 hf0))
  clear h hs0 hr0 hf0
  go_enter Tryz.func66, Tryz.ntmps66
  go_wp2_with fail
  refine (mHp_any sb x v _ H.out.1).mono ?_
  rintro e w1 ⟨qi, rfl, hat, h1, hf1⟩
  have hr1 := hf1.keep H.out.2.1 (by omega)
  have hz1 := hf1.size
  have hl1 := lt_some hr1
  have HA := Lib.hid (at_new (w := w1.alloc (.cells #[.int .i64 1, .slice (some ⟨qi, 0, none⟩) 1 1] 113)) (k := w1.heap.size + 1) (cur := opZ) (t := 61) (by simp))
  have HS := Lib.hid (spawn_made hl h1 (H.out.2.2.trans hf1) hr1 hat)
  clear h1 hf1 hat hr1 H
  go_wp2_with (refine wpList_store_row rfl 61 (.tmp 3) (.tmp 9) rfl (w1.heap.size + 1) (opC (spawnA (drawN x 200)) (.slice (some ⟨w1.heap.size, 0, none⟩) 1 1) (.slice none 0 0)) rfl rfl 61 _ HA.out Tryz.infoRO rfl (opC_one _ _ _ _ _ _ _) ?_)
  refine (mDraw_any sb _ 2 v _ HS.out.str (by decide) (by decide)).mono ?_
  rintro e w2 ⟨rfl, h2, ho⟩
  rw [hd]
  have HS2 := Lib.hid (HS.out.sf' (SF.only ho) h2 hl)
  clear h2 ho HS HA
  have HT := Lib.hid (setRow_get _ _ _ (opC (spawnA (drawN x 200)) (.slice (some ⟨w1.heap.size, 0, none⟩) 1 1) (.slice none 0 0)) _ _ HS2.out.res)
  go_wp2_with (first | (refine wpList_load_row rfl 61 (.tmp 3) rfl (w1.heap.size + 1) rfl 61 (opC (spawnA (drawN x 200)) (.slice (some ⟨w1.heap.size, 0, none⟩) 1 1) (.slice none 0 0)) (0, 0) _ HS2.out.op Tryz.underlying61 rfl Tryz.infoRO ?_) | (refine wpList_store_row rfl 61 (.tmp 2) (.tmp 29) rfl w.heap.size (opC (spawnA (drawN x 200)) (.slice (some ⟨w1.heap.size, 0, none⟩) 1 1) (.slice none 0 0)) rfl rfl 61 _ HS2.out.res Tryz.infoRO rfl (opC_one _ _ _ _ _ _ _) ?_))
  refine bodyPost_ret (results_cell_row rfl _ _ w.heap.size 61 _ (0, 0) _ rfl HT.out Tryz.underlying61 rfl Tryz.infoRO) rfl ?_
  exact spawn_end HS2.out hl
end Go.Proofs.YtgnilkjdpfbjgaaGreat
namespace Go.Proofs.YtgnilkjdpfbjgaaGreat
open Go.RowKit
set_option linter.unusedVariables false
set_option maxRecDepth 100000 in
set_option maxHeartbeats 2000000 in
theorem mSpawn_1v (sb x xa xb xc xd d da db : Nat) (v : Int) (w : World) (h : StrM w sb x v) (ea : drawX x = xa) (ed : drawN x 200 = d) (eb : drawX xa = xb) (hd : drawN xa 2 = 1) (ec : drawX xb = xc) (hda : drawN xb 100 = da) (ee : drawX xc = xd) (hdb : drawN xc 100 = db) :
    Calls Tryz.prog 66 #[.pointer (some ⟨sb, 0, none⟩)] w fun e w' => IsOp (spawnB d da db) w' e ∧ StrM w' sb xd v ∧ SF sb w w' := by
  obtain ⟨i0, hiI, hzA, hzB, hzC⟩ := info_parts Tryz.infoPa
  have hl := lt_some h.1
  have hs0 := h.below ((Below.refl _ w).alloc (Nat.le_refl _) (.cells opZ 61))
  have hr0 := heap_alloc_new w (.cells opZ 61)
  have hf0 : SF sb w (w.alloc (.cells opZ 61)) := SF.of ((Below.refl _ w).alloc (Nat.le_refl _) _)
  unfold opZ at hs0 hr0 hf0
  have H := Lib.hid (And.intro hs0 (And.intro hr0 hf0))
  clear h hs0 hr0 hf0
  go_enter Tryz.func66, Tryz.ntmps66
  go_wp2_with fail
  have hhp := mHp_any sb x v _ H.out.1
  rw [ea, ed] at hhp
  refine hhp.mono ?_
  rintro e w1 ⟨qi, rfl, hat, h1, hf1⟩
  have hr1 := hf1.keep H.out.2.1 (by omega)
  have hz1 := hf1.size
  have hl1 := lt_some hr1
  have HA := Lib.hid (at_new (w := w1.alloc (.cells #[.int .i64 1, .slice (some ⟨qi, 0, none⟩) 1 1] 113)) (k := w1.heap.size + 1) (cur := opZ) (t := 61) (by simp))
  have HS := Lib.hid (spawn_made hl h1 (H.out.2.2.trans hf1) hr1 hat)
  clear h1 hf1 hat hr1 H
  go_wp2_with (refine wpList_store_row rfl 61 (.tmp 3) (.tmp 9) rfl (w1.heap.size + 1) (opC (spawnA d) (.slice (some ⟨w1.heap.size, 0, none⟩) 1 1) (.slice none 0 0)) rfl rfl 61 _ HA.out Tryz.infoRO rfl (opC_one _ _ _ _ _ _ _) ?_)
  clear hhp
  have hdr := mDraw_any sb _ 2 v _ HS.out.str (by decide) (by decide)
  rw [eb, hd] at hdr
  refine hdr.mono ?_
  rintro e w2 ⟨rfl, h2, ho⟩
  clear hdr
  have HS2 := Lib.hid (HS.out.sf' (SF.only ho) h2 hl)
  clear h2 ho HS HA
  go_wp2_with fail
  have hdr := mDraw_any sb _ 100 v _ HS2.out.str (by decide) (by decide)
  rw [ec, hda] at hdr
  refine hdr.mono ?_
  rintro e w3 ⟨rfl, h3, ho⟩
  have HS3 := Lib.hid (HS2.out.sf' (SF.only ho) h3 hl)
  have ha : da < 100 := by rw [← hda]; exact drawN_lt _ 100 (by decide)
  have hb : db < 100 := by rw [← hdb]; exact drawN_lt _ 100 (by decide)
  clear hdr
  clear h3 ho HS2
  go_wp2_with fail
  refine (wOf_any da _ (by omega) (by omega)).mono ?_
  rintro e w4 ⟨rfl, hb4⟩
  have HS4 := Lib.hid ((HS3.out.below hb4 hl).below ((Below.refl w4.heap.size w4).alloc (Nat.le_refl _) (.cells (numW da).cs 109)) hl)
  have hk4 := heap_alloc_new w4 (.cells (numW da).cs 109)
  have HK4 := Lib.hid hk4
  clear hb4 HS3 hk4
  unfold WI.v
  have hl4 := lt_some HS4.out.str.1
  go_wp2_with fail
  have hdr := mDraw_any sb _ 100 v _ HS4.out.str (by decide) (by decide)
  rw [ee, hdb] at hdr
  refine hdr.mono ?_
  rintro e w5 ⟨rfl, h5, ho5⟩
  clear hdr
  have hne4 : w4.heap.size ≠ sb := by
    have := HS4.out.sf.size
    have h4 := lt_some HS4.out.op
    have h0 := HS4.out.lt
    simp at h4
    omega
  have HS5 := Lib.hid (HS4.out.sf' (SF.only ho5) h5 hl)
  have HK5 := Lib.hid (keepO ho5 HK4.out hne4)
  clear h5 ho5 HS4 HK4
  go_wp2_with fail
  refine (wOf_any (-(db : Int)) _ (by omega) (by omega)).mono ?_
  rintro e w6 ⟨rfl, hb6⟩
  have HS6 := Lib.hid (HS5.out.below hb6 hl)
  have hk6 := keep hb6 HK5.out
  have x0 := cell_at hk6 0
  have x1 := cell_at hk6 1
  have x2 := cell_at hk6 2
  have y3 := cell_at HS6.out.op 3
  have fy := free_at HS6.out.op 3
  unfold WI.cs at x0 x1 x2
  unfold opC spawnA at y3
  simp at x0 x1 x2 y3
  have hlo := lt_some HS6.out.op
  have hl6 := lt_some hk6
  have HK6 := Lib.hid hk6
  clear hb6 HS5 hk6
  unfold WI.v
  have hbW : Below w6.heap.size w6 (((w6.alloc (.cells (numW (-(db : Int))).cs 109)).alloc (.cells #[.bool (numW da).neg, .int .u64 (numW da).hi, .int .u64 (numW da).lo, .bool (numW (-(db : Int))).neg, .int .u64 (numW (-(db : Int))).hi, .int .u64 (numW (-(db : Int))).lo] 109)).alloc (.cells #[.int .i64 2, .slice (some ⟨w6.heap.size + 1, 0, none⟩) 2 2] 113)) := by go_grown
  have HS7 := Lib.hid (HS6.out.below hbW hl)
  obtain ⟨qj, hqj, hat⟩ := HS7.out.row
  have hown : World.ownsRow (((w6.alloc (.cells (numW (-(db : Int))).cs 109)).alloc (.cells #[.bool (numW da).neg, .int .u64 (numW da).hi, .int .u64 (numW da).lo, .bool (numW (-(db : Int))).neg, .int .u64 (numW (-(db : Int))).hi, .int .u64 (numW (-(db : Int))).lo] 109)).alloc (.cells #[.int .i64 2, .slice (some ⟨w6.heap.size + 1, 0, none⟩) 2 2] 113)) (w.heap.size + 1) 113 2 (.slice (some ⟨w1.heap.size, 0, none⟩) 1 1) 1 [.int .i64 1, .slice (some ⟨qj, 0, none⟩) 1 1] :=
    ⟨rfl, .inr ⟨w1.heap.size, 1, _, rfl, by omega, hqj, Nat.le_refl _, by unfold maxLen; omega, rfl, rfl⟩⟩
  have HOW := Lib.hid hown
  have hbz := hbW.size
  clear hown
  go_wp2_with (at_builtin; go_loud (refine wpList_append_own _ rfl (.tmp 21) (.tmp 26) 47 rfl (w.heap.size + 1) 113 i0 (.agg #[.int .i64 0, .slice none 0 0]) 2 32 Tryz.underlying47 hiI hzA hzB hzC rfl (by decide) (.slice (some ⟨w1.heap.size, 0, none⟩) 1 1) 1 [.int .i64 1, .slice (some ⟨qj, 0, none⟩) 1 1] rfl HOW.out ⟨w6.heap.size + 1 + 1, 0, none⟩ 1 1 [.int .i64 2, .slice (some ⟨w6.heap.size + 1, 0, none⟩) 2 2] rfl rfl ?c1 ?c2 ?c3 ?c4 ?c5 ?_))
  case c1 => exact World.news_of_block (cs := #[.int .i64 2, .slice (some ⟨w6.heap.size + 1, 0, none⟩) 2 2]) (t := 113) (fr := (0, 0)) (at_new (by simp))
  case c2 => intro u hu; simp at hu; rcases hu with rfl | rfl <;> rfl
  case c3 => unfold maxLen; omega
  case c4 => omega
  case c5 => simp; omega
  intro v' w8 hown8 hg8 _
  obtain ⟨va', vc', hv'⟩ := ownsRow_slice hown8
  rw [hv'] at hown8 ⊢
  clear hv'
  have ne : ∀ (b : Nat) (cur : Array Value) (t : TypeId), (World.heap (((w6.alloc (.cells (numW (-(db : Int))).cs 109)).alloc (.cells #[.bool (numW da).neg, .int .u64 (numW da).hi, .int .u64 (numW da).lo, .bool (numW (-(db : Int))).neg, .int .u64 (numW (-(db : Int))).hi, .int .u64 (numW (-(db : Int))).lo] 109)).alloc (.cells #[.int .i64 2, .slice (some ⟨w6.heap.size + 1, 0, none⟩) 2 2] 113)))[b]? = some (.cells cur t (0, 0)) → t ≠ 113 → some b ≠ (Value.slice (some ⟨w1.heap.size, 0, none⟩) 1 1).ownBlock := fun b cur t hb ht => ownsRow_ne_block3 HOW.out hb (fun cur' he => by cases he; exact ht rfl)
  have g1 := keepG hg8 HS7.out.op (ne _ _ _ HS7.out.op (by decide))
  have g2 := keepG hg8 HS7.out.res (ne _ _ _ HS7.out.res (by decide))
  have g3 := keepG hg8 HS7.out.str.1 (ne _ _ _ HS7.out.str.1 (by decide))
  have hOwn := Own.grow (m := 1) (news := [.int .i64 2, .slice (some ⟨w6.heap.size + 1, 0, none⟩) 2 2]) (T := TN) (ds := partD (hpM d)) (es := partD ⟨2, [numW da, numW (-(db : Int))]⟩) HOW.out
    ⟨_, _, rfl, by unfold At; rfl, _, _, rfl, by unfold hpM; rw [numW_nat]; exact hat, rfl⟩ (fun q h => absurd (show (113 : TypeId) = 109 from h) (by decide)) hg8 hown8
    ⟨_, _, rfl, by unfold At; rfl, _, _, rfl, at_block (q := w6.heap.size + 1) (xs := [.bool (numW da).neg, .int .u64 (numW da).hi, .int .u64 (numW da).lo, .bool (numW (-(db : Int))).neg, .int .u64 (numW (-(db : Int))).hi, .int .u64 (numW (-(db : Int))).lo]) (keepA _ (at_new (by simp))) rfl (by unfold maxLen; simp), rfl⟩
  have hA8 : At w8 TO (partsD [hpM d, ⟨2, [numW da, numW (-(db : Int))]⟩]) (.slice va' (1 + 1) vc') := hOwn.at (T' := TO) fun q t _ h => by
    rcases h with h | h
    · exact .inr h
    · exact .inl h
  have hG : Out (fun q => q = w1.heap.size) _ w8 := ⟨hg8.os, hg8.tape, hg8.output, hg8.size, fun k hk hn => hg8.block k hk (by simp [Value.ownBlock]; exact hn)⟩
  have hsf8 : SF sb w w8 := Out.trans HS7.out.sf hG fun q hq => .inr (by omega)
  have z3 := cell_at g1 3
  have zf := free_at g1 3
  unfold opC spawnA at z3
  simp at z3
  have s1 := hset w8 (w1.heap.size + 1) 3 (.slice va' (1 + 1) vc') _ _ _ g1
  have ho8 := Only.at w8 (w1.heap.size + 1) 3 (.slice va' (1 + 1) vc')
  have s2 := keepO ho8 g2 (by omega)
  have s3 : StrM (w8.setCell ⟨w1.heap.size + 1, 3, none⟩ (.slice va' (1 + 1) vc')) sb (xd) v := ⟨keepO ho8 g3 (by omega), HS7.out.str.2⟩
  have s4 := hA8.only ho8 g1 (by rintro (h | h) <;> exact absurd h (by decide))
  have s5 : SF sb w (w8.setCell ⟨w1.heap.size + 1, 3, none⟩ (.slice va' (1 + 1) vc')) := Out.trans hsf8 (Out.only (F := fun q => q = w1.heap.size + 1) ho8 rfl) fun q hq => .inr (by omega)
  have s1' : (w8.setCell ⟨w1.heap.size + 1, 3, none⟩ (.slice va' (1 + 1) vc')).heap[w1.heap.size + 1]? = some (.cells (opC (spawnB d da db) (.slice va' (1 + 1) vc') (.slice none 0 0)) 61 (0, 0)) := s1
  have HF := Lib.hid (And.intro s1' (And.intro s2 (And.intro s3 (And.intro s4 s5))))
  have HT := Lib.hid (setRow_get _ _ _ (opC (spawnB d da db) (.slice va' (1 + 1) vc') (.slice none 0 0)) _ _ s2)
  have hl8 := lt_some g1
  clear g1 g2 g3 hOwn hA8 hG hsf8 s1 ho8 s2 s3 s4 s5 s1' hown8 hg8 ne hat hqj HS7 HOW
  go_wp2_with (first | (refine wpList_load_row rfl 61 (.tmp 3) rfl (w1.heap.size + 1) rfl 61 (opC (spawnB d da db) (.slice va' (1 + 1) vc') (.slice none 0 0)) (0, 0) _ HF.out.1 Tryz.underlying61 rfl Tryz.infoRO ?_) | (refine wpList_store_row rfl 61 (.tmp 2) (.tmp 29) rfl w.heap.size (opC (spawnB d da db) (.slice va' (1 + 1) vc') (.slice none 0 0)) rfl rfl 61 _ HF.out.2.1 Tryz.infoRO rfl (opC_one _ _ _ _ _ _ _) ?_))
  refine bodyPost_ret (results_cell_row rfl _ _ w.heap.size 61 _ (0, 0) _ rfl HT.out Tryz.underlying61 rfl Tryz.infoRO) rfl ?_
  obtain ⟨e1, e2, e3⟩ := op_fin rfl hl HF.out.2.1 HF.out.2.2.1 HF.out.2.2.2.2 (setRow_only _ _ _)
  exact ⟨⟨_, _, _, _, _, _, rfl, e3 _ _ HF.out.2.2.2.1, parts_nil _⟩, e1, e2⟩
theorem mSpawn_1 (sb x : Nat) (v : Int) (w : World) (h : StrM w sb x v) (hd : drawN (drawX x) 2 = 1) : Calls Tryz.prog 66 #[.pointer (some ⟨sb, 0, none⟩)] w fun e w' => IsOp (spawnB (drawN x 200) (drawN (drawX (drawX x)) 100) (drawN (drawX (drawX (drawX x))) 100)) w' e ∧ StrM w' sb (drawX (drawX (drawX (drawX x)))) v ∧ SF sb w w' :=
  mSpawn_1v sb x _ _ _ _ _ _ _ v w h rfl rfl rfl hd rfl rfl rfl rfl
end Go.Proofs.YtgnilkjdpfbjgaaGreat
namespace Go.Proofs.YtgnilkjdpfbjgaaGreat
open Go.RowKit
set_option linter.unusedVariables false
def IsStep (o : OpM) (x : Nat) (v : Int) (sb : Nat) (w : World) (e : Ending) (w' : World) : Prop := IsOp o w' e ∧ StrM w' sb x v ∧ SF sb w w'
set_option maxRecDepth 100000 in
set_option maxHeartbeats 1000000 in
theorem mNext_0 (sb x x1 x' : Nat) (v v' : Int) (o : OpM) (w : World) (h : StrM w sb x v) (hx : drawX x = x1) (hk : drawN x 10 = 0) (hc : ∀ W, StrM W sb x1 v → Calls Tryz.prog 66 #[.pointer (some ⟨sb, 0, none⟩)] W (IsStep o x' v' sb W)) : Calls Tryz.prog 30 #[.pointer (some ⟨sb, 0, none⟩)] w (IsStep o x' v' sb w) := by
  have hl := lt_some h.1
  have hs0 := h.below ((Below.refl _ w).alloc (Nat.le_refl _) (.cells opZ 61))
  have hr0 := heap_alloc_new w (.cells opZ 61)
  have hf0 : SF sb w (w.alloc (.cells opZ 61)) := SF.of ((Below.refl _ w).alloc (Nat.le_refl _) _)
  unfold opZ at hs0 hr0 hf0
  have H := Lib.hid (And.intro hs0 (And.intro hr0 hf0))
  have HC := Lib.hid hc
  clear h hs0 hr0 hf0 hc
  go_enter Tryz.func30, Tryz.ntmps30
  go_wp2_with fail
  have hdr := mDraw_any sb x 10 v _ H.out.1 (by decide) (by decide)
  rw [hx, hk] at hdr
  refine hdr.mono ?_
  rintro e w1 ⟨rfl, h1, ho⟩
  have H1 := Lib.hid (And.intro h1 (And.intro (keepO ho H.out.2.1 (by omega)) (H.out.2.2.trans (SF.only ho))))
  clear h1 ho H hdr
  go_wp2_with fail
  refine (HC.out _ H1.out.1).mono ?_
  rintro e w2 ⟨⟨a, n, c, a', n', c', rfl, hA, hB⟩, h2, hf2⟩
  have hr2 := hf2.keep H1.out.2.1 (by omega)
  have H2 := Lib.hid (And.intro h2 (And.intro hr2 (And.intro (H1.out.2.2.trans hf2) (And.intro hA hB))))
  have HT := Lib.hid (setRow_get _ _ _ (opC o (.slice a n c) (.slice a' n' c')) _ _ hr2)
  clear h2 hf2 hA hB hr2 H1
  go_wp2_with (refine wpList_store_row rfl 61 (.tmp 2) (.tmp 48) rfl w.heap.size (opC o (.slice a n c) (.slice a' n' c')) rfl rfl 61 _ H2.out.2.1 Tryz.infoRO rfl (opC_one _ _ _ _ _ _ _) ?_)
  refine bodyPost_ret (results_cell_row rfl _ _ w.heap.size 61 _ (0, 0) _ rfl HT.out Tryz.underlying61 rfl Tryz.infoRO) rfl ?_
  obtain ⟨e1, e2, e3⟩ := op_fin rfl hl H2.out.2.1 H2.out.1 H2.out.2.2.1 (setRow_only _ _ _)
  exact ⟨⟨_, _, _, _, _, _, rfl, e3 _ _ H2.out.2.2.2.1, e3 _ _ H2.out.2.2.2.2⟩, e1, e2⟩
set_option maxRecDepth 100000 in
set_option maxHeartbeats 1000000 in
theorem mNext_1 (sb x x1 x' : Nat) (v v' : Int) (o : OpM) (w : World) (h : StrM w sb x v) (hx : drawX x = x1) (hk : drawN x 10 = 1) (hc : ∀ W, StrM W sb x1 v → Calls Tryz.prog 66 #[.pointer (some ⟨sb, 0, none⟩)] W (IsStep o x' v' sb W)) : Calls Tryz.prog 30 #[.pointer (some ⟨sb, 0, none⟩)] w (IsStep o x' v' sb w) := by
  have hl := lt_some h.1
  have hs0 := h.below ((Below.refl _ w).alloc (Nat.le_refl _) (.cells opZ 61))
  have hr0 := heap_alloc_new w (.cells opZ 61)
  have hf0 : SF sb w (w.alloc (.cells opZ 61)) := SF.of ((Below.refl _ w).alloc (Nat.le_refl _) _)
  unfold opZ at hs0 hr0 hf0
  have H := Lib.hid (And.intro hs0 (And.intro hr0 hf0))
  have HC := Lib.hid hc
  clear h hs0 hr0 hf0 hc
  go_enter Tryz.func30, Tryz.ntmps30
  go_wp2_with fail
  have hdr := mDraw_any sb x 10 v _ H.out.1 (by decide) (by decide)
  rw [hx, hk] at hdr
  refine hdr.mono ?_
  rintro e w1 ⟨rfl, h1, ho⟩
  have H1 := Lib.hid (And.intro h1 (And.intro (keepO ho H.out.2.1 (by omega)) (H.out.2.2.trans (SF.only ho))))
  clear h1 ho H hdr
  go_wp2_with fail
  refine (HC.out _ H1.out.1).mono ?_
  rintro e w2 ⟨⟨a, n, c, a', n', c', rfl, hA, hB⟩, h2, hf2⟩
  have hr2 := hf2.keep H1.out.2.1 (by omega)
  have H2 := Lib.hid (And.intro h2 (And.intro hr2 (And.intro (H1.out.2.2.trans hf2) (And.intro hA hB))))
  have HT := Lib.hid (setRow_get _ _ _ (opC o (.slice a n c) (.slice a' n' c')) _ _ hr2)
  clear h2 hf2 hA hB hr2 H1
  go_wp2_with (refine wpList_store_row rfl 61 (.tmp 2) (.tmp 48) rfl w.heap.size (opC o (.slice a n c) (.slice a' n' c')) rfl rfl 61 _ H2.out.2.1 Tryz.infoRO rfl (opC_one _ _ _ _ _ _ _) ?_)
  refine bodyPost_ret (results_cell_row rfl _ _ w.heap.size 61 _ (0, 0) _ rfl HT.out Tryz.underlying61 rfl Tryz.infoRO) rfl ?_
  obtain ⟨e1, e2, e3⟩ := op_fin rfl hl H2.out.2.1 H2.out.1 H2.out.2.2.1 (setRow_only _ _ _)
  exact ⟨⟨_, _, _, _, _, _, rfl, e3 _ _ H2.out.2.2.2.1, e3 _ _ H2.out.2.2.2.2⟩, e1, e2⟩
set_option maxRecDepth 100000 in
set_option maxHeartbeats 1000000 in
theorem mNext_2 (sb x x1 x' : Nat) (v v' : Int) (o : OpM) (w : World) (h : StrM w sb x v) (hx : drawX x = x1) (hk : drawN x 10 = 2) (hc : ∀ W, StrM W sb x1 v → Calls Tryz.prog 66 #[.pointer (some ⟨sb, 0, none⟩)] W (IsStep o x' v' sb W)) : Calls Tryz.prog 30 #[.pointer (some ⟨sb, 0, none⟩)] w (IsStep o x' v' sb w) := by
  have hl := lt_some h.1
  have hs0 := h.below ((Below.refl _ w).alloc (Nat.le_refl _) (.cells opZ 61))
  have hr0 := heap_alloc_new w (.cells opZ 61)
  have hf0 : SF sb w (w.alloc (.cells opZ 61)) := SF.of ((Below.refl _ w).alloc (Nat.le_refl _) _)
  unfold opZ at hs0 hr0 hf0
  have H := Lib.hid (And.intro hs0 (And.intro hr0 hf0))
  have HC := Lib.hid hc
  clear h hs0 hr0 hf0 hc
  go_enter Tryz.func30, Tryz.ntmps30
  go_wp2_with fail
  have hdr := mDraw_any sb x 10 v _ H.out.1 (by decide) (by decide)
  rw [hx, hk] at hdr
  refine hdr.mono ?_
  rintro e w1 ⟨rfl, h1, ho⟩
  have H1 := Lib.hid (And.intro h1 (And.intro (keepO ho H.out.2.1 (by omega)) (H.out.2.2.trans (SF.only ho))))
  clear h1 ho H hdr
  go_wp2_with fail
  refine (HC.out _ H1.out.1).mono ?_
  rintro e w2 ⟨⟨a, n, c, a', n', c', rfl, hA, hB⟩, h2, hf2⟩
  have hr2 := hf2.keep H1.out.2.1 (by omega)
  have H2 := Lib.hid (And.intro h2 (And.intro hr2 (And.intro (H1.out.2.2.trans hf2) (And.intro hA hB))))
  have HT := Lib.hid (setRow_get _ _ _ (opC o (.slice a n c) (.slice a' n' c')) _ _ hr2)
  clear h2 hf2 hA hB hr2 H1
  go_wp2_with (refine wpList_store_row rfl 61 (.tmp 2) (.tmp 48) rfl w.heap.size (opC o (.slice a n c) (.slice a' n' c')) rfl rfl 61 _ H2.out.2.1 Tryz.infoRO rfl (opC_one _ _ _ _ _ _ _) ?_)
  refine bodyPost_ret (results_cell_row rfl _ _ w.heap.size 61 _ (0, 0) _ rfl HT.out Tryz.underlying61 rfl Tryz.infoRO) rfl ?_
  obtain ⟨e1, e2, e3⟩ := op_fin rfl hl H2.out.2.1 H2.out.1 H2.out.2.2.1 (setRow_only _ _ _)
  exact ⟨⟨_, _, _, _, _, _, rfl, e3 _ _ H2.out.2.2.2.1, e3 _ _ H2.out.2.2.2.2⟩, e1, e2⟩
set_option maxRecDepth 100000 in
set_option maxHeartbeats 1000000 in
theorem mNext_6 (sb x x1 x' : Nat) (v v' : Int) (o : OpM) (w : World) (h : StrM w sb x v) (hx : drawX x = x1) (hk : drawN x 10 = 6) (hc : ∀ W, StrM W sb x1 v → Calls Tryz.prog 63 #[.pointer (some ⟨sb, 0, none⟩)] W (IsStep o x' v' sb W)) : Calls Tryz.prog 30 #[.pointer (some ⟨sb, 0, none⟩)] w (IsStep o x' v' sb w) := by
  have hl := lt_some h.1
  have hs0 := h.below ((Below.refl _ w).alloc (Nat.le_refl _) (.cells opZ 61))
  have hr0 := heap_alloc_new w (.cells opZ 61)
  have hf0 : SF sb w (w.alloc (.cells opZ 61)) := SF.of ((Below.refl _ w).alloc (Nat.le_refl _) _)
  unfold opZ at hs0 hr0 hf0
  have H := Lib.hid (And.intro hs0 (And.intro hr0 hf0))
  have HC := Lib.hid hc
  clear h hs0 hr0 hf0 hc
  go_enter Tryz.func30, Tryz.ntmps30
  go_wp2_with fail
  have hdr := mDraw_any sb x 10 v _ H.out.1 (by decide) (by decide)
  rw [hx, hk] at hdr
  refine hdr.mono ?_
  rintro e w1 ⟨rfl, h1, ho⟩
  have H1 := Lib.hid (And.intro h1 (And.intro (keepO ho H.out.2.1 (by omega)) (H.out.2.2.trans (SF.only ho))))
  clear h1 ho H hdr
  go_wp2_with fail
  refine (HC.out _ H1.out.1).mono ?_
  rintro e w2 ⟨⟨a, n, c, a', n', c', rfl, hA, hB⟩, h2, hf2⟩
  have hr2 := hf2.keep H1.out.2.1 (by omega)
  have H2 := Lib.hid (And.intro h2 (And.intro hr2 (And.intro (H1.out.2.2.trans hf2) (And.intro hA hB))))
  have HT := Lib.hid (setRow_get _ _ _ (opC o (.slice a n c) (.slice a' n' c')) _ _ hr2)
  clear h2 hf2 hA hB hr2 H1
  go_wp2_with (refine wpList_store_row rfl 61 (.tmp 2) (.tmp 33) rfl w.heap.size (opC o (.slice a n c) (.slice a' n' c')) rfl rfl 61 _ H2.out.2.1 Tryz.infoRO rfl (opC_one _ _ _ _ _ _ _) ?_)
  refine bodyPost_ret (results_cell_row rfl _ _ w.heap.size 61 _ (0, 0) _ rfl HT.out Tryz.underlying61 rfl Tryz.infoRO) rfl ?_
  obtain ⟨e1, e2, e3⟩ := op_fin rfl hl H2.out.2.1 H2.out.1 H2.out.2.2.1 (setRow_only _ _ _)
  exact ⟨⟨_, _, _, _, _, _, rfl, e3 _ _ H2.out.2.2.2.1, e3 _ _ H2.out.2.2.2.2⟩, e1, e2⟩
set_option maxRecDepth 100000 in
set_option maxHeartbeats 1000000 in
theorem mNext_8 (sb x x1 x' : Nat) (v v' : Int) (o : OpM) (w : World) (h : StrM w sb x v) (hx : drawX x = x1) (hk : drawN x 10 = 8) (hc : ∀ W, StrM W sb x1 v → Calls Tryz.prog 64 #[.pointer (some ⟨sb, 0, none⟩)] W (IsStep o x' v' sb W)) : Calls Tryz.prog 30 #[.pointer (some ⟨sb, 0, none⟩)] w (IsStep o x' v' sb w) := by
  have hl := lt_some h.1
  have hs0 := h.below ((Below.refl _ w).alloc (Nat.le_refl _) (.cells opZ 61))
  have hr0 := heap_alloc_new w (.cells opZ 61)
  have hf0 : SF sb w (w.alloc (.cells opZ 61)) := SF.of ((Below.refl _ w).alloc (Nat.le_refl _) _)
  unfold opZ at hs0 hr0 hf0
  have H := Lib.hid (And.intro hs0 (And.intro hr0 hf0))
  have HC := Lib.hid hc
  clear h hs0 hr0 hf0 hc
  go_enter Tryz.func30, Tryz.ntmps30
  go_wp2_with fail
  have hdr := mDraw_any sb x 10 v _ H.out.1 (by decide) (by decide)
  rw [hx, hk] at hdr
  refine hdr.mono ?_
  rintro e w1 ⟨rfl, h1, ho⟩
  have H1 := Lib.hid (And.intro h1 (And.intro (keepO ho H.out.2.1 (by omega)) (H.out.2.2.trans (SF.only ho))))
  clear h1 ho H hdr
  go_wp2_with fail
  refine (HC.out _ H1.out.1).mono ?_
  rintro e w2 ⟨⟨a, n, c, a', n', c', rfl, hA, hB⟩, h2, hf2⟩
  have hr2 := hf2.keep H1.out.2.1 (by omega)
  have H2 := Lib.hid (And.intro h2 (And.intro hr2 (And.intro (H1.out.2.2.trans hf2) (And.intro hA hB))))
  have HT := Lib.hid (setRow_get _ _ _ (opC o (.slice a n c) (.slice a' n' c')) _ _ hr2)
  clear h2 hf2 hA hB hr2 H1
  go_wp2_with (refine wpList_store_row rfl 61 (.tmp 2) (.tmp 42) rfl w.heap.size (opC o (.slice a n c) (.slice a' n' c')) rfl rfl 61 _ H2.out.2.1 Tryz.infoRO rfl (opC_one _ _ _ _ _ _ _) ?_)
  refine bodyPost_ret (results_cell_row rfl _ _ w.heap.size 61 _ (0, 0) _ rfl HT.out Tryz.underlying61 rfl Tryz.infoRO) rfl ?_
  obtain ⟨e1, e2, e3⟩ := op_fin rfl hl H2.out.2.1 H2.out.1 H2.out.2.2.1 (setRow_only _ _ _)
  exact ⟨⟨_, _, _, _, _, _, rfl, e3 _ _ H2.out.2.2.2.1, e3 _ _ H2.out.2.2.2.2⟩, e1, e2⟩
set_option maxRecDepth 100000 in
set_option maxHeartbeats 1000000 in
theorem mNext_9 (sb x x1 x' : Nat) (v v' : Int) (o : OpM) (w : World) (h : StrM w sb x v) (hx : drawX x = x1) (hk : drawN x 10 = 9) (hc : ∀ W, StrM W sb x1 v → Calls Tryz.prog 65 #[.pointer (some ⟨sb, 0, none⟩)] W (IsStep o x' v' sb W)) : Calls Tryz.prog 30 #[.pointer (some ⟨sb, 0, none⟩)] w (IsStep o x' v' sb w) := by
  have hl := lt_some h.1
  have hs0 := h.below ((Below.refl _ w).alloc (Nat.le_refl _) (.cells opZ 61))
  have hr0 := heap_alloc_new w (.cells opZ 61)
  have hf0 : SF sb w (w.alloc (.cells opZ 61)) := SF.of ((Below.refl _ w).alloc (Nat.le_refl _) _)
  unfold opZ at hs0 hr0 hf0
  have H := Lib.hid (And.intro hs0 (And.intro hr0 hf0))
  have HC := Lib.hid hc
  clear h hs0 hr0 hf0 hc
  go_enter Tryz.func30, Tryz.ntmps30
  go_wp2_with fail
  have hdr := mDraw_any sb x 10 v _ H.out.1 (by decide) (by decide)
  rw [hx, hk] at hdr
  refine hdr.mono ?_
  rintro e w1 ⟨rfl, h1, ho⟩
  have H1 := Lib.hid (And.intro h1 (And.intro (keepO ho H.out.2.1 (by omega)) (H.out.2.2.trans (SF.only ho))))
  clear h1 ho H hdr
  go_wp2_with fail
  refine (HC.out _ H1.out.1).mono ?_
  rintro e w2 ⟨⟨a, n, c, a', n', c', rfl, hA, hB⟩, h2, hf2⟩
  have hr2 := hf2.keep H1.out.2.1 (by omega)
  have H2 := Lib.hid (And.intro h2 (And.intro hr2 (And.intro (H1.out.2.2.trans hf2) (And.intro hA hB))))
  have HT := Lib.hid (setRow_get _ _ _ (opC o (.slice a n c) (.slice a' n' c')) _ _ hr2)
  clear h2 hf2 hA hB hr2 H1
  go_wp2_with (refine wpList_store_row rfl 61 (.tmp 2) (.tmp 46) rfl w.heap.size (opC o (.slice a n c) (.slice a' n' c')) rfl rfl 61 _ H2.out.2.1 Tryz.infoRO rfl (opC_one _ _ _ _ _ _ _) ?_)
  refine bodyPost_ret (results_cell_row rfl _ _ w.heap.size 61 _ (0, 0) _ rfl HT.out Tryz.underlying61 rfl Tryz.infoRO) rfl ?_
  obtain ⟨e1, e2, e3⟩ := op_fin rfl hl H2.out.2.1 H2.out.1 H2.out.2.2.1 (setRow_only _ _ _)
  exact ⟨⟨_, _, _, _, _, _, rfl, e3 _ _ H2.out.2.2.2.1, e3 _ _ H2.out.2.2.2.2⟩, e1, e2⟩
end Go.Proofs.YtgnilkjdpfbjgaaGreat
