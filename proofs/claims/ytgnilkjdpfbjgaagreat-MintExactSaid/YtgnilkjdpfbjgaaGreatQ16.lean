/- Mint's next op: the other ways; which one. · Mint's ops. · Mint's ops: Ops. · Mint's setup. -/
import Derived.Test.YtgnilkjdpfbjgaaGreatQ15
namespace Go.Proofs.YtgnilkjdpfbjgaaGreat
open Go.RowKit
set_option linter.unusedVariables false
/-- The start of next. -/
theorem next_start {sb x x1 k : Nat} {v : Int} {w : World} (h : StrM w sb x v) : StrM (w.alloc (.cells opZ 61)) sb x v ∧ (w.alloc (.cells opZ 61)).heap[w.heap.size]? = some (.cells opZ 61 (0, 0)) ∧ SF sb w (w.alloc (.cells opZ 61)) :=
  ⟨h.below ((Below.refl _ w).alloc (Nat.le_refl _) _), heap_alloc_new w _, SF.of ((Below.refl _ w).alloc (Nat.le_refl _) _)⟩
set_option maxRecDepth 100000 in
set_option maxHeartbeats 1000000 in
theorem mNext_3 (sb x x1 x2 d : Nat) (v : Int) (w : World) (h : StrM w sb x v) (hx : drawX x = x1) (hk : drawN x 10 = 3) (hx2 : drawX x1 = x2) (hd : drawN x1 6 = d) : Calls Tryz.prog 30 #[.pointer (some ⟨sb, 0, none⟩)] w (IsStep ⟨2, entM d, 0, [], 0, 0, 0, 0, 0, [], 0, ByteArray.empty⟩ x2 v sb w) := by
  have hl := lt_some h.1
  have H := Lib.hid (next_start (x1 := x1) (k := 3) h)
  unfold opZ at H
  clear h
  go_enter Tryz.func30, Tryz.ntmps30
  go_wp2_with fail
  have hdr := mDraw_any sb x 10 v _ H.out.1 (by decide) (by decide)
  rw [hx, hk] at hdr
  refine hdr.mono ?_
  rintro e w1 ⟨rfl, h1, ho⟩
  have H1 := Lib.hid (And.intro h1 (And.intro (keepO ho H.out.2.1 (by omega)) (H.out.2.2.trans (SF.only ho))))
  clear h1 ho H hdr
  go_wp2_with fail
  have hen := mEnt_any sb x1 v _ H1.out.1
  rw [hx2, hd] at hen
  refine hen.mono ?_
  rintro e w2 ⟨rfl, h2, hf2⟩
  have H2 := Lib.hid (And.intro h2 (And.intro (hf2.keep H1.out.2.1 (by omega)) (H1.out.2.2.trans hf2)))
  clear h2 hf2 H1 hen
  have HT := Lib.hid (setRow_get _ _ _ (opC ⟨2, entM d, 0, [], 0, 0, 0, 0, 0, [], 0, ByteArray.empty⟩ (.slice none 0 0) (.slice none 0 0)) _ _ H2.out.2.1)
  go_wp2_with (refine wpList_store_row rfl 61 (.tmp 2) (.tmp 11) rfl w.heap.size (opC ⟨2, entM d, 0, [], 0, 0, 0, 0, 0, [], 0, ByteArray.empty⟩ (.slice none 0 0) (.slice none 0 0)) rfl rfl 61 _ H2.out.2.1 Tryz.infoRO rfl (opC_one _ _ _ _ _ _ _) ?_)
  refine bodyPost_ret (results_cell_row rfl _ _ w.heap.size 61 _ (0, 0) _ rfl HT.out Tryz.underlying61 rfl Tryz.infoRO) rfl ?_
  exact op_plain _ rfl hl H2.out.2.1 H2.out.1 H2.out.2.2 rfl rfl
set_option maxRecDepth 100000 in
set_option maxHeartbeats 1000000 in
theorem mNext_5 (sb x x1 x2 x3 d b : Nat) (v : Int) (w : World) (h : StrM w sb x v) (hx : drawX x = x1) (hk : drawN x 10 = 5) (hx2 : drawX x1 = x2) (hd : drawN x1 6 = d) (hx3 : drawX x2 = x3) (hb : drawN x2 3 = b) : Calls Tryz.prog 30 #[.pointer (some ⟨sb, 0, none⟩)] w (IsStep ⟨4, entM d, 1 + (b : Int), [], 0, 0, 0, 0, 0, [], 0, ByteArray.empty⟩ x3 v sb w) := by
  have hl := lt_some h.1
  have hb3 : b < 3 := by rw [← hb]; exact drawN_lt _ 3 (by decide)
  have H := Lib.hid (next_start (x1 := x1) (k := 3) h)
  unfold opZ at H
  clear h
  go_enter Tryz.func30, Tryz.ntmps30
  go_wp2_with fail
  have hdr := mDraw_any sb x 10 v _ H.out.1 (by decide) (by decide)
  rw [hx, hk] at hdr
  refine hdr.mono ?_
  rintro e w1 ⟨rfl, h1, ho⟩
  have H1 := Lib.hid (And.intro h1 (And.intro (keepO ho H.out.2.1 (by omega)) (H.out.2.2.trans (SF.only ho))))
  clear h1 ho H hdr
  go_wp2_with fail
  have hen := mEnt_any sb x1 v _ H1.out.1
  rw [hx2, hd] at hen
  refine hen.mono ?_
  rintro e w2 ⟨rfl, h2, hf2⟩
  have H2 := Lib.hid (And.intro h2 (And.intro (hf2.keep H1.out.2.1 (by omega)) (H1.out.2.2.trans hf2)))
  clear h2 hf2 H1 hen
  go_wp2_with fail
  have hdr := mDraw_any sb x2 3 v _ H2.out.1 (by decide) (by decide)
  rw [hx3, hb] at hdr
  refine hdr.mono ?_
  rintro e w3 ⟨rfl, h3, ho⟩
  have H3 := Lib.hid (And.intro h3 (And.intro (keepO ho H2.out.2.1 (by omega)) (H2.out.2.2.trans (SF.only ho))))
  clear h3 ho H2 hdr
  have HT := Lib.hid (setRow_get _ _ _ (opC ⟨4, entM d, 1 + (b : Int), [], 0, 0, 0, 0, 0, [], 0, ByteArray.empty⟩ (.slice none 0 0) (.slice none 0 0)) _ _ H3.out.2.1)
  go_wp2_with (refine wpList_store_row rfl 61 (.tmp 2) (.tmp 29) rfl w.heap.size (opC ⟨4, entM d, 1 + (b : Int), [], 0, 0, 0, 0, 0, [], 0, ByteArray.empty⟩ (.slice none 0 0) (.slice none 0 0)) rfl rfl 61 _ H3.out.2.1 Tryz.infoRO rfl (opC_one _ _ _ _ _ _ _) ?_)
  refine bodyPost_ret (results_cell_row rfl _ _ w.heap.size 61 _ (0, 0) _ rfl HT.out Tryz.underlying61 rfl Tryz.infoRO) rfl ?_
  exact op_plain _ rfl hl H3.out.2.1 H3.out.1 H3.out.2.2 rfl rfl
set_option maxRecDepth 100000 in
set_option maxHeartbeats 1000000 in
theorem mNext_7 (sb x x1 x2 b : Nat) (v : Int) (w : World) (h : StrM w sb x v) (hx : drawX x = x1) (hk : drawN x 10 = 7) (hx2 : drawX x1 = x2) (hb : drawN x1 5 = b) : Calls Tryz.prog 30 #[.pointer (some ⟨sb, 0, none⟩)] w (IsStep ⟨9, 0, 0, [], 0, 0, 0, 0, 0, [], b, ByteArray.empty⟩ x2 v sb w) := by
  have hl := lt_some h.1
  have H := Lib.hid (next_start (x1 := x1) (k := 3) h)
  unfold opZ at H
  clear h
  go_enter Tryz.func30, Tryz.ntmps30
  go_wp2_with fail
  have hdr := mDraw_any sb x 10 v _ H.out.1 (by decide) (by decide)
  rw [hx, hk] at hdr
  refine hdr.mono ?_
  rintro e w1 ⟨rfl, h1, ho⟩
  have H1 := Lib.hid (And.intro h1 (And.intro (keepO ho H.out.2.1 (by omega)) (H.out.2.2.trans (SF.only ho))))
  clear h1 ho H hdr
  go_wp2_with fail
  have hdr := mDraw_any sb x1 5 v _ H1.out.1 (by decide) (by decide)
  rw [hx2, hb] at hdr
  refine hdr.mono ?_
  rintro e w3 ⟨rfl, h3, ho⟩
  have H3 := Lib.hid (And.intro h3 (And.intro (keepO ho H1.out.2.1 (by omega)) (H1.out.2.2.trans (SF.only ho))))
  clear h3 ho H1 hdr
  have HT := Lib.hid (setRow_get _ _ _ (opC ⟨9, 0, 0, [], 0, 0, 0, 0, 0, [], b, ByteArray.empty⟩ (.slice none 0 0) (.slice none 0 0)) _ _ H3.out.2.1)
  go_wp2_with (refine wpList_store_row rfl 61 (.tmp 2) (.tmp 38) rfl w.heap.size (opC ⟨9, 0, 0, [], 0, 0, 0, 0, 0, [], b, ByteArray.empty⟩ (.slice none 0 0) (.slice none 0 0)) rfl rfl 61 _ H3.out.2.1 Tryz.infoRO rfl (opC_one _ _ _ _ _ _ _) ?_)
  refine bodyPost_ret (results_cell_row rfl _ _ w.heap.size 61 _ (0, 0) _ rfl HT.out Tryz.underlying61 rfl Tryz.infoRO) rfl ?_
  exact op_plain _ rfl hl H3.out.2.1 H3.out.1 H3.out.2.2 rfl rfl
set_option maxRecDepth 100000 in
set_option maxHeartbeats 1000000 in
theorem mNext_4 (sb x x1 x2 x3 d b : Nat) (v : Int) (w : World) (h : StrM w sb x v) (hx : drawX x = x1) (hk : drawN x 10 = 4) (hx2 : drawX x1 = x2) (hd : drawN x1 6 = d) (hx3 : drawX x2 = x3) (hb : drawN x2 200 = b) : Calls Tryz.prog 30 #[.pointer (some ⟨sb, 0, none⟩)] w (IsStep ⟨5, entM d, 0, [hpM b], 0, 0, 0, 0, 0, [], 0, ByteArray.empty⟩ x3 v sb w) := by
  have hl := lt_some h.1
  have H := Lib.hid (next_start (x1 := x1) (k := 3) h)
  unfold opZ at H
  clear h
  go_enter Tryz.func30, Tryz.ntmps30
  go_wp2_with fail
  have hdr := mDraw_any sb x 10 v _ H.out.1 (by decide) (by decide)
  rw [hx, hk] at hdr
  refine hdr.mono ?_
  rintro e w1 ⟨rfl, h1, ho⟩
  have H1 := Lib.hid (And.intro h1 (And.intro (keepO ho H.out.2.1 (by omega)) (H.out.2.2.trans (SF.only ho))))
  clear h1 ho H hdr
  go_wp2_with fail
  have hen := mEnt_any sb x1 v _ H1.out.1
  rw [hx2, hd] at hen
  refine hen.mono ?_
  rintro e w2 ⟨rfl, h2, hf2⟩
  have H2 := Lib.hid (And.intro h2 (And.intro (hf2.keep H1.out.2.1 (by omega)) (H1.out.2.2.trans hf2)))
  clear h2 hf2 H1 hen
  go_wp2_with fail
  have hhp := mHp_any sb x2 v _ H2.out.1
  rw [hx3, hb] at hhp
  refine hhp.mono ?_
  rintro e w3 ⟨q, rfl, hat, h3, hf3⟩
  have hr3 := hf3.keep H2.out.2.1 (by omega)
  have H3 := Lib.hid (And.intro h3 (And.intro hr3 (And.intro (H2.out.2.2.trans hf3) hat)))
  clear h3 hf3 hat H2 hhp
  have hl3 := lt_some hr3
  have HR4 := Lib.hid (keepA (.cells #[.int .i64 1, .slice (some ⟨q, 0, none⟩) 1 1] 113) hr3)
  have HT := Lib.hid (setRow_get _ _ _ (opC ⟨5, entM d, 0, [hpM b], 0, 0, 0, 0, 0, [], 0, ByteArray.empty⟩ (.slice (some ⟨w3.heap.size, 0, none⟩) 1 1) (.slice none 0 0)) _ _ HR4.out)
  clear hr3
  go_wp2_with (refine wpList_store_row rfl 61 (.tmp 2) (.tmp 20) rfl w.heap.size (opC ⟨5, entM d, 0, [hpM b], 0, 0, 0, 0, 0, [], 0, ByteArray.empty⟩ (.slice (some ⟨w3.heap.size, 0, none⟩) 1 1) (.slice none 0 0)) rfl rfl 61 _ HR4.out Tryz.infoRO rfl (opC_one _ _ _ _ _ _ _) ?_)
  refine bodyPost_ret (results_cell_row rfl _ _ w.heap.size 61 _ (0, 0) _ rfl HT.out Tryz.underlying61 rfl Tryz.infoRO) rfl ?_
  have hbA := (Below.refl w3.heap.size w3).alloc (Nat.le_refl _) (.cells #[.int .i64 1, .slice (some ⟨q, 0, none⟩) 1 1] 113)
  obtain ⟨e1, e2, e3⟩ := op_fin rfl hl HR4.out (H3.out.1.below hbA) (H3.out.2.2.1.trans (SF.of hbA)) (setRow_only _ _ _)
  refine ⟨⟨_, _, _, _, _, _, rfl, e3 _ _ ?_, parts_nil _⟩, e1, e2⟩
  exact parts_one (p := hpM _) (heap_alloc_new _ _) (by unfold hpM; rw [numW_nat]; exact (H3.out.2.2.2.below hbA).types fun _ _ _ _ _ h => .inr h)
/-- The next op, told: the op, and the stream behind it. -/
def nextM (x : Nat) (v : Int) : OpM × Nat × Int :=
  if drawN x 10 = 3 then (⟨2, entM (drawN (drawX x) 6), 0, [], 0, 0, 0, 0, 0, [], 0, ByteArray.empty⟩, drawX (drawX x), v)
  else if drawN x 10 = 4 then (⟨5, entM (drawN (drawX x) 6), 0, [hpM (drawN (drawX (drawX x)) 200)], 0, 0, 0, 0, 0, [], 0, ByteArray.empty⟩, drawX (drawX (drawX x)), v)
  else if drawN x 10 = 5 then (⟨4, entM (drawN (drawX x) 6), 1 + (drawN (drawX (drawX x)) 3 : Nat), [], 0, 0, 0, 0, 0, [], 0, ByteArray.empty⟩, drawX (drawX (drawX x)), v)
  else if drawN x 10 = 6 then
    if drawN (drawX x) 2 = 1 then (⟨8, 0, 0, [], 0, 0, 4, entM (drawN (drawX (drawX x)) 6), 0, [hpM (drawN (drawX (drawX (drawX x))) 200)], 0, ByteArray.empty⟩, drawX (drawX (drawX (drawX x))), v)
    else (⟨8, 0, 0, [], 0, 0, 2, entM (drawN (drawX (drawX x)) 6), 0, [], 0, ByteArray.empty⟩, drawX (drawX (drawX x)), v)
  else if drawN x 10 = 7 then (⟨9, 0, 0, [], 0, 0, 0, 0, 0, [], (drawN (drawX x) 5 : Nat), ByteArray.empty⟩, drawX (drawX x), v)
  else if drawN x 10 = 8 then (⟨10, 0, 0, [], 0, 0, 0, 0, 0, [], 0, ⟨(mintB v).toArray⟩⟩, drawX x, v + 1)
  else if drawN x 10 = 9 then
    if drawN (drawX x) 2 = 1 then (⟨11, 0, 0, [], 0, 0, 0, 0, 0, [], 0, ByteArray.empty⟩, drawX (drawX x), max 1 (v - 1))
    else (⟨7, 0, 0, [], 2, 0, 0, 0, 0, [], 0, ByteArray.empty⟩, drawX (drawX x), v)
  else if drawN (drawX (drawX x)) 2 = 1 then (spawnB (drawN (drawX x) 200) (drawN (drawX (drawX (drawX x))) 100) (drawN (drawX (drawX (drawX (drawX x)))) 100), drawX (drawX (drawX (drawX (drawX x)))), v)
  else (spawnA (drawN (drawX x) 200), drawX (drawX (drawX x)), v)
end Go.Proofs.YtgnilkjdpfbjgaaGreat
namespace Go.Proofs.YtgnilkjdpfbjgaaGreat
open Go.RowKit
set_option linter.unusedVariables false
theorem mNext_any (sb x : Nat) (v : Int) (w : World) (h : StrM w sb x v) (v0 : 1 ≤ v) (v1 : v ≤ 100000) : Calls Tryz.prog 30 #[.pointer (some ⟨sb, 0, none⟩)] w (IsStep (nextM x v).1 (nextM x v).2.1 (nextM x v).2.2 sb w) := by
  have hlt := drawN_lt x 10 (by decide)
  have h2 := drawN_lt (drawX x) 2 (by decide)
  have h2' := drawN_lt (drawX (drawX x)) 2 (by decide)
  obtain ⟨k, hk⟩ : ∃ k, drawN x 10 = k := ⟨_, rfl⟩
  unfold nextM
  rw [hk] at hlt ⊢
  rcases (by omega : k = 3 ∨ k = 4 ∨ k = 5 ∨ k = 6 ∨ k = 7 ∨ k = 8 ∨ k = 9 ∨ k = 0 ∨ k = 1 ∨ k = 2) with rfl | rfl | rfl | rfl | rfl | rfl | rfl | rfl | rfl | rfl
  · rw [if_pos rfl]
    exact mNext_3 sb x _ _ _ v w h rfl hk rfl rfl
  · rw [if_neg (by decide), if_pos rfl]
    exact mNext_4 sb x _ _ _ _ _ v w h rfl hk rfl rfl rfl rfl
  · rw [if_neg (by decide), if_neg (by decide), if_pos rfl]
    exact mNext_5 sb x _ _ _ _ _ v w h rfl hk rfl rfl rfl rfl
  · rw [if_neg (by decide), if_neg (by decide), if_neg (by decide), if_pos rfl]
    by_cases hd : drawN (drawX x) 2 = 1
    · rw [if_pos hd]
      exact mNext_6 sb x _ _ v _ _ w h rfl hk fun W hW => mWait_1 sb _ v W hW hd
    · rw [if_neg hd]
      exact mNext_6 sb x _ _ v _ _ w h rfl hk fun W hW => mWait_0 sb _ v W hW (by omega)
  · rw [if_neg (by decide), if_neg (by decide), if_neg (by decide), if_neg (by decide), if_pos rfl]
    exact mNext_7 sb x _ _ _ v w h rfl hk rfl rfl
  · rw [if_neg (by decide), if_neg (by decide), if_neg (by decide), if_neg (by decide), if_neg (by decide), if_pos rfl]
    exact mNext_8 sb x _ _ v _ _ w h rfl hk fun W hW => mBegin_any sb _ v W hW (by omega) (by omega)
  · rw [if_neg (by decide), if_neg (by decide), if_neg (by decide), if_neg (by decide), if_neg (by decide), if_neg (by decide), if_pos rfl]
    by_cases hd : drawN (drawX x) 2 = 1
    · rw [if_pos hd]
      exact mNext_9 sb x _ _ v _ _ w h rfl hk fun W hW => mLast_1 sb _ v W hW hd (by omega) (by omega)
    · rw [if_neg hd]
      exact mNext_9 sb x _ _ v _ _ w h rfl hk fun W hW => mLast_0 sb _ v W hW (by omega)
  all_goals
    rw [if_neg (by decide), if_neg (by decide), if_neg (by decide), if_neg (by decide), if_neg (by decide), if_neg (by decide), if_neg (by decide)]
    by_cases hd : drawN (drawX (drawX x)) 2 = 1
    · rw [if_pos hd]
      first
        | exact mNext_0 sb x _ _ v _ _ w h rfl hk fun W hW => mSpawn_1 sb _ v W hW hd
        | exact mNext_1 sb x _ _ v _ _ w h rfl hk fun W hW => mSpawn_1 sb _ v W hW hd
        | exact mNext_2 sb x _ _ v _ _ w h rfl hk fun W hW => mSpawn_1 sb _ v W hW hd
    · rw [if_neg hd]
      first
        | exact mNext_0 sb x _ _ v _ _ w h rfl hk fun W hW => mSpawn_0 sb _ v W hW (by omega)
        | exact mNext_1 sb x _ _ v _ _ w h rfl hk fun W hW => mSpawn_0 sb _ v W hW (by omega)
        | exact mNext_2 sb x _ _ v _ _ w h rfl hk fun W hW => mSpawn_0 sb _ v W hW (by omega)
theorem nextM_v (x : Nat) (v : Int) (v0 : 1 ≤ v) : 1 ≤ (nextM x v).2.2 ∧ (nextM x v).2.2 ≤ v + 1 := by
  unfold nextM
  repeat' split
  all_goals (dsimp only; omega)
/-- What is behind so many steps; what they give. -/
def itS {α β : Type} (f : α → β × α) : Nat → α → α
  | 0, p => p
  | k + 1, p => (f (itS f k p)).2
def itL {α β : Type} (f : α → β × α) (k : Nat) (p : α) : List β := (List.range k).map fun i => (f (itS f i p)).1
theorem itS_succ {α β : Type} (f : α → β × α) (k : Nat) (p : α) : itS f (k + 1) p = (f (itS f k p)).2 := rfl
theorem itL_snoc {α β : Type} (f : α → β × α) (k : Nat) (p : α) : itL f (k + 1) p = itL f k p ++ [(f (itS f k p)).1] := by
  unfold itL
  rw [List.range_succ, List.map_append]
  rfl
def nextP (p : Nat × Int) : OpM × Nat × Int := nextM p.1 p.2
theorem itS_v (p : Nat × Int) (h : p.2 = 1) : ∀ k : Nat, 1 ≤ (itS nextP k p).2 ∧ (itS nextP k p).2 ≤ 1 + k
  | 0 => by show 1 ≤ p.2 ∧ p.2 ≤ 1 + ((0 : Nat) : Int); rw [h]; omega
  | k + 1 => by
    have := itS_v p h k
    have h2 := nextM_v (itS nextP k p).1 (itS nextP k p).2 this.1
    rw [itS_succ]
    show 1 ≤ (nextM (itS nextP k p).1 (itS nextP k p).2).2.2 ∧ (nextM (itS nextP k p).1 (itS nextP k p).2).2.2 ≤ _
    omega
def opMD (o : OpM) : List Dat := [.v (.int .i64 o.kind), .v (.int .u64 o.ent), .v (.int .i64 o.comp), partsD o.parts, .v (.int .u32 o.al), .v (.int .u32 o.no), .v (.int .i64 o.ck), .v (.int .u64 o.ce), .v (.int .i64 o.cc), partsD o.cp, .v (.int .i64 o.units), .v (.string o.bytes)]
end Go.Proofs.YtgnilkjdpfbjgaaGreat
namespace Go.Proofs.YtgnilkjdpfbjgaaGreat
open Go.RowKit
set_option linter.unusedVariables false
theorem Tryz.infoR2 : (Tryz.prog.info? 61).map (fun i => (i.zero, i.size, i.bytes)) = some (some (.agg opZ), 12, 128) := by kernel_rfl
theorem Own.sf {sb x : Nat} {v : Int} {w w' : World} {B : Nat} {u : Value} {n : Nat} {ds : List Dat} (h : Own w B 61 12 TO u n ds) (hf : SF sb w w') (hs : StrM w sb x v) : Own w' B 61 12 TO u n ds :=
  h.kept fun q cur t fz hq ht => hf.keep hq fun e => by
    subst e
    rw [hs.1] at hq
    cases hq
    rcases ht with ht | ht
    · exact TO_no _ ht
    · exact absurd ht (by decide)
/-- How many ops. -/
def opsN (n : Int) : Nat := (min n 1024).toNat
set_option maxRecDepth 100000 in
set_option maxHeartbeats 2000000 in
theorem mOps_any (seed n : Int) (w : World) : Calls Tryz.prog 16 #[.int .i64 seed, .int .i64 n] w fun e w' => ∃ va vc, e = .returned (.slice va (opsN n) vc) ∧ At w' (fun q t => t = 61 ∨ TO q t) (.r (opsN n) ((itL nextP (opsN n) ((seed % 18446744073709551616).toNat, 1)).flatMap opMD)) (.slice va (opsN n) vc) ∧ Below w.heap.size w w' := by
  obtain ⟨i0, hiI, hzA, hzB, hzC⟩ := info_parts Tryz.infoR2
  have hsd : IntKind.u64.wrap seed = ((seed % 18446744073709551616).toNat : Int) := by rw [IntKind.wrap_u64]; omega
  have hxl : (seed % 18446744073709551616).toNat < 18446744073709551616 := by omega
  generalize (seed % 18446744073709551616).toNat = x0 at *
  obtain ⟨L, hL⟩ : ∃ L, opsN n = L := ⟨_, rfl⟩
  have hL1 : L ≤ 1024 := by rw [← hL]; unfold opsN; omega
  have hL2 : (0 < n ∧ min n 1024 = (L : Int)) ∨ (n ≤ 0 ∧ L = 0) := by
    rw [← hL]
    unfold opsN
    omega
  rw [hL]
  clear hL
  have hs0 : StrM (w.alloc (.cells #[.int .u64 (x0 : Int), .int .i64 1] 70)) w.heap.size x0 1 := ⟨heap_alloc_new w _, hxl⟩
  have hb0 := (Below.refl _ w).alloc (Nat.le_refl _) (.cells #[.int .u64 (x0 : Int), .int .i64 1] 70)
  have H := Lib.hid (And.intro hs0 hb0)
  clear hs0 hb0
  rcases hL2 with ⟨hn, hm⟩ | ⟨hn, rfl⟩
  · go_enter Tryz.func16, Tryz.ntmps16
    go_wp2_with fail
    go_loopw [6, 13] (fun o i wr => ∃ (k : Nat) (va : Option Addr) (vc : Nat), k ≤ L ∧ i = .int .i64 k ∧ o = .slice va k vc ∧ StrM wr w.heap.size (itS nextP k (x0, 1)).1 (itS nextP k (x0, 1)).2 ∧ Own wr (w.heap.size + 1) 61 12 TO (.slice va k vc) k ((itL nextP k (x0, 1)).flatMap opMD) ∧ Below w.heap.size w wr) (fun _ i _ => L - (intOf i).toNat)
    case atStart => exact ⟨0, none, 0, Nat.zero_le _, rfl, rfl, H.out.1, Own.nil (fun q h => by rcases h with h | h <;> exact absurd h (by decide)), H.out.2⟩
    case round =>
      obtain ⟨k, va, vc, hk, rfl, rfl, hst, hown, hbw⟩ := hrel
      have hlw := lt_some hst.1
      by_cases hlt : k < L
      · have hv := itS_v (x0, 1) rfl k
        have HN := Lib.hid (mNext_any w.heap.size (itS nextP k (x0, 1)).1 (itS nextP k (x0, 1)).2 wr hst hv.1 (by omega))
        have HSN : Hid (itL nextP (k + 1) (x0, 1) = itL nextP k (x0, 1) ++ [(nextM (itS nextP k (x0, 1)).1 (itS nextP k (x0, 1)).2).1]) := Lib.hid (itL_snoc nextP k (x0, 1))
        have HSS : Hid (itS nextP (k + 1) (x0, 1) = (nextM (itS nextP k (x0, 1)).1 (itS nextP k (x0, 1)).2).2) := Lib.hid (itS_succ nextP k (x0, 1))
        generalize itS nextP k (x0, 1) = p0 at *
        generalize nextM p0.1 p0.2 = m at *
        have HI := Lib.hid (And.intro hst (And.intro hown hbw))
        clear hst hown hbw
        go_wp2_with fail
        refine HN.out.mono ?_
        rintro e w1 ⟨⟨a, n1, c, a', n1', c', rfl, hA, hB⟩, h1, hf1⟩
        have hown1 := HI.out.2.1.sf hf1 HI.out.1
        have hbw1 : Below w.heap.size w w1 := ⟨hf1.os.trans HI.out.2.2.os, hf1.tape.trans HI.out.2.2.tape, hf1.output.trans HI.out.2.2.output, Nat.le_trans HI.out.2.2.size hf1.size, fun q hq => (Out.block hf1 q (by have := HI.out.2.2.size; omega) (by show ¬ q = w.heap.size; omega)).trans (HI.out.2.2.block q hq)⟩
        obtain ⟨⟨xs, hro, hrv⟩, hne⟩ := hown1
        have HRO := Lib.hid (hro.alloc (.cells (opC m.1 (.slice a n1 c) (.slice a' n1' c')) 61))
        have H1 := Lib.hid (And.intro h1 (And.intro hrv (And.intro hA (And.intro hB hbw1))))
        have hra : ∀ y, (Value.slice va k vc).ownBlock = some y → w.heap.size + 1 ≤ y := fun y hy => (hro.lt y hy).1
        have hz1 := lt_some h1.1
        clear h1 hf1 hro hrv hA hB hbw1
        unfold opC at HRO ⊢
        go_wp2_with (at_builtin; go_loud (refine wpList_append_own _ rfl (.tmp 15) (.tmp 18) 41 rfl (w.heap.size + 1) 61 i0 (.agg opZ) 12 128 Tryz.underlying41 hiI hzA hzB hzC rfl (by decide) (.slice va k vc) k xs rfl HRO.out ⟨w1.heap.size, 0, none⟩ 1 1 (opC m.1 (.slice a n1 c) (.slice a' n1' c')).toList rfl rfl ?c1 ?c2 ?c3 ?c4 ?c5 ?_))
        case c1 => exact World.news_of_block (t := 61) (fr := (0, 0)) (heap_alloc_new w1 _)
        case c2 => intro u hu; simp [opC] at hu; rcases hu with rfl | rfl | rfl | rfl | rfl | rfl | rfl | rfl | rfl | rfl | rfl | rfl <;> rfl
        case c3 => unfold maxLen; omega
        case c4 => omega
        case c5 => simp; omega
        intro v' w2 hown2 hg2 _
        obtain ⟨va', vc', hv'⟩ := ownsRow_slice hown2
        rw [hv'] at hown2 ⊢
        clear hv'
        have hOwn := Own.grow (m := 1) (news := (opC m.1 (.slice a n1 c) (.slice a' n1' c')).toList) (es := opMD m.1) HRO.out (H1.out.2.1.kept (fun _ _ _ _ _ h => h) fun q cur t fz hq _ => keepA _ hq) hne hg2 hown2
          ⟨_, _, rfl, by unfold At; rfl, _, _, rfl, by unfold At; rfl, _, _, rfl, by unfold At; rfl, _, _, rfl, H1.out.2.2.1.kept (fun _ _ _ _ _ h => h) (fun q cur t fz hq _ => keepA _ hq), _, _, rfl, by unfold At; rfl, _, _, rfl, by unfold At; rfl, _, _, rfl, by unfold At; rfl, _, _, rfl, by unfold At; rfl, _, _, rfl, by unfold At; rfl, _, _, rfl, H1.out.2.2.2.1.kept (fun _ _ _ _ _ h => h) (fun q cur t fz hq _ => keepA _ hq), _, _, rfl, by unfold At; rfl, _, _, rfl, by unfold At; rfl, rfl⟩
        have hks := keepA (.cells (opC m.1 (.slice a n1 c) (.slice a' n1' c')) 61) H1.out.1.1
        have hst2 : StrM w2 w.heap.size m.2.1 m.2.2 := ⟨keepG hg2 hks (ownsRow_ne_block3 HRO.out hks (fun cur he => by cases he)), H1.out.1.2⟩
        have hbel2 : Below w.heap.size w w2 := (H1.out.2.2.2.2.alloc H1.out.2.2.2.2.size _).grown hg2 (by have := H1.out.2.2.2.2.size; simp; omega) (fun y hy => by have := hra y hy; omega)
        have HF := Lib.hid (And.intro hOwn (And.intro hst2 hbel2))
        clear hOwn hks hst2 hbel2 hown2 hg2
        go_wp2
        go_roundw
        case rel =>
          refine ⟨k + 1, va', vc', by omega, by go_num, rfl, ?_, ?_, HF.out.2.2⟩
          · rw [HSS.out]; exact HF.out.2.1
          · rw [HSN.out, List.flatMap_append]
            have := HF.out.1
            simpa using this
        case measure => simp [intOf]; omega
      · obtain rfl : k = L := by omega
        have HO := Lib.hid (And.intro hown hbw)
        clear hown hbw hst
        go_wp2
        go_ret
        exact ⟨va, vc, rfl, HO.out.1.at fun q t _ h => h.symm, HO.out.2⟩
  · have hmin : min n 1024 = n := by omega
    go_enter Tryz.func16, Tryz.ntmps16
    go_wp2_with fail
    go_loopw [6, 13] (fun o i wr => i = .int .i64 0 ∧ o = .slice none 0 0 ∧ Below w.heap.size w wr) (fun _ i _ => 0)
    case atStart => exact ⟨rfl, rfl, H.out.2⟩
    case round =>
      obtain ⟨rfl, rfl, hbw⟩ := hrel
      go_wp2
      go_ret
      exact ⟨none, 0, rfl, by unfold At; exact ⟨none, 0, rfl, Nat.le_refl _, Nat.zero_le _, .inl rfl⟩, hbw⟩
end Go.Proofs.YtgnilkjdpfbjgaaGreat
namespace Go.Proofs.YtgnilkjdpfbjgaaGreat
open Go.RowKit
set_option linter.unusedVariables false
def capsV (a b c d : Nat) : Array Value := #[.int .i64 (4 + (a : Int)), .int .i64 (3 + (b : Int)), .int .i64 6, .int .i64 4, .int .i64 (40 + (c : Int)), .int .i64 (1 + (d : Int))]
def suC (q k : Nat) (u : Value) (a b c d : Nat) : Array Value := #[.int .i64 1, .slice (some ⟨q, 0, none⟩) (mintC 1).length k, u, .int .i64 (4 + (a : Int)), .int .i64 (3 + (b : Int)), .int .i64 6, .int .i64 4, .int .i64 (40 + (c : Int)), .int .i64 (1 + (d : Int))]
def IsSu (a b c d : Nat) (v : Value) (w : World) : Prop := ∃ q k a6 n6 c6, v = .agg (suC q k (.slice a6 n6 c6) a b c d) ∧ CompsAt w.heap.size w (some ⟨q, 0, none⟩) (mintC 1).length (mintC 1) ∧ CompsTy w (some ⟨q, 0, none⟩) (mintC 1).length (mintC 1) ∧ At w TS (syssD (mintS 1)) (.slice a6 n6 c6)
def su_list (a b c d : Nat) : List (Value → World → Prop) := [fun v w => ∃ q c, v = .agg #[.int .i64 1, .slice (some ⟨q, 0, none⟩) (mintC 1).length c] ∧ CompsAt w.heap.size w (some ⟨q, 0, none⟩) (mintC 1).length (mintC 1) ∧ CompsTy w (some ⟨q, 0, none⟩) (mintC 1).length (mintC 1), fun v w => At w TS (syssD (mintS 1)) v, IsV (.agg (capsV a b c d)), IsSu a b c d]
theorem su_lasts (a b c d : Nat) : ∀ p ∈ su_list a b c d, Lasts p := by
  simp only [su_list, List.mem_cons, List.not_mem_nil, or_false]
  rintro p hp
  rcases hp with rfl | rfl | rfl | rfl
  · exact fun v w w' ⟨x, c, h1, h2, h3⟩ hb => ⟨x, c, h1, (h2.below hb).mono hb.size, h3.hk (KeepsTy.of_below hb)⟩
  · exact fun v w w' h hb => h.below hb
  · exact lasts_v _
  · exact fun v w w' ⟨x, k, a6, n6, c6, h1, h2, h3, h4⟩ hb => ⟨x, k, a6, n6, c6, h1, (h2.below hb).mono hb.size, h3.hk (KeepsTy.of_below hb), h4.below hb⟩
structure SuM (w W : World) (x : Nat) (cs : Array Value) : Prop where
  res : W.heap[w.heap.size]? = some (.cells #[.int .i64 0, .slice none 0 0, .slice none 0 0, .int .i64 0, .int .i64 0, .int .i64 0, .int .i64 0, .int .i64 0, .int .i64 0] 30 (0, 0))
  str : StrM W (w.heap.size + 1) x 0
  caps : W.heap[w.heap.size + 1 + 1]? = some (.cells cs 28 (0, 0))
  bel : Below w.heap.size w W
theorem SuM.step {w W W1 : World} {x x' : Nat} {cs : Array Value} (h : SuM w W x cs) (hs : StrM W1 (w.heap.size + 1) x' 0) (ho : Only (w.heap.size + 1) W W1) (i : Nat) (u : Value) : SuM w (W1.setCell ⟨w.heap.size + 1 + 1, i, none⟩ u) x' (cs.setIfInBounds i u) := by
  have o := Only.at W1 (w.heap.size + 1 + 1) i u
  exact ⟨keepO o (keepO ho h.res (by omega)) (by omega), ⟨keepO o hs.1 (by omega), hs.2⟩, hset W1 _ i u _ _ _ (keepO ho h.caps (by omega)), (h.bel.trans (ho.below (by omega))).trans (o.below (by omega))⟩
theorem SuM.cell {w W W1 : World} {x : Nat} {cs : Array Value} (h : SuM w W x cs) (ho : Only (w.heap.size + 1) W W1) (i : Nat) : W1.cell? ⟨w.heap.size + 1 + 1, i, none⟩ = cs[i]? ∧ W1.frozen? ⟨w.heap.size + 1 + 1, i, none⟩ = false ∧ w.heap.size + 1 + 1 < W1.heap.size := by
  have c := keepO ho h.caps (by omega)
  exact ⟨cell_at c i, free_at c i, lt_some c⟩
theorem Tryz.infoSu : (Tryz.prog.info? 30).map (·.size) = some 9 := by kernel_rfl
set_option maxRecDepth 100000 in
set_option maxHeartbeats 2000000 in
theorem mSetup_v (seed : Int) (x0 x1 x2 x3 x4 a b c d : Nat) (w : World) (hx0 : (seed % 18446744073709551616).toNat = x0) (e1 : drawX x0 = x1) (ea : drawN x0 8 = a) (e2 : drawX x1 = x2) (eb : drawN x1 4 = b) (e3 : drawX x2 = x3) (ec : drawN x2 100 = c) (e4 : drawX x3 = x4) (ed : drawN x3 3 = d) :
    Calls Tryz.prog 6 #[.int .i64 seed] w fun e w' => ∃ q k u, e = .returned (.agg #[.int .i64 1, .slice (some ⟨q, 0, none⟩) (mintC 1).length k, u, .int .i64 (4 + (a : Int)), .int .i64 (3 + (b : Int)), .int .i64 6, .int .i64 4, .int .i64 (40 + (c : Int)), .int .i64 (1 + (d : Int))]) ∧ CompsAt w'.heap.size w' (some ⟨q, 0, none⟩) (mintC 1).length (mintC 1) ∧ At w' TS (syssD (mintS 1)) u ∧ Below w.heap.size w w' := by
  have hsd : IntKind.u64.wrap seed = (x0 : Int) := by rw [IntKind.wrap_u64, ← hx0]; omega
  have hxl : x0 < 18446744073709551616 := by omega
  have la : a < 8 := by rw [← ea]; exact drawN_lt _ 8 (by decide)
  have lb : b < 4 := by rw [← eb]; exact drawN_lt _ 4 (by decide)
  have lc : c < 100 := by rw [← ec]; exact drawN_lt _ 100 (by decide)
  have ld : d < 3 := by rw [← ed]; exact drawN_lt _ 3 (by decide)
  clear hx0
  have k0 := keepA (.cells #[.int .i64 0, .int .i64 0, .int .i64 6, .int .i64 4, .int .i64 0, .int .i64 0] 28) (keepA (.cells #[.int .u64 (x0 : Int), .int .i64 0] 70) (heap_alloc_new w (.cells #[.int .i64 0, .slice none 0 0, .slice none 0 0, .int .i64 0, .int .i64 0, .int .i64 0, .int .i64 0, .int .i64 0, .int .i64 0] 30)))
  have k1 : StrM (((w.alloc (.cells #[.int .i64 0, .slice none 0 0, .slice none 0 0, .int .i64 0, .int .i64 0, .int .i64 0, .int .i64 0, .int .i64 0, .int .i64 0] 30)).alloc (.cells #[.int .u64 (x0 : Int), .int .i64 0] 70)).alloc (.cells #[.int .i64 0, .int .i64 0, .int .i64 6, .int .i64 4, .int .i64 0, .int .i64 0] 28)) (w.heap.size + 1) x0 0 := ⟨keepA _ (at_new (by simp)), hxl⟩
  have k2 : (((w.alloc (.cells #[.int .i64 0, .slice none 0 0, .slice none 0 0, .int .i64 0, .int .i64 0, .int .i64 0, .int .i64 0, .int .i64 0, .int .i64 0] 30)).alloc (.cells #[.int .u64 (x0 : Int), .int .i64 0] 70)).alloc (.cells #[.int .i64 0, .int .i64 0, .int .i64 6, .int .i64 4, .int .i64 0, .int .i64 0] 28)).heap[w.heap.size + 1 + 1]? = some (.cells #[.int .i64 0, .int .i64 0, .int .i64 6, .int .i64 4, .int .i64 0, .int .i64 0] 28 (0, 0)) := at_new (by simp)
  have hb0 : Below w.heap.size w (((w.alloc (.cells #[.int .i64 0, .slice none 0 0, .slice none 0 0, .int .i64 0, .int .i64 0, .int .i64 0, .int .i64 0, .int .i64 0, .int .i64 0] 30)).alloc (.cells #[.int .u64 (x0 : Int), .int .i64 0] 70)).alloc (.cells #[.int .i64 0, .int .i64 0, .int .i64 6, .int .i64 4, .int .i64 0, .int .i64 0] 28)) := by go_grown
  have H0 : Hid (SuM w _ x0 _) := Lib.hid ⟨k0, k1, k2, hb0⟩
  clear k0 k1 k2 hb0
  go_enter Tryz.func6, Tryz.ntmps6
  go_wp2_with fail
  have hdr := mDraw_any (w.heap.size + 1) x0 8 0 _ H0.out.str (by decide) (by decide)
  rw [e1, ea] at hdr
  refine hdr.mono ?_
  rintro e w1 ⟨rfl, h1, ho⟩
  clear hdr
  obtain ⟨y0, f0, hl2⟩ := H0.out.cell ho 0
  simp at y0
  have H1 := Lib.hid (H0.out.step h1 ho 0 (.int .i64 (4 + (a : Int))))
  clear h1 ho H0
  go_wp2_with fail
  clear y0 f0 hl2
  have hdr := mDraw_any (w.heap.size + 1) x1 4 0 _ H1.out.str (by decide) (by decide)
  rw [e2, eb] at hdr
  refine hdr.mono ?_
  rintro e w2 ⟨rfl, h1, ho⟩
  clear hdr
  obtain ⟨y0, f0, hl2⟩ := H1.out.cell ho 1
  simp at y0
  have H2 := Lib.hid (H1.out.step h1 ho 1 (.int .i64 (3 + (b : Int))))
  clear h1 ho H1
  go_wp2_with fail
  clear y0 f0 hl2
  have hdr := mDraw_any (w.heap.size + 1) x2 100 0 _ H2.out.str (by decide) (by decide)
  rw [e3, ec] at hdr
  refine hdr.mono ?_
  rintro e w3 ⟨rfl, h1, ho⟩
  clear hdr
  obtain ⟨y0, f0, hl2⟩ := H2.out.cell ho 4
  simp at y0
  have H3 := Lib.hid (H2.out.step h1 ho 4 (.int .i64 (40 + (c : Int))))
  clear h1 ho H2
  go_wp2_with fail
  clear y0 f0 hl2
  have hdr := mDraw_any (w.heap.size + 1) x3 3 0 _ H3.out.str (by decide) (by decide)
  rw [e4, ed] at hdr
  refine hdr.mono ?_
  rintro e w4 ⟨rfl, h1, ho⟩
  clear hdr
  obtain ⟨y0, f0, hl2⟩ := H3.out.cell ho 5
  simp at y0
  have H4 := Lib.hid (H3.out.step h1 ho 5 (.int .i64 (1 + (d : Int))))
  clear h1 ho H3
  go_upto_region 7 with (fail)
  generalize hW : w4.setCell ⟨w.heap.size + 1 + 1, 5, none⟩ (.int .i64 (1 + (d : Int))) = W at *
  clear y0 f0 hl2 hW
  have HK : Hid (W.heap[w.heap.size + 1 + 1]? = some (.cells (capsV a b c d) 28 (0, 0))) := Lib.hid H4.out.caps
  refine wp_region_tail 4 (by kernel_rfl) (by kernel_rfl) (by kernel_rfl) (by decide) (by kernel_rfl) (byList (su_list a b c d)) (lasts_list (su_lasts _ _ _ _)) ?_ ?_
  · intro vs w' iq op A hi F hb hop hd
    have m4 : A.tmps[4]?.getD undef = (.pointer (some ⟨w.heap.size + 1 + 1, 0, none⟩)) := F.m (by kernel_rfl) rfl
    have G := F.light (n := 30) (by kernel_rfl)
    clear F
    have hk := keep hb HK.out
    unfold capsV at hk
    have y0 := cell_at hk 0
    have y1 := cell_at hk 1
    have y2 := cell_at hk 2
    have y3 := cell_at hk 3
    have y4 := cell_at hk 4
    have y5 := cell_at hk 5
    simp at y0 y1 y2 y3 y4 y5
    clear hb hk
    revert hi hop hd
    match iq with
    | 0 =>
      intro _ ho hd; obtain rfl := (Option.some.inj ho).symm
      clear hd ho
      refine step_open rfl ?_
      clear G
      go_simp
      refine (mSchema_yes 1 w' (by decide)).mono ?_
      rintro e5 w5 ⟨q, k, rfl, h1, h2, hb5⟩
      exact ⟨_, rfl, ⟨q, k, rfl, h1, h2⟩, hb5⟩
    | 1 =>
      intro _ ho hd; obtain rfl := (Option.some.inj ho).symm
      clear hd ho
      refine step_open rfl ?_
      clear G
      go_simp
      refine (mSystems_yes 1 w' (by decide)).mono ?_
      rintro e5 w5 ⟨u, rfl, h1, hb5⟩
      exact ⟨_, rfl, h1, hb5⟩
    | 2 => intro _ ho hd; obtain rfl := (Option.some.inj ho).symm; clear hd ho; refine step_open rfl ?_; clear G; exact step_run (v := (.agg (capsV a b c d))) (by unfold capsV; go_simp) rfl
    | 3 =>
      intro _ ho hd; obtain rfl := (Option.some.inj ho).symm
      obtain ⟨q, k, d0, h1, h1t⟩ : ∃ q c, vs 0 = .agg #[.int .i64 1, .slice (some ⟨q, 0, none⟩) (mintC 1).length c] ∧ CompsAt w'.heap.size w' (some ⟨q, 0, none⟩) (mintC 1).length (mintC 1) ∧ CompsTy w' (some ⟨q, 0, none⟩) (mintC 1).length (mintC 1) := hd ⟨0, .data⟩ (by simp) rfl
      have h6 : At w' TS (syssD (mintS 1)) (vs 1) := hd ⟨1, .data⟩ (by simp) rfl
      have d2 : vs 2 = .agg (capsV a b c d) := hd ⟨2, .data⟩ (by simp) rfl
      obtain ⟨a6, n6, c6, d1⟩ : ∃ a n c, vs 1 = .slice a n c := by
        obtain ⟨a, c, h, _⟩ := h6.row
        exact ⟨_, _, _, h⟩
      rw [d1] at h6
      have g0 := G.h (j := 0) (d := 26) rfl (by decide) d0
      have g1 := G.h (j := 1) (d := 27) rfl (by decide) d1
      have g2 := G.h (j := 2) (d := 28) rfl (by decide) d2
      unfold capsV at g2
      clear hd ho d0 d1 d2
      refine step_open rfl ?_
      clear G
      exact step_run (v := .agg (suC q k (.slice a6 n6 c6) a b c d)) (by unfold suC; go_simp) ⟨q, k, a6, n6, c6, rfl, h1, h1t, h6⟩
    | n + 4 =>
      intro hi
      exfalso
      omega
  · intro vs w5 A hA F hb hR
    obtain ⟨q, k, a6, n6, c6, e3, h1, h1t, h6⟩ : IsSu a b c d (vs 3) w5 := hR 3 (by decide)
    have hr := keep hb H4.out.res
    have ho := setRow_only w5 w.heap.size (suC q k (.slice a6 n6 c6) a b c d)
    have hT := (h1.ty h1t (keepsTy_only ho hr (by decide) (by decide))).mono (Nat.le_of_eq ho.size.symm)
    have hS := h6.only ho hr (by rintro (h | h | h) <;> exact absurd h (by decide))
    have hBf := (H4.out.bel.trans (hb.mono H4.out.bel.size)).trans (ho.below (Nat.le_refl _))
    have HT := Lib.hid (setRow_get _ _ _ (suC q k (.slice a6 n6 c6) a b c d) _ _ hr)
    have HR := Lib.hid hr
    have HF := Lib.hid (And.intro hT (And.intro hS hBf))
    clear F hR hb h1 h1t h6 hr ho hT hS hBf
    subst hA
    simp only [List.drop_succ_cons, List.drop_zero, wpTail, putAll, Act.put, List.setIfInBounds_toArray, List.set_cons_succ, List.set_cons_zero]
    simp only [e3]
    clear e3
    refine wp_store_row 30 (.tmp 2) (.tmp 29) rfl w.heap.size (suC q k (.slice a6 n6 c6) a b c d) rfl rfl 30 _ HR.out Tryz.infoSu rfl (by simp [suC, Value.oneCell']) ?_
    go_wp2_with fail
    refine bodyPost_ret (results_cell_row rfl _ _ w.heap.size 30 _ (0, 0) _ rfl HT.out Tryz.underlying30 rfl Tryz.infoSu) rfl ?_
    exact ⟨q, k, _, rfl, HF.out.1, HF.out.2.1, HF.out.2.2⟩
end Go.Proofs.YtgnilkjdpfbjgaaGreat
