/- The reference's rules that keep each name: 13 Plain. -/
import Derived.Test.YtgnilkjdpfbjgaaGreatQ12
import Derived.Test.YtgnilkjdpfbjgaaGreatQ14
import Derived.Test.YtgnilkjdpfbjgaaGreatQ11
import Derived.Test.YtgnilkjdpfbjgaaGreatQ19
import Derived.Deep.QuietTactic
import Derived.BigQuiet
import Derived.Deep.AppendLies
namespace Go.Proofs.YtgnilkjdpfbjgaaGreat
open Go.RowKit
set_option linter.unusedVariables false
/-- The formula of a field, from a place of the old ones on. -/
def nmI (f : Fld) : Nat → List Fld → InsT
  | _, [] => ⟨1, 0⟩
  | n, g :: gs => if g.name = f.name then (if (decide (f.count ≤ g.count) && (decide (g.kind = 10) == decide (f.kind = 10))) = true then ⟨3, (n : Int)⟩ else ⟨1, 0⟩) else nmI f (n + 1) gs
theorem nmI_go (f : Fld) : ∀ (l : List Fld) (n : Nat), (match l.findIdx? (fun g => decide (g.name = f.name)) with
  | some i => match l[i]? with
    | some g => if (decide (f.count ≤ g.count) && (decide (g.kind = 10) == decide (f.kind = 10))) = true then (⟨3, ((n + i : Nat) : Int)⟩ : InsT) else ⟨1, 0⟩
    | none => ⟨1, 0⟩
  | none => ⟨1, 0⟩) = nmI f n l
  | [], n => rfl
  | g :: r, n => by
    rw [List.findIdx?_cons]
    unfold nmI
    by_cases h : g.name = f.name
    · rw [if_pos h]
      simp [h]
    · rw [if_neg h, ← nmI_go f r (n + 1)]
      simp only [h, decide_false, Bool.false_eq_true, if_false]
      cases r.findIdx? (fun g => decide (g.name = f.name)) with
      | none => rfl
      | some i =>
        simp only [Option.map_some, List.getElem?_cons_succ]
        rw [show n + 1 + i = n + (i + 1) by omega]
theorem plainI_nm (old : List Fld) (f : Fld) : plainI old f = nmI f 0 old := by
  rw [← nmI_go f old 0]
  unfold plainI namedF
  simp only [Nat.zero_add]
  cases hx : old.findIdx? (fun g => decide (g.name = f.name)) with
  | none => rfl
  | some i => cases hg : old[i]? <;> rfl
/-- The types of the reference's rows. -/
def TRC : Nat → TypeId → Prop := fun _ t => t = 150
def TRI : Nat → TypeId → Prop := fun _ t => t = 150 ∨ t = 151
def TRP : Nat → TypeId → Prop := fun _ t => t = 150 ∨ t = 151 ∨ t = 147
theorem Tryz.infoRIx : (Tryz.prog.info? 151).map (fun i => (i.zero, i.size, i.bytes)) = some (some (.slice none 0 0), 1, 24) := by kernel_rfl
theorem Tryz.infoRRu : (Tryz.prog.info? 147).map (fun i => (i.zero, i.size, i.bytes)) = some (some (.agg #[.int .i64 0, .int .i64 0, .slice none 0 0]), 3, 40) := by kernel_rfl
theorem code_blk {w : World} {q : Nat} {x : InsT} (h : w.heap[q]? = some (.cells #[.int .i64 x.op, .int .i64 x.a, .int .i64 0, .bool false, .int .u64 0, .int .u64 0] 150 (0, 0))) : At w TRC (codeD x) (.slice (some ⟨q, 0, none⟩) 1 1) :=
  at_block (xs := [.int .i64 x.op, .int .i64 x.a, .int .i64 0, .bool false, .int .u64 0, .int .u64 0]) h rfl (by unfold maxLen; simp)
set_option maxRecDepth 100000 in
set_option maxHeartbeats 4000000 in
theorem plain13_any (a b : Int) (old new : List Cmp) (oa na : Option Addr) (ol oc nl nc : Nat) (w : World) (ho : CompsAt w.heap.size w oa ol old) (hn : CompsAt w.heap.size w na nl new) (hmx : nl ≤ 24) (hof : ∀ c ∈ old, c.fields.length ≤ 100000) (hnf : ∀ c ∈ new, c.fields.length ≤ 100000) :
    Calls Tryz.prog 28 #[.agg #[.int .i64 a, .slice oa ol oc], .agg #[.int .i64 b, .slice na nl nc]] w fun e w' => ∃ u, e = .returned (.agg #[.int .i64 a, .int .i64 b, u]) ∧ At w' TRP (rusD (plainR old new)) u ∧ Below w.heap.size w w' := by
  obtain ⟨i0, hiI, hzA, hzB, hzC⟩ := info_parts Tryz.infoRIx
  obtain ⟨j0, hjR, hy0, hy1, hy2⟩ := info_parts Tryz.infoRRu
  have hlen := hn.1
  have HO := Lib.hid ho
  have HN := Lib.hid hn
  have HOF := Lib.hid hof
  have HNF := Lib.hid hnf
  clear ho hn hof hnf
  go_enter Tryz.func28, Tryz.ntmps28
  go_wp2_with fail
  go_loopw [6] (fun i wr => ∃ (k : Nat) (ra : Option Addr) (rc : Nat), k ≤ nl ∧ i = .int .i64 k ∧ wr.heap[w.heap.size]? = some (.cells #[.int .i64 a, .slice oa ol oc] 25 (0, 0)) ∧ wr.heap[w.heap.size + 1]? = some (.cells #[.int .i64 b, .slice na nl nc] 25 (0, 0)) ∧
      wr.heap[w.heap.size + 2]? = some (.cells #[.int .i64 0, .int .i64 0, .slice none 0 0] 101 (0, 0)) ∧ wr.heap[w.heap.size + 3]? = some (.cells #[.int .i64 a, .int .i64 b, .slice ra k rc] 101 (0, 0)) ∧
      Own wr (w.heap.size + 4) 147 3 TRI (.slice ra k rc) k (((new.take k).map (plainU old)).flatMap ruD) ∧ Below w.heap.size w wr ∧ w.heap.size + 4 ≤ wr.heap.size) (fun i _ => nl - (intOf i).toNat)
  case atStart =>
    refine ⟨0, none, 0, Nat.zero_le _, rfl, ?_, ?_, ?_, ?_, Own.nil fun q h => by rcases h with h | h <;> exact absurd h (by decide), by go_grown, by simp⟩
    · exact keepA _ (keepA _ (keepA _ (heap_alloc_new _ _)))
    · exact keepA _ (keepA _ (by simpa using heap_alloc_new (w.alloc _) _))
    · exact keepA _ (by simpa using heap_alloc_new ((w.alloc _).alloc _) _)
    · simpa using heap_alloc_new (((w.alloc _).alloc _).alloc _) _
  case round =>
    obtain ⟨k, ra, rc, hk, rfl, hq0, hq1, hq2, hq3, hown, hbw, hsz⟩ := hrel
    obtain ⟨wk, rfl⟩ : ∃ wk, wk = wr := ⟨wr, rfl⟩
    have HQ := Lib.hid (And.intro hq0 (And.intro hq1 (And.intro hq2 hq3)))
    have HOW := Lib.hid hown
    have c01 := cell_at hq0 1
    have c00 := cell_at hq0 0
    have c11 := cell_at hq1 1
    simp at c00 c01 c11
    by_cases hlt : k < nl
    · obtain ⟨b9, off, c, rfl, hB, hck, c0, c1, fa, fl, fc, c2, hF, hnil⟩ := HN.out.get hbw hlt
      have HF := Lib.hid hF
      have HCK := Lib.hid hck
      have hbx : Below w.heap.size w ((wk.alloc (.cells #[.int .i64 c.id, .string c.name, .slice fa fl fc] 67)).alloc (.cells #[.int .i64 c.id, .int .i64 0, .slice none 0 0] 147)) := (hbw.alloc hbw.size _).alloc (by have := hbw.size; simp; omega) _
      have HFI := Lib.hid (find07_any a c.id old oa ol oc _ ((HO.out.below hbx).mono hbx.size))
      have HBX := Lib.hid hbx
      have HBW := Lib.hid hbw
      have hl0 := lt_some hq0
      have hl1 := lt_some hq1
      have hfl := hF.1
      have hfm : fl ≤ 100000 := by have := HNF.out c (List.mem_of_getElem? hck); omega
      clear hq0 hq1 hq2 hq3 hown hF hck hbx hbw
      go_wp2_with fail
      refine HFI.out.mono ?_
      rintro e w1 ⟨rfl, hb1⟩
      have hzr := HBW.out.size
      have hidx : findC c.id old = none ∧ idxF c.id 0 old = -1 ∨ ∃ o jo, findC c.id old = some o ∧ idxF c.id 0 old = ((jo : Nat) : Int) ∧ old[jo]? = some o := by
        cases hf : findC c.id old with
        | none => exact .inl ⟨rfl, idxF_none old 0 hf⟩
        | some o =>
          obtain ⟨j, h1, h2⟩ := idxF_some old 0 hf
          exact .inr ⟨o, j, rfl, by rw [h1, Nat.zero_add], h2⟩
      have hr1 := keep hb1 (show ((wk.alloc (.cells #[.int .i64 c.id, .string c.name, .slice fa fl fc] 67)).alloc (.cells #[.int .i64 c.id, .int .i64 0, .slice none 0 0] 147)).heap[wk.heap.size + 1]? = some (.cells #[.int .i64 c.id, .int .i64 0, .slice none 0 0] 147 (0, 0)) by simpa using heap_alloc_new (wk.alloc (.cells #[.int .i64 c.id, .string c.name, .slice fa fl fc] 67)) (.cells #[.int .i64 c.id, .int .i64 0, .slice none 0 0] 147))
      have hr0 := keep hb1 (keepA (.cells #[.int .i64 c.id, .int .i64 0, .slice none 0 0] 147) (heap_alloc_new wk (.cells #[.int .i64 c.id, .string c.name, .slice fa fl fc] 67)))
      have hb0 : Below wk.heap.size wk w1 := (((Below.refl _ wk).alloc (Nat.le_refl _) _).alloc (by simp) _).trans (hb1.mono (by simp; omega))
      rcases hidx with ⟨hfc, hix⟩ | ⟨o, jo, hfc, hix, hjo⟩
      · rw [hix]
        have HPU : Hid (plainU old c = ⟨c.id, 0, []⟩) := Lib.hid (by unfold plainU; rw [hfc])
        have HOV : Hid (ruD (plainU old c) = [.v (.int .i64 c.id), .v (.int .i64 0), exsD (plainU old c).ex]) := Lib.hid (by rw [HPU.out]; rfl)
        have hX : At w1 TRI (exsD (plainU old c).ex) (.slice none 0 0) := by
          rw [HPU.out]
          unfold exsD At
          exact ⟨none, 0, rfl, Nat.le_refl _, Nat.zero_le _, .inl rfl⟩
        have hz1 := lt_some hr1
        have q0 := cell_at hr1 0
        have q1 := cell_at hr1 1
        have q2 := cell_at hr1 2
        simp at q0 q1 q2
        have hbW := hb0
        clear hb1 hr1 hr0 HFI hfc hix hb0
        have hWp := keep hbW HQ.out.2.2.2
        have hWr0 := keep hbW HQ.out.1
        have hWr1 := keep hbW HQ.out.2.1
        have hWr2 := keep hbW HQ.out.2.2.1
        have p0 := cell_at hWp 2
        have fp := free_at hWp 2
        simp at p0
        have HWP := Lib.hid hWp
        have HW3 := Lib.hid (And.intro hWr0 (And.intro hWr1 hWr2))
        have hzW := hbW.size
        obtain ⟨⟨xs, hro, hrv⟩, hne⟩ := HOW.out.below hbW
        have HRO := Lib.hid (hro.alloc (.cells #[.int .i64 c.id, .int .i64 0, .slice none 0 0] 147))
        have HRV := Lib.hid hrv
        have HXX := Lib.hid hX
        have HBW2 := Lib.hid (HBW.out.trans (hbW.mono HBW.out.size))
        have hra : ∀ x, (Value.slice ra k rc).ownBlock = some x → w.heap.size + 4 ≤ x := fun x hx => (hro.lt x hx).1
        clear hWp hWr0 hWr1 hWr2 hro hrv hX hbW
        go_wp2_with (at_builtin; go_loud (refine wpList_append_own _ rfl (.tmp 116) (.tmp 118) 99 rfl (w.heap.size + 4) 147 j0 (.agg #[.int .i64 0, .int .i64 0, .slice none 0 0]) 3 40 Tryz.underlying99 hjR hy0 hy1 hy2 rfl (by decide) (.slice ra k rc) k xs rfl HRO.out ⟨w1.heap.size, 0, none⟩ 1 1 [.int .i64 c.id, .int .i64 0, .slice none 0 0] rfl rfl ?c1 ?c2 ?c3 ?c4 ?c5 ?_))
        case c1 =>
          intro j u hu
          have := World.news_of_block (cs := #[.int .i64 c.id, .int .i64 0, .slice none 0 0]) (t := 147) (fr := (0, 0)) (heap_alloc_new w1 (.cells #[.int .i64 c.id, .int .i64 0, .slice none 0 0] 147)) j u hu
          simpa using this
        case c2 => intro u hu; simp at hu; rcases hu with rfl | rfl | rfl <;> rfl
        case c3 => unfold maxLen; omega
        case c4 => omega
        case c5 => have := HBW2.out.size; simp at this ⊢; omega
        intro v' w2 hown2 hg2 _
        obtain ⟨va', vc', hv'⟩ := ownsRow_slice hown2
        rw [hv'] at hown2 ⊢
        clear hv'
        have hne3 : ∀ (b : Nat) (cur : Array Value) (t : TypeId), (World.alloc w1 (.cells #[.int .i64 c.id, .int .i64 0, .slice none 0 0] 147)).heap[b]? = some (.cells cur t (0, 0)) → t ≠ 147 → some b ≠ (Value.slice ra k rc).ownBlock := fun b cur t hb ht => ownsRow_ne_block3 HRO.out hb (fun cur' he => by cases he; exact ht rfl)
        have gp := keepG hg2 (keepA _ HWP.out) (hne3 _ _ _ (keepA _ HWP.out) (by decide))
        have g0 := keepG hg2 (keepA _ HW3.out.1) (hne3 _ _ _ (keepA _ HW3.out.1) (by decide))
        have g1 := keepG hg2 (keepA _ HW3.out.2.1) (hne3 _ _ _ (keepA _ HW3.out.2.1) (by decide))
        have g2 := keepG hg2 (keepA _ HW3.out.2.2) (hne3 _ _ _ (keepA _ HW3.out.2.2) (by decide))
        have hOwn := Own.grow (es := ruD (plainU old c)) HRO.out (HRV.out.kept (fun _ _ _ _ _ h => h) fun q cur t fz hq _ => keepA _ hq) hne hg2 hown2 (by
          rw [HOV.out]
          exact ⟨_, _, rfl, by unfold At; rfl, _, _, rfl, by unfold At; rfl, _, _, rfl, HXX.out.kept (fun _ _ _ _ _ h => h) (fun q cur t fz hq _ => keepA _ hq), rfl⟩)
        have hbel2 : Below w.heap.size w w2 := (HBW2.out.alloc HBW2.out.size _).grown hg2 (by have := HBW2.out.size; simp at this ⊢; omega) (fun x hx => by have := hra x hx; omega)
        have s3 := hset w2 (w.heap.size + 3) 2 (.slice va' (k + 1) vc') _ _ _ gp
        have s0 := (hset_ne w2 ⟨w.heap.size + 3, 2, none⟩ (.slice va' (k + 1) vc') w.heap.size (by simp)).trans g0
        have s1 := (hset_ne w2 ⟨w.heap.size + 3, 2, none⟩ (.slice va' (k + 1) vc') (w.heap.size + 1) (by simp)).trans g1
        have s2 := (hset_ne w2 ⟨w.heap.size + 3, 2, none⟩ (.slice va' (k + 1) vc') (w.heap.size + 2) (by simp)).trans g2
        have hOwn2 := hOwn.set (o := 2) gp (by rintro (h | h) <;> exact absurd h (by decide)) (by decide) (.slice va' (k + 1) vc')
        have r0 := cell_at gp 2
        have rf := free_at gp 2
        simp at r0
        have HS := Lib.hid (And.intro s0 (And.intro s1 (And.intro s2 s3)))
        have HON := Lib.hid hOwn2
        have HBE : Hid (Below w.heap.size w (w2.setCell ⟨w.heap.size + 3, 2, none⟩ (.slice va' (k + 1) vc'))) := Lib.hid (hbel2.setCell (by simp) _)
        have hz2 := lt_some gp
        clear s0 s1 s2 s3 g0 g1 g2 gp hOwn hOwn2 hbel2 hown2 hg2 hne3
        go_wp2
        go_roundw
        case rel =>
          refine ⟨k + 1, va', vc', by omega, by go_num, HS.out.1, HS.out.2.1, HS.out.2.2.1, HS.out.2.2.2, ?_, HBE.out, by simp [World.setCell]; omega⟩
          rw [take_snoc HCK.out, List.map_append, List.flatMap_append]
          have := HON.out
          simpa using this
        case measure => simp [intOf]; omega
      · rw [hix]
        obtain ⟨ob, ooff, o', rfl, hob, ho', hx1, hx2, ga, gl, gc, g2, hG, hx3⟩ := HO.out.get (Below.refl _ _) (k := jo) (by have := (List.getElem?_eq_some_iff.1 hjo).1; have := HO.out.1; omega)
        obtain rfl : o' = o := by rw [hjo] at ho'; exact (Option.some.inj ho').symm
        have hjl : (jo : Int) < (ol : Int) := by have := (List.getElem?_eq_some_iff.1 hjo).1; have := HO.out.1; omega
        have hj0 : (0 : Int) ≤ (jo : Int) := by omega
        have hgl := hG.1
        have hgm : gl ≤ 100000 := by have := HOF.out _ (List.mem_of_getElem? hjo); omega
        have HPU : Hid (plainU old c = ⟨c.id, c.id, c.fields.map (plainI o'.fields)⟩) := Lib.hid (by unfold plainU; rw [hfc])
        have HOV : Hid (ruD (plainU old c) = [.v (.int .i64 c.id), .v (.int .i64 c.id), exsD (plainU old c).ex]) := Lib.hid (by rw [HPU.out]; rfl)
        have hz1 := lt_some hr1
        have q0 := cell_at hr0 0
        have q1 := cell_at hr1 1
        have f1 := free_at hr1 1
        simp at q0 q1
        have HR1 := Lib.hid hr1
        have HR0 := Lib.hid hr0
        have HB0 := Lib.hid hb0
        have HG := Lib.hid hG
        have HG2 := Lib.hid g2
        have hz0' := lt_some hr0
        clear hr1 hr0 hb0 hb1 hfc hix ho' hjo hG g2 HFI hx1 hx2 hx3
        go_wp2_with fail
        have hsz1 : (w1.setCell ⟨wk.heap.size + 1, 1, none⟩ (.int .i64 c.id)).heap.size = w1.heap.size := by simp [World.setCell]
        go_loopw [10] (fun i wr => ∃ (j : Nat) (ea : Option Addr) (ec : Nat), j ≤ fl ∧ i = .int .i64 j ∧ wr.heap[wk.heap.size]? = some (.cells #[.int .i64 c.id, .string c.name, .slice fa fl fc] 67 (0, 0)) ∧ wr.heap[wk.heap.size + 1]? = some (.cells #[.int .i64 c.id, .int .i64 c.id, .slice ea j ec] 147 (0, 0)) ∧
            Own wr (wk.heap.size + 2) 151 1 TRC (.slice ea j ec) j ((c.fields.take j).map fun f => codeD (plainI o'.fields f)) ∧ Below wk.heap.size wk wr) (fun i _ => fl - (intOf i).toNat)
        case atStart =>
          refine ⟨0, none, 0, Nat.zero_le _, rfl, (hset_ne w1 ⟨wk.heap.size + 1, 1, none⟩ _ wk.heap.size (by simp)).trans HR0.out, hset w1 (wk.heap.size + 1) 1 _ _ _ _ HR1.out, Own.nil fun q h => absurd (show (151 : TypeId) = 150 from h) (by decide), HB0.out.setCell (by simp) _⟩
        case round =>
          obtain ⟨j, ea, ec, hj, rfl, hs0, hs1, hox, hbi⟩ := hrel
          obtain ⟨wj, rfl⟩ : ∃ wj, wj = wr := ⟨wr, rfl⟩
          by_cases hlj : j < fl
          · have hbw' : Below w.heap.size w wj := HBW.out.trans (hbi.mono HBW.out.size)
            obtain ⟨b8, off8, f, rfl, hB8, hfj, e0, e1, e2⟩ := HF.out.get (hbi.mono HBW.out.size) hlj
            have HSN : Hid ((c.fields.take (j + 1)).map (fun f => codeD (plainI o'.fields f)) = (c.fields.take j).map (fun f => codeD (plainI o'.fields f)) ++ [codeD (plainI o'.fields f)]) := Lib.hid (by rw [take_snoc hfj, List.map_append]; rfl)
            obtain ⟨⟨xs, hro, hrv⟩, hne⟩ := hox
            have HI := Lib.hid (And.intro hs0 (And.intro hs1 (And.intro hro (And.intro hrv (And.intro hbi hbw')))))
            have g2 := (hbw'.cell (p := ⟨ob, ooff + jo * 3 + 2, none⟩) hob).trans HG2.out
            have hsc := keep hbi HQ.out.1
            have s1 := cell_at hsc 1
            have d2 := cell_at hs0 2
            simp at s1 d2
            have hzw := hbi.size
            have hl0' := lt_some hs0
            have hlr' := lt_some hs1
            have hls' := lt_some hsc
            have hobj : ob < wj.heap.size := by omega
            have hb8j : b8 < wj.heap.size := by omega
            have HE := Lib.hid (And.intro e0 (And.intro e1 e2))
            have HFJ := Lib.hid hfj
            clear hs0 hs1 hro hrv hbi hbw' e0 e1 e2 hfj hsc q0 q1 f1 c00 c01 c11
            go_wp2_with fail
            go_loopw [11, 12] (fun cd n wx => ∃ (m q : Nat), m ≤ gl ∧ n = .int .i64 ((m : Int) - 1) ∧ cd = .slice (some ⟨q, 0, none⟩) 1 1 ∧ wj.heap.size ≤ q ∧ At wx TRC (codeD (nmI f m (o'.fields.drop m))) (.slice (some ⟨q, 0, none⟩) 1 1) ∧ Below wj.heap.size wj wx ∧ wj.heap.size < wx.heap.size) (fun _ n _ => (intOf n + 1).toNat)
            case atStart =>
              refine ⟨gl, wj.heap.size, Nat.le_refl _, rfl, rfl, Nat.le_refl _, ?_, by go_grown, by simp⟩
              rw [List.drop_of_length_le (by omega)]
              exact code_blk (x := ⟨1, 0⟩) (at_new rfl)
            case round =>
              obtain ⟨m, q, hm, rfl, rfl, hqj, hcd, hbx, hzx⟩ := hrel
              obtain ⟨wx, rfl⟩ : ∃ wx, wx = wr := ⟨wr, rfl⟩
              clear s1 d2 g2
              have s1 : wx.cell? ⟨w.heap.size, 1, none⟩ = some (.slice (some ⟨ob, ooff, none⟩) ol oc) := by rw [cell_at (keep hbx (keep HI.out.2.2.2.2.1 HQ.out.1))]; rfl
              have d2 : wx.cell? ⟨wk.heap.size, 2, none⟩ = some (.slice (some ⟨b8, off8, none⟩) fl fc) := by rw [cell_at (keep hbx HI.out.1)]; rfl
              have hBW : Below w.heap.size w wx := HI.out.2.2.2.2.2.trans (hbx.mono HI.out.2.2.2.2.2.size)
              have g2 := (hBW.cell (p := ⟨ob, ooff + jo * 3 + 2, none⟩) hob).trans HG2.out
              cases m with
              | succ n =>
                obtain ⟨b7, off7, g, rfl, hB7, hgn, r0, r1, r2⟩ := HG.out.get hBW (k := n) (by omega)
                have en : ((n + 1 : Nat) : Int) - 1 = (n : Int) := by omega
                rw [en]
                have hn1 : (n : Int) < (gl : Int) := by omega
                have hn0 : (0 : Int) ≤ (n : Int) := by omega
                have HNM : Hid (nmI f n (o'.fields.drop n) = if g.name = f.name then (if (decide (f.count ≤ g.count) && (decide (g.kind = 10) == decide (f.kind = 10))) = true then ⟨3, (n : Int)⟩ else ⟨1, 0⟩) else nmI f (n + 1) (o'.fields.drop (n + 1))) := Lib.hid (by
                  rw [drop_get hgn]
                  rfl)
                have HCD := Lib.hid hcd
                have HBX := Lib.hid hbx
                have HBW1 := Lib.hid hBW
                clear hcd hbx hBW hgn en
                have hobx : ob < wx.heap.size := by omega
                have hb7x : b7 < wx.heap.size := by omega
                have hwx : w.heap.size < wx.heap.size := by omega
                go_upto_region 18 with (fail)
                generalize hV : wx.alloc (.cells #[.string g.name, .int .i64 g.kind, .int .i64 g.count] 64) = V at *
                have gq : V.heap[wx.heap.size]? = some (.cells #[.string g.name, .int .i64 g.kind, .int .i64 g.count] 64 (0, 0)) := by rw [← hV]; exact heap_alloc_new wx _
                have hVb : Below wx.heap.size wx V := by rw [← hV]; go_grown
                have hVz : V.heap.size = wx.heap.size + 1 := by rw [← hV]; simp
                have HV := Lib.hid (And.intro gq hVb)
                clear hV r0 r1 r2 s1 d2 g2
                have z0 := cell_at gq 0
                have z1 := cell_at gq 1
                have z2 := cell_at gq 2
                simp at z0 z1 z2
                have hcq := keep hVb (keep HBX.out HI.out.1)
                have d2 := cell_at hcq 2
                simp at d2
                have hBV : Below w.heap.size w V := HBW1.out.trans (hVb.mono HBW1.out.size)
                obtain ⟨e0, e1, e2⟩ := HE.out
                have y := fun o => (hVb.cell (p := ⟨b8, o, none⟩) (show b8 < wx.heap.size by omega)).trans (HBX.out.cell (p := ⟨b8, o, none⟩) hb8j)
                have y0 := (y _).trans e0
                have y1 := (y _).trans e1
                have y2 := (y _).trans e2
                have hi0 : (0 : Int) ≤ (j : Int) := by omega
                have hi1 : (j : Int) < (fl : Int) := by omega
                have hl8 := lt_some gq
                have hlk := lt_some hcq
                have hb8V : b8 < V.heap.size := by omega
                clear gq hVb hcq hBV y e0 e1 e2
                by_cases heq : g.name = f.name
                · have HN1 : Hid (nmI f n (o'.fields.drop n) = if (decide (f.count ≤ g.count) && (decide (g.kind = 10) == decide (f.kind = 10))) = true then ⟨3, (n : Int)⟩ else ⟨1, 0⟩) := Lib.hid (by rw [HNM.out, if_pos heq])
                  rw [heq] at z0
                  clear heq
                  go_quiet (fail)
                  go_wp2_with fail
                  generalize hV2 : World.alloc _ (.cells #[.int .i64 1, .int .i64 0, .int .i64 0, .bool false, .int .u64 0, .int .u64 0] 150) = V2 at *
                  have hb2 : Below V.heap.size V V2 := by rw [← hV2]; exact (below_drewN (Below.refl _ _) _).alloc (Nat.le_refl _) _
                  have hcode : V2.heap[V.heap.size]? = some (.cells #[.int .i64 1, .int .i64 0, .int .i64 0, .bool false, .int .u64 0, .int .u64 0] 150 (0, 0)) := by rw [← hV2]; exact heap_alloc_new _ _
                  have hV2z : V2.heap.size = V.heap.size + 1 := by rw [← hV2]; simp
                  have HV2 := Lib.hid (And.intro hb2 (And.intro hcode ((HBX.out.trans (HV.out.2.mono HBX.out.size)).trans (hb2.mono (by omega)))))
                  have gq := keep hb2 HV.out.1
                  have hcq := keep hb2 (keep HV.out.2 (keep HBX.out HI.out.1))
                  clear hV2 z0 z1 z2 d2 y0 y1 y2
                  have z0 := cell_at gq 0
                  have z1 := cell_at gq 1
                  have z2 := cell_at gq 2
                  have d2 := cell_at hcq 2
                  simp at z0 z1 z2 d2
                  obtain ⟨e0, e1, e2⟩ := HE.out
                  have y := fun o => ((hb2.cell (p := ⟨b8, o, none⟩) hb8V).trans (HV.out.2.cell (p := ⟨b8, o, none⟩) (show b8 < wx.heap.size by omega))).trans (HBX.out.cell (p := ⟨b8, o, none⟩) hb8j)
                  have y0 := (y _).trans e0
                  have y1 := (y _).trans e1
                  have y2 := (y _).trans e2
                  have hl8' := lt_some gq
                  have hlk' := lt_some hcq
                  have hb8V2 : b8 < V2.heap.size := by omega
                  clear gq hb2 hcode hcq y e0 e1 e2 hl8 hlk hb8V
                  by_cases hc : f.count ≤ g.count
                  · by_cases hg : g.kind = 10
                    · rw [hg] at z1
                      by_cases hf : f.kind = 10
                      · rw [hf] at y1
                        have HN2 : Hid (nmI f n (o'.fields.drop n) = ⟨3, (n : Int)⟩) := Lib.hid (by rw [HN1.out, hg, hf]; simp [hc])
                        clear hg hf
                        go_quiet (fail)
                        go_wp2_with fail
                        go_roundw
                        case rel =>
                          refine ⟨n, V2.heap.size, by omega, by go_num, by simp [hV2z, hVz], by omega, ?_, ?_, ?_⟩
                          · rw [HN2.out]
                            exact code_blk (x := ⟨3, n⟩) (at_new rfl)
                          · exact (below_drewN HV2.out.2.2 _).alloc (by show wj.heap.size ≤ V2.heap.size; omega) _
                          · show wj.heap.size < (World.alloc (World.drewN V2 _) _).heap.size
                            simp
                            omega
                        case measure => simp [intOf] <;> omega
                      · have HN2 : Hid (nmI f n (o'.fields.drop n) = ⟨1, 0⟩) := Lib.hid (by rw [HN1.out, hg]; simp [hc, hf])
                        have k2 : (f.kind == 10) = false := by simp [hf]
                        clear hg hf
                        go_quiet (fail)
                        go_wp2_with fail
                        go_roundw
                        case rel =>
                          refine ⟨n, V.heap.size, by omega, by go_num, by simp [hVz], by omega, ?_, ?_, ?_⟩
                          · rw [HN2.out]
                            exact (code_blk (x := ⟨1, 0⟩) HV2.out.2.1).below (below_drewN (Below.refl _ _) _)
                          · exact below_drewN HV2.out.2.2 _
                          · show wj.heap.size < V2.heap.size
                            omega
                        case measure => simp [intOf] <;> omega
                    · have k1 : (g.kind == 10) = false := by simp [hg]
                      by_cases hf : f.kind = 10
                      · rw [hf] at y1
                        have HN2 : Hid (nmI f n (o'.fields.drop n) = ⟨1, 0⟩) := Lib.hid (by rw [HN1.out, hf]; simp [hc, hg])
                        clear hg hf
                        go_quiet (fail)
                        go_wp2_with fail
                        go_roundw
                        case rel =>
                          refine ⟨n, V.heap.size, by omega, by go_num, by simp [hVz], by omega, ?_, ?_, ?_⟩
                          · rw [HN2.out]
                            exact (code_blk (x := ⟨1, 0⟩) HV2.out.2.1).below (below_drewN (Below.refl _ _) _)
                          · exact below_drewN HV2.out.2.2 _
                          · show wj.heap.size < V2.heap.size
                            omega
                        case measure => simp [intOf] <;> omega
                      · have HN2 : Hid (nmI f n (o'.fields.drop n) = ⟨3, (n : Int)⟩) := Lib.hid (by rw [HN1.out]; simp [hc, hf, hg])
                        have k2 : (f.kind == 10) = false := by simp [hf]
                        clear hg hf
                        go_quiet (fail)
                        go_wp2_with fail
                        go_roundw
                        case rel =>
                          refine ⟨n, V2.heap.size, by omega, by go_num, by simp [hV2z, hVz], by omega, ?_, ?_, ?_⟩
                          · rw [HN2.out]
                            exact code_blk (x := ⟨3, n⟩) (at_new rfl)
                          · exact (below_drewN HV2.out.2.2 _).alloc (by show wj.heap.size ≤ V2.heap.size; omega) _
                          · show wj.heap.size < (World.alloc (World.drewN V2 _) _).heap.size
                            simp
                            omega
                        case measure => simp [intOf] <;> omega
                  · have HN2 : Hid (nmI f n (o'.fields.drop n) = ⟨1, 0⟩) := Lib.hid (by rw [HN1.out]; simp [hc])
                    go_quiet (fail)
                    go_wp2_with fail
                    go_roundw
                    case rel =>
                      refine ⟨n, V.heap.size, by omega, by go_num, by simp [hVz], by omega, ?_, ?_, ?_⟩
                      · rw [HN2.out]
                        exact (code_blk (x := ⟨1, 0⟩) HV2.out.2.1).below (below_drewN (Below.refl _ _) _)
                      · exact below_drewN HV2.out.2.2 _
                      · show wj.heap.size < V2.heap.size
                        omega
                    case measure => simp [intOf] <;> omega
                · have HN1 : Hid (nmI f n (o'.fields.drop n) = nmI f (n + 1) (o'.fields.drop (n + 1))) := Lib.hid (by rw [HNM.out, if_neg heq])
                  have ne1 := str_ne heq
                  clear heq
                  go_quiet (fail)
                  go_wp2_with fail
                  go_roundw
                  case rel =>
                    refine ⟨n, q, by omega, by go_num, rfl, hqj, ?_, ?_, ?_⟩
                    · rw [HN1.out]
                      exact HCD.out.below (below_drewN HV.out.2 _)
                    · exact below_drewN (HBX.out.trans (HV.out.2.mono HBX.out.size)) _
                    · show wj.heap.size < V.heap.size
                      omega
                  case measure => simp [intOf] <;> omega
              | zero =>
                have HPI : Hid (nmI f 0 (o'.fields.drop 0) = plainI o'.fields f) := Lib.hid (by rw [List.drop_zero]; exact (plainI_nm o'.fields f).symm)
                have hr := keep hbx HI.out.2.1
                have r2 := cell_at hr 2
                simp at r2
                have hRO := row_below HI.out.2.2.1 hbx
                have HRO := Lib.hid (hRO.alloc (.cells #[.slice (some ⟨q, 0, none⟩) 1 1] 151))
                have HRO' := Lib.hid hRO
                have HR := Lib.hid hr
                have HC := Lib.hid (keep hbx HI.out.1)
                have HCD := Lib.hid hcd
                have HBX := Lib.hid hbx
                have hlr := lt_some hr
                clear hr hRO hcd hbx s1 d2 g2
                go_wp2_with (at_builtin; go_loud (refine wpList_append_own _ rfl (.tmp 110) (.tmp 112) 145 rfl (wk.heap.size + 2) 151 i0 (.slice none 0 0) 1 24 Tryz.underlying145 hiI hzA hzB hzC rfl (by decide) (.slice ea j ec) j xs rfl HRO.out ⟨wx.heap.size, 0, none⟩ 1 1 [.slice (some ⟨q, 0, none⟩) 1 1] rfl rfl ?c1 ?c2 ?c3 ?c4 ?c5 ?_))
                case c1 =>
                  intro j u hu
                  have := World.news_of_block (cs := #[.slice (some ⟨q, 0, none⟩) 1 1]) (t := 151) (fr := (0, 0)) (heap_alloc_new wx (.cells #[.slice (some ⟨q, 0, none⟩) 1 1] 151)) j u hu
                  simpa using this
                case c2 => intro u hu; simp at hu; subst hu; rfl
                case c3 => unfold maxLen; omega
                case c4 => omega
                case c5 => simp; omega
                intro v' wA hownA hgA _
                obtain ⟨va', vc', hv'⟩ := ownsRow_slice hownA
                rw [hv'] at hownA ⊢
                clear hv'
                have a0 := keepG hgA (keepA _ HC.out) (ownsRow_ne_block3 HRO.out (keepA _ HC.out) (fun cur he => by cases he))
                have a1 := keepG hgA (keepA _ HR.out) (ownsRow_ne_block3 HRO.out (keepA _ HR.out) (fun cur he => by cases he))
                have hoA := Own.grow (es := [codeD (plainI o'.fields f)]) HRO.out (HI.out.2.2.2.1.kept (fun _ _ _ _ _ h => h) fun q cur t fz hq _ => keepA _ (keep HBX.out hq)) hne hgA hownA ⟨_, _, rfl, by
                  have := HCD.out
                  rw [HPI.out] at this
                  exact this.kept (fun _ _ _ _ _ h => h) fun q cur t fz hq _ => keepA _ hq, rfl⟩
                rw [← HSN.out] at hoA
                have hra : ∀ x, (Value.slice ea j ec).ownBlock = some x → wk.heap.size + 2 ≤ x := fun x hx => (HRO.out.lt x hx).1
                have hbW : Below wk.heap.size wk wx := HI.out.2.2.2.2.1.trans (HBX.out.mono HI.out.2.2.2.2.1.size)
                have hbA : Below wk.heap.size wk wA := (hbW.alloc hbW.size _).grown hgA (by have := hbW.size; simp; omega) (fun x hx => by have := hra x hx; omega)
                have s0 := (hset_ne wA ⟨wk.heap.size + 1, 2, none⟩ (.slice va' (j + 1) vc') wk.heap.size (by simp)).trans a0
                have s1 := hset wA (wk.heap.size + 1) 2 (.slice va' (j + 1) vc') _ _ _ a1
                have so := hoA.set (o := 2) a1 (fun h => absurd (show (147 : TypeId) = 150 from h) (by decide)) (by decide) (.slice va' (j + 1) vc')
                have HF1 := Lib.hid (And.intro s0 (And.intro s1 (And.intro so (hbA.setCell (by simp) (.slice va' (j + 1) vc') : Below wk.heap.size wk (wA.setCell ⟨wk.heap.size + 1, 2, none⟩ (.slice va' (j + 1) vc'))))))
                have x2 := cell_at a1 2
                have x3 := free_at a1 2
                have hlA := lt_some a1
                simp at x2
                clear a0 a1 hoA hra hbA s0 s1 so hownA hgA hbW r2
                go_wp2
                go_roundw
                case rel => exact ⟨j + 1, va', vc', by omega, by go_num, HF1.out.1, HF1.out.2.1, HF1.out.2.2.1, HF1.out.2.2.2⟩
                case measure => simp [intOf] <;> omega
          · obtain rfl : fl = j := by omega
            have q0 := cell_at hs1 0
            have q1 := cell_at hs1 1
            have q2 := cell_at hs1 2
            have p2 := cell_at hs0 2
            simp at q0 q1 q2 p2
            have hz1 := lt_some hs1
            have hbW := hbi
            have hX : At wj TRI (exsD (plainU old c).ex) (.slice ea fl ec) := by
              have := hox.at (T' := TRI) (fun q t _ h => h)
              rw [List.take_of_length_le (by omega)] at this
              rw [HPU.out]
              unfold exsD
              rw [List.length_map, hfl, List.map_map]
              exact this
            clear hs0 hs1 hox hbi f1 c2
            have hWp := keep hbW HQ.out.2.2.2
            have hWr0 := keep hbW HQ.out.1
            have hWr1 := keep hbW HQ.out.2.1
            have hWr2 := keep hbW HQ.out.2.2.1
            have p0 := cell_at hWp 2
            have fp := free_at hWp 2
            simp at p0
            have HWP := Lib.hid hWp
            have HW3 := Lib.hid (And.intro hWr0 (And.intro hWr1 hWr2))
            have hzW := hbW.size
            obtain ⟨⟨xs, hro, hrv⟩, hne⟩ := HOW.out.below hbW
            have HRO := Lib.hid (hro.alloc (.cells #[.int .i64 c.id, .int .i64 c.id, .slice ea fl ec] 147))
            have HRV := Lib.hid hrv
            have HXX := Lib.hid hX
            have HBW2 := Lib.hid (HBW.out.trans (hbW.mono HBW.out.size))
            have hra : ∀ x, (Value.slice ra k rc).ownBlock = some x → w.heap.size + 4 ≤ x := fun x hx => (hro.lt x hx).1
            clear hWp hWr0 hWr1 hWr2 hro hrv hX hbW
            go_wp2_with (at_builtin; go_loud (refine wpList_append_own _ rfl (.tmp 116) (.tmp 118) 99 rfl (w.heap.size + 4) 147 j0 (.agg #[.int .i64 0, .int .i64 0, .slice none 0 0]) 3 40 Tryz.underlying99 hjR hy0 hy1 hy2 rfl (by decide) (.slice ra k rc) k xs rfl HRO.out ⟨wj.heap.size, 0, none⟩ 1 1 [.int .i64 c.id, .int .i64 c.id, .slice ea fl ec] rfl rfl ?c1 ?c2 ?c3 ?c4 ?c5 ?_))
            case c1 =>
              intro j u hu
              have := World.news_of_block (cs := #[.int .i64 c.id, .int .i64 c.id, .slice ea fl ec]) (t := 147) (fr := (0, 0)) (heap_alloc_new wj (.cells #[.int .i64 c.id, .int .i64 c.id, .slice ea fl ec] 147)) j u hu
              simpa using this
            case c2 => intro u hu; simp at hu; rcases hu with rfl | rfl | rfl <;> rfl
            case c3 => unfold maxLen; omega
            case c4 => omega
            case c5 => have := HBW2.out.size; simp at this ⊢; omega
            intro v' w2 hown2 hg2 _
            obtain ⟨va', vc', hv'⟩ := ownsRow_slice hown2
            rw [hv'] at hown2 ⊢
            clear hv'
            have hne3 : ∀ (b : Nat) (cur : Array Value) (t : TypeId), (World.alloc wj (.cells #[.int .i64 c.id, .int .i64 c.id, .slice ea fl ec] 147)).heap[b]? = some (.cells cur t (0, 0)) → t ≠ 147 → some b ≠ (Value.slice ra k rc).ownBlock := fun b cur t hb ht => ownsRow_ne_block3 HRO.out hb (fun cur' he => by cases he; exact ht rfl)
            have gp := keepG hg2 (keepA _ HWP.out) (hne3 _ _ _ (keepA _ HWP.out) (by decide))
            have g0 := keepG hg2 (keepA _ HW3.out.1) (hne3 _ _ _ (keepA _ HW3.out.1) (by decide))
            have g1 := keepG hg2 (keepA _ HW3.out.2.1) (hne3 _ _ _ (keepA _ HW3.out.2.1) (by decide))
            have g2 := keepG hg2 (keepA _ HW3.out.2.2) (hne3 _ _ _ (keepA _ HW3.out.2.2) (by decide))
            have hOwn := Own.grow (es := ruD (plainU old c)) HRO.out (HRV.out.kept (fun _ _ _ _ _ h => h) fun q cur t fz hq _ => keepA _ hq) hne hg2 hown2 (by
              rw [HOV.out]
              exact ⟨_, _, rfl, by unfold At; rfl, _, _, rfl, by unfold At; rfl, _, _, rfl, HXX.out.kept (fun _ _ _ _ _ h => h) (fun q cur t fz hq _ => keepA _ hq), rfl⟩)
            have hbel2 : Below w.heap.size w w2 := (HBW2.out.alloc HBW2.out.size _).grown hg2 (by have := HBW2.out.size; simp at this ⊢; omega) (fun x hx => by have := hra x hx; omega)
            have s3 := hset w2 (w.heap.size + 3) 2 (.slice va' (k + 1) vc') _ _ _ gp
            have s0 := (hset_ne w2 ⟨w.heap.size + 3, 2, none⟩ (.slice va' (k + 1) vc') w.heap.size (by simp)).trans g0
            have s1 := (hset_ne w2 ⟨w.heap.size + 3, 2, none⟩ (.slice va' (k + 1) vc') (w.heap.size + 1) (by simp)).trans g1
            have s2 := (hset_ne w2 ⟨w.heap.size + 3, 2, none⟩ (.slice va' (k + 1) vc') (w.heap.size + 2) (by simp)).trans g2
            have hOwn2 := hOwn.set (o := 2) gp (by rintro (h | h) <;> exact absurd h (by decide)) (by decide) (.slice va' (k + 1) vc')
            have r0 := cell_at gp 2
            have rf := free_at gp 2
            simp at r0
            have HS := Lib.hid (And.intro s0 (And.intro s1 (And.intro s2 s3)))
            have HON := Lib.hid hOwn2
            have HBE : Hid (Below w.heap.size w (w2.setCell ⟨w.heap.size + 3, 2, none⟩ (.slice va' (k + 1) vc'))) := Lib.hid (hbel2.setCell (by simp) _)
            have hz2 := lt_some gp
            clear s0 s1 s2 s3 g0 g1 g2 gp hOwn hOwn2 hbel2 hown2 hg2 hne3
            go_wp2
            go_roundw
            case rel =>
              refine ⟨k + 1, va', vc', by omega, by go_num, HS.out.1, HS.out.2.1, HS.out.2.2.1, HS.out.2.2.2, ?_, HBE.out, by simp [World.setCell]; omega⟩
              rw [take_snoc HCK.out, List.map_append, List.flatMap_append]
              have := HON.out
              simpa using this
            case measure => simp [intOf]; omega
    · obtain rfl : k = nl := by omega
      have c3 := fun o => cell_at hq3 o
      have c30 := c3 0
      have c31 := c3 1
      have c32 := c3 2
      have c20 := cell_at hq2 0
      have c21 := cell_at hq2 1
      have c22 := cell_at hq2 2
      have f20 := free_at hq2 0
      have f21 := free_at hq2 1
      have f22 := free_at hq2 2
      simp at c20 c21 c22 c30 c31 c32
      have hz3 := lt_some hq3
      have hs := hset _ (w.heap.size + 2) 2 (.slice ra k rc) _ _ _ (hset _ (w.heap.size + 2) 1 (.int .i64 b) _ _ _ (hset _ (w.heap.size + 2) 0 (.int .i64 a) _ _ _ hq2))
      have hbf : Below w.heap.size w (((wk.setCell ⟨w.heap.size + 2, 0, none⟩ (.int .i64 a)).setCell ⟨w.heap.size + 2, 1, none⟩ (.int .i64 b)).setCell ⟨w.heap.size + 2, 2, none⟩ (.slice ra k rc)) := ((hbw.setCell (by simp) _).setCell (by simp) _).setCell (by simp) _
      have HBF := Lib.hid hbf
      have hat : At wk TRP (rusD (plainR old new)) (.slice ra k rc) := by
        have := hown.at (T' := TRP) (fun q t _ h => by
          rcases h with (h | h) | h
          · exact .inl h
          · exact .inr (.inl h)
          · exact .inr (.inr h))
        rw [List.take_of_length_le (by omega)] at this
        unfold rusD plainR
        rw [List.length_map, hlen]
        exact this
      have nTP : ¬ TRP (w.heap.size + 2) 101 := by rintro (h | h | h) <;> exact absurd h (by decide)
      have b1 := hset _ (w.heap.size + 2) 0 (.int .i64 a) _ _ _ hq2
      have b2 := hset _ (w.heap.size + 2) 1 (.int .i64 b) _ _ _ b1
      have HAT := Lib.hid (((hat.set (o := 0) hq2 nTP (.int .i64 a)).set (o := 1) b1 nTP (.int .i64 b)).set (o := 2) b2 nTP (.slice ra k rc))
      clear hq0 hq1 hq2 hq3 hown hbf hbw hs b1 b2 hat nTP c3
      go_wp2_with fail
      refine bodyPost_ret (v := .agg #[.int .i64 a, .int .i64 b, .slice ra k rc]) (by simp [results, Tryz.results28, go_sem, c20, c21, c22]; try rfl) rfl ?_
      exact ⟨_, rfl, HAT.out, HBF.out⟩
end Go.Proofs.YtgnilkjdpfbjgaaGreat
