/- A cache's tables. Printed by mkF8.py out of F8.in. -/
import Derived.Test.YtgebbmfoamkfnaaGreatDoorT28
import Derived.Test.YtgebbmfoamkfnaaGreatDoorT29
namespace Go.Proofs.YtgebbmfoamkfnaaGreatDoor
open Go.RowKit
set_option linter.unusedVariables false
def IsNewM (U : Nat) (v : Value) (w : World) : Prop := ∃ q, U ≤ q ∧ v = .pointer (some ⟨q, 0, none⟩) ∧ w.heap[q]? = some (.cells #[.slice none 0 0, .slice none 0 0] 133 (0, 0))
theorem lasts_newM (U : Nat) : Lasts (IsNewM U) := fun _ _ _ ⟨q, h0, h1, h2⟩ hb => ⟨q, h0, h1, keep hb h2⟩
theorem isNewM_new {U : Nat} {w : World} (h : U ≤ w.heap.size) : IsNewM U (.pointer (some ⟨w.heap.size, 0, none⟩)) (w.alloc (.cells #[.slice none 0 0, .slice none 0 0] 133)) := ⟨_, h, rfl, heap_alloc_new w _⟩
theorem wrap_in {x : Int} (h0 : -9223372036854775808 ≤ x) (h1 : x ≤ 9223372036854775807) : IntKind.i64.wrap x = x := by
 rw [IntKind.wrap_i64]; omega
def ct_list5 (cb kb : Nat) (al no : Int) (oa : Option Addr) (on oc : Nat) (ota : Option Addr) (om otc U : Nat) : List (Value → World → Prop) :=
 [IsV (.pointer (some ⟨cb, 0, none⟩)),
  IsV (.pointer (some ⟨cb, 0, none⟩)),
  IsV (.pointer (some ⟨cb, 0, none⟩)),
  IsV (.map (some kb)),
  IsV (.agg #[.int .u32 al, .int .u32 no]),
  IsV (.agg #[.slice oa on oc, .slice ota om otc]),
  IsNewM U]
theorem ct_list5_lasts (cb kb : Nat) (al no : Int) (oa : Option Addr) (on oc : Nat) (ota : Option Addr) (om otc U : Nat) : ∀ p ∈ ct_list5 cb kb  al no  oa  on oc  ota  om otc U , Lasts p := by
 simp only [ct_list5, List.mem_cons, List.not_mem_nil, or_false]
 rintro p hp
 repeat (rcases hp with rfl | hp; first | exact lasts_newM _ | exact lasts_v _ | exact lasts_emp _ _ _ | exact lasts_rowO _ _ _ _ _ | exact lasts_with _ _ _ _ _ _ | exact lasts_oneW _ _ _ _ _ _ _ | exact lasts_one _ _)
def ct_list7 (q8 : Nat) (oa : Option Addr) (on oc : Nat) (ota : Option Addr) (om otc U : Nat) (xs : List Value) : List (Value → World → Prop) :=
 [IsV (.pointer (some ⟨q8, 0, none⟩)),
  IsV (.slice oa on oc),
  IsV (.pointer (some ⟨q8, 1, none⟩)),
  IsV (.slice ota om otc),
  IsRowO U 3 1 om xs]
theorem ct_list7_lasts (q8 : Nat) (oa : Option Addr) (on oc : Nat) (ota : Option Addr) (om otc U : Nat) (xs : List Value) : ∀ p ∈ ct_list7 q8  oa  on oc  ota  om otc U  xs , Lasts p := by
 simp only [ct_list7, List.mem_cons, List.not_mem_nil, or_false]
 rintro p hp
 repeat (rcases hp with rfl | hp; first | exact lasts_v _ | exact lasts_emp _ _ _ | exact lasts_rowO _ _ _ _ _ | exact lasts_with _ _ _ _ _ _ | exact lasts_oneW _ _ _ _ _ _ _ | exact lasts_one _ _)
def ct_list8 (cb : Nat) (lk : Int) (sa : Option Addr) (n sc : Nat) (a0 : Option Addr) (j0 c0 U : Nat) : List (Value → World → Prop) :=
 [IsV (.pointer (some ⟨cb, 0, none⟩)),
  IsV (.pointer (some ⟨cb, 0, none⟩)),
  IsV (.pointer (some ⟨cb, 1, none⟩)),
  IsV (.int .i64 lk),
  IsV (.slice sa n sc),
  IsV (.int .i64 (n : Int)),
  IsV (.pointer (some ⟨(U + 1), 0, none⟩)),
  IsV (.slice a0 j0 c0),
  IsV (.int .i64 (j0 : Int)),
  IsV (.int .i64 ((n : Int) - (j0 : Int))),
  IsV (.int .i64 (lk + ((n : Int) - (j0 : Int)))),
  IsV (.pointer (some ⟨cb, 0, none⟩)),
  IsV (.pointer (some ⟨cb, 1, none⟩))]
theorem ct_list8_lasts (cb : Nat) (lk : Int) (sa : Option Addr) (n sc : Nat) (a0 : Option Addr) (j0 c0 U : Nat) : ∀ p ∈ ct_list8 cb  lk  sa  n sc  a0  j0 c0 U , Lasts p := by
 simp only [ct_list8, List.mem_cons, List.not_mem_nil, or_false]
 rintro p hp
 repeat (rcases hp with rfl | hp; first | exact lasts_v _ | exact lasts_emp _ _ _ | exact lasts_rowO _ _ _ _ _ | exact lasts_with _ _ _ _ _ _ | exact lasts_oneW _ _ _ _ _ _ _ | exact lasts_one _ _)
def ct_list10 (cb kb : Nat) (al no : Int) (sa' : Option Addr) (n sc' : Nat) (ta' : Option Addr) (m' tc' : Nat) : List (Value → World → Prop) :=
 [IsV (.pointer (some ⟨cb, 0, none⟩)),
  IsV (.pointer (some ⟨cb, 0, none⟩)),
  IsV (.pointer (some ⟨cb, 0, none⟩)),
  IsV (.map (some kb)),
  IsV (.agg #[.int .u32 al, .int .u32 no]),
  IsV (.agg #[.slice sa' n sc', .slice ta' m' tc'])]
theorem ct_list10_lasts (cb kb : Nat) (al no : Int) (sa' : Option Addr) (n sc' : Nat) (ta' : Option Addr) (m' tc' : Nat) : ∀ p ∈ ct_list10 cb kb  al no  sa'  n sc'  ta'  m' tc' , Lasts p := by
 simp only [ct_list10, List.mem_cons, List.not_mem_nil, or_false]
 rintro p hp
 repeat (rcases hp with rfl | hp; first | exact lasts_v _ | exact lasts_emp _ _ _ | exact lasts_rowO _ _ _ _ _ | exact lasts_with _ _ _ _ _ _ | exact lasts_oneW _ _ _ _ _ _ _ | exact lasts_one _ _)
theorem below_set2 {B : Nat} (w : World) (q : Nat) (u v : Value) (h : B ≤ q) : Below B w ((w.setCell ⟨q, 0, none⟩ u).setCell ⟨q, 1, none⟩ v) := ((Only.at w q 0 u).below h).trans ((Only.at _ q 1 v).below h)
theorem cloneInts_n (B : Nat) (a : Option Addr) (c m : Nat) (xs : List Int) (w : World) (h : w.ownsRow B 3 1 (.slice a m c) m (xs.map (.int .i64))) (hm : m ≤ 100000) :
  Calls Tryz.prog 64 #[.slice a m c] w (IsCopyOf 3 (xs.map (.int .i64)) m w) := by
 have hl : xs.length = m := by have := h.1; rw [List.length_map] at this; omega
 subst hl
 exact cloneInts_any B a c xs w h hm
structure TabS (w0 : World) (cb kb : Nat) (lk : Int) (al no : Int) (l : List Int) (a0 : Option Addr) (j0 c0 : Nat) (ta : Option Addr) (m tc : Nat) (W : World) : Prop where
 ccb : W.heap[cb]? = some (.cells #[.map (some kb), .int .i64 lk] 131 (0, 0))
 cq : W.heap[w0.heap.size]? = some (.cells #[.int .u32 al, .int .u32 no] 30 (0, 0))
 cm : W.heap[w0.heap.size + 1]? = some (.cells #[.slice a0 j0 c0, .slice ta m tc] 133 (0, 0))
 tab : W.ownsRow (w0.heap.size + 1) 3 1 (.slice ta m tc) m ((tabsGo al no 0 (l.take j0)).map (.int .i64))
 le : m ≤ j0
 lt : cb < w0.heap.size
 out : Out (fun x => x = cb) w0 W
section
variable {w w0 W W' : World} {cb kb : Nat} {S : CS} {lk al no : Int} {l : List Int} {a0 : Option Addr} {j0 c0 : Nat} {ta : Option Addr} {m tc : Nat}
theorem TabS.below (h : TabS w0 cb kb lk al no l a0 j0 c0 ta m tc W) (hb : Below W.heap.size W W') : TabS w0 cb kb lk al no l a0 j0 c0 ta m tc W' :=
 ⟨keep hb h.ccb, keep hb h.cq, keep hb h.cm, ownsRow_below h.tab hb, h.le, h.lt, h.out.trans (Out.of (F := fun x => x = cb) hb) (fun _ => .inl)⟩
theorem TabS.start (h : CacheAt w cb kb S) (al no : Int) (l : List Int) : TabS w cb kb S.looked al no l none 0 0 none 0 0 ((w.alloc (.cells #[.int .u32 al, .int .u32 no] 30)).alloc (.cells #[.slice none 0 0, .slice none 0 0] 133)) := by
 have h2 := heap_alloc_new (w.alloc (.cells #[.int .u32 al, .int .u32 no] 30)) (.cells #[.slice none 0 0, .slice none 0 0] 133)
 rw [World.size_alloc] at h2
 have hb : Below w.heap.size w ((w.alloc (.cells #[.int .u32 al, .int .u32 no] 30)).alloc (.cells #[.slice none 0 0, .slice none 0 0] 133)) := by go_grown
 exact ⟨keep hb h.blk, keepA _ (heap_alloc_new w _), h2, World.ownsRow_nil _ _ _ _, Nat.le_refl _, lt_some h.blk, Out.of hb⟩
theorem TabS.look (h : TabS w0 cb kb lk al no l a0 j0 c0 ta m tc W) (lk' : Int) : TabS w0 cb kb lk' al no l a0 j0 c0 ta m tc (W.setCell ⟨cb, 1, none⟩ (.int .i64 lk')) := by
 have hne1 : w0.heap.size ≠ cb := by have := h.lt; omega
 have hne2 : w0.heap.size + 1 ≠ cb := by have := h.lt; omega
 refine ⟨hset W cb 1 _ _ _ _ h.ccb, by rw [hset_ne W ⟨cb, 1, none⟩ _ _ hne1]; exact h.cq, by rw [hset_ne W ⟨cb, 1, none⟩ _ _ hne2]; exact h.cm, ?_, h.le, h.lt, h.out.trans (Out.only (F := fun x => x = cb) (Only.at W cb 1 _) rfl) (fun _ => .inl)⟩
 refine ownsRow_out h.tab (Out.only (F := fun z => z = cb) (Only.at W cb 1 _) rfl) (fun z hz e => ?_)
 have := (h.tab.lt z hz).1
 have := h.lt
 omega
theorem TabS.put {a : Option Addr} {j c : Nat} {va : Option Addr} {m' vc : Nat} {xs : List Value} (h : TabS w0 cb kb lk al no l a0 j0 c0 ta m tc W) (ho : W.ownsRow (w0.heap.size + 1) 3 1 (.slice va m' vc) m' xs) (hx : (tabsGo al no 0 (l.take j)).map (.int .i64) = xs) (hm : m' ≤ j) :
  TabS w0 cb kb lk al no l a j c va m' vc ((W.setCell ⟨w0.heap.size + 1, 0, none⟩ (.slice a j c)).setCell ⟨w0.heap.size + 1, 1, none⟩ (.slice va m' vc)) := by
 have hne1 : cb ≠ w0.heap.size + 1 := by have := h.lt; omega
 have hne2 : w0.heap.size ≠ w0.heap.size + 1 := by omega
 have ho2 : Out (fun z => z = w0.heap.size + 1) W ((W.setCell ⟨w0.heap.size + 1, 0, none⟩ (.slice a j c)).setCell ⟨w0.heap.size + 1, 1, none⟩ (.slice va m' vc)) := (Out.only (F := fun z => z = w0.heap.size + 1) (Only.at W _ 0 _) rfl).trans (Out.only (F := fun z => z = w0.heap.size + 1) (Only.at _ _ 1 _) rfl) (fun _ => .inl)
 refine ⟨ho2.keep h.ccb hne1, ho2.keep h.cq hne2, hset _ _ 1 _ _ _ _ (hset W _ 0 _ _ _ _ h.cm), ?_, hm, h.lt, h.out.trans (ho2.mono (G := fun x => x = cb ∨ w0.heap.size ≤ x) (fun x hx => .inl (.inr (by omega)))) (fun x hx => hx)⟩
 rw [hx]
 refine ownsRow_out ho ho2 (fun z hz e => ?_)
 obtain ⟨cur, hc⟩ := row_type ho hz
 rw [e, h.cm] at hc
 injection hc with hc
 injection hc with _ hc _
 exact absurd hc (by decide)
theorem TabS.looked {sa' : Option Addr} {n sc' : Nat} {ta' : Option Addr} {m' tc' : Nat} (h : TabS w0 cb kb lk al no l a0 j0 c0 ta m tc W) (hm : W'.heap[w0.heap.size + 1]? = some (.cells #[.slice sa' n sc', .slice ta' m' tc'] 133 (0, 0)))
  (ht : W'.ownsRow (w0.heap.size + 1) 3 1 (.slice ta' m' tc') m' ((tabsGo al no 0 (l.take n)).map (.int .i64))) (hle : m' ≤ n) (hb : Below (w0.heap.size + 1) W W') : TabS w0 cb kb lk al no l sa' n sc' ta' m' tc' W' :=
 ⟨(hb.block cb (by have := h.lt; omega)).trans h.ccb, (hb.block _ (Nat.lt_succ_self _)).trans h.cq, hm, ht, hle, h.lt, ⟨hb.os.trans h.out.os, hb.tape.trans h.out.tape, hb.output.trans h.out.output, Nat.le_trans h.out.size hb.size, fun i hi hn => (hb.block i (by omega)).trans (h.out.block i hi hn)⟩⟩
theorem row_cb {B : Nat} {e : TypeId} {v : Value} {n : Nat} {xs : List Value} (h : CacheAt w cb kb S) (hr : w.ownsRow B e 1 v n xs) (hne : 131 ≠ e) (ho : Out (fun x => x = cb) w W) : W.ownsRow B e 1 v n xs := by
 refine ownsRow_out hr ho (fun z hz e => ?_)
 obtain ⟨cur, hc⟩ := row_type hr hz
 rw [e, h.blk] at hc
 injection hc with hc
 injection hc with _ hc _
 exact hne hc
theorem CacheAt.look (h : CacheAt w cb kb S) {q : Int × Int} (hq : QWf q) : ∃ sa n sc ta m tc, (∀ W, Out (fun x => x = cb) w W → (Instr.lookup 129 (.map (some kb)) (.agg #[.int .u32 q.1, .int .u32 q.2]) false).run Tryz.prog W = .ok (.agg #[.slice sa n sc, .slice ta m tc]) W) ∧ (S.old q).length = n ∧ n ≤ 1000 ∧ m ≤ n ∧
  (∀ W, Out (fun x => x = cb) w W → W.ownsRow 0 28 1 (.slice sa n sc) n ((S.old q).map (.int .u32))) ∧ (∀ W, Out (fun x => x = cb) w W → W.ownsRow 0 3 1 (.slice ta m tc) m ((tabsGo q.1 q.2 0 (S.old q)).map (.int .i64))) := by
 obtain ⟨f, hm, hf⟩ := h.map
 have hne : kb ≠ cb := fun e => by
  obtain ⟨es, c, he⟩ := hm.obj
  rw [e, h.blk] at he
  cases he
 have hl : ∀ W, Out (fun x => x = cb) w W → (Instr.lookup 129 (.map (some kb)) (.agg #[.int .u32 q.1, .int .u32 q.2]) false).run Tryz.prog W = .ok ((f (qK q)).getD (.agg #[.slice none 0 0, .slice none 0 0])) W := fun W ho => (hm.out ho hne).look Tryz.lawQ Tryz.underlying129 Tryz.zeroMem (q_key hq)
 have hq2 := hf q hq
 unfold CS.old
 cases hk : S.kf q with
 | none =>
  rw [hk] at hq2
  have hq3 : f (qK q) = none := hq2
  rw [hq3] at hl
  exact ⟨none, 0, 0, none, 0, 0, hl, rfl, by omega, by omega, fun W _ => World.ownsRow_nil _ _ _ _, fun W _ => World.ownsRow_nil _ _ _ _⟩
 | some l =>
  rw [hk] at hq2
  obtain ⟨u, hu, sa, n, sc, ta, m, tc, rfl, h2, h3, h4, h5, h6⟩ := hq2
  rw [hu] at hl
  exact ⟨sa, n, sc, ta, m, tc, hl, h2, h3, h4, fun W ho => row_cb h h5 (by decide) ho, fun W ho => row_cb h h6 (by decide) ho⟩
theorem CacheAt.ask (h : CacheAt w cb kb S) (hq : QWf (al, no)) {sa' : Option Addr} {n sc' : Nat} {ta' : Option Addr} {m' tc' j : Nat} (hT : TabS w cb kb (S.looked + ((n : Int) - (j : Int))) al no l sa' n sc' ta' m' tc' W) (hs : W.ownsRow (w.heap.size + 1) 28 1 (.slice sa' n sc') n (l.map (.int .u32))) (hln : l.length = n) (hn : n ≤ 1000) (hcn : S.cnt ≤ 1000000) (hj : S.kept (al, no) l = j) :
  ∃ w7, (Instr.mapUpdate 129 (.map (some kb)) (.agg #[.int .u32 al, .int .u32 no]) (.agg #[.slice sa' n sc', .slice ta' m' tc'])).run Tryz.prog W = .ok () w7 ∧ CacheAt w7 cb kb (S.ask (al, no) l) ∧ Out (fun x => x = cb ∨ x = kb) w w7 ∧ w7.heap[w.heap.size + 1]? = some (.cells #[.slice sa' n sc', .slice ta' m' tc'] 133 (0, 0)) ∧ w7.ownsRow (w.heap.size + 1) 3 1 (.slice ta' m' tc') m' ((tabsGo al no 0 l).map (.int .i64)) := by
 obtain ⟨f, hm, hf⟩ := h.map
 obtain ⟨es, c, he⟩ := hm.obj
 have hne : kb ≠ cb := fun e => by
  rw [e, h.blk] at he
  cases he
 have hm2 := hm.out hT.out hne
 obtain ⟨es2, c2, he2⟩ := hm2.obj
 obtain ⟨w7, hput, hm7, hg7, hsz7⟩ := hm2.store (key := qVal (al, no)) (val := .agg #[.slice sa' n sc', .slice ta' m' tc']) Tryz.lawQ Tryz.underlying129 (by unfold maxLen; omega) (q_key hq)
 have ho7 : Out (fun x => x = kb) W w7 := ⟨hg7.os, hg7.tape, hg7.output, by rw [hsz7]; exact Nat.le_refl _, fun k hk hn => hg7.block k hk (fun e => hn (by cases e; rfl))⟩
 have hkm : ∀ x cs, x = kb → W.heap[x]? ≠ some (.cells cs 28 (0, 0)) ∧ W.heap[x]? ≠ some (.cells cs 3 (0, 0)) := fun x cs e => by
  subst e
  rw [he2]
  exact ⟨by simp, by simp⟩
 have hrow : ∀ {B : Nat} {e : TypeId} {v : Value} {n : Nat} {xs : List Value}, W.ownsRow B e 1 v n xs → w7.ownsRow B e 1 v n xs := fun {B e v n xs} hr => ownsRow_out hr ho7 (fun z hz e => by
  obtain ⟨cur, hc⟩ := row_type hr hz
  rw [e, he2] at hc
  cases hc)
 have htk : l.take n = l := List.take_of_length_le (by omega)
 have htab := hT.tab
 rw [htk] at htab
 have hkl : kb < w.heap.size := hm.lt
 have hcnt : (f (qK (al, no))).isSome = (S.kf (al, no)).isSome := by
  have h1 := hf (al, no) hq
  cases hk : S.kf (al, no) with
  | none => rw [hk] at h1; rw [show f (qK (al, no)) = none from h1]; rfl
  | some l' => rw [hk] at h1; obtain ⟨u, hu, _⟩ := h1; rw [hu]; rfl
 rw [hcnt] at hm7
 refine ⟨w7, hput, ⟨?_, putV f (qK (al, no)) (.agg #[.slice sa' n sc', .slice ta' m' tc']), hm7, fun x hx => ?_⟩, ?_, ?_, hrow htab⟩
 ·rw [ho7.keep hT.ccb (fun e => hne e.symm)]
  unfold CS.ask
  rw [hln, hj]
 ·show MemAt w7 x (if x = (al, no) then some l else S.kf x) _
  by_cases hxq : x = (al, no)
  ·subst hxq
   rw [if_pos rfl, putV_same]
   exact ⟨_, rfl, sa', n, sc', ta', m', tc', rfl, hln, hn, hT.le, hrow (ownsRow_mono hs (Nat.zero_le _)), hrow (ownsRow_mono htab (Nat.zero_le _))⟩
  ·rw [if_neg hxq, putV_ne (fun e => hxq (qK_inj hx hq e))]
   refine ((hf x hx).out hT.out (fun y cs e => ?_)).out ho7 hkm
   subst e
   rw [h.blk]
   exact ⟨fun e => by injection e with e; injection e with _ e _; exact absurd e (by decide), fun e => by injection e with e; injection e with _ e _; exact absurd e (by decide)⟩
 ·refine (hT.out.mono (G := fun x => x = cb ∨ x = kb) (fun x hx => .inl (.inl hx))).trans ho7 (fun x hx => .inl (.inr hx))
 ·exact ho7.keep hT.cm (by omega)
end
set_option maxRecDepth 100000 in
set_option maxHeartbeats 4000000 in
theorem tables_any {w : World} {cb kb : Nat} {S : CS} (h : CacheAt w cb kb S) (al no : Int) (hq : QWf (al, no)) (l : List Int) (sa : Option Addr) (n sc : Nat) (hso : w.ownsRow 0 28 1 (.slice sa n sc) n (l.map (.int .u32))) (hok : setsOk l) (hn : n ≤ 1000) (hlk0 : 0 ≤ S.looked) (hlk1 : S.looked ≤ 1000000) (hcn : S.cnt ≤ 1000000) :
  Calls Tryz.prog 23 #[.pointer (some ⟨cb, 0, none⟩), .agg #[.int .u32 al, .int .u32 no], .slice sa n sc] w fun e w' => ∃ va m vc, e = .returned (.slice va m vc) ∧ w'.ownsRow w.heap.size 3 1 (.slice va m vc) m ((tabsGo al no 0 l).map (.int .i64)) ∧ CacheAt w' cb kb (S.ask (al, no) l) ∧ Out (fun x => x = cb ∨ x = kb) w w' := by
 have hln : l.length = n := by have := hso.1; rw [List.length_map] at this; omega
 obtain ⟨hnc, _⟩ := own_max hso
 have hq2 := hq
 obtain ⟨oa, on, oc, ota, om, otc, hlk, hol, hon, hom, hor1, hor2⟩ := h.look hq
 obtain ⟨old, hold⟩ : ∃ old, S.old (al, no) = old := ⟨_, rfl⟩
 rw [hold] at hol hor1 hor2
 have hkept : S.kept (al, no) l = if frontB old l then on else 0 := by unfold CS.kept; rw [hold, hol]
 have HTK : Hid (frontB old l = true → l.take on = old) := Lib.hid fun hf => by
  obtain ⟨r, rfl⟩ := frontB_eq hf
  rw [← hol, List.take_left]
 have HJN : Hid (frontB old l = true → on ≤ n) := Lib.hid fun hf => by
  obtain ⟨r, rfl⟩ := frontB_eq hf
  rw [← hol, ← hln, List.length_append]
  omega
 have HSB : Hid (∀ b, (Value.slice sa n sc).ownBlock = some b → b < w.heap.size + 1) := Lib.hid fun b hb => Nat.lt_succ_of_lt (hso.lt b hb).2
 have HSQ : Hid (∀ b o, sa = some ⟨b, o, none⟩ → b < w.heap.size + 1) := Lib.hid fun b o hb => by
  rcases hso.2 with ⟨hv, _⟩ | ⟨g, cap, cur, hv, _, hg, _⟩
  ·rw [hb] at hv; cases hv
  ·rw [hb] at hv
   cases hv
   exact Nat.lt_succ_of_lt (lt_some hg)
 have HSO : Hid (∀ W, Out (fun x => x = cb) w W → W.ownsRow 0 28 1 (.slice sa n sc) n (l.map (.int .u32))) := Lib.hid fun W ho => row_cb h hso (by decide) ho
 have HLN := Lib.hid hln
 have HC := Lib.hid h
 have HOK := Lib.hid hok
 have HT2 := Lib.hid (TabS.start h al no l)
 have HLK := Lib.hid hlk
 have HOL := Lib.hid hol
 have HOLD := Lib.hid (And.intro hor1 hor2)
 have hlc := lt_some h.blk
 have HS2 : Hid (((w.alloc (.cells #[.int .u32 al, .int .u32 no] 30)).alloc (.cells #[.slice none 0 0, .slice none 0 0] 133)).heap.size = w.heap.size + 2) := Lib.hid (by simp)
 obtain ⟨lk, hlkk⟩ : ∃ lk, S.looked = lk := ⟨_, rfl⟩
 rw [hlkk] at HT2 hlk0 hlk1
 have HLE := Lib.hid hlkk
 clear h hso hok hln hlk hol hold hor1 hor2 hlkk
 go_enter Tryz.func23, Tryz.ntmps23
 go_wp2_with fail
 generalize World.alloc (World.alloc w _) _ = W2 at *
 refine wp_region_tail 7 (by kernel_rfl) (by kernel_rfl) (by kernel_rfl) (by decide) (by kernel_rfl) (byList (ct_list5 cb kb al no oa on oc ota om otc W2.heap.size)) (lasts_list (ct_list5_lasts cb kb al no oa on oc ota om otc W2.heap.size)) ?_ ?_
 ·intro vs w' iq o A hi F hb ho hd
  have m0 : A.tmps[0]?.getD undef = (.pointer (some ⟨cb, 0, none⟩)) := F.m (by kernel_rfl) rfl
  have m4 : A.tmps[4]?.getD undef = (.pointer (some ⟨w.heap.size, 0, none⟩)) := F.m (by kernel_rfl) rfl
  have G := F.light (n := 57) (by kernel_rfl)
  clear F
  have hz' := hb.size
  have hc' := keep hb HT2.out.ccb
  have x0 := cell_at hc' 0
  have hq' := keep hb HT2.out.cq
  have z0 := cell_at hq' 0
  have z1 := cell_at hq' 1
  simp at x0 z0 z1
  have hlk := HLK.out w' (HT2.out.out.trans (Out.of (F := fun x => x = cb) hb) (fun _ => .inl))
  clear hc' hq' hb
  revert hi ho hd
  match iq with
  | 0 => intro _ ho hd; obtain rfl := (Option.some.inj ho).symm; clear hd ho; refine step_open rfl ?_; clear G; exact step_run (v := (.pointer (some ⟨cb, 0, none⟩))) (by go_simp) rfl
  | 1 => intro _ ho hd; obtain rfl := (Option.some.inj ho).symm; have d0 : vs 0 = (.pointer (some ⟨cb, 0, none⟩)) := hd ⟨0, .data⟩ (by simp) rfl; clear hd ho; have h16 := G.h (j := 0) (d := 16) rfl (by decide) d0; refine step_open rfl ?_; clear G; exact step_run (v := (.pointer (some ⟨cb, 0, none⟩))) (by go_simp) rfl
  | 2 => intro _ ho hd; obtain rfl := (Option.some.inj ho).symm; have d1 : vs 1 = (.pointer (some ⟨cb, 0, none⟩)) := hd ⟨1, .data⟩ (by simp) rfl; clear hd ho; have h17 := G.h (j := 1) (d := 17) rfl (by decide) d1; refine step_open rfl ?_; clear G; exact step_run (v := (.pointer (some ⟨cb, 0, none⟩))) (by go_simp) rfl
  | 3 => intro _ ho hd; obtain rfl := (Option.some.inj ho).symm; have d2 : vs 2 = (.pointer (some ⟨cb, 0, none⟩)) := hd ⟨2, .data⟩ (by simp) rfl; clear hd ho; have h18 := G.h (j := 2) (d := 18) rfl (by decide) d2; refine step_open rfl ?_; clear G; exact step_run (v := (.map (some kb))) (by go_simp) rfl
  | 4 => intro _ ho hd; obtain rfl := (Option.some.inj ho).symm; clear hd ho; refine step_open rfl ?_; clear G; exact step_run (v := (.agg #[.int .u32 al, .int .u32 no])) (by go_simp) rfl
  | 5 => intro _ ho hd; obtain rfl := (Option.some.inj ho).symm; have d3 : vs 3 = (.map (some kb)) := hd ⟨3, .data⟩ (by simp) rfl; have d4 : vs 4 = (.agg #[.int .u32 al, .int .u32 no]) := hd ⟨4, .data⟩ (by simp) rfl; clear hd ho; have h19 := G.h (j := 3) (d := 19) rfl (by decide) d3; have h20 := G.h (j := 4) (d := 20) rfl (by decide) d4; refine step_open rfl ?_; clear G; exact step_run (v := (.agg #[.slice oa on oc, .slice ota om otc])) (by go_simp) rfl
  | 6 => intro _ ho hd; obtain rfl := (Option.some.inj ho).symm; clear hd ho; refine step_open rfl ?_; clear G; go_simp; exact ⟨_, rfl, (show IsNewM _ _ _ from isNewM_new (by omega)), by go_grown⟩
  | n + 7 =>
   intro hi
   exfalso
   omega
 ·intro vs w6 A hA F hb hR
  have d5 : vs 5 = (.agg #[.slice oa on oc, .slice ota om otc]) := hR 5 (by decide)
  obtain ⟨q8, hU8, d6, b8⟩ : IsNewM W2.heap.size (vs 6) w6 := hR 6 (by decide)
  have HT6 := Lib.hid (HT2.out.below hb)
  have HB6 := Lib.hid hb
  have y0 := cell_at b8 0
  have y1 := cell_at b8 1
  have g0 := free_at b8 0
  have g1 := free_at b8 1
  have hl8 := lt_some b8
  simp at y0 y1
  have H8 := Lib.hid b8
  have HU8 := Lib.hid hU8
  clear hb b8 hU8
  clear F hR
  subst hA
  simp only [List.drop_succ_cons, List.drop_zero, wpTail, putAll, Act.put, List.setIfInBounds_toArray, List.set_cons_succ, List.set_cons_zero]
  simp only [d5]
  simp only [d6]
  clear d5 d6
  go_simp
  have HS8 := Lib.hid (hset _ q8 1 (.slice ota om otc) _ _ _ (hset w6 q8 0 (.slice oa on oc) _ _ _ H8.out))
  have HT7 := Lib.hid (HT2.out.below (HB6.out.trans (below_set2 w6 q8 (.slice oa on oc) (.slice ota om otc) HU8.out)))
  clear y0 y1 g0 g1 hl8 H8 HT6 HT2 HB6
  generalize World.setCell _ ⟨q8, 1, none⟩ _ = W7 at *
  have x0 := cell_at HS8.out 0
  simp at x0
  have hl8 := lt_some HS8.out
  have HFT := Lib.hid (front_any old l oa on oc sa n sc W7 (SRow.of (HOLD.out.1 W7 HT7.out.out) HOL.out (by omega)) (SRow.of (HSO.out W7 HT7.out.out) HLN.out (by omega)) hnc)
  go_wp2_with fail
  refine HFT.out.mono ?_
  rintro e W8 ⟨rfl, hb8⟩
  have HT8 := Lib.hid (HT7.out.below hb8)
  have H8 := Lib.hid (keep hb8 HS8.out)
  clear HFT HT7 HS8 x0 hl8 hb8
  have HKP := Lib.hid hkept
  obtain ⟨fr, hfr⟩ : ∃ fr, frontB old l = fr := ⟨_, rfl⟩
  rw [hfr] at hkept ⊢
  have HFR := Lib.hid hfr
  have HKE := Lib.hid hkept
  clear hfr hkept HKP
  cases fr
  ·obtain ⟨a0, j0, c0, ta0, m0, tc0, hTX, hj0, hke⟩ : ∃ a0 j0 c0 ta0 m0 tc0, TabS w cb kb lk al no l a0 j0 c0 ta0 m0 tc0 W8 ∧ j0 ≤ n ∧ S.kept (al, no) l = j0 := ⟨_, _, _, _, _, _, HT8.out, Nat.zero_le _, HKE.out⟩
   have HTX := Lib.hid hTX
   have HKE := Lib.hid hke
   clear hTX hke
   go_wp2_with fail
   refine wp_region_tail 13 (by kernel_rfl) (by kernel_rfl) (by kernel_rfl) (by decide) (by kernel_rfl) (byList (ct_list8 cb lk sa n sc a0 j0 c0 w.heap.size)) (lasts_list (ct_list8_lasts cb lk sa n sc a0 j0 c0 w.heap.size)) ?_ ?_
   ·intro vs w' iq o A hi F hb ho hd
    have m0 : A.tmps[0]?.getD undef = (.pointer (some ⟨cb, 0, none⟩)) := F.m (by kernel_rfl) rfl
    have m2 : A.tmps[2]?.getD undef = (.slice sa n sc) := F.m (by kernel_rfl) rfl
    have m7 : A.tmps[7]?.getD undef = (.pointer (some ⟨(w.heap.size + 1), 0, none⟩)) := F.m (by kernel_rfl) rfl
    have G := F.light (n := 57) (by kernel_rfl)
    clear F
    have hc' := keep hb HTX.out.ccb
    have x1 := cell_at hc' 1
    have hm' := keep hb HTX.out.cm
    have z0 := cell_at hm' 0
    simp at x1 z0
    have hw1 := wrap_in (x := (n : Int) - (j0 : Int)) (by omega) (by omega)
    have hw2 := wrap_in (x := lk + ((n : Int) - (j0 : Int))) (by omega) (by omega)
    clear hc' hm' hb
    revert hi ho hd
    match iq with
    | 0 => intro _ ho hd; obtain rfl := (Option.some.inj ho).symm; clear hd ho; refine step_open rfl ?_; clear G; exact step_run (v := (.pointer (some ⟨cb, 0, none⟩))) (by go_simp) rfl
    | 1 => intro _ ho hd; obtain rfl := (Option.some.inj ho).symm; have d0 : vs 0 = (.pointer (some ⟨cb, 0, none⟩)) := hd ⟨0, .data⟩ (by simp) rfl; clear hd ho; have h32 := G.h (j := 0) (d := 32) rfl (by decide) d0; refine step_open rfl ?_; clear G; exact step_run (v := (.pointer (some ⟨cb, 0, none⟩))) (by go_simp) rfl
    | 2 => intro _ ho hd; obtain rfl := (Option.some.inj ho).symm; have d1 : vs 1 = (.pointer (some ⟨cb, 0, none⟩)) := hd ⟨1, .data⟩ (by simp) rfl; clear hd ho; have h33 := G.h (j := 1) (d := 33) rfl (by decide) d1; refine step_open rfl ?_; clear G; exact step_run (v := (.pointer (some ⟨cb, 1, none⟩))) (by go_simp) rfl
    | 3 => intro _ ho hd; obtain rfl := (Option.some.inj ho).symm; have d2 : vs 2 = (.pointer (some ⟨cb, 1, none⟩)) := hd ⟨2, .data⟩ (by simp) rfl; clear hd ho; have h34 := G.h (j := 2) (d := 34) rfl (by decide) d2; refine step_open rfl ?_; clear G; exact step_run (v := (.int .i64 lk)) (by go_simp) rfl
    | 4 => intro _ ho hd; obtain rfl := (Option.some.inj ho).symm; clear hd ho; refine step_open rfl ?_; clear G; exact step_run (v := (.slice sa n sc)) (by go_simp) rfl
    | 5 => intro _ ho hd; obtain rfl := (Option.some.inj ho).symm; have d4 : vs 4 = (.slice sa n sc) := hd ⟨4, .data⟩ (by simp) rfl; clear hd ho; have h36 := G.h (j := 4) (d := 36) rfl (by decide) d4; refine step_open rfl ?_; clear G; exact step_run (v := (.int .i64 (n : Int))) (by go_simp) rfl
    | 6 => intro _ ho hd; obtain rfl := (Option.some.inj ho).symm; clear hd ho; refine step_open rfl ?_; clear G; exact step_run (v := (.pointer (some ⟨(w.heap.size + 1), 0, none⟩))) (by go_simp) rfl
    | 7 => intro _ ho hd; obtain rfl := (Option.some.inj ho).symm; have d6 : vs 6 = (.pointer (some ⟨(w.heap.size + 1), 0, none⟩)) := hd ⟨6, .data⟩ (by simp) rfl; clear hd ho; have h38 := G.h (j := 6) (d := 38) rfl (by decide) d6; refine step_open rfl ?_; clear G; exact step_run (v := (.slice a0 j0 c0)) (by go_simp) rfl
    | 8 => intro _ ho hd; obtain rfl := (Option.some.inj ho).symm; have d7 : vs 7 = (.slice a0 j0 c0) := hd ⟨7, .data⟩ (by simp) rfl; clear hd ho; have h39 := G.h (j := 7) (d := 39) rfl (by decide) d7; refine step_open rfl ?_; clear G; exact step_run (v := (.int .i64 (j0 : Int))) (by go_simp) rfl
    | 9 => intro _ ho hd; obtain rfl := (Option.some.inj ho).symm; have d5 : vs 5 = (.int .i64 (n : Int)) := hd ⟨5, .data⟩ (by simp) rfl; have d8 : vs 8 = (.int .i64 (j0 : Int)) := hd ⟨8, .data⟩ (by simp) rfl; clear hd ho; have h37 := G.h (j := 5) (d := 37) rfl (by decide) d5; have h40 := G.h (j := 8) (d := 40) rfl (by decide) d8; refine step_open rfl ?_; clear G; exact step_run (v := (.int .i64 ((n : Int) - (j0 : Int)))) (by go_simp) rfl
    | 10 => intro _ ho hd; obtain rfl := (Option.some.inj ho).symm; have d3 : vs 3 = (.int .i64 lk) := hd ⟨3, .data⟩ (by simp) rfl; have d9 : vs 9 = (.int .i64 ((n : Int) - (j0 : Int))) := hd ⟨9, .data⟩ (by simp) rfl; clear hd ho; have h35 := G.h (j := 3) (d := 35) rfl (by decide) d3; have h41 := G.h (j := 9) (d := 41) rfl (by decide) d9; refine step_open rfl ?_; clear G; exact step_run (v := (.int .i64 (lk + ((n : Int) - (j0 : Int))))) (by go_simp) rfl
    | 11 => intro _ ho hd; obtain rfl := (Option.some.inj ho).symm; have d0 : vs 0 = (.pointer (some ⟨cb, 0, none⟩)) := hd ⟨0, .data⟩ (by simp) rfl; clear hd ho; have h32 := G.h (j := 0) (d := 32) rfl (by decide) d0; refine step_open rfl ?_; clear G; exact step_run (v := (.pointer (some ⟨cb, 0, none⟩))) (by go_simp) rfl
    | 12 => intro _ ho hd; obtain rfl := (Option.some.inj ho).symm; have d11 : vs 11 = (.pointer (some ⟨cb, 0, none⟩)) := hd ⟨11, .data⟩ (by simp) rfl; clear hd ho; have h43 := G.h (j := 11) (d := 43) rfl (by decide) d11; refine step_open rfl ?_; clear G; exact step_run (v := (.pointer (some ⟨cb, 1, none⟩))) (by go_simp) rfl
    | n + 13 =>
     intro hi
     exfalso
     omega
   ·intro vs w6 A hA F hb hR
    have d12 : vs 12 = (.pointer (some ⟨cb, 1, none⟩)) := hR 12 (by decide)
    have d10 : vs 10 = (.int .i64 (lk + ((n : Int) - (j0 : Int)))) := hR 10 (by decide)
    have HT9 := Lib.hid (HTX.out.below hb)
    have y1 := cell_at HT9.out.ccb 1
    have g1 := free_at HT9.out.ccb 1
    have hlc := lt_some HT9.out.ccb
    simp at y1
    clear hb
    clear F hR
    subst hA
    simp only [List.drop_succ_cons, List.drop_zero, wpTail, putAll, Act.put, List.setIfInBounds_toArray, List.set_cons_succ, List.set_cons_zero]
    simp only [d12]
    simp only [d10]
    clear d12 d10
    go_simp
    have HTA := Lib.hid (HT9.out.look (lk + ((n : Int) - (j0 : Int))))
    clear y1 g1 hlc HT9 HTX
    generalize World.setCell _ ⟨cb, 1, none⟩ _ = WA at *
    have z0 := cell_at HTA.out.cq 0
    have z1 := cell_at HTA.out.cq 1
    simp at z0 z1
    have hlq := lt_some HTA.out.cq
    have HLO := Lib.hid (look_any (w.heap.size + 1) (w.heap.size + 1) al no j0 a0 c0 ta0 m0 tc0 l sa n sc WA (SRow.of (HSO.out WA HTA.out.out) HLN.out (by omega)) (HSO.out WA HTA.out.out) HSB.out HSQ.out HOK.out hq.1 hq.2 hj0 hn HTA.out.cm (Nat.le_refl _) HTA.out.tab HTA.out.le)
    go_wp2_with fail
    refine HLO.out.mono ?_
    rintro e WB ⟨rfl, sa', sc', ta', m', tc', hmb', hsr', htr', hmn', hbB⟩
    have HTB := Lib.hid (HTA.out.looked hmb' (by rw [List.take_of_length_le (by rw [HLN.out]; exact Nat.le_refl _)]; exact htr') hmn' hbB)
    have HSR := Lib.hid hsr'
    clear HLO HTA z0 z1 hlq hmb' hsr' htr' hbB
    go_wp2_with fail
    refine wp_region_tail 6 (by kernel_rfl) (by kernel_rfl) (by kernel_rfl) (by decide) (by kernel_rfl) (byList (ct_list10 cb kb al no sa' n sc' ta' m' tc')) (lasts_list (ct_list10_lasts cb kb al no sa' n sc' ta' m' tc')) ?_ ?_
    ·intro vs w' iq o A hi F hb ho hd
     have m0 : A.tmps[0]?.getD undef = (.pointer (some ⟨cb, 0, none⟩)) := F.m (by kernel_rfl) rfl
     have m4 : A.tmps[4]?.getD undef = (.pointer (some ⟨w.heap.size, 0, none⟩)) := F.m (by kernel_rfl) rfl
     have m7 : A.tmps[7]?.getD undef = (.pointer (some ⟨(w.heap.size + 1), 0, none⟩)) := F.m (by kernel_rfl) rfl
     have G := F.light (n := 57) (by kernel_rfl)
     clear F
     have hc' := keep hb HTB.out.ccb
     have x0 := cell_at hc' 0
     have hq' := keep hb HTB.out.cq
     have z0 := cell_at hq' 0
     have z1 := cell_at hq' 1
     have hm' := keep hb HTB.out.cm
     have y0 := cell_at hm' 0
     have y1 := cell_at hm' 1
     simp at x0 z0 z1 y0 y1
     clear hc' hq' hm' hb
     revert hi ho hd
     match iq with
     | 0 => intro _ ho hd; obtain rfl := (Option.some.inj ho).symm; clear hd ho; refine step_open rfl ?_; clear G; exact step_run (v := (.pointer (some ⟨cb, 0, none⟩))) (by go_simp) rfl
     | 1 => intro _ ho hd; obtain rfl := (Option.some.inj ho).symm; have d0 : vs 0 = (.pointer (some ⟨cb, 0, none⟩)) := hd ⟨0, .data⟩ (by simp) rfl; clear hd ho; have h48 := G.h (j := 0) (d := 48) rfl (by decide) d0; refine step_open rfl ?_; clear G; exact step_run (v := (.pointer (some ⟨cb, 0, none⟩))) (by go_simp) rfl
     | 2 => intro _ ho hd; obtain rfl := (Option.some.inj ho).symm; have d1 : vs 1 = (.pointer (some ⟨cb, 0, none⟩)) := hd ⟨1, .data⟩ (by simp) rfl; clear hd ho; have h49 := G.h (j := 1) (d := 49) rfl (by decide) d1; refine step_open rfl ?_; clear G; exact step_run (v := (.pointer (some ⟨cb, 0, none⟩))) (by go_simp) rfl
     | 3 => intro _ ho hd; obtain rfl := (Option.some.inj ho).symm; have d2 : vs 2 = (.pointer (some ⟨cb, 0, none⟩)) := hd ⟨2, .data⟩ (by simp) rfl; clear hd ho; have h50 := G.h (j := 2) (d := 50) rfl (by decide) d2; refine step_open rfl ?_; clear G; exact step_run (v := (.map (some kb))) (by go_simp) rfl
     | 4 => intro _ ho hd; obtain rfl := (Option.some.inj ho).symm; clear hd ho; refine step_open rfl ?_; clear G; exact step_run (v := (.agg #[.int .u32 al, .int .u32 no])) (by go_simp) rfl
     | 5 => intro _ ho hd; obtain rfl := (Option.some.inj ho).symm; clear hd ho; refine step_open rfl ?_; clear G; exact step_run (v := (.agg #[.slice sa' n sc', .slice ta' m' tc'])) (by go_simp) rfl
     | n + 6 =>
      intro hi
      exfalso
      omega
    ·intro vs w6 A hA F hb hR
     have d3 : vs 3 = (.map (some kb)) := hR 3 (by decide)
     have d4 : vs 4 = (.agg #[.int .u32 al, .int .u32 no]) := hR 4 (by decide)
     have d5 : vs 5 = (.agg #[.slice sa' n sc', .slice ta' m' tc']) := hR 5 (by decide)
     have HT9 := Lib.hid (HTB.out.below hb)
     have hsr9 := ownsRow_below HSR.out hb
     obtain ⟨w7, hput, hca, hom⟩ := HC.out.ask hq (by rw [HLE.out]; exact HT9.out) hsr9 HLN.out hn hcn HKE.out
     have HCA := Lib.hid hca
     have HOM := Lib.hid hom
     clear hb hca hom
     clear F hR
     subst hA
     simp only [List.drop_succ_cons, List.drop_zero, wpTail, putAll, Act.put, List.setIfInBounds_toArray, List.set_cons_succ, List.set_cons_zero]
     simp only [d3]
     simp only [d4]
     simp only [d5]
     clear d3 d4 d5
     go_simp
     have HM7 := Lib.hid (HOM.out.2.1)
     have HT7 := Lib.hid (HOM.out.2.2)
     have y1 := cell_at HM7.out 1
     simp at y1
     have hl7 := lt_some HM7.out
     have HCL := Lib.hid (cloneInts_n (w.heap.size + 1) ta' tc' m' (tabsGo al no 0 l) w7 HT7.out (by omega))
     clear hput
     go_wp2_with fail
     refine HCL.out.mono ?_
     rintro e W9 ⟨va, vc, rfl, hown9, hb9⟩
     have HFIN := Lib.hid (show W9.ownsRow w.heap.size 3 1 (.slice va m' vc) m' ((tabsGo al no 0 l).map (.int .i64)) ∧ CacheAt W9 cb kb (S.ask (al, no) l) ∧ Out (fun x => x = cb ∨ x = kb) w W9 from ⟨ownsRow_mono hown9 HOM.out.1.size, HCA.out.below hb9, HOM.out.1.trans (Out.of (F := fun x => x = cb ∨ x = kb) hb9) (fun _ => .inl)⟩)
     clear hown9 hb9 HCA HOM HCL y1
     go_wp2_with fail
     go_returns
     exact ⟨va, m', vc, rfl, HFIN.out⟩
  ·have HKE : Hid (S.kept (al, no) l = on) := Lib.hid HKE.out
   go_wp2_with fail
   refine wp_region_tail 5 (by kernel_rfl) (by kernel_rfl) (by kernel_rfl) (by decide) (by kernel_rfl) (byList (ct_list7 q8 oa on oc ota om otc (w.heap.size + 1) ((tabsGo al no 0 old).map (.int .i64)))) (lasts_list (ct_list7_lasts q8 oa on oc ota om otc (w.heap.size + 1) ((tabsGo al no 0 old).map (.int .i64)))) ?_ ?_
   ·intro vs w' iq o A hi F hb ho hd
    have m8 : A.tmps[8]?.getD undef = (.pointer (some ⟨q8, 0, none⟩)) := F.m (by kernel_rfl) rfl
    have m7 : A.tmps[7]?.getD undef = (.pointer (some ⟨(w.heap.size + 1), 0, none⟩)) := F.m (by kernel_rfl) rfl
    have G := F.light (n := 57) (by kernel_rfl)
    clear F
    have hz' := hb.size
    have h8' := keep hb H8.out
    have y0 := cell_at h8' 0
    have y1 := cell_at h8' 1
    simp at y0 y1
    have hl8 := lt_some h8'
    have HTW := Lib.hid (HT8.out.below hb)
    clear h8' hb
    revert hi ho hd
    match iq with
    | 0 => intro _ ho hd; obtain rfl := (Option.some.inj ho).symm; clear hd ho; refine step_open rfl ?_; clear G; exact step_run (v := (.pointer (some ⟨q8, 0, none⟩))) (by go_simp) rfl
    | 1 => intro _ ho hd; obtain rfl := (Option.some.inj ho).symm; have d0 : vs 0 = (.pointer (some ⟨q8, 0, none⟩)) := hd ⟨0, .data⟩ (by simp) rfl; clear hd ho; have h26 := G.h (j := 0) (d := 26) rfl (by decide) d0; refine step_open rfl ?_; clear G; exact step_run (v := (.slice oa on oc)) (by go_simp) rfl
    | 2 => intro _ ho hd; obtain rfl := (Option.some.inj ho).symm; clear hd ho; refine step_open rfl ?_; clear G; exact step_run (v := (.pointer (some ⟨q8, 1, none⟩))) (by go_simp) rfl
    | 3 => intro _ ho hd; obtain rfl := (Option.some.inj ho).symm; have d2 : vs 2 = (.pointer (some ⟨q8, 1, none⟩)) := hd ⟨2, .data⟩ (by simp) rfl; clear hd ho; have h28 := G.h (j := 2) (d := 28) rfl (by decide) d2; refine step_open rfl ?_; clear G; exact step_run (v := (.slice ota om otc)) (by go_simp) rfl
    | 4 => intro _ ho hd; obtain rfl := (Option.some.inj ho).symm; have d3 : vs 3 = (.slice ota om otc) := hd ⟨3, .data⟩ (by simp) rfl; clear hd ho; have h29 := G.h (j := 3) (d := 29) rfl (by decide) d3; refine step_open rfl ?_; clear G; go_simp; refine (cloneInts_n 0 ota otc om (tabsGo al no 0 old) w' (HOLD.out.2 w' HTW.out.out) (by omega)).mono ?_; rintro e w2 ⟨va, vc, rfl, hown, hb2⟩; exact ⟨_, rfl, (show IsRowO _ _ _ _ _ _ _ from ⟨va, vc, rfl, ownsRow_mono hown (Nat.succ_le_of_lt (lt_some HTW.out.cq))⟩), hb2⟩
    | n + 5 =>
     intro hi
     exfalso
     omega
   ·intro vs w6 A hA F hb hR
    have d1 : vs 1 = (.slice oa on oc) := hR 1 (by decide)
    obtain ⟨va7, vc7, d4, own7⟩ : IsRowO (w.heap.size + 1) 3 1 om ((tabsGo al no 0 old).map (.int .i64)) (vs 4) w6 := hR 4 (by decide)
    have HTW := Lib.hid (HT8.out.below hb)
    have y0 := cell_at HTW.out.cm 0
    have y1 := cell_at HTW.out.cm 1
    have g0 := free_at HTW.out.cm 0
    have g1 := free_at HTW.out.cm 1
    have hlm := lt_some HTW.out.cm
    simp at y0 y1
    have HO7 := Lib.hid own7
    clear hb own7
    clear F hR
    subst hA
    simp only [List.drop_succ_cons, List.drop_zero, wpTail, putAll, Act.put, List.setIfInBounds_toArray, List.set_cons_succ, List.set_cons_zero]
    simp only [d1]
    simp only [d4]
    clear d1 d4
    go_simp
    have HTX := Lib.hid (HTW.out.put (l := l) (j := on) (a := oa) (c := oc) HO7.out (by rw [HTK.out HFR.out]) hom)
    clear y0 y1 g0 g1 hlm HTW HO7 HT8
    generalize World.setCell _ ⟨w.heap.size + 1, 1, none⟩ _ = WC at *
    obtain ⟨a0, j0, c0, ta0, m0, tc0, hTX, hj0, hke⟩ : ∃ a0 j0 c0 ta0 m0 tc0, TabS w cb kb lk al no l a0 j0 c0 ta0 m0 tc0 WC ∧ j0 ≤ n ∧ S.kept (al, no) l = j0 := ⟨_, _, _, _, _, _, HTX.out, HJN.out HFR.out, HKE.out⟩
    have HTX := Lib.hid hTX
    have HKE := Lib.hid hke
    clear hTX hke
    go_wp2_with fail
    refine wp_region_tail 13 (by kernel_rfl) (by kernel_rfl) (by kernel_rfl) (by decide) (by kernel_rfl) (byList (ct_list8 cb lk sa n sc a0 j0 c0 w.heap.size)) (lasts_list (ct_list8_lasts cb lk sa n sc a0 j0 c0 w.heap.size)) ?_ ?_
    ·intro vs w' iq o A hi F hb ho hd
     have m0 : A.tmps[0]?.getD undef = (.pointer (some ⟨cb, 0, none⟩)) := F.m (by kernel_rfl) rfl
     have m2 : A.tmps[2]?.getD undef = (.slice sa n sc) := F.m (by kernel_rfl) rfl
     have m7 : A.tmps[7]?.getD undef = (.pointer (some ⟨(w.heap.size + 1), 0, none⟩)) := F.m (by kernel_rfl) rfl
     have G := F.light (n := 57) (by kernel_rfl)
     clear F
     have hc' := keep hb HTX.out.ccb
     have x1 := cell_at hc' 1
     have hm' := keep hb HTX.out.cm
     have z0 := cell_at hm' 0
     simp at x1 z0
     have hw1 := wrap_in (x := (n : Int) - (j0 : Int)) (by omega) (by omega)
     have hw2 := wrap_in (x := lk + ((n : Int) - (j0 : Int))) (by omega) (by omega)
     clear hc' hm' hb
     revert hi ho hd
     match iq with
     | 0 => intro _ ho hd; obtain rfl := (Option.some.inj ho).symm; clear hd ho; refine step_open rfl ?_; clear G; exact step_run (v := (.pointer (some ⟨cb, 0, none⟩))) (by go_simp) rfl
     | 1 => intro _ ho hd; obtain rfl := (Option.some.inj ho).symm; have d0 : vs 0 = (.pointer (some ⟨cb, 0, none⟩)) := hd ⟨0, .data⟩ (by simp) rfl; clear hd ho; have h32 := G.h (j := 0) (d := 32) rfl (by decide) d0; refine step_open rfl ?_; clear G; exact step_run (v := (.pointer (some ⟨cb, 0, none⟩))) (by go_simp) rfl
     | 2 => intro _ ho hd; obtain rfl := (Option.some.inj ho).symm; have d1 : vs 1 = (.pointer (some ⟨cb, 0, none⟩)) := hd ⟨1, .data⟩ (by simp) rfl; clear hd ho; have h33 := G.h (j := 1) (d := 33) rfl (by decide) d1; refine step_open rfl ?_; clear G; exact step_run (v := (.pointer (some ⟨cb, 1, none⟩))) (by go_simp) rfl
     | 3 => intro _ ho hd; obtain rfl := (Option.some.inj ho).symm; have d2 : vs 2 = (.pointer (some ⟨cb, 1, none⟩)) := hd ⟨2, .data⟩ (by simp) rfl; clear hd ho; have h34 := G.h (j := 2) (d := 34) rfl (by decide) d2; refine step_open rfl ?_; clear G; exact step_run (v := (.int .i64 lk)) (by go_simp) rfl
     | 4 => intro _ ho hd; obtain rfl := (Option.some.inj ho).symm; clear hd ho; refine step_open rfl ?_; clear G; exact step_run (v := (.slice sa n sc)) (by go_simp) rfl
     | 5 => intro _ ho hd; obtain rfl := (Option.some.inj ho).symm; have d4 : vs 4 = (.slice sa n sc) := hd ⟨4, .data⟩ (by simp) rfl; clear hd ho; have h36 := G.h (j := 4) (d := 36) rfl (by decide) d4; refine step_open rfl ?_; clear G; exact step_run (v := (.int .i64 (n : Int))) (by go_simp) rfl
     | 6 => intro _ ho hd; obtain rfl := (Option.some.inj ho).symm; clear hd ho; refine step_open rfl ?_; clear G; exact step_run (v := (.pointer (some ⟨(w.heap.size + 1), 0, none⟩))) (by go_simp) rfl
     | 7 => intro _ ho hd; obtain rfl := (Option.some.inj ho).symm; have d6 : vs 6 = (.pointer (some ⟨(w.heap.size + 1), 0, none⟩)) := hd ⟨6, .data⟩ (by simp) rfl; clear hd ho; have h38 := G.h (j := 6) (d := 38) rfl (by decide) d6; refine step_open rfl ?_; clear G; exact step_run (v := (.slice a0 j0 c0)) (by go_simp) rfl
     | 8 => intro _ ho hd; obtain rfl := (Option.some.inj ho).symm; have d7 : vs 7 = (.slice a0 j0 c0) := hd ⟨7, .data⟩ (by simp) rfl; clear hd ho; have h39 := G.h (j := 7) (d := 39) rfl (by decide) d7; refine step_open rfl ?_; clear G; exact step_run (v := (.int .i64 (j0 : Int))) (by go_simp) rfl
     | 9 => intro _ ho hd; obtain rfl := (Option.some.inj ho).symm; have d5 : vs 5 = (.int .i64 (n : Int)) := hd ⟨5, .data⟩ (by simp) rfl; have d8 : vs 8 = (.int .i64 (j0 : Int)) := hd ⟨8, .data⟩ (by simp) rfl; clear hd ho; have h37 := G.h (j := 5) (d := 37) rfl (by decide) d5; have h40 := G.h (j := 8) (d := 40) rfl (by decide) d8; refine step_open rfl ?_; clear G; exact step_run (v := (.int .i64 ((n : Int) - (j0 : Int)))) (by go_simp) rfl
     | 10 => intro _ ho hd; obtain rfl := (Option.some.inj ho).symm; have d3 : vs 3 = (.int .i64 lk) := hd ⟨3, .data⟩ (by simp) rfl; have d9 : vs 9 = (.int .i64 ((n : Int) - (j0 : Int))) := hd ⟨9, .data⟩ (by simp) rfl; clear hd ho; have h35 := G.h (j := 3) (d := 35) rfl (by decide) d3; have h41 := G.h (j := 9) (d := 41) rfl (by decide) d9; refine step_open rfl ?_; clear G; exact step_run (v := (.int .i64 (lk + ((n : Int) - (j0 : Int))))) (by go_simp) rfl
     | 11 => intro _ ho hd; obtain rfl := (Option.some.inj ho).symm; have d0 : vs 0 = (.pointer (some ⟨cb, 0, none⟩)) := hd ⟨0, .data⟩ (by simp) rfl; clear hd ho; have h32 := G.h (j := 0) (d := 32) rfl (by decide) d0; refine step_open rfl ?_; clear G; exact step_run (v := (.pointer (some ⟨cb, 0, none⟩))) (by go_simp) rfl
     | 12 => intro _ ho hd; obtain rfl := (Option.some.inj ho).symm; have d11 : vs 11 = (.pointer (some ⟨cb, 0, none⟩)) := hd ⟨11, .data⟩ (by simp) rfl; clear hd ho; have h43 := G.h (j := 11) (d := 43) rfl (by decide) d11; refine step_open rfl ?_; clear G; exact step_run (v := (.pointer (some ⟨cb, 1, none⟩))) (by go_simp) rfl
     | n + 13 =>
      intro hi
      exfalso
      omega
    ·intro vs w6 A hA F hb hR
     have d12 : vs 12 = (.pointer (some ⟨cb, 1, none⟩)) := hR 12 (by decide)
     have d10 : vs 10 = (.int .i64 (lk + ((n : Int) - (j0 : Int)))) := hR 10 (by decide)
     have HT9 := Lib.hid (HTX.out.below hb)
     have y1 := cell_at HT9.out.ccb 1
     have g1 := free_at HT9.out.ccb 1
     have hlc := lt_some HT9.out.ccb
     simp at y1
     clear hb
     clear F hR
     subst hA
     simp only [List.drop_succ_cons, List.drop_zero, wpTail, putAll, Act.put, List.setIfInBounds_toArray, List.set_cons_succ, List.set_cons_zero]
     simp only [d12]
     simp only [d10]
     clear d12 d10
     go_simp
     have HTA := Lib.hid (HT9.out.look (lk + ((n : Int) - (j0 : Int))))
     clear y1 g1 hlc HT9 HTX
     generalize World.setCell _ ⟨cb, 1, none⟩ _ = WA at *
     have z0 := cell_at HTA.out.cq 0
     have z1 := cell_at HTA.out.cq 1
     simp at z0 z1
     have hlq := lt_some HTA.out.cq
     have HLO := Lib.hid (look_any (w.heap.size + 1) (w.heap.size + 1) al no j0 a0 c0 ta0 m0 tc0 l sa n sc WA (SRow.of (HSO.out WA HTA.out.out) HLN.out (by omega)) (HSO.out WA HTA.out.out) HSB.out HSQ.out HOK.out hq.1 hq.2 hj0 hn HTA.out.cm (Nat.le_refl _) HTA.out.tab HTA.out.le)
     go_wp2_with fail
     refine HLO.out.mono ?_
     rintro e WB ⟨rfl, sa', sc', ta', m', tc', hmb', hsr', htr', hmn', hbB⟩
     have HTB := Lib.hid (HTA.out.looked hmb' (by rw [List.take_of_length_le (by rw [HLN.out]; exact Nat.le_refl _)]; exact htr') hmn' hbB)
     have HSR := Lib.hid hsr'
     clear HLO HTA z0 z1 hlq hmb' hsr' htr' hbB
     go_wp2_with fail
     refine wp_region_tail 6 (by kernel_rfl) (by kernel_rfl) (by kernel_rfl) (by decide) (by kernel_rfl) (byList (ct_list10 cb kb al no sa' n sc' ta' m' tc')) (lasts_list (ct_list10_lasts cb kb al no sa' n sc' ta' m' tc')) ?_ ?_
     ·intro vs w' iq o A hi F hb ho hd
      have m0 : A.tmps[0]?.getD undef = (.pointer (some ⟨cb, 0, none⟩)) := F.m (by kernel_rfl) rfl
      have m4 : A.tmps[4]?.getD undef = (.pointer (some ⟨w.heap.size, 0, none⟩)) := F.m (by kernel_rfl) rfl
      have m7 : A.tmps[7]?.getD undef = (.pointer (some ⟨(w.heap.size + 1), 0, none⟩)) := F.m (by kernel_rfl) rfl
      have G := F.light (n := 57) (by kernel_rfl)
      clear F
      have hc' := keep hb HTB.out.ccb
      have x0 := cell_at hc' 0
      have hq' := keep hb HTB.out.cq
      have z0 := cell_at hq' 0
      have z1 := cell_at hq' 1
      have hm' := keep hb HTB.out.cm
      have y0 := cell_at hm' 0
      have y1 := cell_at hm' 1
      simp at x0 z0 z1 y0 y1
      clear hc' hq' hm' hb
      revert hi ho hd
      match iq with
      | 0 => intro _ ho hd; obtain rfl := (Option.some.inj ho).symm; clear hd ho; refine step_open rfl ?_; clear G; exact step_run (v := (.pointer (some ⟨cb, 0, none⟩))) (by go_simp) rfl
      | 1 => intro _ ho hd; obtain rfl := (Option.some.inj ho).symm; have d0 : vs 0 = (.pointer (some ⟨cb, 0, none⟩)) := hd ⟨0, .data⟩ (by simp) rfl; clear hd ho; have h48 := G.h (j := 0) (d := 48) rfl (by decide) d0; refine step_open rfl ?_; clear G; exact step_run (v := (.pointer (some ⟨cb, 0, none⟩))) (by go_simp) rfl
      | 2 => intro _ ho hd; obtain rfl := (Option.some.inj ho).symm; have d1 : vs 1 = (.pointer (some ⟨cb, 0, none⟩)) := hd ⟨1, .data⟩ (by simp) rfl; clear hd ho; have h49 := G.h (j := 1) (d := 49) rfl (by decide) d1; refine step_open rfl ?_; clear G; exact step_run (v := (.pointer (some ⟨cb, 0, none⟩))) (by go_simp) rfl
      | 3 => intro _ ho hd; obtain rfl := (Option.some.inj ho).symm; have d2 : vs 2 = (.pointer (some ⟨cb, 0, none⟩)) := hd ⟨2, .data⟩ (by simp) rfl; clear hd ho; have h50 := G.h (j := 2) (d := 50) rfl (by decide) d2; refine step_open rfl ?_; clear G; exact step_run (v := (.map (some kb))) (by go_simp) rfl
      | 4 => intro _ ho hd; obtain rfl := (Option.some.inj ho).symm; clear hd ho; refine step_open rfl ?_; clear G; exact step_run (v := (.agg #[.int .u32 al, .int .u32 no])) (by go_simp) rfl
      | 5 => intro _ ho hd; obtain rfl := (Option.some.inj ho).symm; clear hd ho; refine step_open rfl ?_; clear G; exact step_run (v := (.agg #[.slice sa' n sc', .slice ta' m' tc'])) (by go_simp) rfl
      | n + 6 =>
       intro hi
       exfalso
       omega
     ·intro vs w6 A hA F hb hR
      have d3 : vs 3 = (.map (some kb)) := hR 3 (by decide)
      have d4 : vs 4 = (.agg #[.int .u32 al, .int .u32 no]) := hR 4 (by decide)
      have d5 : vs 5 = (.agg #[.slice sa' n sc', .slice ta' m' tc']) := hR 5 (by decide)
      have HT9 := Lib.hid (HTB.out.below hb)
      have hsr9 := ownsRow_below HSR.out hb
      obtain ⟨w7, hput, hca, hom⟩ := HC.out.ask hq (by rw [HLE.out]; exact HT9.out) hsr9 HLN.out hn hcn HKE.out
      have HCA := Lib.hid hca
      have HOM := Lib.hid hom
      clear hb hca hom
      clear F hR
      subst hA
      simp only [List.drop_succ_cons, List.drop_zero, wpTail, putAll, Act.put, List.setIfInBounds_toArray, List.set_cons_succ, List.set_cons_zero]
      simp only [d3]
      simp only [d4]
      simp only [d5]
      clear d3 d4 d5
      go_simp
      have HM7 := Lib.hid (HOM.out.2.1)
      have HT7 := Lib.hid (HOM.out.2.2)
      have y1 := cell_at HM7.out 1
      simp at y1
      have hl7 := lt_some HM7.out
      have HCL := Lib.hid (cloneInts_n (w.heap.size + 1) ta' tc' m' (tabsGo al no 0 l) w7 HT7.out (by omega))
      clear hput
      go_wp2_with fail
      refine HCL.out.mono ?_
      rintro e W9 ⟨va, vc, rfl, hown9, hb9⟩
      have HFIN := Lib.hid (show W9.ownsRow w.heap.size 3 1 (.slice va m' vc) m' ((tabsGo al no 0 l).map (.int .i64)) ∧ CacheAt W9 cb kb (S.ask (al, no) l) ∧ Out (fun x => x = cb ∨ x = kb) w W9 from ⟨ownsRow_mono hown9 HOM.out.1.size, HCA.out.below hb9, HOM.out.1.trans (Out.of (F := fun x => x = cb ∨ x = kb) hb9) (fun _ => .inl)⟩)
      clear hown9 hb9 HCA HOM HCL y1
      go_wp2_with fail
      go_returns
      exact ⟨va, m', vc, rfl, HFIN.out⟩
end Go.Proofs.YtgebbmfoamkfnaaGreatDoor
