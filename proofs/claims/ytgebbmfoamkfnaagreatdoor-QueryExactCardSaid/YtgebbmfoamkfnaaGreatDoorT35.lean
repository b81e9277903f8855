/- The index: Spawn, Kill. · The index: Kill, Live. · The index: New. -/
import Derived.Test.YtgebbmfoamkfnaaGreatDoorT34
import Derived.Laws.OwnMore
namespace Go.Proofs.YtgebbmfoamkfnaaGreatDoor
open Go.RowKit
set_option linter.unusedVariables false
def XD.withIx (x : XD) (ix : IX) : XD := { x with ix := ix }
def IX.withLive (x : IX) (k : Nat) (b : Bool) : IX := { x with lives := x.lives.set k b }
def IX.withGen (x : IX) (k : Nat) (g : Int) : IX := { x with gens := x.gens.set k g }
theorem XMem.lput {w : World} {x : XD} (h : XMem w x) {k : Nat} (hk : k < x.ix.lives.length) (b : Bool) {q : Nat} (hq : x.la = some ⟨q, 0, none⟩) : XStep x (x.withIx (x.ix.withLive k b)) w (w.setCell ⟨q, k, none⟩ (.bool b)) := by
 obtain ⟨q2, hq2, hrow, hf, hql, hcap⟩ := ownsRow_set (r := k) (.bool b) h.livesR hk
 have : q2 = q := by rw [hq] at hq2; cases hq2; rfl
 subst this
 have ho : Only q2 w (w.setCell ⟨q2, k, none⟩ (.bool b)) := Only.at w q2 k _
 have hfb : (Value.slice x.la x.ix.lives.length x.lc).ownBlock = some q2 := by rw [hq]; rfl
 have hn1 : q2 ≠ x.xb := h.lb q2 hfb
 have hty : ∀ b' v n xs, w.ownsRow 0 3 1 v n xs → v.ownBlock = some b' → b' ≠ q2 := fun b' v n xs hr hb e => by
  subst e
  obtain ⟨c1, h1⟩ := row_type h.livesR hfb
  obtain ⟨c2, h2⟩ := row_type hr hb
  rw [h1] at h2; cases h2
 have hout : Out (fun b => b = q2) w (w.setCell ⟨q2, k, none⟩ (.bool b)) := Out.only ho rfl
 refine ⟨⟨?_, ownsRow_out h.gensR hout (fun b' hb => hty b' _ _ _ h.gensR hb), ?_, ownsRow_out h.freeR hout (fun b' hb => hty b' _ _ _ h.freeR hb), h.ne⟩, rfl, hout.mono (fun b hb => .inl (by subst hb; exact .inr (.inr (.inl hfb)))), fun b' hb => .inl ?_⟩
 ·have := keepO ho h.blk (Ne.symm hn1)
  simpa [XD.withIx, IX.withLive] using this
 ·simpa [XD.withIx, IX.withLive, List.map_set] using hrow
 ·rcases hb with hb | hb | hb | hb
  ·exact .inl hb
  ·exact .inr (.inl hb)
  ·exact .inr (.inr (.inl (by simpa [XD.withIx, IX.withLive] using hb)))
  ·exact .inr (.inr (.inr hb))
theorem XMem.gput {w : World} {x : XD} (h : XMem w x) {k : Nat} (hk : k < x.ix.gens.length) (g : Int) {q : Nat} (hq : x.ga = some ⟨q, 0, none⟩) : XStep x (x.withIx (x.ix.withGen k g)) w (w.setCell ⟨q, k, none⟩ (.int .i64 g)) := by
 obtain ⟨q2, hq2, hrow, hf, hql, hcap⟩ := ownsRow_set (r := k) (.int .i64 g) h.gensR hk
 have : q2 = q := by rw [hq] at hq2; cases hq2; rfl
 subst this
 have ho : Only q2 w (w.setCell ⟨q2, k, none⟩ (.int .i64 g)) := Only.at w q2 k _
 have hfb : (Value.slice x.ga x.ix.gens.length x.gc).ownBlock = some q2 := by rw [hq]; rfl
 have hn1 : q2 ≠ x.xb := h.gb q2 hfb
 have hn3 : ∀ b, (Value.slice x.la x.ix.lives.length x.lc).ownBlock = some b → b ≠ q2 := fun b hb e => by
  subst e
  obtain ⟨c1, h1⟩ := row_type h.livesR hb
  obtain ⟨c2, h2⟩ := row_type h.gensR hfb
  rw [h1] at h2; cases h2
 have hn4 : ∀ b, (Value.slice x.fa x.fr.length x.fc).ownBlock = some b → b ≠ q2 := fun b hb e => by subst e; exact h.ne _ hfb hb
 have hout : Out (fun b => b = q2) w (w.setCell ⟨q2, k, none⟩ (.int .i64 g)) := Out.only ho rfl
 refine ⟨⟨?_, ?_, ownsRow_out h.livesR hout hn3, ownsRow_out h.freeR hout hn4, ?_⟩, rfl, hout.mono (fun b hb => .inl (by subst hb; exact .inr (.inl hfb))), fun b' hb => .inl ?_⟩
 ·have := keepO ho h.blk (Ne.symm hn1)
  simpa [XD.withIx, IX.withGen] using this
 ·simpa [XD.withIx, IX.withGen, List.map_set] using hrow
 ·intro b hb
  refine h.ne b ?_
  simpa [XD.withIx, IX.withGen] using hb
 ·rcases hb with hb | hb | hb | hb
  ·exact .inl hb
  ·exact .inr (.inl (by simpa [XD.withIx, IX.withGen] using hb))
  ·exact .inr (.inr (.inl hb))
  ·exact .inr (.inr (.inr hb))
set_option maxRecDepth 100000 in
set_option maxHeartbeats 2000000 in
theorem xSpawn_ok (x : XD) (w : World) (h : XIn w x) {id : Nat} (hn : x.ix.next = some id) : Calls Tryz.prog 51 #[.pointer (some ⟨x.xb, 0, none⟩)] w fun e w' => e = .returned (.tuple #[.int .u64 (hOf id (x.ix.gen id)), .int .i64 0]) ∧ ∃ x', x'.ix = x.ix.spawn id ∧ XIn w' x' ∧ XStep x x' w w' := by
 obtain ⟨n1, n2, n3, n4⟩ := IX.next_some hn
 have hlen := h.ok.len
 have hn2 := h.ok.n2
 have hg1 := h.ok.gen1 id n1 n2
 have hm2 := h.ok.most2
 have h0 : x.fr ≠ [] := fun e => by
  have := h.free
  rw [e] at this
  rw [this.next_none] at hn; cases hn
 obtain ⟨id', hn', hid'⟩ := h.free.next h0
 rw [hn] at hn'
 cases hn'
 obtain ⟨m, hm⟩ : ∃ m, x.fr.length = m + 1 := ⟨x.fr.length - 1, by have := List.length_pos_iff.2 h0; omega⟩
 have hfl := h.free.len h.ok
 have hf := xFree_any x w h.toXMem
 rw [hm] at hf
 have hpop := hPop_any x w h.toXMem m hm (by omega) (by rw [← hm]; exact h.free.heap)
 rw [hid'] at hpop
 obtain ⟨gn, hgn⟩ : ∃ gn : Nat, x.ix.gen id = (gn : Int) := ⟨(x.ix.gen id).toNat, by omega⟩
 rw [hgn] at hg1 ⊢
 have HGN := Lib.hid hgn
 have HF := Lib.hid hf
 have HPOP := Lib.hid hpop
 have H := Lib.hid h
 have HN := Lib.hid hn
 have hT := assert_int (id : Int)
 have e1 : (((m + 1 : Nat) : Int) == 0) = false := by simp; omega
 have HLEN := Lib.hid hlen
 have HG := Lib.hid hg1
 have hgl := x.ix.gens.length
 clear h hn hlen hf hpop hid' hm hg1 hgn n4
 go_enter Tryz.func51, Tryz.ntmps51
 go_wp2_with fail
 refine HF.out.mono ?_
 rintro e w1 ⟨rfl, rfl⟩
 go_wp2_with fail
 refine HPOP.out.mono ?_
 rintro e w1 ⟨rfl, l, hst1, hll, hp, hh⟩
 obtain ⟨_, _, c2, _, _⟩ := hst1.mem.cells
 have hidl : id < (x.withFr l).ix.lives.length := by show id < x.ix.lives.length; have := HLEN.out; omega
 obtain ⟨q, hq, d2, f2⟩ := hst1.mem.lrow hidl
 rw [hq] at c2
 have c2 : w1.cell? ⟨x.xb, 2, none⟩ = some (.slice (some ⟨q, 0, none⟩) x.ix.lives.length x.lc) := c2
 have i0 : (0 : Int) ≤ (id : Int) := by omega
 have i1 : (id : Int) < (x.ix.lives.length : Int) := by have := HLEN.out; omega
 have hst2 := hst1.trans (hst1.mem.lput hidl true hq)
 obtain ⟨_, c1, _, _, _⟩ := hst2.mem.cells
 have hidg : id < ((x.withFr l).withIx ((x.withFr l).ix.withLive id true)).ix.gens.length := n2
 obtain ⟨q1, hq1, d1, _⟩ := hst2.mem.grow hidg
 rw [hq1] at c1
 have c1 : (w1.setCell ⟨q, id, none⟩ (.bool true)).cell? ⟨x.xb, 1, none⟩ = some (.slice (some ⟨q1, 0, none⟩) x.ix.gens.length x.gc) := c1
 have i2 : (id : Int) < (x.ix.gens.length : Int) := by omega
 have hge : ((x.withFr l).withIx ((x.withFr l).ix.withLive id true)).ix.gen id = x.ix.gen id := rfl
 rw [hge] at d1
 rw [HGN.out] at d1
 have hent := fun wx : World => entOf_any id gn wx n1 (by omega) (by have := HG.out; omega) (by have := HG.out; omega)
 have HENT := Lib.hid hent
 have hfin : XIn (w1.setCell ⟨q, id, none⟩ (.bool true)) ((x.withFr l).withIx ((x.withFr l).ix.withLive id true)) :=
  ⟨hst2.mem, (H.out.ok.spawn HN.out).1, H.out.free.pop HN.out H.out.ok (by show HeapN l l.length; rw [hll]; exact hh) hp⟩
 have HFIN := Lib.hid (show ∃ x', x'.ix = x.ix.spawn id ∧ XIn (w1.setCell ⟨q, id, none⟩ (.bool true)) x' ∧ XStep x x' w (w1.setCell ⟨q, id, none⟩ (.bool true)) from ⟨_, rfl, hfin, hst2⟩)
 clear hst1 hst2 hfin hq hq1 hge hent hll hp hh HF HPOP
 go_wp2_with fail
 refine (HENT.out _).mono ?_
 rintro e w2 ⟨rfl, rfl⟩
 go_wp2_with fail
 go_ret2
 exact ⟨rfl, HFIN.out⟩
end Go.Proofs.YtgebbmfoamkfnaaGreatDoor
namespace Go.Proofs.YtgebbmfoamkfnaaGreatDoor
open Go.RowKit
set_option linter.unusedVariables false
def IsLive (l : List Int) (w : World) (e : Ending) (w' : World) : Prop := ∃ va vc, e = .returned (.slice va l.length vc) ∧ w'.ownsRow w.heap.size 50 1 (.slice va l.length vc) l.length (l.map (.int .u64)) ∧ Below w.heap.size w w'
def IX.liveTo (x : IX) (n : Nat) : List Int := (List.range n).filterMap x.liveH
theorem IX.liveTo_succ (x : IX) (n : Nat) : x.liveTo (n + 1) = x.liveTo n ++ (if x.live n then [hOf n (x.gen n)] else []) := by
 unfold IX.liveTo
 rw [List.range_succ, List.filterMap_append, List.filterMap_cons, List.filterMap_nil]
 congr 1
 unfold IX.liveH
 split <;> rename_i h
 ·split at h
  ·cases h
  ·rename_i h2; rw [if_neg h2]
 ·split at h
  ·rename_i h2; cases h; rw [if_pos h2]
  ·cases h
theorem IX.liveTo_len (x : IX) (n : Nat) : (x.liveTo n).length ≤ n := by
 have := List.length_filterMap_le x.liveH (List.range n)
 simpa [IX.liveTo] using this
theorem Tryz.infoE : (Tryz.prog.info? 50).map (fun i => (i.zero, i.size, i.bytes)) = some (some (.int .u64 0), 1, 8) := by kernel_rfl
set_option maxRecDepth 100000 in
set_option maxHeartbeats 2000000 in
theorem xLive_any (x : XD) (w : World) (h : XIn w x) : Calls Tryz.prog 61 #[.pointer (some ⟨x.xb, 0, none⟩)] w (IsLive x.ix.liveL w) := by
 obtain ⟨i0, hi, hz0, hz1, hz2⟩ := info_parts Tryz.infoE
 have hlen := h.ok.len
 have hn2 := h.ok.n2
 obtain ⟨n, hn⟩ : ∃ n, x.ix.gens.length = n := ⟨_, rfl⟩
 have hlv : x.ix.liveL = x.ix.liveTo n := by unfold IX.liveL IX.liveTo; rw [hn]
 rw [hlv]
 obtain ⟨_, _, c2, _, _⟩ := h.cells
 rw [hlen, hn] at c2
 have H := Lib.hid h
 have HN := Lib.hid hn
 have HLEN := Lib.hid hlen
 rw [hn] at hn2
 clear h hn hlen hlv
 go_enter Tryz.func61, Tryz.ntmps61
 go_wp2_with fail
 go_loopw [3, 13] (fun v i wr => ∃ (k : Nat) (va : Option Addr) (vc : Nat), k ≤ n ∧ i = .int .i64 k ∧ v = .slice va (x.ix.liveTo k).length vc ∧ wr.ownsRow w.heap.size 50 1 (.slice va (x.ix.liveTo k).length vc) (x.ix.liveTo k).length ((x.ix.liveTo k).map (.int .u64)) ∧ Below w.heap.size w wr)
  (fun _ i _ => n - (intOf i).toNat)
 case atStart => exact ⟨0, none, 0, Nat.zero_le _, rfl, rfl, World.ownsRow_nil _ _ _ _, Below.refl _ _⟩
 case round =>
  obtain ⟨k, va, vc, hk, rfl, rfl, hown, hbw⟩ := hrel
  have hzr := hbw.size
  have hlk := IX.liveTo_len x.ix k
  obtain ⟨m, hm⟩ : ∃ m, (x.ix.liveTo k).length = m := ⟨_, rfl⟩
  rw [hm] at hown hlk ⊢
  have HM := Lib.hid hm
  clear hm
  by_cases hlt : k < n
  ·have hx := H.out.below hbw
   obtain ⟨q2, hq2, d2, _⟩ := hx.lrow (k := k) (by have := HN.out; have := HLEN.out; omega)
   obtain ⟨q1, hq1, d1, _⟩ := hx.grow (k := k) (by have := HN.out; omega)
   obtain ⟨_, c1, c2', _, _⟩ := hx.cells
   rw [hq1, HN.out] at c1
   rw [hq2]
   have i0' : (0 : Int) ≤ (k : Int) := by omega
   have i1 : (k : Int) < (n : Int) := by omega
   have HS := Lib.hid (IX.liveTo_succ x.ix k)
   have HX := Lib.hid hx
   cases hv : x.ix.live k
   ·rw [hv] at d2
    have HV := Lib.hid hv
    have HO := Lib.hid hown
    clear hx hq1 hq2 hv hown c2'
    go_wp2_with fail
    go_roundw
    case rel => exact ⟨k + 1, va, vc, by omega, by go_num, by rw [HS.out, HV.out]; simp [HM.out], by rw [HS.out, HV.out]; simpa [HM.out] using HO.out, hbw⟩
    case measure => simp [intOf]; omega
   ·rw [hv] at d2
    have HV := Lib.hid hv
    have h1k := HX.out.ok.pos hv
    have hg1 := HX.out.ok.gen1 k h1k (by have := HN.out; omega)
    have hm2 := HX.out.ok.most2
    obtain ⟨gn, hgn⟩ : ∃ gn : Nat, x.ix.gen k = (gn : Int) := ⟨(x.ix.gen k).toNat, by omega⟩
    rw [hgn] at d1 hg1
    have HGN := Lib.hid hgn
    have hent := fun wx : World => entOf_any k gn wx h1k (by omega) (by omega) (by omega)
    have HENT := Lib.hid hent
    obtain ⟨E, hE⟩ : ∃ E, hOf (k : Int) (gn : Int) = E := ⟨_, rfl⟩
    have HE := Lib.hid hE
    have HO := Lib.hid hown
    clear hx hq1 hq2 hv c2' hgn hg1 hent hE
    go_wp2_with fail
    refine (HENT.out _).mono ?_
    rintro e w1 ⟨rfl, rfl⟩
    rw [HE.out]
    have hownA := HO.out.alloc (.cells #[.int .u64 E] 50)
    go_wp2_with (at_builtin; refine wpList_append_own _ rfl (.tmp 19) (.tmp 29) 57 rfl w.heap.size 50 i0 (.int .u64 0) 1 8 Tryz.underlying57 hi hz0 hz1 hz2 rfl (by decide) (.slice va m vc) m ((x.ix.liveTo k).map (.int .u64)) rfl hownA ⟨wr.heap.size, 0, none⟩ 1 1 [.int .u64 E] rfl rfl (cell_one_new _ _ _) (ints_oneCell .u64 [E]) (by unfold maxLen; omega) (by omega) (by simp; omega) ?_)
    intro v' w2 hown2 hg2 _
    obtain ⟨va', vc', hv'⟩ := ownsRow_slice hown2
    rw [hv'] at hown2 ⊢
    clear hv'
    have hrow : ∀ x, (Value.slice va m vc).ownBlock = some x → w.heap.size ≤ x := fun x hx => (hown.lt x hx).1
    have hbel : Below w.heap.size w w2 := (hbw.alloc hzr _).grown hg2 (by simp; omega) hrow
    have HO2 := Lib.hid hown2
    clear hown2 hown hownA hg2 hrow HO
    go_wp2_with fail
    go_roundw
    case rel => exact ⟨k + 1, va', vc', by omega, by go_num, by rw [HS.out, HV.out]; simp [HM.out], by rw [HS.out, HV.out, HGN.out, HE.out]; simpa [HM.out] using HO2.out, hbel⟩
    case measure => simp [intOf]; omega
  ·obtain rfl : k = n := by omega
   have HO := Lib.hid hown
   clear hown
   go_wp2_with fail
   go_returns
   exact ⟨va, vc, ret_sl HM.out.symm, by rw [HM.out]; exact HO.out, hbw⟩
end Go.Proofs.YtgebbmfoamkfnaaGreatDoor
namespace Go.Proofs.YtgebbmfoamkfnaaGreatDoor
open Go.RowKit
set_option linter.unusedVariables false
theorem make_ints (n : Nat) (hn : n ≤ 5000) (w : World) : (Instr.makeSlice 72 (.int .i64 (n : Int)) (.int .i64 (n : Int))).run Tryz.prog w = .ok (.slice (some ⟨w.heap.size, 0, none⟩) n n) (w.alloc (.cells (madeCells #[.int .i64 0] n) 3)) := by
  obtain ⟨i0, hi, hz0, hz1, hz2⟩ := info_parts Tryz.infoI
  have := run_makeSlice (P := Tryz.prog) w 72 3 i0 (.int .i64 0) Tryz.underlying72 hi hz0 .i64 .i64 (n : Int) (n : Int) (by omega) (Int.le_refl _) (by rw [hz1, Int.toNat_natCast]; omega) (by rw [hz2]; omega) (by omega)
  rw [hz1, Int.toNat_natCast, Nat.mul_one] at this
  exact this
theorem make_bools (n : Nat) (hn : n ≤ 5000) (w : World) : (Instr.makeSlice 158 (.int .i64 (n : Int)) (.int .i64 (n : Int))).run Tryz.prog w = .ok (.slice (some ⟨w.heap.size, 0, none⟩) n n) (w.alloc (.cells (madeCells #[.bool false] n) 4)) := by
  obtain ⟨i0, hi, hz0, hz1, hz2⟩ := info_parts Tryz.infoB
  have := run_makeSlice (P := Tryz.prog) w 158 4 i0 (.bool false) Tryz.underlying158 hi hz0 .i64 .i64 (n : Int) (n : Int) (by omega) (Int.le_refl _) (by rw [hz1, Int.toNat_natCast]; omega) (by rw [hz2]; omega) (by omega)
  rw [hz1, Int.toNat_natCast, Nat.mul_one] at this
  exact this
/-- The ids up to n, of which those below k are laid. -/
def gensL (n k : Nat) : List Int := (List.range (n + 1)).map fun j => if 1 ≤ j ∧ j < k then 1 else 0
def frL (k : Nat) : List Int := (List.range k).map fun (j : Nat) => (j : Int) + 1
def newIX (n : Nat) (gens : Int) : IX := ⟨gens, gensL n (n + 1), List.replicate (n + 1) false⟩
theorem make_ints1 (n : Nat) (hn : n ≤ 4000) (w : World) : (Instr.makeSlice 72 (.int .i64 ((n : Int) + 1)) (.int .i64 ((n : Int) + 1))).run Tryz.prog w = .ok (.slice (some ⟨w.heap.size, 0, none⟩) (n + 1) (n + 1)) (w.alloc (.cells (madeCells #[.int .i64 0] (n + 1)) 3)) := by
  have e : ((n : Int) + 1) = ((n + 1 : Nat) : Int) := by omega
  rw [e]; exact make_ints (n + 1) (by omega) w
theorem make_bools1 (n : Nat) (hn : n ≤ 4000) (w : World) : (Instr.makeSlice 158 (.int .i64 ((n : Int) + 1)) (.int .i64 ((n : Int) + 1))).run Tryz.prog w = .ok (.slice (some ⟨w.heap.size, 0, none⟩) (n + 1) (n + 1)) (w.alloc (.cells (madeCells #[.bool false] (n + 1)) 4)) := by
  have e : ((n : Int) + 1) = ((n + 1 : Nat) : Int) := by omega
  rw [e]; exact make_bools (n + 1) (by omega) w
theorem gensL_set {n k : Nat} (h1 : 1 ≤ k) (hk : k ≤ n) : (gensL n k).set k 1 = gensL n (k + 1) := by
  apply List.ext_getElem?
  intro j
  unfold gensL
  rw [List.getElem?_set, List.getElem?_map, List.getElem?_map]
  by_cases e : k = j
  · subst e
    rw [if_pos rfl, if_pos (by simp; omega), List.getElem?_range (by omega)]
    simp [h1]
  · rw [if_neg e]
    have h : (1 ≤ j ∧ j < k) ↔ (1 ≤ j ∧ j < k + 1) := by omega
    rcases Nat.lt_or_ge j (n + 1) with hj | hj
    · rw [List.getElem?_range hj]
      simp [h]
    · rw [List.getElem?_eq_none (by simpa using hj)]; rfl
theorem gensL_len (n k : Nat) : (gensL n k).length = n + 1 := by simp [gensL]
theorem frL_len (k : Nat) : (frL k).length = k := by simp [frL]
theorem frL_succ (k : Nat) : frL (k + 1) = frL k ++ [(k : Int) + 1] := by simp [frL, List.range_succ]
theorem gensL_one (n : Nat) : gensL n 1 = List.replicate (n + 1) 0 := by
  apply List.ext_getElem (by simp [gensL])
  intro i h1 h2
  simp [gensL]
  omega
theorem at0_frL {n k : Nat} (h : k < n) : at0 (frL n) k = (k : Int) + 1 := by
  refine at0_some ?_
  unfold frL
  rw [List.getElem?_map, List.getElem?_range h]; rfl
theorem newIX_ok {n : Nat} {g : Int} (n1 : 1 ≤ n) (n2 : n ≤ 256) (g1 : 1 ≤ g) (g2 : g ≤ 65535) : (newIX n g).Ok ∧ FreeOk (newIX n g) (frL n) := by
  have hgen : ∀ j, j < n + 1 → (newIX n g).gen j = if 1 ≤ j then 1 else 0 := fun j hj => by
    show (gensL n (n + 1)).getD j 0 = _
    unfold gensL
    rw [List.getD_eq_getElem?_getD, List.getElem?_map, List.getElem?_range hj]
    by_cases h : 1 ≤ j <;> simp [h, hj]
  have hlive : ∀ j, (newIX n g).live j = false := fun j => by
    show (List.replicate (n + 1) false).getD j false = false
    rw [List.getD_eq_getElem?_getD, List.getElem?_replicate]
    split <;> rfl
  have hgl : (newIX n g).gens.length = n + 1 := gensL_len _ _
  have hfree : ∀ j, (newIX n g).freeB j = true ↔ 1 ≤ j ∧ j ≤ n := fun j => by
    unfold IX.freeB
    rw [hgl, hlive]
    constructor
    · intro h
      simp at h
      omega
    · rintro ⟨h1, h2⟩
      rw [hgen j (by omega), if_pos h1]
      show (decide (1 ≤ j) && decide (j < n + 1) && !false && decide ((1 : Int) ≤ g)) = true
      simp [h1, g1]; omega
  refine ⟨⟨by rw [hgl]; show (List.replicate (n + 1) false).length = _; simp, by omega, by omega, g1, g2, fun j j1 j2 => ?_, hlive 0, fun j hj => by rw [hlive] at hj; cases hj⟩, ?_, ?_, fun y => ?_⟩
  · rw [hgl] at j2
    rw [hgen j j2, if_pos j1]
    exact ⟨by omega, by show (1 : Int) ≤ g + 1; omega⟩
  · intro k k1 k2
    rw [frL_len] at k2
    rw [at0_frL (by omega), at0_frL k2]
    omega
  · unfold frL
    rw [List.Nodup, List.pairwise_map]
    exact List.nodup_range.imp fun {a b} h => by omega
  · unfold frL
    rw [List.mem_map]
    constructor
    · rintro ⟨j, hj, rfl⟩
      have := List.mem_range.1 hj
      exact ⟨j + 1, by omega, (hfree _).2 (by omega)⟩
    · rintro ⟨j, rfl, hj⟩
      have := (hfree j).1 hj
      exact ⟨j - 1, List.mem_range.2 (by omega), by omega⟩
/-- Rows that have just been made. -/
theorem ownsRow_new {w : World} {q : Nat} {e : TypeId} {z : Value} {m : Nat} (h : w.heap[q]? = some (.cells (madeCells #[z] m) e (0, 0))) (hm : m ≤ maxLen) : w.ownsRow 0 e 1 (.slice (some ⟨q, 0, none⟩) m m) m (List.replicate m z) := by
  refine ⟨by simp, .inr ⟨q, m, madeCells #[z] m, rfl, Nat.zero_le _, h, Nat.le_refl _, hm, by simp [size_madeCells], ?_⟩⟩
  rw [toList_madeCells_one]
  simp
structure NewS (w : World) (xb n : Nat) (g : Int) (k : Nat) (x : XD) (wr : World) : Prop where
  xb : x.xb = xb
  ix : x.ix = ⟨g, gensL n k, List.replicate (n + 1) false⟩
  fr : x.fr = frL (k - 1)
  mem : XMem wr x
  lo : ∀ b, x.foot b → w.heap.size ≤ b
  bel : Below w.heap.size w wr
theorem NewS.step {w : World} {xb n : Nat} {g : Int} {k k' : Nat} {x x' : XD} {a b : World} (h : NewS w xb n g k x a) (hs : XStep x x' a b) (h1 : x'.ix = ⟨g, gensL n k', List.replicate (n + 1) false⟩) (h2 : x'.fr = frL (k' - 1)) : NewS w xb n g k' x' b :=
  ⟨hs.xb.trans h.xb, h1, h2, hs.mem, fun c hc => (hs.foot c hc).elim (h.lo c) fun hb => Nat.le_trans h.bel.size hb, h.bel.trans (hs.out.below h.lo h.bel.size)⟩
theorem NewS.start {w wx : World} {xb q1 q2 n : Nat} {g : Int} (hb : wx.heap[xb]? = some (.cells #[.int .i64 g, .slice (some ⟨q1, 0, none⟩) (n + 1) (n + 1), .slice (some ⟨q2, 0, none⟩) (n + 1) (n + 1), .slice none 0 0] 161 (0, 0)))
    (h1 : wx.ownsRow 0 3 1 (.slice (some ⟨q1, 0, none⟩) (n + 1) (n + 1)) (n + 1) ((gensL n 1).map (.int .i64))) (h2 : wx.ownsRow 0 4 1 (.slice (some ⟨q2, 0, none⟩) (n + 1) (n + 1)) (n + 1) ((List.replicate (n + 1) false).map .bool))
    (l1 : w.heap.size ≤ q1) (l2 : w.heap.size ≤ q2) (l3 : w.heap.size ≤ xb) (hbel : Below w.heap.size w wx) : NewS w xb n g 1 ⟨xb, ⟨g, gensL n 1, List.replicate (n + 1) false⟩, [], some ⟨q1, 0, none⟩, n + 1, some ⟨q2, 0, none⟩, n + 1, none, 0⟩ wx := by
  have e1 := gensL_len n 1
  have e2 : (List.replicate (n + 1) false).length = n + 1 := by simp
  refine ⟨rfl, rfl, rfl, ⟨?_, ?_, ?_, World.ownsRow_nil _ _ _ _, fun b _ hb => by cases hb⟩, ?_, hbel⟩
  · simp only [e1, e2]; exact hb
  · simp only [e1]; exact h1
  · simp only [e2]; exact h2
  · rintro b (hb | hb | hb | hb)
    · subst hb; exact l3
    · obtain rfl : q1 = b := by simpa [Value.ownBlock] using hb
      exact l1
    · obtain rfl : q2 = b := by simpa [Value.ownBlock] using hb
      exact l2
    · cases hb
theorem new3 (w : World) (a b : Array Value) (ta tb tt : TypeId) (o : Array Value) : (((w.alloc (.cells a ta)).alloc (.cells b tb)).alloc (.cells o tt)).drew.heap[w.heap.size + 1 + 1]? = some (.cells o tt (0, 0)) ∧ (((w.alloc (.cells a ta)).alloc (.cells b tb)).alloc (.cells o tt)).drew.heap[w.heap.size + 1]? = some (.cells b tb (0, 0)) ∧ (((w.alloc (.cells a ta)).alloc (.cells b tb)).alloc (.cells o tt)).drew.heap[w.heap.size]? = some (.cells a ta (0, 0)) := by
  refine ⟨?_, ?_, keepA _ (keepA _ (heap_alloc_new w _))⟩
  · have := heap_alloc_new ((w.alloc (.cells a ta)).alloc (.cells b tb)) (.cells o tt)
    rw [World.size_alloc, World.size_alloc] at this
    exact this
  · have := keepA (.cells o tt) (heap_alloc_new (w.alloc (.cells a ta)) (.cells b tb))
    rw [World.size_alloc] at this
    exact this
theorem bel3 (w : World) (a b o : Obj) : Below w.heap.size w (((w.alloc a).alloc b).alloc o).drew := ((((Below.refl _ w).alloc (Nat.le_refl _) _).alloc (by simp) _).alloc (by simp; omega) _).drew
set_option maxRecDepth 100000 in
set_option maxHeartbeats 2000000 in
theorem xNew_ok (n : Nat) (g : Int) (w : World) (n1 : 1 ≤ n) (n2 : n ≤ 256) (g1 : 1 ≤ g) (g2 : g ≤ 65535) : Calls Tryz.prog 44 #[.int .i64 n, .int .i64 g] w fun e w' => ∃ x, e = .returned (.pointer (some ⟨x.xb, 0, none⟩)) ∧ x.ix = newIX n g ∧ XIn w' x ∧ (∀ b, x.foot b → w.heap.size ≤ b) ∧ Below w.heap.size w w' := by
  obtain ⟨i0, hi, hz0, hz1, hz2⟩ := info_parts Tryz.infoI
  have w1 : IntKind.i64.wrap ((n : Int) + 1) = (n : Int) + 1 := IntWalk.i64_in _ (by omega)
  have hm1 := make_ints1 n (by omega)
  have hm2 := make_bools1 n (by omega)
  have HR1 : Hid (∀ (w : World) (q : Nat), w.heap[q]? = some (.cells (madeCells #[.int .i64 0] (n + 1)) 3 (0, 0)) → w.ownsRow 0 3 1 (.slice (some ⟨q, 0, none⟩) (n + 1) (n + 1)) (n + 1) ((gensL n 1).map (.int .i64))) := Lib.hid fun w q h => by
    rw [gensL_one, List.map_replicate]
    exact ownsRow_new h (by unfold maxLen; omega)
  have HR2 : Hid (∀ (w : World) (q : Nat), w.heap[q]? = some (.cells (madeCells #[.bool false] (n + 1)) 4 (0, 0)) → w.ownsRow 0 4 1 (.slice (some ⟨q, 0, none⟩) (n + 1) (n + 1)) (n + 1) ((List.replicate (n + 1) false).map .bool)) := Lib.hid fun w q h => by
    rw [List.map_replicate]
    exact ownsRow_new h (by unfold maxLen; omega)
  generalize madeCells #[.int .i64 0] (n + 1) = Z1 at *
  generalize madeCells #[.bool false] (n + 1) = Z2 at *
  have HOK := Lib.hid (newIX_ok n1 n2 g1 g2)
  have HGL : Hid ((gensL n 1).length = n + 1) := Lib.hid (gensL_len _ _)
  go_enter Tryz.func44, Tryz.ntmps44
  go_wp2_with fail
  go_upto_region 3 with (fail)
  go_cut [5] (fun s5 wx => ∃ xb x, s5 = .pointer (some ⟨xb, 0, none⟩) ∧ NewS w xb n g 1 x wx)
  case first =>
    go_region
    all_goals
      go_wp2_with fail
      go_meet
      first
        | (obtain ⟨z0, z2, z1⟩ := new3 w Z1 Z2 3 4 161 #[.int .i64 g, .slice (some ⟨w.heap.size, 0, none⟩) (n + 1) (n + 1), .slice (some ⟨w.heap.size + 1, 0, none⟩) (n + 1) (n + 1), .slice none 0 0]
           exact ⟨_, _, rfl, NewS.start (q1 := w.heap.size) (q2 := w.heap.size + 1) z0 (HR1.out _ _ z1) (HR2.out _ _ z2) (Nat.le_refl _) (by omega) (by omega) (bel3 _ _ _ _)⟩)
        | (obtain ⟨z0, z1, z2⟩ := new3 w Z2 Z1 4 3 161 #[.int .i64 g, .slice (some ⟨w.heap.size + 1, 0, none⟩) (n + 1) (n + 1), .slice (some ⟨w.heap.size, 0, none⟩) (n + 1) (n + 1), .slice none 0 0]
           exact ⟨_, _, rfl, NewS.start (q1 := w.heap.size + 1) (q2 := w.heap.size) z0 (HR1.out _ _ z1) (HR2.out _ _ z2) (by omega) (Nat.le_refl _) (by omega) (bel3 _ _ _ _)⟩)
  case rest =>
    obtain ⟨xb, x, rfl, hns⟩ := hcut
    have HNS := Lib.hid hns
    clear hns hm1 hm2 HR1 HR2 w1
    go_wp2_with fail
    go_loopw [6] (fun i wr => ∃ (k : Nat) (x : XD), i = .int .i64 (k : Int) ∧ 1 ≤ k ∧ k ≤ n + 1 ∧ NewS w xb n g k x wr) (fun i _ => n + 1 - (intOf i).toNat)
    case atStart => exact ⟨1, x, rfl, by omega, by omega, HNS.out⟩
    case round =>
      obtain ⟨k, x, rfl, k1, k2, hns⟩ := hrel
      obtain ⟨hxb, hix, hfr, hmem, hlo, hbel⟩ := hns
      by_cases hlt : k ≤ n
      · have g3 : decide ((k : Int) ≤ (n : Int)) = true := by simp; omega
        have hgl : x.ix.gens.length = n + 1 := by rw [hix]; exact gensL_len _ _
        have hfl : x.fr.length = k - 1 := by rw [hfr, frL_len]
        obtain ⟨q, hq, d1, f1⟩ := hmem.grow (k := k) (by omega)
        obtain ⟨_, c1, _, _, _⟩ := hmem.cells
        rw [hq, hgl, hxb] at c1
        have j0 : (0 : Int) ≤ (k : Int) := by omega
        have j1 : (k : Int) < ((n + 1 : Nat) : Int) := by omega
        have hst1 := hmem.gput (k := k) (by omega) 1 hq
        have HST1 := Lib.hid hst1
        obtain ⟨_, _, _, c3, fz⟩ := hst1.mem.cells
        replace c3 : (wr.setCell ⟨q, k, none⟩ (.int .i64 1)).cell? ⟨x.xb, 3, none⟩ = some (.slice x.fa x.fr.length x.fc) := c3
        have f3 := fz 3
        replace f3 : (wr.setCell ⟨q, k, none⟩ (.int .i64 1)).frozen? ⟨x.xb, 3, none⟩ = false := f3
        rw [hxb] at c3 f3
        have HX := Lib.hid (And.intro hxb (And.intro hix (And.intro hfr hfl)))
        have HS0 := Lib.hid (show NewS w xb n g k x wr from ⟨hxb, hix, hfr, hmem, hlo, hbel⟩)
        obtain ⟨m, hm⟩ : ∃ m, x.fr.length = m := ⟨_, rfl⟩
        rw [hm] at c3
        have hmk : m ≤ 256 := by omega
        have hown := hst1.mem.freeR
        have hown : ((wr.setCell ⟨q, k, none⟩ (.int .i64 1)).alloc (.cells #[.int .i64 k] 3)).ownsRow 0 3 1 (.slice x.fa m x.fc) m (x.fr.map (.int .i64)) := by
          rw [← hm]; exact hst1.mem.freeR.alloc _
        have hfb := hst1.mem.fb
        have hkb := hst1.mem.blk
        have HAPP : Hid (∀ (w6 : World) (gq cap : Nat), ((wr.setCell ⟨q, k, none⟩ (.int .i64 1)).alloc (.cells #[.int .i64 k] 3)).grownBy w6 (Value.slice x.fa m x.fc).ownBlock → w6.ownsRow 0 3 1 (.slice (some ⟨gq, 0, none⟩) (m + 1) cap) (m + 1) (x.fr.map (.int .i64) ++ [.int .i64 k]) → ((Value.slice x.fa m x.fc).ownBlock = some gq ∨ gq = (wr.setCell ⟨q, k, none⟩ (.int .i64 1)).heap.size + 1) →
            (∃ x', NewS w xb n g (k + 1) x' (w6.setCell ⟨xb, 3, none⟩ (.slice (some ⟨gq, 0, none⟩) (m + 1) cap))) ∧ w6.cell? ⟨xb, 3, none⟩ = some (.slice x.fa m x.fc) ∧ w6.frozen? ⟨xb, 3, none⟩ = false) := Lib.hid fun w6 gq cap hg ho ha => by
          have hg' : ((wr.setCell ⟨q, k, none⟩ (.int .i64 1)).alloc (.cells #[.int .i64 k] 3)).drew.grownBy w6 (Value.slice x.fa m x.fc).ownBlock := ⟨hg.os, hg.tape, hg.output, hg.size, hg.block⟩
          rw [← hm] at hg' ho ha
          have hap := hst1.mem.fapp (w6 := w6) (o := .cells #[.int .i64 k] 3) (q := gq) (cap := cap) (y := (k : Int)) hg' ho ha
          have hst2 := hst1.trans hap
          have hb6 := keepG hg (show ((wr.setCell ⟨q, k, none⟩ (.int .i64 1)).alloc (.cells #[.int .i64 k] 3)).heap[xb]? = _ from keepA _ (hxb ▸ hkb)) (fun e => hfb xb (by rw [← hm] at e; exact e.symm) hxb.symm)
          refine ⟨⟨_, HS0.out.step (k' := k + 1) (by rw [← hm, ← hxb]; exact hst2) ?_ ?_⟩, by rw [cell_at hb6, ← hm]; rfl, free_at hb6 3⟩
          · show IX.withGen x.ix k 1 = _
            rw [hix]
            show (⟨g, (gensL n k).set k 1, List.replicate (n + 1) false⟩ : IX) = _
            rw [gensL_set k1 hlt]
          · show x.fr ++ [(k : Int)] = frL (k + 1 - 1)
            rw [hfr, show k + 1 - 1 = (k - 1) + 1 by omega, frL_succ]
            congr 2
            omega
        have hsz : (wr.setCell ⟨q, k, none⟩ (.int .i64 1)).heap.size = wr.heap.size := by simp [World.setCell]
        have hc1 := cell_one_new (wr.setCell ⟨q, k, none⟩ (.int .i64 1)) (.int .i64 k) 3
        rw [hsz] at hc1
        have HC1 := Lib.hid hc1
        have HSZ := Lib.hid hsz
        have HOWN := Lib.hid hown
        clear hc1 hsz fz hq hgl hst1 hxb hix hfr hmem hlo hbel hfl hm hown hfb hkb
        go_wp2_with (at_builtin; refine wpList_append_lies _ rfl (.tmp 45) (.tmp 47) 159 rfl 0 3 i0 (.int .i64 0) 1 8 Tryz.underlying159 hi hz0 hz1 hz2 rfl (by decide) (.slice x.fa m x.fc) m (x.fr.map (.int .i64)) rfl HOWN.out ⟨wr.heap.size, 0, none⟩ 1 1 [.int .i64 k] rfl rfl HC1.out (ints_oneCell .i64 [(k : Int)]) (by decide) (by unfold maxLen; omega) (by omega) (by simp) (wr.heap.size + 1) (by simp) ?_)
        intro gq vc w6 hown6 hg6 hat6 _
        obtain ⟨⟨x', hx'⟩, t3, tf3⟩ := HAPP.out _ _ _ hg6 hown6 (by rw [HSZ.out]; exact hat6)
        have HX' := Lib.hid hx'
        clear hx' hown6 hg6 hat6 c1 c3 d1 f1 f3
        go_wp2_with fail
        go_roundw
        case rel => exact ⟨k + 1, x', by go_num, by omega, by omega, HX'.out⟩
        case measure => simp [intOf]; omega
      · obtain rfl : k = n + 1 := by omega
        have g3 : decide (((n + 1 : Nat) : Int) ≤ (n : Int)) = false := by simp; omega
        have HF := Lib.hid (show ∃ x : XD, x.xb = xb ∧ x.ix = newIX n g ∧ XIn wr x ∧ (∀ b, x.foot b → w.heap.size ≤ b) ∧ Below w.heap.size w wr from ⟨x, hxb, hix, ⟨hmem, by rw [hix]; exact HOK.out.1, by rw [hix, hfr]; exact HOK.out.2⟩, hlo, hbel⟩)
        clear hxb hix hfr hmem hlo hbel
        go_wp2_with fail
        go_returns
        obtain ⟨x, h1, h2⟩ := HF.out
        exact ⟨x, by rw [h1]; rfl, h2⟩
end Go.Proofs.YtgebbmfoamkfnaaGreatDoor
