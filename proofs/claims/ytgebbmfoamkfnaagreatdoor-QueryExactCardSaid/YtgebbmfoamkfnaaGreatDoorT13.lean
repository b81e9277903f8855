/- Contract of table.New. · Contracts of schema.CheckPart, CheckParts; table.value. -/
import Derived.Test.YtgebbmfoamkfnaaGreatDoorT7
import Derived.Deep.AppendLies
import Derived.Deep.RegionLaw
import Derived.Deep.DeepCutAuto
import Derived.Test.YtgebbmfoamkfnaaGreatDoorT12
namespace Go.Proofs.YtgebbmfoamkfnaaGreatDoor
open Go.RowKit
set_option linter.unusedVariables false
theorem ownsRow_ne {w : World} {b b' : Nat} {e e' : TypeId} {s s' : Nat} {v v' : Value} {n n' : Nat} {xs xs' : List Value} (h : w.ownsRow b e s v n xs) (h' : w.ownsRow b' e' s' v' n' xs') (hne : e ≠ e') : v.ownBlock = none ∨ v.ownBlock ≠ v'.ownBlock := by
 rcases h.2 with ⟨rfl, _⟩ | ⟨g, cap, cur, rfl, _, hg, _⟩
 ·exact .inl rfl
 ·refine .inr fun he => ?_
  rcases h'.2 with ⟨rfl, _⟩ | ⟨g', cap', cur', rfl, _, hg', _⟩
  ·cases he
  ·simp [Value.ownBlock] at he
   subst he
   rw [hg] at hg'
   cases hg'
   exact hne rfl
theorem ownsRow_ne_block {w : World} {b : Nat} {e : TypeId} {s : Nat} {v : Value} {n : Nat} {xs : List Value} (h : w.ownsRow b e s v n xs) {g : Nat} {o : Obj} (hg : w.heap[g]? = some o) (hne : ∀ cur, o ≠ .cells cur e (0, 0)) : some g ≠ v.ownBlock := by
 rcases h.2 with ⟨rfl, _⟩ | ⟨g', cap, cur, rfl, _, hg', _⟩
 ·simp [Value.ownBlock]
 ·intro he
  simp [Value.ownBlock] at he
  subst he
  rw [hg] at hg'
  cases hg'
  exact hne _ rfl
theorem ownsRow_below {w w' : World} {b : Nat} {e : TypeId} {s : Nat} {v : Value} {n : Nat} {xs : List Value} (h : w.ownsRow b e s v n xs) (hb : Below w.heap.size w w') : w'.ownsRow b e s v n xs :=
 h.kept (grownOf hb none) (by cases v.ownBlock <;> simp)
theorem colNew_ok (size limit : Int) (w : World) (h : colOk size limit = true) : Calls Tryz.prog 153 #[.int .i64 size, .int .i64 limit] w fun e w' => ∃ cb, e = .returned (.pointer (some ⟨cb, 0, none⟩)) ∧ w.heap.size ≤ cb ∧ w'.heap[cb]? = some (.cells #[.int .i64 size, .int .i64 limit, .int .i64 0, .slice none 0 0] 223 (0, 0)) ∧ Below w.heap.size w w' := by
 refine (colNew_any size limit w).mono ?_
 intro e w' h'
 unfold IsCol at h'
 rw [if_pos h] at h'
 obtain ⟨rfl, rfl⟩ := h'
 exact ⟨_, rfl, Nat.le_refl _, heap_alloc_new _ _, by go_grown⟩
structure CV where
 c : Cmp
 fa : Option Addr
 fl : Nat
 fc : Nat
 cb : Nat
def compL (x : CV) : List Value := [.int .i64 x.c.id, .string x.c.name, .slice x.fa x.fl x.fc]
def colL (x : CV) : List Value := [.int .i64 x.c.id, .string x.c.name, .slice x.fa x.fl x.fc, .pointer (some ⟨x.cb, 0, none⟩)]
structure CVF (base : Nat) (w : World) (x : CV) : Prop where
 row : w.ownsRow base 79 3 (.slice x.fa x.fl x.fc) x.fl (fldCells x.c.fields)
 len : x.c.fields.length = x.fl
 max : x.fl ≤ maxLen
 nil : x.fa = none → x.fl = 0 ∧ x.fc = 0
structure CVE (base : Nat) (w : World) (x : CV) (most : Int) : Prop where
 le : base ≤ x.cb
 blk : w.heap[x.cb]? = some (.cells #[.int .i64 (planSize x.c.fields), .int .i64 most, .int .i64 0, .slice none 0 0] 223 (0, 0))
theorem CVF.below {base : Nat} {w w' : World} {x : CV} (h : CVF base w x) (hb : Below w.heap.size w w') : CVF base w' x := ⟨ownsRow_below h.row hb, h.len, h.max, h.nil⟩
theorem CVE.below {base : Nat} {w w' : World} {x : CV} {most : Int} (h : CVE base w x most) (hb : Below w.heap.size w w') : CVE base w' x most := ⟨h.le, keep hb h.blk⟩
theorem CVF.kept {base : Nat} {w w' : World} {x : CV} (h : CVF base w x) {b s : Nat} {e : TypeId} {v : Value} {n : Nat} {xs : List Value} (hr : w.ownsRow b e s v n xs) (hne : 79 ≠ e) (hg : w.grownBy w' v.ownBlock) : CVF base w' x :=
 ⟨h.row.kept hg (ownsRow_ne h.row hr hne), h.len, h.max, h.nil⟩
theorem CVE.kept {base : Nat} {w w' : World} {x : CV} {most : Int} (h : CVE base w x most) {b s : Nat} {e : TypeId} {v : Value} {n : Nat} {xs : List Value} (hr : w.ownsRow b e s v n xs) (hne : 223 ≠ e) (hg : w.grownBy w' v.ownBlock) : CVE base w' x most :=
 ⟨h.le, keepG hg h.blk (ownsRow_ne_block hr h.blk (fun cur he => by cases he; exact hne rfl))⟩
theorem CVF.setCell {base : Nat} {w : World} {x : CV} (h : CVF base w x) {a : Addr} (ha : a.block < base) (u : Value) : CVF base (w.setCell a u) x := ⟨ownsRow_setCell_below h.row ha u, h.len, h.max, h.nil⟩
theorem CVE.setCell {base : Nat} {w : World} {x : CV} {most : Int} (h : CVE base w x most) {a : Addr} (ha : a.block < base) (u : Value) : CVE base (w.setCell a u) x most := ⟨h.le, by rw [hset_ne _ _ _ _ (by have := h.le; omega)]; exact h.blk⟩
def tableOk (ver : Int) (cs : List Cmp) (set most : Int) : Bool :=
 (schemaCheck ver cs == 0) && sIs set && decide (1 ≤ most) && decide (most ≤ 256) && (idsTo set 24).all fun i => (findC i cs).isSome
structure TableHas (w : World) (b0 tb : Nat) (ver set most : Int) (ca : Option Addr) (cc : Nat) (la : Option Addr) (lc : Nat) (cps : List CV) : Prop where
 blk : w.heap[tb]? = some (.cells #[.int .i64 ver, .slice ca cps.length cc, .int .u32 set, .int .i64 most, .int .i64 0, .slice none 0 0, .slice la cps.length lc] 178 (0, 0))
 comps : w.ownsRow b0 82 3 (.slice ca cps.length cc) cps.length (cps.flatMap compL)
 cols : w.ownsRow b0 181 4 (.slice la cps.length lc) cps.length (cps.flatMap colL)
 good : ∀ x ∈ cps, CVF b0 w x ∧ CVE b0 w x most
 nodup : (cps.map (·.cb)).Nodup
def TableAt (w : World) (tb : Nat) (ver set most : Int) : Prop := ∃ ca cc la lc cps, TableHas w 0 tb ver set most ca cc la lc cps ∧ cps.length = (idsTo set 24).length
def TableNew (w : World) (tb : Nat) (ver : Int) (cs : List Cmp) (set most : Int) : Prop := ∃ ca cc la lc cps, TableHas w (tb + 1) tb ver set most ca cc la lc cps ∧ (idsTo set 24).map (findC · cs) = cps.map (fun x => some x.c)
theorem TableHas.mono {w : World} {b b' tb : Nat} {ver set most : Int} {ca : Option Addr} {cc : Nat} {la : Option Addr} {lc : Nat} {cps : List CV} (h : TableHas w b tb ver set most ca cc la lc cps) (hb : b' ≤ b) : TableHas w b' tb ver set most ca cc la lc cps :=
 ⟨h.blk, ownsRow_mono h.comps hb, ownsRow_mono h.cols hb, fun x hx => ⟨⟨ownsRow_mono (h.good x hx).1.row hb, (h.good x hx).1.len, (h.good x hx).1.max, (h.good x hx).1.nil⟩, ⟨Nat.le_trans hb (h.good x hx).2.le, (h.good x hx).2.blk⟩⟩, h.nodup⟩
theorem TableNew.at {w : World} {tb : Nat} {ver : Int} {cs : List Cmp} {set most : Int} (h : TableNew w tb ver cs set most) : TableAt w tb ver set most := by
 obtain ⟨ca, cc, la, lc, cps, h, he⟩ := h
 exact ⟨ca, cc, la, lc, cps, h.mono (Nat.zero_le _), by have := congrArg List.length he; simpa using this.symm⟩
def IsTable (ver : Int) (cs : List Cmp) (set most : Int) (w : World) (e : Ending) (w' : World) : Prop :=
 if tableOk ver cs set most then ∃ tb, e = .returned (.pointer (some ⟨tb, 0, none⟩)) ∧ w.heap.size ≤ tb ∧ TableNew w' tb ver cs set most ∧ Below w.heap.size w w'
 else e = .returned (.pointer none) ∧ Below w.heap.size w w'
structure TState (w0 : World) (tb : Nat) (S C P : Obj) (cB pB : Nat) (ver set most : Int) (idv : Value) (n : Nat) (ids : List Value) (ca la : Option Addr) (k1 cc k2 lc : Nat) (xs ys : List Value) (cps : List CV) (cx : CV) (wx : World) : Prop where
 s : wx.heap[w0.heap.size]? = some S
 t : wx.heap[tb]? = some (.cells #[.int .i64 ver, .slice ca k1 cc, .int .u32 set, .int .i64 most, .int .i64 0, .slice none 0 0, .slice la k2 lc] 178 (0, 0))
 c : wx.heap[cB]? = some C
 p : wx.heap[pB]? = some P
 comps : wx.ownsRow (tb + 1) 82 3 (.slice ca k1 cc) k1 xs
 cols : wx.ownsRow (tb + 1) 181 4 (.slice la k2 lc) k2 ys
 ids : wx.ownsRow (tb + 1) 3 1 idv n ids
 below : Below w0.heap.size w0 wx
 good : ∀ x ∈ cps, CVF (tb + 1) wx x ∧ CVE (tb + 1) wx x most
 cur : CVF (tb + 1) wx cx
section
variable {w0 : World} {tb : Nat} {S C P : Obj} {cB pB : Nat} {ver set most : Int} {idv : Value} {n : Nat} {ids : List Value} {ca la : Option Addr} {k1 cc k2 lc : Nat} {xs ys : List Value} {cps : List CV} {cx : CV} {wx : World}
theorem TState.keepB (h : TState w0 tb S C P cB pB ver set most idv n ids ca la k1 cc k2 lc xs ys cps cx wx) {w' : World} (hb : Below wx.heap.size wx w') : TState w0 tb S C P cB pB ver set most idv n ids ca la k1 cc k2 lc xs ys cps cx w' :=
 ⟨keep hb h.s, keep hb h.t, keep hb h.c, keep hb h.p, ownsRow_below h.comps hb, ownsRow_below h.cols hb, ownsRow_below h.ids hb, h.below.trans (hb.mono h.below.size), fun x hx => ⟨(h.good x hx).1.below hb, (h.good x hx).2.below hb⟩, h.cur.below hb⟩
theorem TState.app1 (h : TState w0 tb S C P cB pB ver set most idv n ids ca la k1 cc k2 lc xs ys cps cx wx) (htb : w0.heap.size ≤ tb)
  (hS : ∀ cur, S ≠ .cells cur 82 (0, 0)) (hP : ∀ cur, P ≠ .cells cur 82 (0, 0)) (hcB : (Value.slice ca k1 cc).ownBlock ≠ some cB) (hS' : w0.heap.size ≠ tb) (hcB' : cB ≠ tb) (hpB' : pB ≠ tb)
  {w' : World} {g cap : Nat} {news : List Value} (hg : wx.grownBy w' (Value.slice ca k1 cc).ownBlock) (ho : w'.ownsRow (tb + 1) 82 3 (.slice (some ⟨g, 0, none⟩) (k1 + 1) cap) (k1 + 1) (xs ++ news)) :
  TState w0 tb S C P cB pB ver set most idv n ids (some ⟨g, 0, none⟩) la (k1 + 1) cap k2 lc (xs ++ news) ys cps cx (w'.setCell ⟨tb, 1, none⟩ (.slice (some ⟨g, 0, none⟩) (k1 + 1) cap)) := by
 have ht' := keepG hg h.t (ownsRow_ne_block h.comps h.t (fun cur he => by cases he))
 refine ⟨?_, ?_, ?_, ?_, ?_, ?_, ?_, ?_, ?_, ?_⟩
 ·rw [hset_ne _ _ _ _ (by simpa using hS')]; exact keepG hg h.s (ownsRow_ne_block h.comps h.s hS)
 ·exact hset _ _ _ _ _ _ _ ht'
 ·rw [hset_ne _ _ _ _ (by simpa using hcB')]; exact keepG hg h.c (fun e => hcB e.symm)
 ·rw [hset_ne _ _ _ _ (by simpa using hpB')]; exact keepG hg h.p (ownsRow_ne_block h.comps h.p hP)
 ·exact ownsRow_setCell_below ho (by simp) _
 ·exact ownsRow_setCell_below (h.cols.kept hg (ownsRow_ne h.cols h.comps (by decide))) (by simp) _
 ·exact ownsRow_setCell_below (h.ids.kept hg (ownsRow_ne h.ids h.comps (by decide))) (by simp) _
 ·refine (h.below.grown hg h.below.size (fun x hx => ?_)).setCell htb _
  have := (h.comps.lt x hx).1; omega
 ·exact fun x hx => ⟨((h.good x hx).1.kept h.comps (by decide) hg).setCell (by simp) _, ((h.good x hx).2.kept h.comps (by decide) hg).setCell (by simp) _⟩
 ·exact (h.cur.kept h.comps (by decide) hg).setCell (by simp) _
theorem TState.app2 (h : TState w0 tb S C P cB pB ver set most idv n ids ca la k1 cc k2 lc xs ys cps cx wx) (htb : w0.heap.size ≤ tb)
  (hS : ∀ cur, S ≠ .cells cur 181 (0, 0)) (hP : ∀ cur, P ≠ .cells cur 181 (0, 0)) (hC : ∀ cur, C ≠ .cells cur 181 (0, 0)) (hS' : w0.heap.size ≠ tb) (hcB' : cB ≠ tb) (hpB' : pB ≠ tb)
  {cx' : CV} (hx1 : CVF (tb + 1) wx cx') (hx2 : CVE (tb + 1) wx cx' most) {w' : World} {g cap : Nat} {news : List Value} (hg : wx.grownBy w' (Value.slice la k2 lc).ownBlock) (ho : w'.ownsRow (tb + 1) 181 4 (.slice (some ⟨g, 0, none⟩) (k2 + 1) cap) (k2 + 1) (ys ++ news)) :
  TState w0 tb S C P cB pB ver set most idv n ids ca (some ⟨g, 0, none⟩) k1 cc (k2 + 1) cap xs (ys ++ news) (cps ++ [cx']) cx (w'.setCell ⟨tb, 6, none⟩ (.slice (some ⟨g, 0, none⟩) (k2 + 1) cap)) := by
 have ht' := keepG hg h.t (ownsRow_ne_block h.cols h.t (fun cur he => by cases he))
 refine ⟨?_, ?_, ?_, ?_, ?_, ?_, ?_, ?_, ?_, ?_⟩
 ·rw [hset_ne _ _ _ _ (by simpa using hS')]; exact keepG hg h.s (ownsRow_ne_block h.cols h.s hS)
 ·exact hset _ _ _ _ _ _ _ ht'
 ·rw [hset_ne _ _ _ _ (by simpa using hcB')]; exact keepG hg h.c (ownsRow_ne_block h.cols h.c hC)
 ·rw [hset_ne _ _ _ _ (by simpa using hpB')]; exact keepG hg h.p (ownsRow_ne_block h.cols h.p hP)
 ·exact ownsRow_setCell_below (h.comps.kept hg (ownsRow_ne h.comps h.cols (by decide))) (by simp) _
 ·exact ownsRow_setCell_below ho (by simp) _
 ·exact ownsRow_setCell_below (h.ids.kept hg (ownsRow_ne h.ids h.cols (by decide))) (by simp) _
 ·refine (h.below.grown hg h.below.size (fun x hx => ?_)).setCell htb _
  have := (h.cols.lt x hx).1; omega
 ·intro x hx
  rcases List.mem_append.1 hx with hx | hx
  ·exact ⟨((h.good x hx).1.kept h.cols (by decide) hg).setCell (by simp) _, ((h.good x hx).2.kept h.cols (by decide) hg).setCell (by simp) _⟩
  ·obtain rfl : x = cx' := by simpa using hx
   exact ⟨(hx1.kept h.cols (by decide) hg).setCell (by simp) _, (hx2.kept h.cols (by decide) hg).setCell (by simp) _⟩
 ·exact (h.cur.kept h.cols (by decide) hg).setCell (by simp) _
end
theorem Tryz.info181 : (Tryz.prog.info? 181).map (fun i => (i.zero, i.size, i.bytes)) = some (some (.agg #[.int .i64 0, .string ByteArray.empty, .slice none 0 0, .pointer none]), 4, 56) := by kernel_rfl
set_option maxRecDepth 100000 in
set_option maxHeartbeats 8000000 in
theorem tableNew_any (ver : Int) (cs : List Cmp) (a : Option Addr) (len cap : Nat) (set most : Int) (w : World) (hcs : CompsAt w.heap.size w a len cs) (hw : CompsWf cs) (hf : ∀ c ∈ cs, c.fields.length ≤ 100000) (h0 : 0 ≤ set) (hs : set ≤ 4294967295) :
  Calls Tryz.prog 117 #[.agg #[.int .i64 ver, .slice a len cap], .int .u32 set, .int .i64 most] w (IsTable ver cs set most w) := by
 obtain ⟨i0, hi, hz0, hz1, hz2⟩ := info_parts Tryz.info82
 obtain ⟨i1, hi', hy0, hy1, hy2⟩ := info_parts Tryz.info181
 have hbel0 : Below w.heap.size w (w.alloc (.cells #[.int .i64 ver, .slice a len cap] 24)) := by go_grown
 go_enter Tryz.func117, Tryz.ntmps117
 go_wp2_with fail
 refine (schemaCheck_any ver cs _ _ _ _ ((hcs.below hbel0).mono hbel0.size) hw).mono ?_
 rintro e w1 ⟨rfl, hb1⟩
 have hs1 := keep hb1 (heap_alloc_new w (.cells #[.int .i64 ver, .slice a len cap] 24))
 have s0 := cell_at hs1 0
 simp at s0
 have hbel1 : Below w.heap.size w w1 := hbel0.trans (hb1.mono hbel0.size)
 by_cases hsc : schemaCheck ver cs = 0
 ·have e1 : (schemaCheck ver cs != 0) = false := by simp [hsc]
  have HSC := Lib.hid hsc
  clear hsc
  go_wp2_with fail
  refine (sigIs_any _ _ h0 hs).mono ?_
  rintro e w' ⟨rfl, rfl⟩
  cases hsi : sIs set
  ·have HT : Hid (tableOk ver cs set most = false) := Lib.hid (by simp [tableOk, hsi])
   clear hsi
   go_wp2_with fail
   go_returns
   unfold IsTable; rw [HT.out]; exact ⟨rfl, hbel1⟩
  ·have HSI := Lib.hid hsi
   clear hsi
   rcases (by omega : most < 1 ∨ (1 ≤ most ∧ 256 < most) ∨ (1 ≤ most ∧ most ≤ 256)) with h | ⟨h, h'⟩ | ⟨h, h'⟩
   ·have HT : Hid (tableOk ver cs set most = false) := Lib.hid (by simp [tableOk]; omega)
    go_wp2_with fail
    go_returns
    unfold IsTable; rw [HT.out]; exact ⟨rfl, hbel1⟩
   ·have HT : Hid (tableOk ver cs set most = false) := Lib.hid (by simp [tableOk]; omega)
    go_wp2_with fail
    go_returns
    unfold IsTable; rw [HT.out]; exact ⟨rfl, hbel1⟩
   ·have hz1w := hbel1.size
    have hbel2 : Below w.heap.size w (w1.alloc (.cells #[.int .i64 ver, .slice none 0 0, .int .u32 set, .int .i64 most, .int .i64 0, .slice none 0 0, .slice none 0 0] 178)) := hbel1.alloc hz1w _
    go_wp2_with fail
    refine (ids_any _ _ h0 hs).mono ?_
    rintro e w3 ⟨ia, n, ic, rfl, hn, hids, hb3⟩
    have hn24 : n ≤ 24 := by have := idsTo_len set 24; omega
    have HN := Lib.hid hn
    clear hn
    have hS3 := keep hb3 (keepA _ hs1)
    have hT3 := keep hb3 (heap_alloc_new w1 _)
    have hbel3 : Below w.heap.size w w3 := hbel2.trans (hb3.mono hbel2.size)
    go_wp2_with fail
    go_loopw [40] (fun i wr => ∃ (k : Nat) (ca la : Option Addr) (cc lc : Nat) (cps : List CV), k ≤ n ∧ i = .int .i64 k ∧ (∀ j x, j < k → (idsTo set 24)[j]? = some x → (findC x cs).isSome = true) ∧
      wr.heap[w.heap.size]? = some (.cells #[.int .i64 ver, .slice a len cap] 24 (0, 0)) ∧
      wr.heap[w1.heap.size]? = some (.cells #[.int .i64 ver, .slice ca k cc, .int .u32 set, .int .i64 most, .int .i64 0, .slice none 0 0, .slice la k lc] 178 (0, 0)) ∧
      wr.ownsRow (w1.heap.size + 1) 82 3 (.slice ca k cc) k (cps.flatMap compL) ∧ wr.ownsRow (w1.heap.size + 1) 181 4 (.slice la k lc) k (cps.flatMap colL) ∧ wr.ownsRow (w1.heap.size + 1) 3 1 (.slice ia n ic) n ((idsTo set 24).map (.int .i64)) ∧ Below w.heap.size w wr ∧ cps.length = k ∧ ((idsTo set 24).take k).map (findC · cs) = cps.map (fun x => some x.c) ∧ (cps.map (·.cb)).Nodup ∧ ∀ x ∈ cps, CVF (w1.heap.size + 1) wr x ∧ CVE (w1.heap.size + 1) wr x most)
     (fun i _ => n - (intOf i).toNat)
    case atStart =>
     exact ⟨0, none, none, 0, 0, [], Nat.zero_le _, rfl, fun j x hj => by omega, hS3, hT3, World.ownsRow_nil _ _ _ _, World.ownsRow_nil _ _ _ _, by simpa using hids, hbel3, rfl, rfl, by simp, by simp⟩
    case round =>
     obtain ⟨k, ca, la, cc, lc, cps, hk, rfl, hall, hS, hT, hca, hla, hia, hbw, hcl0, hcps, hnd, hgood⟩ := hrel
     have HCPS := Lib.hid (And.intro hcl0 (And.intro hcps hnd))
     have HGOOD := Lib.hid hgood
     clear hcl0 hcps hnd hgood
     have HALL := Lib.hid hall
     clear hall
     have hzr := hbw.size
     have hTl := lt_some hT
     by_cases hlt : k < n
     ·obtain ⟨x, hx⟩ : ∃ x, (idsTo set 24)[k]? = some x := ⟨_, List.getElem?_eq_getElem (by have := HN.out; omega)⟩
      have hxb := idsTo_bd set 24 x (List.mem_of_getElem? hx)
      obtain ⟨ig, hig, hic⟩ : ∃ ig, ia = some ⟨ig, 0, none⟩ ∧ wr.cell? ⟨ig, k, none⟩ = some (.int .i64 x) := by
       rcases hia.2 with ⟨hv, h0'⟩ | ⟨g, cap', cur, hv, hg, hh, hc1, hc2, hc3, hc4⟩
       ·omega
       ·cases hv
        refine ⟨g, rfl, ?_⟩
        rw [cell_at hh]
        have hu : ((idsTo set 24).map (Value.int .i64))[k]? = some (.int .i64 x) := by rw [List.getElem?_map, hx]; rfl
        rw [← hc4, List.getElem?_take] at hu
        split at hu
        ·simpa using hu
        ·cases hu
      subst hig
      have sc0 := cell_at hS 0
      have sc1 := cell_at hS 1
      simp at sc0 sc1
      have hx1 : x ≤ 24 := by omega
      have HX := Lib.hid hx
      clear hx
      go_wp2_with fail
      refine (Find_any ver x cs _ _ _ _ ((hcs.below hbw).mono hzr) hf).mono ?_
      intro e w2 hfind
      unfold IsFind at hfind
      cases hfc : findC x cs with
      | none =>
       rw [hfc] at hfind
       obtain ⟨rfl, hb2⟩ := hfind
       have HT : Hid (tableOk ver cs set most = false) := Lib.hid (by
        unfold tableOk
        have : ((idsTo set 24).all fun i => (findC i cs).isSome) = false := by
         rw [List.all_eq_false]
         exact ⟨x, List.mem_of_getElem? HX.out, by rw [hfc]; simp⟩
        rw [this]; simp)
       clear hfc
       have hbel4 := hbw.trans (hb2.mono hzr)
       go_wp2_with fail
       go_returns
       unfold IsTable; rw [HT.out]; exact ⟨rfl, hbel4.alloc hbel4.size _⟩
      | some c =>
       rw [hfc] at hfind
       obtain ⟨va, fl, vc, rfl, hF, hnv, hb2⟩ := hfind
       have HFC := Lib.hid hfc
       clear hfc
       have hzz2 := hb2.size
       have hFA : FieldsOn (· < (w2.alloc (.cells #[.int .i64 c.id, .string c.name, .slice va fl vc] 82)).heap.size) (w2.alloc (.cells #[.int .i64 c.id, .string c.name, .slice va fl vc] 82)) va fl c.fields :=
        (FieldsOn.of_row hF.1 hF.2.1 hF.2.2).imp (fun b hb => ⟨by simp; omega, by rw [halloc, if_neg (by omega)]⟩)
       have hcur : CVF (w1.heap.size + 1) w2 ⟨c, va, fl, vc, 0⟩ := ⟨ownsRow_mono hF.1 (by omega), hF.2.1, hF.2.2, hnv⟩
       have hmem := findC_mem HFC.out
       have hlay := schema_lay HSC.out c hmem
       have HOK : Hid (colOk (layPlanOf c.fields) most = true) := Lib.hid (col_ok hlay (by omega) (by omega))
       have HLP : Hid (layPlanOf c.fields = planSize c.fields) := Lib.hid (by unfold layPlanOf; rw [if_pos hlay])
       clear hmem hlay
       clear hF
       have hS4 := keep hb2 hS
       have hT4 := keep hb2 hT
       go_wp2_with fail
       refine (layOf_any c.fields _ _ _ _ hFA).mono ?_
       rintro e w5 ⟨va2, n2, vc2, rfl, hb5, _⟩
       have hz5 := hb5.size
       rw [World.size_alloc] at hz5
       have hcl : ∀ y, (Value.slice ca k cc).ownBlock = some y → y < wr.heap.size := fun y hy => (hca.lt y hy).2
       have ST0 : TState w w1.heap.size (.cells #[.int .i64 ver, .slice a len cap] 24 (0, 0)) (.cells #[.int .i64 c.id, .string c.name, .slice va fl vc] 82 (0, 0)) (.cells #[.int .i64 (layPlanOf c.fields), .slice va2 n2 vc2] 217 (0, 0))
         w2.heap.size w5.heap.size ver set most (.slice (some ⟨ig, 0, none⟩) n ic) n ((idsTo set 24).map (.int .i64)) ca la k cc k lc (cps.flatMap compL) (cps.flatMap colL) cps ⟨c, va, fl, vc, 0⟩ (w5.alloc (.cells #[.int .i64 (layPlanOf c.fields), .slice va2 n2 vc2] 217)) :=
        ⟨keepA _ (keep hb5 (keepA _ hS4)), keepA _ (keep hb5 (keepA _ hT4)), keepA _ (keep hb5 (heap_alloc_new w2 _)), heap_alloc_new w5 _, (ownsRow_below ((ownsRow_below hca hb2).alloc _) hb5).alloc _, (ownsRow_below ((ownsRow_below hla hb2).alloc _) hb5).alloc _, (ownsRow_below ((ownsRow_below hia hb2).alloc _) hb5).alloc _,
         ((((hbw.trans (hb2.mono hzr)).alloc (by omega) _).trans (hb5.mono (by simp; omega))).alloc (by omega) _),
         fun x hx => ⟨((((((HGOOD.out x hx).1.below hb2).below ((Below.refl _ w2).alloc (Nat.le_refl _) (.cells #[.int .i64 c.id, .string c.name, .slice va fl vc] 82))).below hb5).below ((Below.refl _ w5).alloc (Nat.le_refl _) _))), ((((((HGOOD.out x hx).2.below hb2).below ((Below.refl _ w2).alloc (Nat.le_refl _) (.cells #[.int .i64 c.id, .string c.name, .slice va fl vc] 82))).below hb5).below ((Below.refl _ w5).alloc (Nat.le_refl _) _)))⟩,
         ((hcur.below ((Below.refl _ w2).alloc (Nat.le_refl _) (.cells #[.int .i64 c.id, .string c.name, .slice va fl vc] 82))).below hb5).below ((Below.refl _ w5).alloc (Nat.le_refl _) _)⟩
       have HST := Lib.hid ST0
       clear hb2 hb5 hS4 hT4 hS hT hca hla hia ST0 sc0 sc1 hFA hcur
       go_upto_region 11 with (fail)
       go_cut [] (fun wx => ∃ ca' cc', TState w w1.heap.size (.cells #[.int .i64 ver, .slice a len cap] 24 (0, 0)) (.cells #[.int .i64 c.id, .string c.name, .slice va fl vc] 82 (0, 0)) (.cells #[.int .i64 (layPlanOf c.fields), .slice va2 n2 vc2] 217 (0, 0))
         w2.heap.size w5.heap.size ver set most (.slice (some ⟨ig, 0, none⟩) n ic) n ((idsTo set 24).map (.int .i64)) ca' la (k + 1) cc' k lc (cps.flatMap compL ++ [.int .i64 c.id, .string c.name, .slice va fl vc]) (cps.flatMap colL) cps ⟨c, va, fl, vc, 0⟩ wx)
       case first =>
        have t0 := cell_at HST.out.t 1
        have t2 := free_at HST.out.t 1
        have q0 := cell_at HST.out.c 0
        have q1 := cell_at HST.out.c 1
        have q2 := cell_at HST.out.c 2
        simp at t0 q0 q1 q2
        have hzP : w5.heap.size < (w5.alloc (.cells #[.int .i64 (layPlanOf c.fields), .slice va2 n2 vc2] 217)).heap.size := by simp
        generalize w5.alloc (.cells #[.int .i64 (layPlanOf c.fields), .slice va2 n2 vc2] 217) = W at HST hzP t0 t2 q0 q1 q2 ⊢
        have hownA : ((W.alloc (.cells #[.int .i64 c.id, .string c.name, .slice va fl vc] 82)).drew).ownsRow (w1.heap.size + 1) 82 3 (.slice ca k cc) k (cps.flatMap compL) := HST.out.comps.alloc _
        have hnews : ∀ j u, ([.int .i64 c.id, .string c.name, .slice va fl vc] : List Value)[j]? = some u → ((W.alloc (.cells #[.int .i64 c.id, .string c.name, .slice va fl vc] 82)).drew).cell? ((⟨W.heap.size, 0, none⟩ : Addr).add j) = some u :=
         World.news_of_block (w := (W.alloc (.cells #[.int .i64 c.id, .string c.name, .slice va fl vc] 82)).drew) (cs := #[.int .i64 c.id, .string c.name, .slice va fl vc]) (t := 82) (fr := (0, 0)) (heap_alloc_new W _)
        have h1c : ∀ u ∈ ([.int .i64 c.id, .string c.name, .slice va fl vc] : List Value), u.oneCell' = true := by
         intro u hu; simp at hu; rcases hu with rfl | rfl | rfl <;> rfl
        have hm1 : k + 1 ≤ maxLen := by unfold maxLen; omega
        have hm2 : (k + 1) * 48 ≤ 140737488355328 := by omega
        have hm3 : w1.heap.size + 1 ≤ ((W.alloc (.cells #[.int .i64 c.id, .string c.name, .slice va fl vc] 82)).drew).heap.size := by simp; omega
        have hd : ∀ w6, ((W.alloc (.cells #[.int .i64 c.id, .string c.name, .slice va fl vc] 82)).drew).grownBy w6 (Value.slice ca k cc).ownBlock → w6.cell? ⟨w1.heap.size, 1, none⟩ = some (.slice ca k cc) ∧ w6.frozen? ⟨w1.heap.size, 1, none⟩ = false := by
         intro w6 hg6
         have hT6 := keepG hg6 (show ((W.alloc (.cells #[.int .i64 c.id, .string c.name, .slice va fl vc] 82)).drew).heap[w1.heap.size]? = _ from keepA _ HST.out.t) (ownsRow_ne_block HST.out.comps HST.out.t (fun cur he => by cases he))
         exact ⟨by rw [cell_at hT6]; rfl, free_at hT6 _⟩
        have HD := Lib.hid hd
        clear hd
        have tt0 : (W.alloc (.cells #[.int .i64 c.id, .string c.name, .slice va fl vc] 82)).cell? ⟨w1.heap.size, 1, none⟩ = some (.slice ca k cc) := by rw [cell_at (keepA _ HST.out.t)]; rfl
        have HOA := Lib.hid hownA
        have HNW := Lib.hid hnews
        have H1C := Lib.hid h1c
        clear hownA hnews h1c
        go_region_law (first | (refine step_append_lies _ (by rfl) _ _ 22 (by rfl) (w1.heap.size + 1) 82 i0 _ 3 48 Tryz.underlying22 hi hz0 hz1 hz2 rfl (by omega) (.slice ca k cc) k (cps.flatMap compL) (by rfl) HOA.out ⟨W.heap.size, 0, none⟩ 1 1 [.int .i64 c.id, .string c.name, .slice va fl vc] (by rfl) (by rfl) HNW.out H1C.out (by omega) hm1 hm2 hm3 (W.heap.size + 1) (by simp) ?_; intro g cap w6 hown6 hg6 hat6 hlt6; obtain ⟨d0, d1⟩ := HD.out _ hg6))
        all_goals
         have ST1 := HST.out.keepB (w' := (W.alloc (.cells #[.int .i64 c.id, .string c.name, .slice va fl vc] 82)).drew) (((Below.refl _ _).alloc (Nat.le_refl _) _).drew)
         have HS1 := Lib.hid ST1
         clear ST1
         have hz01 := hbel0.size
         have hz02 := hb1.size
         rw [World.size_alloc] at hz02
         go_wp2_with fail
         go_meet
         exact ⟨_, _, HS1.out.app1 hz1w (fun cur he => by cases he) (fun cur he => by cases he) (fun he => by have := hcl _ he; omega) (by omega) (by omega) (by omega) hg6 hown6⟩
       case rest =>
        obtain ⟨ca', cc', hst⟩ := hcut
        have HST2 := Lib.hid hst
        clear hst HST
        have hzP : w5.heap.size < wc.heap.size := lt_some HST2.out.p
        have hzT : w1.heap.size < wc.heap.size := lt_some HST2.out.t
        have t0 := cell_at HST2.out.t 6
        have t2 := free_at HST2.out.t 6
        have q0 := cell_at HST2.out.c 0
        have q1 := cell_at HST2.out.c 1
        have q2 := cell_at HST2.out.c 2
        have q3 := cell_at HST2.out.p 0
        simp at t0 q0 q1 q2 q3
        have hd : ∀ w6, Below wc.drew.heap.size wc.drew w6 → w6.cell? ⟨w1.heap.size, 6, none⟩ = some (.slice la k lc) ∧ w6.cell? ⟨w2.heap.size, 0, none⟩ = some (.int .i64 c.id) ∧ w6.cell? ⟨w2.heap.size, 1, none⟩ = some (.string c.name) ∧ w6.cell? ⟨w2.heap.size, 2, none⟩ = some (.slice va fl vc) ∧ ∀ o, (w6.alloc o).cell? ⟨w1.heap.size, 6, none⟩ = some (.slice la k lc) := by
         intro w6 hb6
         have st := HST2.out.keepB (w' := wc.drew) (Below.refl _ _).drew |>.keepB hb6
         exact ⟨by rw [cell_at st.t]; rfl, by rw [cell_at st.c]; rfl, by rw [cell_at st.c]; rfl, by rw [cell_at st.c]; rfl, fun o => by rw [cell_at (keepA _ st.t)]; rfl⟩
        have HD := Lib.hid hd
        clear hd
        have he : ∀ w6 o w7, Below wc.drew.heap.size wc.drew w6 → (w6.alloc o).grownBy w7 (Value.slice la k lc).ownBlock → w7.cell? ⟨w1.heap.size, 6, none⟩ = some (.slice la k lc) ∧ w7.frozen? ⟨w1.heap.size, 6, none⟩ = false := by
         intro w6 o w7 hb6 hg7
         have st := HST2.out.keepB (w' := wc.drew) (Below.refl _ _).drew |>.keepB hb6
         have hT6 := keepG hg7 (keepA _ st.t) (ownsRow_ne_block st.cols st.t (fun cur he => by cases he))
         exact ⟨by rw [cell_at hT6]; rfl, free_at hT6 _⟩
        have HE := Lib.hid he
        clear he
        have hz01 := hbel0.size
        have hz02 := hb1.size
        rw [World.size_alloc] at hz02
        have hfin : ∀ (w6 : World) (o : Obj) (w7 : World) (g cap cb : Nat) (news : List Value), Below wc.drew.heap.size wc.drew w6 → (wc.heap.size ≤ cb ∧ w6.heap[cb]? = some (.cells #[.int .i64 (layPlanOf c.fields), .int .i64 most, .int .i64 0, .slice none 0 0] 223 (0, 0))) → (w6.alloc o).grownBy w7 (Value.slice la k lc).ownBlock → w7.ownsRow (w1.heap.size + 1) 181 4 (.slice (some ⟨g, 0, none⟩) (k + 1) cap) (k + 1) (cps.flatMap colL ++ news) → _ :=
         fun w6 o w7 g cap cb news hb6 hcb hg7 hown7 => ((HST2.out.keepB (w' := wc.drew) (Below.refl _ _).drew |>.keepB hb6).keepB ((Below.refl _ _).alloc (Nat.le_refl _) o)).app2 hz1w (fun cur he => by cases he) (fun cur he => by cases he) (fun cur he => by cases he) (by omega) (by omega) (by omega)
          (cx' := ⟨c, va, fl, vc, cb⟩) (by
           have h := ((HST2.out.keepB (w' := wc.drew) (Below.refl _ _).drew |>.keepB hb6).keepB ((Below.refl _ _).alloc (Nat.le_refl _) o)).cur
           exact ⟨h.row, h.len, h.max, h.nil⟩) ⟨show w1.heap.size + 1 ≤ cb by omega, by rw [← HLP.out]; exact keepA o hcb.2⟩ hg7 hown7
        have HFIN := Lib.hid hfin
        clear hfin
        have hob : ∀ w6 o, Below wc.drew.heap.size wc.drew w6 → (w6.alloc o).ownsRow (w1.heap.size + 1) 181 4 (.slice la k lc) k (cps.flatMap colL) := by
         intro w6 o hb6
         exact (HST2.out.keepB (w' := wc.drew) (Below.refl _ _).drew |>.keepB hb6).cols.alloc o
        have HOB := Lib.hid hob
        clear hob
        have hnw : ∀ (w6 : World) (pc : Option Addr) j u, ([.int .i64 c.id, .string c.name, .slice va fl vc, .pointer pc] : List Value)[j]? = some u → (w6.alloc (.cells #[.int .i64 c.id, .string c.name, .slice va fl vc, .pointer pc] 181)).cell? ((⟨w6.heap.size, 0, none⟩ : Addr).add j) = some u :=
         fun w6 pc => World.news_of_block (cs := #[.int .i64 c.id, .string c.name, .slice va fl vc, .pointer pc]) (t := 181) (fr := (0, 0)) (heap_alloc_new w6 _)
        have HNW := Lib.hid hnw
        clear hnw
        have h1c : ∀ (pc : Option Addr) (u : Value), u ∈ ([.int .i64 c.id, .string c.name, .slice va fl vc, .pointer pc] : List Value) → u.oneCell' = true := by
         intro pc u hu; simp at hu; rcases hu with rfl | rfl | rfl | rfl <;> rfl
        have H1C := Lib.hid h1c
        clear h1c
        have hm1 : k + 1 ≤ maxLen := by unfold maxLen; omega
        have hm2 : (k + 1) * 56 ≤ 140737488355328 := by omega
        have hm3 : ∀ w6 o, Below wc.drew.heap.size wc.drew w6 → w1.heap.size + 1 ≤ (w6.alloc o).heap.size := by
         intro w6 o hb6
         have : wc.heap.size ≤ w6.heap.size := hb6.size
         simp; omega
        have HM3 := Lib.hid hm3
        clear hm3
        go_wp2_with fail
        go_region_law (first | (refine step_append_lies _ (by rfl) _ _ 176 (by rfl) (w1.heap.size + 1) 181 i1 _ 4 56 Tryz.underlying176 hi' hy0 hy1 hy2 rfl (by omega) (.slice la k lc) k (cps.flatMap colL) (by rfl) (HOB.out _ _ hb6) ⟨w6.heap.size, 0, none⟩ 1 1 [.int .i64 c.id, .string c.name, .slice va fl vc, .pointer (some ⟨cb, 0, none⟩)] (by rfl) (by rfl) (HNW.out w6 (some ⟨cb, 0, none⟩)) (H1C.out (some ⟨cb, 0, none⟩)) (by omega) hm1 hm2 (HM3.out _ _ hb6) (w6.heap.size + 1) (by simp) ?_; intro g cap w7 hown7 hg7 hat7 hlt7; obtain ⟨d5, d6⟩ := HE.out _ _ _ hb6 hg7) | (go_simp; go_at_call 153; refine (colNew_ok _ _ _ HOK.out).mono ?_; rintro e w6 ⟨cb, rfl, hcb, hblk, hb6⟩; have HCB := Lib.hid (show wc.heap.size ≤ cb ∧ w6.heap[cb]? = some (.cells #[.int .i64 (layPlanOf c.fields), .int .i64 most, .int .i64 0, .slice none 0 0] 223 (0, 0)) from ⟨hcb, hblk⟩); clear hcb hblk; obtain ⟨d0, d1, d2, d3, d4⟩ := HD.out _ hb6))
        all_goals
         have HST3 := Lib.hid (HFIN.out _ _ _ _ _ _ _ hb6 HCB.out hg7 hown7)
         clear hb6 hg7 hown7 d0 d1 d2 d3 d4 d5 d6 t0 t2 q0 q1 q2 q3 hat7 hlt7
         go_wp2_with fail
         go_roundw
         case rel =>
          have st := HST3.out
          refine ⟨k + 1, _, _, _, _, cps ++ [⟨c, va, fl, vc, cb⟩], by omega, by go_num, fun j y hj hy => ?_, st.s, st.t, by rw [List.flatMap_append]; exact st.comps, by rw [List.flatMap_append]; exact st.cols, st.ids, st.below, by rw [List.length_append, HCPS.out.1]; rfl, by rw [take_snoc HX.out, List.map_append, List.map_append, HCPS.out.2.1, List.map_cons, List.map_nil, HFC.out]; rfl, ?_, st.good⟩
          rotate_left
          ·rw [List.map_append, List.nodup_append]
           refine ⟨HCPS.out.2.2, by simp, fun x hx y hy => ?_⟩
           obtain ⟨z, hz, rfl⟩ := List.mem_map.1 hx
           obtain rfl : y = cb := by simpa using hy
           have h1 := lt_some (HST2.out.good z hz).2.blk
           have h2 := HCB.out.1
           omega
          by_cases hjk : j < k
          ·exact HALL.out j y hjk hy
          ·obtain rfl : j = k := by omega
           rw [HX.out] at hy; cases hy
           rw [HFC.out]; rfl
         case measure => simp [intOf]; omega
     ·obtain rfl : k = n := by omega
      have HT : Hid (tableOk ver cs set most = true) := Lib.hid (by
       unfold tableOk
       rw [HSC.out, HSI.out]
       have : ((idsTo set 24).all fun i => (findC i cs).isSome) = true := by
        rw [List.all_eq_true]
        intro x hx
        obtain ⟨j, hj⟩ := List.getElem?_of_mem hx
        exact HALL.out j x (by have := (List.getElem?_eq_some_iff.1 hj).1; have := HN.out; omega) hj
       rw [this]
       simp; omega)
      go_wp2_with fail
      go_returns
      unfold IsTable; rw [HT.out]
      exact ⟨w1.heap.size, rfl, hz1w, ⟨_, _, _, _, cps, ⟨by rw [HCPS.out.1]; exact hT, by rw [HCPS.out.1]; exact hca, by rw [HCPS.out.1]; exact hla, HGOOD.out, HCPS.out.2.2⟩, by rw [← HCPS.out.2.1, List.take_of_length_le (by have := HN.out; omega)]⟩, hbw⟩
 ·have e1 : (schemaCheck ver cs != 0) = true := by simp [hsc]
  have HT : Hid (tableOk ver cs set most = false) := Lib.hid (by simp [tableOk, hsc])
  clear hsc
  go_wp2_with fail
  go_returns
  unfold IsTable; rw [HT.out]; exact ⟨rfl, hbel1⟩
end Go.Proofs.YtgebbmfoamkfnaaGreatDoor
namespace Go.Proofs.YtgebbmfoamkfnaaGreatDoor
open Go.RowKit
set_option linter.unusedVariables false
theorem fieldsAt_row {w : World} {B : Nat} {va : Option Addr} {fl vc : Nat} {fs : List Fld} (h : w.ownsRow B 79 3 (.slice va fl vc) fl (fldCells fs)) (hl : fs.length = fl) (hm : fl ≤ maxLen) : FieldsAt w.heap.size w va fl fs :=
 (FieldsOn.of_row h hl hm).imp (fun b hb => ⟨by have := hb; omega, rfl⟩)
theorem row_cap {w : World} {B : Nat} {e : TypeId} {s : Nat} {va : Option Addr} {n vc : Nat} {xs : List Value} (h : w.ownsRow B e s (.slice va n vc) n xs) : n ≤ vc := by
 rcases h.2 with ⟨h1, h2⟩ | ⟨g, cap, cur, h1, _, _, h3, _⟩
 ·cases h1; exact Nat.le_refl _
 ·cases h1; exact h3
def cpF (cs : List Cmp) (p : PW) : Int := match findC p.comp cs with
 | some c => fitF c.fields p.val
 | none => 6
set_option maxRecDepth 100000 in
set_option maxHeartbeats 1000000 in
theorem checkPart_any (ver : Int) (cs : List Cmp) (a : Option Addr) (len cap : Nat) (p : PW) (w : World) (hcs : CompsAt w.heap.size w a len cs) (hf : ∀ c ∈ cs, c.fields.length ≤ 100000) (hv : IntsAt w.heap.size w p.va p.vl p.vc p.val) :
  Calls Tryz.prog 84 #[.agg #[.int .i64 ver, .slice a len cap], .agg #[.int .i64 p.comp, .slice p.va p.vl p.vc]] w fun e w' => e = .returned (.int .i64 (cpF cs p)) ∧ Below w.heap.size w w' := by
 have hw1 := heap_alloc_new w (.cells #[.int .i64 ver, .slice a len cap] 24)
 have hw2 := keepA (.cells #[.int .i64 p.comp, .slice p.va p.vl p.vc] 85) hw1
 have hw3 := heap_alloc_new (w.alloc (.cells #[.int .i64 ver, .slice a len cap] 24)) (.cells #[.int .i64 p.comp, .slice p.va p.vl p.vc] 85)
 have hb0 : Below w.heap.size w ((w.alloc (.cells #[.int .i64 ver, .slice a len cap] 24)).alloc (.cells #[.int .i64 p.comp, .slice p.va p.vl p.vc] 85)) := by go_grown
 rw [World.size_alloc] at hw3
 have HV := Lib.hid hv
 have HCS := Lib.hid (And.intro hcs hf)
 have HB := Lib.hid (And.intro hw2 (And.intro hw3 hb0))
 clear hw1 hw2 hw3 hb0 hcs hf hv
 go_enter Tryz.func84, Tryz.ntmps84
 go_wp2_with fail
 refine (Find_any ver p.comp cs a len cap _ ((HCS.out.1.below HB.out.2.2).mono HB.out.2.2.size) HCS.out.2).mono ?_
 intro e w1 h
 generalize (w.alloc (.cells #[.int .i64 ver, .slice a len cap] 24)).alloc (.cells #[.int .i64 p.comp, .slice p.va p.vl p.vc] 85) = W at *
 have hzW := HB.out.2.2.size
 unfold IsFind at h
 cases hfc : findC p.comp cs with
 | none =>
  rw [hfc] at h
  obtain ⟨rfl, hb1⟩ := h
  have HR := Lib.hid (show (6 : Int) = cpF cs p by unfold cpF; rw [hfc])
  have HB1 := Lib.hid (HB.out.2.2.trans (hb1.mono hzW))
  have hz1 := hb1.size
  clear hfc hb1
  go_wp2_with fail
  go_returns
  exact ⟨ret_intk HR.out, HB1.out.alloc (by omega) _⟩
 | some c =>
  rw [hfc] at h
  obtain ⟨va, fl, vc, rfl, hrow, _, hb1⟩ := h
  have HR := Lib.hid (show fitF c.fields p.val = cpF cs p by unfold cpF; rw [hfc])
  have hz1 := hb1.size
  have hq := keep hb1 HB.out.2.1
  have hq2 := lt_some hq
  have c1 := cell_at hq 1
  simp at c1
  have hbA := HB.out.2.2.trans (hb1.mono hzW)
  have hfa := fieldsAt_row (hrow.1.alloc (.cells #[.int .i64 c.id, .string c.name, .slice va fl vc] 82)) hrow.2.1 hrow.2.2
  have hia := (HV.out.below (hbA.alloc (by omega) (.cells #[.int .i64 c.id, .string c.name, .slice va fl vc] 82))).mono (show w.heap.size ≤ (w1.alloc (.cells #[.int .i64 c.id, .string c.name, .slice va fl vc] 82)).heap.size by simp; omega)
  have HFA := Lib.hid hfa
  have HIA := Lib.hid hia
  have HCAP := Lib.hid (row_cap hrow.1)
  have HBA := Lib.hid hbA
  clear hfc hb1 hq hfa hia hrow hbA
  go_wp2_with fail
  refine (fit_any c.fields _ _ _ _ _ _ p.val _ HFA.out HCAP.out HIA.out).mono ?_
  rintro e w3 ⟨rfl, hb3⟩
  rw [HR.out]
  have HB3 := Lib.hid ((HBA.out.alloc (by omega) _).trans (hb3.mono (by simp; omega)))
  clear hb3
  go_wp2_with fail
  go_returns
  exact ⟨rfl, HB3.out⟩
end Go.Proofs.YtgebbmfoamkfnaaGreatDoor
