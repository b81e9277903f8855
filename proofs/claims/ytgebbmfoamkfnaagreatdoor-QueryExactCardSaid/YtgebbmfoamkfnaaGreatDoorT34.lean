/- A world in memory: its index, its graph with the tables' rows, its map of places; frames. · A world's memory: the map of places; deeds of the graph. · A world: its memory, who is where, and what that comes to. · What each of a world's calls answers, and leaves: plain. · The index: Free, Alive, Spawn, Kill. -/
import Derived.Test.YtgebbmfoamkfnaaGreatDoorT33
import Derived.Test.YtgebbmfoamkfnaaGreatDoorT24
import Derived.Test.YtgebbmfoamkfnaaGreatDoorT26
import Derived.Test.YtgebbmfoamkfnaaGreatDoorT25
import Derived.Test.YtgebbmfoamkfnaaGreatDoorT27
namespace Go.Proofs.YtgebbmfoamkfnaaGreatDoor
open Go.RowKit
open Go.Maps (Keyed IsMap Tidy int_keyed keyOf_int_mk)
set_option linter.unusedVariables false
def KIn (w : World) (b : Nat) (l : List TypeId) : Prop := ∃ cs ty fr, w.heap[b]? = some (.cells cs ty fr) ∧ ty ∈ l
def IsMapB (w : World) (b : Nat) : Prop := ∃ es c, w.heap[b]? = some (.map es c)
theorem KIn.ne {w : World} {b : Nat} {l m : List TypeId} (h : KIn w b l) (k : KIn w b m) (hd : ∀ x ∈ l, x ∉ m) : False := by
 obtain ⟨cs, ty, fr, h1, h2⟩ := h
 obtain ⟨cs', ty', fr', k1, k2⟩ := k
 rw [h1] at k1
 cases k1
 exact hd _ h2 k2
theorem KIn.ne_map {w : World} {b : Nat} {l : List TypeId} (h : KIn w b l) (k : IsMapB w b) : False := by
 obtain ⟨cs, ty, fr, h1, h2⟩ := h
 obtain ⟨es, c, k1⟩ := k
 rw [h1] at k1
 cases k1
theorem KIn.mono {w : World} {b : Nat} {l m : List TypeId} (h : KIn w b l) (hd : ∀ x ∈ l, x ∈ m) : KIn w b m := by
 obtain ⟨cs, ty, fr, h1, h2⟩ := h
 exact ⟨cs, ty, fr, h1, hd _ h2⟩
theorem KIn.mut {w : World} {b : Nat} {l : List TypeId} (h : KIn w b l) (hd : ∀ x ∈ l, x ≠ 82 ∧ x ≠ 181 ∧ x ≠ 79) : Mut w b := by
 obtain ⟨cs, ty, fr, h1, h2⟩ := h
 obtain ⟨n1, n2, n3⟩ := hd _ h2
 exact mut_of h1 n1 n2 n3
theorem IsMapB.mut {w : World} {b : Nat} (h : IsMapB w b) : Mut w b := by
 obtain ⟨es, c, h1⟩ := h
 intro cs t fr h2
 rw [h1] at h2
 cases h2
def xK : List TypeId := [161, 3, 4]
def gK : List TypeId := [167, 118]
def tK : List TypeId := [178, 50, 223, 156, 5]
def wK : List TypeId := [111]
theorem TabIn.kin {w : World} {t : TD} (h : TabIn 0 w t) {b : Nat} (hb : t.foot b) : KIn w b tK := by
 obtain ⟨cs, ty, fr, hh, ht⟩ := h.foot_fty hb
 exact ⟨cs, ty, fr, hh, by rcases ht with h | h | h | h | h <;> subst h <;> decide⟩
theorem XIn.kin {w : World} {x : XD} (h : XIn w x) {b : Nat} (hb : x.foot b) : KIn w b xK := by
 rcases hb with rfl | hb | hb | hb
 ·exact ⟨_, _, _, h.blk, by decide⟩
 ·obtain ⟨cur, hh⟩ := row_type h.gensR hb
  exact ⟨_, _, _, hh, by decide⟩
 ·obtain ⟨cur, hh⟩ := row_type h.livesR hb
  exact ⟨_, _, _, hh, by decide⟩
 ·obtain ⟨cur, hh⟩ := row_type h.freeR hb
  exact ⟨_, _, _, hh, by decide⟩
section
variable {B1 gb : Nat} {g : GS} {w w' : World} {mb wb : Nat} {ta : Option Addr} {tc : Nat} {F : Nat → Prop}
theorem Graph.kin (h : Graph B1 gb g mb wb ta tc w) {b : Nat} (hb : gfoot gb mb wb ta b) : KIn w b gK ∨ (IsMapB w b ∧ (b = mb ∨ b = wb)) := by
 obtain ⟨ca, cl, cc, bs, ws, h⟩ := h
 rcases hb with rfl | rfl | rfl | hr
 ·exact .inl ⟨_, _, _, h.blk, by decide⟩
 ·exact .inr ⟨h.bySet.obj, .inl rfl⟩
 ·exact .inr ⟨h.byWay.obj, .inr rfl⟩
 ·obtain ⟨cur, hh⟩ := row_type h.row ((ownBlock_slice ta g.ts.length tc 0 0).trans hr)
  exact .inl ⟨_, _, _, hh, by decide⟩
theorem keepsTy_mut (ho : Out F w w') (hM : ∀ b, F b → Mut w b) : KeepsTy w w' := by
 intro b c e fz hb he
 refine ho.keep hb (fun hf => ?_)
 obtain ⟨n1, n2, n3⟩ := hM b hf _ _ _ hb
 rcases he with rfl | rfl
 ·exact n1 rfl
 ·exact n3 rfl
theorem Graph.outM (h : Graph B1 gb g mb wb ta tc w) (ho : Out F w w') (hno : ∀ b, gfoot gb mb wb ta b → ¬ F b) (hM : ∀ b, F b → Mut w b) (hs : ∀ t ∈ g.ts, SigAt w' t.1 t.2) : Graph B1 gb g mb wb ta tc w' := by
 obtain ⟨ca, cl, cc, bs, ws, h⟩ := h
 have hty := keepsTy_mut ho hM
 refine ⟨ca, cl, cc, bs, ws, { h with
  blk := ho.keep h.blk (hno _ (.inl rfl))
  comps := (h.comps.ty h.cty hty).mono ho.size
  cty := h.cty.hk hty
  row := ownsRow_out h.row ho (fun x hx => hno x (.inr (.inr (.inr ((ownBlock_slice ta 0 0 g.ts.length tc).trans hx)))))
  bySet := h.bySet.out ho (hno _ (.inr (.inl rfl)))
  byWay := h.byWay.out ho (hno _ (.inr (.inr (.inl rfl))))
  tab := fun t ht => ⟨hs t ht, (h.tab t ht).2⟩
  wf := ⟨h.wf.1, h.wf.2.1, h.wf.2.2.1, h.wf.2.2.2.1, h.wf.2.2.2.2.1, Nat.le_trans h.wf.2.2.2.2.2.1 ho.size, h.wf.2.2.2.2.2.2⟩ }⟩
theorem Graph.mono0 (h : Graph B1 gb g mb wb ta tc w) : Graph 0 gb g mb wb ta tc w := by
 obtain ⟨ca, cl, cc, bs, ws, h⟩ := h
 exact ⟨ca, cl, cc, bs, ws, { h with
  bg := Nat.zero_le _
  bm := Nat.zero_le _
  bw := Nat.zero_le _
  row := ownsRow_mono h.row (Nat.zero_le _)
  wf := ⟨h.wf.1, h.wf.2.1, h.wf.2.2.1, h.wf.2.2.2.1, h.wf.2.2.2.2.1, Nat.zero_le _, h.wf.2.2.2.2.2.2⟩
  tlo := fun _ _ => Nat.zero_le _ }⟩
end
def Pl.rowI (p : Pl) : Int := match p.row with | some r => (r : Int) | none => -1
def plV (p : Pl) : Value := .agg #[.int .i64 (p.tab : Int), .int .i64 p.rowI]
def AtM (w : World) (ab : Nat) (pl : Int → Option Pl) (n : Nat) : Prop := ∃ f, MapV Tryz.prog w 50 ab n f ∧ ∀ e, 0 ≤ e → e < 18446744073709551616 → f (.int .u64 e) = (pl e).map plV
theorem AtM.out {w w' : World} {ab : Nat} {pl : Int → Option Pl} {n : Nat} {F : Nat → Prop} (h : AtM w ab pl n) (ho : Out F w w') (hn : ¬ F ab) : AtM w' ab pl n := by
 obtain ⟨f, h1, h2⟩ := h
 exact ⟨f, h1.out ho hn, h2⟩
theorem AtM.obj {w : World} {ab : Nat} {pl : Int → Option Pl} {n : Nat} (h : AtM w ab pl n) : IsMapB w ab := by
 obtain ⟨f, h1, h2⟩ := h
 exact h1.obj
structure CapsD where
 ents : Int
 rows : Int
 archs : Int
 cmds : Int
 fuel : Int
 gens : Int
structure WD where
 wb : Nat
 caps : CapsD
 x : XD
 gb : Nat
 mb : Nat
 wmb : Nat
 ta : Option Addr
 tc : Nat
 g : GS
 T : List TD
 V : List (List (List (List WI)))
 ab : Nat
 pl : Int → Option Pl
def WD.foot (d : WD) (b : Nat) : Prop := b = d.wb ∨ b = d.ab ∨ d.x.foot b ∨ gfoot d.gb d.mb d.wmb d.ta b ∨ ∃ t ∈ d.T, t.foot b
def PTof (t : TD) (v : List (List (List WI))) : PT := ⟨t.set, t.ents, t.kept, v⟩
def WD.P (d : WD) : PS := ⟨List.zipWith PTof d.T d.V, d.pl⟩
structure WRaw (w : World) (d : WD) (n : Nat) : Prop where
 blk : w.heap[d.wb]? = some (.cells #[.int .i64 d.caps.ents, .int .i64 d.caps.rows, .int .i64 d.caps.archs, .int .i64 d.caps.cmds, .int .i64 d.caps.fuel, .int .i64 d.caps.gens, .pointer (some ⟨d.x.xb, 0, none⟩), .pointer (some ⟨d.gb, 0, none⟩), .map (some d.ab)] 111 (0, 0))
 ix : XIn w d.x
 gr : Graph 0 d.gb d.g d.mb d.wmb d.ta d.tc w
 tabs : Tabs 0 d.g d.T w
 vlen : d.V.length = d.T.length
 vals : ∀ (i : Nat) t v, d.T[i]? = some t → d.V[i]? = some v → Vals t v
 atm : AtM w d.ab d.pl n
 ne1 : d.ab ≠ d.mb
 ne2 : d.ab ≠ d.wmb
section
variable {w w' : World} {d : WD} {n : Nat} {F : Nat → Prop}
theorem WRaw.kin (h : WRaw w d n) {b : Nat} (hb : d.foot b) : KIn w b (wK ++ xK ++ gK ++ tK) ∨ IsMapB w b := by
 rcases hb with rfl | rfl | hb | hb | ⟨t, ht, hb⟩
 ·exact .inl ⟨_, _, _, h.blk, by decide⟩
 ·exact .inr h.atm.obj
 ·exact .inl ((h.ix.kin hb).mono (by decide))
 ·rcases h.gr.kin hb with k | ⟨k, _⟩
  ·exact .inl (k.mono (by decide))
  ·exact .inr k
 ·exact .inl (((h.tabs.tab t ht).kin hb).mono (by decide))
theorem WRaw.mut (h : WRaw w d n) {b : Nat} (hb : d.foot b) : Mut w b := by
 rcases h.kin hb with k | k
 ·exact k.mut (by decide)
 ·exact k.mut
theorem WRaw.lt (h : WRaw w d n) {b : Nat} (hb : d.foot b) : b < w.heap.size := by
 rcases h.kin hb with ⟨_, _, _, k, _⟩ | ⟨_, _, k⟩ <;> exact lt_some k
theorem WRaw.out (h : WRaw w d n) (ho : Out F w w') (hF : ∀ b, d.foot b → ¬ F b) (hM : ∀ b, F b → Mut w b) : WRaw w' d n := by
 have hT := h.tabs.out ho (fun b hb t ht hf => hF b (.inr (.inr (.inr (.inr ⟨t, ht, hf⟩)))) hb) hM
 exact { h with
  blk := ho.keep h.blk (hF _ (.inl rfl))
  ix := h.ix.out ho (fun b hb => hF b (.inr (.inr (.inl hb))))
  gr := h.gr.outM ho (fun b hb => hF b (.inr (.inr (.inr (.inl hb))))) hM hT.sigAt
  tabs := hT
  atm := h.atm.out ho (hF _ (.inr (.inl rfl))) }
theorem WRaw.below (h : WRaw w d n) (hb : Below w.heap.size w w') : WRaw w' d n := h.out (F := fun _ => False) (Out.of hb) (fun _ _ => id) (fun _ => False.elim)
theorem WRaw.ab_x (h : WRaw w d n) : ¬ d.x.foot d.ab := fun hb => (h.ix.kin hb).ne_map h.atm.obj
theorem WRaw.ab_t (h : WRaw w d n) {t : TD} (ht : t ∈ d.T) : ¬ t.foot d.ab := fun hb => ((h.tabs.tab t ht).kin hb).ne_map h.atm.obj
theorem WRaw.ab_g (h : WRaw w d n) : ¬ gfoot d.gb d.mb d.wmb d.ta d.ab := fun hb => by
 rcases h.gr.kin hb with k | ⟨_, k | k⟩
 ·exact k.ne_map h.atm.obj
 ·exact h.ne1 k
 ·exact h.ne2 k
theorem WRaw.wb_k (h : WRaw w d n) : KIn w d.wb wK := ⟨_, _, _, h.blk, by decide⟩
theorem WRaw.wb_x (h : WRaw w d n) : ¬ d.x.foot d.wb := fun hb => (h.ix.kin hb).ne h.wb_k (by decide)
theorem WRaw.wb_t (h : WRaw w d n) {t : TD} (ht : t ∈ d.T) : ¬ t.foot d.wb := fun hb => ((h.tabs.tab t ht).kin hb).ne h.wb_k (by decide)
theorem WRaw.wb_g (h : WRaw w d n) : ¬ gfoot d.gb d.mb d.wmb d.ta d.wb := fun hb => by
 rcases h.gr.kin hb with k | ⟨k, _⟩
 ·exact k.ne h.wb_k (by decide)
 ·exact h.wb_k.ne_map k
theorem WRaw.wb_ab (h : WRaw w d n) : d.wb ≠ d.ab := fun e => h.wb_k.ne_map (e ▸ h.atm.obj)
theorem WRaw.x_g (h : WRaw w d n) {b : Nat} (hb : d.x.foot b) : ¬ gfoot d.gb d.mb d.wmb d.ta b := fun hg => by
 rcases h.gr.kin hg with k | ⟨k, _⟩
 ·exact (h.ix.kin hb).ne k (by decide)
 ·exact (h.ix.kin hb).ne_map k
theorem WRaw.x_t (h : WRaw w d n) {b : Nat} (hb : d.x.foot b) {t : TD} (ht : t ∈ d.T) : ¬ t.foot b := fun hg => (h.ix.kin hb).ne ((h.tabs.tab t ht).kin hg) (by decide)
theorem WRaw.g_t (h : WRaw w d n) {b : Nat} (hb : gfoot d.gb d.mb d.wmb d.ta b) {t : TD} (ht : t ∈ d.T) : ¬ t.foot b := fun hg => by
 rcases h.gr.kin hb with k | ⟨k, _⟩
 ·exact ((h.tabs.tab t ht).kin hg).ne k (by decide)
 ·exact ((h.tabs.tab t ht).kin hg).ne_map k
end
structure WFr (d d' : WD) (w w' : World) : Prop where
 wb : d'.wb = d.wb
 out : Out d.foot w w'
 foot : ∀ b, d'.foot b → d.foot b ∨ w.heap.size ≤ b
theorem WFr.trans {d d1 d2 : WD} {a b c : World} (h : WFr d d1 a b) (k : WFr d1 d2 b c) : WFr d d2 a c :=
 ⟨k.wb.trans h.wb, h.out.trans k.out h.foot, fun x hx => (k.foot x hx).elim (h.foot x) fun hb => .inr (Nat.le_trans h.out.size hb)⟩
theorem WFr.of_below {d : WD} {w w' : World} (h : Below w.heap.size w w') : WFr d d w w' := ⟨rfl, Out.of h, fun _ => .inl⟩
section
variable {w w' : World} {d : WD} {n : Nat}
theorem WRaw.tdeed (h : WRaw w d n) {i : Nat} {t t' : TD} {v' : List (List (List WI))} (hi : d.T[i]? = some t) (hd : TDeed 0 t t' w w') (hv : Vals t' v') : WRaw w' { d with T := d.T.set i t', V := d.V.set i v' } n ∧ WFr d { d with T := d.T.set i t', V := d.V.set i v' } w w' := by
 have htm := List.mem_of_getElem? hi
 have hT := h.tabs.put hi hd
 have hM : ∀ b, t.foot b → Mut w b := fun b hb => ((h.tabs.tab t htm).foot_fty hb).mut
 refine ⟨{ h with
  blk := hd.out.keep h.blk (h.wb_t htm)
  ix := h.ix.out hd.out (fun b hb => h.x_t hb htm)
  gr := h.gr.outM hd.out (fun b hb => h.g_t hb htm) hM hT.sigAt
  tabs := hT
  vlen := by simp [h.vlen]
  vals := ?_
  atm := h.atm.out hd.out (h.ab_t htm) }, rfl, hd.out.mono (fun b hb => .inl (.inr (.inr (.inr (.inr ⟨t, htm, hb⟩))))), ?_⟩
 ·intro j u v hu hvj
  rcases set_some hu with ⟨rfl, rfl, _⟩ | ⟨hj, hu⟩
  ·rcases set_some hvj with ⟨_, rfl, _⟩ | ⟨hj, _⟩
   ·exact hv
   ·exact absurd rfl hj
  ·rw [set_other hj] at hvj
   exact h.vals j u v hu hvj
 ·rintro b (hb | hb | hb | hb | ⟨u, hu, hb⟩)
  ·exact .inl (.inl hb)
  ·exact .inl (.inr (.inl hb))
  ·exact .inl (.inr (.inr (.inl hb)))
  ·exact .inl (.inr (.inr (.inr (.inl hb))))
  ·rcases List.mem_or_eq_of_mem_set hu with hu | rfl
   ·exact .inl (.inr (.inr (.inr (.inr ⟨u, hu, hb⟩))))
   ·exact (hd.foot b hb).imp (fun hb => .inr (.inr (.inr (.inr ⟨t, htm, hb⟩)))) id
theorem WRaw.xdeed (h : WRaw w d n) {x' : XD} (hx : XIn w' x') (hb : x'.xb = d.x.xb) (ho : Out d.x.foot w w') (hf : ∀ b, x'.foot b → d.x.foot b ∨ w.heap.size ≤ b) : WRaw w' { d with x := x' } n ∧ WFr d { d with x := x' } w w' := by
 have hM : ∀ b, d.x.foot b → Mut w b := fun b hb => (h.ix.kin hb).mut (by decide)
 have hT := h.tabs.out ho (fun b hb t ht hg => h.x_t hb ht hg) hM
 refine ⟨{ h with
  blk := by rw [hb]; exact ho.keep h.blk h.wb_x
  ix := hx
  gr := h.gr.outM ho (fun b hg hb => h.x_g hb hg) hM hT.sigAt
  tabs := hT
  atm := h.atm.out ho h.ab_x }, rfl, ho.mono (fun b hb => .inl (.inr (.inr (.inl hb)))), ?_⟩
 rintro b (hb | hb | hb | hb | hb)
 ·exact .inl (.inl hb)
 ·exact .inl (.inr (.inl hb))
 ·exact (hf b hb).imp (fun hb => .inr (.inr (.inl hb))) id
 ·exact .inl (.inr (.inr (.inr (.inl hb))))
 ·exact .inl (.inr (.inr (.inr (.inr hb))))
theorem WRaw.adeed (h : WRaw w d n) {pl' : Int → Option Pl} {n' : Nat} (ha : AtM w' d.ab pl' n') (hg : w.grownBy w' (some d.ab)) : WRaw w' { d with pl := pl' } n' ∧ WFr d { d with pl := pl' } w w' := by
 have ho : Out (fun b => b = d.ab) w w' := ⟨hg.os, hg.tape, hg.output, hg.size, fun i hi hn => hg.block i hi (fun e => hn (by cases e; rfl))⟩
 have hM : ∀ b, b = d.ab → Mut w b := fun b hb => by subst hb; exact h.atm.obj.mut
 have hT := h.tabs.out ho (fun b hb t ht hf => by subst hb; exact h.ab_t ht hf) hM
 refine ⟨{ h with
  blk := ho.keep h.blk h.wb_ab
  ix := h.ix.out ho (fun b hb e => by subst e; exact h.ab_x hb)
  gr := h.gr.outM ho (fun b hb e => by subst e; exact h.ab_g hb) hM hT.sigAt
  tabs := hT
  atm := ha }, rfl, ho.mono (fun b hb => .inl (.inr (.inl hb))), fun b hb => .inl hb⟩
end
end Go.Proofs.YtgebbmfoamkfnaaGreatDoor
namespace Go.Proofs.YtgebbmfoamkfnaaGreatDoor
open Go.RowKit
open Go.Maps (Keyed IsMap Tidy int_keyed keyOf_int_mk)
set_option linter.unusedVariables false
theorem Tryz.lawE : Keyed Tryz.prog 50 := int_keyed Tryz.underlying50
theorem Tryz.zeroPl (w : World) : (zeroValue 122).run Tryz.prog w = .ok (.agg #[.int .i64 0, .int .i64 0]) w := by kernel_rfl
theorem key_e {e : Int} (h0 : 0 ≤ e) (h1 : e < 18446744073709551616) : keyOf Tryz.prog 50 (.int .u64 e) = some (.int .u64 e) :=
 keyOf_int_mk Tryz.underlying50 (by simp [Lit.wf, IntKind.min, IntKind.max, IntKind.signed, IntKind.bits]; omega)
def atV (pl : Int → Option Pl) (e : Int) : Value := match pl e with | some p => plV p | none => .agg #[.int .i64 0, .int .i64 0]
section
variable {w : World} {ab n : Nat} {pl : Int → Option Pl} {e : Int}
theorem AtM.look (h : AtM w ab pl n) (h0 : 0 ≤ e) (h1 : e < 18446744073709551616) : (Instr.lookup 109 (.map (some ab)) (.int .u64 e) false).run Tryz.prog w = .ok (atV pl e) w := by
 obtain ⟨f, hM, hf⟩ := h
 rw [hM.look Tryz.lawE Tryz.underlying109 Tryz.zeroPl (key_e h0 h1), hf e h0 h1]
 unfold atV
 cases pl e <;> rfl
theorem AtM.store (h : AtM w ab pl n) (hn : n < 1000000) (h0 : 0 ≤ e) (h1 : e < 18446744073709551616) (p : Pl) :
  ∃ w', (Instr.mapUpdate 109 (.map (some ab)) (.int .u64 e) (plV p)).run Tryz.prog w = .ok () w' ∧ AtM w' ab (updP pl e (some p)) (if (pl e).isSome then n else n + 1) ∧ w.grownBy w' (some ab) ∧ w'.heap.size = w.heap.size := by
 obtain ⟨f, hM, hf⟩ := h
 obtain ⟨w', hrun, hM', hg, hz⟩ := hM.store (val := plV p) Tryz.lawE Tryz.underlying109 (by unfold maxLen; omega) (key_e h0 h1)
 refine ⟨w', hrun, ⟨putV f (.int .u64 e) (plV p), ?_, fun x x0 x1 => ?_⟩, hg, hz⟩
 ·rw [hf e h0 h1, Option.isSome_map] at hM'
  exact hM'
 ·by_cases hx : x = e
  ·subst hx; rw [putV_same, updP_same]; rfl
  ·rw [putV_ne (by simpa using hx), updP_ne hx]; exact hf x x0 x1
theorem AtM.drop (h : AtM w ab pl n) (h0 : 0 ≤ e) (h1 : e < 18446744073709551616) (ty : TypeId) :
  ∃ w', (Builtin.delete_ #[109, 50] ty #[.map (some ab), .int .u64 e]).run Tryz.prog w = .ok (.tuple #[]) w' ∧ AtM w' ab (updP pl e none) (if (pl e).isSome then n - 1 else n) ∧ w.grownBy w' (some ab) ∧ w'.heap.size = w.heap.size := by
 obtain ⟨f, hM, hf⟩ := h
 obtain ⟨w', hrun, hM', hg, hz⟩ := hM.drop (key := .int .u64 e) Tryz.lawE Tryz.underlying109 (key_e h0 h1) ty
 refine ⟨w', hrun, ⟨delV f (.int .u64 e), ?_, fun x x0 x1 => ?_⟩, hg, hz⟩
 ·rw [hf e h0 h1, Option.isSome_map] at hM'
  exact hM'
 ·by_cases hx : x = e
  ·subst hx; rw [delV_same, updP_same]; rfl
  ·rw [delV_ne (by simpa using hx), updP_ne hx]; exact hf x x0 x1
end
theorem Tabs.congr {B : Nat} {g g' : GS} {T : List TD} {w : World} (h : Tabs B g T w) (hts : g'.ts = g.ts) (hg : g'.ver = g.ver ∧ g'.rows = g.rows ∧ g'.cs = g.cs) : Tabs B g' T w :=
 ⟨h.ts.trans hts.symm, h.tab, fun t ht => by rw [hg.1, hg.2.1, hg.2.2]; exact h.like t ht, h.apart⟩
section
variable {w w' : World} {d : WD} {n : Nat}
theorem WRaw.gmut (h : WRaw w d n) {b : Nat} (hb : gfoot d.gb d.mb d.wmb d.ta b) : Mut w b := h.mut (.inr (.inr (.inr (.inl hb))))
theorem WRaw.gold (h : WRaw w d n) {g' : GS} {ta' : Option Addr} {tc' : Nat} (hg : Graph 0 d.gb g' d.mb d.wmb ta' tc' w') (ho : GOut d.gb d.mb d.wmb d.ta ta' w w') (hs : g'.ver = d.g.ver ∧ g'.rows = d.g.rows ∧ g'.cs = d.g.cs) (hts : g'.ts = d.g.ts) :
  WRaw w' { d with g := g', ta := ta', tc := tc' } n ∧ WFr d { d with g := g', ta := ta', tc := tc' } w w' := by
 have hT := h.tabs.out ho.1 (fun b hb t ht => h.g_t hb ht) (fun b hb => h.gmut hb)
 refine ⟨{ h with
  blk := ho.1.keep h.blk h.wb_g
  ix := h.ix.out ho.1 (fun b hb => h.x_g hb)
  gr := hg
  tabs := hT.congr hts hs
  atm := h.atm.out ho.1 h.ab_g }, rfl, ho.1.mono (fun b hb => .inl (.inr (.inr (.inr (.inl hb))))), ?_⟩
 rintro b (hb | hb | hb | hb | hb)
 ·exact .inl (.inl hb)
 ·exact .inl (.inr (.inl hb))
 ·exact .inl (.inr (.inr (.inl hb)))
 ·exact (ho.2 b hb).imp (fun hb => .inr (.inr (.inr (.inl hb)))) id
 ·exact .inl (.inr (.inr (.inr (.inr hb))))
theorem WRaw.gnew (h : WRaw w d n) {g' : GS} {ta' : Option Addr} {tc' : Nat} (hg : Graph 0 d.gb g' d.mb d.wmb ta' tc' w') (ho : GOut d.gb d.mb d.wmb d.ta ta' w w') (hs : g'.ver = d.g.ver ∧ g'.rows = d.g.rows ∧ g'.cs = d.g.cs) {tb : Nat} {set : Int} (hts : g'.ts = d.g.ts ++ [(tb, set)])
  (hN : TableNew w' tb d.g.ver d.g.cs set d.g.rows) (hlo : w.heap.size ≤ tb) (hok : tableOk d.g.ver d.g.cs set d.g.rows = true) (h0 : 0 ≤ set) (h1 : set ≤ 4294967295) {most : Nat} (hm : d.g.rows = (most : Int)) :
  ∃ t, WRaw w' { d with g := g', ta := ta', tc := tc', T := d.T ++ [t], V := d.V ++ [[]] } n ∧ WFr d { d with g := g', ta := ta', tc := tc', T := d.T ++ [t], V := d.V ++ [[]] } w w' ∧ t.tb = tb ∧ t.set = set ∧ t.kept = 0 ∧ t.ents = [] ∧ t.most = most := by
 have hT := h.tabs.out ho.1 (fun b hb t ht => h.g_t hb ht) (fun b hb => h.gmut hb)
 obtain ⟨t, hT', e1, e2, e3, e4, e5, hge⟩ := h.tabs.snoc hm hN hok h0 h1 (Nat.zero_le _) hlo hT ⟨hts, hs⟩
 refine ⟨t, { h with
  blk := ho.1.keep h.blk h.wb_g
  ix := h.ix.out ho.1 (fun b hb => h.x_g hb)
  gr := hg
  tabs := hT'
  vlen := by simp [h.vlen]
  vals := ?_
  atm := h.atm.out ho.1 h.ab_g }, ⟨rfl, ho.1.mono (fun b hb => .inl (.inr (.inr (.inr (.inl hb))))), ?_⟩, e1, e2, e3, e4, e5⟩
 ·intro i u v hu hv
  have hvl := h.vlen
  rcases Nat.lt_or_ge i d.T.length with hlt | hge
  ·rw [List.getElem?_append_left hlt] at hu
   rw [List.getElem?_append_left (by omega)] at hv
   exact h.vals i u v hu hv
  ·have hul := (List.getElem?_eq_some_iff.1 hu).1
   rw [List.length_append] at hul
   have hul2 : i < d.T.length + 1 := hul
   obtain rfl : i = d.T.length := by omega
   rw [List.getElem?_append_right (Nat.le_refl _), Nat.sub_self] at hu
   rw [List.getElem?_append_right (by omega), show d.T.length - d.V.length = 0 by omega] at hv
   simp at hu hv
   subst hu; subst hv
   exact Vals.new e4
 ·rintro b (hb | hb | hb | hb | ⟨u, hu, hb⟩)
  ·exact .inl (.inl hb)
  ·exact .inl (.inr (.inl hb))
  ·exact .inl (.inr (.inr (.inl hb)))
  ·exact (ho.2 b hb).imp (fun hb => .inr (.inr (.inr (.inl hb)))) id
  ·rcases List.mem_append.1 hu with hu | hu
   ·exact .inl (.inr (.inr (.inr (.inr ⟨u, hu, hb⟩))))
   ·obtain rfl : u = t := by simpa using hu
    exact .inr (hge b hb)
end
end Go.Proofs.YtgebbmfoamkfnaaGreatDoor
namespace Go.Proofs.YtgebbmfoamkfnaaGreatDoor
open Go.RowKit
set_option linter.unusedVariables false
structure WS where
 caps : CapsD
 ver : Int
 cs : List Cmp
 ix : IX
 sets : List Int
 who : Int → Option Who
def WD.S (d : WD) : WS := ⟨d.caps, d.g.ver, d.g.cs, d.x.ix, d.g.sigs, d.P.who⟩
def updW (f : Int → Option Who) (e : Int) (x : Option Who) : Int → Option Who := fun y => if y = e then x else f y
structure CapsOk (c : CapsD) : Prop where
 ents : 1 ≤ c.ents ∧ c.ents ≤ 256
 rows : 1 ≤ c.rows ∧ c.rows ≤ 256
 archs : 1 ≤ c.archs ∧ c.archs ≤ 64
 cmds : 0 ≤ c.cmds ∧ c.cmds ≤ 64
 fuel : 0 ≤ c.fuel ∧ c.fuel ≤ 4096
 gens : 1 ≤ c.gens ∧ c.gens ≤ 65535
structure WMid (w : World) (d : WD) (L : List Int) (N : Nat) : Prop where
 raw : WRaw w d L.length
 ok : d.P.Ok L
 inv : Inv d.g
 nw : d.g.nw ≤ N
 archs : d.g.archs = d.caps.archs
 rows : d.g.rows = d.caps.rows
 gens : d.x.ix.most = d.caps.gens
 ents : (d.x.ix.gens.length : Int) = d.caps.ents + 1
 sch : schemaCheck d.g.ver d.g.cs = 0
 caps : CapsOk d.caps
 lbd : L.length ≤ 257
def WIn (w : World) (d : WD) (N : Nat) : Prop := WMid w d d.x.ix.liveL N
section
variable {w w' : World} {d : WD} {L : List Int} {N : Nat}
theorem WMid.out {F : Nat → Prop} (h : WMid w d L N) (ho : Out F w w') (hF : ∀ b, d.foot b → ¬ F b) (hM : ∀ b, F b → Mut w b) : WMid w' d L N := { h with raw := h.raw.out ho hF hM }
theorem WMid.below (h : WMid w d L N) (hb : Below w.heap.size w w') : WMid w' d L N := { h with raw := h.raw.below hb }
theorem WIn.below (h : WIn w d N) (hb : Below w.heap.size w w') : WIn w' d N := WMid.below h hb
theorem WMid.mono {M : Nat} (h : WMid w d L N) (hm : N ≤ M) : WMid w d L M := { h with nw := Nat.le_trans h.nw hm }
theorem tabs_at {d : WD} {i : Nat} {t : TD} {v : List (List (List WI))} (ht : d.T[i]? = some t) (hv : d.V[i]? = some v) : d.P.tabs[i]? = some (PTof t v) := by
 show (List.zipWith PTof d.T d.V)[i]? = _
 rw [List.getElem?_zipWith, ht, hv]
theorem tabs_of {d : WD} {i : Nat} {u : PT} (h : d.P.tabs[i]? = some u) : ∃ t v, d.T[i]? = some t ∧ d.V[i]? = some v ∧ u = PTof t v := by
 have h : (List.zipWith PTof d.T d.V)[i]? = some u := h
 rw [List.getElem?_zipWith] at h
 cases ht : d.T[i]? with
 | none => rw [ht] at h; simp at h
 | some t =>
  cases hv : d.V[i]? with
  | none => rw [ht, hv] at h; simp at h
  | some v =>
   rw [ht, hv] at h
   exact ⟨t, v, rfl, rfl, by simpa using h.symm⟩
theorem zip_set {T : List TD} {V : List (List (List (List WI)))} (i : Nat) (t : TD) (v : List (List (List WI))) : List.zipWith PTof (T.set i t) (V.set i v) = (List.zipWith PTof T V).set i (PTof t v) := by
 apply List.ext_getElem?
 intro j
 rw [List.getElem?_zipWith, List.getElem?_set, List.getElem?_set, List.getElem?_set, List.getElem?_zipWith, List.length_zipWith]
 by_cases e : i = j
 ·subst e
  rw [if_pos rfl, if_pos rfl, if_pos rfl]
  by_cases h1 : i < T.length <;> by_cases h2 : i < V.length <;> simp [h1, h2] <;> omega
 ·rw [if_neg e, if_neg e, if_neg e]
theorem WMid.tabv (h : WMid w d L N) {i : Nat} {t : TD} (ht : d.T[i]? = some t) : ∃ v, d.V[i]? = some v ∧ Vals t v ∧ d.P.tabs[i]? = some (PTof t v) := by
 have hl := (List.getElem?_eq_some_iff.1 ht).1
 have hv : d.V[i]? = some (d.V[i]'(by rw [h.raw.vlen]; exact hl)) := List.getElem?_eq_getElem _
 exact ⟨_, hv, h.raw.vals i t _ ht hv, tabs_at ht hv⟩
theorem WMid.tlen (h : WMid w d L N) : d.P.tabs.length = d.T.length ∧ d.T.length = d.g.ts.length ∧ d.g.sigs.length = d.T.length := by
 refine ⟨?_, h.raw.tabs.len, ?_⟩
 ·show (List.zipWith PTof d.T d.V).length = _
  rw [List.length_zipWith, h.raw.vlen, Nat.min_self]
 ·rw [sigs_len, h.raw.tabs.len]
theorem WMid.at (h : WMid w d L N) {e : Int} (he : e ∈ L) : ∃ p t v, d.pl e = some p ∧ d.T[p.tab]? = some t ∧ d.V[p.tab]? = some v ∧ Vals t v := by
 obtain ⟨p, u, hp, hu⟩ := h.ok.at he
 obtain ⟨t, v, ht, hv, _⟩ := tabs_of hu
 exact ⟨p, t, v, hp, ht, hv, h.raw.vals _ t v ht hv⟩
theorem WMid.sig_at (h : WMid w d L N) {i : Nat} {t : TD} (ht : d.T[i]? = some t) : d.g.sigs[i]? = some t.set := sigs_get (h.raw.tabs.at ht)
theorem WMid.pos (h : WMid w d L N) {i : Nat} {t : TD} (ht : d.T[i]? = some t) : posOf t.set d.g.sigs = some i := h.inv.nd i _ (h.sig_at ht)
theorem posOf_at : ∀ {l : List Int} {s : Int} {i : Nat}, posOf s l = some i → l[i]? = some s
 | [], _, _, h => by cases h
 | x :: r, s, i, h => by
  unfold posOf at h
  split at h
  ·rename_i e
   cases h
   subst e; rfl
  ·cases hp : posOf s r with
   | none => rw [hp] at h; cases h
   | some j =>
    rw [hp] at h
    cases h
    have := posOf_at hp
    simpa using this
theorem WMid.of_pos (h : WMid w d L N) {s : Int} {i : Nat} (hp : posOf s d.g.sigs = some i) : ∃ t, d.T[i]? = some t ∧ t.set = s := by
 have h1 := posOf_at hp
 have h2 := (List.getElem?_eq_some_iff.1 h1).1
 rw [h.tlen.2.2] at h2
 refine ⟨_, List.getElem?_eq_getElem h2, ?_⟩
 have h3 := h.sig_at (List.getElem?_eq_getElem h2)
 rw [h1] at h3
 exact (Option.some.inj h3).symm
theorem WMid.sets_eq (h : WMid w d L N) : d.P.tabs.map (·.set) = d.g.sigs := by
 apply List.ext_getElem?
 intro i
 rw [List.getElem?_map]
 rcases Nat.lt_or_ge i d.T.length with hl | hl
 ·have ht : d.T[i]? = some d.T[i] := List.getElem?_eq_getElem hl
  obtain ⟨v, _, _, hp⟩ := h.tabv ht
  rw [hp, h.sig_at ht]; rfl
 ·rw [List.getElem?_eq_none (by rw [h.tlen.1]; exact hl), List.getElem?_eq_none (by rw [h.tlen.2.2]; exact hl)]; rfl
end
def WS.cnt (S : WS) (set : Int) : Nat := S.ix.liveL.countP fun e => match S.who e with | some x => decide (x.set = set) | none => false
def WS.openE (S : WS) (set : Int) : Int := match posOf set S.sets with
 | some _ => if S.caps.rows ≤ (S.cnt set : Int) then 5 else 0
 | none => if tableOk S.ver S.cs set S.caps.rows then (if S.caps.archs ≤ (S.sets.length : Int) then 5 else 0) else 6
def WS.openS (S : WS) (set : Int) : List Int := match posOf set S.sets with
 | some _ => S.sets
 | none => S.sets ++ [set]
section
variable {w : World} {d : WD} {L : List Int} {N : Nat}
theorem WMid.count (h : WMid w d L N) {i : Nat} {t : TD} (ht : d.T[i]? = some t) : L.countP (hasSet d.P t.set) = t.ents.length + t.kept := by
 obtain ⟨v, _, _, hp⟩ := h.tabv ht
 exact h.ok.count hp
theorem WIn.cnt (h : WIn w d N) {i : Nat} {t : TD} (ht : d.T[i]? = some t) : d.S.cnt t.set = t.ents.length + t.kept := WMid.count h ht
theorem WMid.like (h : WMid w d L N) {i : Nat} {t : TD} (ht : d.T[i]? = some t) : (t.most : Int) = d.caps.rows ∧ (idsTo t.set 24).map (findC · d.g.cs) = t.cs.map some := by
 obtain ⟨_, h2, h3⟩ := h.raw.tabs.like t (List.mem_of_getElem? ht)
 exact ⟨h2.trans h.rows, h3⟩
theorem WMid.tab (h : WMid w d L N) {i : Nat} {t : TD} (ht : d.T[i]? = some t) : TabIn 0 w t := h.raw.tabs.tab t (List.mem_of_getElem? ht)
theorem WMid.ptr (h : WMid w d L N) {i : Nat} {t : TD} (ht : d.T[i]? = some t) : tabPtr d.g i = some ⟨t.tb, 0, none⟩ := tabPtr_some (h.raw.tabs.at ht)
theorem WMid.bd (h : WMid w d L N) {i : Nat} {t : TD} (ht : d.T[i]? = some t) : 0 ≤ t.set ∧ t.set ≤ 4294967295 := ⟨(h.tab ht).set0, (h.tab ht).set1⟩
end
theorem alive_in {w : World} {d : WD} {N : Nat} (h : WIn w d N) {e : Int} (h0 : 0 ≤ e) : d.x.ix.alive e = true ↔ e ∈ d.x.ix.liveL := h.raw.ix.ok.alive_iff e h0
end Go.Proofs.YtgebbmfoamkfnaaGreatDoor
namespace Go.Proofs.YtgebbmfoamkfnaaGreatDoor
open Go.RowKit
set_option linter.unusedVariables false
def pwOf (p : Int × List WI) : PW := ⟨p.1, none, 0, 0, p.2⟩
theorem cpF_cv (cs : List Cmp) (p : PW) : cpF cs (pwOf (p.comp, p.val)) = cpF cs p := rfl
theorem cpsGo_cv (cs : List Cmp) : ∀ (ps seen : List PW), cpsGo cs ((cv seen).map pwOf) ((cv ps).map pwOf) = cpsGo cs seen ps
 | [], _ => by unfold cpsGo; rfl
 | p :: r, seen => by
  have h := cpsGo_cv cs r (seen ++ [p])
  unfold cpsGo
  rw [show (cv (p :: r)).map pwOf = pwOf (p.comp, p.val) :: (cv r).map pwOf from rfl]
  have e : (((cv seen).map pwOf).any fun q => q.comp == (pwOf (p.comp, p.val)).comp) = (seen.any fun q => q.comp == p.comp) := by
   unfold cv
   rw [List.any_map, List.any_map]; rfl
  simp only [e, cpF_cv]
  have e2 : (cv seen).map pwOf ++ [pwOf (p.comp, p.val)] = (cv (seen ++ [p])).map pwOf := by simp [cv]
  rw [e2, h]
  rfl
def fC (cs : List Cmp) (p : Int × List WI) : Int := cpF cs (pwOf p)
def cpC (cs : List Cmp) (l : List (Int × List WI)) : Int := cpsGo cs [] (l.map pwOf)
def setC (l : List (Int × List WI)) : Int := foldS (l.map (·.1))
theorem cpC_cv (cs : List Cmp) (ps : List PW) : cpC cs (cv ps) = cpsGo cs [] ps := cpsGo_cv cs ps []
theorem setC_cv (ps : List PW) : setC (cv ps) = foldS (comps ps) := by unfold setC cv comps; rw [List.map_map]; rfl
def WS.rowAt (S : WS) (e : Int) : Option (Int × List (List WI)) := match S.who e with
 | some ⟨s, some r⟩ => some (s, r)
 | _ => none
def WS.spawnE (S : WS) (l : List (Int × List WI)) : Int := if cpC S.cs l ≠ 0 then cpC S.cs l else if S.ix.next = none then 5 else S.openE (setC l)
def WS.spawnH (S : WS) : Int := match S.ix.next with | none => 0 | some id => hOf id (S.ix.gen id)
def WS.spawnS (S : WS) (l : List (Int × List WI)) : WS := match S.ix.next with
 | none => S
 | some id => { S with ix := S.ix.spawn id, sets := S.openS (setC l), who := updW S.who (hOf id (S.ix.gen id)) (some ⟨setC l, some (rowOfC l (setC l))⟩) }
def WS.deadE (S : WS) (e : Int) : Int := if S.ix.alive e then 0 else 11
def putC (l : List (Int × List WI)) (p : Int × List WI) : List (Int × List WI) := l.map fun q => if q.1 = p.1 then p else q
end Go.Proofs.YtgebbmfoamkfnaaGreatDoor
namespace Go.Proofs.YtgebbmfoamkfnaaGreatDoor
open Go.RowKit
set_option linter.unusedVariables false
theorem quiet_sm {P : Program} {f : FuncId} {args : Array Value} {w : World} {n : Nat} {v : Value} (h : Calls P f args (w.drewN n) fun e w' => e = .returned v ∧ w.drewN n = w') :
  Calls P f args (w.drewN n) fun e w'' => e = .returned v ∧ ∃ m, w'' = w.drewN m := h.mono fun _ _ ⟨he, hm⟩ => ⟨he, n, hm.symm⟩
theorem xFree_any (x : XD) (w : World) (h : XMem w x) : Calls Tryz.prog 48 #[.pointer (some ⟨x.xb, 0, none⟩)] w fun e w' => e = .returned (.int .i64 (x.fr.length : Int)) ∧ w = w' := by
 obtain ⟨_, _, _, c3, _⟩ := h.cells
 clear h
 go_enter Tryz.func48, Tryz.ntmps48
 go_wp2_with fail
 go_returns
 exact ⟨rfl, rfl⟩
theorem XMem.grow {w : World} {x : XD} (h : XMem w x) {k : Nat} (hk : k < x.ix.gens.length) : ∃ q, x.ga = some ⟨q, 0, none⟩ ∧ w.cell? ⟨q, k, none⟩ = some (.int .i64 (x.ix.gen k)) ∧ w.frozen? ⟨q, k, none⟩ = false := by
 obtain ⟨q, hq, _, hl, hc⟩ := row_block h.gensR (by omega)
 obtain ⟨q2, hq2, _, hf, _, hcap⟩ := ownsRow_set (r := k) (.int .i64 0) h.gensR hk
 have : q2 = q := by rw [hq] at hq2; cases hq2; rfl
 subst this
 refine ⟨q2, hq, hc k _ ?_, hf⟩
 rw [List.getElem?_map, List.getElem?_eq_getElem hk]
 unfold IX.gen
 rw [List.getD_eq_getElem?_getD, List.getElem?_eq_getElem hk]; rfl
theorem XMem.lrow {w : World} {x : XD} (h : XMem w x) {k : Nat} (hk : k < x.ix.lives.length) : ∃ q, x.la = some ⟨q, 0, none⟩ ∧ w.cell? ⟨q, k, none⟩ = some (.bool (x.ix.live k)) ∧ w.frozen? ⟨q, k, none⟩ = false := by
 obtain ⟨q, hq, _, hl, hc⟩ := row_block h.livesR (by omega)
 obtain ⟨q2, hq2, _, hf, _, hcap⟩ := ownsRow_set (r := k) (.bool false) h.livesR hk
 have : q2 = q := by rw [hq] at hq2; cases hq2; rfl
 subst this
 refine ⟨q2, hq, hc k _ ?_, hf⟩
 rw [List.getElem?_map, List.getElem?_eq_getElem hk]
 unfold IX.live
 rw [List.getD_eq_getElem?_getD, List.getElem?_eq_getElem hk]; rfl
set_option maxRecDepth 100000 in
set_option maxHeartbeats 2000000 in
theorem xAlive_any (x : XD) (w : World) (h : XIn w x) (e : Int) (h0 : 0 ≤ e) (h1 : e < 18446744073709551616) : Calls Tryz.prog 161 #[.pointer (some ⟨x.xb, 0, none⟩), .int .u64 e] w fun en w' => en = .returned (.bool (x.ix.alive e)) ∧ Below w.heap.size w w' := by
 obtain ⟨_, c1, c2, _, _⟩ := h.cells
 have hlen := h.ok.len
 have hn2 := h.ok.n2
 obtain ⟨id, hid⟩ : ∃ id : Nat, e % 4294967296 = (id : Int) := ⟨(e % 4294967296).toNat, by omega⟩
 have HA : Hid (x.ix.alive e = (x.ix.live id && decide (x.ix.gen id = e / 4294967296))) := Lib.hid (by unfold IX.alive; rw [hid, Int.toNat_natCast])
 obtain ⟨n, hn⟩ : ∃ n, x.ix.gens.length = n := ⟨_, rfl⟩
 rw [hlen] at c2
 rw [hn] at c1 c2
 by_cases hlt : id < n
 ·obtain ⟨q1, hq1, d1, _⟩ := h.grow (k := id) (by omega)
  obtain ⟨q2, hq2, d2, _⟩ := h.lrow (k := id) (by omega)
  rw [hq1] at c1
  rw [hq2] at c2
  have g1 : decide ((n : Int) ≤ (id : Int)) = false := by simp; omega
  have i0 : (0 : Int) ≤ (id : Int) := by omega
  have i1 : (id : Int) < (n : Int) := by omega
  have HID := Lib.hid hid
  have hcl := fun wx : World => entId_any e wx h0 h1
  rw [hid] at hcl
  have HC := Lib.hid hcl
  have HG := Lib.hid (fun wx : World => entGen_any e wx h0 h1)
  clear h hlen hid hcl hn hq1 hq2
  cases hv : x.ix.live id
  ·rw [hv] at d2
   have HV := Lib.hid hv
   clear hv
   go_enter Tryz.func161, Tryz.ntmps161
   go_wp2_with fail
   go_quiet ((go_at_call 190; exact quiet_sm (HC.out _)))
   have hb1 : Below w.heap.size w (w.drewN nq) := below_drewN (Below.refl _ _) _
   have c1 : (w.drewN nq).cell? _ = _ := c1
   have c2 : (w.drewN nq).cell? _ = _ := c2
   have d1 : (w.drewN nq).cell? _ = _ := d1
   have d2 : (w.drewN nq).cell? _ = _ := d2
   generalize w.drewN nq = W1 at hb1 c1 c2 d1 d2 ⊢
   go_wp2_with fail
   go_quiet ((go_at_call 190; exact quiet_sm (HC.out _)))
   go_wp2_with fail
   go_returns
   exact ⟨ret_bool (by rw [HA.out, HV.out]; rfl), below_drewN hb1 _⟩
  ·rw [hv] at d2
   have HV := Lib.hid hv
   clear hv
   go_enter Tryz.func161, Tryz.ntmps161
   go_wp2_with fail
   go_quiet ((go_at_call 190; exact quiet_sm (HC.out _)))
   have hb1 : Below w.heap.size w (w.drewN nq) := below_drewN (Below.refl _ _) _
   have c1 : (w.drewN nq).cell? _ = _ := c1
   have c2 : (w.drewN nq).cell? _ = _ := c2
   have d1 : (w.drewN nq).cell? _ = _ := d1
   have d2 : (w.drewN nq).cell? _ = _ := d2
   generalize w.drewN nq = W1 at hb1 c1 c2 d1 d2 ⊢
   go_wp2_with fail
   go_quiet ((first | (go_at_call 190; exact quiet_sm (HC.out _)) | (go_at_call 191; exact quiet_sm (HG.out _))))
   go_wp2_with fail
   go_returns
   exact ⟨ret_bool (by rw [HA.out, HV.out]; rfl), below_drewN hb1 _⟩
 ·have g1 : decide ((n : Int) ≤ (id : Int)) = true := by simp; omega
  have HV : Hid (x.ix.live id = false) := Lib.hid (by
   cases hv : x.ix.live id with
   | false => rfl
   | true => exact absurd (IX.live_lt hlen hv) (by omega))
  have hcl := fun wx : World => entId_any e wx h0 h1
  rw [hid] at hcl
  have HC := Lib.hid hcl
  clear h hlen hid hcl hn
  go_enter Tryz.func161, Tryz.ntmps161
  go_wp2_with fail
  go_quiet ((go_at_call 190; exact quiet_sm (HC.out _)))
  go_wp2_with fail
  go_returns
  exact ⟨ret_bool (by rw [HA.out, HV.out]; rfl), below_drewN (Below.refl _ _) _⟩
end Go.Proofs.YtgebbmfoamkfnaaGreatDoor
