/- A graph and its tables with rows. · Contracts of octet.Reader. · Contracts of wide.Add and wide.Sub where the signs differ. -/
import Derived.Test.YthmpknlgkflhiabGreatQ23
import Derived.Test.YthmpknlgkflhiabGreatQ9
import Derived.Laws.Externs
namespace Go.Proofs.YthmpknlgkflhiabGreat
open Go.RowKit
set_option linter.unusedVariables false
theorem TabIn.monoB {B B' : Nat} {w : World} {t : TD} (h : TabIn B w t) (hb : B' ≤ B) : TabIn B' w t :=
 { h with
  comps := ownsRow_mono h.comps hb
  colsR := ownsRow_mono h.colsR hb
  fields := fun x hx => ⟨ownsRow_mono (h.fields x hx).row hb, (h.fields x hx).len, (h.fields x hx).max, (h.fields x hx).nil⟩
  entsR := ownsRow_mono h.entsR hb
  hB := Nat.le_trans hb h.hB
  colsA := fun d hd => (h.colsA d hd).mono hb }
def FTy (w : World) (b : Nat) : Prop := ∃ cs ty fr, w.heap[b]? = some (.cells cs ty fr) ∧ (ty = 143 ∨ ty = 38 ∨ ty = 202 ∨ ty = 189 ∨ ty = 5)
theorem TabIn.foot_fty {B : Nat} {w : World} {t : TD} (h : TabIn B w t) {b : Nat} (hb : t.foot b) : FTy w b := by
 rcases hb with rfl | hb | ⟨d, hd, hb⟩
 ·exact ⟨_, _, _, h.blk, .inl rfl⟩
 ·obtain ⟨cur, hh⟩ := row_type h.entsR hb
  exact ⟨_, _, _, hh, .inr (.inl rfl)⟩
 ·obtain ⟨cs, ty, fr, hh, ht⟩ := (h.colsA d hd).foot_ty hb
  exact ⟨cs, ty, fr, hh, .inr (.inr (by rcases ht with h | h | h <;> simp [h]))⟩
theorem FTy.mut {w : World} {b : Nat} (h : FTy w b) : Mut w b := by
 obtain ⟨cs, ty, fr, hh, ht⟩ := h
 rcases ht with rfl | rfl | rfl | rfl | rfl <;> exact mut_of hh (by decide) (by decide) (by decide)
theorem FTy.ne {w : World} {b : Nat} (h : FTy w b) {cs : Array Value} {ty : TypeId} {fr : Nat × Nat} (hh : w.heap[b]? = some (.cells cs ty fr)) (hn : ty ≠ 143 ∧ ty ≠ 38 ∧ ty ≠ 202 ∧ ty ≠ 189 ∧ ty ≠ 5) : False := by
 obtain ⟨cs', ty', fr', h1, ht⟩ := h
 rw [hh] at h1
 cases h1
 obtain ⟨n1, n2, n3, n4, n5⟩ := hn
 rcases ht with h | h | h | h | h
 ·exact n1 h
 ·exact n2 h
 ·exact n3 h
 ·exact n4 h
 ·exact n5 h
theorem FTy.ne_map {w : World} {b : Nat} (h : FTy w b) {es : Array MapEntry} {c : Nat} (hh : w.heap[b]? = some (.map es c)) : False := by
 obtain ⟨cs', ty', fr', h1, ht⟩ := h
 rw [hh] at h1
 cases h1
theorem MapIs.out {P : Program} {w : World} {k e : TypeId} {b cnt : Nat} {f : Lit → Option Lit} {F : Nat → Prop} {w' : World} (h : MapIs P w k e b cnt f) (ho : Out F w w') (hb : ¬ F b) : MapIs P w' k e b cnt f := by
 obtain ⟨D, ⟨es, c, hh, r⟩, h2⟩ := h
 exact ⟨D, ⟨es, c, ho.keep hh hb, r⟩, h2⟩
section
variable {B1 gb : Nat} {g : GS} {w w' : World} {mb wb : Nat} {ta : Option Addr} {tc : Nat} {F : Nat → Prop}
theorem Graph.foot_no (h : Graph B1 gb g mb wb ta tc w) {b : Nat} (hb : FTy w b) : ¬ gfoot gb mb wb ta b := by
 obtain ⟨ca, cl, cc, bs, ws, h⟩ := h
 rintro (rfl | rfl | rfl | hr)
 ·exact hb.ne h.blk (by decide)
 ·obtain ⟨es, c, hm⟩ := h.bySet.obj
  exact hb.ne_map hm
 ·obtain ⟨es, c, hm⟩ := h.byWay.obj
  exact hb.ne_map hm
 ·obtain ⟨cur, hh⟩ := row_type h.row ((ownBlock_slice ta g.ts.length tc 0 0).trans hr)
  exact hb.ne hh (by decide)
theorem keepsTy_out (ho : Out F w w') (hF : ∀ b, F b → FTy w b) : KeepsTy w w' := by
 intro b c e fz hb he
 refine ho.keep hb (fun hf => (hF b hf).ne hb ?_)
 rcases he with rfl | rfl <;> decide
theorem Graph.out (h : Graph B1 gb g mb wb ta tc w) (ho : Out F w w') (hF : ∀ b, F b → FTy w b) (hs : ∀ t ∈ g.ts, SigAt w' t.1 t.2) : Graph B1 gb g mb wb ta tc w' := by
 have hno : ∀ b, gfoot gb mb wb ta b → ¬ F b := fun b hb hf => h.foot_no (hF b hf) hb
 obtain ⟨ca, cl, cc, bs, ws, h⟩ := h
 have hty := keepsTy_out ho hF
 refine ⟨ca, cl, cc, bs, ws, { h with
  blk := ho.keep h.blk (hno _ (.inl rfl))
  comps := (h.comps.ty h.cty hty).mono ho.size
  cty := h.cty.hk hty
  row := ownsRow_out h.row ho (fun x hx => hno x (.inr (.inr (.inr ((ownBlock_slice ta 0 0 g.ts.length tc).trans hx)))))
  bySet := h.bySet.out ho (hno _ (.inr (.inl rfl)))
  byWay := h.byWay.out ho (hno _ (.inr (.inr (.inl rfl))))
  tab := fun t ht => ⟨hs t ht, (h.tab t ht).2⟩
  wf := ⟨h.wf.1, h.wf.2.1, h.wf.2.2.1, h.wf.2.2.2.1, h.wf.2.2.2.2.1, Nat.le_trans h.wf.2.2.2.2.2.1 ho.size, h.wf.2.2.2.2.2.2⟩ }⟩
end
structure Tabs (B : Nat) (g : GS) (T : List TD) (w : World) : Prop where
 ts : T.map (fun t => (t.tb, t.set)) = g.ts
 tab : ∀ t ∈ T, TabIn B w t
 like : ∀ t ∈ T, t.ver = g.ver ∧ (t.most : Int) = g.rows ∧ (idsTo t.set 24).map (findC · g.cs) = t.cs.map some
 apart : ∀ (i j : Nat) (t u : TD), i ≠ j → T[i]? = some t → T[j]? = some u → ∀ b, t.foot b → ¬ u.foot b
structure TDeed (B : Nat) (t t' : TD) (w w' : World) : Prop where
 tab : TabIn B w' t'
 tb : t'.tb = t.tb
 set : t'.set = t.set
 ver : t'.ver = t.ver
 most : t'.most = t.most
 cs : t'.cs = t.cs
 out : Out t.foot w w'
 foot : ∀ b, t'.foot b → t.foot b ∨ w.heap.size ≤ b
section
variable {B : Nat} {g : GS} {T : List TD} {w w' : World}
theorem Tabs.sigAt (h : Tabs B g T w) : ∀ t ∈ g.ts, SigAt w t.1 t.2 := by
 intro t ht
 rw [← h.ts] at ht
 obtain ⟨u, hu, rfl⟩ := List.mem_map.1 ht
 exact ⟨_, (h.tab u hu).blk, rfl⟩
theorem Tabs.at (h : Tabs B g T w) {i : Nat} {t : TD} (hi : T[i]? = some t) : g.ts[i]? = some (t.tb, t.set) := by rw [← h.ts, List.getElem?_map, hi]; rfl
theorem Tabs.len (h : Tabs B g T w) : T.length = g.ts.length := by rw [← h.ts, List.length_map]
theorem Tabs.out {F : Nat → Prop} (h : Tabs B g T w) (ho : Out F w w') (hF : ∀ b, F b → ∀ t ∈ T, ¬ t.foot b) (hM : ∀ b, F b → Mut w b) : Tabs B g T w' :=
 ⟨h.ts, fun t ht => (h.tab t ht).out ho (fun b hb hf => hF b hf t ht hb) hM, h.like, h.apart⟩
theorem Tabs.below (h : Tabs B g T w) (hb : Below w.heap.size w w') : Tabs B g T w' := h.out (F := fun _ => False) (Out.of hb) (fun _ => False.elim) (fun _ => False.elim)
theorem Tabs.put (h : Tabs B g T w) {i : Nat} {t t' : TD} (hi : T[i]? = some t) (hd : TDeed B t t' w w') : Tabs B g (T.set i t') w' := by
 obtain ⟨hil, hie⟩ := List.getElem?_eq_some_iff.1 hi
 have htm := List.mem_of_getElem? hi
 have hor : ∀ u ∈ T.set i t', u = t' ∨ ∃ j, j ≠ i ∧ T[j]? = some u := by
  intro u hu
  obtain ⟨j, hj⟩ := List.getElem?_of_mem hu
  rw [List.getElem?_set] at hj
  split at hj
  ·exact .inl (Option.some.inj hj).symm
  ·rename_i hne
   exact .inr ⟨j, fun e => hne e.symm, hj⟩
 refine ⟨?_, fun u hu => ?_, fun u hu => ?_, fun a b u v hab hu hv x hx hx' => ?_⟩
 ·rw [List.map_set, hd.tb, hd.set, ← h.ts]
  apply List.ext_getElem?
  intro k
  rw [List.getElem?_set]
  split
  ·rename_i e
   subst e
   simp [hil, hie]
  ·rfl
 ·rcases hor u hu with rfl | ⟨j, hj, hju⟩
  ·exact hd.tab
  ·exact (h.tab u (List.mem_of_getElem? hju)).out hd.out (fun b hb => h.apart j i u t hj hju hi b hb) (fun b hb => ((h.tab t htm).foot_fty hb).mut)
 ·rcases hor u hu with rfl | ⟨j, hj, hju⟩
  ·obtain ⟨h1, h2, h3⟩ := h.like t htm
   exact ⟨hd.ver.trans h1, by rw [hd.most]; exact h2, by rw [hd.set, hd.cs]; exact h3⟩
  ·exact h.like u (List.mem_of_getElem? hju)
 ·rw [List.getElem?_set] at hu hv
  have hno : ∀ (j : Nat) (z : TD), j ≠ i → T[j]? = some z → ∀ y, t'.foot y → ¬ z.foot y := by
   intro j z hj hz y hy hy'
   rcases hd.foot y hy with h1 | h1
   ·exact h.apart i j t z (fun e => hj e.symm) hi hz y h1 hy'
   ·have := ((h.tab z (List.mem_of_getElem? hz)).foot_ge hy').2
    omega
  split at hu
  ·rename_i e1
   cases hu
   split at hv
   ·omega
   ·rename_i e2
    exact hno b v (fun e => e2 e.symm) hv x hx hx'
  ·rename_i e1
   split at hv
   ·cases hv
    exact hno a u (fun e => e1 e.symm) hu x hx' hx
   ·exact h.apart a b u v hab hu hv x hx hx'
theorem Tabs.snoc (h : Tabs B g T w) {tb : Nat} {set : Int} {most : Nat} (hm : g.rows = (most : Int)) (hN : TableNew w' tb g.ver g.cs set g.rows) (hok : tableOk g.ver g.cs set g.rows = true) (h0 : 0 ≤ set) (h1 : set ≤ 4294967295) (hB : B ≤ tb) (hlo : w.heap.size ≤ tb) (hT : Tabs B g T w') {g' : GS} (hg : g'.ts = g.ts ++ [(tb, set)] ∧ g'.ver = g.ver ∧ g'.rows = g.rows ∧ g'.cs = g.cs) :
  ∃ t, Tabs B g' (T ++ [t]) w' ∧ t.tb = tb ∧ t.set = set ∧ t.kept = 0 ∧ t.ents = [] ∧ t.most = most ∧ ∀ b, t.foot b → w.heap.size ≤ b := by
 rw [hm] at hN hok
 obtain ⟨t, ht, e1, e2, e3, e4, e5, e6, e7⟩ := TabIn.of_new hN hok h0 h1
 have hge : ∀ b, t.foot b → w.heap.size ≤ b := fun b hb => Nat.le_trans hlo (ht.foot_ge hb).1
 refine ⟨t, ⟨?_, fun u hu => ?_, fun u hu => ?_, fun a b u v hab hu hv x hx hx' => ?_⟩, e1, e3, e5, e6, e4, hge⟩
 ·rw [List.map_append, hT.ts, hg.1, ← e1, ← e3]; rfl
 ·rcases List.mem_append.1 hu with h' | h'
  ·exact hT.tab u h'
  ·obtain rfl : u = t := by simpa using h'
   exact ht.monoB hB
 ·rw [hg.2.1, hg.2.2.1, hg.2.2.2]
  rcases List.mem_append.1 hu with h' | h'
  ·exact hT.like u h'
  ·obtain rfl : u = t := by simpa using h'
   exact ⟨e2, by rw [e4, hm], by rw [e3]; exact e7⟩
 ·have hold : ∀ (j : Nat) (z : TD), T[j]? = some z → ∀ y, z.foot y → ¬ t.foot y := by
   intro j z hz y hy hy'
   have h2 := ((h.tab z (List.mem_of_getElem? hz)).foot_ge hy).2
   have h3 := hge y hy'
   omega
  have hor : ∀ (m : Nat) (z : TD), (T ++ [t])[m]? = some z → (m < T.length ∧ T[m]? = some z) ∨ (m = T.length ∧ z = t) := by
   intro m z hz
   rcases Nat.lt_or_ge m T.length with hlt | hge
   ·rw [List.getElem?_append_left hlt] at hz
    exact .inl ⟨hlt, hz⟩
   ·have hml := (List.getElem?_eq_some_iff.1 hz).1
    rw [List.length_append] at hml
    have hml2 : m < T.length + 1 := hml
    obtain rfl : m = T.length := by omega
    rw [List.getElem?_append_right (Nat.le_refl _), Nat.sub_self] at hz
    simp at hz
    exact .inr ⟨rfl, hz.symm⟩
  rcases hor a u hu with ⟨ha, hu'⟩ | ⟨ha, rfl⟩
  ·rcases hor b v hv with ⟨hb, hv'⟩ | ⟨hb, rfl⟩
   ·exact hT.apart a b u v hab hu' hv' x hx hx'
   ·exact hold a u hu' x hx hx'
  ·rcases hor b v hv with ⟨hb, hv'⟩ | ⟨hb, rfl⟩
   ·exact hold b v hv' x hx' hx
   ·omega
end
end Go.Proofs.YthmpknlgkflhiabGreat
namespace Go.Proofs.YthmpknlgkflhiabGreat
open Go.RowKit
set_option linter.unusedVariables false
/-- The number of bytes, little end first. -/
def leV : List UInt8 → Nat
  | [] => 0
  | b :: r => b.toNat + 256 * leV r
theorem leV_lt : ∀ l : List UInt8, leV l < 256 ^ l.length
  | [] => by simp [leV]
  | b :: r => by
    have h1 := leV_lt r
    have h2 := b.toNat_lt
    simp only [leV, List.length_cons, Nat.pow_succ]
    omega
theorem or_byte {m b : Nat} (hm : m < 72057594037927936) (hb : b < 256) : bits BinOp.or .u64 ((m * 256 : Nat) : Int) (b : Int) = ((b + 256 * m : Nat) : Int) := by
  rw [u64_or_nat _ _ (by omega) (by omega)]
  congr 1
  have : m * 256 ||| b = 2 ^ 8 * m + b := by rw [Nat.mul_comm, show 256 = 2 ^ 8 from rfl, ← Nat.two_pow_add_eq_or_of_lt (by omega)]
  rw [this]; omega
set_option maxRecDepth 100000 in
theorem read_any (s : ByteArray) (w : World) : Calls Tryz.prog 156 #[.string s] w fun e w' => e = .returned (.pointer (some ⟨w.heap.size, 0, none⟩)) ∧ w.alloc (.cells #[.string s, .bool false] 266) = w' := by
  go_enter Tryz.func156, Tryz.ntmps156
  go_wp2_with fail
  go_returns
  exact ⟨rfl, rfl⟩
theorem rBad_any (rb : Nat) (s : ByteArray) (b : Bool) (w : World) (h : w.heap[rb]? = some (.cells #[.string s, .bool b] 266 (0, 0))) : Calls Tryz.prog 183 #[.pointer (some ⟨rb, 0, none⟩)] w fun e w' => e = .returned (.bool b) ∧ w = w' := by
  have c1 := cell_at h 1
  simp at c1
  clear h
  go_enter Tryz.func183, Tryz.ntmps183
  go_wp2_with fail
  go_returns
  exact ⟨rfl, rfl⟩
theorem rLeft_any (rb : Nat) (s : ByteArray) (w : World) (h : w.heap[rb]? = some (.cells #[.string s, .bool false] 266 (0, 0))) : Calls Tryz.prog 190 #[.pointer (some ⟨rb, 0, none⟩)] w fun e w' => e = .returned (.int .i64 (s.size : Int)) ∧ w = w' := by
  have c0 := cell_at h 0
  simp at c0
  have HB := Lib.hid (rBad_any rb s false w h)
  clear h
  go_enter Tryz.func190, Tryz.ntmps190
  go_wp2_with fail
  refine HB.out.mono ?_
  rintro e w1 ⟨rfl, rfl⟩
  go_wp2_with fail
  go_returns
  exact ⟨rfl, rfl⟩
theorem rDone_any (rb : Nat) (s : ByteArray) (w : World) (h : w.heap[rb]? = some (.cells #[.string s, .bool false] 266 (0, 0))) (hs : s = ⟨#[]⟩) : Calls Tryz.prog 159 #[.pointer (some ⟨rb, 0, none⟩)] w fun e w' => e = .returned (.bool true) ∧ w = w' := by
  have c0 := cell_at h 0
  subst hs
  simp at c0
  have HB := Lib.hid (rBad_any rb _ false w h)
  clear h
  go_enter Tryz.func159, Tryz.ntmps159
  go_wp2_with fail
  refine HB.out.mono ?_
  rintro e w1 ⟨rfl, rfl⟩
  go_wp2_with fail
  go_returns
  exact ⟨rfl, rfl⟩
set_option maxRecDepth 100000 in
set_option maxHeartbeats 1000000 in
theorem rSee_any (rb : Nat) (s : ByteArray) (k : Nat) (w : World) (h : w.heap[rb]? = some (.cells #[.string s, .bool false] 266 (0, 0))) (hk : k = 1 ∨ k = 2 ∨ k = 4 ∨ k = 8) (hs : k ≤ s.size) (hm : s.size ≤ maxLen) :
    Calls Tryz.prog 179 #[.pointer (some ⟨rb, 0, none⟩), .int .i64 (k : Int)] w fun e w' => e = .returned (.tuple #[.int .u64 (leV (s.data.toList.take k) : Int), .bool true]) ∧ w = w' := by
  have c0 := cell_at h 0
  simp at c0
  unfold maxLen at hm
  have HL := Lib.hid (rLeft_any rb s w h)
  have hk8 : k ≤ 8 := by omega
  have HK := Lib.hid hk
  have e1 : decide ((s.size : Int) < (k : Int)) = false := by simp; omega
  have hw1 : IntKind.i64.wrap ((k : Int) - 1) = (k : Int) - 1 := IntWalk.i64_in _ (by omega)
  clear h hk
  go_enter Tryz.func179, Tryz.ntmps179
  go_wp2_with fail
  refine (iswide_any _ _ (by have := HK.out; omega)).mono ?_
  rintro e w1 ⟨rfl, rfl⟩
  go_wp2_with fail
  refine HL.out.mono ?_
  rintro e w1 ⟨rfl, rfl⟩
  go_wp2_with fail
  go_loop [6, 7] (fun n i => ∃ j : Nat, j ≤ k ∧ i = .int .i64 ((j : Int) - 1) ∧ n = .int .u64 (leV ((s.data.toList.take k).drop j) : Int)) (fun _ i => ((intOf i) + 1).toNat)
  case atStart => exact ⟨k, Nat.le_refl _, rfl, by rw [List.drop_eq_nil_of_le (List.length_take_le _ _)]; rfl⟩
  case round =>
    obtain ⟨j, hj, rfl, rfl⟩ := hrel
    rcases Nat.eq_zero_or_pos j with rfl | hpos
    · go_wp2_with fail
      go_ret2
      exact ⟨by simp, rfl⟩
    · obtain ⟨m, rfl⟩ : ∃ m, j = m + 1 := ⟨j - 1, by omega⟩
      have hms : m < s.size := by omega
      have hd : (s.data.toList.take k).drop m = s[m] :: (s.data.toList.take k).drop (m + 1) := by
        have : (s.data.toList.take k)[m]? = some s[m] := by rw [List.getElem?_take, if_pos (by omega)]; exact data_get? hms
        exact drop_get this
      have hlen : ((s.data.toList.take k).drop (m + 1)).length ≤ 7 := by rw [List.length_drop, List.length_take]; omega
      have hlt := leV_lt ((s.data.toList.take k).drop (m + 1))
      have hlt7 : 256 ^ ((s.data.toList.take k).drop (m + 1)).length ≤ 256 ^ 7 := Nat.pow_le_pow_right (by decide) hlen
      have hb := s[m].toNat_lt
      have hnew : leV ((s.data.toList.take k).drop m) = s[m].toNat + 256 * leV ((s.data.toList.take k).drop (m + 1)) := by rw [hd]; rfl
      generalize leV ((s.data.toList.take k).drop (m + 1)) = n at *
      have hn : n < 72057594037927936 := by have : 256 ^ 7 = 72057594037927936 := by decide
                                            omega
      have HNEW := Lib.hid hnew
      have hor := or_byte hn hb
      have hsh : ((n * 256 : Nat) : Int) = (n : Int) * 256 := by omega
      have e0 : ((m + 1 : Nat) : Int) - 1 = (m : Int) := by omega
      rw [hsh] at hor
      rw [e0]
      go_wp2_with fail
      go_round
      case rel => exact ⟨m, by omega, rfl, by rw [HNEW.out, Int.natCast_add, Int.natCast_mul]; rfl⟩
      case measure => simp only [intOf]; omega
set_option maxRecDepth 100000 in
set_option maxHeartbeats 1000000 in
theorem rTake_any (rb : Nat) (s : ByteArray) (k : Nat) (w : World) (h : w.heap[rb]? = some (.cells #[.string s, .bool false] 266 (0, 0))) (hk : k ≤ s.size) (hm : s.size ≤ maxLen) :
    Calls Tryz.prog 180 #[.pointer (some ⟨rb, 0, none⟩), .int .i64 0, .int .i64 (k : Int), .bool true] w fun e w' => e = .returned (.string (s.extract 0 k)) ∧ w'.heap[rb]? = some (.cells #[.string (s.extract k s.size), .bool false] 266 (0, 0)) ∧ Only rb w w' := by
  have c0 := cell_at h 0
  have f0 := free_at h 0
  simp at c0
  unfold maxLen at hm
  have HB := Lib.hid (rBad_any rb s false w h)
  have HH := Lib.hid h
  have e1 : decide ((k : Int) < 0) = false := by simp
  have e2 : decide ((s.size : Int) < (k : Int)) = false := by simp; omega
  have hw1 : IntKind.i64.wrap (0 + (k : Int)) = (k : Int) := by rw [Int.zero_add]; exact IntWalk.i64_in _ (by omega)
  have hw2 : IntKind.i64.wrap ((s.size : Int) - 0) = (s.size : Int) := by rw [Int.sub_zero]; exact IntWalk.i64_in _ (by omega)
  clear h
  go_enter Tryz.func180, Tryz.ntmps180
  go_wp2_with fail
  refine HB.out.mono ?_
  rintro e w1 ⟨rfl, rfl⟩
  go_wp2_with fail
  go_returns
  exact ⟨rfl, by rw [hset _ _ _ _ _ _ _ HH.out]; rfl, Only.at _ _ _ _⟩
/-- Num reads the number of the first k bytes. -/
theorem rNum_any (rb : Nat) (s : ByteArray) (k : Nat) (w : World) (h : w.heap[rb]? = some (.cells #[.string s, .bool false] 266 (0, 0))) (hk : k = 1 ∨ k = 2 ∨ k = 4 ∨ k = 8) (hs : k ≤ s.size) (hm : s.size ≤ maxLen) :
    Calls Tryz.prog 157 #[.pointer (some ⟨rb, 0, none⟩), .int .i64 (k : Int)] w fun e w' => e = .returned (.int .u64 (leV (s.data.toList.take k) : Int)) ∧ w'.heap[rb]? = some (.cells #[.string (s.extract k s.size), .bool false] 266 (0, 0)) ∧ Only rb w w' := by
  have HS := Lib.hid (rSee_any rb s k w h hk hs hm)
  have HT := Lib.hid (rTake_any rb s k w h hs hm)
  clear h hk
  go_enter Tryz.func157, Tryz.ntmps157
  go_wp2_with fail
  refine HS.out.mono ?_
  rintro e w1 ⟨rfl, rfl⟩
  go_wp2_with fail
  refine HT.out.mono ?_
  rintro e w1 ⟨rfl, ht⟩
  go_wp2_with fail
  go_returns
  exact ⟨rfl, ht⟩
end Go.Proofs.YthmpknlgkflhiabGreat
namespace Go.Proofs.YthmpknlgkflhiabGreat
open Go.RowKit
set_option linter.unusedVariables false
def sub64E : Array Value → Sem Value := fun args => do
 let (x, y, b) ← Extern.MathBitsCarry.three "Sub64" args
 pure (Extern.MathBitsCarry.pair ((x + Extern.MathBitsCarry.m64 - y - b) % Extern.MathBitsCarry.m64) (if x < y + b then 1 else 0))
theorem run_sub64E {P : Program} (x y : Int) (h0 : 0 ≤ y) (h1 : y ≤ x) (h2 : x ≤ 18446744073709551615) (w : World) :
  (sub64E #[.int .u64 x, .int .u64 y, .int .u64 0]).run P w = .ok (.tuple #[.int .u64 (x - y), .int .u64 0]) w := by
 have key : (sub64E #[.int .u64 x, .int .u64 y, .int .u64 0]).run P w =
   .ok (Extern.MathBitsCarry.pair ((x.toNat + Extern.MathBitsCarry.m64 - y.toNat - 0) % Extern.MathBitsCarry.m64) (if x.toNat < y.toNat + 0 then 1 else 0)) w := rfl
 rw [key]
 obtain ⟨X, rfl⟩ := Int.eq_ofNat_of_zero_le (show 0 ≤ x by omega)
 obtain ⟨Y, rfl⟩ := Int.eq_ofNat_of_zero_le h0
 have e : (X + 18446744073709551616 - Y - 0) % 18446744073709551616 = X - Y := by omega
 have e2 : ¬ X < Y + 0 := by omega
 have e3 : ((X - Y : Nat) : Int) = (X : Int) - Y := by omega
 simp only [Extern.MathBitsCarry.pair, Extern.MathBitsCarry.m64, Int.toNat_natCast]
 rw [show (2 ^ 64 : Nat) = 18446744073709551616 from rfl, e, if_neg e2, Int.ofNat_eq_natCast, e3]
 rfl
theorem made_zero {n : Bool} : WI.made n 0 0 = ⟨false, 0, 0⟩ := by unfold WI.made; simp
theorem sizeF_lt {n m : Bool} {p q : Int} (h : p < q) : sizeF ⟨n, 0, p⟩ ⟨m, 0, q⟩ = -1 := by
 unfold sizeF; simp; omega
theorem sizeF_eq {n m : Bool} {p : Int} : sizeF ⟨n, 0, p⟩ ⟨m, 0, p⟩ = 0 := by
 unfold sizeF; simp
theorem swap_world (w : World) (a b r : Nat) (x0 x1 x2 y0 y1 y2 : Value) (T : TypeId) (o : Obj) (ha : w.heap[a]? = some (.cells #[x0, x1, x2] T (0, 0))) (hb : w.heap[b]? = some (.cells #[y0, y1, y2] T (0, 0))) (hr : w.heap[r]? = some o) (hab : a ≠ b) (hra : r ≠ a) (hrb : r ≠ b) :
  ∃ w3, w3 = (((((w.setCell ⟨a, 0, none⟩ y0).setCell ⟨a, 1, none⟩ y1).setCell ⟨a, 2, none⟩ y2).setCell ⟨b, 0, none⟩ x0).setCell ⟨b, 1, none⟩ x1).setCell ⟨b, 2, none⟩ x2 ∧
   w3.heap[a]? = some (.cells #[y0, y1, y2] T (0, 0)) ∧ w3.heap[b]? = some (.cells #[x0, x1, x2] T (0, 0)) ∧ w3.heap[r]? = some o ∧ ∀ B, B ≤ a → B ≤ b → Below B w w3 := by
 refine ⟨_, rfl, ?_, ?_, ?_, ?_⟩
 ·rw [hset_ne _ _ _ _ hab, hset_ne _ _ _ _ hab, hset_ne _ _ _ _ hab, hset _ _ _ _ _ _ _ (hset _ _ _ _ _ _ _ (hset _ _ _ _ _ _ _ ha))]; rfl
 ·have h1 : (((w.setCell ⟨a, 0, none⟩ y0).setCell ⟨a, 1, none⟩ y1).setCell ⟨a, 2, none⟩ y2).heap[b]? = some (.cells #[y0, y1, y2] T (0, 0)) := by
   rw [hset_ne _ _ _ _ (Ne.symm hab), hset_ne _ _ _ _ (Ne.symm hab), hset_ne _ _ _ _ (Ne.symm hab)]; exact hb
  rw [hset _ _ _ _ _ _ _ (hset _ _ _ _ _ _ _ (hset _ _ _ _ _ _ _ h1))]; rfl
 ·rw [hset_ne _ _ _ _ hrb, hset_ne _ _ _ _ hrb, hset_ne _ _ _ _ hrb, hset_ne _ _ _ _ hra, hset_ne _ _ _ _ hra, hset_ne _ _ _ _ hra]; exact hr
 ·intro B h1 h2
  exact ((((((Below.refl B w).setCell h1 _).setCell h1 _).setCell h1 _).setCell h2 _).setCell h2 _).setCell h2 _
set_option maxRecDepth 100000 in
set_option maxHeartbeats 2000000 in
theorem wadd_lt (p q : Int) (w : World) (h0 : 0 ≤ p) (h1 : p < q) (h2 : q ≤ 18446744073709551615) : Calls Tryz.prog 182 #[WI.v ⟨false, 0, p⟩, WI.v ⟨true, 0, q⟩] w fun e w' => e = .returned (.tuple #[WI.v ⟨true, 0, q - p⟩, .int .i64 0]) ∧ Below w.heap.size w w' := by
 have hb : Below w.heap.size w (((w.alloc (.cells #[.bool false, .int .u64 0, .int .u64 p] 67)).alloc (.cells #[.bool true, .int .u64 0, .int .u64 q] 67)).alloc (.cells #[.bool false, .int .u64 0, .int .u64 0] 67)) := by go_grown
 have kx := keepA (.cells #[.bool false, .int .u64 0, .int .u64 0] 67) (keepA (.cells #[.bool true, .int .u64 0, .int .u64 q] 67) (heap_alloc_new w (.cells #[.bool false, .int .u64 0, .int .u64 p] 67)))
 have ky := keepA (.cells #[.bool false, .int .u64 0, .int .u64 0] 67) (heap_alloc_new (w.alloc (.cells #[.bool false, .int .u64 0, .int .u64 p] 67)) (.cells #[.bool true, .int .u64 0, .int .u64 q] 67))
 have kr := heap_alloc_new ((w.alloc (.cells #[.bool false, .int .u64 0, .int .u64 p] 67)).alloc (.cells #[.bool true, .int .u64 0, .int .u64 q] 67)) (.cells #[.bool false, .int .u64 0, .int .u64 0] 67)
 rw [World.size_alloc] at ky
 rw [World.size_alloc, World.size_alloc] at kr
 have KX := Lib.hid kx
 have KY := Lib.hid ky
 have KR := Lib.hid kr
 have HB := Lib.hid hb
 clear kx ky kr hb
 dsimp only [WI.v]
 go_enter Tryz.func182, Tryz.ntmps182
 go_wp2_with fail
 refine (wcheck_any ⟨false, 0, p⟩ ⟨true, 0, q⟩ _ ⟨⟨by simp, by simp⟩, h0, by show p ≤ _; omega⟩ (wf_lo (by omega) (by omega)) (by simp [WI.form]) (form_lo (by omega))).mono ?_
 rintro e w1 ⟨rfl, hb1⟩
 have hx1 := keep hb1 KX.out
 have hy1 := keep hb1 KY.out
 have hr1 := keep hb1 KR.out
 have x0 := cell_at hx1 0
 have x1 := cell_at hx1 1
 have x2 := cell_at hx1 2
 have y0 := cell_at hy1 0
 have y1 := cell_at hy1 1
 have y2 := cell_at hy1 2
 simp at x0 x1 x2 y0 y1 y2
 have HB1 := Lib.hid (HB.out.trans (hb1.mono HB.out.size))
 have HR1 := Lib.hid hr1
 have HX1 := Lib.hid hx1
 have HY1 := Lib.hid hy1
 clear hb1 hx1 hy1 hr1
 go_wp2_with fail
 refine (wsize_any ⟨false, 0, p⟩ ⟨true, 0, q⟩ _).mono ?_
 rintro e w2 ⟨rfl, hb2⟩
 rw [sizeF_lt h1]
 have hx2 := keep hb2 HX1.out
 have hy2 := keep hb2 HY1.out
 have hr2 := keep hb2 HR1.out
 have u0 := cell_at hx2 0
 have u1 := cell_at hx2 1
 have u2 := cell_at hx2 2
 have v0 := cell_at hy2 0
 have v1 := cell_at hy2 1
 have v2 := cell_at hy2 2
 have fu0 := free_at hx2 0
 have fu1 := free_at hx2 1
 have fu2 := free_at hx2 2
 have fv0 := free_at hy2 0
 have fv1 := free_at hy2 1
 have fv2 := free_at hy2 2
 simp at u0 u1 u2 v0 v1 v2
 have HB2 := Lib.hid (HB1.out.trans (hb2.mono HB1.out.size))
 have HX2 := Lib.hid hx2
 have HY2 := Lib.hid hy2
 have HR2 := Lib.hid hr2
 clear hb2 hx2 hy2 hr2 x0 x1 x2 y0 y1 y2
 go_wp2_with fail
 obtain ⟨w3, hw3, hx3, hy3, hr3, hb3⟩ := swap_world w2 _ _ _ _ _ _ _ _ _ _ _ HX2.out HY2.out HR2.out (by omega) (by omega) (by omega)
 rw [← hw3]
 clear hw3 u0 u1 u2 v0 v1 v2 fu0 fu1 fu2 fv0 fv1 fv2
 have u0 := cell_at hx3 0
 have u1 := cell_at hx3 1
 have u2 := cell_at hx3 2
 have v0 := cell_at hy3 0
 have v1 := cell_at hy3 1
 have v2 := cell_at hy3 2
 simp at u0 u1 u2 v0 v1 v2
 have HB3 := Lib.hid (HB2.out.trans (hb3 w.heap.size (by omega) (by omega)))
 have HR3 := Lib.hid hr3
 clear hb3 hx3 hy3 hr3
 rw [run_callFunc_extern Tryz.func193 (by kernel_rfl) (by kernel_rfl) (by kernel_rfl) (e := sub64E) (by kernel_rfl), run_sub64E q p (by omega) (by omega) (by omega)]
 simp only [Result.andThen]
 rw [Oper.upon_value]
 go_wp2
 rw [run_callFunc_extern Tryz.func193 (by kernel_rfl) (by kernel_rfl) (by kernel_rfl) (e := sub64E) (by kernel_rfl), run_sub64E 0 0 (by omega) (by omega) (by omega)]
 simp only [Result.andThen]
 rw [Oper.upon_value]
 go_wp2_with fail
 refine (wfit_any true 0 (q - p) _ (by omega) (by omega) (by omega) (by omega)).mono ?_
 rintro e w4 ⟨rfl, hb4⟩
 rw [one_made (by omega)]
 have hr4 := keep hb4 HR3.out
 have q0 := cell_at hr4 0
 have q1 := cell_at hr4 1
 have q2 := cell_at hr4 2
 have g0 := free_at hr4 0
 have g1 := free_at hr4 1
 have g2 := free_at hr4 2
 simp at q0 q1 q2
 have HB4 := Lib.hid (HB3.out.trans (hb4.mono HB3.out.size))
 clear hb4 u0 u1 u2 v0 v1 v2
 dsimp only [WI.v]
 go_wp2_with fail
 refine bodyPost_ret (v := .tuple #[.agg #[.bool true, .int .u64 0, .int .u64 (q - p)], .int .i64 0]) (by simp [results, Tryz.results182, go_sem, q0, q1, q2]) rfl ?_
 exact ⟨rfl, ((HB4.out.setCell (by show w.heap.size ≤ w.heap.size + 1 + 1; omega) _).setCell (by show w.heap.size ≤ w.heap.size + 1 + 1; omega) _).setCell (by show w.heap.size ≤ w.heap.size + 1 + 1; omega) _⟩
set_option maxRecDepth 100000 in
set_option maxHeartbeats 2000000 in
theorem wadd_eq (q : Int) (w : World) (h0 : 1 ≤ q) (h2 : q ≤ 18446744073709551615) : Calls Tryz.prog 182 #[WI.v ⟨false, 0, q⟩, WI.v ⟨true, 0, q⟩] w fun e w' => e = .returned (.tuple #[WI.v ⟨false, 0, 0⟩, .int .i64 0]) ∧ Below w.heap.size w w' := by
 have hb : Below w.heap.size w (((w.alloc (.cells #[.bool false, .int .u64 0, .int .u64 q] 67)).alloc (.cells #[.bool true, .int .u64 0, .int .u64 q] 67)).alloc (.cells #[.bool false, .int .u64 0, .int .u64 0] 67)) := by go_grown
 have kx := keepA (.cells #[.bool false, .int .u64 0, .int .u64 0] 67) (keepA (.cells #[.bool true, .int .u64 0, .int .u64 q] 67) (heap_alloc_new w (.cells #[.bool false, .int .u64 0, .int .u64 q] 67)))
 have ky := keepA (.cells #[.bool false, .int .u64 0, .int .u64 0] 67) (heap_alloc_new (w.alloc (.cells #[.bool false, .int .u64 0, .int .u64 q] 67)) (.cells #[.bool true, .int .u64 0, .int .u64 q] 67))
 have kr := heap_alloc_new ((w.alloc (.cells #[.bool false, .int .u64 0, .int .u64 q] 67)).alloc (.cells #[.bool true, .int .u64 0, .int .u64 q] 67)) (.cells #[.bool false, .int .u64 0, .int .u64 0] 67)
 rw [World.size_alloc] at ky
 rw [World.size_alloc, World.size_alloc] at kr
 have KX := Lib.hid kx
 have KY := Lib.hid ky
 have KR := Lib.hid kr
 have HB := Lib.hid hb
 clear kx ky kr hb
 dsimp only [WI.v]
 go_enter Tryz.func182, Tryz.ntmps182
 go_wp2_with fail
 refine (wcheck_any ⟨false, 0, q⟩ ⟨true, 0, q⟩ _ (wf_lo (by omega) (by omega)) (wf_lo (by omega) (by omega)) (by simp [WI.form]) (form_lo (by omega))).mono ?_
 rintro e w1 ⟨rfl, hb1⟩
 have hx1 := keep hb1 KX.out
 have hy1 := keep hb1 KY.out
 have hr1 := keep hb1 KR.out
 have x0 := cell_at hx1 0
 have x1 := cell_at hx1 1
 have x2 := cell_at hx1 2
 have y0 := cell_at hy1 0
 have y1 := cell_at hy1 1
 have y2 := cell_at hy1 2
 simp at x0 x1 x2 y0 y1 y2
 have HB1 := Lib.hid (HB.out.trans (hb1.mono HB.out.size))
 have HR1 := Lib.hid hr1
 have HX1 := Lib.hid hx1
 have HY1 := Lib.hid hy1
 clear hb1 hx1 hy1 hr1
 go_wp2_with fail
 refine (wsize_any ⟨false, 0, q⟩ ⟨true, 0, q⟩ _).mono ?_
 rintro e w2 ⟨rfl, hb2⟩
 rw [sizeF_eq]
 have hx2 := keep hb2 HX1.out
 have hy2 := keep hb2 HY1.out
 have hr2 := keep hb2 HR1.out
 have u0 := cell_at hx2 0
 have u1 := cell_at hx2 1
 have u2 := cell_at hx2 2
 have v0 := cell_at hy2 0
 have v1 := cell_at hy2 1
 have v2 := cell_at hy2 2
 have fu0 := free_at hx2 0
 have fu1 := free_at hx2 1
 have fu2 := free_at hx2 2
 have fv0 := free_at hy2 0
 have fv1 := free_at hy2 1
 have fv2 := free_at hy2 2
 simp at u0 u1 u2 v0 v1 v2
 have HB2 := Lib.hid (HB1.out.trans (hb2.mono HB1.out.size))
 have HX2 := Lib.hid hx2
 have HY2 := Lib.hid hy2
 have HR2 := Lib.hid hr2
 clear hb2 hx2 hy2 hr2 x0 x1 x2 y0 y1 y2
 have HB3 := HB2
 have HR3 := HR2
 go_wp2_with fail
 rw [run_callFunc_extern Tryz.func193 (by kernel_rfl) (by kernel_rfl) (by kernel_rfl) (e := sub64E) (by kernel_rfl), run_sub64E q q (by omega) (by omega) (by omega), Int.sub_self]
 simp only [Result.andThen]
 rw [Oper.upon_value]
 go_wp2
 rw [run_callFunc_extern Tryz.func193 (by kernel_rfl) (by kernel_rfl) (by kernel_rfl) (e := sub64E) (by kernel_rfl), run_sub64E 0 0 (by omega) (by omega) (by omega)]
 simp only [Result.andThen]
 rw [Oper.upon_value]
 go_wp2_with fail
 refine (wfit_any false 0 0 _ (by omega) (by omega) (by omega) (by omega)).mono ?_
 rintro e w4 ⟨rfl, hb4⟩
 rw [made_zero]
 have hr4 := keep hb4 HR3.out
 have q0 := cell_at hr4 0
 have q1 := cell_at hr4 1
 have q2 := cell_at hr4 2
 have g0 := free_at hr4 0
 have g1 := free_at hr4 1
 have g2 := free_at hr4 2
 simp at q0 q1 q2
 have HB4 := Lib.hid (HB3.out.trans (hb4.mono HB3.out.size))
 clear hb4 u0 u1 u2 v0 v1 v2
 dsimp only [WI.v]
 go_wp2_with fail
 refine bodyPost_ret (v := .tuple #[.agg #[.bool false, .int .u64 0, .int .u64 0], .int .i64 0]) (by simp [results, Tryz.results182, go_sem, q0, q1, q2]) rfl ?_
 exact ⟨rfl, ((HB4.out.setCell (by show w.heap.size ≤ w.heap.size + 1 + 1; omega) _).setCell (by show w.heap.size ≤ w.heap.size + 1 + 1; omega) _).setCell (by show w.heap.size ≤ w.heap.size + 1 + 1; omega) _⟩
end Go.Proofs.YthmpknlgkflhiabGreat
