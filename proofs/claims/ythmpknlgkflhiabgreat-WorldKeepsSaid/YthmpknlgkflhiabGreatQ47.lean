/- The worlds' laws' awake: answers that the document fixes by number. Printed by mkL5.py. -/
import Derived.Test.YthmpknlgkflhiabGreatQ45
import Derived.Test.YthmpknlgkflhiabGreatQ4
namespace Go.Proofs.YthmpknlgkflhiabGreat
open Go.RowKit
set_option linter.unusedVariables false
theorem sch18 : schemaCheck 1 cs18 = 0 := by kernel_rfl
theorem sis1 : ∀ s r, A1.rowAt h18 = some (s, r) → sIs s = true := by
 intro s r h
 rw [a_row1] at h
 cases h
 exact sIs2
theorem sis2 : ∀ s r, A2.rowAt h18 = some (s, r) → sIs s = true := by
 intro s r h
 rw [a_row2] at h
 cases h
 exact sIs6
theorem aw_sig {w0 w : World} {S : WS} {N WB pb ib : Nat} {I : List (Nat × Array Value)} (h : AwW w0 S N WB pb ib I w) (e : Int) (he : e ∈ S.ix.liveL) (s : Int) (hs : S.sigV e = s) : Calls Tryz.prog 24 #[.pointer (some ⟨WB, 0, none⟩), .int .u64 e] w fun en w' => en = .returned (.tuple #[.int .u32 s, .int .i64 0]) ∧ AwW w0 S N WB pb ib I w' := by
 obtain ⟨⟨d, h1', rfl, rfl, h4⟩, _⟩ := id h
 refine (wSig_is h1' e he).mono ?_
 rintro en w' ⟨rfl, hb⟩
 exact ⟨by rw [hs], h.below hb⟩
theorem a_in2 : h18 ∈ A2.ix.liveL := by
 have h : A2.ix.liveL = [h18] := by kernel_rfl
 rw [h]; simp
theorem b_caps : A5.caps = caps18 := by kernel_rfl
theorem b_heir : awaitAll (heir0 A5 1 cs18) [(g18, 2)] = (0, B1) := by
 unfold heir0
 rw [b_caps]
 exact b_all
theorem b_ix : B1.ix.liveL = [g18] := by kernel_rfl
def B2 : WS := B1.placeS g18 2 [q18]
theorem b_cnt : B2.cnt 2 = 1 := by kernel_rfl
theorem go18 (va : Option Addr) : cpsGo cs18 [] (p16 va) = 0 := by kernel_rfl
theorem fold18 (va : Option Addr) : foldS (comps (p16 va)) = 2 := by kernel_rfl
structure AwH (w0 : World) (S S2 : WS) (N WB XB pb ib : Nat) (I : List (Nat × Array Value)) (B : Nat) (w : World) : Prop where
 ex : ∃ d, WIn w d N ∧ d.S = S ∧ d.wb = WB ∧ Fresh w0 d w ∧ ∀ b, d.foot b → b < B
 hx : ∃ d, WIn w d 0 ∧ d.S = S2 ∧ d.wb = XB ∧ ∀ b, d.foot b → B ≤ b
 hp : w.heap[pb]? = some (.cells #[.int .i64 1, .slice (some ⟨ib, 0, none⟩) 1 1] 48 (0, 0))
 hi : w.heap[ib]? = some (.cells #[.bool false, .int .u64 0, .int .u64 7] 67 (0, 0))
 hI : ∀ x ∈ I, w.heap[x.1]? = some (.cells x.2 67 (0, 0))
 le : w0.heap.size ≤ B
section
variable {w0 w w' : World} {S S2 : WS} {N WB XB pb ib : Nat} {I : List (Nat × Array Value)} {B : Nat}
theorem AwH.below (h : AwH w0 S S2 N WB XB pb ib I B w) (hb : Below w.heap.size w w') : AwH w0 S S2 N WB XB pb ib I B w' := by
 obtain ⟨⟨d, h1, h2, h3, h4, h5⟩, ⟨d2, k1, k2, k3, k4⟩, h6, h7, h8, h9⟩ := h
 exact ⟨⟨d, h1.below hb, h2, h3, h4.below hb, h5⟩, ⟨d2, k1.below hb, k2, k3, k4⟩, keep hb h6, keep hb h7, fun x hx => keep hb (h8 x hx), h9⟩
theorem AwH.bel (h : AwH w0 S S2 N WB XB pb ib I B w) : Below w0.heap.size w0 w := by
 obtain ⟨⟨d, _, _, _, h4, _⟩, _⟩ := h
 exact h4.bel
theorem AwH.place (h : AwH w0 S B1 N WB XB pb ib I B w) {b : Nat} (hb : w.heap[b]? = some (.cells #[.int .i64 1, .slice (some ⟨ib, 0, none⟩) 1 1] 48 (0, 0))) : Calls Tryz.prog 26 #[.pointer (some ⟨XB, 0, none⟩), .int .u64 g18, .slice (some ⟨b, 0, none⟩) 1 1] w fun en w' => en = .returned (.int .i64 0) ∧ AwH w0 S B2 N WB XB pb ib I B w' := by
 obtain ⟨⟨d, h1, h2, h3, h4, h5⟩, ⟨d2, k1, k2, k3, k4⟩, h6, h7, h8, h9⟩ := h
 have hl : d2.x.ix.liveL = [g18] := by
  have := congrArg WS.ix k2
  rw [show d2.x.ix = _ from this]
  exact b_ix
 have he : g18 ∈ d2.x.ix.liveL := by rw [hl]; simp
 have hcs : d2.g.cs = cs18 := congrArg WS.cs k2
 have hw : d2.P.who g18 = some ⟨2, none⟩ := by
  have := congrArg (fun S => WS.who S g18) k2
  exact this
 obtain ⟨i, t, hpl, ht, hts⟩ : ∃ i t, d2.pl g18 = some ⟨i, none⟩ ∧ d2.T[i]? = some t ∧ t.set = 2 := by
  rcases k1.cases he with ⟨i, t, hpl, ht⟩ | ⟨i, r, t, hpl, ht⟩
  ·have := WMid.who_wait k1 hpl ht
   rw [hw] at this
   have h2 := congrArg (fun o => o.map Who.set) this
   exact ⟨i, t, hpl, ht, by simpa using h2.symm⟩
  ·obtain ⟨_, row, _, _, _, _, _, hw', _⟩ := WMid.who_row k1 hpl ht
   rw [hw] at hw'
   have h2 := congrArg (fun o => o.map Who.row) hw'
   simp at h2
 have hpo : PartsOk d2.g.cs (p16 (some ⟨ib, 0, none⟩)) := by
  rw [hcs]
  exact PartsOk.of sch18 (go18 _)
 have hpc := wPlace_ok k1 g18 he hpl ht (partsOne k1.raw hb h7) hpo ((fold18 _).trans hts.symm)
 rw [k3] at hpc
 refine hpc.mono ?_
 rintro en w' ⟨d3, m1, m2, m3, rfl, m5⟩
 rw [if_pos rfl, k2, hts] at m5
 have hF : ∀ x, d.foot x → ¬ d2.foot x := fun x hx hx2 => by have := h5 x hx; have := k4 x hx2; omega
 have hM : ∀ x, d2.foot x → Mut w x := fun x hx => k1.raw.mut hx
 have hlt := h1.raw
 refine ⟨rfl, ⟨d, WMid.out h1 m2.out hF hM, h2, h3, ⟨h4.bel.trans (m2.out.below k4 ?_ |>.mono h9), h4.foot⟩, h5⟩, ⟨d3, m1, m5, m3.trans k3, fun x hx => ?_⟩, m2.keep h6 (k1.raw.not_foot h6 (partK _ (.inl rfl))), m2.keep h7 (k1.raw.not_foot h7 (partK _ (.inr rfl))), fun x hx => m2.keep (h8 x hx) (k1.raw.not_foot (h8 x hx) (partK _ (.inr rfl))), h9⟩
 ·have := k1.raw.lt (.inl rfl)
  have := k4 _ (.inl rfl)
  omega
 ·rcases m2.foot x hx with hx | hx
  ·exact k4 x hx
  ·have := k1.raw.lt (.inl rfl)
   have := k4 _ (.inl rfl)
   omega
end
theorem awh_count {w0 w : World} {WB XB pb ib : Nat} {I : List (Nat × Array Value)} {B : Nat} (h : AwH w0 A5 B2 6 WB XB pb ib I B w) : Calls Tryz.prog 18 #[.pointer (some ⟨XB, 0, none⟩), .int .u32 2] w fun e w' => e = .returned (.int .i64 1) ∧ w = w' := by
 obtain ⟨_, ⟨d2, k1, k2, k3, _⟩, _⟩ := h
 have := wCount_any k1 2 (by omega) (by omega)
 rw [k3, k2, b_cnt] at this
 exact this
theorem awh_sigs {w0 w : World} {WB XB pb ib : Nat} {I : List (Nat × Array Value)} {B : Nat} (h : AwH w0 A5 B2 6 WB XB pb ib I B w) : Calls Tryz.prog 11 #[.pointer (some ⟨WB, 0, none⟩)] w fun e w' => ∃ va vc, e = .returned (.slice va 4 vc) ∧ Below w.heap.size w w' := by
 obtain ⟨⟨d, k1, k2, k3, _⟩, _⟩ := h
 have hl : d.g.ts.length = 4 := by
  have h1 : d.g.sigs = A5.sets := congrArg WS.sets k2
  rw [← sigs_len, h1]; exact a_sets
 have := wSigs_any k1.raw
 rw [k3] at this
 refine this.mono ?_
 rintro e w' ⟨va, vc, rfl, _, hb⟩
 rw [hl]
 exact ⟨va, vc, rfl, hb⟩
def IsSl4 : Value → World → Prop := fun v _ => ∃ a c, v = .slice a 4 c
theorem lasts_sl4 : Lasts IsSl4 := fun _ _ _ h _ => h
def a_list (vb vcap WB XB : Nat) : List (Value → World → Prop) :=
 [IsV (.int .i64 0),
  IsV (.bool true),
  IsV (.bool true),
  IsV (.int .u64 4294967297),
  IsV (.bool true),
  IsV (.bool true),
  IsV (.bool true),
  IsV (.int .i64 0),
  IsV (.bool true),
  IsV (.bool true),
  IsV (.bool true),
  IsV (.int .i64 7),
  IsV (.bool true),
  IsV (.bool true),
  IsV (.bool true),
  IsV (.int .i64 0),
  IsV (.bool true),
  IsV (.bool true),
  IsV (.bool true),
  IsV (.slice (some ⟨vb, 0, none⟩) 1 vcap),
  IsV (.int .i64 1),
  IsV (.bool true),
  IsV (.bool true),
  IsV (.bool true),
  IsV (.slice (some ⟨vb, 0, none⟩) 1 vcap),
  IsV (.pointer (some ⟨vb, 0, none⟩)),
  IsV (.agg #[.bool false, .int .u64 0, .int .u64 7]),
  IsV (.agg #[.bool false, .int .u64 0, .int .u64 7]),
  IsV (.bool true),
  IsV (.bool true),
  IsV (.bool true),
  IsV (.int .i64 0),
  IsV (.bool true),
  IsV (.bool true),
  IsV (.bool true),
  IsV (.int .u32 6),
  IsV (.bool true),
  IsV (.bool true),
  IsV (.bool true),
  IsV (.int .i64 0),
  IsV (.bool true),
  IsV (.bool true),
  IsV (.bool true),
  IsV (.int .i64 6),
  IsV (.bool true),
  IsV (.bool true),
  IsV (.bool true),
  IsV (.int .i64 0),
  IsV (.bool true),
  IsV (.bool true),
  IsV (.bool true),
  IsV (.int .u64 8589934593),
  IsV (.bool true),
  IsV (.bool true),
  IsV (.bool true),
  IsV (.int .i64 0),
  IsV (.bool true),
  IsV (.bool true),
  IsV (.bool true),
  IsV (.int .i64 0),
  IsV (.bool true),
  IsV (.bool true),
  IsV (.bool true),
  IsV (.pointer (some ⟨XB, 0, none⟩)),
  IsV (.int .i64 1),
  IsV (.bool true),
  IsV (.bool true),
  IsV (.bool true),
  IsV (.pointer (some ⟨WB, 0, none⟩)),
  IsSl4,
  IsV (.int .i64 4),
  IsV (.bool true),
  IsV (.bool true),
  IsV (.bool true),
  IsV (.agg #[.int .i64 0, .int .i64 0, .int .i64 0, .int .i64 0, .int .i64 0, .int .i64 0]),
  IsV (.int .i64 1),
  IsV (.bool true),
  IsV (.bool true),
  IsV (.bool true)]
theorem a_list_lasts (vb vcap WB XB : Nat) : ∀ p ∈ a_list vb vcap WB XB, Lasts p := by
 simp only [a_list, List.mem_cons, List.not_mem_nil, or_false]
 rintro p hp
 repeat (rcases hp with rfl | hp; first | exact lasts_v _ | exact lasts_sl4)
set_option maxRecDepth 100000 in
set_option maxHeartbeats 8000000 in
theorem awake18_any (w : World) : Calls Tryz.prog 5 #[] w fun e w' => e = .returned (.bool true) ∧ Below w.heap.size w w' := by
 go_enter Tryz.func5, Tryz.ntmps5
 go_wp2_with fail
 refine (two18_any w).mono ?_
 rintro e w1 ⟨a, c, rfl, hcs, hb1⟩
 have HCS := Lib.hid hcs
 have HB1 := Lib.hid hb1
 clear hcs hb1
 go_wp2_with fail
 refine (caps18_any w1).mono ?_
 rintro e w2 ⟨rfl, hb2⟩
 have HB2 := Lib.hid (HB1.out.trans (hb2.mono HB1.out.size))
 have HCS2 := Lib.hid ((HCS.out.below hb2).mono hb2.size)
 clear hb2 HCS HB1
 go_wp2_with fail
 refine (wNew_any caps18 caps18_ok 1 cs18 _ _ _ 2 rfl w2 HCS2.out cs18_wf (by omega) cs18_f (fun h => by cases h) sch18).mono ?_
 rintro e w3 ⟨d, rfl, hW, hS, hF, hb3⟩
 obtain ⟨WB, hWB⟩ : ∃ WB, d.wb = WB := ⟨_, rfl⟩
 rw [hWB]
 have HD : Hid (∃ d, WIn w3 d 0 ∧ d.S = A0 ∧ d.wb = WB ∧ Fresh w d w3) := Lib.hid ⟨d, hW, hS, hWB, HB2.out.trans (hb3.mono HB2.out.size), fun b hb => Nat.le_trans HB2.out.size (hF b hb)⟩
 clear hW hS hF hb3 hWB HCS2 HB2
 go_wp2_with fail
 refine (wof_pos 7 _ (by omega) (by omega)).mono ?_
 rintro e w4 ⟨rfl, hb4⟩
 have HD4 : Hid (∃ d, WIn w4 d 0 ∧ d.S = A0 ∧ d.wb = WB ∧ Fresh w d w4) := Lib.hid (by
  obtain ⟨d, k1, k2, k3, k4⟩ := HD.out
  exact ⟨d, k1.below hb4, k2, k3, k4.below hb4⟩)
 clear hb4 HD
 unfold WI.v
 go_wp2_with fail
 have hA : AwW w A0 0 WB (w4.heap.size + 1) w4.heap.size [] (((w4.alloc (.cells #[.bool false, .int .u64 0, .int .u64 7] 67)).alloc (.cells #[.int .i64 1, .slice (some ⟨w4.heap.size, 0, none⟩) 1 1] 48)).alloc (.cells #[.int .i64 1, .slice (some ⟨w4.heap.size, 0, none⟩) 1 1] 48)) := by
  obtain ⟨d, k1, k2, k3, k4⟩ := HD4.out
  have hb : Below w4.heap.size w4 (((w4.alloc (.cells #[.bool false, .int .u64 0, .int .u64 7] 67)).alloc (.cells #[.int .i64 1, .slice (some ⟨w4.heap.size, 0, none⟩) 1 1] 48)).alloc (.cells #[.int .i64 1, .slice (some ⟨w4.heap.size, 0, none⟩) 1 1] 48)) := by go_grown
  have g1 := heap_alloc_new (w4.alloc (.cells #[.bool false, .int .u64 0, .int .u64 7] 67)) (.cells #[.int .i64 1, .slice (some ⟨w4.heap.size, 0, none⟩) 1 1] 48)
  rw [World.size_alloc] at g1
  exact ⟨⟨d, k1.below hb, k2, k3, k4.below hb⟩, keepA _ g1, keepA _ (keepA _ (heap_alloc_new w4 _)), fun x hx => by cases hx⟩
 have hnb := heap_alloc_new ((w4.alloc (.cells #[.bool false, .int .u64 0, .int .u64 7] 67)).alloc (.cells #[.int .i64 1, .slice (some ⟨w4.heap.size, 0, none⟩) 1 1] 48)) (.cells #[.int .i64 1, .slice (some ⟨w4.heap.size, 0, none⟩) 1 1] 48)
 rw [World.size_alloc, World.size_alloc] at hnb
 obtain ⟨IB, hIB⟩ : ∃ IB, w4.heap.size = IB := ⟨_, rfl⟩
 rw [hIB] at hA hnb ⊢
 generalize ((w4.alloc (.cells #[.bool false, .int .u64 0, .int .u64 7] 67)).alloc (.cells #[.int .i64 1, .slice (some ⟨IB, 0, none⟩) 1 1] 48)).alloc (.cells #[.int .i64 1, .slice (some ⟨IB, 0, none⟩) 1 1] 48) = w5 at *
 have HSP := Lib.hid (aw_spawn hA hnb a_spawn)
 clear hA hnb hIB HD4
 refine HSP.out.mono ?_
 rintro e w6 ⟨rfl, hA⟩
 rw [a_hand]
 replace hA : AwW w A1 0 WB (IB + 1) IB [] w6 := hA
 have H1 := Lib.hid (aw_add hA (by omega) h18 (by decide) (by decide) 2 0 a_add (if_pos rfl) sis1)
 clear hA HSP
 unfold h18 at H1 ⊢
 go_wp2_with fail
 refine H1.out.mono ?_
 rintro e w7 ⟨rfl, hA⟩
 replace hA : AwW w A2 2 WB (IB + 1) IB [] w7 := hA
 have H2 := Lib.hid (aw_add hA (by omega) h18 (by decide) (by decide) 2 7 a_add2 (if_neg (by decide)) sis2)
 clear hA H1
 unfold h18 at H2
 go_wp2_with fail
 refine H2.out.mono ?_
 rintro e w8 ⟨rfl, hA⟩
 have H3 := Lib.hid (aw_get hA h18 (by decide) 1 a_get a_getv)
 clear hA H2
 unfold h18 at H3
 go_wp2_with fail
 refine H3.out.mono ?_
 rintro e w9 ⟨vb, vcap, cur, rfl, hA, v0, v1, v2⟩
 have HV := Lib.hid (And.intro v0 (And.intro v1 v2))
 have H4 := Lib.hid (aw_sig hA h18 a_in2 6 a_sig)
 clear hA H3 v0 v1 v2
 unfold h18 at H4
 go_wp2_with fail
 refine H4.out.mono ?_
 rintro e w10 ⟨rfl, hA⟩
 have H5 := Lib.hid (aw_remove hA (by omega) h18 (by decide) (by decide) 1 a_remove sis2)
 clear hA H4
 unfold h18 at H5
 go_wp2_with fail
 refine H5.out.mono ?_
 rintro e w11 ⟨rfl, hA⟩
 replace hA : AwW w A3 6 WB (IB + 1) IB [(vb, cur)] w11 := hA
 have p0 := cell_at hA.hp 0
 have p1 := cell_at hA.hp 1
 simp at p0 p1
 have H6 := Lib.hid (aw_set hA h18 (by decide) (by decide) 6 a_set (by decide))
 clear hA H5
 unfold h18 at H6
 go_wp2_with fail
 refine H6.out.mono ?_
 rintro e w12 ⟨rfl, hA⟩
 have H7 := Lib.hid (aw_despawn hA h18 (by decide) (by decide) a_dead)
 clear hA H6 p0 p1
 unfold h18 at H7
 go_wp2_with fail
 refine H7.out.mono ?_
 rintro e w13 ⟨rfl, hA⟩
 replace hA : AwW w A4 6 WB (IB + 1) IB [(vb, cur)] w13 := hA
 have H8 := Lib.hid (aw_spawn0 hA a_spawn2)
 clear hA H7
 go_wp2_with fail
 refine H8.out.mono ?_
 rintro e w14 ⟨rfl, hA⟩
 rw [a_hand2]
 replace hA : AwW w A5 6 WB (IB + 1) IB [(vb, cur)] w14 := hA
 have HA5 := Lib.hid hA
 clear hA H8
 unfold g18
 go_wp2_with fail
 refine (two18_any w14).mono ?_
 rintro e w15 ⟨a2, c2, rfl, hcs, hb15⟩
 have HA6 := Lib.hid (HA5.out.below hb15)
 have HCS := Lib.hid hcs
 clear hcs hb15 HA5
 go_wp2_with fail
 have hb16 : Below w15.heap.size w15 (w15.alloc (.cells #[.int .u64 8589934593, .int .u32 2] 74)) := (Below.refl _ _).alloc (Nat.le_refl _) _
 have hk16 := heap_alloc_new w15 (.cells #[.int .u64 8589934593, .int .u32 2] 74)
 have HA7 := Lib.hid (HA6.out.below hb16)
 have HCS7 := Lib.hid ((HCS.out.below hb16).mono hb16.size)
 have haw : AwaitsAt (w15.alloc (.cells #[.int .u64 8589934593, .int .u32 2] 74)).heap.size (w15.alloc (.cells #[.int .u64 8589934593, .int .u32 2] 74)) (some ⟨w15.heap.size, 0, none⟩) 1 [(g18, 2)] := by
  refine ⟨rfl, by unfold maxLen; omega, .inr ⟨w15.heap.size, 0, rfl, lt_some hk16, fun i x hx => ?_⟩⟩
  match i, hx with
  | 0, hx =>
   cases hx
   exact ⟨by rw [cell_at hk16]; rfl, by rw [cell_at hk16]; rfl⟩
  | n + 1, hx => simp at hx
 have HAW := Lib.hid haw
 clear hb16 hk16 haw HA6 HCS
 generalize w15.alloc (.cells #[.int .u64 8589934593, .int .u32 2] 74) = w16 at *
 have HH : Hid (Calls Tryz.prog 25 #[.pointer (some ⟨WB, 0, none⟩), .agg #[.int .i64 1, .slice (some a2) 2 c2], .slice none 0 0, .slice (some ⟨w15.heap.size, 0, none⟩) 1 1] w16 fun en w' => ∃ XB, en = .returned (.tuple #[.pointer (some ⟨XB, 0, none⟩), .int .i64 0]) ∧ AwH w A5 B1 6 WB XB (IB + 1) IB [(vb, cur)] w16.heap.size w') := Lib.hid (by
  obtain ⟨⟨d, k1, k2, k3, k4⟩, h5, h6, h7⟩ := HA7.out
  have hl : d.x.ix.liveL = [g18] := by
   have := congrArg WS.ix k2
   rw [show d.x.ix = _ from this]
   exact a_live
  have hh := wHeir_any k1 1 cs18 (some a2) 2 c2 HCS7.out cs18_wf (by omega) cs18_f (fun h => by cases h) sch18 [(g18, 2)] _ 1 1 HAW.out (by rw [hl]; rfl) (fun x hx => by
   obtain rfl : x = (g18, 2) := by simpa using hx
   exact ⟨by decide, by decide⟩) (fun va vc fv B W _ => sort_one va 1 vc (by omega) fv W)
  rw [k3] at hh
  refine hh.mono ?_
  rintro en w' ⟨hb, hor⟩
  rw [k2, b_heir] at hor
  rcases hor with ⟨hn, _⟩ | ⟨_, d2, rfl, m1, m2, m3⟩
  ·exact absurd rfl hn
  ·exact ⟨_, rfl, ⟨d, k1.below hb, k2, k3, k4.below hb, fun b hf => k1.raw.lt hf⟩, ⟨d2, m1, m2, rfl, m3⟩, keep hb h5, keep hb h6, fun x hx => keep hb (h7 x hx), k4.bel.size⟩)
 clear HA7 HCS7 HAW
 refine HH.out.mono ?_
 rintro e w17 ⟨XB, rfl, hA⟩
 have p0 := cell_at hA.hp 0
 have p1 := cell_at hA.hp 1
 simp at p0 p1
 have HA8 := Lib.hid hA
 clear hA HH
 obtain ⟨BB, hBB⟩ : ∃ BB, w16.heap.size = BB := ⟨_, rfl⟩
 rw [hBB] at HA8
 clear hBB
 go_wp2_with fail
 have hb18 : Below w17.heap.size w17 (w17.alloc (.cells #[.int .i64 1, .slice (some ⟨IB, 0, none⟩) 1 1] 48)) := (Below.refl _ _).alloc (Nat.le_refl _) _
 have hk18 := heap_alloc_new w17 (.cells #[.int .i64 1, .slice (some ⟨IB, 0, none⟩) 1 1] 48)
 have HP := Lib.hid (AwH.place (HA8.out.below hb18) hk18)
 clear hb18 hk18 HA8 p0 p1
 unfold g18 at HP
 refine HP.out.mono ?_
 rintro e w19 ⟨rfl, hA⟩
 have HA9 := Lib.hid hA
 have HVV := Lib.hid HV.out
 have hvv := hA.hI (vb, cur) (by simp)
 have q0 := (cell_at hvv 0).trans HV.out.1
 have q1 := (cell_at hvv 1).trans HV.out.2.1
 have q2 := (cell_at hvv 2).trans HV.out.2.2
 clear hA hvv HP HV
 go_wp2_with fail
 clear q0 q1 q2
 dsimp only [List.append]
 refine wp_region_frame (by kernel_rfl) (by kernel_rfl) (by kernel_rfl) (byList (a_list vb vcap WB XB)) (lasts_list (a_list_lasts vb vcap WB XB)) ?_ ?_
 ·intro vs w' iq o A F hb ho hd
  have m4 : A.tmps[4]?.getD undef = (.int .i64 0) := F.m (by kernel_rfl) rfl
  have m3 : A.tmps[3]?.getD undef = (.int .u64 4294967297) := F.m (by kernel_rfl) rfl
  have m5 : A.tmps[5]?.getD undef = (.int .i64 0) := F.m (by kernel_rfl) rfl
  have m6 : A.tmps[6]?.getD undef = (.int .i64 7) := F.m (by kernel_rfl) rfl
  have m8 : A.tmps[8]?.getD undef = (.int .i64 0) := F.m (by kernel_rfl) rfl
  have m7 : A.tmps[7]?.getD undef = (.slice (some ⟨vb, 0, none⟩) 1 vcap) := F.m (by kernel_rfl) rfl
  have m10 : A.tmps[10]?.getD undef = (.int .i64 0) := F.m (by kernel_rfl) rfl
  have m9 : A.tmps[9]?.getD undef = (.int .u32 6) := F.m (by kernel_rfl) rfl
  have m11 : A.tmps[11]?.getD undef = (.int .i64 0) := F.m (by kernel_rfl) rfl
  have m12 : A.tmps[12]?.getD undef = (.int .i64 6) := F.m (by kernel_rfl) rfl
  have m13 : A.tmps[13]?.getD undef = (.int .i64 0) := F.m (by kernel_rfl) rfl
  have m14 : A.tmps[14]?.getD undef = (.int .u64 8589934593) := F.m (by kernel_rfl) rfl
  have m17 : A.tmps[17]?.getD undef = (.int .i64 0) := F.m (by kernel_rfl) rfl
  have m18 : A.tmps[18]?.getD undef = (.int .i64 0) := F.m (by kernel_rfl) rfl
  have m16 : A.tmps[16]?.getD undef = (.pointer (some ⟨XB, 0, none⟩)) := F.m (by kernel_rfl) rfl
  have m1 : A.tmps[1]?.getD undef = (.pointer (some ⟨WB, 0, none⟩)) := F.m (by kernel_rfl) rfl
  have G := F.light (n := 159) (by kernel_rfl)
  clear F
  have hA := HA9.out.below hb
  have hvv := hA.hI (vb, cur) (by simp)
  have q0 := (cell_at hvv 0).trans HVV.out.1
  have q1 := (cell_at hvv 1).trans HVV.out.2.1
  have q2 := (cell_at hvv 2).trans HVV.out.2.2
  have HA := Lib.hid hA
  clear hA hvv hb
  revert ho hd
  match iq with
  | 0 => intro ho hd; obtain rfl := (Option.some.inj ho).symm; clear hd ho; refine step_open rfl ?_; clear G; exact step_run (v := (.int .i64 0)) (by go_simp) rfl
  | 1 => intro ho hd; obtain rfl := (Option.some.inj ho).symm; have d0 : vs 0 = (.int .i64 0) := hd ⟨0, .data⟩ (by simp) rfl; clear hd ho; have h81 := G.h (j := 0) (d := 81) rfl (by decide) d0; refine step_open rfl ?_; clear G; exact step_run (v := (.bool true)) (by go_simp) rfl
  | 2 => intro ho hd; obtain rfl := (Option.some.inj ho).symm; have d1 : vs 1 = (.bool true) := hd ⟨1, .data⟩ (by simp) rfl; clear hd ho; have h82 := G.h (j := 1) (d := 82) rfl (by decide) d1; refine step_open rfl ?_; clear G; exact step_run (v := (.bool true)) (by go_simp) rfl
  | 3 => intro ho hd; obtain rfl := (Option.some.inj ho).symm; have d2 : vs 2 = (.bool true) := hd ⟨2, .guard⟩ (by simp) rfl; clear hd ho; refine step_yes G rfl rfl (by decide) d2 ?_; clear G; exact step_run (v := (.int .u64 4294967297)) (by go_simp) rfl
  | 4 => intro ho hd; obtain rfl := (Option.some.inj ho).symm; have d3 : vs 3 = (.int .u64 4294967297) := hd ⟨3, .data⟩ (by simp) rfl; have d2 : vs 2 = (.bool true) := hd ⟨2, .guard⟩ (by simp) rfl; clear hd ho; have h84 := G.h (j := 3) (d := 84) rfl (by decide) d3; refine step_yes G rfl rfl (by decide) d2 ?_; clear G; exact step_run (v := (.bool true)) (by go_simp) rfl
  | 5 => intro ho hd; obtain rfl := (Option.some.inj ho).symm; have d2 : vs 2 = (.bool true) := hd ⟨2, .data⟩ (by simp) rfl; have d4 : vs 4 = (.bool true) := hd ⟨4, .data⟩ (by simp) rfl; clear hd ho; have h83 := G.h (j := 2) (d := 83) rfl (by decide) d2; have h85 := G.h (j := 4) (d := 85) rfl (by decide) d4; refine step_open rfl ?_; clear G; exact step_run (v := (.bool true)) (by go_simp) rfl
  | 6 => intro ho hd; obtain rfl := (Option.some.inj ho).symm; have d5 : vs 5 = (.bool true) := hd ⟨5, .data⟩ (by simp) rfl; clear hd ho; have h86 := G.h (j := 5) (d := 86) rfl (by decide) d5; refine step_open rfl ?_; clear G; exact step_run (v := (.bool true)) (by go_simp) rfl
  | 7 => intro ho hd; obtain rfl := (Option.some.inj ho).symm; have d6 : vs 6 = (.bool true) := hd ⟨6, .guard⟩ (by simp) rfl; clear hd ho; refine step_yes G rfl rfl (by decide) d6 ?_; clear G; exact step_run (v := (.int .i64 0)) (by go_simp) rfl
  | 8 => intro ho hd; obtain rfl := (Option.some.inj ho).symm; have d7 : vs 7 = (.int .i64 0) := hd ⟨7, .data⟩ (by simp) rfl; have d6 : vs 6 = (.bool true) := hd ⟨6, .guard⟩ (by simp) rfl; clear hd ho; have h88 := G.h (j := 7) (d := 88) rfl (by decide) d7; refine step_yes G rfl rfl (by decide) d6 ?_; clear G; exact step_run (v := (.bool true)) (by go_simp) rfl
  | 9 => intro ho hd; obtain rfl := (Option.some.inj ho).symm; have d6 : vs 6 = (.bool true) := hd ⟨6, .data⟩ (by simp) rfl; have d8 : vs 8 = (.bool true) := hd ⟨8, .data⟩ (by simp) rfl; clear hd ho; have h87 := G.h (j := 6) (d := 87) rfl (by decide) d6; have h89 := G.h (j := 8) (d := 89) rfl (by decide) d8; refine step_open rfl ?_; clear G; exact step_run (v := (.bool true)) (by go_simp) rfl
  | 10 => intro ho hd; obtain rfl := (Option.some.inj ho).symm; have d9 : vs 9 = (.bool true) := hd ⟨9, .data⟩ (by simp) rfl; clear hd ho; have h90 := G.h (j := 9) (d := 90) rfl (by decide) d9; refine step_open rfl ?_; clear G; exact step_run (v := (.bool true)) (by go_simp) rfl
  | 11 => intro ho hd; obtain rfl := (Option.some.inj ho).symm; have d10 : vs 10 = (.bool true) := hd ⟨10, .guard⟩ (by simp) rfl; clear hd ho; refine step_yes G rfl rfl (by decide) d10 ?_; clear G; exact step_run (v := (.int .i64 7)) (by go_simp) rfl
  | 12 => intro ho hd; obtain rfl := (Option.some.inj ho).symm; have d11 : vs 11 = (.int .i64 7) := hd ⟨11, .data⟩ (by simp) rfl; have d10 : vs 10 = (.bool true) := hd ⟨10, .guard⟩ (by simp) rfl; clear hd ho; have h92 := G.h (j := 11) (d := 92) rfl (by decide) d11; refine step_yes G rfl rfl (by decide) d10 ?_; clear G; exact step_run (v := (.bool true)) (by go_simp) rfl
  | 13 => intro ho hd; obtain rfl := (Option.some.inj ho).symm; have d10 : vs 10 = (.bool true) := hd ⟨10, .data⟩ (by simp) rfl; have d12 : vs 12 = (.bool true) := hd ⟨12, .data⟩ (by simp) rfl; clear hd ho; have h91 := G.h (j := 10) (d := 91) rfl (by decide) d10; have h93 := G.h (j := 12) (d := 93) rfl (by decide) d12; refine step_open rfl ?_; clear G; exact step_run (v := (.bool true)) (by go_simp) rfl
  | 14 => intro ho hd; obtain rfl := (Option.some.inj ho).symm; have d13 : vs 13 = (.bool true) := hd ⟨13, .data⟩ (by simp) rfl; clear hd ho; have h94 := G.h (j := 13) (d := 94) rfl (by decide) d13; refine step_open rfl ?_; clear G; exact step_run (v := (.bool true)) (by go_simp) rfl
  | 15 => intro ho hd; obtain rfl := (Option.some.inj ho).symm; have d14 : vs 14 = (.bool true) := hd ⟨14, .guard⟩ (by simp) rfl; clear hd ho; refine step_yes G rfl rfl (by decide) d14 ?_; clear G; exact step_run (v := (.int .i64 0)) (by go_simp) rfl
  | 16 => intro ho hd; obtain rfl := (Option.some.inj ho).symm; have d15 : vs 15 = (.int .i64 0) := hd ⟨15, .data⟩ (by simp) rfl; have d14 : vs 14 = (.bool true) := hd ⟨14, .guard⟩ (by simp) rfl; clear hd ho; have h96 := G.h (j := 15) (d := 96) rfl (by decide) d15; refine step_yes G rfl rfl (by decide) d14 ?_; clear G; exact step_run (v := (.bool true)) (by go_simp) rfl
  | 17 => intro ho hd; obtain rfl := (Option.some.inj ho).symm; have d14 : vs 14 = (.bool true) := hd ⟨14, .data⟩ (by simp) rfl; have d16 : vs 16 = (.bool true) := hd ⟨16, .data⟩ (by simp) rfl; clear hd ho; have h95 := G.h (j := 14) (d := 95) rfl (by decide) d14; have h97 := G.h (j := 16) (d := 97) rfl (by decide) d16; refine step_open rfl ?_; clear G; exact step_run (v := (.bool true)) (by go_simp) rfl
  | 18 => intro ho hd; obtain rfl := (Option.some.inj ho).symm; have d17 : vs 17 = (.bool true) := hd ⟨17, .data⟩ (by simp) rfl; clear hd ho; have h98 := G.h (j := 17) (d := 98) rfl (by decide) d17; refine step_open rfl ?_; clear G; exact step_run (v := (.bool true)) (by go_simp) rfl
  | 19 => intro ho hd; obtain rfl := (Option.some.inj ho).symm; have d18 : vs 18 = (.bool true) := hd ⟨18, .guard⟩ (by simp) rfl; clear hd ho; refine step_yes G rfl rfl (by decide) d18 ?_; clear G; exact step_run (v := (.slice (some ⟨vb, 0, none⟩) 1 vcap)) (by go_simp) rfl
  | 20 => intro ho hd; obtain rfl := (Option.some.inj ho).symm; have d19 : vs 19 = (.slice (some ⟨vb, 0, none⟩) 1 vcap) := hd ⟨19, .data⟩ (by simp) rfl; have d18 : vs 18 = (.bool true) := hd ⟨18, .guard⟩ (by simp) rfl; clear hd ho; have h100 := G.h (j := 19) (d := 100) rfl (by decide) d19; refine step_yes G rfl rfl (by decide) d18 ?_; clear G; exact step_run (v := (.int .i64 1)) (by go_simp) rfl
  | 21 => intro ho hd; obtain rfl := (Option.some.inj ho).symm; have d20 : vs 20 = (.int .i64 1) := hd ⟨20, .data⟩ (by simp) rfl; have d18 : vs 18 = (.bool true) := hd ⟨18, .guard⟩ (by simp) rfl; clear hd ho; have h101 := G.h (j := 20) (d := 101) rfl (by decide) d20; refine step_yes G rfl rfl (by decide) d18 ?_; clear G; exact step_run (v := (.bool true)) (by go_simp) rfl
  | 22 => intro ho hd; obtain rfl := (Option.some.inj ho).symm; have d18 : vs 18 = (.bool true) := hd ⟨18, .data⟩ (by simp) rfl; have d21 : vs 21 = (.bool true) := hd ⟨21, .data⟩ (by simp) rfl; clear hd ho; have h99 := G.h (j := 18) (d := 99) rfl (by decide) d18; have h102 := G.h (j := 21) (d := 102) rfl (by decide) d21; refine step_open rfl ?_; clear G; exact step_run (v := (.bool true)) (by go_simp) rfl
  | 23 => intro ho hd; obtain rfl := (Option.some.inj ho).symm; have d22 : vs 22 = (.bool true) := hd ⟨22, .data⟩ (by simp) rfl; clear hd ho; have h103 := G.h (j := 22) (d := 103) rfl (by decide) d22; refine step_open rfl ?_; clear G; exact step_run (v := (.bool true)) (by go_simp) rfl
  | 24 => intro ho hd; obtain rfl := (Option.some.inj ho).symm; have d23 : vs 23 = (.bool true) := hd ⟨23, .guard⟩ (by simp) rfl; clear hd ho; refine step_yes G rfl rfl (by decide) d23 ?_; clear G; exact step_run (v := (.slice (some ⟨vb, 0, none⟩) 1 vcap)) (by go_simp) rfl
  | 25 => intro ho hd; obtain rfl := (Option.some.inj ho).symm; have d24 : vs 24 = (.slice (some ⟨vb, 0, none⟩) 1 vcap) := hd ⟨24, .data⟩ (by simp) rfl; have d23 : vs 23 = (.bool true) := hd ⟨23, .guard⟩ (by simp) rfl; clear hd ho; have h105 := G.h (j := 24) (d := 105) rfl (by decide) d24; refine step_yes G rfl rfl (by decide) d23 ?_; clear G; exact step_run (v := (.pointer (some ⟨vb, 0, none⟩))) (by go_simp) rfl
  | 26 => intro ho hd; obtain rfl := (Option.some.inj ho).symm; have d25 : vs 25 = (.pointer (some ⟨vb, 0, none⟩)) := hd ⟨25, .data⟩ (by simp) rfl; have d23 : vs 23 = (.bool true) := hd ⟨23, .guard⟩ (by simp) rfl; clear hd ho; have h106 := G.h (j := 25) (d := 106) rfl (by decide) d25; refine step_yes G rfl rfl (by decide) d23 ?_; clear G; exact step_run (v := (.agg #[.bool false, .int .u64 0, .int .u64 7])) (by go_simp) rfl
  | 27 => intro ho hd; obtain rfl := (Option.some.inj ho).symm; have d23 : vs 23 = (.bool true) := hd ⟨23, .guard⟩ (by simp) rfl; clear hd ho; refine step_yes G rfl rfl (by decide) d23 ?_; clear G; go_simp; refine (wof_pos 7 _ (by omega) (by omega)).mono ?_; rintro e w9 ⟨rfl, hb9⟩; exact ⟨_, rfl, rfl, hb9⟩
  | 28 => intro ho hd; obtain rfl := (Option.some.inj ho).symm; have d26 : vs 26 = (.agg #[.bool false, .int .u64 0, .int .u64 7]) := hd ⟨26, .data⟩ (by simp) rfl; have d27 : vs 27 = (.agg #[.bool false, .int .u64 0, .int .u64 7]) := hd ⟨27, .data⟩ (by simp) rfl; have d23 : vs 23 = (.bool true) := hd ⟨23, .guard⟩ (by simp) rfl; clear hd ho; have h107 := G.h (j := 26) (d := 107) rfl (by decide) d26; have h108 := G.h (j := 27) (d := 108) rfl (by decide) d27; refine step_yes G rfl rfl (by decide) d23 ?_; clear G; exact step_run (v := (.bool true)) (by go_simp) rfl
  | 29 => intro ho hd; obtain rfl := (Option.some.inj ho).symm; have d23 : vs 23 = (.bool true) := hd ⟨23, .data⟩ (by simp) rfl; have d28 : vs 28 = (.bool true) := hd ⟨28, .data⟩ (by simp) rfl; clear hd ho; have h104 := G.h (j := 23) (d := 104) rfl (by decide) d23; have h109 := G.h (j := 28) (d := 109) rfl (by decide) d28; refine step_open rfl ?_; clear G; exact step_run (v := (.bool true)) (by go_simp) rfl
  | 30 => intro ho hd; obtain rfl := (Option.some.inj ho).symm; have d29 : vs 29 = (.bool true) := hd ⟨29, .data⟩ (by simp) rfl; clear hd ho; have h110 := G.h (j := 29) (d := 110) rfl (by decide) d29; refine step_open rfl ?_; clear G; exact step_run (v := (.bool true)) (by go_simp) rfl
  | 31 => intro ho hd; obtain rfl := (Option.some.inj ho).symm; have d30 : vs 30 = (.bool true) := hd ⟨30, .guard⟩ (by simp) rfl; clear hd ho; refine step_yes G rfl rfl (by decide) d30 ?_; clear G; exact step_run (v := (.int .i64 0)) (by go_simp) rfl
  | 32 => intro ho hd; obtain rfl := (Option.some.inj ho).symm; have d31 : vs 31 = (.int .i64 0) := hd ⟨31, .data⟩ (by simp) rfl; have d30 : vs 30 = (.bool true) := hd ⟨30, .guard⟩ (by simp) rfl; clear hd ho; have h112 := G.h (j := 31) (d := 112) rfl (by decide) d31; refine step_yes G rfl rfl (by decide) d30 ?_; clear G; exact step_run (v := (.bool true)) (by go_simp) rfl
  | 33 => intro ho hd; obtain rfl := (Option.some.inj ho).symm; have d30 : vs 30 = (.bool true) := hd ⟨30, .data⟩ (by simp) rfl; have d32 : vs 32 = (.bool true) := hd ⟨32, .data⟩ (by simp) rfl; clear hd ho; have h111 := G.h (j := 30) (d := 111) rfl (by decide) d30; have h113 := G.h (j := 32) (d := 113) rfl (by decide) d32; refine step_open rfl ?_; clear G; exact step_run (v := (.bool true)) (by go_simp) rfl
  | 34 => intro ho hd; obtain rfl := (Option.some.inj ho).symm; have d33 : vs 33 = (.bool true) := hd ⟨33, .data⟩ (by simp) rfl; clear hd ho; have h114 := G.h (j := 33) (d := 114) rfl (by decide) d33; refine step_open rfl ?_; clear G; exact step_run (v := (.bool true)) (by go_simp) rfl
  | 35 => intro ho hd; obtain rfl := (Option.some.inj ho).symm; have d34 : vs 34 = (.bool true) := hd ⟨34, .guard⟩ (by simp) rfl; clear hd ho; refine step_yes G rfl rfl (by decide) d34 ?_; clear G; exact step_run (v := (.int .u32 6)) (by go_simp) rfl
  | 36 => intro ho hd; obtain rfl := (Option.some.inj ho).symm; have d35 : vs 35 = (.int .u32 6) := hd ⟨35, .data⟩ (by simp) rfl; have d34 : vs 34 = (.bool true) := hd ⟨34, .guard⟩ (by simp) rfl; clear hd ho; have h116 := G.h (j := 35) (d := 116) rfl (by decide) d35; refine step_yes G rfl rfl (by decide) d34 ?_; clear G; exact step_run (v := (.bool true)) (by go_simp) rfl
  | 37 => intro ho hd; obtain rfl := (Option.some.inj ho).symm; have d34 : vs 34 = (.bool true) := hd ⟨34, .data⟩ (by simp) rfl; have d36 : vs 36 = (.bool true) := hd ⟨36, .data⟩ (by simp) rfl; clear hd ho; have h115 := G.h (j := 34) (d := 115) rfl (by decide) d34; have h117 := G.h (j := 36) (d := 117) rfl (by decide) d36; refine step_open rfl ?_; clear G; exact step_run (v := (.bool true)) (by go_simp) rfl
  | 38 => intro ho hd; obtain rfl := (Option.some.inj ho).symm; have d37 : vs 37 = (.bool true) := hd ⟨37, .data⟩ (by simp) rfl; clear hd ho; have h118 := G.h (j := 37) (d := 118) rfl (by decide) d37; refine step_open rfl ?_; clear G; exact step_run (v := (.bool true)) (by go_simp) rfl
  | 39 => intro ho hd; obtain rfl := (Option.some.inj ho).symm; have d38 : vs 38 = (.bool true) := hd ⟨38, .guard⟩ (by simp) rfl; clear hd ho; refine step_yes G rfl rfl (by decide) d38 ?_; clear G; exact step_run (v := (.int .i64 0)) (by go_simp) rfl
  | 40 => intro ho hd; obtain rfl := (Option.some.inj ho).symm; have d39 : vs 39 = (.int .i64 0) := hd ⟨39, .data⟩ (by simp) rfl; have d38 : vs 38 = (.bool true) := hd ⟨38, .guard⟩ (by simp) rfl; clear hd ho; have h120 := G.h (j := 39) (d := 120) rfl (by decide) d39; refine step_yes G rfl rfl (by decide) d38 ?_; clear G; exact step_run (v := (.bool true)) (by go_simp) rfl
  | 41 => intro ho hd; obtain rfl := (Option.some.inj ho).symm; have d38 : vs 38 = (.bool true) := hd ⟨38, .data⟩ (by simp) rfl; have d40 : vs 40 = (.bool true) := hd ⟨40, .data⟩ (by simp) rfl; clear hd ho; have h119 := G.h (j := 38) (d := 119) rfl (by decide) d38; have h121 := G.h (j := 40) (d := 121) rfl (by decide) d40; refine step_open rfl ?_; clear G; exact step_run (v := (.bool true)) (by go_simp) rfl
  | 42 => intro ho hd; obtain rfl := (Option.some.inj ho).symm; have d41 : vs 41 = (.bool true) := hd ⟨41, .data⟩ (by simp) rfl; clear hd ho; have h122 := G.h (j := 41) (d := 122) rfl (by decide) d41; refine step_open rfl ?_; clear G; exact step_run (v := (.bool true)) (by go_simp) rfl
  | 43 => intro ho hd; obtain rfl := (Option.some.inj ho).symm; have d42 : vs 42 = (.bool true) := hd ⟨42, .guard⟩ (by simp) rfl; clear hd ho; refine step_yes G rfl rfl (by decide) d42 ?_; clear G; exact step_run (v := (.int .i64 6)) (by go_simp) rfl
  | 44 => intro ho hd; obtain rfl := (Option.some.inj ho).symm; have d43 : vs 43 = (.int .i64 6) := hd ⟨43, .data⟩ (by simp) rfl; have d42 : vs 42 = (.bool true) := hd ⟨42, .guard⟩ (by simp) rfl; clear hd ho; have h124 := G.h (j := 43) (d := 124) rfl (by decide) d43; refine step_yes G rfl rfl (by decide) d42 ?_; clear G; exact step_run (v := (.bool true)) (by go_simp) rfl
  | 45 => intro ho hd; obtain rfl := (Option.some.inj ho).symm; have d42 : vs 42 = (.bool true) := hd ⟨42, .data⟩ (by simp) rfl; have d44 : vs 44 = (.bool true) := hd ⟨44, .data⟩ (by simp) rfl; clear hd ho; have h123 := G.h (j := 42) (d := 123) rfl (by decide) d42; have h125 := G.h (j := 44) (d := 125) rfl (by decide) d44; refine step_open rfl ?_; clear G; exact step_run (v := (.bool true)) (by go_simp) rfl
  | 46 => intro ho hd; obtain rfl := (Option.some.inj ho).symm; have d45 : vs 45 = (.bool true) := hd ⟨45, .data⟩ (by simp) rfl; clear hd ho; have h126 := G.h (j := 45) (d := 126) rfl (by decide) d45; refine step_open rfl ?_; clear G; exact step_run (v := (.bool true)) (by go_simp) rfl
  | 47 => intro ho hd; obtain rfl := (Option.some.inj ho).symm; have d46 : vs 46 = (.bool true) := hd ⟨46, .guard⟩ (by simp) rfl; clear hd ho; refine step_yes G rfl rfl (by decide) d46 ?_; clear G; exact step_run (v := (.int .i64 0)) (by go_simp) rfl
  | 48 => intro ho hd; obtain rfl := (Option.some.inj ho).symm; have d47 : vs 47 = (.int .i64 0) := hd ⟨47, .data⟩ (by simp) rfl; have d46 : vs 46 = (.bool true) := hd ⟨46, .guard⟩ (by simp) rfl; clear hd ho; have h128 := G.h (j := 47) (d := 128) rfl (by decide) d47; refine step_yes G rfl rfl (by decide) d46 ?_; clear G; exact step_run (v := (.bool true)) (by go_simp) rfl
  | 49 => intro ho hd; obtain rfl := (Option.some.inj ho).symm; have d46 : vs 46 = (.bool true) := hd ⟨46, .data⟩ (by simp) rfl; have d48 : vs 48 = (.bool true) := hd ⟨48, .data⟩ (by simp) rfl; clear hd ho; have h127 := G.h (j := 46) (d := 127) rfl (by decide) d46; have h129 := G.h (j := 48) (d := 129) rfl (by decide) d48; refine step_open rfl ?_; clear G; exact step_run (v := (.bool true)) (by go_simp) rfl
  | 50 => intro ho hd; obtain rfl := (Option.some.inj ho).symm; have d49 : vs 49 = (.bool true) := hd ⟨49, .data⟩ (by simp) rfl; clear hd ho; have h130 := G.h (j := 49) (d := 130) rfl (by decide) d49; refine step_open rfl ?_; clear G; exact step_run (v := (.bool true)) (by go_simp) rfl
  | 51 => intro ho hd; obtain rfl := (Option.some.inj ho).symm; have d50 : vs 50 = (.bool true) := hd ⟨50, .guard⟩ (by simp) rfl; clear hd ho; refine step_yes G rfl rfl (by decide) d50 ?_; clear G; exact step_run (v := (.int .u64 8589934593)) (by go_simp) rfl
  | 52 => intro ho hd; obtain rfl := (Option.some.inj ho).symm; have d51 : vs 51 = (.int .u64 8589934593) := hd ⟨51, .data⟩ (by simp) rfl; have d50 : vs 50 = (.bool true) := hd ⟨50, .guard⟩ (by simp) rfl; clear hd ho; have h132 := G.h (j := 51) (d := 132) rfl (by decide) d51; refine step_yes G rfl rfl (by decide) d50 ?_; clear G; exact step_run (v := (.bool true)) (by go_simp) rfl
  | 53 => intro ho hd; obtain rfl := (Option.some.inj ho).symm; have d50 : vs 50 = (.bool true) := hd ⟨50, .data⟩ (by simp) rfl; have d52 : vs 52 = (.bool true) := hd ⟨52, .data⟩ (by simp) rfl; clear hd ho; have h131 := G.h (j := 50) (d := 131) rfl (by decide) d50; have h133 := G.h (j := 52) (d := 133) rfl (by decide) d52; refine step_open rfl ?_; clear G; exact step_run (v := (.bool true)) (by go_simp) rfl
  | 54 => intro ho hd; obtain rfl := (Option.some.inj ho).symm; have d53 : vs 53 = (.bool true) := hd ⟨53, .data⟩ (by simp) rfl; clear hd ho; have h134 := G.h (j := 53) (d := 134) rfl (by decide) d53; refine step_open rfl ?_; clear G; exact step_run (v := (.bool true)) (by go_simp) rfl
  | 55 => intro ho hd; obtain rfl := (Option.some.inj ho).symm; have d54 : vs 54 = (.bool true) := hd ⟨54, .guard⟩ (by simp) rfl; clear hd ho; refine step_yes G rfl rfl (by decide) d54 ?_; clear G; exact step_run (v := (.int .i64 0)) (by go_simp) rfl
  | 56 => intro ho hd; obtain rfl := (Option.some.inj ho).symm; have d55 : vs 55 = (.int .i64 0) := hd ⟨55, .data⟩ (by simp) rfl; have d54 : vs 54 = (.bool true) := hd ⟨54, .guard⟩ (by simp) rfl; clear hd ho; have h136 := G.h (j := 55) (d := 136) rfl (by decide) d55; refine step_yes G rfl rfl (by decide) d54 ?_; clear G; exact step_run (v := (.bool true)) (by go_simp) rfl
  | 57 => intro ho hd; obtain rfl := (Option.some.inj ho).symm; have d54 : vs 54 = (.bool true) := hd ⟨54, .data⟩ (by simp) rfl; have d56 : vs 56 = (.bool true) := hd ⟨56, .data⟩ (by simp) rfl; clear hd ho; have h135 := G.h (j := 54) (d := 135) rfl (by decide) d54; have h137 := G.h (j := 56) (d := 137) rfl (by decide) d56; refine step_open rfl ?_; clear G; exact step_run (v := (.bool true)) (by go_simp) rfl
  | 58 => intro ho hd; obtain rfl := (Option.some.inj ho).symm; have d57 : vs 57 = (.bool true) := hd ⟨57, .data⟩ (by simp) rfl; clear hd ho; have h138 := G.h (j := 57) (d := 138) rfl (by decide) d57; refine step_open rfl ?_; clear G; exact step_run (v := (.bool true)) (by go_simp) rfl
  | 59 => intro ho hd; obtain rfl := (Option.some.inj ho).symm; have d58 : vs 58 = (.bool true) := hd ⟨58, .guard⟩ (by simp) rfl; clear hd ho; refine step_yes G rfl rfl (by decide) d58 ?_; clear G; exact step_run (v := (.int .i64 0)) (by go_simp) rfl
  | 60 => intro ho hd; obtain rfl := (Option.some.inj ho).symm; have d59 : vs 59 = (.int .i64 0) := hd ⟨59, .data⟩ (by simp) rfl; have d58 : vs 58 = (.bool true) := hd ⟨58, .guard⟩ (by simp) rfl; clear hd ho; have h140 := G.h (j := 59) (d := 140) rfl (by decide) d59; refine step_yes G rfl rfl (by decide) d58 ?_; clear G; exact step_run (v := (.bool true)) (by go_simp) rfl
  | 61 => intro ho hd; obtain rfl := (Option.some.inj ho).symm; have d58 : vs 58 = (.bool true) := hd ⟨58, .data⟩ (by simp) rfl; have d60 : vs 60 = (.bool true) := hd ⟨60, .data⟩ (by simp) rfl; clear hd ho; have h139 := G.h (j := 58) (d := 139) rfl (by decide) d58; have h141 := G.h (j := 60) (d := 141) rfl (by decide) d60; refine step_open rfl ?_; clear G; exact step_run (v := (.bool true)) (by go_simp) rfl
  | 62 => intro ho hd; obtain rfl := (Option.some.inj ho).symm; have d61 : vs 61 = (.bool true) := hd ⟨61, .data⟩ (by simp) rfl; clear hd ho; have h142 := G.h (j := 61) (d := 142) rfl (by decide) d61; refine step_open rfl ?_; clear G; exact step_run (v := (.bool true)) (by go_simp) rfl
  | 63 => intro ho hd; obtain rfl := (Option.some.inj ho).symm; have d62 : vs 62 = (.bool true) := hd ⟨62, .guard⟩ (by simp) rfl; clear hd ho; refine step_yes G rfl rfl (by decide) d62 ?_; clear G; exact step_run (v := (.pointer (some ⟨XB, 0, none⟩))) (by go_simp) rfl
  | 64 => intro ho hd; obtain rfl := (Option.some.inj ho).symm; have d63 : vs 63 = (.pointer (some ⟨XB, 0, none⟩)) := hd ⟨63, .data⟩ (by simp) rfl; have d62 : vs 62 = (.bool true) := hd ⟨62, .guard⟩ (by simp) rfl; clear hd ho; have h144 := G.h (j := 63) (d := 144) rfl (by decide) d63; refine step_yes G rfl rfl (by decide) d62 ?_; clear G; go_simp; refine (awh_count HA.out).mono ?_; rintro e w9 ⟨rfl, rfl⟩; exact ⟨_, rfl, rfl, Below.refl _ _⟩
  | 65 => intro ho hd; obtain rfl := (Option.some.inj ho).symm; have d64 : vs 64 = (.int .i64 1) := hd ⟨64, .data⟩ (by simp) rfl; have d62 : vs 62 = (.bool true) := hd ⟨62, .guard⟩ (by simp) rfl; clear hd ho; have h145 := G.h (j := 64) (d := 145) rfl (by decide) d64; refine step_yes G rfl rfl (by decide) d62 ?_; clear G; exact step_run (v := (.bool true)) (by go_simp) rfl
  | 66 => intro ho hd; obtain rfl := (Option.some.inj ho).symm; have d62 : vs 62 = (.bool true) := hd ⟨62, .data⟩ (by simp) rfl; have d65 : vs 65 = (.bool true) := hd ⟨65, .data⟩ (by simp) rfl; clear hd ho; have h143 := G.h (j := 62) (d := 143) rfl (by decide) d62; have h146 := G.h (j := 65) (d := 146) rfl (by decide) d65; refine step_open rfl ?_; clear G; exact step_run (v := (.bool true)) (by go_simp) rfl
  | 67 => intro ho hd; obtain rfl := (Option.some.inj ho).symm; have d66 : vs 66 = (.bool true) := hd ⟨66, .data⟩ (by simp) rfl; clear hd ho; have h147 := G.h (j := 66) (d := 147) rfl (by decide) d66; refine step_open rfl ?_; clear G; exact step_run (v := (.bool true)) (by go_simp) rfl
  | 68 => intro ho hd; obtain rfl := (Option.some.inj ho).symm; have d67 : vs 67 = (.bool true) := hd ⟨67, .guard⟩ (by simp) rfl; clear hd ho; refine step_yes G rfl rfl (by decide) d67 ?_; clear G; exact step_run (v := (.pointer (some ⟨WB, 0, none⟩))) (by go_simp) rfl
  | 69 => intro ho hd; obtain rfl := (Option.some.inj ho).symm; have d68 : vs 68 = (.pointer (some ⟨WB, 0, none⟩)) := hd ⟨68, .data⟩ (by simp) rfl; have d67 : vs 67 = (.bool true) := hd ⟨67, .guard⟩ (by simp) rfl; clear hd ho; have h149 := G.h (j := 68) (d := 149) rfl (by decide) d68; refine step_yes G rfl rfl (by decide) d67 ?_; clear G; go_simp; refine (awh_sigs HA.out).mono ?_; rintro e w9 ⟨va, vc, rfl, hb9⟩; exact ⟨_, rfl, ⟨va, vc, rfl⟩, hb9⟩
  | 70 => intro ho hd; obtain rfl := (Option.some.inj ho).symm; obtain ⟨sa, sc, d69⟩ : IsSl4 (vs 69) w' := hd ⟨69, .data⟩ (by simp) rfl; have d67 : vs 67 = (.bool true) := hd ⟨67, .guard⟩ (by simp) rfl; clear hd ho; have h150 := G.h (j := 69) (d := 150) rfl (by decide) d69; refine step_yes G rfl rfl (by decide) d67 ?_; clear G; exact step_run (v := (.int .i64 4)) (by go_simp) rfl
  | 71 => intro ho hd; obtain rfl := (Option.some.inj ho).symm; have d70 : vs 70 = (.int .i64 4) := hd ⟨70, .data⟩ (by simp) rfl; have d67 : vs 67 = (.bool true) := hd ⟨67, .guard⟩ (by simp) rfl; clear hd ho; have h151 := G.h (j := 70) (d := 151) rfl (by decide) d70; refine step_yes G rfl rfl (by decide) d67 ?_; clear G; exact step_run (v := (.bool true)) (by go_simp) rfl
  | 72 => intro ho hd; obtain rfl := (Option.some.inj ho).symm; have d67 : vs 67 = (.bool true) := hd ⟨67, .data⟩ (by simp) rfl; have d71 : vs 71 = (.bool true) := hd ⟨71, .data⟩ (by simp) rfl; clear hd ho; have h148 := G.h (j := 67) (d := 148) rfl (by decide) d67; have h152 := G.h (j := 71) (d := 152) rfl (by decide) d71; refine step_open rfl ?_; clear G; exact step_run (v := (.bool true)) (by go_simp) rfl
  | 73 => intro ho hd; obtain rfl := (Option.some.inj ho).symm; have d72 : vs 72 = (.bool true) := hd ⟨72, .data⟩ (by simp) rfl; clear hd ho; have h153 := G.h (j := 72) (d := 153) rfl (by decide) d72; refine step_open rfl ?_; clear G; exact step_run (v := (.bool true)) (by go_simp) rfl
  | 74 => intro ho hd; obtain rfl := (Option.some.inj ho).symm; have d73 : vs 73 = (.bool true) := hd ⟨73, .guard⟩ (by simp) rfl; clear hd ho; refine step_yes G rfl rfl (by decide) d73 ?_; clear G; exact step_run (v := (.agg #[.int .i64 0, .int .i64 0, .int .i64 0, .int .i64 0, .int .i64 0, .int .i64 0])) (by go_simp) rfl
  | 75 => intro ho hd; obtain rfl := (Option.some.inj ho).symm; have d74 : vs 74 = (.agg #[.int .i64 0, .int .i64 0, .int .i64 0, .int .i64 0, .int .i64 0, .int .i64 0]) := hd ⟨74, .data⟩ (by simp) rfl; have d73 : vs 73 = (.bool true) := hd ⟨73, .guard⟩ (by simp) rfl; clear hd ho; have h155 := G.h (j := 74) (d := 155) rfl (by decide) d74; refine step_yes G rfl rfl (by decide) d73 ?_; clear G; go_simp; refine (checkCaps_zero _).mono ?_; rintro e w9 ⟨rfl, hb9⟩; exact ⟨_, rfl, rfl, hb9⟩
  | 76 => intro ho hd; obtain rfl := (Option.some.inj ho).symm; have d75 : vs 75 = (.int .i64 1) := hd ⟨75, .data⟩ (by simp) rfl; have d73 : vs 73 = (.bool true) := hd ⟨73, .guard⟩ (by simp) rfl; clear hd ho; have h156 := G.h (j := 75) (d := 156) rfl (by decide) d75; refine step_yes G rfl rfl (by decide) d73 ?_; clear G; exact step_run (v := (.bool true)) (by go_simp) rfl
  | 77 => intro ho hd; obtain rfl := (Option.some.inj ho).symm; have d73 : vs 73 = (.bool true) := hd ⟨73, .data⟩ (by simp) rfl; have d76 : vs 76 = (.bool true) := hd ⟨76, .data⟩ (by simp) rfl; clear hd ho; have h154 := G.h (j := 73) (d := 154) rfl (by decide) d73; have h157 := G.h (j := 76) (d := 157) rfl (by decide) d76; refine step_open rfl ?_; clear G; exact step_run (v := (.bool true)) (by go_simp) rfl
  | 78 => intro ho hd; obtain rfl := (Option.some.inj ho).symm; have d77 : vs 77 = (.bool true) := hd ⟨77, .data⟩ (by simp) rfl; clear hd ho; have h158 := G.h (j := 77) (d := 158) rfl (by decide) d77; refine step_open rfl ?_; clear G; exact step_run (v := (.bool true)) (by go_simp) rfl
  | n + 79 => intro ho hd; simp at ho
 ·intro vs w' hb hR
  have hv : vs 78 = .bool true := hR 78 (by simp)
  have HB1 := Lib.hid (HA9.out.bel.trans (hb.mono HA9.out.bel.size))
  simp only [putAll, Act.put, List.setIfInBounds_toArray, List.set_cons_succ, List.set_cons_zero]
  rw [hv]
  clear hR hb hv
  go_wp2_with fail
  go_returns
  exact ⟨rfl, HB1.out⟩
end Go.Proofs.YthmpknlgkflhiabGreat
