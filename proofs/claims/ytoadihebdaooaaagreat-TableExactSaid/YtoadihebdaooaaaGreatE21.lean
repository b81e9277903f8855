/- The law's awake: answers that the document fixes by number. · The law's test of great schemas; deeds as they lie; what TableRoom's rounds keep. -/
import Derived.Test.YtoadihebdaooaaaGreatE20
namespace Go.Proofs.YtoadihebdaooaaaGreat
open Go.RowKit
set_option linter.unusedVariables false
def cs16 : List Cmp := [⟨1, ⟨#[97]⟩, [⟨⟨#[120]⟩, 6, 1⟩]⟩, ⟨2, ⟨#[98]⟩, []⟩]
def IsOne16 (w : World) (e : Ending) (w' : World) : Prop := ∃ a c, e = .returned (.agg #[.int .i64 1, .slice (some a) 2 c]) ∧ CompsAt w'.heap.size w' (some a) 2 cs16 ∧ Below w.heap.size w w'
set_option maxRecDepth 100000 in
theorem one16_any (w : World) : Calls Tryz.prog 72 #[] w (IsOne16 w) := by
  go_enter Tryz.func72, Tryz.ntmps72
  go_wp2_with fail
  go_returns
  refine ⟨_, _, rfl, ⟨rfl, by unfold maxLen; omega, .inr ⟨w.heap.size + 1 + 1, 0, rfl, by simp, ?_⟩⟩, by go_grown⟩
  intro i c hc
  have hh := heap_alloc_new ((w.alloc (.cells #[.int .i64 1, .slice (some ⟨w.heap.size + 1 + 1, 0, none⟩) 2 2] 24)).alloc (.cells #[.string ⟨#[120]⟩, .int .i64 6, .int .i64 1] 123)) (.cells #[.int .i64 1, .string ⟨#[97]⟩, .slice (some ⟨w.heap.size + 1, 0, none⟩) 1 1, .int .i64 2, .string ⟨#[98]⟩, .slice none 0 0] 112)
  rw [World.size_alloc, World.size_alloc] at hh
  have hf := keepA (.cells #[.int .i64 1, .string ⟨#[97]⟩, .slice (some ⟨w.heap.size + 1, 0, none⟩) 1 1, .int .i64 2, .string ⟨#[98]⟩, .slice none 0 0] 112) (heap_alloc_new (w.alloc (.cells #[.int .i64 1, .slice (some ⟨w.heap.size + 1 + 1, 0, none⟩) 2 2] 24)) (.cells #[.string ⟨#[120]⟩, .int .i64 6, .int .i64 1] 123))
  rw [World.size_alloc] at hf
  match i, hc with
  | 0, hc =>
    cases hc
    refine ⟨by rw [cell_at hh]; rfl, by rw [cell_at hh]; rfl, some ⟨w.heap.size + 1, 0, none⟩, 1, 1, by rw [cell_at hh]; rfl, ⟨rfl, by unfold maxLen; omega, .inr ⟨w.heap.size + 1, 0, rfl, by simp, fun j f hf' => ?_⟩⟩, fun h => by cases h⟩
    match j, hf' with
    | 0, hf' =>
      cases hf'
      exact ⟨by rw [cell_at hf]; rfl, by rw [cell_at hf]; rfl, by rw [cell_at hf]; rfl⟩
    | n + 1, hf' => simp at hf'
  | 1, hc =>
    cases hc
    exact ⟨by rw [cell_at hh]; rfl, by rw [cell_at hh]; rfl, none, 0, 0, by rw [cell_at hh]; rfl, ⟨rfl, by unfold maxLen; omega, .inl rfl⟩, fun _ => ⟨rfl, rfl⟩⟩
  | n + 2, hc => simp [cs16] at hc
theorem cs16_wf : CompsWf cs16 := by
  intro c hc
  simp only [cs16, List.mem_cons, List.not_mem_nil, or_false] at hc
  rcases hc with rfl | rfl
  · refine ⟨by decide, fun f hf => ?_⟩
    simp only [List.mem_cons, List.not_mem_nil, or_false] at hf
    subst hf
    decide
  · exact ⟨by decide, fun f hf => by cases hf⟩
theorem cs16_f : ∀ c ∈ cs16, c.fields.length ≤ 100000 := by
  intro c hc
  simp only [cs16, List.mem_cons, List.not_mem_nil, or_false] at hc
  rcases hc with rfl | rfl <;> decide
theorem ok16 : tableOk 1 cs16 2 2 = true := by kernel_rfl
theorem no16 : tableOk 1 cs16 8 1 = false := by kernel_rfl
theorem ids16 : (idsTo 2 24).map (findC · cs16) = [some ⟨1, ⟨#[97]⟩, [⟨⟨#[120]⟩, 6, 1⟩]⟩] := by kernel_rfl
def p16 (va : Option Addr) : List PW := [⟨1, va, 1, 1, [⟨false, 0, 7⟩]⟩]
theorem parts16 (va : Option Addr) : partsF (p16 va) = (2, 0) := by kernel_rfl
theorem go16 (va : Option Addr) : cpsGo [⟨1, ⟨#[97]⟩, [⟨⟨#[120]⟩, 6, 1⟩]⟩] [] (p16 va) = 0 := by kernel_rfl
theorem row16 (va : Option Addr) (x : CV) (h : x.c = ⟨1, ⟨#[97]⟩, [⟨⟨#[120]⟩, 6, 1⟩]⟩) : rowOf (p16 va) x = [7] := by
  unfold rowOf
  rw [h]
  kernel_rfl
def c16 : Cmp := ⟨1, ⟨#[97]⟩, [⟨⟨#[120]⟩, 6, 1⟩]⟩
theorem addErr16 {t : TD} {e : Int} (va : Option Addr) (h1 : t.cs = [c16]) (h2 : t.set = 2) (he : e ≠ 0) : addErr t e (p16 va) = if t.free = 0 then 5 else 0 := by
  have hg : cpsGo t.cs [] (p16 va) = 0 := by rw [h1]; exact go16 va
  unfold addErr
  rw [if_neg he, parts16, hg, h2]
  simp
/-- A block that is none of a table's own. -/
theorem TabIn.not_foot {B : Nat} {w : World} {t : TD} (h : TabIn B w t) {b : Nat} {cs : Array Value} {ty : TypeId} {fr : Nat × Nat} (hb : w.heap[b]? = some (.cells cs ty fr)) (h1 : ty ≠ 139 ∧ ty ≠ 61 ∧ ty ≠ 207 ∧ ty ≠ 192 ∧ ty ≠ 5) : ¬ t.foot b := by
  obtain ⟨a1, a2, a3, a4, a5⟩ := h1
  rintro (rfl | hf | ⟨d, hd, hf⟩)
  · rw [h.blk] at hb; cases hb; exact a1 rfl
  · obtain ⟨cur, h2⟩ := row_type h.entsR hf
    rw [h2] at hb; cases hb; exact a2 rfl
  · obtain ⟨cs', ty', fr', hh, ht⟩ := (h.colsA d hd).foot_ty hf
    rw [hh] at hb; cases hb
    rcases ht with rfl | rfl | rfl <;> contradiction
theorem parts16At {w : World} {pb ib : Nat} (hp : w.heap[pb]? = some (.cells #[.int .i64 1, .slice (some ⟨ib, 0, none⟩) 1 1] 85 (0, 0))) (hi : w.heap[ib]? = some (.cells #[.bool false, .int .u64 0, .int .u64 7] 148 (0, 0))) :
    PartsAt w.heap.size w (some ⟨pb, 0, none⟩) 1 1 (p16 (some ⟨ib, 0, none⟩)) := by
  refine ⟨rfl, Nat.le_refl _, by unfold maxLen; omega, fun p hpp => ?_, .inr ⟨pb, 0, rfl, lt_some hp, fun i p hpp => ?_⟩⟩
  · simp only [p16, List.mem_cons, List.not_mem_nil, or_false] at hpp
    subst hpp
    refine ⟨rfl, Nat.le_refl _, by show 1 ≤ maxLen; unfold maxLen; omega, fun x hx => ?_, .inr ⟨ib, 0, rfl, lt_some hi, fun i x hx => ?_⟩⟩
    · simp only [List.mem_cons, List.not_mem_nil, or_false] at hx
      subst hx
      exact wf_lo (by omega) (by omega)
    · match i, hx with
      | 0, hx =>
        cases hx
        exact ⟨by rw [cell_at hi]; rfl, by rw [cell_at hi]; rfl, by rw [cell_at hi]; rfl⟩
      | n + 1, hx => simp at hx
  · match i, hpp with
    | 0, hpp =>
      cases hpp
      exact ⟨by rw [cell_at hp]; rfl, by rw [cell_at hp]; rfl⟩
    | n + 1, hpp => simp [p16] at hpp
/-- What awake keeps from deed to deed. -/
structure Aw (w0 : World) (B pb ib : Nat) (t : TD) (w : World) : Prop where
  tab : TabIn B w t
  hp : w.heap[pb]? = some (.cells #[.int .i64 1, .slice (some ⟨ib, 0, none⟩) 1 1] 85 (0, 0))
  hi : w.heap[ib]? = some (.cells #[.bool false, .int .u64 0, .int .u64 7] 148 (0, 0))
  bel : Below w0.heap.size w0 w
  hB : w0.heap.size ≤ B
  cs : t.cs = [c16]
  set : t.set = 2
  most : t.most = 2
theorem Aw.next {w0 w w' : World} {B pb ib : Nat} {t t' : TD} (h : Aw w0 B pb ib t w) (ho : Out t.foot w w') (ht : TabIn B w' t') (h1 : t'.cs = t.cs) (h2 : t'.set = t.set) (h3 : t'.most = t.most) : Aw w0 B pb ib t' w' :=
  ⟨ht, ho.keep h.hp (h.tab.not_foot h.hp (by decide)), ho.keep h.hi (h.tab.not_foot h.hi (by decide)), h.bel.trans (ho.below (fun b hb => Nat.le_trans h.hB (h.tab.foot_ge hb).1) h.bel.size), h.hB, h1.trans h.cs, h2.trans h.set, h3.trans h.most⟩
theorem Aw.below {w0 w w' : World} {B pb ib : Nat} {t : TD} (h : Aw w0 B pb ib t w) (hb : Below w.heap.size w w') : Aw w0 B pb ib t w' := h.next (Out.of hb) (h.tab.below hb) rfl rfl rfl
theorem Aw.parts {w0 w : World} {B pb ib : Nat} {t : TD} (h : Aw w0 B pb ib t w) : ∀ w', Out t.cfoot w w' → PartsAt w'.heap.size w' (some ⟨pb, 0, none⟩) 1 1 (p16 (some ⟨ib, 0, none⟩)) := by
  intro w' ho
  have ho' := ho.mono (G := t.foot) (fun x hx => .inl (TabIn.cfoot_foot hx))
  exact parts16At (ho'.keep h.hp (h.tab.not_foot h.hp (by decide))) (ho'.keep h.hi (h.tab.not_foot h.hi (by decide)))
theorem Aw.col {w0 w : World} {B pb ib : Nat} {t : TD} (h : Aw w0 B pb ib t w) : ∃ x d, t.cps = [x] ∧ x.c = c16 ∧ t.cols = [d] := by
  have hc := h.cs
  unfold TD.cs at hc
  have hl := congrArg List.length hc
  simp at hl
  obtain ⟨x, hx⟩ := List.length_eq_one_iff.1 hl
  have hl2 : t.cols.length = 1 := by rw [h.tab.len]; exact hl
  obtain ⟨d, hd⟩ := List.length_eq_one_iff.1 hl2
  rw [hx] at hc
  exact ⟨x, d, hx, by simpa using hc, hd⟩
/-- Add, as awake asks it. -/
theorem add16 {w0 w : World} {B pb ib : Nat} {t : TD} (h : Aw w0 B pb ib t w) {R : List (List UInt8)} (hR : ∀ d ∈ t.cols, d.rows = R) (e : Int) (he : e ≠ 0) (hf : t.free ≠ 0) :
    Calls Tryz.prog 24 #[.pointer (some ⟨t.tb, 0, none⟩), .int .u64 e, .slice (some ⟨pb, 0, none⟩) 1 1] w fun en w' => en = .returned (.tuple #[.int .i64 (t.ents.length : Int), .int .i64 0]) ∧ ∃ t', Aw w0 B pb ib t' w' ∧ t'.tb = t.tb ∧ t'.ents = t.ents ++ [e] ∧ t'.kept = t.kept ∧ ∀ d ∈ t'.cols, d.rows = R ++ [[7]] := by
  have herr : addErr t e (p16 (some ⟨ib, 0, none⟩)) = 0 := by rw [addErr16 _ h.cs h.set he, if_neg hf]
  refine (tabAdd_ok h.tab e _ _ _ _ h.parts (by omega) herr).mono ?_
  rintro en w' ⟨rfl, ea, ec, D, ht', hput, hout, _⟩
  refine ⟨rfl, _, h.next hout ht' rfl rfl rfl, rfl, rfl, rfl, fun d' hd' => ?_⟩
  obtain ⟨x, d, hx, hxc, hd⟩ := h.col
  have hl : D.length = 1 := by have := ht'.len; simp only at this; rw [this, hx]; rfl
  obtain ⟨d1, hd1⟩ := List.length_eq_one_iff.1 hl
  have hdd : d' = d1 := by have h2 : d' ∈ D := hd'; rw [hd1] at h2; simpa using h2
  subst hdd
  have hp := hput 0 d d' (by rw [hd]; rfl) (by rw [hd1]; rfl) x (by rw [hx]; rfl)
  rw [hp.1, hR d (by rw [hd]; simp), row16 _ x hxc]
set_option maxRecDepth 100000 in
set_option maxHeartbeats 4000000 in
theorem awake16_any (w : World) : Calls Tryz.prog 31 #[] w fun e w' => e = .returned (.bool true) ∧ Below w.heap.size w w' := by
  go_enter Tryz.func31, Tryz.ntmps31
  go_wp2_with fail
  refine (one16_any w).mono ?_
  rintro e w1 ⟨a, c, rfl, hcs, hb1⟩
  have HCS := Lib.hid hcs
  have HB1 := Lib.hid hb1
  clear hcs hb1
  go_wp2_with fail
  refine (tableNew_any 1 cs16 _ _ _ 2 2 _ HCS.out cs16_wf cs16_f (by omega) (by omega)).mono ?_
  intro e w2 ht
  unfold IsTable at ht
  rw [ok16] at ht
  simp only [if_true] at ht
  obtain ⟨tb, rfl, htb, hnew, hb2⟩ := ht
  obtain ⟨t, h2, rfl, _, ht2, ht3, ht4, ht5, ht6⟩ := TabIn.of_new (most := 2) hnew ok16 (by omega) (by omega)
  have hcs : t.cs = [c16] := by
    rw [ids16] at ht6
    have h3 : t.cs.map some = [c16].map some := ht6.symm
    have h4 := congrArg (List.filterMap id) h3
    simpa using h4
  have H2 := Lib.hid (And.intro h2 (And.intro ht2 (And.intro ht3 (And.intro ht4 (And.intro ht5 hcs)))))
  have HB2 := Lib.hid (HB1.out.trans (hb2.mono HB1.out.size))
  have htb' : w.heap.size ≤ t.tb := by have := HB1.out.size; omega
  clear hnew hb2 h2 ht2 ht3 ht4 ht5 ht6 hcs htb HCS HB1
  obtain ⟨TB, hTB⟩ : ∃ TB, t.tb = TB := ⟨_, rfl⟩
  rw [hTB] at htb' ⊢
  have HTB := Lib.hid hTB
  clear hTB
  go_wp2_with fail
  refine (wof_pos 7 _ (by omega) (by omega)).mono ?_
  rintro e w3 ⟨rfl, hb3⟩
  have H3 := Lib.hid (H2.out.1.below hb3)
  have HB3 := Lib.hid (HB2.out.trans (hb3.mono HB2.out.size))
  clear hb3
  unfold WI.v
  go_wp2_with fail
  have hAw : Aw w TB (w3.heap.size + 1) w3.heap.size t ((w3.alloc (.cells #[.bool false, .int .u64 0, .int .u64 7] 148)).alloc (.cells #[.int .i64 1, .slice (some ⟨w3.heap.size, 0, none⟩) 1 1] 85)) := by
    have g1 := heap_alloc_new (w3.alloc (.cells #[.bool false, .int .u64 0, .int .u64 7] 148)) (.cells #[.int .i64 1, .slice (some ⟨w3.heap.size, 0, none⟩) 1 1] 85)
    rw [World.size_alloc] at g1
    have hz := HB3.out.size
    refine ⟨(by have := H3.out; rw [HTB.out] at this; exact this.below (((Below.refl _ _).alloc (Nat.le_refl _) _).alloc (by simp) _)), g1, keepA _ (heap_alloc_new w3 _), (HB3.out.alloc hz _).alloc (by simp; omega) _, htb', H2.out.2.2.2.2.2, H2.out.2.1, H2.out.2.2.1⟩
  obtain ⟨PB, hPB⟩ : ∃ PB, w3.heap.size = PB := ⟨_, rfl⟩
  rw [hPB] at hAw ⊢
  generalize (w3.alloc (.cells #[.bool false, .int .u64 0, .int .u64 7] 148)).alloc (.cells #[.int .i64 1, .slice (some ⟨PB, 0, none⟩) 1 1] 85) = W at *
  have h0 := H2.out.2.2.2.2.1
  have hk0 := H2.out.2.2.2.1
  have hR0 : ∀ d ∈ t.cols, d.rows = [] := fun d hd => by
    obtain ⟨x, d', hx, _, hdd⟩ := hAw.col
    rw [hdd] at hd
    obtain rfl : d = d' := by simpa using hd
    have := (hAw.tab.col 0 x d (by rw [hx]; rfl) (by rw [hdd]; rfl)).2.2.2
    rw [h0] at this
    exact List.eq_nil_of_length_eq_zero this
  have hm0 := hAw.most
  have hadd := add16 hAw hR0 9 (by omega) (by unfold TD.free; rw [hm0, h0, hk0]; decide)
  rw [HTB.out, show ((t.ents.length : Nat) : Int) = 0 by rw [h0]; rfl, h0, hk0] at hadd
  have HADD := Lib.hid hadd
  clear hadd hR0 hAw hm0 h0 hk0 hPB H3 HB3 HB2 H2
  refine HADD.out.mono ?_
  rintro en w5 ⟨rfl, t1, hA1, htb1, he1, hk1, hR1⟩
  have hm1 := hA1.most
  have hadd := add16 hA1 hR1 8 (by omega) (by unfold TD.free; rw [hm1, he1, hk1]; decide)
  rw [htb1, show ((t1.ents.length : Nat) : Int) = 1 by rw [he1]; rfl, he1, hk1] at hadd
  have HADD2 := Lib.hid hadd
  clear hadd hA1 htb1 he1 hk1 hR1 hm1 HADD HTB
  go_wp2_with fail
  refine HADD2.out.mono ?_
  rintro en w6 ⟨rfl, t2, hA2, htb2, he2, hk2, hR2⟩
  have hm2 := hA2.most
  have hf2 : t2.free = 0 := by unfold TD.free; rw [hm2, he2, hk2]; rfl
  have herr : addErr t2 6 (p16 (some ⟨PB, 0, none⟩)) = 5 := by rw [addErr16 _ hA2.cs hA2.set (by omega), if_pos hf2]
  have hadd := tabAdd_no hA2.tab 6 _ _ _ _ (hA2.parts w6 (Out.refl _ _)) (by omega) (by rw [herr]; decide)
  rw [herr, htb2] at hadd
  have HADD3 := Lib.hid hadd
  have HA2 := Lib.hid hA2
  have HT2 := Lib.hid (And.intro htb2 (And.intro he2 (And.intro hk2 hR2)))
  clear hadd hA2 htb2 he2 hk2 hR2 hm2 hf2 herr HADD2
  go_wp2_with fail
  refine HADD3.out.mono ?_
  rintro en w7 ⟨rfl, hb7⟩
  have HA3 := Lib.hid (HA2.out.below hb7)
  clear hb7 HADD3 HA2
  obtain ⟨x, d, hx, hxc, hd⟩ := HA3.out.col
  have hrow : d.rows = [[7], [7]] := HT2.out.2.2.2 d (by rw [hd]; simp)
  have hcol : colOf t2.cps 1 = some x := by unfold colOf; rw [hx, List.find?_cons]; simp [hxc, c16]
  have hcol2 : colOf t2.cps 2 = none := by unfold colOf; rw [hx, List.find?_cons]; simp [hxc, c16]
  have hby := tabBytes_in HA3.out.tab 0 0 x d [7] 1 (by rw [HT2.out.2.1]; decide) hcol (by rw [hx]; rfl) (by rw [hd]; rfl) (by rw [hrow]; rfl)
  rw [HT2.out.1] at hby
  have HBY := Lib.hid hby
  have HCOL2 := Lib.hid (And.intro hcol2 hx)
  clear hby hcol hcol2 hx hxc hd hrow
  go_wp2_with fail
  refine HBY.out.mono ?_
  rintro en w8 ⟨rfl, hb8⟩
  have HA4 := Lib.hid (HA3.out.below hb8)
  clear hb8 HBY HA3
  have hdr := tabDrop_ok HA4.out.tab 0 1 (by omega) (by rw [HT2.out.2.1]; rfl) 8 (by rw [HT2.out.2.1]; rfl)
  rw [HT2.out.1] at hdr
  have HDR := Lib.hid hdr
  clear hdr
  go_wp2_with fail
  refine HDR.out.mono ?_
  rintro en w9 ⟨rfl, D, ht9, _, hout9, _⟩
  have hA5 := HA4.out.next hout9 ht9 rfl rfl rfl
  have he5 : (t2.ents.set 0 8).take 1 = [8] := by rw [HT2.out.2.1]; rfl
  have hge := tabGet_no (t := { t2 with ents := (t2.ents.set 0 8).take 1, cols := D }) hA5.tab 0 2 (by unfold findErr; simp only [he5]; rw [HCOL2.out.1]; decide)
  have hfe : findErr { t2 with ents := (t2.ents.set 0 8).take 1, cols := D } 0 2 = 6 := by unfold findErr; simp only [he5]; rw [HCOL2.out.1]; rfl
  rw [hfe] at hge
  have htb5 : ({ t2 with ents := (t2.ents.set 0 8).take 1, cols := D } : TD).tb = TB := HT2.out.1
  have hfr5 : ({ t2 with ents := (t2.ents.set 0 8).take 1, cols := D } : TD).free = 1 := by unfold TD.free; simp only [he5]; have h1 := HA4.out.most; have h2 := HT2.out.2.2.1; rw [h1, h2]; rfl
  have hln5 : ({ t2 with ents := (t2.ents.set 0 8).take 1, cols := D } : TD).ents.length = 1 := by simp only [he5]; rfl
  have hk5 : ({ t2 with ents := (t2.ents.set 0 8).take 1, cols := D } : TD).kept = 0 := HT2.out.2.2.1
  rw [htb5] at hge
  clear ht9 hout9 hfe
  generalize ({ t2 with ents := (t2.ents.set 0 8).take 1, cols := D } : TD) = t5 at *
  have HGE := Lib.hid hge
  have HA5 := Lib.hid hA5
  have H5 := Lib.hid (And.intro htb5 (And.intro hfr5 (And.intro hln5 hk5)))
  clear hge hA5 htb5 hfr5 hln5 hk5 he5 HA4 HDR
  go_wp2_with fail
  refine HGE.out.mono ?_
  rintro en w10 ⟨rfl, hb10⟩
  have HA6 := Lib.hid (HA5.out.below hb10)
  clear hb10 HGE HA5
  have hln := tabLen_in HA6.out.tab
  rw [H5.out.1, H5.out.2.2.1] at hln
  have HLN := Lib.hid hln
  clear hln
  go_wp2_with fail
  refine HLN.out.mono ?_
  rintro en w11 ⟨rfl, rfl⟩
  have hrm := tabRoom_in HA6.out.tab
  rw [H5.out.1, H5.out.2.1] at hrm
  have HRM := Lib.hid hrm
  clear hrm HLN
  go_wp2_with fail
  refine HRM.out.mono ?_
  rintro en w12 ⟨rfl, q, rfl⟩
  have HA7 := Lib.hid (HA6.out.below (below_drewN (Below.refl _ _) q))
  have hkp := tabKeep_in HA7.out.tab
  rw [H5.out.1, if_neg (by rw [H5.out.2.1]; decide), if_neg (by rw [H5.out.2.1]; decide)] at hkp
  have HKP := Lib.hid hkp
  clear hkp HRM HA6
  go_wp2_with fail
  refine HKP.out.mono ?_
  rintro en w13 ⟨rfl, h13, hout13⟩
  obtain ⟨t6, hA8, hfr, hkk, htt⟩ : ∃ t6 : TD, Aw w TB (PB + 1) PB t6 w13 ∧ t6.free = 0 ∧ ((t6.kept : Nat) : Int) = 1 ∧ t6.tb = TB := by
    refine ⟨_, HA7.out.next hout13 h13 rfl rfl rfl, ?_, ?_, rfl⟩
    · have h1 := H5.out.2.1; unfold TD.free at h1 ⊢; show t5.most - t5.ents.length - (t5.kept + 1) = 0; omega
    · show ((t5.kept + 1 : Nat) : Int) = 1; rw [H5.out.2.2.2]; rfl
  clear h13 hout13
  have HA8 := Lib.hid hA8
  have hkt := tabKept_in hA8.tab
  have hrt := tabRoom_in hA8.tab
  rw [hkk, htt] at hkt
  rw [hfr, htt] at hrt
  have HKT := Lib.hid hkt
  have HRT := Lib.hid hrt
  clear hA8 hkt hrt hfr hkk htt HKP HA7
  go_wp2_with fail
  refine HKT.out.mono ?_
  rintro en w14 ⟨rfl, rfl⟩
  go_wp2_with fail
  refine HRT.out.mono ?_
  rintro en w15 ⟨rfl, q2, rfl⟩
  have HB8 := Lib.hid (below_drewN HA8.out.bel q2)
  clear HKT HRT HA8
  go_wp2_with fail
  refine (one16_any _).mono ?_
  rintro e w16 ⟨a2, c2, rfl, hcs2, hb16⟩
  have HCS2 := Lib.hid hcs2
  have HB9 := Lib.hid (HB8.out.trans (hb16.mono HB8.out.size))
  clear hcs2 hb16 HB8
  go_wp2_with fail
  refine (tableNew_any 1 cs16 _ _ _ 8 1 _ HCS2.out cs16_wf cs16_f (by omega) (by omega)).mono ?_
  intro e w17 ht
  unfold IsTable at ht
  rw [no16] at ht
  simp only [if_false, Bool.false_eq_true] at ht
  obtain ⟨rfl, hb17⟩ := ht
  have HB10 := Lib.hid (HB9.out.trans (hb17.mono HB9.out.size))
  clear hb17 HB9
  go_wp2_with fail
  go_ret
  exact ⟨rfl, HB10.out⟩
end Go.Proofs.YtoadihebdaooaaaGreat
namespace Go.Proofs.YtoadihebdaooaaaGreat
open Go.RowKit
set_option linter.unusedVariables false
def great16B (cs : List Cmp) : Bool := decide (30 < cs.length) || cs.any fun c => decide (12 < c.fields.length)
theorem great16_f {cs : List Cmp} (h : great16B cs = false) : ∀ c ∈ cs, c.fields.length ≤ 100000 := by
  intro c hc
  unfold great16B at h
  rw [Bool.or_eq_false_iff, List.any_eq_false] at h
  have := h.2 c hc
  simp at this
  omega
set_option maxRecDepth 100000 in
theorem great16_any (ver : Int) (cs : List Cmp) (a : Option Addr) (len cap : Nat) (w : World) (hcs : CompsAt w.heap.size w a len cs) : Calls Tryz.prog 32 #[.agg #[.int .i64 ver, .slice a len cap]] w fun e w' => e = .returned (.bool (great16B cs)) ∧ Below w.heap.size w w' := by
  have hmx : len ≤ maxLen := hcs.2.1
  have hll := hcs.1
  unfold maxLen at hmx
  have HLL := Lib.hid hll
  clear hll
  have hbel0 : Below w.heap.size w (w.alloc (.cells #[.int .i64 ver, .slice a len cap] 24)) := by go_grown
  by_cases h30 : 30 < len
  · have HT : Hid (great16B cs = true) := Lib.hid (by simp [great16B, HLL.out]; omega)
    go_enter Tryz.func32, Tryz.ntmps32
    go_wp2_with fail
    go_returns
    exact ⟨ret_bool HT.out.symm, hbel0⟩
  · go_enter Tryz.func32, Tryz.ntmps32
    go_wp2_with fail
    go_loopw [3] (fun i wr => ∃ k : Nat, k ≤ len ∧ i = .int .i64 k ∧ great16B cs = ((cs.drop k).any fun c => decide (12 < c.fields.length)) ∧ w.alloc (.cells #[.int .i64 ver, .slice a len cap] 24) = wr) (fun i _ => len - (intOf i).toNat)
    case atStart => exact ⟨0, Nat.zero_le _, rfl, by simp [great16B, HLL.out]; omega, rfl⟩
    case round =>
      obtain ⟨k, hk, rfl, hgo, rfl⟩ := hrel
      have HGO := Lib.hid hgo
      clear hgo
      by_cases hlt : k < len
      · obtain ⟨b, off, c, rfl, hB, hc, c0, c1, fa, fl, fc, c2, hF, hnil⟩ := hcs.get hbel0 hlt
        have hstep := Lib.hid (HGO.out.trans (by rw [drop_get hc]))
        have hfl := hF.1
        have hfm := hF.2.1
        unfold maxLen at hfm
        have HFL := Lib.hid hfl
        clear hF hfl
        by_cases h12 : 12 < fl
        · have HT : Hid (great16B cs = true) := Lib.hid (by rw [hstep.out, List.any_cons, HFL.out]; simp [h12])
          go_wp2_with fail
          go_returns
          exact ⟨ret_bool HT.out.symm, hbel0⟩
        · have HT := Lib.hid (hstep.out.trans (show _ = ((cs.drop (k + 1)).any fun c => decide (12 < c.fields.length)) by rw [List.any_cons, HFL.out]; simp [h12]))
          go_wp2_with fail
          go_roundw
          case rel => exact ⟨k + 1, by omega, by go_num, HT.out, by trivial⟩
          case measure => simp [intOf]; omega
      · obtain rfl : k = len := by omega
        have HT : Hid (great16B cs = false) := Lib.hid (by rw [HGO.out, List.drop_eq_nil_of_le (by rw [HLL.out]; exact Nat.le_refl _)]; rfl)
        go_wp2_with fail
        go_returns
        exact ⟨ret_bool HT.out.symm, hbel0⟩
/-- A deed of the law. -/
structure TA where
  kind : Int
  i : Int
  e : Int
  pa : Option Addr
  pl : Nat
  pc : Nat
  ps : List PW
/-- A slice of deeds that lies below block B. -/
def TActsAt (B : Nat) (w : World) (a : Option Addr) (len : Nat) (l : List TA) : Prop :=
  l.length = len ∧ len ≤ maxLen ∧ (∀ x ∈ l, PartsAt B w x.pa x.pl x.pc x.ps) ∧ (len = 0 ∨ ∃ b off, a = some ⟨b, off, none⟩ ∧ b < B ∧ ∀ (i : Nat) (x : TA), l[i]? = some x →
    w.cell? ⟨b, off + i * 4, none⟩ = some (.int .i64 x.kind) ∧ w.cell? ⟨b, off + i * 4 + 1, none⟩ = some (.int .i64 x.i) ∧ w.cell? ⟨b, off + i * 4 + 2, none⟩ = some (.int .u64 x.e) ∧ w.cell? ⟨b, off + i * 4 + 3, none⟩ = some (.slice x.pa x.pl x.pc))
theorem TActsAt.get {B : Nat} {w w' : World} {a : Option Addr} {len : Nat} {l : List TA} (h : TActsAt B w a len l) (hb : Below B w w') {k : Nat} (hk : k < len) :
    ∃ b off x, a = some ⟨b, off, none⟩ ∧ b < B ∧ l[k]? = some x ∧ PartsAt B w' x.pa x.pl x.pc x.ps ∧ w'.cell? ⟨b, off + k * 4, none⟩ = some (.int .i64 x.kind) ∧ w'.cell? ⟨b, off + k * 4 + 1, none⟩ = some (.int .i64 x.i) ∧ w'.cell? ⟨b, off + k * 4 + 2, none⟩ = some (.int .u64 x.e) ∧ w'.cell? ⟨b, off + k * 4 + 3, none⟩ = some (.slice x.pa x.pl x.pc) := by
  obtain ⟨h1, h2, h4, h3⟩ := h
  rcases h3 with h3 | ⟨b, off, ha, hB, hc⟩
  · omega
  · have hl : k < l.length := by omega
    obtain ⟨c0, c1, c2, c3⟩ := hc k _ (List.getElem?_eq_getElem hl)
    exact ⟨b, off, l[k], ha, hB, List.getElem?_eq_getElem hl, (h4 _ (List.getElem_mem hl)).below hb, (hb.cell (p := ⟨b, _, none⟩) hB).trans c0, (hb.cell (p := ⟨b, _, none⟩) hB).trans c1, (hb.cell (p := ⟨b, _, none⟩) hB).trans c2, (hb.cell (p := ⟨b, _, none⟩) hB).trans c3⟩
/-- What the law's rounds keep. -/
structure RoomS (w0 : World) (TB n : Nat) (t : TD) (w : World) : Prop where
  tab : TabIn TB w t
  tb : t.tb = TB
  most : t.most = n
  bel : Below w0.heap.size w0 w
  le : w0.heap.size ≤ TB
theorem RoomS.next {w0 w w' : World} {TB n : Nat} {t t' : TD} (h : RoomS w0 TB n t w) (ho : Out t.foot w w') (ht : TabIn TB w' t') (h1 : t'.tb = t.tb) (h2 : t'.most = t.most) : RoomS w0 TB n t' w' :=
  ⟨ht, h1.trans h.tb, h2.trans h.most, h.bel.trans (ho.below (fun b hb => Nat.le_trans h.le (h.tab.foot_ge hb).1) h.bel.size), h.le⟩
theorem RoomS.below {w0 w w' : World} {TB n : Nat} {t : TD} (h : RoomS w0 TB n t w) (hb : Below w.heap.size w w') : RoomS w0 TB n t w' := h.next (Out.of hb) (h.tab.below hb) rfl rfl
theorem RoomS.room {w0 w : World} {TB n : Nat} {t : TD} (h : RoomS w0 TB n t w) {fr : Nat} (hf : t.free = fr) : Calls Tryz.prog 29 #[.pointer (some ⟨TB, 0, none⟩)] w fun e w' => e = .returned (.int .i64 (fr : Int)) ∧ RoomS w0 TB n t w' := by
  have := tabRoom_in h.tab
  rw [h.tb, hf] at this
  exact this.mono fun e w' ⟨he, m, hm⟩ => ⟨he, by rw [hm]; exact h.below (below_drewN (Below.refl _ _) m)⟩
/-- Parts that lie below are left alone. -/
theorem RoomS.parts {w0 w : World} {TB n : Nat} {t : TD} (h : RoomS w0 TB n t w) {pa : Option Addr} {pl pc : Nat} {ps : List PW} (hp : PartsAt w0.heap.size w0 pa pl pc ps) : ∀ w', Out t.cfoot w w' → PartsAt w'.heap.size w' pa pl pc ps := by
  intro w' ho
  have hb : Below w0.heap.size w w' := ho.below (fun b hb => Nat.le_trans h.le (h.tab.foot_ge (TabIn.cfoot_foot hb)).1) h.bel.size
  have := h.bel.trans hb
  exact (hp.below this).mono this.size
end Go.Proofs.YtoadihebdaooaaaGreat
