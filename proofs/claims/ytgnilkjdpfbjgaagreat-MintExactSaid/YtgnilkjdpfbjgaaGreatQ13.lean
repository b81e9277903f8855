/- Copies of systems: bundle.clone. · What an upgrade brings that keeps each name: bundle.Plain. · Mint's schema, systems and bundle. -/
import Derived.Test.YtgnilkjdpfbjgaaGreatQ9
import Derived.Test.YtgnilkjdpfbjgaaGreatQ10
import Derived.Test.YtgnilkjdpfbjgaaGreatQ12
namespace Go.Proofs.YtgnilkjdpfbjgaaGreat
open Go.RowKit
set_option linter.unusedVariables false
theorem Tryz.infoSy : (Tryz.prog.info? 78).map (fun i => (i.zero, i.size, i.bytes)) = some (some (.agg #[.string ByteArray.empty, .int .i64 0, .slice none 0 0, .int .u32 0, .int .u32 0, .slice none 0 0]), 6, 80) := by kernel_rfl
def TS : Nat → TypeId → Prop := fun q t => t = 78 ∨ TQ q t
def cl_list (b : Nat) (va vc : Value) (x : SysT) : List (Value → World → Prop) := [IsV (.pointer (some ⟨b, 2, none⟩)), IsV va, fun v w => At w TQ (strsD x.after) v, IsV (.pointer (some ⟨b, 5, none⟩)), IsV vc, fun v w => At w TQ (opsD x.code) v, IsV (.pointer (some ⟨b, 2, none⟩))]
theorem cl_lasts (b : Nat) (va vc : Value) (x : SysT) : ∀ p ∈ cl_list b va vc x, Lasts p := by
  simp only [cl_list, List.mem_cons, List.not_mem_nil, or_false]
  rintro p hp
  rcases hp with rfl | rfl | rfl | rfl | rfl | rfl | rfl
  · exact lasts_v _
  · exact lasts_v _
  · exact fun v w w' h hb => h.below hb
  · exact lasts_v _
  · exact lasts_v _
  · exact fun v w w' h hb => h.below hb
  · exact lasts_v _
set_option maxRecDepth 100000 in
set_option maxHeartbeats 2000000 in
theorem bClone_any (l : List SysT) (w : World) (T : Nat → TypeId → Prop) (u : Value) (hu : At w T (syssD l) u) (hl : l.length ≤ 16) (hs : ∀ s ∈ l, s.after.length ≤ 1000 ∧ s.code.length ≤ 1000) :
    Calls Tryz.prog 52 #[u] w fun e w' => ∃ u', e = .returned u' ∧ At w' TS (syssD l) u' ∧ Below w.heap.size w w' := by
  obtain ⟨i0, hiI, hzA, hzB, hzC⟩ := info_parts Tryz.infoSy
  obtain ⟨la, lc, rfl, h1, h2, hrow⟩ := sys_at hu
  have HR := Lib.hid hrow
  have HS := Lib.hid hs
  clear hu hrow hs
  go_enter Tryz.func52, Tryz.ntmps52
  go_wp2_with fail
  go_loopw [3, 8] (fun o i wr => ∃ (k : Nat) (va : Option Addr) (vc : Nat), k ≤ l.length ∧ i = .int .i64 k ∧ o = .slice va k vc ∧ Own wr w.heap.size 78 6 TQ (.slice va k vc) k ((l.take k).flatMap sysD) ∧ Below w.heap.size w wr) (fun _ i _ => l.length - (intOf i).toNat)
  case atStart => exact ⟨0, none, 0, Nat.zero_le _, rfl, rfl, Own.nil (fun q h => by rcases h with h | h <;> exact absurd h (by decide)), Below.refl _ _⟩
  case round =>
    obtain ⟨k, va, vc, hk, rfl, rfl, hown, hbw⟩ := hrel
    have hzr := hbw.size
    by_cases hlt : k < l.length
    · have hx := List.getElem?_eq_getElem hlt
      generalize l[k] = x at *
      have HX := Lib.hid hx
      have hsx := HS.out x (List.mem_of_getElem? hx)
      obtain ⟨q, off, ua, uc, rfl, hq, d0, d1, d2, d3, d4, d5, hda, hdc⟩ := HR.out k x hx
      have d := fun o => hbw.cell (p := ⟨q, o, none⟩) hq
      replace d0 := (d _).trans d0
      replace d1 := (d _).trans d1
      replace d2 := (d _).trans d2
      replace d3 := (d _).trans d3
      replace d4 := (d _).trans d4
      replace d5 := (d _).trans d5
      obtain ⟨aa, ac, ca, cc, rfl, rfl⟩ := sys_slices hda hdc
      have HDA := Lib.hid (hda.below hbw)
      have HDC := Lib.hid (hdc.below hbw)
      have HOW := Lib.hid hown
      clear d hda hdc hown hx
      go_wp2_with fail
      go_upto_region 5 with (fail)
      have k0 := heap_alloc_new wr (.cells #[.string x.name, .int .i64 x.stage, .slice aa x.after.length ac, .int .u32 x.al, .int .u32 x.no, .slice ca x.code.length cc] 78)
      have hbW := (Below.refl wr.heap.size wr).alloc (Nat.le_refl _) (.cells #[.string x.name, .int .i64 x.stage, .slice aa x.after.length ac, .int .u32 x.al, .int .u32 x.no, .slice ca x.code.length cc] 78)
      generalize hW : wr.alloc (.cells #[.string x.name, .int .i64 x.stage, .slice aa x.after.length ac, .int .u32 x.al, .int .u32 x.no, .slice ca x.code.length cc] 78) = W at *
      have hWz : W.heap.size = wr.heap.size + 1 := by rw [← hW]; simp
      have HK := Lib.hid k0
      have HBW := Lib.hid hbW
      have hl0 := lt_some k0
      clear hW k0 hbW d0 d1 d2 d3 d4 d5
      refine wp_region_tail 7 (by kernel_rfl) (by kernel_rfl) (by kernel_rfl) (by decide) (by kernel_rfl) (byList (cl_list wr.heap.size (.slice aa x.after.length ac) (.slice ca x.code.length cc) x)) (lasts_list (cl_lasts _ _ _ _)) ?_ ?_
      · intro vs w' iq op A hi F hb hop hd
        have m5 : A.tmps[5]?.getD undef = (.pointer (some ⟨wr.heap.size, 0, none⟩)) := F.m (by kernel_rfl) rfl
        have G := F.light (n := 26) (by kernel_rfl)
        clear F
        have hk := keep hb HK.out
        have y2 := cell_at hk 2
        have y5 := cell_at hk 5
        simp at y2 y5
        have HB' := Lib.hid (HBW.out.trans (hb.mono (by omega)))
        clear hb hk
        revert hi hop hd
        match iq with
        | 0 => intro _ ho hd; obtain rfl := (Option.some.inj ho).symm; clear hd ho; refine step_open rfl ?_; clear G; exact step_run (v := (.pointer (some ⟨wr.heap.size, 2, none⟩))) (by go_simp) rfl
        | 1 => intro _ ho hd; obtain rfl := (Option.some.inj ho).symm; have d0 : vs 0 = (.pointer (some ⟨wr.heap.size, 2, none⟩)) := hd ⟨0, .data⟩ (by simp) rfl; clear hd ho; have h12 := G.h (j := 0) (d := 12) rfl (by decide) d0; refine step_open rfl ?_; clear G; exact step_run (v := (.slice aa x.after.length ac)) (by go_simp) rfl
        | 2 =>
          intro _ ho hd; obtain rfl := (Option.some.inj ho).symm
          have d1 : vs 1 = (.slice aa x.after.length ac) := hd ⟨1, .data⟩ (by simp) rfl
          clear hd ho
          have h13 := G.h (j := 1) (d := 13) rfl (by decide) d1
          refine step_open rfl ?_
          clear G
          go_simp
          refine (strsClone_any x.after w' T _ (HDA.out.below HB'.out) hsx.1).mono ?_
          rintro e5 w5 ⟨u5, rfl, hat5, hb5⟩
          exact ⟨_, rfl, hat5, hb5⟩
        | 3 => intro _ ho hd; obtain rfl := (Option.some.inj ho).symm; clear hd ho; refine step_open rfl ?_; clear G; exact step_run (v := (.pointer (some ⟨wr.heap.size, 5, none⟩))) (by go_simp) rfl
        | 4 => intro _ ho hd; obtain rfl := (Option.some.inj ho).symm; have d3 : vs 3 = (.pointer (some ⟨wr.heap.size, 5, none⟩)) := hd ⟨3, .data⟩ (by simp) rfl; clear hd ho; have h15 := G.h (j := 3) (d := 15) rfl (by decide) d3; refine step_open rfl ?_; clear G; exact step_run (v := (.slice ca x.code.length cc)) (by go_simp) rfl
        | 5 =>
          intro _ ho hd; obtain rfl := (Option.some.inj ho).symm
          have d4 : vs 4 = (.slice ca x.code.length cc) := hd ⟨4, .data⟩ (by simp) rfl
          clear hd ho
          have h16 := G.h (j := 4) (d := 16) rfl (by decide) d4
          refine step_open rfl ?_
          clear G
          go_simp
          refine (opsClone_any x.code w' T _ (HDC.out.below HB'.out) hsx.2).mono ?_
          rintro e5 w5 ⟨u5, rfl, hat5, hb5⟩
          exact ⟨_, rfl, hat5, hb5⟩
        | 6 => intro _ ho hd; obtain rfl := (Option.some.inj ho).symm; clear hd ho; refine step_open rfl ?_; clear G; exact step_run (v := (.pointer (some ⟨wr.heap.size, 2, none⟩))) (by go_simp) rfl
        | n + 7 =>
          intro hi
          exfalso
          omega
      · intro vs w5 A hA F hb hR
        have h2 : At w5 TQ (strsD x.after) (vs 2) := hR 2 (by decide)
        have h5 : At w5 TQ (opsD x.code) (vs 5) := hR 5 (by decide)
        have d6 : vs 6 = (.pointer (some ⟨wr.heap.size, 2, none⟩)) := hR 6 (by decide)
        obtain ⟨a2, n2, c2, e2⟩ : ∃ a n c, vs 2 = .slice a n c := by
          obtain ⟨a, c, h, _⟩ := h2.row
          exact ⟨_, _, _, h⟩
        obtain ⟨a5, n5, c5, e5⟩ : ∃ a n c, vs 5 = .slice a n c := by
          obtain ⟨a, c, h, _⟩ := h5.row
          exact ⟨_, _, _, h⟩
        rw [e2] at h2
        rw [e5] at h5
        have hk := keep hb HK.out
        have y2 := cell_at hk 2
        have y5 := cell_at hk 5
        have f2 := free_at hk 2
        have f5 := free_at hk 5
        simp at y2 y5
        have hl5 := lt_some hk
        have hb5 := HBW.out.trans (hb.mono (by omega))
        have nT : ¬ TQ wr.heap.size 78 := by rintro (h | h) <;> exact absurd h (by decide)
        have s1 := hset w5 wr.heap.size 2 (.slice a2 n2 c2) _ _ _ hk
        have s2 := hset _ wr.heap.size 5 (.slice a5 n5 c5) _ _ _ s1
        have t2 := (h2.set (o := 2) hk nT (.slice a2 n2 c2)).set (o := 5) s1 nT (.slice a5 n5 c5)
        have t5 := (h5.set (o := 2) hk nT (.slice a2 n2 c2)).set (o := 5) s1 nT (.slice a5 n5 c5)
        have hb6 : Below wr.heap.size wr ((w5.setCell ⟨wr.heap.size, 2, none⟩ (.slice a2 n2 c2)).setCell ⟨wr.heap.size, 5, none⟩ (.slice a5 n5 c5)) := (hb5.setCell (by simp) _).setCell (by simp) _
        have HT := Lib.hid (And.intro t2 (And.intro t5 hb6))
        have HS2 := Lib.hid s2
        clear F hR hb h2 h5 hk s1 s2 t2 t5 hb6 hb5
        subst hA
        simp only [List.drop_succ_cons, List.drop_zero, wpTail, putAll, Act.put, List.setIfInBounds_toArray, List.set_cons_succ, List.set_cons_zero]
        simp only [e2]
        simp only [e5]
        simp only [d6]
        clear e2 e5 d6
        go_simp
        clear y2 y5 f2 f5
        generalize hX : (w5.setCell ⟨wr.heap.size, 2, none⟩ (.slice a2 n2 c2)).setCell ⟨wr.heap.size, 5, none⟩ (.slice a5 n5 c5) = WX at *
        have z0 := cell_at HS2.out 0
        have z1 := cell_at HS2.out 1
        have z2 := cell_at HS2.out 2
        have z3 := cell_at HS2.out 3
        have z4 := cell_at HS2.out 4
        have z5 := cell_at HS2.out 5
        simp at z0 z1 z2 z3 z4 z5
        have hlx := lt_some HS2.out
        have HBX := Lib.hid (hbw.trans (HT.out.2.2.mono hzr))
        obtain ⟨⟨xs, hro, hrv⟩, hne⟩ := HOW.out.below HT.out.2.2
        have HRO := Lib.hid (hro.alloc (.cells #[.string x.name, .int .i64 x.stage, .slice a2 n2 c2, .int .u32 x.al, .int .u32 x.no, .slice a5 n5 c5] 78))
        have HRV := Lib.hid hrv
        have hra : ∀ y, (Value.slice va k vc).ownBlock = some y → w.heap.size ≤ y := fun y hy => (hro.lt y hy).1
        clear hro hrv hX
        go_wp2_with (at_builtin; go_loud (refine wpList_append_own _ rfl (.tmp 20) (.tmp 22) 26 rfl w.heap.size 78 i0 _ 6 80 Tryz.underlying26 hiI hzA hzB hzC rfl (by decide) (.slice va k vc) k xs rfl HRO.out ⟨WX.heap.size, 0, none⟩ 1 1 [.string x.name, .int .i64 x.stage, .slice a2 n2 c2, .int .u32 x.al, .int .u32 x.no, .slice a5 n5 c5] rfl rfl ?c1 ?c2 ?c3 ?c4 ?c5 ?_))
        case c1 => exact World.news_of_block (cs := #[.string x.name, .int .i64 x.stage, .slice a2 n2 c2, .int .u32 x.al, .int .u32 x.no, .slice a5 n5 c5]) (t := 78) (fr := (0, 0)) (heap_alloc_new WX _)
        case c2 => intro u hu; simp at hu; rcases hu with rfl | rfl | rfl | rfl | rfl | rfl <;> rfl
        case c3 => unfold maxLen; omega
        case c4 => omega
        case c5 => have := HBX.out.size; simp; omega
        intro v' w7 hown7 hg7 _
        obtain ⟨va', vc', hv'⟩ := ownsRow_slice hown7
        rw [hv'] at hown7 ⊢
        clear hv'
        have hOwn := Own.grow (es := sysD x) HRO.out (HRV.out.kept (fun _ _ _ _ _ h => h) fun q cur t fz hq _ => keepA _ hq) hne hg7 hown7
          ⟨_, _, rfl, by unfold At; rfl, _, _, rfl, by unfold At; rfl, _, _, rfl, HT.out.1.kept (fun _ _ _ _ _ h => h) (fun q cur t fz hq _ => keepA _ hq), _, _, rfl, by unfold At; rfl, _, _, rfl, by unfold At; rfl, _, _, rfl, HT.out.2.1.kept (fun _ _ _ _ _ h => h) (fun q cur t fz hq _ => keepA _ hq), rfl⟩
        have hbel7 : Below w.heap.size w w7 := (HBX.out.alloc HBX.out.size _).grown hg7 (by have := HBX.out.size; simp; omega) (fun y hy => hra y hy)
        have HO7 := Lib.hid hOwn
        clear hOwn hown7 hg7 z0 z1 z2 z3 z4 z5
        go_wp2
        go_roundw
        case rel =>
          refine ⟨k + 1, va', vc', by omega, by go_num, rfl, ?_, hbel7⟩
          rw [take_snoc HX.out, List.flatMap_append]
          have := HO7.out
          simpa using this
        case measure => simp [intOf]; omega
    · obtain rfl : k = l.length := by omega
      have HO := Lib.hid hown
      clear hown
      go_wp2
      go_ret
      refine ⟨_, rfl, ?_, hbw⟩
      have := HO.out.at (T' := TS) (fun q t _ h => h.symm)
      rw [List.take_length] at this
      exact this
end Go.Proofs.YtgnilkjdpfbjgaaGreat
namespace Go.Proofs.YtgnilkjdpfbjgaaGreat
open Go.RowKit
set_option linter.unusedVariables false
theorem At.only {w w' : World} {T : Nat → TypeId → Prop} {d : Dat} {u : Value} (h : At w T d u) {b : Nat} {cur : Array Value} {t : TypeId} {fz : Nat × Nat} (ho : Only b w w') (hb : w.heap[b]? = some (.cells cur t fz)) (hT : ¬ T b t) : At w' T d u :=
  h.kept (fun _ _ _ _ _ h => h) fun q cur' t' fz' hq ht => keepO ho hq fun e => by subst e; rw [hb] at hq; cases hq; exact hT ht
theorem keepsTy_only {w w' : World} {b : Nat} {cur : Array Value} {t : TypeId} {fz : Nat × Nat} (ho : Only b w w') (hb : w.heap[b]? = some (.cells cur t fz)) (h1 : t ≠ 67) (h2 : t ≠ 64) : KeepsTy w w' := fun q c e fz' hq he => keepO ho hq fun e' => by
  subst e'
  rw [hb] at hq
  cases hq
  rcases he with rfl | rfl
  · exact h1 rfl
  · exact h2 rfl
/-- A copy of a schema. -/
def IsScl (ver : Int) (cs : List Cmp) (v : Value) (w : World) : Prop := ∃ a c, v = .agg #[.int .i64 ver, .slice a cs.length c] ∧ CompsAt w.heap.size w a cs.length cs ∧ CompsTy w a cs.length cs
def IsPro (a b : Int) (rs : List RuT) (v : Value) (w : World) : Prop := ∃ sa n sc, v = .agg #[.int .i64 a, .int .i64 b, .slice sa n sc] ∧ At w TP (rusD rs) (.slice sa n sc)
def bp_list (va vb vs : Value) (a b : Int) (new : List Cmp) (rs : List RuT) (ss : List SysT) : List (Value → World → Prop) := [IsV vb, IsScl b new, IsV va, IsV vb, IsPro a b rs, IsV vs, fun v w => At w TS (syssD ss) v]
theorem bp_lasts (va vb vs : Value) (a b : Int) (new : List Cmp) (rs : List RuT) (ss : List SysT) : ∀ p ∈ bp_list va vb vs a b new rs ss, Lasts p := by
  simp only [bp_list, List.mem_cons, List.not_mem_nil, or_false]
  rintro p hp
  rcases hp with rfl | rfl | rfl | rfl | rfl | rfl | rfl
  · exact lasts_v _
  · exact fun v w w' ⟨x, c, h1, h2, h3⟩ hb => ⟨x, c, h1, (h2.below hb).mono hb.size, h3.hk (KeepsTy.of_below hb)⟩
  · exact lasts_v _
  · exact lasts_v _
  · exact fun v w w' ⟨x, n, c, h1, h2⟩ hb => ⟨x, n, c, h1, h2.below hb⟩
  · exact lasts_v _
  · exact fun v w w' h hb => h.below hb
set_option maxRecDepth 100000 in
set_option maxHeartbeats 2000000 in
theorem bPlain_any (a b : Int) (old new : List Cmp) (ss : List SysT) (oa na : Option Addr) (oc nc : Nat) (us : Value) (w : World) (T : Nat → TypeId → Prop) (ho : CompsAt w.heap.size w oa old.length old) (hn : CompsAt w.heap.size w na new.length new) (hok : plainOk old new = true) (hof : ∀ c ∈ old, c.fields.length ≤ 100000) (hnf : ∀ c ∈ new, c.fields.length ≤ 100000) (hna : na = none → new.length = 0 ∧ nc = 0)
    (hu : At w T (syssD ss) us) (hl : ss.length ≤ 16) (hs : ∀ s ∈ ss, s.after.length ≤ 1000 ∧ s.code.length ≤ 1000) :
    Calls Tryz.prog 26 #[.agg #[.int .i64 a, .slice oa old.length oc], .agg #[.int .i64 b, .slice na new.length nc], us] w fun e w' => ∃ ca cc ur us', e = .returned (.agg #[.int .i64 b, .slice ca new.length cc, .int .i64 a, .int .i64 b, ur, us']) ∧ CompsAt w'.heap.size w' ca new.length new ∧ At w' TP (rusD (plainR old new)) ur ∧ At w' TS (syssD ss) us' ∧ Below w.heap.size w w' := by
  have hnl : new.length ≤ 24 := by
    unfold plainOk at hok
    simp only [Bool.and_eq_true, decide_eq_true_eq] at hok
    exact hok.1
  obtain ⟨sa, sn, sc, rfl⟩ : ∃ a n c, us = .slice a n c := by
    obtain ⟨a, c, h, _⟩ := hu.row
    exact ⟨_, _, _, h⟩
  have k0 := keepA (.cells #[.int .i64 0, .slice none 0 0, .int .i64 0, .int .i64 0, .slice none 0 0, .slice none 0 0] 95) (keepA (.cells #[.int .i64 b, .slice na new.length nc] 25) (heap_alloc_new w (.cells #[.int .i64 a, .slice oa old.length oc] 25)))
  have k1 := keepA (.cells #[.int .i64 0, .slice none 0 0, .int .i64 0, .int .i64 0, .slice none 0 0, .slice none 0 0] 95) (heap_alloc_new (w.alloc (.cells #[.int .i64 a, .slice oa old.length oc] 25)) (.cells #[.int .i64 b, .slice na new.length nc] 25))
  have k2 := heap_alloc_new ((w.alloc (.cells #[.int .i64 a, .slice oa old.length oc] 25)).alloc (.cells #[.int .i64 b, .slice na new.length nc] 25)) (.cells #[.int .i64 0, .slice none 0 0, .int .i64 0, .int .i64 0, .slice none 0 0, .slice none 0 0] 95)
  have hbW : Below w.heap.size w (((w.alloc (.cells #[.int .i64 a, .slice oa old.length oc] 25)).alloc (.cells #[.int .i64 b, .slice na new.length nc] 25)).alloc (.cells #[.int .i64 0, .slice none 0 0, .int .i64 0, .int .i64 0, .slice none 0 0, .slice none 0 0] 95)) := by go_grown
  simp only [World.size_alloc] at k1 k2
  have HO := Lib.hid ho
  have HN := Lib.hid hn
  have HU := Lib.hid hu
  have HK0 := Lib.hid k0
  have HK1 := Lib.hid k1
  have HK2 := Lib.hid k2
  have HBW := Lib.hid hbW
  clear ho hn hu k0 k1 k2 hbW
  go_enter Tryz.func26, Tryz.ntmps26
  go_wp2_with fail
  generalize hW : World.alloc (World.alloc (World.alloc w _) _) _ = W at *
  have hWz := HBW.out.size
  have hl2 := lt_some HK2.out
  refine wp_region_tail 7 (by kernel_rfl) (by kernel_rfl) (by kernel_rfl) (by decide) (by kernel_rfl) (byList (bp_list (.agg #[.int .i64 a, .slice oa old.length oc]) (.agg #[.int .i64 b, .slice na new.length nc]) (.slice sa sn sc) a b new (plainR old new) ss)) (lasts_list (bp_lasts _ _ _ _ _ _ _ _)) ?_ ?_
  · intro vs w' iq op A hi F hb hop hd
    have m2 : A.tmps[2]?.getD undef = (.slice sa sn sc) := F.m (by kernel_rfl) rfl
    have m3 : A.tmps[3]?.getD undef = (.pointer (some ⟨w.heap.size, 0, none⟩)) := F.m (by kernel_rfl) rfl
    have m4 : A.tmps[4]?.getD undef = (.pointer (some ⟨w.heap.size + 1, 0, none⟩)) := F.m (by kernel_rfl) rfl
    have G := F.light (n := 15) (by kernel_rfl)
    clear F
    have hk0 := keep hb HK0.out
    have hk1 := keep hb HK1.out
    have y0 := cell_at hk0 0
    have y1 := cell_at hk0 1
    have x0 := cell_at hk1 0
    have x1 := cell_at hk1 1
    simp at y0 y1 x0 x1
    have HB' := Lib.hid (HBW.out.trans (hb.mono hWz))
    clear hb hk0 hk1
    revert hi hop hd
    match iq with
    | 0 => intro _ ho hd; obtain rfl := (Option.some.inj ho).symm; clear hd ho; refine step_open rfl ?_; clear G; exact step_run (v := (.agg #[.int .i64 b, .slice na new.length nc])) (by go_simp) rfl
    | 1 =>
      intro _ ho hd; obtain rfl := (Option.some.inj ho).symm
      have d0 : vs 0 = (.agg #[.int .i64 b, .slice na new.length nc]) := hd ⟨0, .data⟩ (by simp) rfl
      clear hd ho
      have h7 := G.h (j := 0) (d := 7) rfl (by decide) d0
      refine step_open rfl ?_
      clear G
      go_simp
      refine (schemaClone_any b new na new.length nc w' ((HN.out.below HB'.out).mono HB'.out.size) (by omega) hnf hna).mono ?_
      rintro e5 w5 ⟨va, vc, rfl, h1, h2, hb5, h3⟩
      exact ⟨_, rfl, ⟨va, vc, rfl, h1, h3⟩, hb5⟩
    | 2 => intro _ ho hd; obtain rfl := (Option.some.inj ho).symm; clear hd ho; refine step_open rfl ?_; clear G; exact step_run (v := (.agg #[.int .i64 a, .slice oa old.length oc])) (by go_simp) rfl
    | 3 => intro _ ho hd; obtain rfl := (Option.some.inj ho).symm; clear hd ho; refine step_open rfl ?_; clear G; exact step_run (v := (.agg #[.int .i64 b, .slice na new.length nc])) (by go_simp) rfl
    | 4 =>
      intro _ ho hd; obtain rfl := (Option.some.inj ho).symm
      have d2 : vs 2 = (.agg #[.int .i64 a, .slice oa old.length oc]) := hd ⟨2, .data⟩ (by simp) rfl
      have d3 : vs 3 = (.agg #[.int .i64 b, .slice na new.length nc]) := hd ⟨3, .data⟩ (by simp) rfl
      clear hd ho
      have h9 := G.h (j := 2) (d := 9) rfl (by decide) d2
      have h10 := G.h (j := 3) (d := 10) rfl (by decide) d3
      refine step_open rfl ?_
      clear G
      go_simp
      refine (chPlain_any a b old new oa na old.length oc new.length nc w' ((HO.out.below HB'.out).mono HB'.out.size) ((HN.out.below HB'.out).mono HB'.out.size) hok hof).mono ?_
      rintro e5 w5 ⟨u, rfl, h1, hb5⟩
      obtain ⟨a5, n5, c5, rfl⟩ : ∃ a n c, u = .slice a n c := by
        obtain ⟨a, c, h, _⟩ := h1.row
        exact ⟨_, _, _, h⟩
      exact ⟨_, rfl, ⟨a5, n5, c5, rfl, h1⟩, hb5⟩
    | 5 => intro _ ho hd; obtain rfl := (Option.some.inj ho).symm; clear hd ho; refine step_open rfl ?_; clear G; exact step_run (v := (.slice sa sn sc)) (by go_simp) rfl
    | 6 =>
      intro _ ho hd; obtain rfl := (Option.some.inj ho).symm
      have d5 : vs 5 = (.slice sa sn sc) := hd ⟨5, .data⟩ (by simp) rfl
      clear hd ho
      have h12 := G.h (j := 5) (d := 12) rfl (by decide) d5
      refine step_open rfl ?_
      clear G
      go_simp
      refine (bClone_any ss w' T _ (HU.out.below HB'.out) hl hs).mono ?_
      rintro e5 w5 ⟨u5, rfl, hat5, hb5⟩
      exact ⟨_, rfl, hat5, hb5⟩
    | n + 7 =>
      intro hi
      exfalso
      omega
  · intro vs w5 A hA F hb hR
    obtain ⟨ca, cc, e1, h1, h1t⟩ : IsScl b new (vs 1) w5 := hR 1 (by decide)
    obtain ⟨ra, rn, rc, e4, h4⟩ : IsPro a b (plainR old new) (vs 4) w5 := hR 4 (by decide)
    have h6 : At w5 TS (syssD ss) (vs 6) := hR 6 (by decide)
    obtain ⟨a6, n6, c6, e6⟩ : ∃ a n c, vs 6 = .slice a n c := by
      obtain ⟨a, c, h, _⟩ := h6.row
      exact ⟨_, _, _, h⟩
    rw [e6] at h6
    have hk2 := keep hb HK2.out
    have z0 := cell_at hk2 0
    have z1 := cell_at hk2 1
    have z2 := cell_at hk2 2
    have z3 := cell_at hk2 3
    have z4 := cell_at hk2 4
    have z5 := cell_at hk2 5
    have f0 := free_at hk2 0
    have f1 := free_at hk2 1
    have f2 := free_at hk2 2
    have f3 := free_at hk2 3
    have f4 := free_at hk2 4
    have f5 := free_at hk2 5
    simp at z0 z1 z2 z3 z4 z5
    have hl5 := lt_some hk2
    have ho := ((((((Only.refl (w.heap.size + 1 + 1) w5).trans (Only.at _ _ 0 (.int .i64 b))).trans (Only.at _ _ 1 (.slice ca new.length cc))).trans (Only.at _ _ 2 (.int .i64 a))).trans (Only.at _ _ 3 (.int .i64 b))).trans (Only.at _ _ 4 (.slice ra rn rc))).trans (Only.at _ _ 5 (.slice a6 n6 c6))
    have hT := (h1.ty h1t (keepsTy_only ho hk2 (by decide) (by decide))).mono (Nat.le_of_eq ho.size.symm)
    have hP := h4.only ho hk2 (by rintro (h | h | h) <;> exact absurd h (by decide))
    have hS := h6.only ho hk2 (by rintro (h | h | h) <;> exact absurd h (by decide))
    have hBf := (HBW.out.trans (hb.mono hWz)).trans (ho.below (by omega : w.heap.size ≤ w.heap.size + 1 + 1))
    have HF1 := Lib.hid (And.intro hT (And.intro hP (And.intro hS hBf)))
    clear F hR hb h1 h1t h4 h6 hk2 ho hT hP hS hBf
    subst hA
    simp only [List.drop_succ_cons, List.drop_zero, wpTail, putAll, Act.put, List.setIfInBounds_toArray, List.set_cons_succ, List.set_cons_zero]
    simp only [e1]
    simp only [e4]
    simp only [e6]
    clear e1 e4 e6
    go_simp
    go_wp2_with fail
    refine bodyPost_ret (v := .agg #[.int .i64 b, .slice ca new.length cc, .int .i64 a, .int .i64 b, .slice ra rn rc, .slice a6 n6 c6]) (by simp [results, Tryz.results26, go_sem, z0, z1, z2, z3, z4, z5]; try rfl) rfl ?_
    exact ⟨ca, cc, _, _, rfl, HF1.out.1, HF1.out.2.1, HF1.out.2.2.1, HF1.out.2.2.2⟩
end Go.Proofs.YtgnilkjdpfbjgaaGreat
namespace Go.Proofs.YtgnilkjdpfbjgaaGreat
open Go.RowKit
set_option linter.unusedVariables false
set_option maxRecDepth 100000 in
theorem mIsVer_any (v : Int) (w : World) : Calls Tryz.prog 22 #[.int .i64 v] w fun e w' => e = .returned (.bool (verB v)) ∧ w = w' := by
  rcases (by omega : v < 1 ∨ 1 ≤ v) with h | h
  · have H : Hid (verB v = false) := Lib.hid (by unfold verB; simp; omega)
    go_enter Tryz.func22, Tryz.ntmps22
    go_wp2
    go_ret
    exact ⟨congrArg (fun b => Ending.returned (.bool b)) H.out.symm, rfl⟩
  · have H : Hid (decide (v ≤ 1073741824) = verB v) := Lib.hid (by unfold verB; simp [h])
    go_enter Tryz.func22, Tryz.ntmps22
    go_wp2
    go_ret
    exact ⟨congrArg (fun b => Ending.returned (.bool b)) H.out, rfl⟩
theorem at_new {w : World} {k : Nat} {cur : Array Value} {t : TypeId} (h : k = w.heap.size) : (w.alloc (.cells cur t)).heap[k]? = some (.cells cur t (0, 0)) := by
  subst h
  exact heap_alloc_new w _
/-- The cells of mint's components. -/
def mCells (q1 q2 : Nat) : List Value := [.int .i64 1, .string sHp, .slice (some ⟨q1, 0, none⟩) 1 1, .int .i64 2, .string sPos, .slice (some ⟨q2, 0, none⟩) 2 2]
def tCells : List Value := [.int .i64 3, .string sTag, .slice none 0 0]
theorem mint_at {W : World} {q1 q2 g : Nat} {kd : Int} (h1 : W.heap[q1]? = some (.cells #[.string sN, .int .i64 kd, .int .i64 1] 64 (0, 0))) (h2 : W.heap[q2]? = some (.cells #[.string sX, .int .i64 3, .int .i64 1, .string sY, .int .i64 3, .int .i64 1] 64 (0, 0))) (tg : Bool)
    (hc : ∀ j u, (mCells q1 q2 ++ if tg then tCells else [])[j]? = some u → W.cell? ⟨g, j, none⟩ = some u) {cg : Array Value} (hgt : W.heap[g]? = some (.cells cg 67 (0, 0))) :
    CompsAt W.heap.size W (some ⟨g, 0, none⟩) (if tg then 3 else 2) (if tg then [cHp kd, cPos, cTag] else [cHp kd, cPos]) ∧ CompsTy W (some ⟨g, 0, none⟩) (if tg then 3 else 2) (if tg then [cHp kd, cPos, cTag] else [cHp kd, cPos]) := by
  have hg := lt_some hgt
  have y1 : FieldsTy W (some ⟨q1, 0, none⟩) 1 := .inr ⟨q1, 0, _, _, rfl, h1⟩
  have y2 : FieldsTy W (some ⟨q2, 0, none⟩) 2 := .inr ⟨q2, 0, _, _, rfl, h2⟩
  have f1 : FieldsAt W.heap.size W (some ⟨q1, 0, none⟩) 1 [⟨sN, kd, 1⟩] := ⟨rfl, by unfold maxLen; omega, .inr ⟨q1, 0, rfl, lt_some h1, fun i f hf => by
    match i, hf with
    | 0, hf => cases hf; exact ⟨cell_at h1 0, cell_at h1 1, cell_at h1 2⟩⟩⟩
  have f2 : FieldsAt W.heap.size W (some ⟨q2, 0, none⟩) 2 [⟨sX, 3, 1⟩, ⟨sY, 3, 1⟩] := ⟨rfl, by unfold maxLen; omega, .inr ⟨q2, 0, rfl, lt_some h2, fun i f hf => by
    match i, hf with
    | 0, hf => cases hf; exact ⟨cell_at h2 0, cell_at h2 1, cell_at h2 2⟩
    | 1, hf => cases hf; exact ⟨cell_at h2 3, cell_at h2 4, cell_at h2 5⟩⟩⟩
  have f3 : FieldsAt W.heap.size W none 0 [] := ⟨rfl, Nat.zero_le _, .inl rfl⟩
  cases tg
  · refine ⟨⟨rfl, by unfold maxLen; simp, .inr ⟨g, 0, rfl, hg, fun i c hci => ?_⟩⟩, .inr ⟨g, 0, cg, _, rfl, hgt, fun i c hci => ?_⟩⟩
    · match i, hci with
      | 0, hci => cases hci; exact ⟨hc 0 _ rfl, hc 1 _ rfl, _, _, _, hc 2 _ rfl, f1, fun h => by cases h⟩
      | 1, hci => cases hci; exact ⟨hc 3 _ rfl, hc 4 _ rfl, _, _, _, hc 5 _ rfl, f2, fun h => by cases h⟩
    · match i, hci with
      | 0, hci => cases hci; exact ⟨_, _, _, hc 2 _ rfl, y1⟩
      | 1, hci => cases hci; exact ⟨_, _, _, hc 5 _ rfl, y2⟩
  · refine ⟨⟨rfl, by unfold maxLen; simp, .inr ⟨g, 0, rfl, hg, fun i c hci => ?_⟩⟩, .inr ⟨g, 0, cg, _, rfl, hgt, fun i c hci => ?_⟩⟩
    · match i, hci with
      | 0, hci => cases hci; exact ⟨hc 0 _ rfl, hc 1 _ rfl, _, _, _, hc 2 _ rfl, f1, fun h => by cases h⟩
      | 1, hci => cases hci; exact ⟨hc 3 _ rfl, hc 4 _ rfl, _, _, _, hc 5 _ rfl, f2, fun h => by cases h⟩
      | 2, hci => cases hci; exact ⟨hc 6 _ rfl, hc 7 _ rfl, _, _, _, hc 8 _ rfl, f3, fun _ => ⟨rfl, rfl⟩⟩
    · match i, hci with
      | 0, hci => cases hci; exact ⟨_, _, _, hc 2 _ rfl, y1⟩
      | 1, hci => cases hci; exact ⟨_, _, _, hc 5 _ rfl, y2⟩
      | 2, hci => cases hci; exact ⟨_, _, _, hc 8 _ rfl, .inl rfl⟩
theorem Tryz.infoCm : (Tryz.prog.info? 67).map (fun i => (i.zero, i.size, i.bytes)) = some (some (.agg #[.int .i64 0, .string ByteArray.empty, .slice none 0 0]), 3, 48) := by kernel_rfl
/-- The world ahead of the third component. -/
def mW (w : World) (kd v : Int) : World := (((((w.alloc (.cells #[.int .i64 0, .slice none 0 0] 25)).alloc (.cells #[.int .i64 3, .int .i64 6, .int .i64 4] 62)).alloc (.cells #[.string sN, .int .i64 kd, .int .i64 1] 64)).alloc (.cells #[.string sX, .int .i64 3, .int .i64 1, .string sY, .int .i64 3, .int .i64 1] 64)).alloc (.cells (mCells (w.heap.size + 1 + 1) (w.heap.size + 1 + 1 + 1)).toArray 67)).alloc (.cells #[.int .i64 v, .slice (some ⟨w.heap.size + 1 + 1 + 1 + 1, 0, none⟩) 2 2] 25) |>.alloc (.cells tCells.toArray 67)
theorem m_row (w : World) (kd v : Int) : (mW w kd v).ownsRow w.heap.size 67 3 (.slice (some ⟨w.heap.size + 1 + 1 + 1 + 1, 0, none⟩) 2 2) 2 (mCells (w.heap.size + 1 + 1) (w.heap.size + 1 + 1 + 1)) :=
  ⟨rfl, .inr ⟨w.heap.size + 1 + 1 + 1 + 1, 2, _, rfl, by omega, keepA _ (keepA _ (at_new (by simp))), Nat.le_refl _, by unfold maxLen; omega, rfl, rfl⟩⟩
theorem m_new (w : World) (kd v : Int) : ∀ j u, tCells[j]? = some u → (mW w kd v).cell? ((⟨w.heap.size + 1 + 1 + 1 + 1 + 1 + 1, 0, none⟩ : Addr).add j) = some u :=
  World.news_of_block (cs := tCells.toArray) (t := 67) (fr := (0, 0)) (at_new (by simp))
theorem m_post (w w2 : World) (kd v : Int) (v' : Value) (ho : w2.ownsRow w.heap.size 67 3 v' 3 (mCells (w.heap.size + 1 + 1) (w.heap.size + 1 + 1 + 1) ++ tCells)) (hg : (mW w kd v).grownBy w2 (Value.slice (some ⟨w.heap.size + 1 + 1 + 1 + 1, 0, none⟩) 2 2).ownBlock) :
    ∃ g c, v' = .slice (some ⟨g, 0, none⟩) 3 c ∧ w2.heap[w.heap.size]? = some (.cells #[.int .i64 0, .slice none 0 0] 25 (0, 0)) ∧ w2.heap[w.heap.size + 1 + 1 + 1 + 1 + 1]? = some (.cells #[.int .i64 v, .slice (some ⟨w.heap.size + 1 + 1 + 1 + 1, 0, none⟩) 2 2] 25 (0, 0)) ∧ Below w.heap.size w w2 ∧
      ∀ (x0 x1 x2 : Value), CompsAt w2.heap.size (((w2.setCell ⟨w.heap.size + 1 + 1 + 1 + 1 + 1, 1, none⟩ x0).setCell ⟨w.heap.size, 0, none⟩ x1).setCell ⟨w.heap.size, 1, none⟩ x2) (some ⟨g, 0, none⟩) 3 [cHp kd, cPos, cTag] ∧ CompsTy (((w2.setCell ⟨w.heap.size + 1 + 1 + 1 + 1 + 1, 1, none⟩ x0).setCell ⟨w.heap.size, 0, none⟩ x1).setCell ⟨w.heap.size, 1, none⟩ x2) (some ⟨g, 0, none⟩) 3 [cHp kd, cPos, cTag] := by
  obtain ⟨va, vc, rfl⟩ := ownsRow_slice ho
  obtain ⟨g, rfl, _, hgl, hcell⟩ := row_block ho (by decide)
  obtain ⟨cur, hcur⟩ := row_type1 ho (q := g) rfl
  have ne : ∀ (b : Nat) (cur : Array Value) (t : TypeId), (mW w kd v).heap[b]? = some (.cells cur t (0, 0)) → t ≠ 67 → some b ≠ (Value.slice (some ⟨w.heap.size + 1 + 1 + 1 + 1, 0, none⟩) 2 2).ownBlock := fun b cur t hb ht => ownsRow_ne_block3 (m_row w kd v) hb (fun cur' he => by cases he; exact ht rfl)
  have k0 : (mW w kd v).heap[w.heap.size]? = some (.cells #[.int .i64 0, .slice none 0 0] 25 (0, 0)) := keepA _ (keepA _ (keepA _ (keepA _ (keepA _ (keepA _ (at_new rfl))))))
  have k2 : (mW w kd v).heap[w.heap.size + 1 + 1]? = some (.cells #[.string sN, .int .i64 kd, .int .i64 1] 64 (0, 0)) := keepA _ (keepA _ (keepA _ (keepA _ (at_new (by simp)))))
  have k3 : (mW w kd v).heap[w.heap.size + 1 + 1 + 1]? = some (.cells #[.string sX, .int .i64 3, .int .i64 1, .string sY, .int .i64 3, .int .i64 1] 64 (0, 0)) := keepA _ (keepA _ (keepA _ (at_new (by simp))))
  have k5 : (mW w kd v).heap[w.heap.size + 1 + 1 + 1 + 1 + 1]? = some (.cells #[.int .i64 v, .slice (some ⟨w.heap.size + 1 + 1 + 1 + 1, 0, none⟩) 2 2] 25 (0, 0)) := keepA _ (at_new (by simp))
  have g0 := keepG hg k0 (ne _ _ _ k0 (by decide))
  have g2 := keepG hg k2 (ne _ _ _ k2 (by decide))
  have g3 := keepG hg k3 (ne _ _ _ k3 (by decide))
  have g5 := keepG hg k5 (ne _ _ _ k5 (by decide))
  refine ⟨g, vc, rfl, g0, g5, ?_, fun x0 x1 x2 => ?_⟩
  · have hb : Below w.heap.size w (mW w kd v) := by unfold mW; go_grown
    exact hb.grown hg hb.size (fun x hx => by simp [Value.ownBlock] at hx; omega)
  · have s : ∀ (b : Nat) (cur : Array Value) (t : TypeId), w2.heap[b]? = some (.cells cur t (0, 0)) → t ≠ 25 → (((w2.setCell ⟨w.heap.size + 1 + 1 + 1 + 1 + 1, 1, none⟩ x0).setCell ⟨w.heap.size, 0, none⟩ x1).setCell ⟨w.heap.size, 1, none⟩ x2).heap[b]? = some (.cells cur t (0, 0)) := fun b cur t hb ht => by
      have n1 : b ≠ w.heap.size := fun e => by subst e; rw [g0] at hb; cases hb; exact ht rfl
      have n2 : b ≠ w.heap.size + 1 + 1 + 1 + 1 + 1 := fun e => by subst e; rw [g5] at hb; cases hb; exact ht rfl
      rw [hset_ne _ _ _ _ (show b ≠ w.heap.size from n1), hset_ne _ _ _ _ (show b ≠ w.heap.size from n1), hset_ne _ _ _ _ (show b ≠ w.heap.size + 1 + 1 + 1 + 1 + 1 from n2)]
      exact hb
    have sc := s g cur 67 hcur (by decide)
    have := mint_at (s _ _ _ g2 (by decide)) (s _ _ _ g3 (by decide)) true (g := g) (fun j u hu => by
      have := hcell j u hu
      rw [cell_at hcur] at this
      rw [cell_at sc]
      exact this) sc
    have hsz : (((w2.setCell ⟨w.heap.size + 1 + 1 + 1 + 1 + 1, 1, none⟩ x0).setCell ⟨w.heap.size, 0, none⟩ x1).setCell ⟨w.heap.size, 1, none⟩ x2).heap.size = w2.heap.size := by simp [World.setCell]
    rw [hsz] at this
    exact this
set_option maxRecDepth 100000 in
set_option maxHeartbeats 1000000 in
theorem mSchema_yes (v : Int) (w : World) (h : verB v = true) : Calls Tryz.prog 8 #[.int .i64 v] w fun e w' => ∃ q c, e = .returned (.agg #[.int .i64 v, .slice (some ⟨q, 0, none⟩) (mintC v).length c]) ∧ CompsAt w'.heap.size w' (some ⟨q, 0, none⟩) (mintC v).length (mintC v) ∧ CompsTy w' (some ⟨q, 0, none⟩) (mintC v).length (mintC v) ∧ Below w.heap.size w w' := by
  have hv : 1 ≤ v ∧ v ≤ 1073741824 := by
    unfold verB at h
    simpa using h
  obtain ⟨v0, v1⟩ := hv
  have h3 : v % 3 = 0 ∨ v % 3 = 1 ∨ v % 3 = 2 := by omega
  have hk0 : hpKind v = 3 ∧ v % 3 = 0 ∨ hpKind v = 6 ∧ v % 3 = 1 ∨ hpKind v = 4 ∧ v % 3 = 2 := by
    unfold hpKind
    rcases h3 with e | e | e <;> rw [e] <;> simp
  have e3 : v.tmod 3 = v % 3 := Int.tmod_eq_emod_of_nonneg (by omega)
  have e2 : v.tmod 2 = v % 2 := Int.tmod_eq_emod_of_nonneg (by omega)
  rcases (by omega : v % 2 = 0 ∨ v % 2 = 1) with hr | hr
  · have hC : mintC v = [cHp (hpKind v), cPos, cTag] := by unfold mintC; rw [if_pos hr]
    obtain ⟨i0, hiI, hzA, hzB, hzC⟩ := info_parts Tryz.infoCm
    rw [hC]
    generalize hpKind v = kd at *
    clear hC h3
    rw [hr] at e2
    rcases hk0 with ⟨rfl, hm⟩ | ⟨rfl, hm⟩ | ⟨rfl, hm⟩
    all_goals
      rw [hm] at e3
      go_enter Tryz.func8, Tryz.ntmps8
      go_wp2_with fail
      refine (mIsVer_any v _).mono ?_
      rintro e w1 ⟨rfl, rfl⟩
      rw [h]
      go_wp2_with (at_builtin; go_loud (refine wpList_append_own _ rfl (.tmp 29) (.tmp 31) 23 rfl w.heap.size 67 i0 _ 3 48 Tryz.underlying23 hiI hzA hzB hzC rfl (by decide) (.slice (some ⟨w.heap.size + 1 + 1 + 1 + 1, 0, none⟩) 2 2) 2 (mCells (w.heap.size + 1 + 1) (w.heap.size + 1 + 1 + 1)) rfl ?c0 ⟨w.heap.size + 1 + 1 + 1 + 1 + 1 + 1, 0, none⟩ 1 1 tCells rfl rfl ?c1 ?c2 ?c3 ?c4 ?c5 ?_))
      case c0 => exact m_row w _ v
      case c1 => exact m_new w _ v
      case c2 => intro u hu; simp [tCells] at hu; rcases hu with rfl | rfl | rfl <;> rfl
      case c3 => unfold maxLen; omega
      case c4 => omega
      case c5 => simp; omega
      intro v' w2 hown2 hg2 _
      obtain ⟨g, c', rfl, g0, g5, hbel, hfin⟩ := m_post w w2 _ v v' hown2 hg2
      have x0 := cell_at g0 0
      have x1 := cell_at g0 1
      have y0 := cell_at g5 0
      have y1 := cell_at g5 1
      have fx0 := free_at g0 0
      have fx1 := free_at g0 1
      have fy1 := free_at g5 1
      simp at x0 x1 y0 y1
      have hl5 := lt_some g5
      have HF := Lib.hid hfin
      have HB := Lib.hid hbel
      clear hfin hbel hown2 hg2 g0 g5
      go_wp2_with fail
      refine bodyPost_ret (v := .agg #[.int .i64 v, .slice (some ⟨g, 0, none⟩) 3 c']) (by simp [results, Tryz.results8, go_sem, x0, x1]; try rfl) rfl ?_
      have := HF.out (.slice (some ⟨g, 0, none⟩) 3 c') (.int .i64 v) (.slice (some ⟨g, 0, none⟩) 3 c')
      exact ⟨_, _, rfl, this.1.mono (by simp [World.setCell]), this.2, ((HB.out.setCell (by simp; omega) _).setCell (by simp) _).setCell (by simp) _⟩
  · have hC : mintC v = [cHp (hpKind v), cPos] := by unfold mintC; rw [if_neg (by omega)]
    rw [hC]
    generalize hpKind v = kd at *
    clear hC h3
    rw [hr] at e2
    rcases hk0 with ⟨rfl, hm⟩ | ⟨rfl, hm⟩ | ⟨rfl, hm⟩
    all_goals
      rw [hm] at e3
      go_enter Tryz.func8, Tryz.ntmps8
      go_wp2_with fail
      refine (mIsVer_any v _).mono ?_
      rintro e w1 ⟨rfl, rfl⟩
      rw [h]
      go_wp2_with fail
      refine bodyPost_ret (v := .agg #[.int .i64 v, .slice (some ⟨w.heap.size + 1 + 1 + 1 + 1, 0, none⟩) 2 2]) (by simp [results, Tryz.results8, go_sem]; try rfl) rfl ?_
      have hb : ∀ W : World, W.heap[w.heap.size + 1 + 1 + 1 + 1]? = some (.cells (mCells (w.heap.size + 1 + 1) (w.heap.size + 1 + 1 + 1)).toArray 67 (0, 0)) → ∀ j u, (mCells (w.heap.size + 1 + 1) (w.heap.size + 1 + 1 + 1) ++ if false then tCells else [])[j]? = some u → W.cell? ⟨w.heap.size + 1 + 1 + 1 + 1, j, none⟩ = some u := fun W h j u hu => by
        rw [cell_at h]
        simpa using hu
      refine ⟨_, _, rfl, ?_⟩
      rw [← and_assoc]
      exact ⟨mint_at (q1 := w.heap.size + 1 + 1) (q2 := w.heap.size + 1 + 1 + 1) (keepA _ (keepA _ (keepA _ (at_new (by simp))))) (keepA _ (keepA _ (at_new (by simp)))) false (hb _ (keepA _ (at_new (by simp)))) (keepA _ (at_new (by simp))), by go_grown⟩
end Go.Proofs.YtgnilkjdpfbjgaaGreat
