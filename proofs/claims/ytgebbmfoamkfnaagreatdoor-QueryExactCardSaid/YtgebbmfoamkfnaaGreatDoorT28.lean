/- A memory's look. Printed by mkF6.py. · A cache of queries: what it is in memory; New, Looked, Len, Clear. · The rule wp_region_frame with a tail: the last operations come in one order behind all others, and may do anything. · Appends of rows that may be nil; to a slice that has just been made. -/
import Derived.Test.YtgebbmfoamkfnaaGreatDoorT26
import Derived.Test.YtgebbmfoamkfnaaGreatDoorT27
import Derived.Test.YtgebbmfoamkfnaaGreatDoorT4
import Derived.Test.YtgebbmfoamkfnaaGreatDoorT17
import Derived.Test.YtgebbmfoamkfnaaGreatDoorT24
import Derived.Laws.AppendOwnNone
namespace Go.Proofs.YtgebbmfoamkfnaaGreatDoor
open Go.RowKit
set_option linter.unusedVariables false
def lk_list (sb so n sc k : Nat) (al no x : Int) (r : Bool) : List (Value → World → Prop) :=
  [IsV (.agg #[.int .u32 al, .int .u32 no]),
   IsV (.slice (some ⟨sb, so, none⟩) n sc),
   IsV (.int .i64 (k : Int)),
   IsV (.pointer (some ⟨sb, so + k, none⟩)),
   IsV (.int .u32 x),
   IsV (.bool r)]
theorem lk_list_lasts (sb so n sc k : Nat) (al no x : Int) (r : Bool) : ∀ p ∈ lk_list sb so n sc k  al no x  r , Lasts p := by
  simp only [lk_list, List.mem_cons, List.not_mem_nil, or_false]
  rintro p hp
  repeat (rcases hp with rfl | hp; exact lasts_v _)
def setsOk (l : List Int) : Prop := ∀ s ∈ l, 0 ≤ s ∧ s ≤ 4294967295
theorem take_next {l : List Int} {k : Nat} {x : Int} (h : l[k]? = some x) (al no : Int) : tabsGo al no 0 (l.take (k + 1)) = if matchB al no x then tabsGo al no 0 (l.take k) ++ [(k : Int)] else tabsGo al no 0 (l.take k) := by
  have hl := (List.getElem?_eq_some_iff.1 h).1
  rw [List.take_add_one, h]
  show tabsGo al no 0 (l.take k ++ [x]) = _
  rw [tabsGo_snoc, List.length_take, Nat.min_eq_left (by omega)]
/-- What a memory's look keeps. -/
structure LookS (B mb qb : Nat) (al no : Int) (l : List Int) (a0 : Option Addr) (j0 c0 k : Nat) (ta : Option Addr) (m tc : Nat) (w0 w : World) : Prop where
  blk : w.heap[mb]? = some (.cells #[.slice a0 j0 c0, .slice ta m tc] 133 (0, 0))
  q : w.heap[qb]? = some (.cells #[.int .u32 al, .int .u32 no] 30 (0, 0))
  tab : w.ownsRow B 3 1 (.slice ta m tc) m ((tabsGo al no 0 (l.take k)).map (.int .i64))
  len : m ≤ k
  base : B ≤ mb
  ne : mb ≠ qb
  baseq : B ≤ qb
  bel : Below B w0 w
section
variable {B mb qb : Nat} {al no : Int} {l : List Int} {a0 : Option Addr} {j0 c0 k : Nat} {ta : Option Addr} {m tc : Nat} {w0 w w' : World}
theorem LookS.below (h : LookS B mb qb al no l a0 j0 c0 k ta m tc w0 w) (hb : Below w.heap.size w w') : LookS B mb qb al no l a0 j0 c0 k ta m tc w0 w' := by
  have hs : B ≤ w.heap.size := Nat.le_of_lt (Nat.lt_of_le_of_lt h.base (lt_some h.blk))
  exact ⟨keep hb h.blk, keep hb h.q, ownsRow_out h.tab (Out.of hb (F := fun _ => False)) (fun _ _ hf => hf), h.len, h.base, h.ne, h.baseq, h.bel.trans (hb.mono hs)⟩
theorem LookS.stay {x : Int} (h : LookS B mb qb al no l a0 j0 c0 k ta m tc w0 w) (hx : l[k]? = some x) (hm : matchB al no x = false) : LookS B mb qb al no l a0 j0 c0 (k + 1) ta m tc w0 w :=
  ⟨h.blk, h.q, by rw [take_next hx, hm]; exact h.tab, Nat.le_succ_of_le h.len, h.base, h.ne, h.baseq, h.bel⟩
theorem LookS.app {x : Int} {va : Option Addr} {vc : Nat} (h : LookS B mb qb al no l a0 j0 c0 k ta m tc w0 w) (hx : l[k]? = some x) (hm : matchB al no x = true)
    (hown : w'.ownsRow B 3 1 (.slice va (m + 1) vc) (m + 1) ((tabsGo al no 0 (l.take k)).map (.int .i64) ++ [.int .i64 (k : Int)])) (hg : w.grownBy w' (Value.slice ta m tc).ownBlock) :
    w'.heap[mb]? = some (.cells #[.slice a0 j0 c0, .slice ta m tc] 133 (0, 0)) ∧ LookS B mb qb al no l a0 j0 c0 (k + 1) va (m + 1) vc w0 (w'.setCell ⟨mb, 1, none⟩ (.slice va (m + 1) vc)) := by
  have hs : B ≤ w.heap.size := Nat.le_of_lt (Nat.lt_of_le_of_lt h.base (lt_some h.blk))
  have h1 := keepG hg h.blk (ownsRow_ne_block3 h.tab h.blk (fun cur e => by injection e with _ e _; exact absurd e (by decide)))
  have h2 := keepG hg h.q (ownsRow_ne_block3 h.tab h.q (fun cur e => by injection e with _ e _; exact absurd e (by decide)))
  have h3 := hset w' mb 1 (.slice va (m + 1) vc) _ _ _ h1
  refine ⟨h1, h3, ?_, ?_, Nat.succ_le_succ h.len, h.base, h.ne, h.baseq, ?_⟩
  · rw [hset_ne w' ⟨mb, 1, none⟩ _ qb (fun e => h.ne e.symm)]
    exact h2
  · rw [take_next hx, hm, if_pos rfl, List.map_append]
    refine ownsRow_out hown (Out.only (F := fun z => z = mb) (Only.at w' mb 1 _) rfl) (fun z hz e => ?_)
    obtain ⟨cur, hc⟩ := row_type hown hz
    rw [e, h1] at hc
    injection hc with hc
    injection hc with _ hc _
    exact absurd hc (by decide)
  · have hb1 : Below B w w' := below_own h.tab hg hs
    exact h.bel.trans (hb1.trans ((Only.at w' mb 1 _).below h.base))
end
theorem out_of_below {B : Nat} {w w' : World} (h : Below B w w') : Out (fun x => B ≤ x) w w' := ⟨h.os, h.tape, h.output, h.size, fun i _ hn => h.block i (by omega)⟩
set_option maxRecDepth 100000 in
set_option maxHeartbeats 4000000 in
theorem look_any (B mb : Nat) (al no : Int) (j0 : Nat) (a0 : Option Addr) (c0 : Nat) (ta : Option Addr) (m tc : Nat) (l : List Int) (sa : Option Addr) (n sc : Nat) (w : World) (hs : SRow w sa n l) (hso : w.ownsRow 0 28 1 (.slice sa n sc) n (l.map (.int .u32))) (hsb : ∀ b, (Value.slice sa n sc).ownBlock = some b → b < B) (hsq : ∀ b o, sa = some ⟨b, o, none⟩ → b < B) (hok : setsOk l) (hal : 0 ≤ al ∧ al ≤ 4294967295) (hno : 0 ≤ no ∧ no ≤ 4294967295)
    (hj : j0 ≤ n) (hn : n ≤ 1000) (hmb : w.heap[mb]? = some (.cells #[.slice a0 j0 c0, .slice ta m tc] 133 (0, 0))) (hB : B ≤ mb) (htab : w.ownsRow B 3 1 (.slice ta m tc) m ((tabsGo al no 0 (l.take j0)).map (.int .i64))) (hm : m ≤ j0) :
    Calls Tryz.prog 62 #[.pointer (some ⟨mb, 0, none⟩), .agg #[.int .u32 al, .int .u32 no], .slice sa n sc] w fun e w' => e = .returned (.tuple #[]) ∧ ∃ sa' sc' ta' m' tc', w'.heap[mb]? = some (.cells #[.slice sa' n sc', .slice ta' m' tc'] 133 (0, 0)) ∧ w'.ownsRow B 28 1 (.slice sa' n sc') n (l.map (.int .u32)) ∧ w'.ownsRow B 3 1 (.slice ta' m' tc') m' ((tabsGo al no 0 l).map (.int .i64)) ∧ m' ≤ n ∧ Below B w w' := by
  obtain ⟨i0, hi, hz0, hz1, hz2⟩ := info_parts Tryz.infoI
  have hmbl := lt_some hmb
  have HNE : Hid (mb ≠ w.heap.size) := Lib.hid (by omega)
  have HLN := Lib.hid hs.1
  have hb1 : Below w.heap.size w (w.alloc (.cells #[.int .u32 al, .int .u32 no] 30)) := (Below.refl _ w).alloc (Nat.le_refl _) _
  have HS0 : Hid (LookS B mb w.heap.size al no l a0 j0 c0 j0 ta m tc w (w.alloc (.cells #[.int .u32 al, .int .u32 no] 30))) := Lib.hid ⟨keep hb1 hmb, heap_alloc_new w _, ownsRow_out htab (Out.of hb1 (F := fun _ => False)) (fun _ _ hf => hf), hm, hB, HNE.out, by omega, hb1.mono (by omega)⟩
  have y0 : w.cell? ⟨mb, 0, none⟩ = some (.slice a0 j0 c0) := by rw [cell_at hmb]; rfl
  have HBS : Hid (B ≤ w.heap.size) := Lib.hid (by omega)
  have HHS := Lib.hid hs
  have HSO := Lib.hid hso
  have HSB := Lib.hid hsb
  have HSQ := Lib.hid hsq
  have HOK := Lib.hid hok
  have HMB := Lib.hid hmb
  clear hs hso hsb hsq hok htab hm hb1 hmb
  obtain ⟨al0, al1⟩ := hal
  obtain ⟨no0, no1⟩ := hno
  go_enter Tryz.func62, Tryz.ntmps62
  go_wp2_with fail
  go_loopw [6] (fun i wr => ∃ (k : Nat) (ta' : Option Addr) (m' tc' : Nat), i = .int .i64 (k : Int) ∧ k ≤ n ∧ LookS B mb w.heap.size al no l a0 j0 c0 k ta' m' tc' w wr) (fun i _ => n - (intOf i).toNat)
  case atStart => exact ⟨j0, ta, m, tc, rfl, hj, HS0.out⟩
  case round =>
    obtain ⟨k, ta', m', tc', rfl, hk, hst⟩ := hrel
    by_cases hlt : k < n
    · obtain ⟨sb, so, x, rfl, hsl0, hx, x0⟩ := HHS.out.get hlt
      have hsl1 : sb < B := HSQ.out sb so rfl
      have x0 := (hst.bel.cell (p := ⟨sb, so + k, none⟩) hsl1).trans x0
      have hsl : sb < wr.heap.size := Nat.lt_of_lt_of_le hsl0 hst.bel.size
      obtain ⟨hx0, hx1⟩ := HOK.out x (List.mem_of_getElem? hx)
      have HMT : Hid (∀ W, Calls Tryz.prog 12 #[.agg #[.int .u32 al, .int .u32 no], .int .u32 x] W fun e w' => e = .returned (.bool (matchB al no x)) ∧ Below W.heap.size W w') := Lib.hid fun W => matches_any al no x W al0 al1 no0 no1 hx0 hx1
      obtain ⟨r, hr⟩ : ∃ r, matchB al no x = r := ⟨_, rfl⟩
      rw [hr] at HMT
      have HR := Lib.hid hr
      have HX := Lib.hid hx
      have HQB := Lib.hid hst.q
      have HST := Lib.hid hst
      have g0 : (0 : Int) ≤ (k : Int) := by omega
      have g1 : (k : Int) < (n : Int) := by omega
      clear hr hx hst hx0 hx1
      go_wp2_with fail
      refine wp_region_frame (by kernel_rfl) (by kernel_rfl) (by kernel_rfl) (byList (lk_list sb so n sc k al no x r)) (lasts_list (lk_list_lasts sb so n sc k al no x r)) ?_ ?_
      · intro vs w' iq o A F hb ho hd
        have m4 : A.tmps[4]?.getD undef = (.pointer (some ⟨w.heap.size, 0, none⟩)) := F.m (by kernel_rfl) rfl
        have m2 : A.tmps[2]?.getD undef = (.slice (some ⟨sb, so, none⟩) n sc) := F.m (by kernel_rfl) rfl
        have m6 : A.tmps[6]?.getD undef = (.int .i64 (k : Int)) := F.m (by kernel_rfl) rfl
        have G := F.light (n := 39) (by kernel_rfl)
        clear F
        have z0 := cell_at (keep hb HQB.out) 0
        have z1 := cell_at (keep hb HQB.out) 1
        simp at z0 z1
        have y0 := (hb.cell (p := ⟨sb, so + k, none⟩) hsl).trans x0
        clear hb
        revert ho hd
        match iq with
        | 0 => intro ho hd; obtain rfl := (Option.some.inj ho).symm; clear hd ho; refine step_open rfl ?_; clear G; exact step_run (v := (.agg #[.int .u32 al, .int .u32 no])) (by go_simp) rfl
        | 1 => intro ho hd; obtain rfl := (Option.some.inj ho).symm; clear hd ho; refine step_open rfl ?_; clear G; exact step_run (v := (.slice (some ⟨sb, so, none⟩) n sc)) (by go_simp) rfl
        | 2 => intro ho hd; obtain rfl := (Option.some.inj ho).symm; clear hd ho; refine step_open rfl ?_; clear G; exact step_run (v := (.int .i64 (k : Int))) (by go_simp) rfl
        | 3 => intro ho hd; obtain rfl := (Option.some.inj ho).symm; have d1 : vs 1 = (.slice (some ⟨sb, so, none⟩) n sc) := hd ⟨1, .data⟩ (by simp) rfl; have d2 : vs 2 = (.int .i64 (k : Int)) := hd ⟨2, .data⟩ (by simp) rfl; clear hd ho; have h19 := G.h (j := 1) (d := 19) rfl (by decide) d1; have h20 := G.h (j := 2) (d := 20) rfl (by decide) d2; refine step_open rfl ?_; clear G; exact step_run (v := (.pointer (some ⟨sb, so + k, none⟩))) (by go_simp) rfl
        | 4 => intro ho hd; obtain rfl := (Option.some.inj ho).symm; have d3 : vs 3 = (.pointer (some ⟨sb, so + k, none⟩)) := hd ⟨3, .data⟩ (by simp) rfl; clear hd ho; have h21 := G.h (j := 3) (d := 21) rfl (by decide) d3; refine step_open rfl ?_; clear G; exact step_run (v := (.int .u32 x)) (by go_simp) rfl
        | 5 => intro ho hd; obtain rfl := (Option.some.inj ho).symm; have d0 : vs 0 = (.agg #[.int .u32 al, .int .u32 no]) := hd ⟨0, .data⟩ (by simp) rfl; have d4 : vs 4 = (.int .u32 x) := hd ⟨4, .data⟩ (by simp) rfl; clear hd ho; have h18 := G.h (j := 0) (d := 18) rfl (by decide) d0; have h22 := G.h (j := 4) (d := 22) rfl (by decide) d4; refine step_open rfl ?_; clear G; go_simp; refine (HMT.out _).mono ?_; rintro e w9 ⟨rfl, hb9⟩; exact ⟨_, rfl, rfl, hb9⟩
        | n + 6 => intro ho hd; simp at ho
      · intro vs w' hb hR
        have hv : vs 5 = .bool r := hR 5 (by simp)
        simp only [putAll, Act.put, List.setIfInBounds_toArray, List.set_cons_succ, List.set_cons_zero]
        rw [hv]
        have HST1 := Lib.hid (HST.out.below hb)
        have HNE := Lib.hid HST1.out.base
        clear hR hb hv x0
        cases r
        · go_wp2_with fail
          go_roundw
          case rel => exact ⟨k + 1, ta', m', tc', by go_num, by omega, HST1.out.stay HX.out HR.out⟩
          case measure => simp [intOf]; omega
        · have y1 : w'.cell? ⟨mb, 1, none⟩ = some (.slice ta' m' tc') := by rw [cell_at HST1.out.blk]; rfl
          have f1 : w'.frozen? ⟨mb, 1, none⟩ = false := free_at HST1.out.blk 1
          have hmw : mb < w'.heap.size := lt_some HST1.out.blk
          have HALL := Lib.hid (HST1.out.below ((Below.refl _ w').alloc (Nat.le_refl _) (.cells #[.int .i64 (k : Int)] 3)))
          have HNEWS : Hid (∀ j u, ([.int .i64 (k : Int)] : List Value)[j]? = some u → (w'.alloc (.cells #[.int .i64 (k : Int)] 3)).cell? ((⟨w'.heap.size, 0, none⟩ : Addr).add j) = some u) := Lib.hid (World.news_of_block (w := w'.alloc (.cells #[.int .i64 (k : Int)] 3)) (cs := #[.int .i64 (k : Int)]) (t := 3) (fr := (0, 0)) (heap_alloc_new w' _))
          have hlm : m' ≤ 1000 := by have := HST1.out.len; omega
          have HBB : Hid (B ≤ (w'.alloc (.cells #[.int .i64 (k : Int)] 3)).heap.size) := Lib.hid (by have := HST1.out.base; simp; omega)
          go_wp2_with (at_builtin; refine wpList_append_own _ rfl (.tmp 28) (.tmp 30) 72 rfl B 3 i0 (.int .i64 0) 1 8 Tryz.underlying72 hi hz0 hz1 hz2 rfl (by decide) (.slice ta' m' tc') m' _ rfl HALL.out.tab ⟨w'.heap.size, 0, none⟩ 1 1 _ rfl rfl HNEWS.out (fun u hu => by simp at hu; subst hu; rfl) (by unfold maxLen; omega) (by omega) HBB.out ?_)
          intro v' w8 hown8 hg8 _
          obtain ⟨va', vc', hv'⟩ := ownsRow_slice hown8
          rw [hv'] at hown8 ⊢
          clear hv'
          obtain ⟨hblk, hst8⟩ := HALL.out.app HX.out HR.out hown8 hg8
          have y2 : w8.cell? ⟨mb, 1, none⟩ = some (.slice ta' m' tc') := by rw [cell_at hblk]; rfl
          have f2 : w8.frozen? ⟨mb, 1, none⟩ = false := free_at hblk 1
          have HS8 := Lib.hid hst8
          clear hblk hst8 hown8 hg8 y1 f1 HALL HNEWS
          go_wp2_with fail
          go_roundw
          case rel => exact ⟨k + 1, va', m' + 1, vc', by go_num, by omega, HS8.out⟩
          case measure => simp [intOf]; omega
    · obtain rfl : k = n := by omega
      have hfull : l.take k = l := by rw [← HLN.out, List.take_length]
      have HCL := Lib.hid (cloneSigs_any 0 sa sc l wr (by rw [HLN.out]; exact ownsRow_out HSO.out (out_of_below hst.bel) (fun b hb hbb => by have := HSB.out b hb; omega)) (by rw [HLN.out]; omega))
      rw [HLN.out] at HCL
      have HST := Lib.hid hst
      have HF := Lib.hid hfull
      clear hst hfull
      go_wp2_with fail
      refine HCL.out.mono ?_
      rintro e w5 ⟨va, vc, rfl, hown5, hb5⟩
      have hst5 := HST.out.below hb5
      have hBr : B ≤ wr.heap.size := Nat.le_trans HBS.out HST.out.bel.size
      have hown5 := ownsRow_mono hown5 hBr
      have y1 : w5.cell? ⟨mb, 0, none⟩ = some (.slice a0 j0 c0) := by rw [cell_at hst5.blk]; rfl
      have f1 : w5.frozen? ⟨mb, 0, none⟩ = false := free_at hst5.blk 0
      have hno5 : ∀ {v : Value} {e : TypeId} {n : Nat} {xs : List Value}, w5.ownsRow B e 1 v n xs → 133 ≠ e → (w5.setCell ⟨mb, 0, none⟩ (.slice va k vc)).ownsRow B e 1 v n xs := fun {v e n xs} h hne => by
        refine ownsRow_out h (Out.only (F := fun z => z = mb) (Only.at w5 mb 0 _) rfl) (fun z hz e => ?_)
        obtain ⟨cur, hc⟩ := row_type h hz
        rw [e, hst5.blk] at hc
        injection hc with hc
        injection hc with _ hc _
        exact hne hc
      have HFIN : Hid ((w5.setCell ⟨mb, 0, none⟩ (.slice va k vc)).heap[mb]? = some (.cells #[.slice va k vc, .slice ta' m' tc'] 133 (0, 0)) ∧ (w5.setCell ⟨mb, 0, none⟩ (.slice va k vc)).ownsRow B 28 1 (.slice va k vc) k (l.map (.int .u32)) ∧ (w5.setCell ⟨mb, 0, none⟩ (.slice va k vc)).ownsRow B 3 1 (.slice ta' m' tc') m' ((tabsGo al no 0 l).map (.int .i64)) ∧ m' ≤ k ∧ Below B w (w5.setCell ⟨mb, 0, none⟩ (.slice va k vc))) := Lib.hid ⟨hset w5 mb 0 _ _ _ _ hst5.blk, hno5 hown5 (by decide), by rw [← HF.out]; refine hno5 ?_ (by decide); have := hst5.tab; rw [HF.out] at this ⊢; exact this, hst5.len, hst5.bel.trans ((Only.at w5 mb 0 _).below hst5.base)⟩
      clear hst5 hown5 hb5 hno5
      go_wp2_with fail
      go_end0
      exact ⟨rfl, va, vc, ta', m', tc', HFIN.out⟩
end Go.Proofs.YtgebbmfoamkfnaaGreatDoor
namespace Go.Proofs.YtgebbmfoamkfnaaGreatDoor
open Go.RowKit
open Go.Maps (Keyed IsMap Tidy int_keyed keyOf_int_mk)
set_option linter.unusedVariables false
set_option maxRecDepth 100000 in
theorem Tryz.rowQ : 30 < Tryz.prog.types.size := of_decide_eq_true (by kernel_rfl)
theorem Tryz.wideQ : (match Tryz.prog.underlying 30 with | some (.array _ _) | some (.struct _) => true | _ => false) = true := by kernel_rfl
set_option maxRecDepth 100000 in
theorem Tryz.lawQ : Keyed Tryz.prog 30 := Keyed.of_law (deep_law_laid laidOut (m := 2) (by omega) Tryz.rowQ (by kernel_rfl) Tryz.wideQ)
theorem Tryz.ktQ : Tryz.prog.keyType 30 = true := by kernel_rfl
theorem Tryz.coQ : Tryz.prog.cellsOf 30 = 2 := by kernel_rfl
theorem Tryz.coSg : Tryz.prog.cellsOf 28 = 1 := by kernel_rfl
theorem Tryz.zeroMem (w : World) : (zeroValue 133).run Tryz.prog w = .ok (.agg #[.slice none 0 0, .slice none 0 0]) w := by kernel_rfl
def u32Ok (x : Int) : Prop := 0 ≤ x ∧ x ≤ 4294967295
def QWf (q : Int × Int) : Prop := u32Ok q.1 ∧ u32Ok q.2
def qVal (q : Int × Int) : Value := .agg #[.int .u32 q.1, .int .u32 q.2]
def qK (q : Int × Int) : Lit := .string (keyBytes [.int .u32 q.1, .int .u32 q.2])
theorem q_key {q : Int × Int} (h : QWf q) : keyOf Tryz.prog 30 (qVal q) = some (qK q) := by
  obtain ⟨m, hm⟩ := Tryz.tsz
  have e : Tryz.prog.keyLits (m + 2) 30 [.int .u32 q.1, .int .u32 q.2] = some [.int .u32 q.1, .int .u32 q.2] := by
    simp [Program.keyLits, Tryz.underlying30, Tryz.underlying28, Tryz.coQ, Tryz.coSg, wf_u32 h.1.1 h.1.2, wf_u32 h.2.1 h.2.2]
  unfold keyOf qVal
  rw [Tryz.underlying30]
  simp only [Tryz.ktQ, hm, Value.cells, e]
  simp [Value.formed, Tryz.underlying30, Tryz.coQ]
  rfl
theorem qK_inj {x y : Int × Int} (hx : QWf x) (hy : QWf y) (h : qK x = qK y) : x = y := by
  have h1 := q_key hx
  have h2 := q_key hy
  rw [← h] at h2
  have := Tryz.lawQ.inj h1 h2
  obtain ⟨a, b⟩ := x
  obtain ⟨a', b'⟩ := y
  simp [qVal] at this
  simp [this]
/-- A cache, told: the sets that each query has looked at; how many queries; at how many sets it looked. -/
structure CS where
  kf : Int × Int → Option (List Int)
  cnt : Nat
  looked : Int
def CS.old (S : CS) (q : Int × Int) : List Int := (S.kf q).getD []
def CS.kept (S : CS) (q : Int × Int) (l : List Int) : Nat := if frontB (S.old q) l then (S.old q).length else 0
def CS.ask (S : CS) (q : Int × Int) (l : List Int) : CS := ⟨fun x => if x = q then some l else S.kf x, if (S.kf q).isSome then S.cnt else S.cnt + 1, S.looked + ((l.length : Int) - (S.kept q l : Int))⟩
def CS.new : CS := ⟨fun _ => none, 0, 0⟩
/-- What a map holds of a query. -/
def MemIs (w : World) (q : Int × Int) (l : List Int) (v : Value) : Prop := ∃ sa n sc ta m tc, v = .agg #[.slice sa n sc, .slice ta m tc] ∧ l.length = n ∧ n ≤ 1000 ∧ m ≤ n ∧ w.ownsRow 0 28 1 (.slice sa n sc) n (l.map (.int .u32)) ∧ w.ownsRow 0 3 1 (.slice ta m tc) m ((tabsGo q.1 q.2 0 l).map (.int .i64))
def MemAt (w : World) (q : Int × Int) : Option (List Int) → Option Value → Prop
  | none, v => v = none
  | some l, v => ∃ u, v = some u ∧ MemIs w q l u
structure CacheAt (w : World) (cb kb : Nat) (S : CS) : Prop where
  blk : w.heap[cb]? = some (.cells #[.map (some kb), .int .i64 S.looked] 131 (0, 0))
  map : ∃ f, MapV Tryz.prog w 30 kb S.cnt f ∧ ∀ q, QWf q → MemAt w q (S.kf q) (f (qK q))
section
variable {w w' : World} {cb kb : Nat} {S : CS}
theorem MemIs.out {F : Nat → Prop} {q : Int × Int} {l : List Int} {v : Value} (h : MemIs w q l v) (ho : Out F w w') (hF : ∀ x cs, F x → w.heap[x]? ≠ some (.cells cs 28 (0, 0)) ∧ w.heap[x]? ≠ some (.cells cs 3 (0, 0))) : MemIs w' q l v := by
  obtain ⟨sa, n, sc, ta, m, tc, h1, h2, h3, h4, h5, h6⟩ := h
  refine ⟨sa, n, sc, ta, m, tc, h1, h2, h3, h4, ownsRow_out h5 ho (fun x hx hf => ?_), ownsRow_out h6 ho (fun x hx hf => ?_)⟩
  · obtain ⟨cur, hc⟩ := row_type h5 hx
    exact (hF x cur hf).1 hc
  · obtain ⟨cur, hc⟩ := row_type h6 hx
    exact (hF x cur hf).2 hc
theorem MemAt.out {F : Nat → Prop} {q : Int × Int} {l : Option (List Int)} {v : Option Value} (h : MemAt w q l v) (ho : Out F w w') (hF : ∀ x cs, F x → w.heap[x]? ≠ some (.cells cs 28 (0, 0)) ∧ w.heap[x]? ≠ some (.cells cs 3 (0, 0))) : MemAt w' q l v := by
  cases l with
  | none => exact h
  | some l =>
    obtain ⟨u, h1, h2⟩ := h
    exact ⟨u, h1, h2.out ho hF⟩
theorem CacheAt.out {F : Nat → Prop} (h : CacheAt w cb kb S) (ho : Out F w w') (hF : ∀ x, F x → x ≠ cb ∧ x ≠ kb ∧ ∀ cs, w.heap[x]? ≠ some (.cells cs 28 (0, 0)) ∧ w.heap[x]? ≠ some (.cells cs 3 (0, 0))) : CacheAt w' cb kb S := by
  obtain ⟨f, h1, h2⟩ := h.map
  exact ⟨ho.keep h.blk (fun hf => (hF _ hf).1 rfl), f, h1.out ho (fun hf => (hF _ hf).2.1 rfl), fun q hq => (h2 q hq).out ho (fun x cs hf => (hF x hf).2.2 cs)⟩
theorem CacheAt.below (h : CacheAt w cb kb S) (hb : Below w.heap.size w w') : CacheAt w' cb kb S := h.out (F := fun _ => False) (Out.of hb) (fun _ hf => hf.elim)
theorem MapV.clear {P : Program} {k e : TypeId} {b cnt : Nat} {f : Lit → Option Value} {t : TypeId} (h : MapV P w k b cnt f) (ht : P.underlying t = some (.map k e)) : ∃ w', (∀ ty, (Builtin.clear_ #[t] ty #[.map (some b)]).run P w = .ok (.tuple #[]) w') ∧ MapV P w' k b 0 (fun _ => none) ∧ Only b w w' := by
  obtain ⟨D, ⟨es, clock, hb, F, hle, hD⟩, h2, h3⟩ := h
  refine ⟨{ w with heap := w.heap.setIfInBounds b (.map #[] clock) }, fun ty => by simp [Builtin.clear_, run_underlying ht, MapKept.run_getObj_map hb, MapKept.run_setObj_map _ hb, Result.andThen], ⟨.map [], ⟨#[], clock, (MapKept.heap_set hb).1, ⟨by simp, MapKept.stamped_empty _, by simp⟩, Nat.le_refl _, rfl⟩, rfl, fun kl => ⟨rfl, fun v h => by cases h⟩⟩, ⟨rfl, rfl, rfl, by simp, fun j hj => (MapKept.heap_set hb).2 j hj⟩⟩
theorem cacheNew_any (w : World) : Calls Tryz.prog 21 #[] w fun e w' => ∃ cb kb, e = .returned (.pointer (some ⟨cb, 0, none⟩)) ∧ CacheAt w' cb kb CS.new ∧ Below w.heap.size w w' ∧ w.heap.size ≤ cb ∧ w.heap.size ≤ kb := by
  have hmm := @run_makeMap Tryz.prog
  go_enter Tryz.func21, Tryz.ntmps21
  go_wp2_with fail
  go_returns
  have h1 := heap_alloc_new (w.alloc (.map #[] 0)) (.cells #[.map (some w.heap.size), .int .i64 0] 131)
  rw [World.size_alloc] at h1
  refine ⟨_, w.heap.size, rfl, ⟨h1, fun _ => none, (MapV.made w Tryz.prog 30).alloc _, fun q hq => rfl⟩, by go_grown, by simp, Nat.le_refl _⟩
theorem cacheLooked_any (h : CacheAt w cb kb S) : Calls Tryz.prog 24 #[.pointer (some ⟨cb, 0, none⟩)] w fun e w' => e = .returned (.int .i64 S.looked) ∧ w = w' := by
  have x1 := cell_at h.blk 1
  simp at x1
  clear h
  go_enter Tryz.func24, Tryz.ntmps24
  go_wp2_with fail
  go_returns
  exact ⟨rfl, rfl⟩
theorem cacheLen_any (h : CacheAt w cb kb S) : Calls Tryz.prog 25 #[.pointer (some ⟨cb, 0, none⟩)] w fun e w' => e = .returned (.int .i64 (S.cnt : Int)) ∧ w = w' := by
  have x0 := cell_at h.blk 0
  simp at x0
  obtain ⟨f, hm, _⟩ := h.map
  have hlen := fun ty => hm.len Tryz.underlying129 ty
  clear h hm
  go_enter Tryz.func25, Tryz.ntmps25
  go_wp2_with fail
  go_returns
  exact ⟨rfl, rfl⟩
end
end Go.Proofs.YtgebbmfoamkfnaaGreatDoor
namespace Go.Proofs.YtgebbmfoamkfnaaGreatDoor
open Go.RowKit
set_option linter.unusedVariables false
def wpTail (P : Program) (Q : Exit → Act → World → Prop) : List Oper → Act → World → Prop
 | [], a, w => Q .normal a w
 | o :: r, a, w => o.wp P a w (fun a' w' => wpTail P Q r a' w') Q
def tailOk (l : List Oper) (n : Nat) : Bool := ((List.range l.length).all fun m => decide (m < n) || ((List.range m).all fun i => (clos l 8 (waitsFor l m)).contains i)) && ((l.drop n).all fun o => o.guard.isNone)
structure FrameT (l : List Oper) (n : Nat) (vs : Nat → Value) (a0 A : Act) : Prop where
 hit : ∀ (j d : Nat), (l[j]?).bind (·.dst) = some d → d < a0.tmps.size → A.tmps[d]? = some (vs j)
 miss : ∀ (d : Nat), ((l.take n).all fun o => o.dst != some d) = true → A.tmps[d]? = a0.tmps[d]?
theorem FrameT.m {l : List Oper} {n : Nat} {vs : Nat → Value} {a0 A : Act} (F : FrameT l n vs a0 A) {d : Nat} {v : Value} (h1 : ((l.take n).all fun o => o.dst != some d) = true) (hv : a0.tmps[d]? = some v) : A.tmps[d]?.getD undef = v := by
 rw [F.miss d h1, hv]; rfl
theorem FrameT.light {l : List Oper} {k : Nat} {vs : Nat → Value} {a0 A : Act} (F : FrameT l k vs a0 A) {n : Nat} (h : a0.tmps.size = n) : FrameL l vs n A := fun j d h1 h2 => F.hit j d h1 (by rw [h]; exact h2)
section
variable {P : Program} {l : List Oper} {Q : Exit → Act → World → Prop} {a0 : Act} {w0 : World} {R : Nat → Value → World → Prop}
theorem put_miss {o : Oper} {v : Value} {A : Act} {d : Nat} (h : (o.dst != some d) = true) : (A.put o.dst v).tmps[d]? = A.tmps[d]? := by
 cases hd : o.dst with
 | none => rfl
 | some e =>
  have : e ≠ d := fun he => by subst he; rw [hd] at h; simp at h
  simp [Act.put, this]
theorem falses_zero {listed : Array Bool} (h : ∀ i, i < listed.size → listed.getD i false = true) : falses listed = 0 := by
 unfold falses
 rw [List.countP_eq_zero]
 intro b hbm
 obtain ⟨j, hj⟩ := List.getElem?_of_mem hbm
 rw [Array.getElem?_toList] at hj
 have hjs : j < listed.size := (Array.getElem?_eq_some_iff.1 hj).1
 have := h j hjs
 simp [hjs] at this
 rw [Array.getElem?_eq_getElem hjs] at hj
 cases hj
 simp [this]
theorem wpAny_tail (he : edgesB 0 l = true) {n : Nat} (ht : tailOk l n = true) : ∀ (r : List Oper) (m : Nat), l.drop m = r → n ≤ m → ∀ (fuel : Nat) (listed : Array Bool) (a : Act) (w : World), listed.size = l.length → falses listed = fuel →
  (∀ i, i < m → listed.getD i false = true) → (∀ i, m ≤ i → i < l.length → listed.getD i true = false) → wpTail P Q r a w → wpAny P .any l.toArray Q fuel listed a w := by
 intro r
 induction r with
 | nil =>
  intro m hr hnm fuel listed a w hs hf hlow hhi h
  have hml : l.length ≤ m := by
   have := congrArg List.length hr
   simp at this
   omega
  have hf0 : fuel = 0 := by rw [← hf]; exact falses_zero (fun i hi => hlow i (by omega))
  subst hf0
  have hrd : Region.ready .any l.toArray listed = [] := by
   cases hq : Region.ready .any l.toArray listed with
   | nil => rfl
   | cons x xs =>
    exfalso
    have hx : x ∈ Region.ready .any l.toArray listed := by rw [hq]; simp
    have := falses_set (mem_ready.1 hx).1
    omega
  exact ⟨hrd, h⟩
 | cons o r ih =>
  intro m hr hnm fuel listed a w hs hf hlow hhi h
  have hml : m < l.length := by
   have := congrArg List.length hr
   simp at this
   omega
  have hom : l[m]? = some o := by
   have := congrArg (·[0]?) hr
   simpa using this
  have hr' : l.drop (m + 1) = r := by
   have := congrArg (List.drop 1) hr
   simpa [List.drop_drop] using this
  have hm0 := hhi m (Nat.le_refl _) hml
  cases fuel with
  | zero => exfalso; have := falses_set hm0; omega
  | succ fuel =>
   refine ⟨fun hrd => ?_, fun i hi => ?_⟩
   ·exfalso
    have := all_listed he hs hrd m hml
    rw [this] at hm0; cases hm0
   ·obtain ⟨h1, o', ho, hall⟩ := mem_ready.1 hi
    have ho' : l[i]? = some o' := by simpa using ho
    have hil : i < l.length := (List.getElem?_eq_some_iff.1 ho').1
    have him : ¬ i < m := fun hlt => by
     have := hlow i hlt
     have hlt' : i < listed.size := by omega
     simp [hlt'] at this h1
     rw [this] at h1; cases h1
    have hmi : i = m := by
     rcases Nat.lt_or_ge m i with hlt | hge
     ·exfalso
      unfold tailOk at ht
      rw [Bool.and_eq_true, List.all_eq_true] at ht
      have h2 := ht.1 i (List.mem_range.2 hil)
      rw [Bool.or_eq_true] at h2
      rcases h2 with h2 | h2
      ·simp at h2; omega
      ·rw [List.all_eq_true] at h2
       have h3 : m ∈ clos l 8 (waitsFor l i) := by simpa using h2 m (List.mem_range.2 hlt)
       have hclosed : ∀ k, (listed.getD k false = true ∨ k > m) → ∀ j ∈ waitsFor l k, (listed.getD j false = true ∨ k > m) := fun k hk j hj => by
        rcases hk with hk | hk
        ·have hkm : k < m := by
          rcases Nat.lt_or_ge k m with h | h
          ·exact h
          ·exfalso
           by_cases hkl : k < l.length
           ·have := hhi k h hkl
            have hlt' : k < listed.size := by omega
            simp [hlt'] at this hk
            rw [this] at hk; cases hk
           ·have : ¬ k < listed.size := by omega
            simp [this] at hk
         obtain ⟨ok, hok⟩ : ∃ ok, l[k]? = some ok := ⟨_, List.getElem?_eq_getElem (by omega)⟩
         obtain ⟨e, hm, hbd, rfl⟩ := (waits_mem hok).1 hj
         have := edges_at l 0 k ok he hok e hm hbd
         exact .inl (hlow _ (by omega))
        ·exact .inr hk
       have hw : ∀ j ∈ waitsFor l i, listed.getD j false = true := by
        intro j hj
        obtain ⟨e, hm, hbd, rfl⟩ := (waits_mem ho').1 hj
        exact hall e hm hbd
       have h4 : ∀ x ∈ clos l 8 (waitsFor l i), listed.getD x false = true := clos_ok (p := fun j => listed.getD j false = true) (fun k hk j hj => by
        have hkm : k < m := by
         rcases Nat.lt_or_ge k m with h | h
         ·exact h
         ·exfalso
          by_cases hkl : k < l.length
          ·have := hhi k h hkl
           have hlt' : k < listed.size := by omega
           simp [hlt'] at this hk
           rw [this] at hk; cases hk
          ·have : ¬ k < listed.size := by omega
           simp [this] at hk
        obtain ⟨ok, hok⟩ : ∃ ok, l[k]? = some ok := ⟨_, List.getElem?_eq_getElem (by omega)⟩
        obtain ⟨e, hm, hbd, rfl⟩ := (waits_mem hok).1 hj
        have := edges_at l 0 k ok he hok e hm hbd
        exact hlow _ (by omega)) 8 _ hw
       have h5 := h4 m h3
       have hlt' : m < listed.size := by omega
       simp [hlt'] at h5 hm0
       rw [h5] at hm0; cases hm0
     ·omega
    subst hmi
    obtain rfl : o' = o := by rw [hom] at ho'; exact (Option.some.inj ho').symm
    have hgn : o'.guard = none := by
     unfold tailOk at ht
     rw [Bool.and_eq_true] at ht
     have h2 := ht.2
     rw [List.all_eq_true] at h2
     have := h2 o' (List.mem_of_getElem? (i := i - n) (by rw [List.getElem?_drop, show n + (i - n) = i by omega]; exact hom))
     cases hgd : o'.guard with
     | none => rfl
     | some _ => rw [hgd] at this; cases this
    unfold wpOp
    simp only [ho]
    rw [if_pos (by simp [Region.wanted, hgn])]
    refine .inl (Oper.wp_mono (fun a' w' h' => ?_) h)
    refine ih (i + 1) hr' (by omega) fuel _ a' w' (by simpa using hs) (by have := falses_set h1; omega) (fun j hj => ?_) (fun j hj hjl => ?_) h'
    ·by_cases hji : j = i
     ·subst hji
      have : j < listed.size := by omega
      simp [this]
     ·rw [getD_set_ne false (Ne.symm hji)]
      exact hlow j (by omega)
    ·rw [getD_set_ne true (show i ≠ j by omega)]
     exact hhi j (by omega) hjl
theorem wpAny_grow_tail {n : Nat} (hnl : n < l.length) (ht : tailOk l n = true) (hn : noDup l = true) (he : edgesB 0 l = true) (stable : ∀ i v w w', R i v w → Below w.heap.size w w' → R i v w')
  (step : ∀ (vs : Nat → Value) (w : World) (i : Nat) (o : Oper), i < n → (∀ (d : Nat), ((l.take n).all fun o => o.dst != some d) = true → (putAll vs 0 l a0).tmps[d]? = a0.tmps[d]?) → Below w0.heap.size w0 w → l[i]? = some o → (∀ e ∈ o.after, Region.binds .any e = true → R e.on (vs e.on) w) →
   if Region.wanted o (yielded l.toArray (putAll vs 0 l a0).tmps) = true then o.wp P (putAll vs 0 l a0) w (fun a' w' => ∃ v, a' = (putAll vs 0 l a0).put o.dst v ∧ R i v w' ∧ Below w.heap.size w w') Q else R i undef w)
  (last : ∀ (vs : Nat → Value) (w : World), (∀ (d : Nat), ((l.take n).all fun o => o.dst != some d) = true → (putAll vs 0 l a0).tmps[d]? = a0.tmps[d]?) → Below w0.heap.size w0 w → (∀ i, i < n → R i (vs i) w) → wpTail P Q (l.drop n) (putAll vs 0 l a0) w) :
  ∀ (fuel : Nat) (listed : Array Bool) (vs : Nat → Value) (w : World), (∀ (d : Nat), ((l.take n).all fun o => o.dst != some d) = true → (putAll vs 0 l a0).tmps[d]? = a0.tmps[d]?) → listed.size = l.length → falses listed = fuel → (∀ i, i < n → listed.getD i false = true → R i (vs i) w) →
   (∀ i, n ≤ i → i < l.length → listed.getD i true = false) → (∀ i, listed.getD i false = true → ∀ j ∈ waitsFor l i, listed.getD j false = true) → Below w0.heap.size w0 w →
   wpAny P .any l.toArray Q fuel listed (putAll vs 0 l a0) w := by
 intro fuel
 induction fuel with
 | zero =>
  intro listed vs w hM hs hf hR h0 hcl hb
  exfalso
  have := falses_set (h0 n (Nat.le_refl _) hnl)
  omega
 | succ fuel ih =>
  intro listed vs w hM hs hf hR h0 hcl hb
  by_cases hdone : ∀ i, i < n → listed.getD i false = true
  ·exact wpAny_tail he ht _ n rfl (Nat.le_refl _) _ listed _ w hs hf hdone h0 (last vs w hM hb (fun i hi => hR i hi (hdone i hi)))
  ·refine ⟨fun hr => absurd (fun i hi => ?_) hdone, fun i hi => ?_⟩
   ·have := all_listed he hs hr i (by omega)
    have hlt : i < listed.size := by omega
    simpa [hlt] using this
   ·obtain ⟨h1, o, ho, hall⟩ := mem_ready.1 hi
    have ho' : l[i]? = some o := by simpa using ho
    have hil : i < l.length := (List.getElem?_eq_some_iff.1 ho').1
    have hw : ∀ j ∈ waitsFor l i, listed.getD j false = true := by
     intro j hj
     obtain ⟨e, hm, hbd, rfl⟩ := (waits_mem ho').1 hj
     exact hall e hm hbd
    have hi' : i < n := by
     rcases Nat.lt_or_ge i n with h | h
     ·exact h
     ·exfalso
      refine hdone (fun j hj => ?_)
      have ht' := ht
      unfold tailOk at ht'
      rw [Bool.and_eq_true, List.all_eq_true] at ht'
      have h2 := ht'.1 i (List.mem_range.2 hil)
      rw [Bool.or_eq_true] at h2
      rcases h2 with h2 | h2
      ·simp at h2; omega
      ·rw [List.all_eq_true] at h2
       have h3 : j ∈ clos l 8 (waitsFor l i) := by simpa using h2 j (List.mem_range.2 (by omega))
       exact clos_ok (p := fun j => listed.getD j false = true) hcl 8 _ hw j h3
    have hst := step vs w i o hi' hM hb ho' (fun e hm hbd => hR e.on (by have := edges_at l 0 i o he ho' e hm hbd; omega) (hall e hm hbd))
    have next : ∀ (v : Value) (w' : World), R i v w' → Below w.heap.size w w' → wpAny P .any l.toArray Q fuel (listed.setIfInBounds i true) ((putAll vs 0 l a0).put o.dst v) w' := by
     intro v w' hv hbw
     have hM' : ∀ (d : Nat), ((l.take n).all fun o => o.dst != some d) = true → ((putAll vs 0 l a0).put o.dst v).tmps[d]? = a0.tmps[d]? := fun d hd => by
      rw [put_miss, hM d hd]
      rw [List.all_eq_true] at hd
      exact hd o (List.mem_of_getElem? (i := i) (by rw [List.getElem?_take, if_pos hi']; exact ho'))
     rw [putAll_upd l 0 i a0 o hn ho', Nat.zero_add] at hM' ⊢
     refine ih _ _ _ hM' (by simpa using hs) (by have := falses_set h1; omega) (fun j hjl hj => ?_) (fun j hj hjl => ?_) ?_ (hb.trans (hbw.mono hb.size))
     ·by_cases hji : j = i
      ·subst hji; simpa [updV] using hv
      ·rw [getD_set_ne false (Ne.symm hji)] at hj
       unfold updV
       rw [if_neg hji]
       exact stable j _ w w' (hR j hjl hj) hbw
     ·rw [getD_set_ne true (show i ≠ j by omega)]; exact h0 j hj hjl
     ·intro j hj k hk
      have mono : ∀ m, listed.getD m false = true → (listed.setIfInBounds i true).getD m false = true := by
       intro m hm
       by_cases hmi : m = i
       ·subst hmi
        have : m < listed.size := by omega
        simp [this]
       ·rw [getD_set_ne false (Ne.symm hmi)]; exact hm
      by_cases hji : j = i
      ·subst hji; exact mono k (hw k hk)
      ·rw [getD_set_ne false (Ne.symm hji)] at hj
       exact mono k (hcl j hj k hk)
    unfold wpOp
    simp only [ho]
    split
    ·rename_i hw
     rw [if_pos hw] at hst
     exact .inl (Oper.wp_mono (fun a' w' ⟨v, ha, hv, hbw⟩ => by rw [ha]; exact next v w' hv hbw) hst)
    ·rename_i hw
     rw [if_neg hw] at hst
     exact next undef w hst (Below.refl _ _)
theorem wp_region_tail {id : Nat} (n : Nat) (hm : P.follows .mixedOrders = true) (hn : noDup l = true) (he : edgesB 0 l = true) (hnl : n < l.length) (ht : tailOk l n = true) (R : Nat → Value → World → Prop) (stable : ∀ i v w w', R i v w → Below w.heap.size w w' → R i v w')
  (step : ∀ (vs : Nat → Value) (w : World) (i : Nat) (o : Oper) (A : Act), i < n → FrameT l n vs a0 A → Below w0.heap.size w0 w → l[i]? = some o → (∀ e ∈ o.after, Region.binds .any e = true → R e.on (vs e.on) w) → StepGoal P l o A w (R i) Q)
  (last : ∀ (vs : Nat → Value) (w : World) (A : Act), A = putAll vs 0 l a0 → FrameT l n vs a0 A → Below w0.heap.size w0 w → (∀ i, i < n → R i (vs i) w) → wpTail P Q (l.drop n) A w) :
  (Code.region id l.toArray true).wp P Q a0 w0 := by
 refine wp_region_any hm ?_
 obtain ⟨vs, h⟩ := putAll_self (a0 := a0) l 0
 have hfl : falses (Array.replicate l.toArray.size false) = l.toArray.size := by simp [falses, List.countP_replicate]
 have hno : ∀ i, (Array.replicate l.toArray.size false).getD i false = true → False := by
  intro i hi
  by_cases h' : i < l.length
  ·simp [h'] at hi
  ·simp [h'] at hi
 have := wpAny_grow_tail (w0 := w0) (a0 := a0) (R := R) (Q := Q) hnl ht hn he stable (fun vs w i o hi hM hb ho hd => step vs w i o _ hi ⟨(frameIs_put hn vs).hit, hM⟩ hb ho hd) (fun vs w hM hb hR => last vs w _ rfl ⟨(frameIs_put hn vs).hit, hM⟩ hb hR)
  l.toArray.size (Array.replicate l.toArray.size false) vs { w0 with drawn := w0.drawn + 1 } (fun d _ => by rw [h]) (by simp) hfl (fun i _ hi => (hno i hi).elim) (fun i _ hi => by simp [hi]) (fun i hi => (hno i hi).elim) ⟨rfl, rfl, rfl, Nat.le_refl _, fun _ _ => rfl⟩
 rw [h] at this
 exact this
end
end Go.Proofs.YtgebbmfoamkfnaaGreatDoor
namespace Go.Proofs.YtgebbmfoamkfnaaGreatDoor
open Go.RowKit
set_option linter.unusedVariables false
/-- What is appended: cells that lie at an address, or nothing. -/
def SrcAt (w : World) (size : Nat) (x : Option Addr) (m c : Nat) (news : List Value) : Prop :=
  news.length = m * size ∧ (∀ u ∈ news, u.oneCell' = true) ∧ ((x = none ∧ m = 0 ∧ c = 0) ∨ ∃ a, x = some a ∧ ∀ (j : Nat) (u : Value), news[j]? = some u → w.cell? (a.add j) = some u)
theorem SrcAt.row {w : World} {B : Nat} {e : TypeId} {s : Nat} {a : Option Addr} {n c : Nat} {xs : List Value} (h : w.ownsRow B e s (.slice a n c) n xs) (h1 : ∀ u ∈ xs, u.oneCell' = true) : SrcAt w s a n c xs := by
  refine ⟨h.1, h1, ?_⟩
  rcases h.2 with ⟨he, h0⟩ | ⟨g, cap, cur, he, _⟩
  · cases he; exact .inl ⟨rfl, rfl, rfl⟩
  · cases he
    exact .inr ⟨⟨g, 0, none⟩, rfl, fun j u hu => h.cells (g := g) rfl j u hu⟩
end Go.Proofs.YtgebbmfoamkfnaaGreatDoor
