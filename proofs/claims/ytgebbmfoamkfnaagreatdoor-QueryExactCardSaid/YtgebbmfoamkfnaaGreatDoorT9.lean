/- Contracts of layout.Start, Elems, Fit. Printed by mkS7.py. · Contracts of Go's library at this translation, laid by the kit's tool. -/
import Derived.Test.YtgebbmfoamkfnaaGreatDoorT8
import Derived.Test.YtgebbmfoamkfnaaGreatDoorT4
import Derived.Shelf.Strings.Builder1
import Derived.Shelf.Strings.Builder2
import Derived.Shelf.Strings.OnBuilder
import Derived.Shelf.Strings.BuilderF
import Derived.Shelf.Strings.BuilderK
import Derived.Shelf.Strings.Builder2Cap
import Derived.Shelf.Strconv.Itoa0
import Derived.Shelf.Strconv.Itoa1
import Derived.Shelf.LaysM
import Derived.Shelf.Strconv.Itoa2
import Derived.Shelf.Strconv.Itoa3
import Derived.Shelf.Strings.Search1
import Derived.Shelf.Strings.Search2
import Derived.Shelf.Strings.Search3
import Derived.Shelf.Strings.Cut
import Derived.Shelf.Strings.Count
import Derived.Shelf.Strings.Shaped
import Derived.Shelf.Strings.Prefix
import Derived.Shelf.Bits.Mul64
import Derived.Shelf.Strings.Repeat
import Derived.Shelf.Unicode.DecodeSlow
import Derived.Shelf.Strings.BuilderCap
import Derived.Test.YtgebbmfoamkfnaaGreatDoorProg
namespace Go.Proofs.YtgebbmfoamkfnaaGreatDoor
open Go.RowKit
set_option linter.unusedVariables false
def IntsAt (B : Nat) (w : World) (a : Option Addr) (len cap : Nat) (xs : List WI) : Prop :=
 xs.length = len ∧ len ≤ cap ∧ cap ≤ maxLen ∧ (∀ x ∈ xs, x.wf) ∧ (len = 0 ∨ ∃ b off, a = some ⟨b, off, none⟩ ∧ b < B ∧ ∀ (i : Nat) (x : WI), xs[i]? = some x →
  w.cell? ⟨b, off + i * 3, none⟩ = some (.bool x.neg) ∧ w.cell? ⟨b, off + i * 3 + 1, none⟩ = some (.int .u64 x.hi) ∧ w.cell? ⟨b, off + i * 3 + 2, none⟩ = some (.int .u64 x.lo))
theorem IntsAt.below {B : Nat} {w w' : World} {a : Option Addr} {len cap : Nat} {xs : List WI} (h : IntsAt B w a len cap xs) (hb : Below B w w') : IntsAt B w' a len cap xs := by
 obtain ⟨h1, h2, h2', hw, h3⟩ := h
 refine ⟨h1, h2, h2', hw, ?_⟩
 rcases h3 with h3 | ⟨b, off, ha, hB, hc⟩
 ·exact .inl h3
 ·refine .inr ⟨b, off, ha, hB, fun i f hf => ?_⟩
  obtain ⟨c0, c1, c2⟩ := hc i f hf
  exact ⟨(hb.cell (p := ⟨b, off + i * 3, none⟩) hB).trans c0, (hb.cell (p := ⟨b, off + i * 3 + 1, none⟩) hB).trans c1, (hb.cell (p := ⟨b, off + i * 3 + 2, none⟩) hB).trans c2⟩
theorem IntsAt.mono {B B' : Nat} {w : World} {a : Option Addr} {len cap : Nat} {xs : List WI} (h : IntsAt B w a len cap xs) (hb : B ≤ B') : IntsAt B' w a len cap xs := by
 obtain ⟨h1, h2, h2', hw, h3⟩ := h
 refine ⟨h1, h2, h2', hw, ?_⟩
 rcases h3 with h3 | ⟨b, off, ha, hB, hc⟩
 ·exact .inl h3
 ·exact .inr ⟨b, off, ha, by omega, hc⟩
theorem IntsAt.take {B : Nat} {w : World} {a : Option Addr} {len cap n : Nat} {xs : List WI} (h : IntsAt B w a len cap xs) (hn : n ≤ len) : IntsAt B w a n cap (xs.take n) := by
 obtain ⟨h1, h2, h2', hw, h3⟩ := h
 refine ⟨by rw [List.length_take]; omega, by omega, h2', fun x hx => hw x (List.mem_of_mem_take hx), ?_⟩
 rcases h3 with h3 | ⟨b, off, ha, hB, hc⟩
 ·exact .inl (by omega)
 ·refine .inr ⟨b, off, ha, hB, fun i x hx => hc i x ?_⟩
  rw [List.getElem?_take] at hx
  split at hx
  ·exact hx
  ·cases hx
theorem IntsAt.drop {B : Nat} {w : World} {a : Option Addr} {len cap n : Nat} {xs : List WI} (h : IntsAt B w a len cap xs) (hn : n ≤ len) : IntsAt B w (if cap = n then a else a.map (·.add (n * 3))) (len - n) (cap - n) (xs.drop n) := by
 obtain ⟨h1, h2, h2', hw, h3⟩ := h
 refine ⟨by rw [List.length_drop]; omega, by omega, by omega, fun x hx => hw x (List.mem_of_mem_drop hx), ?_⟩
 by_cases h0 : len - n = 0
 ·exact .inl h0
 ·rcases h3 with h3 | ⟨b, off, rfl, hB, hc⟩
  ·omega
  ·refine .inr ⟨b, off + n * 3, ?_, hB, fun i x hx => ?_⟩
   ·rw [if_neg (by omega)]
    simp [Addr.add]
   ·rw [List.getElem?_drop] at hx
    have := hc (n + i) x hx
    rw [show off + (n + i) * 3 = off + n * 3 + i * 3 by omega] at this
    exact this
theorem IntsAt.get {B : Nat} {w w' : World} {a : Option Addr} {len cap : Nat} {xs : List WI} (h : IntsAt B w a len cap xs) (hb : Below B w w') {k : Nat} (hk : k < len) :
  ∃ b off x, a = some ⟨b, off, none⟩ ∧ b < B ∧ xs[k]? = some x ∧ x.wf ∧ w'.cell? ⟨b, off + k * 3, none⟩ = some (.bool x.neg) ∧ w'.cell? ⟨b, off + k * 3 + 1, none⟩ = some (.int .u64 x.hi) ∧ w'.cell? ⟨b, off + k * 3 + 2, none⟩ = some (.int .u64 x.lo) := by
 obtain ⟨h1, h2, h2', hw, h3⟩ := h.below hb
 rcases h3 with h3 | ⟨b, off, ha, hB, hc⟩
 ·omega
 ·have hl : k < xs.length := by omega
  exact ⟨b, off, xs[k], ha, hB, List.getElem?_eq_getElem hl, hw _ (List.getElem_mem hl), hc k _ (List.getElem?_eq_getElem hl)⟩
theorem cnt_take_succ {fs : List Fld} {k : Nat} {f : Fld} (h : fs[k]? = some f) : cnt (fs.take (k + 1)) = cnt (fs.take k) + f.count.toNat := by rw [take_snoc h, cnt_snoc]
theorem cnt_le : ∀ (fs : List Fld), fs.all fldOk = true → cnt fs ≤ 8 * fs.length
 | [], _ => by simp [cnt]
 | f :: r, h => by
  rw [List.all_cons, Bool.and_eq_true] at h
  have := fldOk_bd h.1
  have := cnt_le r h.2
  rw [cnt_cons, List.length_cons]
  omega
set_option maxRecDepth 100000 in
set_option maxHeartbeats 1000000 in
theorem start_any (fs : List Fld) (a : Option Addr) (len cap i : Nat) (w : World) (hfs : FieldsAt w.heap.size w a len fs) (hc : len ≤ cap) (hl : layCheck fs = 0) (hi : i < len) :
  Calls Tryz.prog 181 #[.slice a len cap, .int .i64 (i : Int)] w fun e w' => e = .returned (.int .i64 (cnt (fs.take i) : Int)) ∧ Below w.heap.size w w' := by
 have hmx : len ≤ maxLen := hfs.2.1
 obtain ⟨h8, hall, _⟩ := layCheck_zero hl
 have hlen := hfs.1
 have HLC := Lib.hid hl
 have HA := Lib.hid hall
 clear hl hall
 unfold maxLen at hmx
 have e1 : decide ((i : Int) < 0) = false := by simp
 have e2 : decide ((len : Int) ≤ (i : Int)) = false := by simp; omega
 go_enter Tryz.func181, Tryz.ntmps181
 go_wp2_with fail
 refine (layCheck_any fs _ _ _ _ hfs).mono ?_
 rintro e w1 ⟨rfl, hb1⟩
 rw [HLC.out]
 go_wp2_with fail
 go_loopw [5, 25] (fun n j wr => ∃ k : Nat, k ≤ i ∧ j = .int .i64 (k : Int) ∧ n = .int .i64 (cnt (fs.take k) : Int) ∧ Below w.heap.size w wr) (fun _ j _ => i - (intOf j).toNat)
 case atStart => exact ⟨0, by omega, rfl, rfl, hb1⟩
 case round =>
  obtain ⟨k, hk, rfl, rfl, hbw⟩ := hrel
  by_cases hlt : k < i
  ·obtain ⟨b, off, f, rfl, hB, hf, c0, c1, c2⟩ := hfs.get hbw (show k < len by omega)
   have HT := Lib.hid (cnt_take_succ hf)
   have hfo : fldOk f = true := by have h := HA.out; rw [List.all_eq_true] at h; exact h f (List.mem_of_getElem? hf)
   obtain ⟨_, _, f1, f2⟩ := fldOk_bd hfo
   have hcb := cnt_le (fs.take k) (all_take HA.out k)
   rw [List.length_take] at hcb
   have hcb' : cnt (fs.take k) ≤ 64 := by omega
   generalize cnt (fs.take k) = m at *
   clear hcb hfo hf
   have hz := hbw.size
   go_wp2
   go_roundw
   case rel => exact ⟨k + 1, by omega, by go_num, by rw [HT.out]; congr 1; omega, by go_grown⟩
   case measure => simp [intOf]; omega
  ·obtain rfl : k = i := by omega
   go_wp2
   go_ret
   exact ⟨rfl, hbw⟩
def elems_list (b off m cap : Nat) (s c : Int) : List (Value → World → Prop) :=
 [IsV (.slice (some ⟨b, off, none⟩) (m + 1) cap),
  IsV (.slice (some ⟨b, off, none⟩) (m + 1) cap),
  IsV (.int .i64 ((m : Int) + 1)),
  IsV (.int .i64 (m : Int)),
  IsV (.int .i64 s),
  IsV (.slice (some ⟨b, off, none⟩) (m + 1) cap),
  IsV (.slice (some ⟨b, off, none⟩) (m + 1) cap),
  IsV (.int .i64 ((m : Int) + 1)),
  IsV (.int .i64 (m : Int)),
  IsV (.pointer (some ⟨b, off + m * 3, none⟩)),
  IsV (.pointer (some ⟨b, off + m * 3 + 2, none⟩)),
  IsV (.int .i64 c),
  IsV (.int .i64 (s + c)),
  IsV (.int .i64 (s + c))]
theorem elems_list_lasts (b off m cap : Nat) (s c : Int) : ∀ p ∈ elems_list b off m cap  s c , Lasts p := by
 simp only [elems_list, List.mem_cons, List.not_mem_nil, or_false]
 rintro p hp
 repeat (rcases hp with rfl | hp; exact lasts_v _)
set_option maxRecDepth 100000 in
set_option maxHeartbeats 1000000 in
theorem elems_any (fs : List Fld) (a : Option Addr) (len cap : Nat) (w : World) (hfs : FieldsAt w.heap.size w a len fs) (hc : len ≤ cap) (hl : layCheck fs = 0) :
  Calls Tryz.prog 150 #[.slice a len cap] w fun e w' => e = .returned (.int .i64 (cnt fs : Int)) ∧ Below w.heap.size w w' := by
 have hmx : len ≤ maxLen := hfs.2.1
 obtain ⟨h8, hall, _⟩ := layCheck_zero hl
 have hlen := hfs.1
 have HLC := Lib.hid hl
 have HA := Lib.hid hall
 clear hl hall
 unfold maxLen at hmx
 rcases Nat.eq_zero_or_pos len with rfl | hpos
 ·obtain rfl := List.eq_nil_of_length_eq_zero hlen
  go_enter Tryz.func150, Tryz.ntmps150
  go_wp2_with fail
  refine (layCheck_any [] _ _ _ _ hfs).mono ?_
  rintro e w1 ⟨rfl, hb1⟩
  rw [HLC.out]
  go_wp2_with fail
  go_ret
  exact ⟨rfl, hb1⟩
 ·obtain ⟨m, rfl⟩ : ∃ m, len = m + 1 := ⟨len - 1, by omega⟩
  obtain ⟨b, off, f, rfl, hB, hf, c0, c1, c2⟩ := hfs.get (Below.refl _ w) (show m < m + 1 by omega)
  have hfo : fldOk f = true := by have h := HA.out; rw [List.all_eq_true] at h; exact h f (List.mem_of_getElem? hf)
  obtain ⟨_, _, f1, f2⟩ := fldOk_bd hfo
  have hcb := cnt_le (fs.take m) (all_take HA.out m)
  rw [List.length_take] at hcb
  have hT := cnt_take_succ hf
  rw [List.take_of_length_le (show fs.length ≤ m + 1 by omega)] at hT
  have HT := Lib.hid hT
  have HB := Lib.hid hB
  have HFS := Lib.hid hfs
  have hcb' : cnt (fs.take m) ≤ 64 := by omega
  obtain ⟨s, hs⟩ : ∃ s : Nat, cnt (fs.take m) = s := ⟨_, rfl⟩
  obtain ⟨c, hc'⟩ : ∃ c : Nat, f.count = c := ⟨f.count.toNat, by omega⟩
  rw [hs] at hcb'
  rw [hc'] at f1 f2 c2
  have HC := Lib.hid c2
  have hw1 : IntKind.i64.wrap (m : Int) = (m : Int) := IntWalk.i64_in _ (by omega)
  have hw2 : IntKind.i64.wrap ((s : Int) + (c : Int)) = (s : Int) + (c : Int) := IntWalk.i64_in _ (by omega)
  have HS := Lib.hid hs
  have HCC := Lib.hid hc'
  have i1 : (0 : Int) ≤ (m : Int) := by omega
  have i2 : (m : Int) < (m : Int) + 1 := by omega
  have e0 : ((m : Int) + 1 == 0) = false := by rw [beq_eq_false_iff_ne]; omega
  clear hf hfo hcb hT hB c0 c1 c2 hfs hs hc'
  go_enter Tryz.func150, Tryz.ntmps150
  go_wp2_with fail
  refine (layCheck_any fs _ _ _ _ HFS.out).mono ?_
  rintro e w1 ⟨rfl, hb1⟩
  rw [HLC.out]
  go_wp2_with fail
  have HB1 := Lib.hid hb1
  clear hb1
  refine wp_region_frame (by kernel_rfl) (by kernel_rfl) (by kernel_rfl) (byList (elems_list b off m cap s c)) (lasts_list (elems_list_lasts b off m cap s c)) ?_ ?_
  ·intro vs w' iq o A F hb ho hd
   have m0 : A.tmps[0]?.getD undef = (.slice (some ⟨b, off, none⟩) (m + 1) cap) := F.m (by kernel_rfl) rfl
   have G := F.light (n := 24) (by kernel_rfl)
   clear F
   have c2 := ((HB1.out.trans (hb.mono HB1.out.size)).cell (p := ⟨b, off + m * 3 + 2, none⟩) HB.out).trans HC.out
   revert ho hd
   match iq with
   | 0 =>
    intro ho hd
    obtain rfl := (Option.some.inj ho).symm
    clear hd ho
    refine step_open rfl ?_
    clear G
    exact step_run (v := (.slice (some ⟨b, off, none⟩) (m + 1) cap)) (by go_simp) rfl
   | 1 =>
    intro ho hd
    obtain rfl := (Option.some.inj ho).symm
    clear hd ho
    refine step_open rfl ?_
    clear G
    exact step_run (v := (.slice (some ⟨b, off, none⟩) (m + 1) cap)) (by go_simp) rfl
   | 2 =>
    intro ho hd
    obtain rfl := (Option.some.inj ho).symm
    have d1 : vs 1 = (.slice (some ⟨b, off, none⟩) (m + 1) cap) := hd ⟨1, .data⟩ (by simp) rfl
    clear hd ho
    have h12 := G.h (j := 1) (d := 12) rfl (by decide) d1
    refine step_open rfl ?_
    clear G
    exact step_run (v := (.int .i64 ((m : Int) + 1))) (by go_simp) rfl
   | 3 =>
    intro ho hd
    obtain rfl := (Option.some.inj ho).symm
    have d2 : vs 2 = (.int .i64 ((m : Int) + 1)) := hd ⟨2, .data⟩ (by simp) rfl
    clear hd ho
    have h13 := G.h (j := 2) (d := 13) rfl (by decide) d2
    refine step_open rfl ?_
    clear G
    exact step_run (v := (.int .i64 (m : Int))) (by go_simp) rfl
   | 4 =>
    intro ho hd
    obtain rfl := (Option.some.inj ho).symm
    have d0 : vs 0 = (.slice (some ⟨b, off, none⟩) (m + 1) cap) := hd ⟨0, .data⟩ (by simp) rfl
    have d3 : vs 3 = (.int .i64 (m : Int)) := hd ⟨3, .data⟩ (by simp) rfl
    clear hd ho
    have h11 := G.h (j := 0) (d := 11) rfl (by decide) d0
    have h14 := G.h (j := 3) (d := 14) rfl (by decide) d3
    refine step_open rfl ?_
    clear G
    go_simp
    refine (start_any fs _ _ _ m _ ((HFS.out.below (HB1.out.trans (hb.mono HB1.out.size))).mono (by have := HB1.out.size; have := hb.size; omega)) (by omega) HLC.out (by omega)).mono ?_
    rintro e w2 ⟨rfl, hb2⟩
    rw [HS.out]
    exact ⟨_, rfl, rfl, hb2⟩
   | 5 =>
    intro ho hd
    obtain rfl := (Option.some.inj ho).symm
    clear hd ho
    refine step_open rfl ?_
    clear G
    exact step_run (v := (.slice (some ⟨b, off, none⟩) (m + 1) cap)) (by go_simp) rfl
   | 6 =>
    intro ho hd
    obtain rfl := (Option.some.inj ho).symm
    clear hd ho
    refine step_open rfl ?_
    clear G
    exact step_run (v := (.slice (some ⟨b, off, none⟩) (m + 1) cap)) (by go_simp) rfl
   | 7 =>
    intro ho hd
    obtain rfl := (Option.some.inj ho).symm
    have d6 : vs 6 = (.slice (some ⟨b, off, none⟩) (m + 1) cap) := hd ⟨6, .data⟩ (by simp) rfl
    clear hd ho
    have h17 := G.h (j := 6) (d := 17) rfl (by decide) d6
    refine step_open rfl ?_
    clear G
    exact step_run (v := (.int .i64 ((m : Int) + 1))) (by go_simp) rfl
   | 8 =>
    intro ho hd
    obtain rfl := (Option.some.inj ho).symm
    have d7 : vs 7 = (.int .i64 ((m : Int) + 1)) := hd ⟨7, .data⟩ (by simp) rfl
    clear hd ho
    have h18 := G.h (j := 7) (d := 18) rfl (by decide) d7
    refine step_open rfl ?_
    clear G
    exact step_run (v := (.int .i64 (m : Int))) (by go_simp) rfl
   | 9 =>
    intro ho hd
    obtain rfl := (Option.some.inj ho).symm
    have d5 : vs 5 = (.slice (some ⟨b, off, none⟩) (m + 1) cap) := hd ⟨5, .data⟩ (by simp) rfl
    have d8 : vs 8 = (.int .i64 (m : Int)) := hd ⟨8, .data⟩ (by simp) rfl
    clear hd ho
    have h16 := G.h (j := 5) (d := 16) rfl (by decide) d5
    have h19 := G.h (j := 8) (d := 19) rfl (by decide) d8
    refine step_open rfl ?_
    clear G
    exact step_run (v := (.pointer (some ⟨b, off + m * 3, none⟩))) (by go_simp) rfl
   | 10 =>
    intro ho hd
    obtain rfl := (Option.some.inj ho).symm
    have d9 : vs 9 = (.pointer (some ⟨b, off + m * 3, none⟩)) := hd ⟨9, .data⟩ (by simp) rfl
    clear hd ho
    have h20 := G.h (j := 9) (d := 20) rfl (by decide) d9
    refine step_open rfl ?_
    clear G
    exact step_run (v := (.pointer (some ⟨b, off + m * 3 + 2, none⟩))) (by go_simp) rfl
   | 11 =>
    intro ho hd
    obtain rfl := (Option.some.inj ho).symm
    have d10 : vs 10 = (.pointer (some ⟨b, off + m * 3 + 2, none⟩)) := hd ⟨10, .data⟩ (by simp) rfl
    clear hd ho
    have h21 := G.h (j := 10) (d := 21) rfl (by decide) d10
    refine step_open rfl ?_
    clear G
    exact step_run (v := (.int .i64 c)) (by go_simp) rfl
   | 12 =>
    intro ho hd
    obtain rfl := (Option.some.inj ho).symm
    have d4 : vs 4 = (.int .i64 s) := hd ⟨4, .data⟩ (by simp) rfl
    have d11 : vs 11 = (.int .i64 c) := hd ⟨11, .data⟩ (by simp) rfl
    clear hd ho
    have h15 := G.h (j := 4) (d := 15) rfl (by decide) d4
    have h22 := G.h (j := 11) (d := 22) rfl (by decide) d11
    refine step_open rfl ?_
    clear G
    exact step_run (v := (.int .i64 (s + c))) (by go_simp) rfl
   | 13 =>
    intro ho hd
    obtain rfl := (Option.some.inj ho).symm
    have d12 : vs 12 = (.int .i64 (s + c)) := hd ⟨12, .data⟩ (by simp) rfl
    clear hd ho
    have h23 := G.h (j := 12) (d := 23) rfl (by decide) d12
    refine step_open rfl ?_
    clear G
    exact step_run (v := (.int .i64 (s + c))) (by go_simp) rfl
   | n + 14 =>
    intro ho hd
    simp at ho
  ·intro vs w' hb hR
   have hv : vs 13 = (.int .i64 ((s : Int) + c)) := hR 13 (by simp)
   have HB2 := Lib.hid (HB1.out.trans (hb.mono HB1.out.size))
   have HE := Lib.hid (show ((s : Int) + c) = (cnt fs : Int) by have h1 := HT.out; have h2 := HS.out; have h3 := HCC.out; omega)
   simp only [putAll, Act.put, List.setIfInBounds_toArray, List.set_cons_succ, List.set_cons_zero]
   rw [hv]
   clear hR hb hv
   go_wp2_with fail
   go_ret
   exact ⟨ret_intk HE.out, HB2.out⟩
theorem fitGo_snoc : ∀ (fs : List Fld) (val : List WI) (f : Fld), cnt fs + f.count.toNat ≤ val.length → fitGo fs val = 0 → fitGo (fs ++ [f]) val = if ((val.drop (cnt fs)).take f.count.toNat).all (fitsF f.kind) then 0 else 3
 | [], val, f, _, _ => by simp [fitGo, cnt]
 | g :: r, val, f, h, h0 => by
  rw [cnt_cons] at h ⊢
  rw [List.cons_append]
  unfold fitGo at h0 ⊢
  split at h0
  ·rename_i hg
   rw [if_pos hg, fitGo_snoc r _ f (by rw [List.length_drop]; omega) h0, List.drop_drop]
  ·cases h0
theorem fitGo_pre : ∀ (fs gs : List Fld) (val : List WI), fitGo fs val = 3 → fitGo (fs ++ gs) val = 3
 | [], gs, val, h => by cases h
 | g :: r, gs, val, h => by
  rw [List.cons_append]
  unfold fitGo at h ⊢
  split at h
  ·rename_i hg
   rw [if_pos hg]; exact fitGo_pre r gs _ h
  ·rename_i hg
   rw [if_neg hg]
theorem cnt_take_le {fs : List Fld} (k : Nat) : cnt (fs.take k) ≤ cnt fs := by
 have h : cnt fs = cnt (fs.take k) + cnt (fs.drop k) := by
  conv => lhs; rw [← List.take_append_drop k fs]
  simp only [cnt, List.map_append, List.sum_append]
 omega
theorem all_take_succ {α : Type} {p : α → Bool} {l : List α} {k : Nat} {x : α} (h : l[k]? = some x) (hp : (l.take k).all p = true) : (l.take (k + 1)).all p = p x := by
 rw [take_snoc h, List.all_append, hp]; simp
theorem all_take_false {α : Type} {p : α → Bool} {l : List α} {k : Nat} {x : α} (h : l[k]? = some x) (hp : p x = false) : l.all p = false := by
 rw [List.all_eq_false]
 exact ⟨x, List.mem_of_getElem? h, by simp [hp]⟩
def FitVal (B : Nat) (val : List WI) (fs : List Fld) (k : Nat) (v : Value) (w : World) : Prop := ∃ a len cap, v = .slice a len cap ∧ IntsAt B w a len cap (val.drop (cnt (fs.take k)))
set_option maxRecDepth 100000 in
set_option maxHeartbeats 2000000 in
theorem fit_any (fs : List Fld) (a : Option Addr) (len cap : Nat) (va : Option Addr) (vl vc : Nat) (val : List WI) (w : World) (hfs : FieldsAt w.heap.size w a len fs) (hc : len ≤ cap) (hv : IntsAt w.heap.size w va vl vc val) :
  Calls Tryz.prog 116 #[.slice a len cap, .slice va vl vc] w fun e w' => e = .returned (.int .i64 (fitF fs val)) ∧ Below w.heap.size w w' := by
 have hmx : len ≤ maxLen := hfs.2.1
 have hlen := hfs.1
 have hvl := hv.1
 have hvx : vc ≤ maxLen := hv.2.2.1
 have hvy : vl ≤ vc := hv.2.1
 unfold maxLen at hmx hvx
 have HFS := Lib.hid hfs
 have HV := Lib.hid hv
 have HLN := Lib.hid hlen
 have HVL := Lib.hid hvl
 clear hfs hv hlen hvl
 by_cases hl : layCheck fs = 0
 ·obtain ⟨h8, hall, _⟩ := layCheck_zero hl
  have hcl := cnt_le fs hall
  have HLC := Lib.hid hl
  have HA := Lib.hid hall
  clear hl hall
  by_cases hn : vl = cnt fs
  ·have hb : ((vl : Int) != (cnt fs : Int)) = false := by rw [hn]; simp
   have HN := Lib.hid hn
   clear hn
   go_enter Tryz.func116, Tryz.ntmps116
   go_wp2_with fail
   refine (layCheck_any fs _ _ _ _ HFS.out).mono ?_
   rintro e w1 ⟨rfl, hb1⟩
   rw [HLC.out]
   go_wp2_with fail
   refine (elems_any fs _ _ _ _ ((HFS.out.below hb1).mono (by have := hb1.size; omega)) hc HLC.out).mono ?_
   rintro e w2 ⟨rfl, hb2⟩
   have hbw : Below w.heap.size w w2 := hb1.trans (hb2.mono (by have := hb1.size; omega))
   clear hb1 hb2
   go_wp2_with fail
   clear hb
   go_loopw [1, 22] (fun v j wr => ∃ k : Nat, k ≤ len ∧ j = .int .i64 (k : Int) ∧ FitVal w.heap.size val fs k v wr ∧ fitGo (fs.take k) val = 0 ∧ Below w.heap.size w wr) (fun _ j _ => len - (intOf j).toNat)
   case atStart => exact ⟨0, by omega, rfl, ⟨_, _, _, rfl, by simpa [cnt] using HV.out.below hbw⟩, by simp [fitGo], hbw⟩
   case round =>
    obtain ⟨k, hk, rfl, ⟨a2, l2, c2, rfl, hva⟩, hgo, hbr⟩ := hrel
    have hz := hbr.size
    by_cases hlt : k < len
    ·obtain ⟨b, off, f, rfl, hB, hf, c0, c1, c2'⟩ := HFS.out.get hbr hlt
     have hfo : fldOk f = true := by have h := HA.out; rw [List.all_eq_true] at h; exact h f (List.mem_of_getElem? hf)
     obtain ⟨_, _, f1, f2⟩ := fldOk_bd hfo
     have hct := cnt_take_succ hf
     have hcl2 := cnt_take_le (fs := fs) (k + 1)
     have hll := hva.1
     rw [List.length_drop] at hll
     have hl2x : c2 ≤ maxLen := hva.2.2.1
     have hl2y : l2 ≤ c2 := hva.2.1
     unfold maxLen at hl2x
     obtain ⟨c, hc'⟩ : ∃ c : Nat, f.count = c := ⟨f.count.toNat, by omega⟩
     have hcc : c ≤ l2 := by have h1 := HN.out; have h2 := HVL.out; rw [hc'] at hct; simp at hct; omega
     rw [hc'] at f1 f2 c2'
     have HCC := Lib.hid hc'
     have HF := Lib.hid hf
     have HGO := Lib.hid hgo
     have hvf := hva.below ((Below.refl w.heap.size wr).alloc hz (.cells #[.string f.name, .int .i64 f.kind, .int .i64 (c : Int)] 79))
     have HVA := Lib.hid hvf
     clear hfo hct hcl2 hll hc' hf hgo hva hvf
     go_wp2_with fail
     have hf7 := heap_alloc_new wr (.cells #[.string f.name, .int .i64 f.kind, .int .i64 (c : Int)] 79)
     have hbf : Below w.heap.size w (wr.alloc (.cells #[.string f.name, .int .i64 f.kind, .int .i64 (c : Int)] 79)) := hbr.alloc hz _
     have hzf := World.size_alloc wr (.cells #[.string f.name, .int .i64 f.kind, .int .i64 (c : Int)] 79)
     obtain ⟨H, hH⟩ : ∃ H, wr.heap.size = H := ⟨_, rfl⟩
     rw [hH] at hf7 hz hzf ⊢
     clear hH hbr c0 c1 c2'
     generalize wr.alloc (.cells #[.string f.name, .int .i64 f.kind, .int .i64 (c : Int)] 79) = wf at *
     have HF7 := Lib.hid hf7
     have HZF := Lib.hid hzf
     have HLT := Lib.hid hlt
     clear hf7 hzf hlt
     go_loopw [31] (fun j ws => ∃ m : Nat, m ≤ c ∧ j = .int .i64 (m : Int) ∧ ((val.drop (cnt (fs.take k))).take m).all (fitsF f.kind) = true ∧ Below (H + 1) wf ws) (fun j _ => c - (intOf j).toNat)
     case atStart => exact ⟨0, by omega, rfl, by simp, Below.refl _ _⟩
     case round =>
      obtain ⟨m, hm, rfl, hall, hbs⟩ := hrel
      have HALL := Lib.hid hall
      clear hall
      have hbs' := hbf.trans (hbs.mono (show w.heap.size ≤ H + 1 by omega))
      have hzs := hbs.size
      have hblk := (hbs.block H (by omega)).trans HF7.out
      have hHs := lt_some hblk
      have k1 := cell_at hblk 1
      have k2 := cell_at hblk 2
      simp at k1 k2
      by_cases hlt : m < c
      ·obtain ⟨vb, vo, x, rfl, hvb, hx, hxw, x0, x1, x2⟩ := HVA.out.get (hbs.mono (show w.heap.size ≤ H + 1 by omega)) (show m < l2 by omega)
       have htk : ((val.drop (cnt (fs.take k))).take c)[m]? = some x := by rw [List.getElem?_take, if_pos hlt]; exact hx
       have HX := Lib.hid hx
       have HTK := Lib.hid htk
       have i1 : (0 : Int) ≤ (m : Int) := by omega
       have i2 : (m : Int) < (c : Int) := by omega
       clear hx htk hblk
       obtain ⟨xn, xh, xl⟩ := x
       go_wp2_with fail
       refine (fits_any f.kind ⟨xn, xh, xl⟩ _ hxw).mono ?_
       rintro e w5 ⟨rfl, hb5⟩
       have hb5' := hb5.size
       rw [World.size_alloc] at hb5'
       have hbel : Below (H + 1) wf w5 := (hbs.alloc (by omega) _).trans (hb5.mono (by simp; omega))
       have HBEL := Lib.hid hbel
       clear hb5 hbel
       cases hfit : fitsF f.kind ⟨xn, xh, xl⟩
       ·have HR := Lib.hid (show (3 : Int) = fitF fs val by
         unfold fitF
         rw [if_neg (by simp [HLC.out]), if_neg (by have h1 := HN.out; have h2 := HVL.out; omega)]
         have h1 := fitGo_snoc (fs.take k) val f (by have h1 := HN.out; have h2 := HVL.out; have h3 := cnt_take_succ HF.out; have h4 := cnt_take_le (fs := fs) (k + 1); omega) HGO.out
         rw [HCC.out, Int.toNat_natCast, all_take_false HTK.out hfit, ← take_snoc HF.out] at h1
         have h2 := fitGo_pre (fs.take (k + 1)) (fs.drop (k + 1)) val (by simpa using h1)
         rw [List.take_append_drop] at h2
         exact h2.symm)
        clear hfit
        go_wp2_with fail
        go_ret
        exact ⟨ret_intk HR.out, hbf.trans (HBEL.out.mono (by omega))⟩
       ·have HFIT := Lib.hid hfit
        clear hfit
        go_wp2_with fail
        go_roundw
        case rel => exact ⟨m + 1, by omega, by go_num, by rw [all_take_succ HX.out HALL.out]; exact HFIT.out, HBEL.out⟩
        case measure => simp [intOf]; omega
      ·obtain rfl : m = c := by omega
       have hg2 : fitGo (fs.take (k + 1)) val = 0 := by
        have h1 := fitGo_snoc (fs.take k) val f (by have h1 := HN.out; have h2 := HVL.out; have h3 := cnt_take_succ HF.out; have h4 := cnt_take_le (fs := fs) (k + 1); omega) HGO.out
        rw [HCC.out, Int.toNat_natCast, HALL.out, ← take_snoc HF.out] at h1
        simpa using h1
       have hdr := (HVA.out.below (hbs.mono (show w.heap.size ≤ H + 1 by omega))).drop hcc
       rw [List.drop_drop] at hdr
       have hct := cnt_take_succ HF.out
       rw [HCC.out, Int.toNat_natCast] at hct
       rw [← hct] at hdr
       have HDR := Lib.hid hdr
       have HG2 := Lib.hid hg2
       clear hdr hct hg2 hblk
       have hbs2 := hbs'
       have hlt2 := HLT.out
       by_cases he : c2 = m
       ·subst he
        obtain rfl : l2 = c2 := by omega
        have hdr := HDR.out
        rw [if_pos rfl, Nat.sub_self] at hdr
        have HDR2 := Lib.hid hdr
        clear hdr
        go_wp2_with fail
        go_roundw
        case rel => exact ⟨k + 1, by omega, by go_num, ⟨_, _, _, rfl, HDR2.out⟩, HG2.out, hbs2⟩
        case measure => simp [intOf]; omega
       ·have hdr := HDR.out
        rw [if_neg he] at hdr
        have HDR2 := Lib.hid hdr
        clear hdr
        go_wp2_with fail
        go_roundw
        case rel => exact ⟨k + 1, by omega, by go_num, ⟨_, _, _, rfl, HDR2.out⟩, HG2.out, hbs2⟩
        case measure => simp [intOf]; omega
    ·obtain rfl : k = len := by omega
     rw [List.take_of_length_le (by have := HLN.out; omega)] at hgo
     have HR := Lib.hid (show (0 : Int) = fitF fs val by unfold fitF; rw [if_neg (by simp [HLC.out]), if_neg (by have h1 := HN.out; have h2 := HVL.out; omega), hgo])
     clear hgo hva
     go_wp2_with fail
     go_ret
     exact ⟨ret_intk HR.out, hbr⟩
  ·have hb : ((vl : Int) != (cnt fs : Int)) = true := by rw [bne_iff_ne]; omega
   have HR := Lib.hid (show (4 : Int) = fitF fs val by unfold fitF; rw [if_neg (by simp [HLC.out]), if_pos (by have h2 := HVL.out; omega)])
   clear hn
   go_enter Tryz.func116, Tryz.ntmps116
   go_wp2_with fail
   refine (layCheck_any fs _ _ _ _ HFS.out).mono ?_
   rintro e w1 ⟨rfl, hb1⟩
   rw [HLC.out]
   go_wp2_with fail
   refine (elems_any fs _ _ _ _ ((HFS.out.below hb1).mono (by have := hb1.size; omega)) hc HLC.out).mono ?_
   rintro e w2 ⟨rfl, hb2⟩
   have hbw : Below w.heap.size w w2 := hb1.trans (hb2.mono (by have := hb1.size; omega))
   clear hb1 hb2
   go_wp2_with fail
   go_ret
   exact ⟨ret_intk HR.out, hbw⟩
 ·have HR := Lib.hid (show layCheck fs = fitF fs val by unfold fitF; rw [if_pos hl])
  have hb : (layCheck fs != 0) = true := by rw [bne_iff_ne]; exact hl
  go_enter Tryz.func116, Tryz.ntmps116
  go_wp2_with fail
  refine (layCheck_any fs _ _ _ _ HFS.out).mono ?_
  rintro e w1 ⟨rfl, hb1⟩
  generalize layCheck fs = L at *
  go_wp2_with fail
  go_ret
  exact ⟨ret_intk HR.out, hb1⟩
end Go.Proofs.YtgebbmfoamkfnaaGreatDoor
namespace Go.Proofs
open Go.Shelf
def Tryz.lays170_ren : Go.Shelf.Ren := ⟨fun | 170 => 123 | n => n, fun | 70 => 201 | 3 => 3 | 0 => 0 | 72 => 203 | 37 => 156 | 5 => 5 | n => n, fun | n => n⟩
theorem Tryz.lays170 : Go.Proofs.Lays.n170 Tryz.prog Tryz.lays170_ren := {
 mixed := by kernel_rfl
 f170 := Tryz.func123.trans (congrArg some (by kernel_rfl))
 t0 := Tryz.underlying0
 a0 := Tryz.isAgg0
 z0 := Tryz.sizeOf0
 v0 := Tryz.zeroValue0
 t3 := Tryz.underlying3
 a3 := Tryz.isAgg3
 z3 := Tryz.sizeOf3
 v3 := Tryz.zeroValue3
 t37 := Tryz.underlying156
 a37 := Tryz.isAgg156
 z37 := Tryz.sizeOf156
 v37 := Tryz.zeroValue156
 t70 := Tryz.underlying201
 a70 := Tryz.isAgg201
 z70 := Tryz.sizeOf201
 v70 := Tryz.zeroValue201
 t72 := Tryz.underlying203
 a72 := Tryz.isAgg203
 z72 := Tryz.sizeOf203
 v72 := Tryz.zeroValue203 }
def Tryz.lays169_ren : Go.Shelf.Ren := ⟨fun | 169 => 112 | n => n, fun | 70 => 201 | 9 => 9 | 0 => 0 | 72 => 203 | 37 => 156 | 127 => 242 | 3 => 3 | 5 => 5 | n => n, fun | n => n⟩
theorem Tryz.lays169 : Go.Proofs.Lays.n169 Tryz.prog Tryz.lays169_ren := {
 mixed := by kernel_rfl
 f169 := Tryz.func112.trans (congrArg some (by kernel_rfl))
 t0 := Tryz.underlying0
 a0 := Tryz.isAgg0
 z0 := Tryz.sizeOf0
 v0 := Tryz.zeroValue0
 t3 := Tryz.underlying3
 a3 := Tryz.isAgg3
 z3 := Tryz.sizeOf3
 v3 := Tryz.zeroValue3
 t9 := Tryz.underlying9
 a9 := Tryz.isAgg9
 z9 := Tryz.sizeOf9
 v9 := Tryz.zeroValue9
 t37 := Tryz.underlying156
 a37 := Tryz.isAgg156
 z37 := Tryz.sizeOf156
 v37 := Tryz.zeroValue156
 t70 := Tryz.underlying201
 a70 := Tryz.isAgg201
 z70 := Tryz.sizeOf201
 v70 := Tryz.zeroValue201
 t72 := Tryz.underlying203
 a72 := Tryz.isAgg203
 z72 := Tryz.sizeOf203
 v72 := Tryz.zeroValue203
 t127 := Tryz.underlying242
 a127 := Tryz.isAgg242
 z127 := Tryz.sizeOf242
 v127 := Tryz.zeroValue242 }
theorem Tryz.Builder_Extra_169 : Builder.Extra Tryz.prog Tryz.lays169_ren := {
 sizeBuilder := by kernel_rfl
 liesBuilder := by kernel_rfl
 t5 := Tryz.underlying5
 a5 := Tryz.isAgg5
 z5 := Tryz.sizeOf5
 v5 := Tryz.zeroValue5
 infoByte := by kernel_rfl
 cellsByte := by kernel_rfl
 sizeByte := by kernel_rfl
 neB5 := by decide }
open Go.RowKit in
theorem Tryz.Builder_Len_f (B b : Nat) (bs : List Value) (w : World) (h : Lib.IsBuilderF 203 5 B b bs w) :
  Calls Tryz.prog 123 #[.pointer (some ⟨b, 0, none⟩)] w fun e w' => e = .returned (.int .i64 bs.length) ∧ w' = w := Any.Builder_Len_f Tryz.lays170 B b bs w h
open Go.RowKit in
theorem Tryz.Builder_String_any_k (B b : Nat) (l : List UInt8) (w : World) (h : Lib.IsBuilderF 203 5 B b (Lib.byteCells l) w) (hBw : B ≤ w.heap.size) :
  Calls Tryz.prog 112 #[.pointer (some ⟨b, 0, none⟩)] w fun e w' => e = .returned (.string ⟨l.toArray⟩) ∧ (Lib.IsBuilderF 203 5 B b (Lib.byteCells l) w' ∧ Below B w w' ∧ Lib.OthersKept 5 (some b) w w') := Any.Builder_String_any_k Tryz.lays169 Tryz.Builder_Extra_169 B b l w h hBw
def Tryz.lays105_ren : Go.Shelf.Ren := ⟨fun | 105 => 122 | 212 => 155 | 99 => 156 | 165 => 110 | 166 => 111 | 170 => 123 | 169 => 112 | 263 => 186 | 264 => 187 | 206 => 188 | 240 => 146 | 241 => 147 | 276 => 178 | 277 => 179 | n => n, fun | 9 => 9 | 3 => 3 | 4 => 4 | 20 => 20 | 0 => 0 | 46 => 70 | 109 => 252 | 5 => 5 | 72 => 203 | 76 => 143 | 51 => 25 | 146 => 265 | 53 => 49 | 148 => 292 | 70 => 201 | 37 => 156 | 75 => 142 | 127 => 242 | 164 => 284 | 80 => 40 | n => n, fun | n => n⟩
theorem Tryz.lays105 : Go.Proofs.Lays.n105 Tryz.prog Tryz.lays105_ren := {
 mixed := by kernel_rfl
 f99 := Tryz.func156.trans (congrArg some (by kernel_rfl))
 f105 := Tryz.func122.trans (congrArg some (by kernel_rfl))
 f165 := Tryz.func110.trans (congrArg some (by kernel_rfl))
 f166 := Tryz.func111.trans (congrArg some (by kernel_rfl))
 f169 := Tryz.func112.trans (congrArg some (by kernel_rfl))
 f170 := Tryz.func123.trans (congrArg some (by kernel_rfl))
 f206 := Tryz.func188.trans (congrArg some (by kernel_rfl))
 f212 := Tryz.func155.trans (congrArg some (by kernel_rfl))
 f240 := Tryz.func146.trans (congrArg some (by kernel_rfl))
 f241 := Tryz.func147.trans (congrArg some (by kernel_rfl))
 f263 := Tryz.func186.trans (congrArg some (by kernel_rfl))
 f264 := Tryz.func187.trans (congrArg some (by kernel_rfl))
 f276 := Tryz.func178.trans (congrArg some (by kernel_rfl))
 f277 := Tryz.func179.trans (congrArg some (by kernel_rfl))
 t0 := Tryz.underlying0
 a0 := Tryz.isAgg0
 z0 := Tryz.sizeOf0
 v0 := Tryz.zeroValue0
 t3 := Tryz.underlying3
 a3 := Tryz.isAgg3
 z3 := Tryz.sizeOf3
 v3 := Tryz.zeroValue3
 t4 := Tryz.underlying4
 a4 := Tryz.isAgg4
 z4 := Tryz.sizeOf4
 v4 := Tryz.zeroValue4
 t5 := Tryz.underlying5
 a5 := Tryz.isAgg5
 z5 := Tryz.sizeOf5
 v5 := Tryz.zeroValue5
 t9 := Tryz.underlying9
 a9 := Tryz.isAgg9
 z9 := Tryz.sizeOf9
 v9 := Tryz.zeroValue9
 t20 := Tryz.underlying20
 a20 := Tryz.isAgg20
 z20 := Tryz.sizeOf20
 v20 := Tryz.zeroValue20
 t37 := Tryz.underlying156
 a37 := Tryz.isAgg156
 z37 := Tryz.sizeOf156
 v37 := Tryz.zeroValue156
 t46 := Tryz.underlying70
 a46 := Tryz.isAgg70
 z46 := Tryz.sizeOf70
 v46 := Tryz.zeroValue70
 t51 := Tryz.underlying25
 a51 := Tryz.isAgg25
 z51 := Tryz.sizeOf25
 v51 := Tryz.zeroValue25
 t53 := Tryz.underlying49
 a53 := Tryz.isAgg49
 z53 := Tryz.sizeOf49
 v53 := Tryz.zeroValue49
 t70 := Tryz.underlying201
 a70 := Tryz.isAgg201
 z70 := Tryz.sizeOf201
 v70 := Tryz.zeroValue201
 t72 := Tryz.underlying203
 a72 := Tryz.isAgg203
 z72 := Tryz.sizeOf203
 v72 := Tryz.zeroValue203
 t75 := Tryz.underlying142
 a75 := Tryz.isAgg142
 z75 := Tryz.sizeOf142
 v75 := Tryz.zeroValue142
 t76 := Tryz.underlying143
 a76 := Tryz.isAgg143
 z76 := Tryz.sizeOf143
 v76 := Tryz.zeroValue143
 t109 := Tryz.underlying252
 a109 := Tryz.isAgg252
 z109 := Tryz.sizeOf252
 v109 := Tryz.zeroValue252
 t127 := Tryz.underlying242
 a127 := Tryz.isAgg242
 z127 := Tryz.sizeOf242
 v127 := Tryz.zeroValue242
 t146 := Tryz.underlying265
 a146 := Tryz.isAgg265
 z146 := Tryz.sizeOf265
 v146 := Tryz.zeroValue265
 t148 := Tryz.underlying292
 a148 := Tryz.isAgg292
 z148 := Tryz.sizeOf292
 v148 := Tryz.zeroValue292
 t164 := Tryz.underlying284
 a164 := Tryz.isAgg284
 z164 := Tryz.sizeOf284
 v164 := Tryz.zeroValue284 }
theorem Tryz.Builder_Extra_105 : Builder.Extra Tryz.prog Tryz.lays105_ren := {
 sizeBuilder := by kernel_rfl
 liesBuilder := by kernel_rfl
 t5 := Tryz.underlying5
 a5 := Tryz.isAgg5
 z5 := Tryz.sizeOf5
 v5 := Tryz.zeroValue5
 infoByte := by kernel_rfl
 cellsByte := by kernel_rfl
 sizeByte := by kernel_rfl
 neB5 := by decide }
open Go.RowKit Go.Lib in
theorem Tryz.strings_Repeat (s : ByteArray) (c : Nat) (w : World) (hc : c ≤ 9223372036854775807) (hlen : s.size * c ≤ 140737488355328) :
  Calls Tryz.prog 122 #[.string s, .int .i64 c] w fun e w' => e = .returned (.string ⟨(Lib.repeatL s.data.toList c).toArray⟩) ∧ Below w.heap.size w w' := Any.strings_Repeat Tryz.lays105 Tryz.Builder_Extra_105 s c w hc hlen
open Go.RowKit in
theorem Tryz.Builder_WriteString_k (B b : Nat) (bs : List Value) (s : ByteArray) (w : World) (h : Lib.IsBuilderF 203 5 B b bs w) (hlen : bs.length + s.size ≤ 140737488355328) (hBw : B ≤ w.heap.size) :
  Calls Tryz.prog 111 #[.pointer (some ⟨b, 0, none⟩), .string s] w fun e w' => e = .returned (.tuple #[.int .i64 s.size, .nilIface]) ∧ (Lib.BuilderAtF 203 5 B b (.pointer (some ⟨b, 0, none⟩)) (bs ++ Lib.strCells s) w' ∧ Below B w w' ∧ Lib.OthersKept 5 (some b) w w') :=
 Any.Builder_WriteString_k { Tryz.lays105 with } Tryz.Builder_Extra_105 B b bs s w h hlen hBw
end Go.Proofs
