/- The reference's bundle: 27 Encode. · The reference's bundle: 34 Bundle. -/
import Derived.Test.YtgnilkjdpfbjgaaGreatQ25
import Derived.Test.YtgnilkjdpfbjgaaGreatQ26
import Derived.Test.YtgnilkjdpfbjgaaGreatQ19
import Derived.Test.YtgnilkjdpfbjgaaGreatQ10
import Derived.Test.YtgnilkjdpfbjgaaGreatQ17
import Derived.Test.YtgnilkjdpfbjgaaGreatQ20
namespace Go.Proofs.YtgnilkjdpfbjgaaGreat
open Go.RowKit
set_option linter.unusedVariables false
def e27_list (z cl cc rl rc n sc : Nat) (ver a b : Int) (ca ra sa : Option Addr) (X Y : List UInt8) : List (Value → World → Prop) :=
  [IsV (.pointer (some ⟨z, 0, none⟩)),
   IsV (.agg #[.int .i64 ver, .slice ca cl cc]),
   IsV (.string (ByteArray.mk (X).toArray)),
   IsV (.string (ByteArray.mk (partB X).toArray)),
   IsV (.string (ByteArray.mk #[82] ++ ByteArray.mk (partB X).toArray)),
   IsV (.pointer (some ⟨z, 2, none⟩)),
   IsV (.agg #[.int .i64 a, .int .i64 b, .slice ra rl rc]),
   IsV (.string (ByteArray.mk (Y).toArray)),
   IsV (.string (ByteArray.mk (partB Y).toArray)),
   IsV (.string (ByteArray.mk #[82] ++ ByteArray.mk (partB X).toArray ++ ByteArray.mk (partB Y).toArray)),
   IsV (.pointer (some ⟨z, 5, none⟩)),
   IsV (.slice sa n sc),
   IsV (.int .i64 (n : Int)),
   IsV (.int .u8 (n : Int)),
   IsRow #[.int .u8 (n : Int)] 1 5,
   IsV (.string (ByteArray.mk (leB n 1).toArray)),
   IsV (.string (ByteArray.mk #[82] ++ ByteArray.mk (partB X).toArray ++ ByteArray.mk (partB Y).toArray ++ ByteArray.mk (leB n 1).toArray)),
   IsV (.string (ByteArray.mk #[82] ++ ByteArray.mk (partB X).toArray ++ ByteArray.mk (partB Y).toArray ++ ByteArray.mk (leB n 1).toArray))]
theorem e27_list_lasts (z cl cc rl rc n sc : Nat) (ver a b : Int) (ca ra sa : Option Addr) (X Y : List UInt8) : ∀ p ∈ e27_list z cl cc rl rc n sc  ver a b  ca ra sa  X Y , Lasts p := by
  simp only [e27_list, List.mem_cons, List.not_mem_nil, or_false]
  rintro p hp
  repeat (rcases hp with rfl | hp; first | exact lasts_row _ _ _ | exact lasts_v _ | exact lasts_emp _ _ _ | exact lasts_rowO _ _ _ _ _ | exact lasts_with _ _ _ _ _ _ | exact lasts_oneW _ _ _ _ _ _ _ | exact lasts_one _ _)
set_option maxRecDepth 100000 in
set_option maxHeartbeats 2000000 in
theorem enc27_any (ver a b : Int) (cs : List Cmp) (rs : List RuT) (ss : List SysT) (ca : Option Addr) (cc : Nat) (ur us : Value) (w : World) (T : Nat → TypeId → Prop)
    (hcs : CompsAt w.heap.size w ca cs.length cs) (h0 : schemaCheck ver cs = 0) (hfit : scFit cs = true)
    (hu : At w T (rusD rs) ur) (hr : rusOk 0 rs = true) (hrs : rs.length ≤ 24) (a0 : 1 ≤ a) (a1 : a ≤ 1073741824) (b0 : 1 ≤ b) (b1 : b ≤ 1073741824)
    (hus : At w T (syssD ss) us) (hs : ss.all sysOk = true) (hsl : ss.length ≤ 16) (hlen : (stampB (bodyB ver a b cs rs ss)).length ≤ 16384) :
    Calls Tryz.prog 27 #[.agg #[.int .i64 ver, .slice ca cs.length cc, .int .i64 a, .int .i64 b, ur, us]] w fun e w' => e = .returned (.tuple #[.string ⟨(stampB (bodyB ver a b cs rs ss)).toArray⟩, .int .i64 0]) ∧ Below w.heap.size w w' := by
  obtain ⟨v0, v1⟩ := schema_ver h0
  obtain ⟨ra, rc, rfl, _, _, _⟩ := row_at ruD 3 (fun _ => rfl) (by decide) hu
  obtain ⟨sa, sc, rfl, hsc, _, hsrow⟩ := row_at sysD 6 (fun _ => rfl) (by decide) hus
  have hl2 := hlen
  rw [stampB_len] at hl2
  unfold bodyB at hl2
  simp only [List.length_append, partB_len, leB_len, List.length_cons, List.length_nil] at hl2
  have hbd : bodyB ver a b cs rs ss = [82] ++ partB (scBytes ver cs) ++ partB (prBytes a b rs) ++ leB ss.length 1 ++ ss.flatMap (fun s => partB (sysBytes s)) := rfl
  have KC7 := Lib.hid (fun (W : World) (hb : Below w.heap.size w W) => check07_any ver cs ca cs.length cc W ((hcs.below hb).mono hb.size) (scFit_wf hfit))
  have KC12 := Lib.hid (fun (W : World) (hb : Below w.heap.size w W) => check12_any a b rs W T _ (hu.below hb) hr hrs a0 a1 b0 b1)
  have KE8 := Lib.hid (fun (W : World) (hb : Below w.heap.size w W) => show Calls Tryz.prog 56 #[.agg #[.int .i64 ver, .slice ca cs.length cc]] W fun e w' => e = .returned (.string ⟨(scBytes ver cs).toArray⟩) ∧ Below W.heap.size W w' by
    obtain ⟨n, rfl⟩ := Int.eq_ofNat_of_zero_le (by omega : 0 ≤ ver)
    exact enc08_any n cs ca cc ((hcs.below hb).mono hb.size) (by omega) hfit (by omega))
  have KE12 := Lib.hid (fun (W : World) (hb : Below w.heap.size w W) => enc12_any a b rs W T _ (hu.below hb) hr hrs a0 a1 b0 b1)
  obtain ⟨X, hX⟩ : ∃ X, X = scBytes ver cs := ⟨_, rfl⟩
  obtain ⟨Y, hY⟩ : ∃ Y, Y = prBytes a b rs := ⟨_, rfl⟩
  rw [← hX, ← hY] at hbd hl2
  rw [← hX] at KE8
  rw [← hY] at KE12
  have HS := Lib.hid hsrow
  have HSO := Lib.hid hs
  have HUS := Lib.hid hus
  have HBD := Lib.hid hbd
  have HLEN := Lib.hid hlen
  rw [h0] at KC7
  have hL : ∀ n k, (leB n k).length = k := leB_len
  have hPL : ∀ l, (partB l).length = 4 + l.length := partB_len
  have HW0 := Lib.hid (And.intro (heap_alloc_new w (.cells #[.int .i64 ver, .slice ca cs.length cc, .int .i64 a, .int .i64 b, .slice ra rs.length rc, .slice sa ss.length sc] 104)) ((Below.refl _ w).alloc (Nat.le_refl _) (.cells #[.int .i64 ver, .slice ca cs.length cc, .int .i64 a, .int .i64 b, .slice ra rs.length rc, .slice sa ss.length sc] 104)))
  clear hcs hfit hu hr hus hs hlen hsrow hbd hX hY h0
  go_enter Tryz.func27, Tryz.ntmps27
  go_wp2_with fail
  refine (KC7.out _ HW0.out.2).mono ?_
  rintro e W1 ⟨rfl, hb1⟩
  have HW1 := Lib.hid (And.intro (keep hb1 HW0.out.1) (HW0.out.2.trans (hb1.mono HW0.out.2.size)))
  clear hb1 HW0 KC7
  have p2 := cell_at HW1.out.1 2
  have p3 := cell_at HW1.out.1 3
  have p4 := cell_at HW1.out.1 4
  simp at p2 p3 p4
  go_wp2_with fail
  refine (KC12.out _ HW1.out.2).mono ?_
  rintro e W3 ⟨rfl, hb3⟩
  have HW3 := Lib.hid (And.intro (keep hb3 HW1.out.1) (HW1.out.2.trans (hb3.mono HW1.out.2.size)))
  clear hb3 HW1 KC12 p2 p3 p4
  have p5 := cell_at HW3.out.1 5
  simp at p5
  go_upto_region 9 with (fail)
  refine wp_region_frame (by kernel_rfl) (by kernel_rfl) (by kernel_rfl) (byList (e27_list w.heap.size cs.length cc rs.length rc ss.length sc ver a b ca ra sa X Y)) (lasts_list (e27_list_lasts w.heap.size cs.length cc rs.length rc ss.length sc ver a b ca ra sa X Y)) ?_ ?_
  · intro vs w' iq o A F hb ho hd
    have m1 : A.tmps[1]?.getD undef = (.pointer (some ⟨w.heap.size, 0, none⟩)) := F.m (by kernel_rfl) rfl
    have G := F.light (n := 73) (by kernel_rfl)
    clear F
    have HB' := Lib.hid (HW3.out.2.trans (hb.mono HW3.out.2.size))
    have hK := keep hb HW3.out.1
    have s0 := cell_at hK 0
    have s1 := cell_at hK 1
    have s2 := cell_at hK 2
    have s3 := cell_at hK 3
    have s4 := cell_at hK 4
    have s5 := cell_at hK 5
    simp at s0 s1 s2 s3 s4 s5
    clear hb hK
    revert ho hd
    match iq with
    | 0 => intro ho hd; obtain rfl := (Option.some.inj ho).symm; clear hd ho; refine step_open rfl ?_; clear G; exact step_run (v := (.pointer (some ⟨w.heap.size, 0, none⟩))) (by go_simp <;> first | omega | rfl) rfl
    | 1 => intro ho hd; obtain rfl := (Option.some.inj ho).symm; have d0 : vs 0 = (.pointer (some ⟨w.heap.size, 0, none⟩)) := hd ⟨0, .data⟩ (by simp) rfl; clear hd ho; have h25 := G.h (j := 0) (d := 25) rfl (by decide) d0; refine step_open rfl ?_; clear G; exact step_run (v := (.agg #[.int .i64 ver, .slice ca cs.length cc])) (by go_simp <;> first | omega | rfl) rfl
    | 2 => intro ho hd; obtain rfl := (Option.some.inj ho).symm; have d1 : vs 1 = (.agg #[.int .i64 ver, .slice ca cs.length cc]) := hd ⟨1, .data⟩ (by simp) rfl; clear hd ho; have h26 := G.h (j := 1) (d := 26) rfl (by decide) d1; refine step_open rfl ?_; clear G; go_simp; refine (KE8.out w' HB'.out).mono ?_; rintro e w2 ⟨rfl, hb2⟩; exact ⟨_, rfl, rfl, hb2⟩
    | 3 => intro ho hd; obtain rfl := (Option.some.inj ho).symm; have d2 : vs 2 = (.string (ByteArray.mk (X).toArray)) := hd ⟨2, .data⟩ (by simp) rfl; clear hd ho; have h27 := G.h (j := 2) (d := 27) rfl (by decide) d2; refine step_open rfl ?_; clear G; go_simp; refine (part02_any _ _ (by show X.toArray.size ≤ _; simp; omega)).mono ?_; rintro e w2 ⟨rfl, hb2⟩; exact ⟨_, rfl, by simp; rfl, hb2⟩
    | 4 => intro ho hd; obtain rfl := (Option.some.inj ho).symm; have d3 : vs 3 = (.string (ByteArray.mk (partB X).toArray)) := hd ⟨3, .data⟩ (by simp) rfl; clear hd ho; have h28 := G.h (j := 3) (d := 28) rfl (by decide) d3; refine step_open rfl ?_; clear G; exact step_run (v := (.string (ByteArray.mk #[82] ++ ByteArray.mk (partB X).toArray))) (by go_simp <;> first | omega | rfl) rfl
    | 5 => intro ho hd; obtain rfl := (Option.some.inj ho).symm; clear hd ho; refine step_open rfl ?_; clear G; exact step_run (v := (.pointer (some ⟨w.heap.size, 2, none⟩))) (by go_simp <;> first | omega | rfl) rfl
    | 6 => intro ho hd; obtain rfl := (Option.some.inj ho).symm; have d5 : vs 5 = (.pointer (some ⟨w.heap.size, 2, none⟩)) := hd ⟨5, .data⟩ (by simp) rfl; clear hd ho; have h30 := G.h (j := 5) (d := 30) rfl (by decide) d5; refine step_open rfl ?_; clear G; exact step_run (v := (.agg #[.int .i64 a, .int .i64 b, .slice ra rs.length rc])) (by go_simp <;> first | omega | rfl) rfl
    | 7 => intro ho hd; obtain rfl := (Option.some.inj ho).symm; have d6 : vs 6 = (.agg #[.int .i64 a, .int .i64 b, .slice ra rs.length rc]) := hd ⟨6, .data⟩ (by simp) rfl; clear hd ho; have h31 := G.h (j := 6) (d := 31) rfl (by decide) d6; refine step_open rfl ?_; clear G; go_simp; refine (KE12.out w' HB'.out).mono ?_; rintro e w2 ⟨rfl, hb2⟩; exact ⟨_, rfl, rfl, hb2⟩
    | 8 => intro ho hd; obtain rfl := (Option.some.inj ho).symm; have d7 : vs 7 = (.string (ByteArray.mk (Y).toArray)) := hd ⟨7, .data⟩ (by simp) rfl; clear hd ho; have h32 := G.h (j := 7) (d := 32) rfl (by decide) d7; refine step_open rfl ?_; clear G; go_simp; refine (part02_any _ _ (by show Y.toArray.size ≤ _; simp; omega)).mono ?_; rintro e w2 ⟨rfl, hb2⟩; exact ⟨_, rfl, by simp; rfl, hb2⟩
    | 9 => intro ho hd; obtain rfl := (Option.some.inj ho).symm; have d4 : vs 4 = (.string (ByteArray.mk #[82] ++ ByteArray.mk (partB X).toArray)) := hd ⟨4, .data⟩ (by simp) rfl; have d8 : vs 8 = (.string (ByteArray.mk (partB Y).toArray)) := hd ⟨8, .data⟩ (by simp) rfl; clear hd ho; have h29 := G.h (j := 4) (d := 29) rfl (by decide) d4; have h33 := G.h (j := 8) (d := 33) rfl (by decide) d8; refine step_open rfl ?_; clear G; exact step_run (v := (.string (ByteArray.mk #[82] ++ ByteArray.mk (partB X).toArray ++ ByteArray.mk (partB Y).toArray))) (by go_simp <;> first | omega | rfl) rfl
    | 10 => intro ho hd; obtain rfl := (Option.some.inj ho).symm; clear hd ho; refine step_open rfl ?_; clear G; exact step_run (v := (.pointer (some ⟨w.heap.size, 5, none⟩))) (by go_simp <;> first | omega | rfl) rfl
    | 11 => intro ho hd; obtain rfl := (Option.some.inj ho).symm; have d10 : vs 10 = (.pointer (some ⟨w.heap.size, 5, none⟩)) := hd ⟨10, .data⟩ (by simp) rfl; clear hd ho; have h35 := G.h (j := 10) (d := 35) rfl (by decide) d10; refine step_open rfl ?_; clear G; exact step_run (v := (.slice sa ss.length sc)) (by go_simp <;> first | omega | rfl) rfl
    | 12 => intro ho hd; obtain rfl := (Option.some.inj ho).symm; have d11 : vs 11 = (.slice sa ss.length sc) := hd ⟨11, .data⟩ (by simp) rfl; clear hd ho; have h36 := G.h (j := 11) (d := 36) rfl (by decide) d11; refine step_open rfl ?_; clear G; exact step_run (v := (.int .i64 (ss.length : Int))) (by go_simp <;> first | omega | rfl) rfl
    | 13 => intro ho hd; obtain rfl := (Option.some.inj ho).symm; have d12 : vs 12 = (.int .i64 (ss.length : Int)) := hd ⟨12, .data⟩ (by simp) rfl; clear hd ho; have h37 := G.h (j := 12) (d := 37) rfl (by decide) d12; refine step_open rfl ?_; clear G; have e8 : IntKind.u8.wrap (ss.length : Int) = (ss.length : Int) := (by rw [IntKind.wrap_u8]; omega); exact step_run (v := (.int .u8 (ss.length : Int))) (by go_simp <;> first | omega | rfl) rfl
    | 14 => intro ho hd; obtain rfl := (Option.some.inj ho).symm; have d13 : vs 13 = (.int .u8 (ss.length : Int)) := hd ⟨13, .data⟩ (by simp) rfl; clear hd ho; have h38 := G.h (j := 13) (d := 38) rfl (by decide) d13; refine step_open rfl ?_; clear G; go_simp; exact ⟨_, rfl, (show IsRow _ _ _ _ _ from ⟨_, rfl, heap_alloc_new _ _⟩), by go_grown⟩
    | 15 => intro ho hd; obtain rfl := (Option.some.inj ho).symm; obtain ⟨q14, d14, b14⟩ : IsRow #[.int .u8 (ss.length : Int)] 1 5 (vs 14) w' := hd ⟨14, .data⟩ (by simp) rfl; clear hd ho; have h39 := G.h (j := 14) (d := 39) rfl (by decide) d14; refine step_open rfl ?_; clear G; have cv := conv_blk (leB ss.length 1) (by rw [leB_succ]; simp [leB, Lib.byteCells]; omega) 1 (leB_len _ _) (by decide) b14; exact step_run (v := (.string (ByteArray.mk (leB ss.length 1).toArray))) (by go_simp <;> first | omega | rfl) rfl
    | 16 => intro ho hd; obtain rfl := (Option.some.inj ho).symm; have d9 : vs 9 = (.string (ByteArray.mk #[82] ++ ByteArray.mk (partB X).toArray ++ ByteArray.mk (partB Y).toArray)) := hd ⟨9, .data⟩ (by simp) rfl; have d15 : vs 15 = (.string (ByteArray.mk (leB ss.length 1).toArray)) := hd ⟨15, .data⟩ (by simp) rfl; clear hd ho; have h34 := G.h (j := 9) (d := 34) rfl (by decide) d9; have h40 := G.h (j := 15) (d := 40) rfl (by decide) d15; refine step_open rfl ?_; clear G; exact step_run (v := (.string (ByteArray.mk #[82] ++ ByteArray.mk (partB X).toArray ++ ByteArray.mk (partB Y).toArray ++ ByteArray.mk (leB ss.length 1).toArray))) (by go_simp <;> first | omega | rfl) rfl
    | 17 => intro ho hd; obtain rfl := (Option.some.inj ho).symm; have d16 : vs 16 = (.string (ByteArray.mk #[82] ++ ByteArray.mk (partB X).toArray ++ ByteArray.mk (partB Y).toArray ++ ByteArray.mk (leB ss.length 1).toArray)) := hd ⟨16, .data⟩ (by simp) rfl; clear hd ho; have h41 := G.h (j := 16) (d := 41) rfl (by decide) d16; refine step_open rfl ?_; clear G; exact step_run (v := (.string (ByteArray.mk #[82] ++ ByteArray.mk (partB X).toArray ++ ByteArray.mk (partB Y).toArray ++ ByteArray.mk (leB ss.length 1).toArray))) (by go_simp <;> first | omega | rfl) rfl
    | n + 18 => intro ho hd; simp at ho
  · intro vs w' hb hR
    have hv : vs 17 = .string (ByteArray.mk #[82] ++ ByteArray.mk (partB X).toArray ++ ByteArray.mk (partB Y).toArray ++ ByteArray.mk (leB ss.length 1).toArray) := hR 17 (by decide)
    have hbB := HW3.out.2.trans (hb.mono HW3.out.2.size)
    have hK0 := keep hb HW3.out.1
    simp only [putAll, Act.put, List.setIfInBounds_toArray, List.set_cons_succ, List.set_cons_zero]
    rw [show (ByteArray.mk #[82]) = ByteArray.mk ([82] : List UInt8).toArray from rfl, ba_cat, ba_cat, ba_cat] at hv
    obtain ⟨S0, hS⟩ : ∃ S, S = [82] ++ partB X ++ partB Y ++ leB ss.length 1 := ⟨_, rfl⟩
    rw [← hS] at hv
    have hS0l : S0.length + (ss.flatMap fun s => partB (sysBytes s)).length ≤ 16380 := by
      rw [hS]
      simp only [List.length_append, hPL, hL, List.length_cons, List.length_nil]
      omega
    have HS0 := Lib.hid hS
    rw [hv]
    clear HW3 hb hR hv hS p5
    go_wp2_with fail
    go_loopw [6, 7] (fun s i wr => ∃ (k : Nat), k ≤ ss.length ∧ i = .int .i64 k ∧ s = .string ⟨(S0 ++ (ss.take k).flatMap fun s => partB (sysBytes s)).toArray⟩ ∧ wr.heap[w.heap.size]? = some (.cells #[.int .i64 ver, .slice ca cs.length cc, .int .i64 a, .int .i64 b, .slice ra rs.length rc, .slice sa ss.length sc] 104 (0, 0)) ∧ Below w.heap.size w wr) (fun _ i _ => ss.length - (intOf i).toNat)
    case atStart => exact ⟨0, Nat.zero_le _, rfl, by simp, hK0, hbB⟩
    case round =>
    obtain ⟨k, hk, rfl, rfl, hq, hbw⟩ := hrel
    have p5 := cell_at hq 5
    simp at p5
    have hlz := lt_some hq
    by_cases hlt : k < ss.length
    · have hx := List.getElem?_eq_getElem hlt
      generalize ss[k] = x at *
      have hsn := flat_snoc (fun s => partB (sysBytes s)) hx
      have htk := flat_take_len (fun s => partB (sysBytes s)) ss (k + 1)
      rw [hsn, List.length_append, hPL] at htk
      obtain ⟨S, hS⟩ : ∃ S, S = S0 ++ (ss.take k).flatMap fun s => partB (sysBytes s) := ⟨_, rfl⟩
      have hSl : S.length + (4 + (sysBytes x).length) ≤ 16380 := by rw [hS, List.length_append]; omega
      have HS1 := Lib.hid (And.intro hS hsn)
      rw [← hS]
      clear hS hsn htk
      obtain ⟨q, off, rfl, hqb, hcell⟩ := HS.out k x hx
      obtain ⟨y0, c0, e0⟩ := hcell 0 _ rfl
      obtain rfl := at_v e0
      obtain ⟨y1, c1, e1⟩ := hcell 1 _ rfl
      obtain rfl := at_v e1
      obtain ⟨y2, c2, e2⟩ := hcell 2 _ rfl
      obtain ⟨y3, c3, e3⟩ := hcell 3 _ rfl
      obtain rfl := at_v e3
      obtain ⟨y4, c4, e4⟩ := hcell 4 _ rfl
      obtain rfl := at_v e4
      obtain ⟨y5, c5, e5⟩ := hcell 5 _ rfl
      have hxo := all_mem HSO.out hx
      obtain ⟨aa, ac, ba, bc, rfl, rfl⟩ := sys_slices e2 e5
      have KC := Lib.hid (fun (W : World) (hb : Below w.heap.size w W) => check22_any x W T _ _ (e2.below hb) (e5.below hb) hxo)
      have KE := Lib.hid (fun (W : World) (hb : Below w.heap.size w W) => enc22_any x W T _ _ (e2.below hb) (e5.below hb) hxo)
      have HC := Lib.hid (And.intro c0 (And.intro c1 (And.intro c2 (And.intro c3 (And.intro c4 c5)))))
      have d := fun o => hbw.cell (p := ⟨q, o, none⟩) hqb
      have d0 := (d _).trans c0
      have d1 := (d _).trans c1
      have d2 := (d _).trans c2
      have d3 := (d _).trans c3
      have d4 := (d _).trans c4
      have d5 := (d _).trans c5
      rw [Nat.add_zero] at d0
      clear c0 c1 c2 c3 c4 c5 d hcell e0 e1 e2 e3 e4 e5
      go_wp2_with fail
      refine (KC.out _ hbw).mono ?_
      rintro e w1 ⟨rfl, hb1⟩
      have hq1 := keep hb1 hq
      have hbw1 := hbw.trans (hb1.mono hbw.size)
      clear d0 d1 d2 d3 d4 d5 p5 hlz hq hbw hb1
      have p5 := cell_at hq1 5
      simp at p5
      have hlz := lt_some hq1
      obtain ⟨c0, c1, c2, c3, c4, c5⟩ := HC.out
      have d := fun o => hbw1.cell (p := ⟨q, o, none⟩) hqb
      have d0 := (d _).trans c0
      have d1 := (d _).trans c1
      have d2 := (d _).trans c2
      have d3 := (d _).trans c3
      have d4 := (d _).trans c4
      have d5 := (d _).trans c5
      rw [Nat.add_zero] at d0
      clear c0 c1 c2 c3 c4 c5 d
      go_wp2_with fail
      refine (KE.out _ hbw1).mono ?_
      rintro e w2 ⟨rfl, hb2⟩
      have hq2 := keep hb2 hq1
      have hbw2 := hbw1.trans (hb2.mono hbw1.size)
      clear d0 d1 d2 d3 d4 d5 p5 hlz hq1 hbw1 hb2
      go_wp2_with fail
      refine (part02_any _ _ (by show (sysBytes x).toArray.size ≤ _; simp; omega)).mono ?_
      rintro e w3 ⟨rfl, hb3⟩
      have hq3 := keep hb3 hq2
      have hbw3 := hbw2.trans (hb3.mono hbw2.size)
      clear hq2 hbw2 hb3
      go_wp2_with fail
      refine ⟨?_, ?measure⟩
      apply Exists.intro
      apply Exists.intro
      (repeat apply Exists.intro)
      refine ⟨?rel, rfl⟩
      case rel =>
        refine ⟨k + 1, by omega, by go_num, ?_, hq3, hbw3⟩
        rw [HS1.out.2, ← List.append_assoc S0, ← HS1.out.1]
        simp [ba_cat]
      case measure => simp [intOf]; omega
    · obtain rfl : k = ss.length := by omega
      rw [List.take_length]
      have hbd := HBD.out
      rw [← HS0.out] at hbd
      rw [← hbd]
      have hbl : (bodyB ver a b cs rs ss).length ≤ 16380 := by rw [hbd, List.length_append]; omega
      have HLN := HLEN.out
      clear hbd
      obtain ⟨BB, hBB⟩ : ∃ BB, BB = bodyB ver a b cs rs ss := ⟨_, rfl⟩
      rw [← hBB] at hbl HLN ⊢
      have HBB := Lib.hid hBB
      clear hBB
      go_wp2_with fail
      refine (stamp03_any _ _ (by show BB.toArray.size ≤ _; simp; omega)).mono ?_
      rintro e w1 ⟨rfl, hb1⟩
      have hbe := hbw.trans (hb1.mono hbw.size)
      have hst : (stampB BB).length ≤ 16384 := HLN
      go_wp2_with fail
      go_returns
      exact ⟨by rw [← HBB.out]; rfl, hbe⟩
end Go.Proofs.YtgnilkjdpfbjgaaGreat
namespace Go.Proofs.YtgnilkjdpfbjgaaGreat
open Go.RowKit
set_option linter.unusedVariables false
theorem mintB_no {v : Int} (h : ¬ (1 ≤ v ∧ v < 1073741824)) : mintB v = [] := by
  unfold mintB
  rw [if_neg]
  unfold verB
  simp
  omega
theorem mintB_yes {v : Int} (h : verB v = true) (h' : verB (v + 1) = true) : mintB v = stampB (bodyB (v + 1) v (v + 1) (mintC (v + 1)) (mintR v) (mintS (v + 1))) := by
  unfold mintB
  rw [if_pos ⟨h, h'⟩]
set_option maxRecDepth 100000 in
set_option maxHeartbeats 1000000 in
theorem bundle34_any (v : Int) (w : World) : Calls Tryz.prog 14 #[.int .i64 v] w fun e w' => e = .returned (.string ⟨(mintB v).toArray⟩) ∧ Below w.heap.size w w' := by
  rcases (by omega : v < 1 ∨ (1 ≤ v ∧ 1073741824 ≤ v) ∨ (1 ≤ v ∧ v < 1073741824)) with h | ⟨h, h1⟩ | ⟨h, h1⟩
  · rw [mintB_no (by omega)]
    go_enter Tryz.func14, Tryz.ntmps14
    go_wp2_with fail
    go_ret
    exact ⟨rfl, by go_grown⟩
  · rw [mintB_no (by omega)]
    go_enter Tryz.func14, Tryz.ntmps14
    go_wp2_with fail
    go_ret
    exact ⟨rfl, by go_grown⟩
  · have hv : verB v = true := by unfold verB; simp; omega
    have hv' : verB (v + 1) = true := by unfold verB; simp; omega
    rw [mintB_yes hv hv']
    have HL := Lib.hid (mint_len v)
    have K1 := Lib.hid (fun W => schema34_yes v W hv)
    have K2 := Lib.hid (fun W => schema34_yes (v + 1) W hv')
    have K3 := Lib.hid (fun W => systems34_yes (v + 1) W hv')
    have HV' := Lib.hid hv'
    clear hv hv'
    go_enter Tryz.func14, Tryz.ntmps14
    go_wp2_with fail
    refine (K2.out _).mono ?_
    rintro e w1 ⟨q1, k1, rfl, hc1, hb1⟩
    have H1 := Lib.hid (And.intro hc1 hb1)
    clear hc1 hb1
    go_wp2_with fail
    refine (K1.out _).mono ?_
    rintro e w2 ⟨q2, k2, rfl, hc2, hb2⟩
    have H2 := Lib.hid (And.intro hc2 (H1.out.2.trans (hb2.mono H1.out.2.size)))
    have H1' := Lib.hid ((H1.out.1.below hb2).mono hb2.size)
    clear hc2 hb2
    go_wp2_with fail
    refine (K2.out _).mono ?_
    rintro e w3 ⟨q3, k3, rfl, hc3, hb3⟩
    have H3 := Lib.hid (And.intro hc3 (H2.out.2.trans (hb3.mono H2.out.2.size)))
    have H1'' := Lib.hid ((H1'.out.below hb3).mono hb3.size)
    have H2' := Lib.hid ((H2.out.1.below hb3).mono hb3.size)
    clear hc3 hb3
    go_wp2_with fail
    refine (plain13_any v (v + 1) (mintC v) (mintC (v + 1)) _ _ _ _ _ _ w3 H2'.out H3.out.1 (by unfold mintC; split <;> simp) (mintC_f v) (mintC_f (v + 1))).mono ?_
    rintro e w4 ⟨ur, rfl, hr4, hb4⟩
    rw [plainR_mint] at hr4
    obtain ⟨ra, rc, rfl, _⟩ := hr4.row
    have H4 := Lib.hid (And.intro hr4.all (H3.out.2.trans (hb4.mono H3.out.2.size)))
    have H14 := Lib.hid ((H1''.out.below hb4).mono hb4.size)
    clear hr4 hb4
    go_wp2_with fail
    refine (K3.out _).mono ?_
    rintro e w5 ⟨us, rfl, hs5, hb5⟩
    obtain ⟨sa, sc, rfl, _⟩ := hs5.row
    have H5 := Lib.hid (And.intro hs5.all (H4.out.2.trans (hb5.mono H4.out.2.size)))
    have H15 := Lib.hid ((H14.out.below hb5).mono hb5.size)
    have HR5 := Lib.hid ((H4.out.1.below hb5).mono hb5.size)
    clear hs5 hb5
    go_wp2_with fail
    refine (enc27_any (v + 1) v (v + 1) (mintC (v + 1)) (mintR v) (mintS (v + 1)) _ _ _ _ w5 _ H15.out (schema_mint HV'.out) (scFit_mint _) HR5.out (rusOk_mint v) (mintR_l v) (by omega) (by omega) (by omega) (by omega) H5.out.1 (sysOk_mint HV'.out) (by simp [mintS]) HL.out).mono ?_
    rintro e w6 ⟨rfl, hb6⟩
    have hB6 := H5.out.2.trans (hb6.mono H5.out.2.size)
    clear hb6
    go_wp2_with fail
    go_ret
    exact ⟨rfl, hB6⟩
end Go.Proofs.YtgnilkjdpfbjgaaGreat
