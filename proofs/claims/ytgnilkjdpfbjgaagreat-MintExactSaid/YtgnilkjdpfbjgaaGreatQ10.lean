/- Systems as bytes: craft.Encode. · A sum behind bytes: seal.halves, both, More, Of, Stamp. · A bundle as bytes: bundle.parts, Encode. -/
import Derived.Test.YtgnilkjdpfbjgaaGreatQ9
import Derived.Test.YtgnilkjdpfbjgaaGreatQ7
namespace Go.Proofs.YtgnilkjdpfbjgaaGreat
open Go.RowKit
set_option linter.unusedVariables false
theorem opBytes_len (x : OpT) : (opBytes x).length = 12 := by
  unfold opBytes
  simp only [List.length_append, leB_len]
theorem opOk_bd {x : OpT} (h : opOk x = true) : (0 ≤ x.code ∧ x.code < 256) ∧ (0 ≤ x.a ∧ x.a < 256) ∧ (0 ≤ x.b ∧ x.b < 256) ∧ (0 ≤ x.c ∧ x.c < 256) ∧ 0 ≤ x.k ∧ x.k < 18446744073709551616 := by
  have := opOk_is h
  omega
set_option maxRecDepth 100000 in
set_option maxHeartbeats 2000000 in
theorem crEnc_any (s : SysT) (w : World) (T : Nat → TypeId → Prop) (ua uc : Value) (ha : At w T (strsD s.after) ua) (hc : At w T (opsD s.code) uc) (h : sysOk s = true) (hT : ∀ q t, T q t → t ≠ 133 ∧ t ≠ 5) :
    Calls Tryz.prog 78 #[.agg #[.string s.name, .int .i64 s.stage, ua, .int .u32 s.al, .int .u32 s.no, uc]] w fun e w' => e = .returned (.tuple #[.string ⟨(sysBytes s).toArray⟩, .int .i64 0]) ∧ Below w.heap.size w w' := by
  have HK := fun (W : World) (hb : Below w.heap.size w W) => crCheck_any s W T ua uc (ha.below hb) (hc.below hb) h
  obtain ⟨aa, ac, ca, cc, rfl, rfl⟩ := sys_slices ha hc
  obtain ⟨_, _, _, h1, h2, _⟩ := ha.row
  obtain ⟨_, _, _, h3, h4, _⟩ := hc.row
  obtain ⟨hn, hst, hl, haf, hal, hno, hcl, hco⟩ := sysOk_is h
  obtain ⟨name, stage, after, al, no, code⟩ := s
  dsimp only at hn hst hl hal hno hcl haf hco ha hc HK ⊢
  subst hst hno
  have hsz := name_size hn
  have hal1 : 0 ≤ al ∧ al ≤ 4294967295 := by rcases hal with e | e <;> rw [e] <;> decide
  obtain ⟨al0, al1⟩ := hal1
  have hq0 := heap_alloc_new w (.cells #[.string name, .int .i64 0, .slice aa after.length ac, .int .u32 al, .int .u32 0, .slice ca code.length cc] 78)
  have hB0 := (Below.refl _ w).alloc (Nat.le_refl _) (.cells #[.string name, .int .i64 0, .slice aa after.length ac, .int .u32 al, .int .u32 0, .slice ca code.length cc] 78)
  have HA := Lib.hid ha
  have HC := Lib.hid hc
  have HKK := Lib.hid (HK _ hB0)
  have HQ := Lib.hid hq0
  have HB := Lib.hid hB0
  have HAF := Lib.hid haf
  have HCO := Lib.hid hco
  clear ha hc h haf hco hal HK hq0 hB0 hn h1 h2 h3 h4
  go_enter Tryz.func78, Tryz.ntmps78
  go_wp2_with fail
  refine HKK.out.mono ?_
  rintro e w1 ⟨rfl, hb1⟩
  have HQ1 := Lib.hid (keep hb1 HQ.out)
  have HB1 := Lib.hid (HB.out.trans (hb1.mono HB.out.size))
  clear hb1 HKK HQ HB
  go_wp2_with fail
  refine (wr_num1 (x := 89) (WrS.made w1) (by decide) (by decide) (by simp)).mono ?_
  rintro e w2 ⟨rfl, h2, hf2⟩
  have F2 := Lib.hid (((WF.refl w1.heap.size w1).alloc (Nat.le_refl _) (.cells #[.slice none 0 0] 133)).trans hf2)
  have hq2 := F2.out.blk _ _ HQ1.out (notWk (by decide) (by decide))
  have p0 := cell_at hq2 0
  simp at p0
  have H2 := Lib.hid h2
  clear h2 hf2 hq2
  go_wp2_with fail
  refine (wr_name H2.out name (by omega) (by simp [leB_len])).mono ?_
  rintro e w3 ⟨rfl, h3, hf3⟩
  have F3 := Lib.hid (F2.out.trans hf3)
  have hq3 := F3.out.blk _ _ HQ1.out (notWk (by decide) (by decide))
  have p1 := cell_at hq3 1
  simp at p1
  have H3 := Lib.hid h3
  clear h3 hf3 hq3 p0 H2 F2
  go_wp2_with fail
  refine (wr_num1 (x := 0) H3.out (by decide) (by decide) (by simp only [List.length_append, leB_len, nameB_len, List.length_nil]; omega)).mono ?_
  rintro e w4 ⟨rfl, h4, hf4⟩
  have F4 := Lib.hid (F3.out.trans hf4)
  have hq4 := F4.out.blk _ _ HQ1.out (notWk (by decide) (by decide))
  have p2 := cell_at hq4 2
  simp at p2
  have H4 := Lib.hid h4
  clear h4 hf4 hq4 p1 H3 F3
  go_wp2_with fail
  refine (wr_num1 (x := (after.length : Int)) H4.out (by omega) (by omega) (by simp only [List.length_append, leB_len, nameB_len, List.length_nil]; omega)).mono ?_
  rintro e w5 ⟨rfl, h5, hf5⟩
  have F5 := Lib.hid (F4.out.trans hf5)
  have hq5 := F5.out.blk _ _ HQ1.out (notWk (by decide) (by decide))
  have p2 := cell_at hq5 2
  simp at p2
  have H5 := Lib.hid h5
  clear h5 hf5 hq5 H4 F4
  have hmx : after.length ≤ 9223372036854775807 := by omega
  have HT := Lib.hid hT
  clear hT
  go_wp2_with fail
  go_loopw [39] (fun i wr => ∃ (k : Nat), k ≤ after.length ∧ i = .int .i64 k ∧ WrS w1.heap.size w1.heap.size ([89] ++ nameB name ++ leB 0 1 ++ leB after.length 1 ++ (after.take k).flatMap nameB) wr ∧ WF w1.heap.size w1 wr) (fun i _ => after.length - (intOf i).toNat)
  case atStart => exact ⟨0, Nat.zero_le _, rfl, by have := H5.out; simpa [leB] using this, F5.out⟩
  case round =>
    obtain ⟨k, hk, rfl, hw, hf⟩ := hrel
    by_cases hlt : k < after.length
    · obtain rfl : k = 0 := by omega
      have hx := List.getElem?_eq_getElem hlt
      generalize after[0] = x at *
      have hnx := name_size (HAF.out x (List.mem_of_getElem? hx)).1
      have hsn := Lib.hid (flat_snoc nameB hx)
      obtain ⟨a', c', hac, _, _, hrow⟩ := row1_at strD (HA.out.below (HB1.out.trans (hf.bel.mono HB1.out.size)))
      cases hac
      obtain ⟨q, off, v, rfl, hq, hv, hA⟩ := hrow 0 x hx
      obtain rfl := at_v hA
      rw [Nat.add_zero] at hv
      have HW := Lib.hid hw
      clear hw hrow hA
      go_wp2_with fail
      refine (wr_name HW.out x (by omega) (by simp only [List.length_append, leB_len, nameB_len, List.take_zero, List.flatMap_nil, List.length_nil, List.length_cons]; omega)).mono ?_
      rintro e w6 ⟨rfl, h6, hf6⟩
      have F6 := Lib.hid (hf.trans hf6)
      have H6 := Lib.hid h6
      clear hf6 h6
      go_wp2
      go_roundw
      case rel =>
        refine ⟨1, by omega, by go_num, ?_, F6.out⟩
        have := H6.out
        rw [hsn.out]
        simpa [List.append_assoc] using this
      case measure => simp [intOf]; omega
    · obtain rfl : k = after.length := by omega
      have HW := Lib.hid hw
      have hf' := hf
      have hq6 := hf.blk _ _ HQ1.out (notWk (by decide) (by decide))
      have c3 := cell_at hq6 3
      simp at c3
      have hal3 : (List.flatMap nameB (after.take after.length)).length ≤ after.length * 13 := by
        rw [List.take_length]
        exact flat_len_le nameB 13 _ fun x hx => by rw [nameB_len]; have := name_size (HAF.out x hx).1; omega
      clear hw hq6
      go_wp2_with fail
      refine (wr_num4 (x := al) HW.out al0 (by omega) (by simp only [List.length_append, leB_len, nameB_len, List.length_nil, List.length_cons]; omega)).mono ?_
      rintro e w6 ⟨rfl, h6, hf6⟩
      have F6 := Lib.hid (hf.trans hf6)
      have hq7 := F6.out.blk _ _ HQ1.out (notWk (by decide) (by decide))
      have c4 := cell_at hq7 4
      simp at c4
      have H6 := Lib.hid h6
      clear h6 hf6 hf hf' hq7 c3 HW
      go_wp2_with fail
      refine (wr_num4 (x := 0) H6.out (by decide) (by decide) (by simp only [List.length_append, leB_len, nameB_len, List.length_nil, List.length_cons]; omega)).mono ?_
      rintro e w7 ⟨rfl, h7, hf7⟩
      have F7 := Lib.hid (F6.out.trans hf7)
      have hq8 := F7.out.blk _ _ HQ1.out (notWk (by decide) (by decide))
      have c5 := cell_at hq8 5
      simp at c5
      have H7 := Lib.hid h7
      clear h7 hf7 hq8 c4 H6 F6
      go_wp2_with fail
      refine (wr_num1 (x := (code.length : Int)) H7.out (by omega) (by omega) (by simp only [List.length_append, leB_len, nameB_len, List.length_nil, List.length_cons]; omega)).mono ?_
      rintro e w8 ⟨rfl, h8, hf8⟩
      have F8 := Lib.hid (F7.out.trans hf8)
      have hq9 := F8.out.blk _ _ HQ1.out (notWk (by decide) (by decide))
      have c5 := cell_at hq9 5
      simp at c5
      have H8 := Lib.hid h8
      clear h8 hf8 hq9 H7 F7
      go_wp2_with fail
      rw [List.take_length] at H8 hal3
      go_loopw [66] (fun i wr => ∃ (k : Nat), k ≤ code.length ∧ i = .int .i64 k ∧ WrS w1.heap.size w1.heap.size ([89] ++ nameB name ++ leB 0 1 ++ leB after.length 1 ++ after.flatMap nameB ++ leB al.toNat 4 ++ leB 0 4 ++ leB code.length 1 ++ (code.take k).flatMap opBytes) wr ∧ WF w1.heap.size w1 wr) (fun i _ => code.length - (intOf i).toNat)
      case atStart => exact ⟨0, Nat.zero_le _, rfl, by have := H8.out; simpa using this, F8.out⟩
      case round =>
        obtain ⟨k, hk, rfl, hw, hf⟩ := hrel
        by_cases hlt : k < code.length
        · have hx := List.getElem?_eq_getElem hlt
          generalize code[k] = x at *
          obtain ⟨⟨x0, x1⟩, ⟨x2, x3⟩, ⟨x4, x5⟩, ⟨x6, x7⟩, x8, x9⟩ := opOk_bd (all_mem HCO.out hx)
          have hsn := Lib.hid (flat_snoc opBytes hx)
          obtain ⟨a', c', hac, _, _, hrow⟩ := ops_at (HC.out.below (HB1.out.trans (hf.bel.mono HB1.out.size)))
          cases hac
          obtain ⟨q, off, rfl, hq, d0, d1, d2, d3, d4⟩ := hrow k x hx
          have hlen : Hid ((List.flatMap opBytes (code.take k)).length ≤ 64 * 12) := Lib.hid (by
            have := flat_len_le opBytes 12 (code.take k) (fun x _ => by rw [opBytes_len]; exact Nat.le_refl _)
            rw [List.length_take] at this
            omega)
          have HW := Lib.hid hw
          have HX := Lib.hid (And.intro x8 x9)
          clear hw hrow
          go_wp2_with fail
          go_loopw [80] (fun i wi => ∃ (j : Nat), j ≤ 4 ∧ i = .int .i64 j ∧ WrS w1.heap.size w1.heap.size ([89] ++ nameB name ++ leB 0 1 ++ leB after.length 1 ++ after.flatMap nameB ++ leB al.toNat 4 ++ leB 0 4 ++ leB code.length 1 ++ (code.take k).flatMap opBytes ++ ([x.code, x.a, x.b, x.c].take j).flatMap (fun n => leB n.toNat 1)) wi ∧ WF w1.heap.size w1 wi ∧
              wi.heap[wr.heap.size]? = some (.cells #[.int .i64 x.code, .int .i64 x.a, .int .i64 x.b, .int .i64 x.c, .int .i64 x.k] 83 (0, 0)) ∧ wi.heap[wr.heap.size + 1]? = some (.cells #[.int .i64 x.code, .int .i64 x.a, .int .i64 x.b, .int .i64 x.c] 3 (0, 0))) (fun i _ => 4 - (intOf i).toNat)
          case atStart =>
            refine ⟨0, by omega, rfl, ?_, (hf.alloc HW.out.size _).alloc (by have := HW.out.size; simp; omega) _, keepA _ (heap_alloc_new _ _), by simpa using heap_alloc_new (wr.alloc _) _⟩
            have := (HW.out.alloc (.cells #[.int .i64 x.code, .int .i64 x.a, .int .i64 x.b, .int .i64 x.c, .int .i64 x.k] 83)).alloc (.cells #[.int .i64 x.code, .int .i64 x.a, .int .i64 x.b, .int .i64 x.c] 3)
            simpa using this
          case round =>
            obtain ⟨j, hj, rfl, hw, hf2, hq9, hq10⟩ := hrel
            have e0 := cell_at hq10 0
            have e1 := cell_at hq10 1
            have e2 := cell_at hq10 2
            have e3 := cell_at hq10 3
            have e4 := cell_at hq9 4
            simp at e0 e1 e2 e3 e4
            have hio : Hid (((([x.code, x.a, x.b, x.c] : List Int).take j).flatMap (fun n => leB n.toNat 1)).length ≤ 4) := Lib.hid (by
              have := flat_len_le (fun n : Int => leB n.toNat 1) 1 (([x.code, x.a, x.b, x.c] : List Int).take j) (fun x _ => by simp [leB])
              have h2 : (([x.code, x.a, x.b, x.c] : List Int).take j).length ≤ 4 := by rw [List.length_take]; exact Nat.min_le_right _ _
              omega)
            have HI := Lib.hid hw
            clear hw
            rcases (by omega : j = 0 ∨ j = 1 ∨ j = 2 ∨ j = 3 ∨ j = 4) with rfl | rfl | rfl | rfl | rfl
            · go_wp2_with fail
              refine (wr_num1 (x := x.code) HI.out x0 x1 (by simp only [List.length_append, leB_len, nameB_len, List.length_nil, List.length_cons]; have := hlen.out; have := hio.out; omega)).mono ?_
              rintro e wa ⟨rfl, h9, hf9⟩
              have F9 := Lib.hid (hf2.trans hf9)
              have Q9 := Lib.hid (hf9.blk _ _ hq9 (notWk (by decide) (by decide)))
              have Q10 := Lib.hid (hf9.blk _ _ hq10 (notWk (by decide) (by decide)))
              have H9 := Lib.hid h9
              clear hf9 h9
              go_wp2
              go_roundw
              case rel =>
                refine ⟨1, by omega, by go_num, ?_, F9.out, Q9.out, Q10.out⟩
                have := H9.out
                simpa [List.append_assoc] using this
              case measure => simp [intOf]
            · go_wp2_with fail
              refine (wr_num1 (x := x.a) HI.out x2 x3 (by simp only [List.length_append, leB_len, nameB_len, List.length_nil, List.length_cons]; have := hlen.out; have := hio.out; omega)).mono ?_
              rintro e wa ⟨rfl, h9, hf9⟩
              have F9 := Lib.hid (hf2.trans hf9)
              have Q9 := Lib.hid (hf9.blk _ _ hq9 (notWk (by decide) (by decide)))
              have Q10 := Lib.hid (hf9.blk _ _ hq10 (notWk (by decide) (by decide)))
              have H9 := Lib.hid h9
              clear hf9 h9
              go_wp2
              go_roundw
              case rel =>
                refine ⟨2, by omega, by go_num, ?_, F9.out, Q9.out, Q10.out⟩
                have := H9.out
                simpa [List.append_assoc] using this
              case measure => simp [intOf]
            · go_wp2_with fail
              refine (wr_num1 (x := x.b) HI.out x4 x5 (by simp only [List.length_append, leB_len, nameB_len, List.length_nil, List.length_cons]; have := hlen.out; have := hio.out; omega)).mono ?_
              rintro e wa ⟨rfl, h9, hf9⟩
              have F9 := Lib.hid (hf2.trans hf9)
              have Q9 := Lib.hid (hf9.blk _ _ hq9 (notWk (by decide) (by decide)))
              have Q10 := Lib.hid (hf9.blk _ _ hq10 (notWk (by decide) (by decide)))
              have H9 := Lib.hid h9
              clear hf9 h9
              go_wp2
              go_roundw
              case rel =>
                refine ⟨3, by omega, by go_num, ?_, F9.out, Q9.out, Q10.out⟩
                have := H9.out
                simpa [List.append_assoc] using this
              case measure => simp [intOf]
            · go_wp2_with fail
              refine (wr_num1 (x := x.c) HI.out x6 x7 (by simp only [List.length_append, leB_len, nameB_len, List.length_nil, List.length_cons]; have := hlen.out; have := hio.out; omega)).mono ?_
              rintro e wa ⟨rfl, h9, hf9⟩
              have F9 := Lib.hid (hf2.trans hf9)
              have Q9 := Lib.hid (hf9.blk _ _ hq9 (notWk (by decide) (by decide)))
              have Q10 := Lib.hid (hf9.blk _ _ hq10 (notWk (by decide) (by decide)))
              have H9 := Lib.hid h9
              clear hf9 h9
              go_wp2
              go_roundw
              case rel =>
                refine ⟨4, by omega, by go_num, ?_, F9.out, Q9.out, Q10.out⟩
                have := H9.out
                simpa [List.append_assoc] using this
              case measure => simp [intOf]
            · go_wp2_with fail
              refine (wr_num8 (x := x.k) HI.out HX.out.1 HX.out.2 (by simp only [List.length_append, leB_len, nameB_len, List.length_nil, List.length_cons]; have := hlen.out; have := hio.out; omega)).mono ?_
              rintro e wa ⟨rfl, h9, hf9⟩
              have F9 := Lib.hid (hf2.trans hf9)
              have H9 := Lib.hid h9
              clear hf9 h9
              go_wp2
              go_roundw
              case rel =>
                refine ⟨k + 1, by omega, by go_num, ?_, F9.out⟩
                have := H9.out
                rw [hsn.out]
                simpa [opBytes, List.append_assoc] using this
              case measure => simp [intOf]; omega
        · obtain rfl : k = code.length := by omega
          have HW := Lib.hid hw
          have HF := Lib.hid (HB1.out.trans (hf.bel.mono HB1.out.size))
          clear hw hf
          go_wp2_with fail
          refine (wr_string HW.out).mono ?_
          rintro e w9 ⟨rfl, rfl⟩
          go_wp2
          go_returns
          exact ⟨by unfold sysBytes; simp, HF.out⟩
end Go.Proofs.YtgnilkjdpfbjgaaGreat
namespace Go.Proofs.YtgnilkjdpfbjgaaGreat
open Go.RowKit
set_option linter.unusedVariables false
theorem seHalves_one (w : World) : Calls Tryz.prog 133 #[.int .u32 1] w fun e w' => e = .returned (.tuple #[.int .u64 1, .int .u64 0]) ∧ w = w' := by
  go_enter Tryz.func133, Tryz.ntmps133
  go_wp2_with fail
  go_returns
  exact ⟨rfl, rfl⟩
theorem or_halves {a b : Int} (a0 : 0 ≤ a) (a1 : a < 65521) (b0 : 0 ≤ b) (b1 : b < 65521) : bits BinOp.or IntKind.u32 (b % 65521 * 65536) (a % 65521) = b * 65536 + a := by
  rw [Int.emod_eq_of_lt a0 a1, Int.emod_eq_of_lt b0 b1]
  obtain ⟨x, rfl⟩ := Int.eq_ofNat_of_zero_le a0
  obtain ⟨y, rfl⟩ := Int.eq_ofNat_of_zero_le b0
  have : ((y : Int) * 65536) = ((y * 65536 : Nat) : Int) := by simp
  rw [this, u32_or_nat _ _ (by omega) (by omega)]
  have h : y * 65536 ||| x = y * 65536 + x := by
    have := Nat.two_pow_add_eq_or_of_lt (i := 16) (b := x) (by omega) y
    rw [Nat.mul_comm y]
    exact this.symm
  rw [h]
  omega
theorem seBoth_any (a b : Int) (w : World) (a0 : 0 ≤ a) (a1 : a < 65521) (b0 : 0 ≤ b) (b1 : b < 65521) : Calls Tryz.prog 134 #[.int .u64 a, .int .u64 b] w fun e w' => e = .returned (.int .u32 (b * 65536 + a)) ∧ w = w' := by
  have H := Lib.hid (or_halves a0 a1 b0 b1)
  go_enter Tryz.func134, Tryz.ntmps134
  go_wp2_with fail
  go_returns
  exact ⟨congrArg (fun x => Ending.returned (.int .u32 x)) H.out, rfl⟩
theorem sumGo_snoc {l : List UInt8} {k : Nat} {x : UInt8} (h : l[k]? = some x) (p : Int × Int) : sumGo p (l.take (k + 1)) = (((sumGo p (l.take k)).1 + x.toNat) % 65521, ((sumGo p (l.take k)).2 + ((sumGo p (l.take k)).1 + x.toNat) % 65521) % 65521) := by
  rw [take_snoc h, sumGo_app]
  generalize sumGo p (l.take k) = q
  obtain ⟨a, b⟩ := q
  rfl
set_option maxRecDepth 100000 in
set_option maxHeartbeats 1000000 in
theorem seMore_any (s : ByteArray) (w : World) (hs : s.size ≤ 100000) : Calls Tryz.prog 109 #[.int .u32 1, .string s] w fun e w' => e = .returned (.int .u32 (sumF s.data.toList)) ∧ w = w' := by
  have hsz : s.data.toList.length = s.size := by rw [Array.length_toList]; rfl
  go_enter Tryz.func109, Tryz.ntmps109
  go_wp2_with fail
  refine (seHalves_one _).mono ?_
  rintro e w1 ⟨rfl, rfl⟩
  go_wp2_with fail
  go_loop [5, 6, 15] (fun a b i => ∃ k : Nat, k ≤ s.size ∧ i = .int .i64 k ∧ a = .int .u64 (sumGo (1, 0) (s.data.toList.take k)).1 ∧ b = .int .u64 (sumGo (1, 0) (s.data.toList.take k)).2) (fun _ _ i => s.size - (intOf i).toNat)
  case atStart => exact ⟨0, Nat.zero_le _, rfl, rfl, rfl⟩
  case round =>
    obtain ⟨k, hk, rfl, rfl, rfl⟩ := hrel
    obtain ⟨a0, a1, b0, b1⟩ := sumGo_bd (s.data.toList.take k) (1, 0) (by decide)
    by_cases hlt : k < s.size
    · have hx : s.data.toList[k]? = some s[k] := by
        rw [List.getElem?_eq_getElem (by omega)]
        rfl
      have hsn := Lib.hid (sumGo_snoc hx (1, 0))
      generalize sumGo (1, 0) (s.data.toList.take k) = p at *
      obtain ⟨a, b⟩ := p
      dsimp only at a0 a1 b0 b1 ⊢
      have hb := s[k].toNat_lt
      go_wp2_with fail
      go_round
      case rel =>
        refine ⟨k + 1, by omega, by go_num, ?_, ?_⟩
        · rw [hsn.out]
        · rw [hsn.out]
      case measure => simp [intOf]; omega
    · obtain rfl : k = s.size := by omega
      rw [← hsz, List.take_length] at *
      go_wp2_with fail
      refine (seBoth_any _ _ _ a0 a1 b0 b1).mono ?_
      rintro e w1 ⟨rfl, rfl⟩
      go_wp2
      go_ret
      exact ⟨rfl, rfl⟩
theorem seOf_any (s : ByteArray) (w : World) (hs : s.size ≤ 100000) : Calls Tryz.prog 81 #[.string s] w fun e w' => e = .returned (.int .u32 (sumF s.data.toList)) ∧ w = w' := by
  go_enter Tryz.func81, Tryz.ntmps81
  go_wp2_with fail
  refine (seMore_any s w hs).mono ?_
  rintro e w1 ⟨rfl, rfl⟩
  go_wp2
  go_ret
  exact ⟨rfl, rfl⟩
set_option maxRecDepth 100000 in
theorem seStamp_any (s : ByteArray) (w : World) (hs : s.size ≤ 90000) : Calls Tryz.prog 48 #[.string s] w fun e w' => e = .returned (.string ⟨(stampB s.data.toList).toArray⟩) ∧ Below w.heap.size w w' := by
  have hsz : s.data.toList.length = s.size := by rw [Array.length_toList]; rfl
  obtain ⟨s0, s1⟩ := sumF_bd s.data.toList
  go_enter Tryz.func48, Tryz.ntmps48
  go_wp2_with fail
  refine (wr_raw (WrS.made w) s (by simp; omega)).mono ?_
  rintro e w1 ⟨rfl, h1, hf1⟩
  have F1 := Lib.hid (((WF.refl w.heap.size w).alloc (Nat.le_refl _) (.cells #[.slice none 0 0] 133)).trans hf1)
  have H1 := Lib.hid h1
  clear hf1 h1
  go_wp2_with fail
  refine (seOf_any s _ (by omega)).mono ?_
  rintro e w2 ⟨rfl, rfl⟩
  go_wp2_with fail
  refine (wr_num4 H1.out s0 s1 (by simp; omega)).mono ?_
  rintro e w3 ⟨rfl, h3, hf3⟩
  have F3 := Lib.hid (F1.out.trans hf3)
  have H3 := Lib.hid h3
  clear hf3 h3
  go_wp2_with fail
  refine (wr_string H3.out).mono ?_
  rintro e w4 ⟨rfl, rfl⟩
  go_wp2
  go_ret
  exact ⟨by simp [stampB], F3.out.bel⟩
end Go.Proofs.YtgnilkjdpfbjgaaGreat
namespace Go.Proofs.YtgnilkjdpfbjgaaGreat
open Go.RowKit
set_option linter.unusedVariables false
theorem Tryz.infoS9 : (Tryz.prog.info? 9).map (fun i => (i.zero, i.size, i.bytes)) = some (some (.string ByteArray.empty), 1, 16) := by kernel_rfl
def sysS (s : SysT) : Value := .string ⟨(sysBytes s).toArray⟩
/-- A system out of a told row. -/
theorem sys_at {w : World} {T : Nat → TypeId → Prop} {l : List SysT} {u : Value} (h : At w T (syssD l) u) : ∃ a c, u = .slice a l.length c ∧ l.length ≤ c ∧ c ≤ maxLen ∧ ∀ k x, l[k]? = some x → ∃ q off ua uc, a = some ⟨q, off, none⟩ ∧ q < w.heap.size ∧ w.cell? ⟨q, off + k * 6, none⟩ = some (.string x.name) ∧ w.cell? ⟨q, off + k * 6 + 1, none⟩ = some (.int .i64 x.stage) ∧ w.cell? ⟨q, off + k * 6 + 2, none⟩ = some ua ∧
    w.cell? ⟨q, off + k * 6 + 3, none⟩ = some (.int .u32 x.al) ∧ w.cell? ⟨q, off + k * 6 + 4, none⟩ = some (.int .u32 x.no) ∧ w.cell? ⟨q, off + k * 6 + 5, none⟩ = some uc ∧ At w T (strsD x.after) ua ∧ At w T (opsD x.code) uc := by
  obtain ⟨a, c, rfl, h1, h2, h3⟩ := row_at sysD 6 (fun _ => rfl) (by decide) h
  refine ⟨a, c, rfl, h1, h2, fun k x hx => ?_⟩
  obtain ⟨q, off, rfl, hq, hc⟩ := h3 k x hx
  obtain ⟨ua, ha, hda⟩ := hc 2 _ rfl
  obtain ⟨uc, hcc, hdc⟩ := hc 5 _ rfl
  refine ⟨q, off, ua, uc, rfl, hq, ?_, ?_, ha, ?_, ?_, hcc, hda, hdc⟩
  · obtain ⟨y, hy, hd⟩ := hc 0 _ rfl
    cases at_v hd; exact hy
  · obtain ⟨y, hy, hd⟩ := hc 1 _ rfl
    cases at_v hd; exact hy
  · obtain ⟨y, hy, hd⟩ := hc 3 _ rfl
    cases at_v hd; exact hy
  · obtain ⟨y, hy, hd⟩ := hc 4 _ rfl
    cases at_v hd; exact hy
set_option maxRecDepth 100000 in
set_option maxHeartbeats 1000000 in
theorem bParts_any (l : List SysT) (w : World) (T : Nat → TypeId → Prop) (u : Value) (hu : At w T (syssD l) u) (h : l.all sysOk = true) (hT : ∀ q t, T q t → t ≠ 133 ∧ t ≠ 5) (hl : l.length ≤ 16) :
    Calls Tryz.prog 45 #[u] w fun e w' => ∃ va vc, e = .returned (.tuple #[.slice va l.length vc, .int .i64 0]) ∧ w'.ownsRow w.heap.size 9 1 (.slice va l.length vc) l.length (l.map sysS) ∧ Below w.heap.size w w' := by
  obtain ⟨i0, hi, hz0, hz1, hz2⟩ := info_parts Tryz.infoS9
  obtain ⟨la, lc, rfl, h1, h2, hrow⟩ := sys_at hu
  have HU := Lib.hid hu
  have HR := Lib.hid hrow
  have HA := Lib.hid h
  clear hu hrow h
  go_enter Tryz.func45, Tryz.ntmps45
  go_wp2_with fail
  go_loopw [4, 14] (fun o i wr => ∃ (k : Nat) (va : Option Addr) (vc : Nat), k ≤ l.length ∧ i = .int .i64 k ∧ o = .slice va k vc ∧ wr.ownsRow w.heap.size 9 1 (.slice va k vc) k ((l.take k).map sysS) ∧ Below w.heap.size w wr) (fun _ i _ => l.length - (intOf i).toNat)
  case atStart => exact ⟨0, none, 0, Nat.zero_le _, rfl, rfl, World.ownsRow_nil _ _ _ _, Below.refl _ _⟩
  case round =>
    obtain ⟨k, va, vc, hk, rfl, rfl, hown, hbw⟩ := hrel
    have hzr := hbw.size
    by_cases hlt : k < l.length
    · have hx := List.getElem?_eq_getElem hlt
      generalize l[k] = x at *
      have hsn := Lib.hid (take_snoc hx)
      have hok := all_mem HA.out hx
      obtain ⟨q, off, ua, uc, rfl, hq, d0, d1, d2, d3, d4, d5, hda, hdc⟩ := HR.out k x hx
      have d := fun o => hbw.cell (p := ⟨q, o, none⟩) hq
      replace d0 := (d _).trans d0
      replace d1 := (d _).trans d1
      replace d2 := (d _).trans d2
      replace d3 := (d _).trans d3
      replace d4 := (d _).trans d4
      replace d5 := (d _).trans d5
      obtain ⟨aa, ac, ca, cc, rfl, rfl⟩ := sys_slices hda hdc
      have hbx : Below w.heap.size w (wr.alloc (.cells #[.string x.name, .int .i64 x.stage, .slice aa x.after.length ac, .int .u32 x.al, .int .u32 x.no, .slice ca x.code.length cc] 78)) := hbw.alloc hzr _
      have HE := Lib.hid (crEnc_any x _ T _ _ (hda.below hbx) (hdc.below hbx) hok hT)
      have HO := Lib.hid hown
      clear d hda hdc hown
      go_wp2_with fail
      refine HE.out.mono ?_
      rintro e w1 ⟨rfl, hb1⟩
      have hbel1 := hbx.trans (hb1.mono hbx.size)
      have hzw := hbel1.size
      have hrow : ∀ x, (Value.slice va k vc).ownBlock = some x → w.heap.size ≤ x ∧ x < wr.heap.size := HO.out.lt
      have hown1 := ((HO.out.alloc (.cells #[.string x.name, .int .i64 x.stage, .slice aa x.after.length ac, .int .u32 x.al, .int .u32 x.no, .slice ca x.code.length cc] 78)).kept (grownOf hb1 none) (by cases (Value.slice va k vc).ownBlock <;> simp)).alloc (.cells #[sysS x] 9)
      unfold sysS at hown1
      have HO1 := Lib.hid hown1
      clear hown1 HE d0 d1 d2 d3 d4 d5 hbx hb1
      go_wp2_with (at_builtin; go_loud (refine wpList_append_own _ rfl (.tmp 26) (.tmp 28) 75 rfl w.heap.size 9 i0 (.string ByteArray.empty) 1 16 Tryz.underlying75 hi hz0 hz1 hz2 rfl (by decide) (.slice va k vc) k _ rfl HO1.out ⟨w1.heap.size, 0, none⟩ 1 1 [.string ⟨(sysBytes x).toArray⟩] rfl rfl ?c1 ?c2 ?c3 ?c4 ?c5 ?_))
      case c1 =>
        intro j u hj
        match j, hj with
        | 0, hj => simp at hj; subst hj; simp [Addr.add]
      case c2 => intro u hu; simp at hu; subst hu; rfl
      case c3 => unfold maxLen; omega
      case c4 => omega
      case c5 => simp; omega
      intro v' w2 hown2 hg2 _
      obtain ⟨va', vc', hv'⟩ := ownsRow_slice hown2
      rw [hv'] at hown2 ⊢
      clear hv'
      have hbel2 : Below w.heap.size w w2 := (hbel1.alloc hzw _).grown hg2 (by simp; omega) (fun x hx => (hrow x hx).1)
      have HO2 := Lib.hid hown2
      clear hown2 hg2
      go_wp2
      go_roundw
      case rel =>
        refine ⟨k + 1, va', vc', by omega, by go_num, rfl, ?_, hbel2⟩
        rw [hsn.out, List.map_append, List.map_take]
        exact HO2.out
      case measure => simp [intOf]; omega
    · obtain rfl : k = l.length := by omega
      have HO := Lib.hid hown
      clear hown
      go_wp2
      go_returns
      exact ⟨va, vc, rfl, by have := HO.out; rw [List.take_length] at this; exact this, hbw⟩
theorem partB_len (l : List UInt8) : (partB l).length = 4 + l.length := by
  unfold partB
  rw [List.length_append, leB_len]
theorem stampB_len (l : List UInt8) : (stampB l).length = l.length + 4 := by
  unfold stampB
  rw [List.length_append, leB_len]
set_option maxRecDepth 100000 in
set_option maxHeartbeats 2000000 in
theorem bEnc_any (ver a b : Int) (cs : List Cmp) (rs : List RuT) (ss : List SysT) (ca : Option Addr) (cl cc : Nat) (ur us : Value) (w : World) (T : Nat → TypeId → Prop)
    (hcs : CompsAt w.heap.size w ca cl cs) (h0 : schemaCheck ver cs = 0) (hfit : scFit cs = true)
    (hu : At w T (rusD rs) ur) (hr : rusOk 0 rs = true) (hrs : rs.length ≤ 24) (a0 : 1 ≤ a) (a1 : a ≤ 1073741824) (b0 : 1 ≤ b) (b1 : b ≤ 1073741824)
    (hus : At w T (syssD ss) us) (hs : ss.all sysOk = true) (hsl : ss.length ≤ 16) (hT : ∀ q t, T q t → t ≠ 133 ∧ t ≠ 5) (hlen : (stampB (bodyB ver a b cs rs ss)).length ≤ 16384) :
    Calls Tryz.prog 25 #[.agg #[.int .i64 ver, .slice ca cl cc, .int .i64 a, .int .i64 b, ur, us]] w fun e w' => e = .returned (.tuple #[.string ⟨(stampB (bodyB ver a b cs rs ss)).toArray⟩, .int .i64 0]) ∧ Below w.heap.size w w' := by
  obtain ⟨ra, rl, rc, rfl⟩ : ∃ x y z, ur = .slice x y z := by
    obtain ⟨xa, xc, hx, _⟩ := hu.row
    exact ⟨_, _, _, hx⟩
  obtain ⟨sa, sl, sc, rfl⟩ : ∃ x y z, us = .slice x y z := by
    obtain ⟨xa, xc, hx, _⟩ := hus.row
    exact ⟨_, _, _, hx⟩
  have hl2 := hlen
  rw [stampB_len] at hl2
  unfold bodyB at hl2
  simp only [List.length_append, partB_len, leB_len, List.length_cons, List.length_nil] at hl2
  have hq0 := heap_alloc_new w (.cells #[.int .i64 ver, .slice ca cl cc, .int .i64 a, .int .i64 b, .slice ra rl rc, .slice sa sl sc] 95)
  have hB0 := (Below.refl _ w).alloc (Nat.le_refl _) (.cells #[.int .i64 ver, .slice ca cl cc, .int .i64 a, .int .i64 b, .slice ra rl rc, .slice sa sl sc] 95)
  have K1 := Lib.hid (scEncode_any (w := w.alloc (.cells #[.int .i64 ver, .slice ca cl cc, .int .i64 a, .int .i64 b, .slice ra rl rc, .slice sa sl sc] 95)) ver cs ca cl cc ((hcs.below hB0).mono (by simp)) h0 hfit (by omega))
  have K2 := Lib.hid (fun (W : World) (hb : Below w.heap.size w W) => ruEnc_any a b rs W T _ (hu.below hb) hT hr hrs a0 a1 b0 b1)
  have K3 := Lib.hid (fun (W : World) (hb : Below w.heap.size w W) => bParts_any ss W T _ (hus.below hb) hs hT hsl)
  have HLEN := Lib.hid hlen
  have HL2 := Lib.hid hl2
  have HQ := Lib.hid hq0
  have HB := Lib.hid hB0
  clear hcs h0 hfit hu hr hrs hus hs hT hlen hl2 hq0 hB0
  go_enter Tryz.func25, Tryz.ntmps25
  go_wp2_with fail
  refine K1.out.mono ?_
  rintro e w1 ⟨rfl, hb1⟩
  have HQ1 := Lib.hid (keep hb1 HQ.out)
  have HB1 := Lib.hid (HB.out.trans (hb1.mono HB.out.size))
  have c2 := cell_at HQ1.out 2
  have c3 := cell_at HQ1.out 3
  have c4 := cell_at HQ1.out 4
  simp at c2 c3 c4
  clear hb1 HQ HB K1
  go_wp2_with fail
  refine (K2.out _ HB1.out).mono ?_
  rintro e w2 ⟨rfl, hb2⟩
  have HQ2 := Lib.hid (keep hb2 HQ1.out)
  have HB2 := Lib.hid (HB1.out.trans (hb2.mono HB1.out.size))
  have c5 := cell_at HQ2.out 5
  simp at c5
  clear hb2 c2 c3 c4 HQ1 HB1 K2
  go_wp2_with fail
  refine (K3.out _ HB2.out).mono ?_
  rintro e w3 ⟨va, vc, rfl, hown, hb3⟩
  have HB3 := Lib.hid (HB2.out.trans (hb3.mono HB2.out.size))
  have HO := Lib.hid hown
  clear hb3 c5 HQ2 hown K3
  have hsmx : ss.length ≤ 9223372036854775807 := by omega
  go_wp2_with fail
  refine (wr_num1 (x := 82) (WrS.made w3) (by decide) (by decide) (by simp)).mono ?_
  rintro e w4 ⟨rfl, h4, hf4⟩
  have F4 := Lib.hid (((WF.refl w3.heap.size w3).alloc (Nat.le_refl _) (.cells #[.slice none 0 0] 133)).trans hf4)
  have H4 := Lib.hid h4
  clear hf4 h4
  go_wp2_with fail
  refine (wr_part H4.out _ (by show (scBytes ver cs).toArray.size ≤ _; simp; have := HL2.out; omega) (by simp [leB_len])).mono ?_
  rintro e w5 ⟨rfl, h5, hf5⟩
  have F5 := Lib.hid (F4.out.trans hf5)
  have H5 := Lib.hid h5
  clear hf5 h5 H4 F4
  go_wp2_with fail
  refine (wr_part H5.out _ (by show (prBytes a b rs).toArray.size ≤ _; simp; have := HL2.out; omega) (by simp only [List.length_append, leB_len, partB_len, List.length_nil]; have := HL2.out; omega)).mono ?_
  rintro e w6 ⟨rfl, h6, hf6⟩
  have F6 := Lib.hid (F5.out.trans hf6)
  have H6 := Lib.hid h6
  clear hf6 h6 H5 F5
  go_wp2_with fail
  refine (wr_num1 (x := (ss.length : Int)) H6.out (by omega) (by omega) (by simp only [List.length_append, leB_len, partB_len, List.length_nil]; have := HL2.out; omega)).mono ?_
  rintro e w7 ⟨rfl, h7, hf7⟩
  have F7 := Lib.hid (F6.out.trans hf7)
  have H7 := Lib.hid h7
  clear hf7 h7 H6 F6
  go_wp2_with fail
  go_loopw [56] (fun i wr => ∃ (k : Nat), k ≤ ss.length ∧ i = .int .i64 k ∧ WrS w3.heap.size w3.heap.size ([82] ++ partB (scBytes ver cs) ++ partB (prBytes a b rs) ++ leB ss.length 1 ++ (ss.take k).flatMap (fun s => partB (sysBytes s))) wr ∧ WF w3.heap.size w3 wr) (fun i _ => ss.length - (intOf i).toNat)
  case atStart => exact ⟨0, Nat.zero_le _, rfl, by have := H7.out; simpa [leB] using this, F7.out⟩
  case round =>
    obtain ⟨k, hk, rfl, hw, hf⟩ := hrel
    by_cases hlt : k < ss.length
    · have hx := List.getElem?_eq_getElem hlt
      generalize ss[k] = x at *
      have hsn := Lib.hid (flat_snoc (fun s => partB (sysBytes s)) hx)
      have hlt3 := Lib.hid (flat_take_len (fun s => partB (sysBytes s)) ss (k + 1))
      rw [hsn.out, List.length_append, partB_len] at hlt3
      obtain ⟨q, rfl, hqb, hqs, hcell⟩ := row_block HO.out (by omega)
      obtain ⟨cur, hcur⟩ := row_type1 HO.out (q := q) rfl
      have hcr := hf.blk _ _ hcur (notWk (by decide) (by decide))
      have e := hcell k (sysS x) (by rw [List.getElem?_map, hx]; rfl)
      rw [cell_at hcur, ← cell_at hcr] at e
      unfold sysS at e
      have HW := Lib.hid hw
      clear hw hcell hcr hcur
      have hvc : ss.length ≤ vc := by
        rcases HO.out.2 with ⟨h, _⟩ | ⟨g, cap, cur, h, _, _, h2, _⟩
        · cases h
        · cases h; exact h2
      go_wp2_with fail
      refine (wr_part HW.out _ (by show (sysBytes x).toArray.size ≤ _; simp; have := hlt3.out; have := HL2.out; omega) (by simp only [List.length_append, leB_len, partB_len, List.length_nil, List.length_cons]; have := hlt3.out; have := HL2.out; omega)).mono ?_
      rintro e w8 ⟨rfl, h8, hf8⟩
      have F8 := Lib.hid (hf.trans hf8)
      have H8 := Lib.hid h8
      clear hf8 h8 hf
      go_wp2
      go_roundw
      case rel =>
        refine ⟨k + 1, by omega, by go_num, ?_, F8.out⟩
        have := H8.out
        rw [hsn.out]
        simpa [List.append_assoc] using this
      case measure => simp [intOf]; omega
    · obtain rfl : k = ss.length := by omega
      have HW := Lib.hid hw
      have HF := Lib.hid (HB3.out.trans (hf.bel.mono HB3.out.size))
      clear hw hf
      rw [List.take_length] at HW
      have HWW : Hid (WrS w3.heap.size w3.heap.size (bodyB ver a b cs rs ss) wr) := HW
      go_wp2_with fail
      refine (wr_string HWW.out).mono ?_
      rintro e w9 ⟨rfl, rfl⟩
      have hbl : (bodyB ver a b cs rs ss).toArray.size ≤ 90000 := by
        have := HLEN.out
        rw [stampB_len] at this
        simp
        omega
      go_wp2_with fail
      refine (seStamp_any _ _ hbl).mono ?_
      rintro e w10 ⟨rfl, hb10⟩
      have hbel := HF.out.trans (hb10.mono HF.out.size)
      have hd : decide (16384 < (((stampB (bodyB ver a b cs rs ss)).length : Nat) : Int)) = false := by have := HLEN.out; simp; omega
      have HD := Lib.hid hd
      generalize hS : stampB (bodyB ver a b cs rs ss) = S at *
      have hsz : (⟨S.toArray⟩ : ByteArray).size = S.length := by show S.toArray.size = _; simp
      have hle : S.length ≤ 16384 := HLEN.out
      go_wp2_with fail
      subst hS
      go_returns
      exact ⟨rfl, hbel⟩
end Go.Proofs.YtgnilkjdpfbjgaaGreat
