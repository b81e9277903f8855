/- Sets of parts: Sig.Len, sig.Of, sig.Parts. · Parts as they lie; sig.Parts. -/
import Derived.Test.YtnhlnnehpmjeiaaGreatDoorP19
namespace Go.Proofs.YtnhlnnehpmjeiaaGreatDoor
open Go.RowKit
set_option linter.unusedVariables false
theorem hasBit {s n : Nat} (hs : s < 4294967296) (h1 : 1 ≤ n) (h2 : n ≤ 24) : hasB (s : Int) (n : Int) = s.testBit n := by
  have hd : s / 2 ^ n < 4294967296 := by
    have := Nat.div_le_self s (2 ^ n)
    omega
  unfold hasB
  rw [idB_true (by omega) (by omega), Bool.true_and, Int.toNat_natCast]
  have e : ((s : Int) / 2 ^ n) = ((s / 2 ^ n : Nat) : Int) := by simp
  rw [e, show (1 : Int) = ((1 : Nat) : Int) from rfl, u32_and_nat _ _ hd (by omega)]
  rw [Nat.testBit_eq_decide_div_mod_eq, Nat.and_one_is_mod]
  by_cases hh : s / 2 ^ n % 2 = 1
  · rw [hh]; simp
  · simp [hh]; omega
theorem maskBit : ∀ i, i < 32 → (33554430 : Nat).testBit i = decide (1 ≤ i ∧ i ≤ 24) := by decide
theorem len_ids {x : Nat} (hx : x < 4294967296) : bcount (x &&& 33554430) 32 = (idsTo (x : Int) 24).length := by
  unfold idsTo
  rw [← List.countP_eq_length_filter, List.countP_map]
  have e : (List.range 24).countP ((fun i => hasB (x : Int) i) ∘ fun (j : Nat) => (j : Int) + 1) = (List.range 24).countP fun j => x.testBit (1 + j) := List.countP_congr (fun j hj => by
    have hj' := List.mem_range.1 hj
    have := hasBit hx (n := j + 1) (by omega) (by omega)
    simp only [Function.comp]
    rw [show ((j : Int) + 1) = ((j + 1 : Nat) : Int) by omega, this, Nat.add_comm])
  rw [e, show 32 = 1 + (24 + 7) from rfl, bcount_add, bcount_add]
  have e1 : bcount (x &&& 33554430) 1 = 0 := by
    unfold bcount
    rw [List.countP_eq_zero]
    intro j hj
    have := List.mem_range.1 hj
    rw [Nat.testBit_and, maskBit j (by omega)]
    simp; omega
  have e2 : bcount ((x &&& 33554430) / 2 ^ 1 / 2 ^ 24) 7 = 0 := by
    unfold bcount
    rw [List.countP_eq_zero]
    intro j hj
    have := List.mem_range.1 hj
    rw [Nat.testBit_div_two_pow, Nat.testBit_div_two_pow, Nat.testBit_and, maskBit _ (by omega)]
    simp
  rw [e1, e2, Nat.zero_add, Nat.add_zero]
  unfold bcount
  refine List.countP_congr (fun j hj => ?_)
  have := List.mem_range.1 hj
  rw [Nat.testBit_div_two_pow, Nat.testBit_and, maskBit _ (by omega), Nat.add_comm j 1]
  simp; omega
set_option maxRecDepth 100000 in
theorem sigLen_any (s : Int) (w : World) (h0 : 0 ≤ s) (h1 : s ≤ 4294967295) : Calls Tryz.prog 171 #[.int .u32 s] w fun e w' => e = .returned (.int .i64 ((idsTo s 24).length : Int)) ∧ Below w.heap.size w w' := by
  obtain ⟨x, rfl⟩ := Int.eq_ofNat_of_zero_le h0
  have hx : x < 4294967296 := by omega
  have hm := u32_and_nat x 33554430 hx (by decide)
  rw [show ((33554430 : Nat) : Int) = 33554430 from rfl] at hm
  have hl := ones_any (x &&& 33554430) w (Nat.lt_of_le_of_lt Nat.and_le_left hx)
  rw [len_ids hx] at hl
  have HL := Lib.hid hl
  clear hl
  go_enter Tryz.func171, Tryz.ntmps171
  go_wp2_with fail
  refine HL.out.mono ?_
  rintro e w' ⟨rfl, hb⟩
  go_wp2_with fail
  go_returns
  exact ⟨rfl, hb⟩
theorem withBd {s n : Int} (h0 : 0 ≤ s) (h1 : s ≤ 4294967295) : 0 ≤ sWith s n ∧ sWith s n ≤ 4294967295 := by
  unfold sWith; split
  · refine ⟨?_, ?_⟩ <;> (unfold bits; simp only [IntKind.wrap_u32']; omega)
  · exact ⟨h0, h1⟩
/-- A slice of ints. -/
def IntSl (w : World) (a : Option Addr) (len : Nat) (ids : List Int) : Prop :=
  ids.length = len ∧ len ≤ maxLen ∧ (len = 0 ∨ ∃ b off, a = some ⟨b, off, none⟩ ∧ ∀ (i : Nat) (x : Int), ids[i]? = some x → w.cell? ⟨b, off + i, none⟩ = some (.int .i64 x))
def foldS (ids : List Int) : Int := ids.foldl sWith 0
theorem foldS_snoc (l : List Int) (x : Int) : foldS (l ++ [x]) = sWith (foldS l) x := by simp [foldS]
theorem foldS_bd (ids : List Int) : 0 ≤ foldS ids ∧ foldS ids ≤ 4294967295 := by
  have : ∀ (l : List Int) (s : Int), 0 ≤ s → s ≤ 4294967295 → 0 ≤ l.foldl sWith s ∧ l.foldl sWith s ≤ 4294967295 := by
    intro l
    induction l with
    | nil => intro s h0 h1; exact ⟨h0, h1⟩
    | cons x r ih => intro s h0 h1; obtain ⟨a, b⟩ := withBd (n := x) h0 h1; exact ih _ a b
  exact this ids 0 (by omega) (by omega)
def ofF (ids : List Int) : Int × Int := if ids.all idB then (foldS ids, 0) else (0, 1)
theorem ret_u32i {a b c d : Int} (h1 : a = c) (h2 : b = d) : Ending.returned (.tuple #[.int .u32 a, .int .i64 b]) = .returned (.tuple #[.int .u32 c, .int .i64 d]) := by rw [h1, h2]
set_option maxRecDepth 100000 in
set_option maxHeartbeats 1000000 in
theorem sigOf_any (a : Option Addr) (len cap : Nat) (ids : List Int) (w : World) (h : IntSl w a len ids) : Calls Tryz.prog 170 #[.slice a len cap] w fun e w' => e = .returned (.tuple #[.int .u32 (ofF ids).1, .int .i64 (ofF ids).2]) ∧ w = w' := by
  obtain ⟨hl, hm, hc⟩ := h
  unfold maxLen at hm
  have HL := Lib.hid hl
  have HC := Lib.hid hc
  clear hl hc
  go_enter Tryz.func170, Tryz.ntmps170
  go_wp2_with fail
  go_loop [4, 9] (fun s i => ∃ k : Nat, k ≤ len ∧ i = .int .i64 (k : Int) ∧ s = .int .u32 (foldS (ids.take k)) ∧ (ids.take k).all idB = true) (fun _ i => len - (intOf i).toNat)
  case atStart => exact ⟨0, by omega, rfl, rfl, by simp⟩
  case round =>
    obtain ⟨k, hk, rfl, rfl, hall⟩ := hrel
    by_cases hlt : k < len
    · obtain ⟨x, hx⟩ : ∃ x, ids[k]? = some x := ⟨_, List.getElem?_eq_getElem (by have := HL.out; omega)⟩
      rcases HC.out with h0 | ⟨b, off, rfl, hcc⟩
      · omega
      have c0 := hcc k x hx
      have HX := Lib.hid hx
      have HALL := Lib.hid hall
      have hsn := foldS_snoc (ids.take k) x
      rw [← take_snoc hx] at hsn
      have HSN := Lib.hid hsn
      obtain ⟨b0, b1⟩ := foldS_bd (ids.take k)
      generalize foldS (ids.take k) = s at *
      have i1 : (0 : Int) ≤ (k : Int) := by omega
      have i2 : (k : Int) < (len : Int) := by omega
      clear hcc hx hall hsn
      go_wp2_with fail
      refine (isId_any _ _).mono ?_
      rintro e w' ⟨rfl, rfl⟩
      cases hid : idB x
      · have HR := Lib.hid (show ofF ids = (0, 1) by unfold ofF; rw [if_neg (by rw [all_take_false HX.out hid]; decide)])
        clear hid
        go_wp2_with fail
        go_ret2
        exact ⟨ret_u32i (by rw [HR.out]) (by rw [HR.out]), rfl⟩
      · have HID := Lib.hid hid
        clear hid
        go_wp2_with fail
        refine (with_any _ _ _ b0 b1).mono ?_
        rintro e w' ⟨rfl, rfl⟩
        go_wp2_with fail
        go_round
        case rel => exact ⟨k + 1, by omega, by go_num, by rw [HSN.out], by rw [all_take_succ HX.out HALL.out]; exact HID.out⟩
        case measure => simp [intOf]; omega
    · obtain rfl : k = len := by omega
      rw [List.take_of_length_le (by have := HL.out; omega)] at hall ⊢
      have HR := Lib.hid (show ofF ids = (foldS ids, 0) by unfold ofF; rw [if_pos hall])
      clear hall
      go_wp2_with fail
      go_ret2
      exact ⟨ret_u32i (by rw [HR.out]) (by rw [HR.out]), rfl⟩
end Go.Proofs.YtnhlnnehpmjeiaaGreatDoor
namespace Go.Proofs.YtnhlnnehpmjeiaaGreatDoor
open Go.RowKit
set_option linter.unusedVariables false
structure PW where
  comp : Int
  va : Option Addr
  vl : Nat
  vc : Nat
  val : List WI
/-- A slice of parts that lies below block B, with its values. -/
def PartsAt (B : Nat) (w : World) (a : Option Addr) (len cap : Nat) (ps : List PW) : Prop :=
  ps.length = len ∧ len ≤ cap ∧ cap ≤ maxLen ∧ (∀ p ∈ ps, IntsAt B w p.va p.vl p.vc p.val) ∧ (len = 0 ∨ ∃ b off, a = some ⟨b, off, none⟩ ∧ b < B ∧ ∀ (i : Nat) (p : PW), ps[i]? = some p →
    w.cell? ⟨b, off + i * 2, none⟩ = some (.int .i64 p.comp) ∧ w.cell? ⟨b, off + i * 2 + 1, none⟩ = some (.slice p.va p.vl p.vc))
theorem PartsAt.below {B : Nat} {w w' : World} {a : Option Addr} {len cap : Nat} {ps : List PW} (h : PartsAt B w a len cap ps) (hb : Below B w w') : PartsAt B w' a len cap ps := by
  obtain ⟨h1, h2, h2', hv, h3⟩ := h
  refine ⟨h1, h2, h2', fun p hp => (hv p hp).below hb, ?_⟩
  rcases h3 with h3 | ⟨b, off, ha, hB, hc⟩
  · exact .inl h3
  · refine .inr ⟨b, off, ha, hB, fun i p hp => ?_⟩
    obtain ⟨c0, c1⟩ := hc i p hp
    exact ⟨(hb.cell (p := ⟨b, off + i * 2, none⟩) hB).trans c0, (hb.cell (p := ⟨b, off + i * 2 + 1, none⟩) hB).trans c1⟩
theorem PartsAt.mono {B B' : Nat} {w : World} {a : Option Addr} {len cap : Nat} {ps : List PW} (h : PartsAt B w a len cap ps) (hb : B ≤ B') : PartsAt B' w a len cap ps := by
  obtain ⟨h1, h2, h2', hv, h3⟩ := h
  refine ⟨h1, h2, h2', fun p hp => (hv p hp).mono hb, ?_⟩
  rcases h3 with h3 | ⟨b, off, ha, hB, hc⟩
  · exact .inl h3
  · exact .inr ⟨b, off, ha, by omega, hc⟩
theorem PartsAt.take {B : Nat} {w : World} {a : Option Addr} {len cap n : Nat} {ps : List PW} (h : PartsAt B w a len cap ps) (hn : n ≤ len) : PartsAt B w a n cap (ps.take n) := by
  obtain ⟨h1, h2, h2', hv, h3⟩ := h
  refine ⟨by rw [List.length_take]; omega, by omega, h2', fun p hp => hv p (List.mem_of_mem_take hp), ?_⟩
  rcases h3 with h3 | ⟨b, off, ha, hB, hc⟩
  · exact .inl (by omega)
  · exact .inr ⟨b, off, ha, hB, fun i p hp => hc i p (take_sub hp)⟩
theorem PartsAt.get {B : Nat} {w w' : World} {a : Option Addr} {len cap : Nat} {ps : List PW} (h : PartsAt B w a len cap ps) (hb : Below B w w') {k : Nat} (hk : k < len) :
    ∃ b off p, a = some ⟨b, off, none⟩ ∧ b < B ∧ ps[k]? = some p ∧ IntsAt B w' p.va p.vl p.vc p.val ∧ w'.cell? ⟨b, off + k * 2, none⟩ = some (.int .i64 p.comp) ∧ w'.cell? ⟨b, off + k * 2 + 1, none⟩ = some (.slice p.va p.vl p.vc) := by
  obtain ⟨h1, h2, h2', hv, h3⟩ := h.below hb
  rcases h3 with h3 | ⟨b, off, ha, hB, hc⟩
  · omega
  · have hl : k < ps.length := by omega
    exact ⟨b, off, ps[k], ha, hB, List.getElem?_eq_getElem hl, hv _ (List.getElem_mem hl), hc k _ (List.getElem?_eq_getElem hl)⟩
def comps (ps : List PW) : List Int := ps.map (·.comp)
def partsF (ps : List PW) : Int × Int :=
  if (comps ps).all idB then (if (idsTo (foldS (comps ps)) 24).length = ps.length then (foldS (comps ps), 0) else (0, 7)) else (0, 1)
theorem intSl_own {w : World} {B : Nat} {v : Value} {n : Nat} {ids : List Int} (h : w.ownsRow B 3 1 v n (ids.map (.int .i64))) (hn : n ≤ maxLen) : ∃ a c, v = .slice a n c ∧ IntSl w a n ids := by
  obtain ⟨h1, h2⟩ := h
  rw [List.length_map, Nat.mul_one] at h1
  rcases h2 with ⟨rfl, rfl⟩ | ⟨g, cap, cur, rfl, _, hh, hc1, hc2, hc3, hc4⟩
  · exact ⟨_, _, rfl, h1, hn, .inl rfl⟩
  · refine ⟨_, _, rfl, h1, hn, .inr ⟨g, 0, rfl, fun i x hx => ?_⟩⟩
    have hi : i < n := by rw [← h1]; exact (List.getElem?_eq_some_iff.1 hx).1
    rw [Nat.zero_add, cell_at hh]
    have : (cur.toList.take (n * 1))[i]? = some (.int .i64 x) := by rw [hc4]; simp [hx]
    rw [List.getElem?_take, if_pos (by omega)] at this
    simpa using this
set_option maxRecDepth 100000 in
set_option maxHeartbeats 2000000 in
theorem sigParts_any (ps : List PW) (a : Option Addr) (len cap : Nat) (w : World) (h : PartsAt w.heap.size w a len cap ps) (hlen : len ≤ 100000) : Calls Tryz.prog 151 #[.slice a len cap] w fun e w' => e = .returned (.tuple #[.int .u32 (partsF ps).1, .int .i64 (partsF ps).2]) ∧ Below w.heap.size w w' := by
  obtain ⟨i0, hi, hz0, hz1, hz2⟩ := info_parts Tryz.info3
  have hl := h.1
  have HH := Lib.hid h
  have HL := Lib.hid hl
  clear h hl
  go_enter Tryz.func151, Tryz.ntmps151
  go_wp2_with fail
  go_loopw [4, 11] (fun v i wr => ∃ k : Nat, k ≤ len ∧ i = .int .i64 (k : Int) ∧ wr.ownsRow w.heap.size 3 1 v k ((comps (ps.take k)).map (.int .i64)) ∧ Below w.heap.size w wr) (fun _ i _ => len - (intOf i).toNat)
  case atStart => exact ⟨0, by omega, rfl, World.ownsRow_nil _ _ _ _, Below.refl _ _⟩
  case round =>
    obtain ⟨k, hk, rfl, hown, hb⟩ := hrel
    have hzr : w.heap.size ≤ wr.heap.size := hb.size
    by_cases hlt : k < len
    · obtain ⟨b, off, p, rfl, hB, hp, _, c0, c1⟩ := HH.out.get hb hlt
      obtain ⟨va, vc, rfl⟩ := ownsRow_slice hown
      have hown1 := (hown.alloc (.cells #[.int .i64 p.comp, .slice p.va p.vl p.vc] 73)).alloc (.cells #[.int .i64 p.comp] 3)
      have hsn : (comps (ps.take (k + 1))).map (Value.int .i64) = (comps (ps.take k)).map (.int .i64) ++ [.int .i64 p.comp] := by rw [take_snoc hp]; simp [comps]
      have HSN := Lib.hid hsn
      have HOWN := Lib.hid hown1
      have HOW := Lib.hid hown
      have i1 : (0 : Int) ≤ (k : Int) := by omega
      have i2 : (k : Int) < (len : Int) := by omega
      clear hsn hown1 hown hp
      go_wp2_with (at_builtin; go_loud (refine wpList_append_own _ rfl (.tmp 15) (.tmp 18) 124 rfl w.heap.size 3 i0 (.int .i64 0) 1 8 Tryz.underlying124 hi hz0 hz1 hz2 rfl (by decide) (.slice va k vc) k _ rfl HOWN.out ⟨wr.heap.size + 1, 0, none⟩ 1 1 [.int .i64 p.comp] rfl rfl ?c1 ?c2 ?c3 ?c4 ?c5 ?_))
      case c1 =>
        intro j u hj
        match j, hj with
        | 0, hj => simp at hj; subst hj; simp [Addr.add]
      case c2 => intro u hu; simp at hu; subst hu; rfl
      case c3 => unfold maxLen; omega
      case c4 => omega
      case c5 => simp; omega
      intro v' w2 hown2 hg2 _
      have hrow : ∀ x, (Value.slice va k vc).ownBlock = some x → w.heap.size ≤ x := fun x hx => (HOW.out.lt x hx).1
      have hbel : Below w.heap.size w w2 := ((hb.alloc hzr _).alloc (by simp; omega) _).grown hg2 (by simp; omega) hrow
      have HO2 := Lib.hid hown2
      have HB2 := Lib.hid hbel
      clear hown2 hbel hrow hg2
      go_wp2_with fail
      go_roundw
      case rel => exact ⟨k + 1, by omega, by go_num, by rw [HSN.out]; exact HO2.out, HB2.out⟩
      case measure => simp [intOf]; omega
    · obtain rfl : k = len := by omega
      rw [List.take_of_length_le (by have := HL.out; omega)] at hown
      obtain ⟨va, vc, rfl, hsl⟩ := intSl_own hown (by have := HH.out.2.1; have := HH.out.2.2.1; omega)
      have HSL := Lib.hid hsl
      clear hown hsl
      go_wp2_with fail
      refine (sigOf_any _ _ _ (comps ps) _ HSL.out).mono ?_
      rintro e w' ⟨rfl, rfl⟩
      cases hall : (comps ps).all idB
      · have HO := Lib.hid (show ofF (comps ps) = (0, 1) by unfold ofF; rw [hall]; rfl)
        have HR := Lib.hid (show partsF ps = (0, 1) by unfold partsF; rw [hall]; rfl)
        rw [HO.out]
        clear hall
        go_wp2_with fail
        go_ret2
        exact ⟨ret_u32i (by rw [HR.out]) (by rw [HR.out]), hb⟩
      · have HO := Lib.hid (show ofF (comps ps) = (foldS (comps ps), 0) by unfold ofF; rw [hall]; rfl)
        rw [HO.out]
        have HALL := Lib.hid hall
        clear hall
        obtain ⟨b0, b1⟩ := foldS_bd (comps ps)
        obtain ⟨s, hs⟩ : ∃ s, foldS (comps ps) = s := ⟨_, rfl⟩
        rw [hs] at b0 b1 ⊢
        have HS := Lib.hid hs
        clear hs
        go_wp2_with fail
        refine (sigLen_any s _ b0 b1).mono ?_
        rintro e w3 ⟨rfl, hb3⟩
        obtain ⟨n, hn⟩ : ∃ n, (idsTo s 24).length = n := ⟨_, rfl⟩
        rw [hn]
        have HN := Lib.hid hn
        have HB3 := Lib.hid (hb.trans (hb3.mono hzr))
        clear hn hb3
        by_cases he : n = k
        · have e1 : ((n : Int) != (k : Int)) = false := by rw [he]; simp
          have HR := Lib.hid (show partsF ps = (s, 0) by unfold partsF; rw [if_pos HALL.out, HS.out, if_pos (by rw [HN.out, HL.out]; exact he)])
          clear he
          go_wp2_with fail
          go_ret2
          exact ⟨ret_u32i (by rw [HR.out]) (by rw [HR.out]), HB3.out⟩
        · have e1 : ((n : Int) != (k : Int)) = true := by rw [bne_iff_ne]; omega
          have HR := Lib.hid (show partsF ps = (0, 7) by unfold partsF; rw [if_pos HALL.out, HS.out, if_neg (by rw [HN.out, HL.out]; exact he)])
          clear he
          go_wp2_with fail
          go_ret2
          exact ⟨ret_u32i (by rw [HR.out]) (by rw [HR.out]), HB3.out⟩
end Go.Proofs.YtnhlnnehpmjeiaaGreatDoor
