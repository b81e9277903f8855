/- Contract of retrofitref07.Part. Printed by mkZA.py. · Contract of retrofitref07.Parts. Printed by mkZB.py. · Plain: the set's ids, its test, and a component's place are those of the document. -/
import Derived.Test.YtoadihebdaooaaaGreatE30
import Derived.Test.YtoadihebdaooaaaGreatE31
import Derived.Test.YtoadihebdaooaaaGreatE17
import Derived.Test.YtoadihebdaooaaaGreatE18
import Derived.Test.YtoadihebdaooaaaGreatE22
namespace Go.Proofs.YtoadihebdaooaaaGreat
open Go.RowKit
set_option linter.unusedVariables false
def part_list (sb b off len cap i pb : Nat) (fa : Option Addr) (fl fc : Nat) (va : Option Addr) (vl vc : Nat) (r : Int) : List (Value → World → Prop) :=
  [IsV (.pointer (some ⟨sb, 1, none⟩)),
   IsV (.slice (some ⟨b, off, none⟩) len cap),
   IsV (.int .i64 (i : Int)),
   IsV (.pointer (some ⟨b, off + i * 3, none⟩)),
   IsV (.pointer (some ⟨b, off + i * 3 + 2, none⟩)),
   IsV (.slice fa fl fc),
   IsV (.pointer (some ⟨pb, 1, none⟩)),
   IsV (.slice va vl vc),
   IsV (.int .i64 r),
   IsV (.int .i64 r)]
theorem part_list_lasts (sb b off len cap i pb : Nat) (fa : Option Addr) (fl fc : Nat) (va : Option Addr) (vl vc : Nat) (r : Int) : ∀ p ∈ part_list sb b off len cap i pb  fa  fl fc  va  vl vc  r , Lasts p := by
  simp only [part_list, List.mem_cons, List.not_mem_nil, or_false]
  rintro p hp
  repeat (rcases hp with rfl | hp; exact lasts_v _)
set_option maxRecDepth 100000 in
set_option maxHeartbeats 1000000 in
theorem part07_any (ver : Int) (cs : List Cmp) (a : Option Addr) (len cap : Nat) (id : Int) (va : Option Addr) (vl vc : Nat) (val : List WI) (w : World) (hcs : CompsAt w.heap.size w a len cs) (hv : IntsAt w.heap.size w va vl vc val) :
    Calls Tryz.prog 126 #[.agg #[.int .i64 ver, .slice a len cap], .agg #[.int .i64 id, .slice va vl vc]] w fun e w' => e = .returned (.int .i64 (cpF cs ⟨id, va, vl, vc, val⟩)) ∧ Below w.heap.size w w' := by
  have hlen := hcs.1
  have hS0 := keepA (.cells #[.int .i64 id, .slice va vl vc] 85) (heap_alloc_new w (.cells #[.int .i64 ver, .slice a len cap] 24))
  have hP0 := heap_alloc_new (w.alloc (.cells #[.int .i64 ver, .slice a len cap] 24)) (.cells #[.int .i64 id, .slice va vl vc] 85)
  have hb0 : Below w.heap.size w ((w.alloc (.cells #[.int .i64 ver, .slice a len cap] 24)).alloc (.cells #[.int .i64 id, .slice va vl vc] 85)) := by go_grown
  rw [World.size_alloc] at hP0
  have HCS := Lib.hid hcs
  have HV := Lib.hid hv
  have HLN := Lib.hid hlen
  have HB0 := Lib.hid hb0
  have HS0 := Lib.hid hS0
  have HP0 := Lib.hid hP0
  clear hcs hv hlen hb0 hS0 hP0
  go_enter Tryz.func126, Tryz.ntmps126
  go_wp2_with fail
  generalize (w.alloc (.cells #[.int .i64 ver, .slice a len cap] 24)).alloc (.cells #[.int .i64 id, .slice va vl vc] 85) = W at *
  generalize hpb : w.heap.size + 1 = pb at *
  generalize hsb : w.heap.size = sb at HS0 ⊢
  refine (find07_any ver id cs a len cap W ((HCS.out.below HB0.out).mono HB0.out.size)).mono ?_
  rintro e w1 ⟨rfl, hb1⟩
  have HB1 := Lib.hid (HB0.out.trans (hb1.mono HB0.out.size))
  have HS1 := Lib.hid (keep hb1 HS0.out)
  have HP1 := Lib.hid (keep hb1 HP0.out)
  clear hb1
  cases hf : findC id cs with
  | none =>
    have hi : idxF id 0 cs = -1 := idxF_none cs 0 hf
    have HT : Hid (cpF cs ⟨id, va, vl, vc, val⟩ = 6) := Lib.hid (by unfold cpF; rw [hf])
    rw [hi]
    clear hf hi
    go_wp2_with fail
    go_returns
    exact ⟨ret_intk HT.out.symm, HB1.out⟩
  | some c =>
    obtain ⟨i, hi, hci⟩ := idxF_some cs 0 hf
    rw [Nat.zero_add] at hi
    rw [hi]
    have hil : i < len := by have := (List.getElem?_eq_some_iff.1 hci).1; have := HLN.out; omega
    obtain ⟨b, off, c', rfl, hB, hc', _, _, fa, fl, fc, hfc, hF, _⟩ := HCS.out.get HB1.out hil
    obtain rfl : c' = c := by rw [hci] at hc'; cases hc'; rfl
    obtain ⟨r, hr⟩ : ∃ r, fitF c'.fields val = r := ⟨_, rfl⟩
    have HT : Hid (cpF cs ⟨id, va, vl, vc, val⟩ = r) := Lib.hid (by unfold cpF; rw [hf]; exact hr)
    have HFIT : Hid (∀ W', Below w1.heap.size w1 W' → Calls Tryz.prog 90 #[.slice fa fl fc, .slice va vl vc] W' fun e w' => e = .returned (.int .i64 r) ∧ Below W'.heap.size W' w') := Lib.hid (fun W' hW => by
      rw [← hr]
      have hz := HB1.out.size
      have hz2 := hW.size
      exact fit05_any c'.fields fa fl fc va vl vc val W' ((hF.below (hW.mono hz)).mono (by omega)) ((HV.out.below (HB1.out.trans (hW.mono hz))).mono (by omega)))
    have HCEL : Hid (∀ W', Below w1.heap.size w1 W' → W'.cell? ⟨sb, 1, none⟩ = some (.slice (some ⟨b, off, none⟩) len cap) ∧ W'.cell? ⟨b, off + i * 3 + 2, none⟩ = some (.slice fa fl fc) ∧ W'.cell? ⟨pb, 1, none⟩ = some (.slice va vl vc)) := Lib.hid (fun W' hW =>
      ⟨by rw [cell_at (keep hW HS1.out)]; rfl, (hW.cell (p := ⟨b, _, none⟩) (by have := HB1.out.size; show b < _; omega)).trans hfc, by rw [cell_at (keep hW HP1.out)]; rfl⟩)
    have i1 : (0 : Int) ≤ (i : Int) := by omega
    have i2 : (i : Int) < (len : Int) := by omega
    clear hf hi hci hB hc' hfc hF hr
    go_wp2_with fail
    · skip
      refine wp_region_frame (by kernel_rfl) (by kernel_rfl) (by kernel_rfl) (byList (part_list sb b off len cap i pb fa fl fc va vl vc r)) (lasts_list (part_list_lasts sb b off len cap i pb fa fl fc va vl vc r)) ?_ ?_
      · intro vs w' iq o A F hb ho hd
        have m2 : A.tmps[2]?.getD undef = (.pointer (some ⟨sb, 0, none⟩)) := F.m (by kernel_rfl) rfl
        have m3 : A.tmps[3]?.getD undef = (.pointer (some ⟨pb, 0, none⟩)) := F.m (by kernel_rfl) rfl
        have m5 : A.tmps[5]?.getD undef = (.int .i64 (i : Int)) := F.m (by kernel_rfl) rfl
        have G := F.light (n := 21) (by kernel_rfl)
        clear F
        obtain ⟨z0, z1, z2⟩ := HCEL.out w' hb
        have hfit := HFIT.out w' hb
        clear hb
        revert ho hd
        match iq with
        | 0 =>
          intro ho hd
          obtain rfl := (Option.some.inj ho).symm
          clear hd ho
          refine step_open rfl ?_
          clear G
          exact step_run (v := (.pointer (some ⟨sb, 1, none⟩))) (by go_simp) rfl
        | 1 =>
          intro ho hd
          obtain rfl := (Option.some.inj ho).symm
          have d0 : vs 0 = (.pointer (some ⟨sb, 1, none⟩)) := hd ⟨0, .data⟩ (by simp) rfl
          clear hd ho
          have h12 := G.h (j := 0) (d := 12) rfl (by decide) d0
          refine step_open rfl ?_
          clear G
          exact step_run (v := (.slice (some ⟨b, off, none⟩) len cap)) (by go_simp) rfl
        | 2 =>
          intro ho hd
          obtain rfl := (Option.some.inj ho).symm
          clear hd ho
          refine step_open rfl ?_
          clear G
          exact step_run (v := (.int .i64 (i : Int))) (by go_simp) rfl
        | 3 =>
          intro ho hd
          obtain rfl := (Option.some.inj ho).symm
          have d1 : vs 1 = (.slice (some ⟨b, off, none⟩) len cap) := hd ⟨1, .data⟩ (by simp) rfl
          have d2 : vs 2 = (.int .i64 (i : Int)) := hd ⟨2, .data⟩ (by simp) rfl
          clear hd ho
          have h13 := G.h (j := 1) (d := 13) rfl (by decide) d1
          have h14 := G.h (j := 2) (d := 14) rfl (by decide) d2
          refine step_open rfl ?_
          clear G
          exact step_run (v := (.pointer (some ⟨b, off + i * 3, none⟩))) (by go_simp) rfl
        | 4 =>
          intro ho hd
          obtain rfl := (Option.some.inj ho).symm
          have d3 : vs 3 = (.pointer (some ⟨b, off + i * 3, none⟩)) := hd ⟨3, .data⟩ (by simp) rfl
          clear hd ho
          have h15 := G.h (j := 3) (d := 15) rfl (by decide) d3
          refine step_open rfl ?_
          clear G
          exact step_run (v := (.pointer (some ⟨b, off + i * 3 + 2, none⟩))) (by go_simp) rfl
        | 5 =>
          intro ho hd
          obtain rfl := (Option.some.inj ho).symm
          have d4 : vs 4 = (.pointer (some ⟨b, off + i * 3 + 2, none⟩)) := hd ⟨4, .data⟩ (by simp) rfl
          clear hd ho
          have h16 := G.h (j := 4) (d := 16) rfl (by decide) d4
          refine step_open rfl ?_
          clear G
          exact step_run (v := (.slice fa fl fc)) (by go_simp) rfl
        | 6 =>
          intro ho hd
          obtain rfl := (Option.some.inj ho).symm
          clear hd ho
          refine step_open rfl ?_
          clear G
          exact step_run (v := (.pointer (some ⟨pb, 1, none⟩))) (by go_simp) rfl
        | 7 =>
          intro ho hd
          obtain rfl := (Option.some.inj ho).symm
          have d6 : vs 6 = (.pointer (some ⟨pb, 1, none⟩)) := hd ⟨6, .data⟩ (by simp) rfl
          clear hd ho
          have h18 := G.h (j := 6) (d := 18) rfl (by decide) d6
          refine step_open rfl ?_
          clear G
          exact step_run (v := (.slice va vl vc)) (by go_simp) rfl
        | 8 =>
          intro ho hd
          obtain rfl := (Option.some.inj ho).symm
          have d5 : vs 5 = (.slice fa fl fc) := hd ⟨5, .data⟩ (by simp) rfl
          have d7 : vs 7 = (.slice va vl vc) := hd ⟨7, .data⟩ (by simp) rfl
          clear hd ho
          have h17 := G.h (j := 5) (d := 17) rfl (by decide) d5
          have h19 := G.h (j := 7) (d := 19) rfl (by decide) d7
          refine step_open rfl ?_
          clear G
          go_simp
          refine hfit.mono ?_
          rintro e w2 ⟨rfl, hb2⟩
          exact ⟨_, rfl, rfl, hb2⟩
        | 9 =>
          intro ho hd
          obtain rfl := (Option.some.inj ho).symm
          have d8 : vs 8 = (.int .i64 r) := hd ⟨8, .data⟩ (by simp) rfl
          clear hd ho
          have h20 := G.h (j := 8) (d := 20) rfl (by decide) d8
          refine step_open rfl ?_
          clear G
          exact step_run (v := (.int .i64 r)) (by go_simp) rfl
        | n + 10 =>
          intro ho hd
          simp at ho
      intro vs w6 hb hR
      have hvv : vs 9 = .int .i64 r := hR 9 (by simp)
      have HB6 := Lib.hid (HB1.out.trans (hb.mono HB1.out.size))
      simp only [putAll, Act.put, List.setIfInBounds_toArray, List.set_cons_succ, List.set_cons_zero]
      rw [hvv]
      clear hR hb hvv
      go_wp2_with fail
      go_returns
      exact ⟨ret_intk HT.out.symm, HB6.out⟩
end Go.Proofs.YtoadihebdaooaaaGreat
namespace Go.Proofs.YtoadihebdaooaaaGreat
open Go.RowKit
set_option linter.unusedVariables false
theorem any_take_succ {α : Type} {p : α → Bool} {l : List α} {k : Nat} {x : α} (h : l[k]? = some x) (ha : (l.take k).any p = false) (hp : p x = false) : (l.take (k + 1)).any p = false := by
  rw [take_snoc h, List.any_append, ha]
  simp [hp]
theorem any_take_true {α : Type} {p : α → Bool} {l : List α} {k i : Nat} {x : α} (h : l[k]? = some x) (hi : k < i) (hp : p x = true) : (l.take i).any p = true := by
  rw [List.any_eq_true]
  exact ⟨x, List.mem_of_getElem? (i := k) (by rw [List.getElem?_take, if_pos hi]; exact h), hp⟩
def parts_list (ver : Int) (a : Option Addr) (len cap pb po n pc i : Nat) (id : Int) (va : Option Addr) (vl vc : Nat) (r : Int) : List (Value → World → Prop) :=
  [IsV (.agg #[.int .i64 ver, .slice a len cap]),
   IsV (.slice (some ⟨pb, po, none⟩) n pc),
   IsV (.int .i64 (i : Int)),
   IsV (.pointer (some ⟨pb, po + i * 2, none⟩)),
   IsV (.agg #[.int .i64 id, .slice va vl vc]),
   IsV (.int .i64 r),
   IsV (.int .i64 r)]
theorem parts_list_lasts (ver : Int) (a : Option Addr) (len cap pb po n pc i : Nat) (id : Int) (va : Option Addr) (vl vc : Nat) (r : Int) : ∀ p ∈ parts_list ver  a  len cap pb po n pc i  id  va  vl vc  r , Lasts p := by
  simp only [parts_list, List.mem_cons, List.not_mem_nil, or_false]
  rintro p hp
  repeat (rcases hp with rfl | hp; exact lasts_v _)
set_option maxRecDepth 100000 in
set_option maxHeartbeats 1000000 in
theorem parts07_any (ver : Int) (cs : List Cmp) (a : Option Addr) (len cap : Nat) (ps : List PW) (pa : Option Addr) (n pc : Nat) (w : World) (hcs : CompsAt w.heap.size w a len cs) (hps : PartsAt w.heap.size w pa n pc ps) :
    Calls Tryz.prog 89 #[.agg #[.int .i64 ver, .slice a len cap], .slice pa n pc] w fun e w' => e = .returned (.int .i64 (cpsGo cs [] ps)) ∧ Below w.heap.size w w' := by
  have hmx : n ≤ maxLen := Nat.le_trans hps.2.1 hps.2.2.1
  unfold maxLen at hmx
  have HLN := Lib.hid hps.1
  have hS0 := heap_alloc_new w (.cells #[.int .i64 ver, .slice a len cap] 24)
  have hb0 : Below w.heap.size w (w.alloc (.cells #[.int .i64 ver, .slice a len cap] 24)) := by go_grown
  have HCS := Lib.hid hcs
  have HPS := Lib.hid hps
  have HS0 := Lib.hid hS0
  have HB0 := Lib.hid hb0
  clear hcs hps hS0 hb0
  go_enter Tryz.func89, Tryz.ntmps89
  go_wp2_with fail
  generalize w.alloc (.cells #[.int .i64 ver, .slice a len cap] 24) = W at *
  generalize hsb : w.heap.size = sb at HS0 ⊢
  go_loopw [5] (fun j wr => ∃ i : Nat, i ≤ n ∧ j = .int .i64 i ∧ cpsGo cs [] ps = cpsGo cs (ps.take i) (ps.drop i) ∧ Below W.heap.size W wr) (fun j _ => n - (intOf j).toNat)
  case atStart => exact ⟨0, Nat.zero_le _, rfl, by simp, Below.refl _ _⟩
  case round =>
    obtain ⟨i, hi, rfl, hgo, hbr⟩ := hrel
    have HGO := Lib.hid hgo
    have HBR := Lib.hid hbr
    clear hgo hbr
    by_cases hlt : i < n
    · have hbw := HB0.out.trans (HBR.out.mono HB0.out.size)
      obtain ⟨pb, po, p, rfl, hpB, hp, hpI, p0, p1⟩ := HPS.out.get hbw hlt
      have hstep : cpsGo cs (ps.take i) (ps.drop i) = if ((ps.take i).any fun q => q.comp == p.comp) then 1 else if cpF cs p ≠ 0 then cpF cs p else cpsGo cs (ps.take (i + 1)) (ps.drop (i + 1)) := by
        rw [drop_get hp, take_snoc hp]
        rfl
      have HSTEP := Lib.hid (HGO.out.trans hstep)
      have HP := Lib.hid (And.intro hp (And.intro hpI (And.intro p0 p1)))
      have HBW := Lib.hid hbw
      clear hstep hp hpI p0 p1 hbw
      have i1 : (0 : Int) ≤ (i : Int) := by omega
      have i2 : (i : Int) < (n : Int) := by omega
      generalize wr = W1 at *
      go_wp2_with fail
      go_loopw [6] (fun j ws => ∃ k : Nat, k ≤ i ∧ j = .int .i64 k ∧ ((ps.take k).any fun q => q.comp == p.comp) = false ∧ Below W1.heap.size W1 ws) (fun j _ => i - (intOf j).toNat)
      case atStart => exact ⟨0, Nat.zero_le _, rfl, by simp, Below.refl _ _⟩
      case round =>
        obtain ⟨k, hk, rfl, hany, hbs⟩ := hrel
        have HANY := Lib.hid hany
        have hbs0 := HBW.out.trans (hbs.mono HBW.out.size)
        have HBS := Lib.hid hbs
        clear hany
        by_cases hlk : k < i
        · obtain ⟨pb', po', q, hpa, _, hq, _, q0, _⟩ := HPS.out.get hbs0 (show k < n by omega)
          cases hpa
          have p0 := (hbs.cell (p := ⟨pb, _, none⟩) (show pb < W1.heap.size by have := HBW.out.size; omega)).trans HP.out.2.2.1
          have j1 : (0 : Int) ≤ (k : Int) := by omega
          have j2 : (k : Int) < (n : Int) := by omega
          have j3 : (k : Int) < (i : Int) := by omega
          have HQ := Lib.hid hq
          have HB0' := Lib.hid hbs0
          clear hq hbs hbs0
          by_cases he : q.comp = p.comp
          · have HT : Hid (cpsGo cs [] ps = 1) := Lib.hid (by
              rw [HSTEP.out, if_pos (any_take_true HQ.out hlk (by rw [beq_iff_eq]; exact he))])
            rw [he] at q0
            clear he
            generalize p.comp = pc' at *
            go_wp2_with fail
            go_quiet (fail)
            go_wp2_with fail
            go_returns
            exact ⟨ret_intk HT.out.symm, below_drewN HB0'.out _⟩
          · have he2 : (q.comp == p.comp) = false := by rw [beq_eq_false_iff_ne]; exact he
            have HN := Lib.hid (any_take_succ HQ.out HANY.out he2)
            clear he
            go_wp2_with fail
            go_quiet (fail)
            go_wp2_with fail
            go_roundw
            case rel => exact ⟨k + 1, by omega, by go_num, HN.out, below_drewN HBS.out _⟩
            case measure => simp only [intOf]; omega
        · obtain rfl : i = k := by omega
          obtain ⟨r, hr⟩ : ∃ r, cpF cs p = r := ⟨_, rfl⟩
          have HST2 : Hid (cpsGo cs [] ps = if r ≠ 0 then r else cpsGo cs (ps.take (i + 1)) (ps.drop (i + 1))) := Lib.hid (by
            rw [HSTEP.out, if_neg (by rw [HANY.out]; simp), hr])
          have hWz := HBW.out.size
          have p0 := (hbs.cell (p := ⟨pb, _, none⟩) (show pb < W1.heap.size by omega)).trans HP.out.2.2.1
          have p1 := (hbs.cell (p := ⟨pb, _, none⟩) (show pb < W1.heap.size by omega)).trans HP.out.2.2.2
          have hsW := keep hbs (keep HBR.out HS0.out)
          have hzs := hbs.size
          have hpIn := HP.out.2.1.below (hbs.mono HBW.out.size)
          obtain ⟨id, va, vl, vc, val⟩ := p
          dsimp only at p0 p1 hpIn
          have HPART : Hid (∀ W', Below wr.heap.size wr W' → Calls Tryz.prog 126 #[.agg #[.int .i64 ver, .slice a len cap], .agg #[.int .i64 id, .slice va vl vc]] W' fun e w' => e = .returned (.int .i64 r) ∧ Below W'.heap.size W' w') := Lib.hid (fun W' hW => by
            rw [← hr]
            have hz2 := hW.size
            have hz1 : w.heap.size ≤ wr.heap.size := by omega
            exact part07_any ver cs a len cap id va vl vc val W' ((HCS.out.below (hbs0.trans (hW.mono hz1))).mono (by omega)) ((hpIn.below (hW.mono hz1)).mono (by omega)))
          have HCEL : Hid (∀ W', Below wr.heap.size wr W' → W'.cell? ⟨sb, 0, none⟩ = some (.int .i64 ver) ∧ W'.cell? ⟨sb, 1, none⟩ = some (.slice a len cap) ∧ W'.cell? ⟨pb, po + i * 2, none⟩ = some (.int .i64 id) ∧ W'.cell? ⟨pb, po + i * 2 + 1, none⟩ = some (.slice va vl vc)) := Lib.hid (fun W' hW =>
            ⟨by rw [cell_at (keep hW hsW)]; rfl, by rw [cell_at (keep hW hsW)]; rfl, (hW.cell (p := ⟨pb, _, none⟩) (show pb < wr.heap.size by omega)).trans p0, (hW.cell (p := ⟨pb, _, none⟩) (show pb < wr.heap.size by omega)).trans p1⟩)
          have HBS0 := Lib.hid hbs0
          have HBSR := Lib.hid (HBR.out.trans (hbs.mono HBR.out.size))
          have hWWz : W.heap.size ≤ wr.heap.size := HBSR.out.size
          clear hr p0 p1 hsW hpIn hbs hbs0 HP HSTEP HANY
          go_wp2_with fail
          · skip
            refine wp_region_frame (by kernel_rfl) (by kernel_rfl) (by kernel_rfl) (byList (parts_list ver a len cap pb po n pc i id va vl vc r)) (lasts_list (parts_list_lasts ver a len cap pb po n pc i id va vl vc r)) ?_ ?_
            · intro vs w' iq o A F hb ho hd
              have m2 : A.tmps[2]?.getD undef = (.pointer (some ⟨sb, 0, none⟩)) := F.m (by kernel_rfl) rfl
              have m1 : A.tmps[1]?.getD undef = (.slice (some ⟨pb, po, none⟩) n pc) := F.m (by kernel_rfl) rfl
              have m5 : A.tmps[5]?.getD undef = (.int .i64 (i : Int)) := F.m (by kernel_rfl) rfl
              have G := F.light (n := 39) (by kernel_rfl)
              clear F
              obtain ⟨z0, z1, z2, z3⟩ := HCEL.out w' hb
              have hpart := HPART.out w' hb
              clear hb
              revert ho hd
              match iq with
              | 0 =>
                intro ho hd
                obtain rfl := (Option.some.inj ho).symm
                clear hd ho
                refine step_open rfl ?_
                clear G
                exact step_run (v := (.agg #[.int .i64 ver, .slice a len cap])) (by go_simp) rfl
              | 1 =>
                intro ho hd
                obtain rfl := (Option.some.inj ho).symm
                clear hd ho
                refine step_open rfl ?_
                clear G
                exact step_run (v := (.slice (some ⟨pb, po, none⟩) n pc)) (by go_simp) rfl
              | 2 =>
                intro ho hd
                obtain rfl := (Option.some.inj ho).symm
                clear hd ho
                refine step_open rfl ?_
                clear G
                exact step_run (v := (.int .i64 (i : Int))) (by go_simp) rfl
              | 3 =>
                intro ho hd
                obtain rfl := (Option.some.inj ho).symm
                have d1 : vs 1 = (.slice (some ⟨pb, po, none⟩) n pc) := hd ⟨1, .data⟩ (by simp) rfl
                have d2 : vs 2 = (.int .i64 (i : Int)) := hd ⟨2, .data⟩ (by simp) rfl
                clear hd ho
                have h31 := G.h (j := 1) (d := 31) rfl (by decide) d1
                have h32 := G.h (j := 2) (d := 32) rfl (by decide) d2
                refine step_open rfl ?_
                clear G
                exact step_run (v := (.pointer (some ⟨pb, po + i * 2, none⟩))) (by go_simp) rfl
              | 4 =>
                intro ho hd
                obtain rfl := (Option.some.inj ho).symm
                have d3 : vs 3 = (.pointer (some ⟨pb, po + i * 2, none⟩)) := hd ⟨3, .data⟩ (by simp) rfl
                clear hd ho
                have h33 := G.h (j := 3) (d := 33) rfl (by decide) d3
                refine step_open rfl ?_
                clear G
                exact step_run (v := (.agg #[.int .i64 id, .slice va vl vc])) (by go_simp) rfl
              | 5 =>
                intro ho hd
                obtain rfl := (Option.some.inj ho).symm
                have d0 : vs 0 = (.agg #[.int .i64 ver, .slice a len cap]) := hd ⟨0, .data⟩ (by simp) rfl
                have d4 : vs 4 = (.agg #[.int .i64 id, .slice va vl vc]) := hd ⟨4, .data⟩ (by simp) rfl
                clear hd ho
                have h30 := G.h (j := 0) (d := 30) rfl (by decide) d0
                have h34 := G.h (j := 4) (d := 34) rfl (by decide) d4
                refine step_open rfl ?_
                clear G
                go_simp
                refine hpart.mono ?_
                rintro e w2 ⟨rfl, hb2⟩
                exact ⟨_, rfl, rfl, hb2⟩
              | 6 =>
                intro ho hd
                obtain rfl := (Option.some.inj ho).symm
                have d5 : vs 5 = (.int .i64 r) := hd ⟨5, .data⟩ (by simp) rfl
                clear hd ho
                have h35 := G.h (j := 5) (d := 35) rfl (by decide) d5
                refine step_open rfl ?_
                clear G
                exact step_run (v := (.int .i64 r)) (by go_simp) rfl
              | n + 7 =>
                intro ho hd
                simp at ho
            intro vs w6 hb hR
            have hvv : vs 6 = .int .i64 r := hR 6 (by simp)
            have HB6 := Lib.hid (HBS0.out.trans (hb.mono HBS0.out.size))
            have HB7 := Lib.hid (HBSR.out.trans (hb.mono hWWz))
            simp only [putAll, Act.put, List.setIfInBounds_toArray, List.set_cons_succ, List.set_cons_zero]
            rw [hvv]
            clear hR hb hvv
            by_cases hr0 : r = 0
            · have HT : Hid (cpsGo cs [] ps = cpsGo cs (ps.take (i + 1)) (ps.drop (i + 1))) := Lib.hid (by rw [HST2.out, if_neg (by simp [hr0])])
              subst hr0
              go_wp2_with fail
              go_roundw
              case rel => exact ⟨i + 1, by omega, by go_num, HT.out, HB7.out⟩
              case measure => simp only [intOf]; omega
            · have HT : Hid (cpsGo cs [] ps = r) := Lib.hid (by rw [HST2.out, if_pos hr0])
              have e1 : (r != 0) = true := by rw [bne_iff_ne]; exact hr0
              clear hr0
              go_wp2_with fail
              go_returns
              exact ⟨ret_intk HT.out.symm, HB6.out⟩
    · obtain rfl : i = n := by omega
      have HT : Hid (cpsGo cs [] ps = 0) := Lib.hid (by rw [HGO.out, List.drop_eq_nil_of_le (by have := HLN.out; omega)]; rfl)
      have HBE := Lib.hid (HB0.out.trans (HBR.out.mono HB0.out.size))
      go_wp2_with fail
      go_returns
      exact ⟨ret_intk HT.out.symm, HBE.out⟩
end Go.Proofs.YtoadihebdaooaaaGreat
namespace Go.Proofs.YtoadihebdaooaaaGreat
open Go.RowKit
set_option linter.unusedVariables false
theorem bit_high16 {s i : Nat} (hs : s < 4294967296) (hi : 32 ≤ i) : s.testBit i = false :=
  Nat.testBit_lt_two_pow (Nat.lt_of_lt_of_le hs (by have := Nat.pow_le_pow_right (n := 2) (by omega) hi; omega))
/-- The set with the component, or without it. -/
theorem bitAt_nat16 (s i : Nat) : bitAt (s : Int) i = s.testBit i := by
  unfold bitAt
  have e : ((s : Int) / 2 ^ i % 2) = ((s / 2 ^ i % 2 : Nat) : Int) := by simp
  rw [e, Nat.testBit_eq_decide_div_mod_eq]
  by_cases hh : s / 2 ^ i % 2 = 1
  · rw [hh]; rfl
  · simp [hh]; omega
theorem hasB_at16 {s c : Int} (h0 : 0 ≤ s) (h1 : s ≤ 4294967295) (hc : idB c = true) : hasB s c = bitAt s c.toNat := by
  obtain ⟨n, rfl, g1, g2⟩ := idNat hc
  obtain ⟨s, rfl⟩ := Int.eq_ofNat_of_zero_le h0
  rw [hasBit (by omega) g1 g2, Int.toNat_natCast, bitAt_nat16]
theorem ids_same16 {s : Int} (h0 : 0 ≤ s) (h1 : s ≤ 4294967295) : idsTo s 24 = ids10 s 24 := by
  unfold idsTo ids10
  apply List.filter_congr
  intro x hx
  obtain ⟨j, hj, rfl⟩ := List.mem_map.1 hx
  have := List.mem_range.1 hj
  exact hasB_at16 h0 h1 (idB_true (by omega) (by omega))
theorem mask_bit16 : ∀ i, i < 32 → (4261412865 : Nat).testBit i = !decide (1 ≤ i ∧ i ≤ 24) := by decide
theorem sIs_nat16 {s : Nat} (hs : s < 4294967296) : sIs (s : Int) = (s &&& 4261412865 == 0) := by
  unfold sIs
  rw [show (33554430 : Int) = ((33554430 : Nat) : Int) from rfl, u32_andNot_nat _ _ hs (by omega)]
  show (((s &&& 4261412865 : Nat) : Int) == 0) = _
  by_cases h : s &&& 4261412865 = 0
  · rw [h]; rfl
  · rw [beq_false_of_ne h, beq_false_of_ne (by omega)]
theorem sIs_same16 {s : Int} (h0 : 0 ≤ s) (h1 : s ≤ 4294967295) : sIs s = is10 s := by
  obtain ⟨s, rfl⟩ := Int.eq_ofNat_of_zero_le h0
  have hs : s < 4294967296 := by omega
  rw [sIs_nat16 hs]
  apply Bool.eq_iff_iff.2
  unfold is10
  rw [List.all_eq_true, beq_iff_eq]
  constructor
  · intro h i hi
    have hi := List.mem_range.1 hi
    have hb : (s &&& 4261412865).testBit i = false := by rw [h]; simp
    rw [Nat.testBit_and, mask_bit16 i hi] at hb
    rw [bitAt_nat16]
    cases hx : s.testBit i
    · rfl
    · rw [hx] at hb; simp at hb; simp; omega
  · intro h
    apply Nat.eq_of_testBit_eq
    intro i
    rw [Nat.testBit_and, Nat.zero_testBit]
    by_cases hi : i < 32
    · have := h i (List.mem_range.2 hi)
      rw [bitAt_nat16] at this
      rw [mask_bit16 i hi]
      cases hx : s.testBit i
      · rfl
      · rw [hx] at this; simp at this; simp; omega
    · rw [bit_high16 hs (by omega)]; rfl
theorem findC_idx16 (i : Int) (cs : List Cmp) : (findC i cs).isSome = decide (0 ≤ idxF i 0 cs) := by
  unfold findC
  cases hf : cs.find? (fun c => decide (c.id = i)) with
  | none => rw [idxF_none cs 0 hf]; rfl
  | some c =>
    obtain ⟨j, hj, _⟩ := idxF_some cs 0 hf
    rw [hj]; simp
end Go.Proofs.YtoadihebdaooaaaGreat
