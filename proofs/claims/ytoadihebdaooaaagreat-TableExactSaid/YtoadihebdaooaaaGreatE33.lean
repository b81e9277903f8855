/- Contract of retrofitref16.Good. Printed by mkZD.py. · The reference's table as it is passed; Room, part. · Values of a table's rows; table.Get where there is something. · Parts that are owned; table.Parts. -/
import Derived.Test.YtoadihebdaooaaaGreatE32
import Derived.Test.YtoadihebdaooaaaGreatE28
import Derived.Test.YtoadihebdaooaaaGreatE21
namespace Go.Proofs.YtoadihebdaooaaaGreat
open Go.RowKit
set_option linter.unusedVariables false
def good_list (ver : Int) (a : Option Addr) (len cap ib n vc i : Nat) (id : Int) (r : Int) (f : Bool) : List (Value → World → Prop) :=
  [IsV (.agg #[.int .i64 ver, .slice a len cap]),
   IsV (.slice (some ⟨ib, 0, none⟩) n vc),
   IsV (.int .i64 (i : Int)),
   IsV (.pointer (some ⟨ib, i, none⟩)),
   IsV (.int .i64 id),
   IsV (.int .i64 r),
   IsV (.bool f)]
theorem good_list_lasts (ver : Int) (a : Option Addr) (len cap ib n vc i : Nat) (id : Int) (r : Int) (f : Bool) : ∀ p ∈ good_list ver  a  len cap ib n vc i  id  r  f , Lasts p := by
  simp only [good_list, List.mem_cons, List.not_mem_nil, or_false]
  rintro p hp
  repeat (rcases hp with rfl | hp; exact lasts_v _)
set_option maxRecDepth 100000 in
set_option maxHeartbeats 1000000 in
theorem good16_any (ver set most : Int) (cs : List Cmp) (a : Option Addr) (len cap : Nat) (w : World) (hcs : CompsAt w.heap.size w a len cs) (hwf : CompsWf cs) (h0 : 0 ≤ set) (h1 : set ≤ 4294967295) :
    Calls Tryz.prog 43 #[.agg #[.int .i64 ver, .slice a len cap], .int .u32 set, .int .i64 most] w fun e w' => e = .returned (.bool (tableOk ver cs set most)) ∧ Below w.heap.size w w' := by
  have hS0 := heap_alloc_new w (.cells #[.int .i64 ver, .slice a len cap] 24)
  have hb0 : Below w.heap.size w (w.alloc (.cells #[.int .i64 ver, .slice a len cap] 24)) := by go_grown
  have HCS := Lib.hid hcs
  have HS0 := Lib.hid hS0
  have HB0 := Lib.hid hb0
  obtain ⟨T, hT⟩ : ∃ T, tableOk ver cs set most = T := ⟨_, rfl⟩
  rw [hT]
  have HT : Hid (T = ((schemaCheck ver cs == 0) && is10 set && decide (1 ≤ most) && decide (most ≤ 256) && (ids10 set 24).all fun i => decide (0 ≤ idxF i 0 cs))) := Lib.hid (by
    rw [← hT]
    unfold tableOk
    rw [sIs_same16 h0 h1, ids_same16 h0 h1]
    have e : (fun i => (findC i cs).isSome) = fun i => decide (0 ≤ idxF i 0 cs) := by funext i; exact findC_idx16 i cs
    rw [e])
  clear hcs hS0 hb0 hT
  go_enter Tryz.func43, Tryz.ntmps43
  go_wp2_with fail
  generalize w.alloc (.cells #[.int .i64 ver, .slice a len cap] 24) = W at *
  generalize hsb : w.heap.size = sb at HS0 ⊢
  refine (check07_any ver cs a len cap W ((HCS.out.below HB0.out).mono HB0.out.size) hwf).mono ?_
  rintro e w1 ⟨rfl, hb1⟩
  have HB1 := Lib.hid (HB0.out.trans (hb1.mono HB0.out.size))
  have HS1 := Lib.hid (keep hb1 HS0.out)
  clear hb1
  by_cases hc : schemaCheck ver cs = 0
  · rw [hc]
    go_wp2_with fail
    refine (is10_any set w1 h0 h1).mono ?_
    rintro e w2 ⟨rfl, hb2⟩
    have HB2 := Lib.hid (HB1.out.trans (hb2.mono HB1.out.size))
    have HS2 := Lib.hid (keep hb2 HS1.out)
    clear hb2
    cases hi : is10 set
    · have hT0 : T = false := by rw [HT.out, hi]; simp
      subst hT0
      clear hi hc
      go_wp2_with fail
      go_returns
      exact ⟨rfl, HB2.out⟩
    · by_cases hm : 1 ≤ most ∧ most ≤ 256
      · have d1 : decide (most < 1) = false := by simp; omega
        have d2 : decide (256 < most) = false := by simp; omega
        have HT2 : Hid (T = (ids10 set 24).all fun i => decide (0 ≤ idxF i 0 cs)) := Lib.hid (by rw [HT.out, hi, hc, decide_eq_true hm.1, decide_eq_true hm.2]; simp)
        clear hi hc hm
        go_wp2_with fail
        refine (ids10_any set w2 h0 h1).mono ?_
        rintro e w3 ⟨va, n, vc, rfl, hn, hown, hb3⟩
        have hl24 := ids10_len set 24
        generalize ids10 set 24 = L at *
        have HN := Lib.hid hn
        have HOWN := Lib.hid hown
        have HB3 := Lib.hid (HB2.out.trans (hb3.mono HB2.out.size))
        have HS3 := Lib.hid (keep hb3 HS2.out)
        have hn24 : n ≤ 24 := by omega
        clear hn hown hb3 hl24 d1 d2
        go_wp2_with fail
        go_loopw [8] (fun j wr => ∃ i : Nat, i ≤ n ∧ j = .int .i64 i ∧ ((L.take i).all fun i => decide (0 ≤ idxF i 0 cs)) = true ∧ Below w3.heap.size w3 wr) (fun j _ => n - (intOf j).toNat)
        case atStart => exact ⟨0, Nat.zero_le _, rfl, by simp, Below.refl _ _⟩
        case round =>
          obtain ⟨i, hi, rfl, hal, hbw⟩ := hrel
          have HAL := Lib.hid hal
          have HBW := Lib.hid hbw
          have HB0W := Lib.hid (HB3.out.trans (hbw.mono HB3.out.size))
          clear hal
          by_cases hlt : i < n
          · obtain ⟨id, hid⟩ : ∃ id, L[i]? = some id := ⟨_, List.getElem?_eq_getElem (by have := HN.out; omega)⟩
            obtain ⟨ib, rfl, _, hil, hic⟩ := row_block HOWN.out (by omega)
            have hcell := hic i (.int .i64 id) (by rw [List.getElem?_map, hid]; rfl)
            obtain ⟨r, hr⟩ : ∃ r, idxF id 0 cs = r := ⟨_, rfl⟩
            obtain ⟨f, hf⟩ : ∃ f, decide (r < 0) = f := ⟨_, rfl⟩
            have hzw := hbw.size
            have HCEL : Hid (∀ W', Below wr.heap.size wr W' → W'.cell? ⟨sb, 0, none⟩ = some (.int .i64 ver) ∧ W'.cell? ⟨sb, 1, none⟩ = some (.slice a len cap) ∧ W'.cell? ⟨ib, i, none⟩ = some (.int .i64 id)) := Lib.hid (fun W' hW =>
              ⟨by rw [cell_at (keep hW (keep hbw HS3.out))]; rfl, by rw [cell_at (keep hW (keep hbw HS3.out))]; rfl, (hW.cell (p := ⟨ib, _, none⟩) (show ib < wr.heap.size by omega)).trans ((hbw.cell (p := ⟨ib, _, none⟩) hil).trans hcell)⟩)
            have HFIND : Hid (∀ W', Below wr.heap.size wr W' → Calls Tryz.prog 66 #[.agg #[.int .i64 ver, .slice a len cap], .int .i64 id] W' fun e w' => e = .returned (.int .i64 r) ∧ Below W'.heap.size W' w') := Lib.hid (fun W' hW => by
              rw [← hr]
              have hz0 := HB0W.out.size
              have hz2 := hW.size
              exact find07_any ver id cs a len cap W' ((HCS.out.below (HB0W.out.trans (hW.mono hz0))).mono (by omega)))
            have HDEC := Lib.hid hf
            have HID := Lib.hid (And.intro hid hr)
            have i1 : (0 : Int) ≤ (i : Int) := by omega
            have i2 : (i : Int) < (n : Int) := by omega
            clear hid hcell hic hil hr hf hbw
            go_wp2_with fail
            · skip
              refine wp_region_frame (by kernel_rfl) (by kernel_rfl) (by kernel_rfl) (byList (good_list ver a len cap ib n vc i id r f)) (lasts_list (good_list_lasts ver a len cap ib n vc i id r f)) ?_ ?_
              · intro vs w' iq o A F hb ho hd
                have m3 : A.tmps[3]?.getD undef = (.pointer (some ⟨sb, 0, none⟩)) := F.m (by kernel_rfl) rfl
                have m7 : A.tmps[7]?.getD undef = (.slice (some ⟨ib, 0, none⟩) n vc) := F.m (by kernel_rfl) rfl
                have m8 : A.tmps[8]?.getD undef = (.int .i64 (i : Int)) := F.m (by kernel_rfl) rfl
                have G := F.light (n := 40) (by kernel_rfl)
                clear F
                obtain ⟨z0, z1, z2⟩ := HCEL.out w' hb
                have hfind := HFIND.out w' hb
                have hdec := HDEC.out
                clear hb
                revert ho hd
                match iq with
                | 0 =>
                  intro ho hd
                  obtain rfl := (Option.some.inj ho).symm
                  clear hd ho
                  refine step_open rfl ?_
                  clear G
                  exact step_run (v := (.agg #[.int .i64 ver, .slice a len cap])) (by go_simp) rfl
                | 1 =>
                  intro ho hd
                  obtain rfl := (Option.some.inj ho).symm
                  clear hd ho
                  refine step_open rfl ?_
                  clear G
                  exact step_run (v := (.slice (some ⟨ib, 0, none⟩) n vc)) (by go_simp) rfl
                | 2 =>
                  intro ho hd
                  obtain rfl := (Option.some.inj ho).symm
                  clear hd ho
                  refine step_open rfl ?_
                  clear G
                  exact step_run (v := (.int .i64 (i : Int))) (by go_simp) rfl
                | 3 =>
                  intro ho hd
                  obtain rfl := (Option.some.inj ho).symm
                  have d1 : vs 1 = (.slice (some ⟨ib, 0, none⟩) n vc) := hd ⟨1, .data⟩ (by simp) rfl
                  have d2 : vs 2 = (.int .i64 (i : Int)) := hd ⟨2, .data⟩ (by simp) rfl
                  clear hd ho
                  have h34 := G.h (j := 1) (d := 34) rfl (by decide) d1
                  have h35 := G.h (j := 2) (d := 35) rfl (by decide) d2
                  refine step_open rfl ?_
                  clear G
                  exact step_run (v := (.pointer (some ⟨ib, i, none⟩))) (by go_simp) rfl
                | 4 =>
                  intro ho hd
                  obtain rfl := (Option.some.inj ho).symm
                  have d3 : vs 3 = (.pointer (some ⟨ib, i, none⟩)) := hd ⟨3, .data⟩ (by simp) rfl
                  clear hd ho
                  have h36 := G.h (j := 3) (d := 36) rfl (by decide) d3
                  refine step_open rfl ?_
                  clear G
                  exact step_run (v := (.int .i64 id)) (by go_simp) rfl
                | 5 =>
                  intro ho hd
                  obtain rfl := (Option.some.inj ho).symm
                  have d0 : vs 0 = (.agg #[.int .i64 ver, .slice a len cap]) := hd ⟨0, .data⟩ (by simp) rfl
                  have d4 : vs 4 = (.int .i64 id) := hd ⟨4, .data⟩ (by simp) rfl
                  clear hd ho
                  have h33 := G.h (j := 0) (d := 33) rfl (by decide) d0
                  have h37 := G.h (j := 4) (d := 37) rfl (by decide) d4
                  refine step_open rfl ?_
                  clear G
                  go_simp
                  refine hfind.mono ?_
                  rintro e w2 ⟨rfl, hb2⟩
                  exact ⟨_, rfl, rfl, hb2⟩
                | 6 =>
                  intro ho hd
                  obtain rfl := (Option.some.inj ho).symm
                  have d5 : vs 5 = (.int .i64 r) := hd ⟨5, .data⟩ (by simp) rfl
                  clear hd ho
                  have h38 := G.h (j := 5) (d := 38) rfl (by decide) d5
                  refine step_open rfl ?_
                  clear G
                  exact step_run (v := (.bool f)) (by go_simp) rfl
                | n + 7 =>
                  intro ho hd
                  simp at ho
              intro vs w6 hb hR
              have hvv : vs 6 = .bool f := hR 6 (by simp)
              have HB6 := Lib.hid (HB0W.out.trans (hb.mono HB0W.out.size))
              have HB7 := Lib.hid (HBW.out.trans (hb.mono HBW.out.size))
              simp only [putAll, Act.put, List.setIfInBounds_toArray, List.set_cons_succ, List.set_cons_zero]
              rw [hvv]
              clear hR hb hvv
              cases f
              · have hge : decide (0 ≤ idxF id 0 cs) = true := by
                  have h := HDEC.out
                  rw [HID.out.2]
                  simp at h ⊢
                  exact h
                have HNX := Lib.hid ((all_take_succ HID.out.1 HAL.out).trans hge)
                clear hge
                go_wp2_with fail
                go_roundw
                case rel => exact ⟨i + 1, by omega, by go_num, HNX.out, HB7.out⟩
                case measure => simp only [intOf]; omega
              · have hT0 : T = false := by
                  rw [HT2.out]
                  have h := HDEC.out
                  refine all_take_false HID.out.1 ?_
                  rw [HID.out.2]
                  simp at h ⊢
                  omega
                subst hT0
                go_wp2_with fail
                go_returns
                exact ⟨rfl, HB6.out⟩
          · obtain rfl : i = n := by omega
            have hT1 : T = true := by
              rw [HT2.out]
              have h := HAL.out
              rw [List.take_of_length_le (by rw [HN.out]; exact Nat.le_refl _)] at h
              exact h
            subst hT1
            go_wp2_with fail
            go_returns
            exact ⟨rfl, HB0W.out⟩
      · have hT0 : T = false := by
          rw [HT.out]
          by_cases h5 : 1 ≤ most
          · have : ¬ most ≤ 256 := fun h => hm ⟨h5, h⟩
            simp [this]
          · simp [h5]
        subst hT0
        by_cases h5 : most < 1
        · have d1 : decide (most < 1) = true := by simp; exact h5
          clear hi hc hm
          go_wp2_with fail
          go_returns
          exact ⟨rfl, HB2.out⟩
        · have d1 : decide (most < 1) = false := by simp; omega
          have d2 : decide (256 < most) = true := by simp; omega
          clear hi hc hm
          go_wp2_with fail
          go_returns
          exact ⟨rfl, HB2.out⟩
  · have hT0 : T = false := by rw [HT.out]; simp [hc]
    subst hT0
    have e1 : (schemaCheck ver cs != 0) = true := by rw [bne_iff_ne]; exact hc
    generalize schemaCheck ver cs = q at *
    clear hc
    go_wp2_with fail
    go_returns
    exact ⟨rfl, HB1.out⟩
end Go.Proofs.YtoadihebdaooaaaGreat
namespace Go.Proofs.YtoadihebdaooaaaGreat
open Go.RowKit
set_option linter.unusedVariables false
structure UD where
  ver : Int
  ca : Option Addr
  cl : Nat
  cc : Nat
  ia : Option Addr
  il : Nat
  ic : Nat
  most : Int
  kept : Int
  la : Option Addr
  ln : Nat
  lc : Nat
def UD.v (u : UD) : Value := .agg #[.int .i64 u.ver, .slice u.ca u.cl u.cc, .slice u.ia u.il u.ic, .int .i64 u.most, .int .i64 u.kept, .slice u.la u.ln u.lc]
def UD.cs (u : UD) : Array Value := #[.int .i64 u.ver, .slice u.ca u.cl u.cc, .slice u.ia u.il u.ic, .int .i64 u.most, .int .i64 u.kept, .slice u.la u.ln u.lc]
theorem room16_any (u : UD) (w : World) (h0 : 0 ≤ u.most) (h1 : u.most ≤ 256) (h2 : 0 ≤ u.kept) (h3 : u.kept ≤ 256) (h4 : u.ln ≤ 256) : Calls Tryz.prog 51 #[u.v] w fun e w' => e = .returned (.int .i64 (u.most - u.ln - u.kept)) ∧ Below w.heap.size w w' := by
  obtain ⟨ver, ca, cl, cc, ia, il, ic, most, kept, la, ln, lc⟩ := u
  dsimp only [UD.v] at *
  have hb : Below w.heap.size w (w.alloc (.cells #[.int .i64 ver, .slice ca cl cc, .slice ia il ic, .int .i64 most, .int .i64 kept, .slice la ln lc] 99)) := by go_grown
  have hw1 : IntKind.i64.wrap (most - (ln : Int)) = most - (ln : Int) := IntWalk.i64_in _ (by omega)
  have hw2 : IntKind.i64.wrap (most - (ln : Int) - kept) = most - (ln : Int) - kept := IntWalk.i64_in _ (by omega)
  go_enter Tryz.func51, Tryz.ntmps51
  go_wp2_with fail
  go_returns
  exact ⟨rfl, hb⟩
/-- The place of a component among the ids. -/
def partIx (id : Int) : Nat → List Int → Int
  | _, [] => -1
  | k, x :: r => if x = id then (k : Int) else partIx id (k + 1) r
set_option maxRecDepth 100000 in
theorem part16_any (u : UD) (ids : List Int) (id : Int) (w : World) (hi : w.ownsRow 0 3 1 (.slice u.ia u.il u.ic) u.il (ids.map (.int .i64))) (hl : ids.length = u.il) (hb : u.il ≤ 1000) : Calls Tryz.prog 91 #[u.v, .int .i64 id] w fun e w' => e = .returned (.int .i64 (partIx id 0 ids)) ∧ Below w.heap.size w w' := by
  obtain ⟨ver, ca, cl, cc, ia, il, ic, most, kept, la, ln, lc⟩ := u
  dsimp only [UD.v] at *
  have hU := heap_alloc_new w (.cells #[.int .i64 ver, .slice ca cl cc, .slice ia il ic, .int .i64 most, .int .i64 kept, .slice la ln lc] 99)
  have hb0 : Below w.heap.size w (w.alloc (.cells #[.int .i64 ver, .slice ca cl cc, .slice ia il ic, .int .i64 most, .int .i64 kept, .slice la ln lc] 99)) := by go_grown
  have hrow := ownsRow_below hi hb0
  have HH := Lib.hid (And.intro hU (And.intro hb0 hrow))
  have HL := Lib.hid hl
  clear hi hU hb0 hrow hl
  go_enter Tryz.func91, Tryz.ntmps91
  go_wp2_with fail
  generalize w.alloc (.cells #[.int .i64 ver, .slice ca cl cc, .slice ia il ic, .int .i64 most, .int .i64 kept, .slice la ln lc] 99) = W at *
  have c1 := cell_at HH.out.1 2
  simp at c1
  go_loopw [5] (fun j wr => ∃ i : Nat, i ≤ il ∧ j = .int .i64 i ∧ partIx id 0 ids = partIx id i (ids.drop i) ∧ W = wr) (fun j _ => il - (intOf j).toNat)
  case atStart => exact ⟨0, Nat.zero_le _, rfl, by simp, rfl⟩
  case round =>
    obtain ⟨i, hi, rfl, hgo, rfl⟩ := hrel
    have HGO := Lib.hid hgo
    clear hgo
    by_cases hlt : i < il
    · obtain ⟨x, hx⟩ : ∃ x, ids[i]? = some x := ⟨_, List.getElem?_eq_getElem (by have := HL.out; omega)⟩
      obtain ⟨ib, rfl, _, hil, hic⟩ := row_block HH.out.2.2 (by omega)
      have z0 := hic i (.int .i64 x) (by rw [List.getElem?_map, hx]; rfl)
      have hst := HGO.out
      rw [drop_get hx] at hst
      have HST := Lib.hid (show partIx id 0 ids = if x = id then (i : Int) else partIx id (i + 1) (ids.drop (i + 1)) from hst)
      have i1 : (0 : Int) ≤ (i : Int) := by omega
      have i2 : (i : Int) < (il : Int) := by omega
      clear hx hic hst
      by_cases he : x = id
      · subst he
        have HT := Lib.hid (HST.out.trans (if_pos rfl))
        go_wp2_with fail
        go_returns
        exact ⟨ret_intk HT.out.symm, HH.out.2.1⟩
      · have e1 : (x == id) = false := by rw [beq_eq_false_iff_ne]; exact he
        have HT := Lib.hid (HST.out.trans (if_neg he))
        clear he
        go_wp2_with fail
        go_roundw
        case rel => exact ⟨i + 1, by omega, by go_num, HT.out, by trivial⟩
        case measure => simp only [intOf]; omega
    · obtain rfl : i = il := by omega
      have HT : Hid (partIx id 0 ids = -1) := Lib.hid (by rw [HGO.out, List.drop_eq_nil_of_le (by rw [HL.out]; exact Nat.le_refl _)]; rfl)
      go_wp2_with fail
      go_returns
      exact ⟨ret_intk HT.out.symm, HH.out.2.1⟩
end Go.Proofs.YtoadihebdaooaaaGreat
namespace Go.Proofs.YtoadihebdaooaaaGreat
open Go.RowKit
set_option linter.unusedVariables false
/-- The rows of a table are those of values: for each row a value a column. -/
structure Vals (t : TD) (V : List (List (List WI))) : Prop where
  len : V.length = t.ents.length
  row : ∀ r ∈ V, r.length = t.cps.length
  at_ : ∀ (k i : Nat) (r : List (List WI)) (v : List WI) (x : CV) (d : CD), V[k]? = some r → r[i]? = some v → t.cps[i]? = some x → t.cols[i]? = some d → d.rows[k]? = some (packF x.c.fields v) ∧ fitF x.c.fields v = 0 ∧ ∀ y ∈ v, y.wf
theorem slice_le {w : World} {B : Nat} {e : TypeId} {s : Nat} {a : Option Addr} {n c : Nat} {xs : List Value} (h : w.ownsRow B e s (.slice a n c) n xs) : n ≤ c := by
  rcases h.2 with ⟨he, h0⟩ | ⟨g, cap, cur, he, _, _, h1, _⟩
  · cases he; exact Nat.le_refl _
  · cases he; exact h1
section
variable {B : Nat} {w : World} {t : TD}
set_option maxRecDepth 100000 in
theorem tabGet_ok (h : TabIn B w t) (k i : Nat) (x : CV) (d : CD) (v : List WI) (comp : Int) (hk : k < t.ents.length) (hc : colOf t.cps comp = some x) (hx : t.cps[i]? = some x) (hd : t.cols[i]? = some d) (hl : d.rows[k]? = some (packF x.c.fields v)) (hfit : fitF x.c.fields v = 0) (hwf : ∀ y ∈ v, y.wf) :
    Calls Tryz.prog 41 #[.pointer (some ⟨t.tb, 0, none⟩), .int .i64 (k : Int), .int .i64 comp] w fun e w' => ∃ va vc, e = .returned (.tuple #[.slice va v.length vc, .int .i64 0]) ∧ w'.ownsRow w.heap.size 148 3 (.slice va v.length vc) v.length (v.flatMap intL) ∧ Below w.heap.size w w' := by
  have hv : findVal t (k : Int) comp = .agg #[.int .i64 x.c.id, .string x.c.name, .slice x.fa x.fl x.fc, .pointer (some ⟨x.cb, 0, none⟩)] := by unfold findVal; rw [if_pos ⟨by omega, by omega⟩, hc]
  have he : findErr t (k : Int) comp = 0 := by unfold findErr; rw [if_pos ⟨by omega, by omega⟩, hc]; rfl
  have hf := tabFind_in h (k : Int) comp
  rw [hv, he] at hf
  obtain ⟨k1, _, _, _⟩ := h.col i x d hx hd
  have HF := Lib.hid hf
  have HG := Lib.hid (fun (W : World) (hW : ColAt B W d) => colGet_any B W d k _ hW hl)
  rw [k1] at HG
  have HC := Lib.hid (h.colsA d (List.mem_of_getElem? hd))
  have HFL := Lib.hid (h.fields x (List.mem_of_getElem? hx))
  have HFIT := Lib.hid hfit
  have HWF := Lib.hid hwf
  have HUN := Lib.hid (fun (W : World) (hW : CVF B W x) => unpack_ok x.c.fields x.fa x.fl x.fc v W (fieldsAt_row hW.row hW.len hW.max) (slice_le hW.row) hwf hfit)
  obtain ⟨s, hs⟩ : ∃ s, s = (⟨(packF x.c.fields v).toArray⟩ : ByteArray) := ⟨_, rfl⟩
  rw [← hs] at HG HUN
  clear h hv he hf hk hc hx hd hl k1 hs hfit hwf
  go_enter Tryz.func41, Tryz.ntmps41
  go_wp2_with fail
  refine HF.out.mono ?_
  rintro e w1 ⟨rfl, hb⟩
  have hz := hb.size
  have hb2 := hb.alloc hz (.cells #[.int .i64 x.c.id, .string x.c.name, .slice x.fa x.fl x.fc, .pointer (some ⟨x.cb, 0, none⟩)] 142)
  have HB2 := Lib.hid hb2
  have HC2 := Lib.hid (HC.out.out (F := fun _ => False) (Out.of hb2) (fun _ _ => id))
  have HFL2 := Lib.hid (HFL.out.below hb2)
  have HK2 := Lib.hid (heap_alloc_new w1 (.cells #[.int .i64 x.c.id, .string x.c.name, .slice x.fa x.fl x.fc, .pointer (some ⟨x.cb, 0, none⟩)] 142))
  clear hb hb2 HC HF HFL
  go_wp2_with fail
  refine (HG.out _ HC2.out).mono ?_
  rintro e w2 ⟨rfl, hb3⟩
  have hk3 := keep hb3 HK2.out
  have c2 := cell_at hk3 2
  simp at c2
  have hk3l := lt_some hk3
  have HB3 := Lib.hid (HB2.out.trans (hb3.mono HB2.out.size))
  have HFL3 := Lib.hid (HFL2.out.below hb3)
  clear hb3 hk3 HK2
  go_wp2_with fail
  refine (HUN.out _ HFL3.out).mono ?_
  rintro e w3 ⟨va, vc, rfl, hown, hb4⟩
  have HOWN := Lib.hid (ownsRow_mono hown HB3.out.size)
  have HB4 := Lib.hid (HB3.out.trans (hb4.mono HB3.out.size))
  clear hown hb4
  go_wp2_with fail
  go_ret2
  exact ⟨va, vc, rfl, HOWN.out, HB4.out⟩
end
end Go.Proofs.YtoadihebdaooaaaGreat
namespace Go.Proofs.YtoadihebdaooaaaGreat
open Go.RowKit
set_option linter.unusedVariables false
theorem Tryz.info85 : (Tryz.prog.info? 85).map (fun i => (i.zero, i.size, i.bytes)) = some (some (.agg #[.int .i64 0, .slice none 0 0]), 2, 32) := by kernel_rfl
def partL (p : PW) : List Value := [.int .i64 p.comp, .slice p.va p.vl p.vc]
theorem partL_at : ∀ (l : List PW) (i : Nat) (p : PW), l[i]? = some p → (l.flatMap partL)[i * 2]? = some (.int .i64 p.comp) ∧ (l.flatMap partL)[i * 2 + 1]? = some (.slice p.va p.vl p.vc)
  | [], _, _, h => by simp at h
  | y :: r, 0, x, h => by
    simp at h
    subst h
    exact ⟨rfl, rfl⟩
  | y :: r, i + 1, x, h => by
    obtain ⟨h1, h2⟩ := partL_at r i x (by simpa using h)
    rw [show (i + 1) * 2 = i * 2 + 2 by omega]
    exact ⟨h1, h2⟩
/-- Parts with all their memory, at or above block B. -/
structure PO (B : Nat) (w : World) (a : Option Addr) (n c : Nat) (ps : List PW) : Prop where
  row : w.ownsRow B 85 2 (.slice a n c) n (ps.flatMap partL)
  vals : ∀ p ∈ ps, w.ownsRow B 148 3 (.slice p.va p.vl p.vc) p.vl (p.val.flatMap intL) ∧ p.val.length = p.vl ∧ ∀ y ∈ p.val, y.wf
  len : ps.length = n
/-- Blocks that aren't of parts. -/
def MutP (w : World) (b : Nat) : Prop := ∀ cs t fr, w.heap[b]? = some (.cells cs t fr) → t ≠ 85 ∧ t ≠ 148
theorem rowP {F : Nat → Prop} {w : World} {B s : Nat} {e : TypeId} {v : Value} {n : Nat} {xs : List Value} (h : w.ownsRow B e s v n xs) (he : e = 85 ∨ e = 148) (hM : ∀ b, F b → MutP w b) : ∀ x, v.ownBlock = some x → ¬ F x := by
  intro x hx hF
  obtain ⟨cur, hc⟩ := row_type h hx
  obtain ⟨h1, h2⟩ := hM x hF _ _ _ hc
  rcases he with rfl | rfl <;> contradiction
theorem PO.out {B : Nat} {w w' : World} {F : Nat → Prop} {a : Option Addr} {n c : Nat} {ps : List PW} (h : PO B w a n c ps) (ho : Out F w w') (hM : ∀ b, F b → MutP w b) : PO B w' a n c ps :=
  ⟨ownsRow_out h.row ho (rowP h.row (.inl rfl) hM), fun p hp => ⟨ownsRow_out (h.vals p hp).1 ho (rowP (h.vals p hp).1 (.inr rfl) hM), (h.vals p hp).2⟩, h.len⟩
theorem PO.below {B : Nat} {w w' : World} {a : Option Addr} {n c : Nat} {ps : List PW} (h : PO B w a n c ps) (hb : Below w.heap.size w w') : PO B w' a n c ps := h.out (F := fun _ => False) (Out.of hb) (fun _ => False.elim)
theorem PO.mono {B B' : Nat} {w : World} {a : Option Addr} {n c : Nat} {ps : List PW} (h : PO B w a n c ps) (hb : B' ≤ B) : PO B' w a n c ps := ⟨ownsRow_mono h.row hb, fun p hp => ⟨ownsRow_mono (h.vals p hp).1 hb, (h.vals p hp).2⟩, h.len⟩
theorem own_max {w : World} {B : Nat} {e : TypeId} {s : Nat} {a : Option Addr} {n c : Nat} {xs : List Value} (h : w.ownsRow B e s (.slice a n c) n xs) : n ≤ c ∧ c ≤ maxLen := by
  rcases h.2 with ⟨he, h0⟩ | ⟨g, cap, cur, he, _, _, h1, h2, _⟩
  · cases he; exact ⟨Nat.le_refl _, Nat.zero_le _⟩
  · cases he; exact ⟨h1, h2⟩
theorem PO.at {B : Nat} {w : World} {a : Option Addr} {n c : Nat} {ps : List PW} (h : PO B w a n c ps) : PartsAt w.heap.size w a n c ps := by
  obtain ⟨h1, h2⟩ := own_max h.row
  refine ⟨h.len, h1, h2, fun p hp => own_ints (h.vals p hp).1 (h.vals p hp).2.1 (h.vals p hp).2.2, ?_⟩
  rcases Nat.eq_zero_or_pos n with h0 | h0
  · exact .inl h0
  · obtain ⟨q, hq, _, hql, hqc⟩ := row_block h.row h0
    refine .inr ⟨q, 0, hq, hql, fun i p hp => ?_⟩
    obtain ⟨g0, g1⟩ := partL_at ps i p hp
    rw [Nat.zero_add]
    exact ⟨hqc _ _ g0, hqc _ _ g1⟩
/-- Parts as they are told. -/
def cv (ps : List PW) : List (Int × List WI) := ps.map fun p => (p.comp, p.val)
/-- The parts of a row. -/
def rowCv (t : TD) (r : List (List WI)) : List (Int × List WI) := (t.cps.map (·.c.id)).zip r
def IsParts (cvs : List (Int × List WI)) (w : World) (e : Ending) (w' : World) : Prop := ∃ pa pc ps, e = .returned (.tuple #[.slice pa cvs.length pc, .int .i64 0]) ∧ PO w.heap.size w' pa cvs.length pc ps ∧ cv ps = cvs ∧ Below w.heap.size w w'
theorem find_cv {x : CV} : ∀ {l : List CV}, (l.map (·.c.id)).Nodup → x ∈ l → colOf l x.c.id = some x
  | [], _, h => by simp at h
  | y :: r, hn, h => by
    unfold colOf
    rw [List.find?_cons]
    rw [List.map_cons, List.nodup_cons] at hn
    rcases List.mem_cons.1 h with rfl | h
    · simp
    · have : ¬ y.c.id = x.c.id := fun he => hn.1 (by rw [he]; exact List.mem_map.2 ⟨x, h, rfl⟩)
      rw [decide_eq_false this]
      exact find_cv hn.2 h
theorem colOf_at {t : TD} {i : Nat} {x : CV} (hids : t.cps.map (·.c.id) = idsTo t.set 24) (hx : t.cps[i]? = some x) : colOf t.cps x.c.id = some x :=
  find_cv (by rw [hids]; exact idsTo_nodup _ _) (List.mem_of_getElem? hx)
theorem take_zip {α β : Type} {l : List α} {m : List β} {i : Nat} {x : α} {y : β} (h1 : l[i]? = some x) (h2 : m[i]? = some y) : (l.zip m).take (i + 1) = (l.zip m).take i ++ [(x, y)] :=
  take_snoc (by rw [List.getElem?_zip_eq_some]; exact ⟨h1, h2⟩)
theorem rowCv_len {t : TD} {r : List (List WI)} (h : r.length = t.cps.length) : (rowCv t r).length = t.cps.length := by simp [rowCv, h]
section
variable {B : Nat} {w : World} {t : TD}
set_option maxRecDepth 100000 in
set_option maxHeartbeats 1000000 in
theorem tabParts_ok (h : TabIn B w t) (V : List (List (List WI))) (hV : Vals t V) (k : Nat) (r : List (List WI)) (hk : V[k]? = some r) :
    Calls Tryz.prog 39 #[.pointer (some ⟨t.tb, 0, none⟩), .int .i64 (k : Int)] w (IsParts (rowCv t r) w) := by
  obtain ⟨i0, hi, hz0', hz1, hz2⟩ := info_parts Tryz.info85
  have hkl : k < t.ents.length := by rw [← hV.len]; exact (List.getElem?_eq_some_iff.1 hk).1
  have hrl := hV.row r (List.mem_of_getElem? hk)
  have hc := tabAt_in h (k : Int)
  rw [if_pos ⟨by omega, by omega⟩] at hc
  have HC := Lib.hid hc
  have HT := Lib.hid h
  have HV := Lib.hid hV
  have HK := Lib.hid hk
  have HKL := Lib.hid hkl
  have HRL := Lib.hid hrl
  obtain ⟨_, _, _, _, _, _, c6, _⟩ := h.cells
  have hn24 := h.n24
  have hlen := h.len
  unfold IsParts
  rw [rowCv_len hrl]
  obtain ⟨n, hn⟩ : ∃ n, t.cps.length = n := ⟨_, rfl⟩
  rw [hn] at c6 hn24 hrl hlen ⊢
  have HN := Lib.hid hn
  have HLEN := Lib.hid hlen
  have HRL2 := Lib.hid hrl
  clear h hV hk hkl hrl hc hn hlen
  go_enter Tryz.func39, Tryz.ntmps39
  go_wp2_with fail
  refine HC.out.mono ?_
  rintro e w1 ⟨rfl, rfl⟩
  go_wp2_with fail
  clear c6
  go_loopw [7, 23] (fun v j wr => ∃ m : Nat, m ≤ n ∧ j = .int .i64 (m : Int) ∧ ∃ pa pc ps, v = .slice pa m pc ∧ PO w.heap.size wr pa m pc ps ∧ cv ps = (rowCv t r).take m ∧ Below w.heap.size w wr) (fun _ j _ => n - (intOf j).toNat)
  case atStart => exact ⟨0, by omega, rfl, none, 0, [], rfl, ⟨⟨by simp, .inl ⟨rfl, rfl⟩⟩, by simp, rfl⟩, by simp [cv], Below.refl _ _⟩
  case round =>
    obtain ⟨m, hm, rfl, pa, pc, ps, rfl, hpo, hcv, hbr⟩ := hrel
    by_cases hlt : m < n
    · obtain ⟨x, hx⟩ : ∃ x, t.cps[m]? = some x := ⟨_, List.getElem?_eq_getElem (by have := HN.out; omega)⟩
      obtain ⟨d, hd⟩ : ∃ d, t.cols[m]? = some d := ⟨_, List.getElem?_eq_getElem (by have := HLEN.out; omega)⟩
      obtain ⟨v, hv⟩ : ∃ v, r[m]? = some v := ⟨_, List.getElem?_eq_getElem (by have := HRL2.out; omega)⟩
      obtain ⟨a1, a2, a3⟩ := HV.out.at_ k m r v x d HK.out hv hx hd
      have htr := HT.out.below hbr
      have hcr := htr.colsR
      rw [HN.out] at hcr
      obtain ⟨q, hq, _, hql, hqc⟩ := row_block hcr (by omega)
      obtain ⟨g0, g1, g2, g3⟩ := colL_at t.cps hx
      have z0 := hqc _ _ g0
      have z1 := hqc _ _ g1
      have z2 := hqc _ _ g2
      have z3 := hqc _ _ g3
      rw [hq]
      have i1 : (0 : Int) ≤ (m : Int) := by omega
      have i2 : (m : Int) < (n : Int) := by omega
      have htA := htr.below ((Below.refl _ wr).alloc (Nat.le_refl _) (.cells #[.int .i64 x.c.id, .string x.c.name, .slice x.fa x.fl x.fc, .pointer (some ⟨x.cb, 0, none⟩)] 142))
      have HG := Lib.hid (tabGet_ok htA k m x d v x.c.id HKL.out (colOf_at htr.ids hx) hx hd a1 a2 a3)
      have HPO := Lib.hid (hpo.below ((Below.refl _ wr).alloc (Nat.le_refl _) (.cells #[.int .i64 x.c.id, .string x.c.name, .slice x.fa x.fl x.fc, .pointer (some ⟨x.cb, 0, none⟩)] 142)))
      have HBR := Lib.hid (hbr.alloc hbr.size (.cells #[.int .i64 x.c.id, .string x.c.name, .slice x.fa x.fl x.fc, .pointer (some ⟨x.cb, 0, none⟩)] 142))
      have HH := Lib.hid (heap_alloc_new wr (.cells #[.int .i64 x.c.id, .string x.c.name, .slice x.fa x.fl x.fc, .pointer (some ⟨x.cb, 0, none⟩)] 142))
      have HTZ := Lib.hid (take_zip (l := t.cps.map (·.c.id)) (by rw [List.getElem?_map, hx]; rfl) hv)
      have HCV := Lib.hid hcv
      have HWF := Lib.hid a3
      clear hx hd hv a1 a2 a3 htr hcr hqc g0 g1 g2 g3 htA hpo hcv hbr hq
      go_wp2_with fail
      refine HG.out.mono ?_
      rintro e w3 ⟨va, vc, rfl, hown, hb3⟩
      have hh3 := keep hb3 HH.out
      have c0 := cell_at hh3 0
      simp at c0
      have hh3l := lt_some hh3
      have hpo3 := HPO.out.below hb3
      have hb0 := HBR.out.trans (hb3.mono HBR.out.size)
      have hz0 := hb0.size
      have HOWN := Lib.hid ((ownsRow_mono hown HBR.out.size).alloc (.cells #[.int .i64 x.c.id, .slice va v.length vc] 85))
      have HPO3 := Lib.hid (hpo3.below ((Below.refl _ w3).alloc (Nat.le_refl _) (.cells #[.int .i64 x.c.id, .slice va v.length vc] 85)))
      have HB3 := Lib.hid (hb0.alloc hz0 (.cells #[.int .i64 x.c.id, .slice va v.length vc] 85))
      have HN1 := Lib.hid (And.intro (World.news_of_block (heap_alloc_new w3 (.cells #[.int .i64 x.c.id, .slice va v.length vc] 85))) (show ∀ u ∈ (#[.int .i64 x.c.id, .slice va v.length vc] : Array Value).toList, u.oneCell' = true from List.all_eq_true.1 rfl))
      clear hown hb3 hh3 hpo3 hb0 z0 z1 z2 z3 HG HH HPO HBR
      go_wp2_with (at_builtin; go_loud (refine wpList_append_own _ rfl (.tmp 36) (.tmp 42) 70 rfl w.heap.size 85 i0 (.agg #[.int .i64 0, .slice none 0 0]) 2 32 Tryz.underlying70 hi hz0' hz1 hz2 rfl (by decide) (.slice pa m pc) m (ps.flatMap partL) rfl HPO3.out.row ⟨w3.heap.size, 0, none⟩ 1 1 (#[.int .i64 x.c.id, .slice va v.length vc] : Array Value).toList rfl rfl HN1.out.1 HN1.out.2 (by unfold maxLen; omega) (by omega) (by simp; omega) ?_))
      intro v' w4 hown4 hg4 _
      obtain ⟨vb', vd', hv'⟩ := ownsRow_slice hown4
      rw [hv'] at hown4 ⊢
      clear hv'
      have hpo4 : PO w.heap.size w4 vb' (m + 1) vd' (ps ++ [⟨x.c.id, va, v.length, vc, v⟩]) := by
        refine ⟨by rw [List.flatMap_append]; exact hown4, fun p hp => ?_, by rw [List.length_append, HPO3.out.len]; rfl⟩
        rcases List.mem_append.1 hp with hp | hp
        · exact ⟨(HPO3.out.vals p hp).1.kept hg4 (ownsRow_ne (HPO3.out.vals p hp).1 HPO3.out.row (by decide)), (HPO3.out.vals p hp).2⟩
        · obtain rfl : p = _ := List.mem_singleton.1 hp
          exact ⟨HOWN.out.kept hg4 (ownsRow_ne HOWN.out HPO3.out.row (by decide)), rfl, HWF.out⟩
      have HPO4 := Lib.hid hpo4
      have HB4 := Lib.hid (HB3.out.trans (below_own HPO3.out.row hg4 (by simp; omega)))
      clear hown4 hg4 hpo4 HOWN HPO3 c0
      go_wp2_with fail
      go_roundw
      case rel => exact ⟨m + 1, by omega, by go_num, vb', vd', _, rfl, HPO4.out, by unfold cv at *; rw [List.map_append, HCV.out]; exact HTZ.out.symm, HB4.out⟩
      case measure => simp [intOf]; omega
    · obtain rfl : m = n := by omega
      have HPO := Lib.hid hpo
      have HB := Lib.hid hbr
      have HCV := Lib.hid hcv
      clear hpo hbr hcv
      go_wp2_with fail
      go_ret2
      exact ⟨pa, pc, ps, rfl, HPO.out, by rw [HCV.out, List.take_of_length_le (by rw [rowCv_len (by rw [HRL2.out, HN.out]), HN.out]; exact Nat.le_refl _)], HB.out⟩
end
end Go.Proofs.YtoadihebdaooaaaGreat
