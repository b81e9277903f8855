/- The law's rows: a table has the document's rows. Printed by mkZP.py. -/
import Derived.Test.YtoadihebdaooaaaGreatE38
import Derived.Test.YtoadihebdaooaaaGreatE41
import Derived.Test.YtoadihebdaooaaaGreatE34
namespace Go.Proofs.YtoadihebdaooaaaGreat
open Go.RowKit
set_option linter.unusedVariables false
/-- The document's rows are those of the table. -/
structure MatchR (t : TD) (V : List (List (List WI))) (u : UD) (rs : List URow) : Prop where
  len : rs.length = t.ents.length
  ln : u.ln = t.ents.length
  ent : ∀ (i : Nat) (r : URow), rs[i]? = some r → t.ents[i]? = some r.e
  val : ∀ (i : Nat) (r : URow) (v : List (List WI)), rs[i]? = some r → V[i]? = some v → cv r.ps = rowCv t v
  kept : u.kept = (t.kept : Int)
  most : u.most = (t.most : Int)
def rows_list2 (va : Option Addr) (L vc ub : Nat) (la : Option Addr) (lc KP FR TB : Nat) (ver : Int) (ca : Option Addr) (cl cc : Nat) (ia : Option Addr) (il ic : Nat) (most : Int) : List (Value → World → Prop) :=
  [IsV (.slice va L vc),
   IsV (.int .i64 (L : Int)),
   IsV (.pointer (some ⟨ub, 5, none⟩)),
   IsV (.slice la L lc),
   IsV (.int .i64 (L : Int)),
   IsV (.bool false),
   IsV (.bool false),
   IsV (.pointer (some ⟨TB, 0, none⟩)),
   IsV (.int .i64 (L : Int)),
   IsV (.pointer (some ⟨ub, 5, none⟩)),
   IsV (.slice la L lc),
   IsV (.int .i64 (L : Int)),
   IsV (.bool false),
   IsV (.bool false),
   IsV (.bool false),
   IsV (.pointer (some ⟨TB, 0, none⟩)),
   IsV (.int .i64 (KP : Int)),
   IsV (.pointer (some ⟨ub, 4, none⟩)),
   IsV (.int .i64 (KP : Int)),
   IsV (.bool false),
   IsV (.bool false),
   IsV (.bool false),
   IsV (.pointer (some ⟨TB, 0, none⟩)),
   IsV (.int .i64 (FR : Int)),
   IsV (.agg #[.int .i64 ver, .slice ca cl cc, .slice ia il ic, .int .i64 most, .int .i64 (KP : Int), .slice la L lc]),
   IsV (.int .i64 (FR : Int)),
   IsV (.bool false),
   IsV (.bool false)]
theorem rows_list2_lasts (va : Option Addr) (L vc ub : Nat) (la : Option Addr) (lc KP FR TB : Nat) (ver : Int) (ca : Option Addr) (cl cc : Nat) (ia : Option Addr) (il ic : Nat) (most : Int) : ∀ p ∈ rows_list2 va  L vc ub  la  lc KP FR TB  ver  ca  cl cc  ia  il ic  most , Lasts p := by
  simp only [rows_list2, List.mem_cons, List.not_mem_nil, or_false]
  rintro p hp
  repeat (rcases hp with rfl | hp; exact lasts_v _)
def rows_list8 (lb L vc i : Nat) (re : Int) (ub q lc TB : Nat) (pa : Option Addr) (n pc : Nat) (rpa : Option Addr) (rpc : Nat) : List (Value → World → Prop) :=
  [IsV (.slice (some ⟨lb, 0, none⟩) L vc),
   IsV (.int .i64 (i : Int)),
   IsV (.pointer (some ⟨lb, i, none⟩)),
   IsV (.int .u64 re),
   IsV (.pointer (some ⟨ub, 5, none⟩)),
   IsV (.slice (some ⟨q, 0, none⟩) L lc),
   IsV (.int .i64 (i : Int)),
   IsV (.pointer (some ⟨q, i * 2, none⟩)),
   IsV (.pointer (some ⟨q, i * 2, none⟩)),
   IsV (.int .u64 re),
   IsV (.bool false),
   IsV (.bool false),
   IsV (.pointer (some ⟨TB, 0, none⟩)),
   IsV (.int .i64 (i : Int)),
   IsV (.int .u64 re),
   IsV (.slice (some ⟨lb, 0, none⟩) L vc),
   IsV (.int .i64 (i : Int)),
   IsV (.pointer (some ⟨lb, i, none⟩)),
   IsV (.int .u64 re),
   IsV (.bool false),
   IsV (.bool false),
   IsV (.bool false),
   IsV (.int .i64 0),
   IsV (.bool false),
   IsV (.bool false),
   IsV (.bool false),
   IsV (.slice pa n pc),
   IsV (.int .i64 (n : Int)),
   IsV (.pointer (some ⟨ub, 5, none⟩)),
   IsV (.slice (some ⟨q, 0, none⟩) L lc),
   IsV (.int .i64 (i : Int)),
   IsV (.pointer (some ⟨q, i * 2, none⟩)),
   IsV (.pointer (some ⟨q, i * 2 + 1, none⟩)),
   IsV (.slice rpa n rpc),
   IsV (.int .i64 (n : Int)),
   IsV (.bool false),
   IsV (.bool false)]
theorem rows_list8_lasts (lb L vc i : Nat) (re : Int) (ub q lc TB : Nat) (pa : Option Addr) (n pc : Nat) (rpa : Option Addr) (rpc : Nat) : ∀ p ∈ rows_list8 lb L vc i  re  ub q lc TB  pa  n pc  rpa  rpc , Lasts p := by
  simp only [rows_list8, List.mem_cons, List.not_mem_nil, or_false]
  rintro p hp
  repeat (rcases hp with rfl | hp; exact lasts_v _)
def rows_list13 (pb po n pc k : Nat) (pcomp : Int) (ub q L lc i yb yo rpc : Nat) (xa : Option Addr) (xl xc : Nat) (za : Option Addr) (zl zc : Nat) : List (Value → World → Prop) :=
  [IsV (.slice (some ⟨pb, po, none⟩) n pc),
   IsV (.int .i64 (k : Int)),
   IsV (.pointer (some ⟨pb, po + k * 2, none⟩)),
   IsV (.pointer (some ⟨pb, po + k * 2, none⟩)),
   IsV (.int .i64 pcomp),
   IsV (.pointer (some ⟨ub, 5, none⟩)),
   IsV (.slice (some ⟨q, 0, none⟩) L lc),
   IsV (.int .i64 (i : Int)),
   IsV (.pointer (some ⟨q, i * 2, none⟩)),
   IsV (.pointer (some ⟨q, i * 2 + 1, none⟩)),
   IsV (.slice (some ⟨yb, yo, none⟩) n rpc),
   IsV (.int .i64 (k : Int)),
   IsV (.pointer (some ⟨yb, yo + k * 2, none⟩)),
   IsV (.pointer (some ⟨yb, yo + k * 2, none⟩)),
   IsV (.int .i64 pcomp),
   IsV (.bool false),
   IsV (.bool false),
   IsV (.slice (some ⟨pb, po, none⟩) n pc),
   IsV (.int .i64 (k : Int)),
   IsV (.pointer (some ⟨pb, po + k * 2, none⟩)),
   IsV (.pointer (some ⟨pb, po + k * 2 + 1, none⟩)),
   IsV (.slice xa xl xc),
   IsV (.pointer (some ⟨ub, 5, none⟩)),
   IsV (.slice (some ⟨q, 0, none⟩) L lc),
   IsV (.int .i64 (i : Int)),
   IsV (.pointer (some ⟨q, i * 2, none⟩)),
   IsV (.pointer (some ⟨q, i * 2 + 1, none⟩)),
   IsV (.slice (some ⟨yb, yo, none⟩) n rpc),
   IsV (.int .i64 (k : Int)),
   IsV (.pointer (some ⟨yb, yo + k * 2, none⟩)),
   IsV (.pointer (some ⟨yb, yo + k * 2 + 1, none⟩)),
   IsV (.slice za zl zc),
   IsV (.bool true),
   IsV (.bool false),
   IsV (.bool false)]
theorem rows_list13_lasts (pb po n pc k : Nat) (pcomp : Int) (ub q L lc i yb yo rpc : Nat) (xa : Option Addr) (xl xc : Nat) (za : Option Addr) (zl zc : Nat) : ∀ p ∈ rows_list13 pb po n pc k  pcomp  ub q L lc i yb yo rpc  xa  xl xc  za  zl zc , Lasts p := by
  simp only [rows_list13, List.mem_cons, List.not_mem_nil, or_false]
  rintro p hp
  repeat (rcases hp with rfl | hp; exact lasts_v _)
set_option maxRecDepth 100000 in
set_option maxHeartbeats 4000000 in
theorem rows16_true (B : Nat) (w : World) (t : TD) (V : List (List (List WI))) (u : UD) (rs : List URow) (h : TabIn B w t) (hV : Vals t V) (hR : RU 0 w u.la u.ln u.lc rs) (hM : MatchR t V u rs) :
    Calls Tryz.prog 54 #[.pointer (some ⟨t.tb, 0, none⟩), u.v] w fun e w' => e = .returned (.bool true) ∧ Below w.heap.size w w' := by
  have hroom := h.room
  have hmost := h.most2
  have hr16 := fun (W : World) => room16_any u W (by rw [hM.most]; omega) (by rw [hM.most]; omega) (by rw [hM.kept]; omega) (by rw [hM.kept]; omega) (by rw [hM.ln]; omega)
  have hfree : u.most - (u.ln : Int) - u.kept = (t.free : Int) := by rw [hM.most, hM.kept, hM.ln]; unfold TD.free; omega
  rw [hfree] at hr16
  have hb0 : Below w.heap.size w (w.alloc (.cells u.cs 99)) := by go_grown
  have hU := heap_alloc_new w (.cells u.cs 99)
  have HM := Lib.hid hM
  have HT := Lib.hid (h.below hb0)
  have HV := Lib.hid hV
  have HRR := Lib.hid (hR.below hb0)
  have hk := hM.kept
  have hln := hM.ln
  obtain ⟨ver, ca, cl, cc, ia, il, ic, most, kept, la, ln, lc⟩ := u
  dsimp only [UD.v, UD.cs] at *
  subst hk
  subst hln
  have HR16 := Lib.hid hr16
  have HB := Lib.hid hb0
  have HU := Lib.hid hU
  clear h hV hR hM hr16 hfree hb0 hU hroom
  go_enter Tryz.func54, Tryz.ntmps54
  go_upto_region 1 with (fail)
  generalize World.alloc w _ = W at *
  have hen := tabEnts_in HT.out
  obtain ⟨L, hL⟩ : ∃ L, t.ents.length = L := ⟨_, rfl⟩
  obtain ⟨KP, hKP⟩ : ∃ K, t.kept = K := ⟨_, rfl⟩
  obtain ⟨FR, hFR⟩ : ∃ F, t.free = F := ⟨_, rfl⟩
  obtain ⟨TB, hTB⟩ : ∃ b, t.tb = b := ⟨_, rfl⟩
  have hL256 : L ≤ 256 := by have := HT.out.room; have := HT.out.most2; omega
  rw [hTB] at hen ⊢
  rw [hL, hKP]
  rw [hFR, hL, hKP] at HR16
  rw [hL] at HRR HU
  rw [hKP] at HU
  have HLE := Lib.hid (And.intro hL (And.intro hKP (And.intro hFR hTB)))
  clear hL hKP hFR hTB
  go_wp2_with fail
  refine hen.mono ?_
  rintro e w1 ⟨va, vc, rfl, hown, hb1⟩
  rw [HLE.out.1] at hown ⊢
  have HT1 := Lib.hid (HT.out.below hb1)
  have HR1 := Lib.hid (HRR.out.below hb1)
  have HU1 := Lib.hid (keep hb1 HU.out)
  have HB1 := Lib.hid (HB.out.trans (hb1.mono HB.out.size))
  have HOWN := Lib.hid hown
  clear hen hown hb1 HT HRR HU HB
  obtain ⟨ub, hub⟩ : ∃ ub, w.heap.size = ub := ⟨_, rfl⟩
  rw [hub] at HU1
  have HCEL : Hid (∀ W', Below w1.heap.size w1 W' → (W'.cell? ⟨ub, 0, none⟩ = some (.int .i64 ver) ∧ W'.cell? ⟨ub, 1, none⟩ = some (.slice ca cl cc) ∧ W'.cell? ⟨ub, 2, none⟩ = some (.slice ia il ic) ∧ W'.cell? ⟨ub, 3, none⟩ = some (.int .i64 most) ∧ W'.cell? ⟨ub, 4, none⟩ = some (.int .i64 (KP : Int)) ∧ W'.cell? ⟨ub, 5, none⟩ = some (.slice la L lc)) ∧
      Calls Tryz.prog 28 #[.pointer (some ⟨TB, 0, none⟩)] W' (fun e w' => e = .returned (.int .i64 (L : Int)) ∧ W' = w') ∧ Calls Tryz.prog 37 #[.pointer (some ⟨TB, 0, none⟩)] W' (fun e w' => e = .returned (.int .i64 (KP : Int)) ∧ W' = w') ∧
      Calls Tryz.prog 29 #[.pointer (some ⟨TB, 0, none⟩)] W' (fun e w' => e = .returned (.int .i64 (FR : Int)) ∧ ∃ n, w' = W'.drewN n)) := Lib.hid (fun W' hW => by
    have hk := keep hW HU1.out
    have ht := HT1.out.below hW
    obtain ⟨q1, q2, q3, q4⟩ := HLE.out
    rw [← q1, ← q2, ← q3, ← q4]
    refine ⟨⟨by rw [cell_at hk]; rfl, by rw [cell_at hk]; rfl, by rw [cell_at hk]; rfl, by rw [cell_at hk]; rfl, by rw [cell_at hk, ← q2]; rfl, by rw [cell_at hk, ← q1]; rfl⟩, tabLen_in ht, tabKept_in ht, tabRoom_in ht⟩)
  go_upto_region 2 with (fail)
  clear hub
  refine wp_region_frame (by kernel_rfl) (by kernel_rfl) (by kernel_rfl) (byList (rows_list2 va L vc ub la lc KP FR TB ver ca cl cc ia il ic most)) (lasts_list (rows_list2_lasts va L vc ub la lc KP FR TB ver ca cl cc ia il ic most)) ?_ ?_
  · intro vs w' iq o A F hb ho hd
    have m5 : A.tmps[5]?.getD undef = (.slice va L vc) := F.m (by kernel_rfl) rfl
    have m0 : A.tmps[0]?.getD undef = (.pointer (some ⟨TB, 0, none⟩)) := F.m (by kernel_rfl) rfl
    have m3 : A.tmps[3]?.getD undef = (.pointer (some ⟨ub, 0, none⟩)) := F.m (by kernel_rfl) rfl
    have G := F.light (n := 130) (by kernel_rfl)
    clear F
    obtain ⟨⟨c0, c1, c2, c3, c4, c5⟩, hl1, hl2, hl3⟩ := HCEL.out w' hb
    have hl4 := HR16.out
    revert ho hd
    match iq with
    | 0 =>
      intro ho hd
      obtain rfl := (Option.some.inj ho).symm
      clear hd ho
      refine step_open rfl ?_
      clear G
      exact step_run (v := (.slice va L vc)) (by go_simp) rfl
    | 1 =>
      intro ho hd
      obtain rfl := (Option.some.inj ho).symm
      have d0 : vs 0 = (.slice va L vc) := hd ⟨0, .data⟩ (by simp) rfl
      clear hd ho
      have h12 := G.h (j := 0) (d := 12) rfl (by decide) d0
      refine step_open rfl ?_
      clear G
      exact step_run (v := (.int .i64 (L : Int))) (by go_simp) rfl
    | 2 =>
      intro ho hd
      obtain rfl := (Option.some.inj ho).symm
      clear hd ho
      refine step_open rfl ?_
      clear G
      exact step_run (v := (.pointer (some ⟨ub, 5, none⟩))) (by go_simp) rfl
    | 3 =>
      intro ho hd
      obtain rfl := (Option.some.inj ho).symm
      have d2 : vs 2 = (.pointer (some ⟨ub, 5, none⟩)) := hd ⟨2, .data⟩ (by simp) rfl
      clear hd ho
      have h14 := G.h (j := 2) (d := 14) rfl (by decide) d2
      refine step_open rfl ?_
      clear G
      exact step_run (v := (.slice la L lc)) (by go_simp) rfl
    | 4 =>
      intro ho hd
      obtain rfl := (Option.some.inj ho).symm
      have d3 : vs 3 = (.slice la L lc) := hd ⟨3, .data⟩ (by simp) rfl
      clear hd ho
      have h15 := G.h (j := 3) (d := 15) rfl (by decide) d3
      refine step_open rfl ?_
      clear G
      exact step_run (v := (.int .i64 (L : Int))) (by go_simp) rfl
    | 5 =>
      intro ho hd
      obtain rfl := (Option.some.inj ho).symm
      have d1 : vs 1 = (.int .i64 (L : Int)) := hd ⟨1, .data⟩ (by simp) rfl
      have d4 : vs 4 = (.int .i64 (L : Int)) := hd ⟨4, .data⟩ (by simp) rfl
      clear hd ho
      have h13 := G.h (j := 1) (d := 13) rfl (by decide) d1
      have h16 := G.h (j := 4) (d := 16) rfl (by decide) d4
      refine step_open rfl ?_
      clear G
      exact step_run (v := (.bool false)) (by go_simp) rfl
    | 6 =>
      intro ho hd
      obtain rfl := (Option.some.inj ho).symm
      have d5 : vs 5 = (.bool false) := hd ⟨5, .data⟩ (by simp) rfl
      clear hd ho
      have h17 := G.h (j := 5) (d := 17) rfl (by decide) d5
      refine step_open rfl ?_
      clear G
      exact step_run (v := (.bool false)) (by go_simp) rfl
    | 7 =>
      intro ho hd
      obtain rfl := (Option.some.inj ho).symm
      have d6 : vs 6 = (.bool false) := hd ⟨6, .guard⟩ (by simp) rfl
      clear hd ho
      refine step_yes G rfl rfl (by decide) d6 ?_
      clear G
      exact step_run (v := (.pointer (some ⟨TB, 0, none⟩))) (by go_simp) rfl
    | 8 =>
      intro ho hd
      obtain rfl := (Option.some.inj ho).symm
      have d7 : vs 7 = (.pointer (some ⟨TB, 0, none⟩)) := hd ⟨7, .data⟩ (by simp) rfl
      have d6 : vs 6 = (.bool false) := hd ⟨6, .guard⟩ (by simp) rfl
      clear hd ho
      have h19 := G.h (j := 7) (d := 19) rfl (by decide) d7
      refine step_yes G rfl rfl (by decide) d6 ?_
      clear G
      go_simp
      refine hl1.mono ?_
      rintro e w9 ⟨rfl, rfl⟩
      exact ⟨_, rfl, rfl, Below.refl _ _⟩
    | 9 =>
      intro ho hd
      obtain rfl := (Option.some.inj ho).symm
      have d6 : vs 6 = (.bool false) := hd ⟨6, .guard⟩ (by simp) rfl
      clear hd ho
      refine step_yes G rfl rfl (by decide) d6 ?_
      clear G
      exact step_run (v := (.pointer (some ⟨ub, 5, none⟩))) (by go_simp) rfl
    | 10 =>
      intro ho hd
      obtain rfl := (Option.some.inj ho).symm
      have d9 : vs 9 = (.pointer (some ⟨ub, 5, none⟩)) := hd ⟨9, .data⟩ (by simp) rfl
      have d6 : vs 6 = (.bool false) := hd ⟨6, .guard⟩ (by simp) rfl
      clear hd ho
      have h21 := G.h (j := 9) (d := 21) rfl (by decide) d9
      refine step_yes G rfl rfl (by decide) d6 ?_
      clear G
      exact step_run (v := (.slice la L lc)) (by go_simp) rfl
    | 11 =>
      intro ho hd
      obtain rfl := (Option.some.inj ho).symm
      have d10 : vs 10 = (.slice la L lc) := hd ⟨10, .data⟩ (by simp) rfl
      have d6 : vs 6 = (.bool false) := hd ⟨6, .guard⟩ (by simp) rfl
      clear hd ho
      have h22 := G.h (j := 10) (d := 22) rfl (by decide) d10
      refine step_yes G rfl rfl (by decide) d6 ?_
      clear G
      exact step_run (v := (.int .i64 (L : Int))) (by go_simp) rfl
    | 12 =>
      intro ho hd
      obtain rfl := (Option.some.inj ho).symm
      have d8 : vs 8 = (.int .i64 (L : Int)) := hd ⟨8, .data⟩ (by simp) rfl
      have d11 : vs 11 = (.int .i64 (L : Int)) := hd ⟨11, .data⟩ (by simp) rfl
      have d6 : vs 6 = (.bool false) := hd ⟨6, .guard⟩ (by simp) rfl
      clear hd ho
      have h20 := G.h (j := 8) (d := 20) rfl (by decide) d8
      have h23 := G.h (j := 11) (d := 23) rfl (by decide) d11
      refine step_yes G rfl rfl (by decide) d6 ?_
      clear G
      exact step_run (v := (.bool false)) (by go_simp) rfl
    | 13 =>
      intro ho hd
      obtain rfl := (Option.some.inj ho).symm
      have d6 : vs 6 = (.bool false) := hd ⟨6, .data⟩ (by simp) rfl
      have d12 : vs 12 = (.bool false) := hd ⟨12, .data⟩ (by simp) rfl
      clear hd ho
      have h18 := G.h (j := 6) (d := 18) rfl (by decide) d6
      have h24 := G.h (j := 12) (d := 24) rfl (by decide) d12
      refine step_open rfl ?_
      clear G
      exact step_run (v := (.bool false)) (by go_simp) rfl
    | 14 =>
      intro ho hd
      obtain rfl := (Option.some.inj ho).symm
      have d13 : vs 13 = (.bool false) := hd ⟨13, .data⟩ (by simp) rfl
      clear hd ho
      have h25 := G.h (j := 13) (d := 25) rfl (by decide) d13
      refine step_open rfl ?_
      clear G
      exact step_run (v := (.bool false)) (by go_simp) rfl
    | 15 =>
      intro ho hd
      obtain rfl := (Option.some.inj ho).symm
      have d14 : vs 14 = (.bool false) := hd ⟨14, .guard⟩ (by simp) rfl
      clear hd ho
      refine step_yes G rfl rfl (by decide) d14 ?_
      clear G
      exact step_run (v := (.pointer (some ⟨TB, 0, none⟩))) (by go_simp) rfl
    | 16 =>
      intro ho hd
      obtain rfl := (Option.some.inj ho).symm
      have d15 : vs 15 = (.pointer (some ⟨TB, 0, none⟩)) := hd ⟨15, .data⟩ (by simp) rfl
      have d14 : vs 14 = (.bool false) := hd ⟨14, .guard⟩ (by simp) rfl
      clear hd ho
      have h27 := G.h (j := 15) (d := 27) rfl (by decide) d15
      refine step_yes G rfl rfl (by decide) d14 ?_
      clear G
      go_simp
      refine hl2.mono ?_
      rintro e w9 ⟨rfl, rfl⟩
      exact ⟨_, rfl, rfl, Below.refl _ _⟩
    | 17 =>
      intro ho hd
      obtain rfl := (Option.some.inj ho).symm
      have d14 : vs 14 = (.bool false) := hd ⟨14, .guard⟩ (by simp) rfl
      clear hd ho
      refine step_yes G rfl rfl (by decide) d14 ?_
      clear G
      exact step_run (v := (.pointer (some ⟨ub, 4, none⟩))) (by go_simp) rfl
    | 18 =>
      intro ho hd
      obtain rfl := (Option.some.inj ho).symm
      have d17 : vs 17 = (.pointer (some ⟨ub, 4, none⟩)) := hd ⟨17, .data⟩ (by simp) rfl
      have d14 : vs 14 = (.bool false) := hd ⟨14, .guard⟩ (by simp) rfl
      clear hd ho
      have h29 := G.h (j := 17) (d := 29) rfl (by decide) d17
      refine step_yes G rfl rfl (by decide) d14 ?_
      clear G
      exact step_run (v := (.int .i64 (KP : Int))) (by go_simp) rfl
    | 19 =>
      intro ho hd
      obtain rfl := (Option.some.inj ho).symm
      have d16 : vs 16 = (.int .i64 (KP : Int)) := hd ⟨16, .data⟩ (by simp) rfl
      have d18 : vs 18 = (.int .i64 (KP : Int)) := hd ⟨18, .data⟩ (by simp) rfl
      have d14 : vs 14 = (.bool false) := hd ⟨14, .guard⟩ (by simp) rfl
      clear hd ho
      have h28 := G.h (j := 16) (d := 28) rfl (by decide) d16
      have h30 := G.h (j := 18) (d := 30) rfl (by decide) d18
      refine step_yes G rfl rfl (by decide) d14 ?_
      clear G
      exact step_run (v := (.bool false)) (by go_simp) rfl
    | 20 =>
      intro ho hd
      obtain rfl := (Option.some.inj ho).symm
      have d14 : vs 14 = (.bool false) := hd ⟨14, .data⟩ (by simp) rfl
      have d19 : vs 19 = (.bool false) := hd ⟨19, .data⟩ (by simp) rfl
      clear hd ho
      have h26 := G.h (j := 14) (d := 26) rfl (by decide) d14
      have h31 := G.h (j := 19) (d := 31) rfl (by decide) d19
      refine step_open rfl ?_
      clear G
      exact step_run (v := (.bool false)) (by go_simp) rfl
    | 21 =>
      intro ho hd
      obtain rfl := (Option.some.inj ho).symm
      have d20 : vs 20 = (.bool false) := hd ⟨20, .data⟩ (by simp) rfl
      clear hd ho
      have h32 := G.h (j := 20) (d := 32) rfl (by decide) d20
      refine step_open rfl ?_
      clear G
      exact step_run (v := (.bool false)) (by go_simp) rfl
    | 22 =>
      intro ho hd
      obtain rfl := (Option.some.inj ho).symm
      have d21 : vs 21 = (.bool false) := hd ⟨21, .guard⟩ (by simp) rfl
      clear hd ho
      refine step_yes G rfl rfl (by decide) d21 ?_
      clear G
      exact step_run (v := (.pointer (some ⟨TB, 0, none⟩))) (by go_simp) rfl
    | 23 =>
      intro ho hd
      obtain rfl := (Option.some.inj ho).symm
      have d22 : vs 22 = (.pointer (some ⟨TB, 0, none⟩)) := hd ⟨22, .data⟩ (by simp) rfl
      have d21 : vs 21 = (.bool false) := hd ⟨21, .guard⟩ (by simp) rfl
      clear hd ho
      have h34 := G.h (j := 22) (d := 34) rfl (by decide) d22
      refine step_yes G rfl rfl (by decide) d21 ?_
      clear G
      go_simp
      refine hl3.mono ?_
      rintro e w9 ⟨rfl, m9, rfl⟩
      exact ⟨_, rfl, rfl, below_drewN (Below.refl _ _) _⟩
    | 24 =>
      intro ho hd
      obtain rfl := (Option.some.inj ho).symm
      have d21 : vs 21 = (.bool false) := hd ⟨21, .guard⟩ (by simp) rfl
      clear hd ho
      refine step_yes G rfl rfl (by decide) d21 ?_
      clear G
      exact step_run (v := (.agg #[.int .i64 ver, .slice ca cl cc, .slice ia il ic, .int .i64 most, .int .i64 (KP : Int), .slice la L lc])) (by go_simp) rfl
    | 25 =>
      intro ho hd
      obtain rfl := (Option.some.inj ho).symm
      have d24 : vs 24 = (.agg #[.int .i64 ver, .slice ca cl cc, .slice ia il ic, .int .i64 most, .int .i64 (KP : Int), .slice la L lc]) := hd ⟨24, .data⟩ (by simp) rfl
      have d21 : vs 21 = (.bool false) := hd ⟨21, .guard⟩ (by simp) rfl
      clear hd ho
      have h36 := G.h (j := 24) (d := 36) rfl (by decide) d24
      refine step_yes G rfl rfl (by decide) d21 ?_
      clear G
      go_simp
      refine (hl4 _).mono ?_
      rintro e w9 ⟨rfl, hb9⟩
      exact ⟨_, rfl, rfl, hb9⟩
    | 26 =>
      intro ho hd
      obtain rfl := (Option.some.inj ho).symm
      have d23 : vs 23 = (.int .i64 (FR : Int)) := hd ⟨23, .data⟩ (by simp) rfl
      have d25 : vs 25 = (.int .i64 (FR : Int)) := hd ⟨25, .data⟩ (by simp) rfl
      have d21 : vs 21 = (.bool false) := hd ⟨21, .guard⟩ (by simp) rfl
      clear hd ho
      have h35 := G.h (j := 23) (d := 35) rfl (by decide) d23
      have h37 := G.h (j := 25) (d := 37) rfl (by decide) d25
      refine step_yes G rfl rfl (by decide) d21 ?_
      clear G
      exact step_run (v := (.bool false)) (by go_simp) rfl
    | 27 =>
      intro ho hd
      obtain rfl := (Option.some.inj ho).symm
      have d21 : vs 21 = (.bool false) := hd ⟨21, .data⟩ (by simp) rfl
      have d26 : vs 26 = (.bool false) := hd ⟨26, .data⟩ (by simp) rfl
      clear hd ho
      have h33 := G.h (j := 21) (d := 33) rfl (by decide) d21
      have h38 := G.h (j := 26) (d := 38) rfl (by decide) d26
      refine step_open rfl ?_
      clear G
      exact step_run (v := (.bool false)) (by go_simp) rfl
    | n + 28 =>
      intro ho hd
      simp at ho
  intro vs w2 hb hR
  have hvv : vs 27 = .bool false := hR 27 (by simp)
  have HT2 := Lib.hid (HT1.out.below hb)
  have HR2 := Lib.hid (HR1.out.below hb)
  have HU2 := Lib.hid (keep hb HU1.out)
  have HB2 := Lib.hid (HB1.out.trans (hb.mono HB1.out.size))
  have HOW2 := Lib.hid (ownsRow_below HOWN.out hb)
  simp only [putAll, Act.put, List.setIfInBounds_toArray, List.set_cons_succ, List.set_cons_zero, Nat.zero_add, Nat.reduceAdd]
  rw [hvv]
  clear hR hb hvv HT1 HR1 HU1 HB1 HOWN HCEL
  go_wp2_with fail
  go_loopw [6] (fun j wr => ∃ i : Nat, i ≤ L ∧ j = .int .i64 i ∧ Below w2.heap.size w2 wr) (fun j _ => L - (intOf j).toNat)
  case atStart => exact ⟨0, Nat.zero_le _, rfl, Below.refl _ _⟩
  case round =>
    obtain ⟨i, hi, rfl, hbr⟩ := hrel
    by_cases hlt : i < L
    · obtain ⟨r, hr⟩ : ∃ r, rs[i]? = some r := ⟨_, List.getElem?_eq_getElem (by have := HM.out.len; have := HLE.out.1; omega)⟩
      obtain ⟨v, hv⟩ : ∃ v, V[i]? = some v := ⟨_, List.getElem?_eq_getElem (by have := HV.out.len; have := HLE.out.1; omega)⟩
      have hent := HM.out.ent i r hr
      have hval := HM.out.val i r v hr hv
      have HTr := HT2.out.below hbr
      have hprt := tabParts_ok HTr V HV.out i v hv
      unfold IsParts at hprt
      rw [HLE.out.2.2.2] at hprt
      have HPRT := Lib.hid hprt
      have HHR := Lib.hid (And.intro hr (And.intro hent hval))
      have HTT := Lib.hid HTr
      have HRr := Lib.hid (HR2.out.below hbr)
      have HUr := Lib.hid (keep hbr HU2.out)
      have HOr := Lib.hid (ownsRow_below HOW2.out hbr)
      have HBr := Lib.hid hbr
      have i1 : (0 : Int) ≤ (i : Int) := by omega
      have i2 : (i : Int) < (L : Int) := by omega
      have HHV := Lib.hid hv
      clear hr hv hent hval HTr hprt hbr
      generalize wr = W1 at *
      obtain ⟨n, hn⟩ : ∃ n, (rowCv t v).length = n := ⟨_, rfl⟩
      rw [hn] at HPRT
      have HNN := Lib.hid hn
      have hn24 : n ≤ 24 := by rw [← hn, rowCv_len (HV.out.row v (List.mem_of_getElem? HHV.out))]; exact HTT.out.n24
      clear hn
      go_wp2_with fail
      refine HPRT.out.mono ?_
      rintro e w3 ⟨pa, pc, ps, rfl, hpo, hcv, hb3⟩
      have HB3 := Lib.hid (HBr.out.trans (hb3.mono HBr.out.size))
      have HP3 := Lib.hid (And.intro hpo hcv)
      have HT3 := Lib.hid (HTT.out.below hb3)
      have HR3 := Lib.hid (HRr.out.below hb3)
      have HU3 := Lib.hid (keep hb3 HUr.out)
      have HO3 := Lib.hid (ownsRow_below HOr.out hb3)
      clear hpo hcv hb3 HPRT HTT HRr HUr HOr
      obtain ⟨q, hq, _, hql, hqc⟩ := row_block HR3.out.row (by omega)
      obtain ⟨lb, hlb, _, hlbl, hlbc⟩ := row_block HO3.out (by omega)
      subst hq
      subst hlb
      have hrpn : r.pn = n := by
        rw [← (HR3.out.parts r (List.mem_of_getElem? HHR.out.1)).len]
        have := congrArg List.length HHR.out.2.2
        rw [HNN.out] at this
        unfold cv at this
        rwa [List.length_map] at this
      have HRP := Lib.hid hrpn
      have HREC : Hid (∀ W', Below w3.heap.size w3 W' → (W'.cell? ⟨ub, 5, none⟩ = some (.slice (some ⟨q, 0, none⟩) L lc) ∧ W'.cell? ⟨lb, i, none⟩ = some (.int .u64 r.e) ∧ W'.cell? ⟨q, i * 2, none⟩ = some (.int .u64 r.e) ∧ W'.cell? ⟨q, i * 2 + 1, none⟩ = some (.slice r.pa n r.pc)) ∧
          Calls Tryz.prog 45 #[.pointer (some ⟨TB, 0, none⟩), .int .i64 (i : Int)] W' (fun e w' => e = .returned (.int .u64 r.e) ∧ ∃ m, w' = W'.drewN m)) := Lib.hid (fun W' hW => by
        have hk := keep hW HU3.out
        have ht := HT3.out.below hW
        obtain ⟨g0, g1⟩ := urowL_at rs i r HHR.out.1
        rw [← HLE.out.2.2.2, ← HRP.out]
        refine ⟨⟨by rw [cell_at hk]; rfl, ?_, (hW.cell (p := ⟨q, _, none⟩) hql).trans (hqc _ _ g0), (hW.cell (p := ⟨q, _, none⟩) hql).trans (hqc _ _ g1)⟩, tabEnt_ok ht i r.e HHR.out.2.1⟩
        refine (hW.cell (p := ⟨lb, _, none⟩) hlbl).trans (hlbc i _ ?_)
        rw [List.getElem?_map, HHR.out.2.1]; rfl)
      obtain ⟨re, rpa, rpn, rpc, rps⟩ := r
      dsimp only at HREC HRP
      clear hqc hlbc hrpn
      go_upto_region 8 with (fail)
      refine wp_region_frame (by kernel_rfl) (by kernel_rfl) (by kernel_rfl) (byList (rows_list8 lb L vc i re ub q lc TB pa n pc rpa rpc)) (lasts_list (rows_list8_lasts lb L vc i re ub q lc TB pa n pc rpa rpc)) ?_ ?_
      · intro vs w' iq o A F hb ho hd
        have m5 : A.tmps[5]?.getD undef = (.slice (some ⟨lb, 0, none⟩) L vc) := F.m (by kernel_rfl) rfl
        have m6 : A.tmps[6]?.getD undef = (.int .i64 (i : Int)) := F.m (by kernel_rfl) rfl
        have m3 : A.tmps[3]?.getD undef = (.pointer (some ⟨ub, 0, none⟩)) := F.m (by kernel_rfl) rfl
        have m0 : A.tmps[0]?.getD undef = (.pointer (some ⟨TB, 0, none⟩)) := F.m (by kernel_rfl) rfl
        have m8 : A.tmps[8]?.getD undef = (.int .i64 0) := F.m (by kernel_rfl) rfl
        have m7 : A.tmps[7]?.getD undef = (.slice pa n pc) := F.m (by kernel_rfl) rfl
        have G := F.light (n := 130) (by kernel_rfl)
        clear F
        obtain ⟨⟨c5, x0, x1, x2⟩, hl1⟩ := HREC.out w' hb
        revert ho hd
        match iq with
        | 0 =>
          intro ho hd
          obtain rfl := (Option.some.inj ho).symm
          clear hd ho
          refine step_open rfl ?_
          clear G
          exact step_run (v := (.slice (some ⟨lb, 0, none⟩) L vc)) (by go_simp) rfl
        | 1 =>
          intro ho hd
          obtain rfl := (Option.some.inj ho).symm
          clear hd ho
          refine step_open rfl ?_
          clear G
          exact step_run (v := (.int .i64 (i : Int))) (by go_simp) rfl
        | 2 =>
          intro ho hd
          obtain rfl := (Option.some.inj ho).symm
          have d0 : vs 0 = (.slice (some ⟨lb, 0, none⟩) L vc) := hd ⟨0, .data⟩ (by simp) rfl
          have d1 : vs 1 = (.int .i64 (i : Int)) := hd ⟨1, .data⟩ (by simp) rfl
          clear hd ho
          have h52 := G.h (j := 0) (d := 52) rfl (by decide) d0
          have h53 := G.h (j := 1) (d := 53) rfl (by decide) d1
          refine step_open rfl ?_
          clear G
          exact step_run (v := (.pointer (some ⟨lb, i, none⟩))) (by go_simp) rfl
        | 3 =>
          intro ho hd
          obtain rfl := (Option.some.inj ho).symm
          have d2 : vs 2 = (.pointer (some ⟨lb, i, none⟩)) := hd ⟨2, .data⟩ (by simp) rfl
          clear hd ho
          have h54 := G.h (j := 2) (d := 54) rfl (by decide) d2
          refine step_open rfl ?_
          clear G
          exact step_run (v := (.int .u64 re)) (by go_simp) rfl
        | 4 =>
          intro ho hd
          obtain rfl := (Option.some.inj ho).symm
          clear hd ho
          refine step_open rfl ?_
          clear G
          exact step_run (v := (.pointer (some ⟨ub, 5, none⟩))) (by go_simp) rfl
        | 5 =>
          intro ho hd
          obtain rfl := (Option.some.inj ho).symm
          have d4 : vs 4 = (.pointer (some ⟨ub, 5, none⟩)) := hd ⟨4, .data⟩ (by simp) rfl
          clear hd ho
          have h56 := G.h (j := 4) (d := 56) rfl (by decide) d4
          refine step_open rfl ?_
          clear G
          exact step_run (v := (.slice (some ⟨q, 0, none⟩) L lc)) (by go_simp) rfl
        | 6 =>
          intro ho hd
          obtain rfl := (Option.some.inj ho).symm
          clear hd ho
          refine step_open rfl ?_
          clear G
          exact step_run (v := (.int .i64 (i : Int))) (by go_simp) rfl
        | 7 =>
          intro ho hd
          obtain rfl := (Option.some.inj ho).symm
          have d5 : vs 5 = (.slice (some ⟨q, 0, none⟩) L lc) := hd ⟨5, .data⟩ (by simp) rfl
          have d6 : vs 6 = (.int .i64 (i : Int)) := hd ⟨6, .data⟩ (by simp) rfl
          clear hd ho
          have h57 := G.h (j := 5) (d := 57) rfl (by decide) d5
          have h58 := G.h (j := 6) (d := 58) rfl (by decide) d6
          refine step_open rfl ?_
          clear G
          exact step_run (v := (.pointer (some ⟨q, i * 2, none⟩))) (by go_simp) rfl
        | 8 =>
          intro ho hd
          obtain rfl := (Option.some.inj ho).symm
          have d7 : vs 7 = (.pointer (some ⟨q, i * 2, none⟩)) := hd ⟨7, .data⟩ (by simp) rfl
          clear hd ho
          have h59 := G.h (j := 7) (d := 59) rfl (by decide) d7
          refine step_open rfl ?_
          clear G
          exact step_run (v := (.pointer (some ⟨q, i * 2, none⟩))) (by go_simp) rfl
        | 9 =>
          intro ho hd
          obtain rfl := (Option.some.inj ho).symm
          have d8 : vs 8 = (.pointer (some ⟨q, i * 2, none⟩)) := hd ⟨8, .data⟩ (by simp) rfl
          clear hd ho
          have h60 := G.h (j := 8) (d := 60) rfl (by decide) d8
          refine step_open rfl ?_
          clear G
          exact step_run (v := (.int .u64 re)) (by go_simp) rfl
        | 10 =>
          intro ho hd
          obtain rfl := (Option.some.inj ho).symm
          have d3 : vs 3 = (.int .u64 re) := hd ⟨3, .data⟩ (by simp) rfl
          have d9 : vs 9 = (.int .u64 re) := hd ⟨9, .data⟩ (by simp) rfl
          clear hd ho
          have h55 := G.h (j := 3) (d := 55) rfl (by decide) d3
          have h61 := G.h (j := 9) (d := 61) rfl (by decide) d9
          refine step_open rfl ?_
          clear G
          exact step_run (v := (.bool false)) (by go_simp) rfl
        | 11 =>
          intro ho hd
          obtain rfl := (Option.some.inj ho).symm
          have d10 : vs 10 = (.bool false) := hd ⟨10, .data⟩ (by simp) rfl
          clear hd ho
          have h62 := G.h (j := 10) (d := 62) rfl (by decide) d10
          refine step_open rfl ?_
          clear G
          exact step_run (v := (.bool false)) (by go_simp) rfl
        | 12 =>
          intro ho hd
          obtain rfl := (Option.some.inj ho).symm
          have d11 : vs 11 = (.bool false) := hd ⟨11, .guard⟩ (by simp) rfl
          clear hd ho
          refine step_yes G rfl rfl (by decide) d11 ?_
          clear G
          exact step_run (v := (.pointer (some ⟨TB, 0, none⟩))) (by go_simp) rfl
        | 13 =>
          intro ho hd
          obtain rfl := (Option.some.inj ho).symm
          have d11 : vs 11 = (.bool false) := hd ⟨11, .guard⟩ (by simp) rfl
          clear hd ho
          refine step_yes G rfl rfl (by decide) d11 ?_
          clear G
          exact step_run (v := (.int .i64 (i : Int))) (by go_simp) rfl
        | 14 =>
          intro ho hd
          obtain rfl := (Option.some.inj ho).symm
          have d12 : vs 12 = (.pointer (some ⟨TB, 0, none⟩)) := hd ⟨12, .data⟩ (by simp) rfl
          have d13 : vs 13 = (.int .i64 (i : Int)) := hd ⟨13, .data⟩ (by simp) rfl
          have d11 : vs 11 = (.bool false) := hd ⟨11, .guard⟩ (by simp) rfl
          clear hd ho
          have h64 := G.h (j := 12) (d := 64) rfl (by decide) d12
          have h65 := G.h (j := 13) (d := 65) rfl (by decide) d13
          refine step_yes G rfl rfl (by decide) d11 ?_
          clear G
          go_simp
          refine hl1.mono ?_
          rintro e w9 ⟨rfl, m9, rfl⟩
          exact ⟨_, rfl, rfl, below_drewN (Below.refl _ _) _⟩
        | 15 =>
          intro ho hd
          obtain rfl := (Option.some.inj ho).symm
          have d11 : vs 11 = (.bool false) := hd ⟨11, .guard⟩ (by simp) rfl
          clear hd ho
          refine step_yes G rfl rfl (by decide) d11 ?_
          clear G
          exact step_run (v := (.slice (some ⟨lb, 0, none⟩) L vc)) (by go_simp) rfl
        | 16 =>
          intro ho hd
          obtain rfl := (Option.some.inj ho).symm
          have d11 : vs 11 = (.bool false) := hd ⟨11, .guard⟩ (by simp) rfl
          clear hd ho
          refine step_yes G rfl rfl (by decide) d11 ?_
          clear G
          exact step_run (v := (.int .i64 (i : Int))) (by go_simp) rfl
        | 17 =>
          intro ho hd
          obtain rfl := (Option.some.inj ho).symm
          have d15 : vs 15 = (.slice (some ⟨lb, 0, none⟩) L vc) := hd ⟨15, .data⟩ (by simp) rfl
          have d16 : vs 16 = (.int .i64 (i : Int)) := hd ⟨16, .data⟩ (by simp) rfl
          have d11 : vs 11 = (.bool false) := hd ⟨11, .guard⟩ (by simp) rfl
          clear hd ho
          have h67 := G.h (j := 15) (d := 67) rfl (by decide) d15
          have h68 := G.h (j := 16) (d := 68) rfl (by decide) d16
          refine step_yes G rfl rfl (by decide) d11 ?_
          clear G
          exact step_run (v := (.pointer (some ⟨lb, i, none⟩))) (by go_simp) rfl
        | 18 =>
          intro ho hd
          obtain rfl := (Option.some.inj ho).symm
          have d17 : vs 17 = (.pointer (some ⟨lb, i, none⟩)) := hd ⟨17, .data⟩ (by simp) rfl
          have d11 : vs 11 = (.bool false) := hd ⟨11, .guard⟩ (by simp) rfl
          clear hd ho
          have h69 := G.h (j := 17) (d := 69) rfl (by decide) d17
          refine step_yes G rfl rfl (by decide) d11 ?_
          clear G
          exact step_run (v := (.int .u64 re)) (by go_simp) rfl
        | 19 =>
          intro ho hd
          obtain rfl := (Option.some.inj ho).symm
          have d14 : vs 14 = (.int .u64 re) := hd ⟨14, .data⟩ (by simp) rfl
          have d18 : vs 18 = (.int .u64 re) := hd ⟨18, .data⟩ (by simp) rfl
          have d11 : vs 11 = (.bool false) := hd ⟨11, .guard⟩ (by simp) rfl
          clear hd ho
          have h66 := G.h (j := 14) (d := 66) rfl (by decide) d14
          have h70 := G.h (j := 18) (d := 70) rfl (by decide) d18
          refine step_yes G rfl rfl (by decide) d11 ?_
          clear G
          exact step_run (v := (.bool false)) (by go_simp) rfl
        | 20 =>
          intro ho hd
          obtain rfl := (Option.some.inj ho).symm
          have d11 : vs 11 = (.bool false) := hd ⟨11, .data⟩ (by simp) rfl
          have d19 : vs 19 = (.bool false) := hd ⟨19, .data⟩ (by simp) rfl
          clear hd ho
          have h63 := G.h (j := 11) (d := 63) rfl (by decide) d11
          have h71 := G.h (j := 19) (d := 71) rfl (by decide) d19
          refine step_open rfl ?_
          clear G
          exact step_run (v := (.bool false)) (by go_simp) rfl
        | 21 =>
          intro ho hd
          obtain rfl := (Option.some.inj ho).symm
          have d20 : vs 20 = (.bool false) := hd ⟨20, .data⟩ (by simp) rfl
          clear hd ho
          have h72 := G.h (j := 20) (d := 72) rfl (by decide) d20
          refine step_open rfl ?_
          clear G
          exact step_run (v := (.bool false)) (by go_simp) rfl
        | 22 =>
          intro ho hd
          obtain rfl := (Option.some.inj ho).symm
          have d21 : vs 21 = (.bool false) := hd ⟨21, .guard⟩ (by simp) rfl
          clear hd ho
          refine step_yes G rfl rfl (by decide) d21 ?_
          clear G
          exact step_run (v := (.int .i64 0)) (by go_simp) rfl
        | 23 =>
          intro ho hd
          obtain rfl := (Option.some.inj ho).symm
          have d22 : vs 22 = (.int .i64 0) := hd ⟨22, .data⟩ (by simp) rfl
          have d21 : vs 21 = (.bool false) := hd ⟨21, .guard⟩ (by simp) rfl
          clear hd ho
          have h74 := G.h (j := 22) (d := 74) rfl (by decide) d22
          refine step_yes G rfl rfl (by decide) d21 ?_
          clear G
          exact step_run (v := (.bool false)) (by go_simp) rfl
        | 24 =>
          intro ho hd
          obtain rfl := (Option.some.inj ho).symm
          have d21 : vs 21 = (.bool false) := hd ⟨21, .data⟩ (by simp) rfl
          have d23 : vs 23 = (.bool false) := hd ⟨23, .data⟩ (by simp) rfl
          clear hd ho
          have h73 := G.h (j := 21) (d := 73) rfl (by decide) d21
          have h75 := G.h (j := 23) (d := 75) rfl (by decide) d23
          refine step_open rfl ?_
          clear G
          exact step_run (v := (.bool false)) (by go_simp) rfl
        | 25 =>
          intro ho hd
          obtain rfl := (Option.some.inj ho).symm
          have d24 : vs 24 = (.bool false) := hd ⟨24, .data⟩ (by simp) rfl
          clear hd ho
          have h76 := G.h (j := 24) (d := 76) rfl (by decide) d24
          refine step_open rfl ?_
          clear G
          exact step_run (v := (.bool false)) (by go_simp) rfl
        | 26 =>
          intro ho hd
          obtain rfl := (Option.some.inj ho).symm
          have d25 : vs 25 = (.bool false) := hd ⟨25, .guard⟩ (by simp) rfl
          clear hd ho
          refine step_yes G rfl rfl (by decide) d25 ?_
          clear G
          exact step_run (v := (.slice pa n pc)) (by go_simp) rfl
        | 27 =>
          intro ho hd
          obtain rfl := (Option.some.inj ho).symm
          have d26 : vs 26 = (.slice pa n pc) := hd ⟨26, .data⟩ (by simp) rfl
          have d25 : vs 25 = (.bool false) := hd ⟨25, .guard⟩ (by simp) rfl
          clear hd ho
          have h78 := G.h (j := 26) (d := 78) rfl (by decide) d26
          refine step_yes G rfl rfl (by decide) d25 ?_
          clear G
          exact step_run (v := (.int .i64 (n : Int))) (by go_simp) rfl
        | 28 =>
          intro ho hd
          obtain rfl := (Option.some.inj ho).symm
          have d25 : vs 25 = (.bool false) := hd ⟨25, .guard⟩ (by simp) rfl
          clear hd ho
          refine step_yes G rfl rfl (by decide) d25 ?_
          clear G
          exact step_run (v := (.pointer (some ⟨ub, 5, none⟩))) (by go_simp) rfl
        | 29 =>
          intro ho hd
          obtain rfl := (Option.some.inj ho).symm
          have d28 : vs 28 = (.pointer (some ⟨ub, 5, none⟩)) := hd ⟨28, .data⟩ (by simp) rfl
          have d25 : vs 25 = (.bool false) := hd ⟨25, .guard⟩ (by simp) rfl
          clear hd ho
          have h80 := G.h (j := 28) (d := 80) rfl (by decide) d28
          refine step_yes G rfl rfl (by decide) d25 ?_
          clear G
          exact step_run (v := (.slice (some ⟨q, 0, none⟩) L lc)) (by go_simp) rfl
        | 30 =>
          intro ho hd
          obtain rfl := (Option.some.inj ho).symm
          have d25 : vs 25 = (.bool false) := hd ⟨25, .guard⟩ (by simp) rfl
          clear hd ho
          refine step_yes G rfl rfl (by decide) d25 ?_
          clear G
          exact step_run (v := (.int .i64 (i : Int))) (by go_simp) rfl
        | 31 =>
          intro ho hd
          obtain rfl := (Option.some.inj ho).symm
          have d29 : vs 29 = (.slice (some ⟨q, 0, none⟩) L lc) := hd ⟨29, .data⟩ (by simp) rfl
          have d30 : vs 30 = (.int .i64 (i : Int)) := hd ⟨30, .data⟩ (by simp) rfl
          have d25 : vs 25 = (.bool false) := hd ⟨25, .guard⟩ (by simp) rfl
          clear hd ho
          have h81 := G.h (j := 29) (d := 81) rfl (by decide) d29
          have h82 := G.h (j := 30) (d := 82) rfl (by decide) d30
          refine step_yes G rfl rfl (by decide) d25 ?_
          clear G
          exact step_run (v := (.pointer (some ⟨q, i * 2, none⟩))) (by go_simp) rfl
        | 32 =>
          intro ho hd
          obtain rfl := (Option.some.inj ho).symm
          have d31 : vs 31 = (.pointer (some ⟨q, i * 2, none⟩)) := hd ⟨31, .data⟩ (by simp) rfl
          have d25 : vs 25 = (.bool false) := hd ⟨25, .guard⟩ (by simp) rfl
          clear hd ho
          have h83 := G.h (j := 31) (d := 83) rfl (by decide) d31
          refine step_yes G rfl rfl (by decide) d25 ?_
          clear G
          exact step_run (v := (.pointer (some ⟨q, i * 2 + 1, none⟩))) (by go_simp) rfl
        | 33 =>
          intro ho hd
          obtain rfl := (Option.some.inj ho).symm
          have d32 : vs 32 = (.pointer (some ⟨q, i * 2 + 1, none⟩)) := hd ⟨32, .data⟩ (by simp) rfl
          have d25 : vs 25 = (.bool false) := hd ⟨25, .guard⟩ (by simp) rfl
          clear hd ho
          have h84 := G.h (j := 32) (d := 84) rfl (by decide) d32
          refine step_yes G rfl rfl (by decide) d25 ?_
          clear G
          exact step_run (v := (.slice rpa n rpc)) (by go_simp) rfl
        | 34 =>
          intro ho hd
          obtain rfl := (Option.some.inj ho).symm
          have d33 : vs 33 = (.slice rpa n rpc) := hd ⟨33, .data⟩ (by simp) rfl
          have d25 : vs 25 = (.bool false) := hd ⟨25, .guard⟩ (by simp) rfl
          clear hd ho
          have h85 := G.h (j := 33) (d := 85) rfl (by decide) d33
          refine step_yes G rfl rfl (by decide) d25 ?_
          clear G
          exact step_run (v := (.int .i64 (n : Int))) (by go_simp) rfl
        | 35 =>
          intro ho hd
          obtain rfl := (Option.some.inj ho).symm
          have d27 : vs 27 = (.int .i64 (n : Int)) := hd ⟨27, .data⟩ (by simp) rfl
          have d34 : vs 34 = (.int .i64 (n : Int)) := hd ⟨34, .data⟩ (by simp) rfl
          have d25 : vs 25 = (.bool false) := hd ⟨25, .guard⟩ (by simp) rfl
          clear hd ho
          have h79 := G.h (j := 27) (d := 79) rfl (by decide) d27
          have h86 := G.h (j := 34) (d := 86) rfl (by decide) d34
          refine step_yes G rfl rfl (by decide) d25 ?_
          clear G
          exact step_run (v := (.bool false)) (by go_simp) rfl
        | 36 =>
          intro ho hd
          obtain rfl := (Option.some.inj ho).symm
          have d25 : vs 25 = (.bool false) := hd ⟨25, .data⟩ (by simp) rfl
          have d35 : vs 35 = (.bool false) := hd ⟨35, .data⟩ (by simp) rfl
          clear hd ho
          have h77 := G.h (j := 25) (d := 77) rfl (by decide) d25
          have h87 := G.h (j := 35) (d := 87) rfl (by decide) d35
          refine step_open rfl ?_
          clear G
          exact step_run (v := (.bool false)) (by go_simp) rfl
        | n + 37 =>
          intro ho hd
          simp at ho
      intro vs8 w4 hb hR
      have hvv : vs8 36 = .bool false := hR 36 (by simp)
      have HT4 := Lib.hid (HT3.out.below hb)
      have HR4 := Lib.hid (HR3.out.below hb)
      have HU4 := Lib.hid (keep hb HU3.out)
      have HB4 := Lib.hid (HB3.out.trans (hb.mono HB3.out.size))
      have HP4 := Lib.hid (And.intro (HP3.out.1.below hb) HP3.out.2)
      have HREC4 : Hid (∀ W', Below w4.heap.size w4 W' → W'.cell? ⟨ub, 5, none⟩ = some (.slice (some ⟨q, 0, none⟩) L lc) ∧ W'.cell? ⟨q, i * 2 + 1, none⟩ = some (.slice rpa n rpc)) := Lib.hid (fun W' hW => by
        have := (HREC.out W' (hb.trans (hW.mono hb.size))).1
        exact ⟨this.1, this.2.2.2⟩)
      have hRP4 := HR4.out.parts _ (List.mem_of_getElem? HHR.out.1)
      dsimp only at hRP4
      rw [HRP.out] at hRP4
      have HQ4 := Lib.hid hRP4
      simp only [putAll, Act.put, List.setIfInBounds_toArray, List.set_cons_succ, List.set_cons_zero, Nat.zero_add, Nat.reduceAdd]
      rw [hvv]
      clear hR hb hvv HT3 HR3 HU3 HB3 HO3 HP3 HREC hRP4
      go_wp2_with fail
      go_loopw [9] (fun j wk => ∃ k : Nat, k ≤ n ∧ j = .int .i64 k ∧ Below w4.heap.size w4 wk) (fun j _ => n - (intOf j).toNat)
      case atStart => exact ⟨0, Nat.zero_le _, rfl, Below.refl _ _⟩
      case round =>
        obtain ⟨k, hk, rfl, hbk⟩ := hrel
        by_cases hlk : k < n
        · have hpo := HP4.out.1.below hbk
          have hqo := HQ4.out.below hbk
          obtain ⟨pb, po, p, rfl, hpB, hp, hpI, p0, p1⟩ := hpo.at.get (Below.refl _ _) hlk
          obtain ⟨yb, yo, y, rfl, hyB, hy, hyI, y0, y1⟩ := hqo.at.get (Below.refl _ _) hlk
          have hpe : (p.comp, p.val) = (y.comp, y.val) := by
            have g1 : (cv ps)[k]? = some (p.comp, p.val) := by unfold cv; rw [List.getElem?_map, hp]; rfl
            have g2 : (cv rps)[k]? = some (y.comp, y.val) := by unfold cv; rw [List.getElem?_map, hy]; rfl
            rw [HP4.out.2] at g1
            have hv := HHR.out.2.2
            rw [hv, g1] at g2
            exact Option.some.inj g2
          obtain ⟨pcomp, xa, xl, xc, xv⟩ := p
          obtain ⟨ycomp, za, zl, zc, zv⟩ := y
          dsimp only at hpI hyI p0 p1 y0 y1 hpe
          cases hpe
          have HRC : Hid (∀ W', Below wr.heap.size wr W' → (W'.cell? ⟨ub, 5, none⟩ = some (.slice (some ⟨q, 0, none⟩) L lc) ∧ W'.cell? ⟨q, i * 2 + 1, none⟩ = some (.slice (some ⟨yb, yo, none⟩) n rpc) ∧ W'.cell? ⟨pb, po + k * 2, none⟩ = some (.int .i64 pcomp) ∧ W'.cell? ⟨pb, po + k * 2 + 1, none⟩ = some (.slice xa xl xc) ∧ W'.cell? ⟨yb, yo + k * 2, none⟩ = some (.int .i64 pcomp) ∧ W'.cell? ⟨yb, yo + k * 2 + 1, none⟩ = some (.slice za zl zc)) ∧
              Calls Tryz.prog 42 #[.slice xa xl xc, .slice za zl zc] W' (fun e w' => e = .returned (.bool true) ∧ ∃ m, w' = W'.drewN m)) := Lib.hid (fun W' hW => by
            have h4 := HREC4.out W' (hbk.trans (hW.mono hbk.size))
            refine ⟨⟨h4.1, h4.2, (hW.cell (p := ⟨pb, _, none⟩) hpB).trans p0, (hW.cell (p := ⟨pb, _, none⟩) hpB).trans p1, (hW.cell (p := ⟨yb, _, none⟩) hyB).trans y0, (hW.cell (p := ⟨yb, _, none⟩) hyB).trans y1⟩, values_eq16 xv xa xl xc za zl zc W' ((hpI.below hW).mono hW.size) ((hyI.below hW).mono hW.size)⟩)
          have HBK := Lib.hid hbk
          have i3 : (0 : Int) ≤ (k : Int) := by omega
          have i4 : (k : Int) < (n : Int) := by omega
          clear hpo hqo hp hy hpI hyI p0 p1 y0 y1 hbk
          go_upto_region 13 with (fail)
          refine wp_region_frame (by kernel_rfl) (by kernel_rfl) (by kernel_rfl) (byList (rows_list13 pb po n pc k pcomp ub q L lc i yb yo rpc xa xl xc za zl zc)) (lasts_list (rows_list13_lasts pb po n pc k pcomp ub q L lc i yb yo rpc xa xl xc za zl zc)) ?_ ?_
          · intro vs w' iq o A F hb ho hd
            have m7 : A.tmps[7]?.getD undef = (.slice (some ⟨pb, po, none⟩) n pc) := F.m (by kernel_rfl) rfl
            have m9 : A.tmps[9]?.getD undef = (.int .i64 (k : Int)) := F.m (by kernel_rfl) rfl
            have m3 : A.tmps[3]?.getD undef = (.pointer (some ⟨ub, 0, none⟩)) := F.m (by kernel_rfl) rfl
            have m6 : A.tmps[6]?.getD undef = (.int .i64 (i : Int)) := F.m (by kernel_rfl) rfl
            have G := F.light (n := 130) (by kernel_rfl)
            clear F
            obtain ⟨⟨c5, x1, x2, x3, x4, x5⟩, hl1⟩ := HRC.out w' hb
            revert ho hd
            match iq with
            | 0 =>
              intro ho hd
              obtain rfl := (Option.some.inj ho).symm
              clear hd ho
              refine step_open rfl ?_
              clear G
              exact step_run (v := (.slice (some ⟨pb, po, none⟩) n pc)) (by go_simp) rfl
            | 1 =>
              intro ho hd
              obtain rfl := (Option.some.inj ho).symm
              clear hd ho
              refine step_open rfl ?_
              clear G
              exact step_run (v := (.int .i64 (k : Int))) (by go_simp) rfl
            | 2 =>
              intro ho hd
              obtain rfl := (Option.some.inj ho).symm
              have d0 : vs 0 = (.slice (some ⟨pb, po, none⟩) n pc) := hd ⟨0, .data⟩ (by simp) rfl
              have d1 : vs 1 = (.int .i64 (k : Int)) := hd ⟨1, .data⟩ (by simp) rfl
              clear hd ho
              have h95 := G.h (j := 0) (d := 95) rfl (by decide) d0
              have h96 := G.h (j := 1) (d := 96) rfl (by decide) d1
              refine step_open rfl ?_
              clear G
              exact step_run (v := (.pointer (some ⟨pb, po + k * 2, none⟩))) (by go_simp) rfl
            | 3 =>
              intro ho hd
              obtain rfl := (Option.some.inj ho).symm
              have d2 : vs 2 = (.pointer (some ⟨pb, po + k * 2, none⟩)) := hd ⟨2, .data⟩ (by simp) rfl
              clear hd ho
              have h97 := G.h (j := 2) (d := 97) rfl (by decide) d2
              refine step_open rfl ?_
              clear G
              exact step_run (v := (.pointer (some ⟨pb, po + k * 2, none⟩))) (by go_simp) rfl
            | 4 =>
              intro ho hd
              obtain rfl := (Option.some.inj ho).symm
              have d3 : vs 3 = (.pointer (some ⟨pb, po + k * 2, none⟩)) := hd ⟨3, .data⟩ (by simp) rfl
              clear hd ho
              have h98 := G.h (j := 3) (d := 98) rfl (by decide) d3
              refine step_open rfl ?_
              clear G
              exact step_run (v := (.int .i64 pcomp)) (by go_simp) rfl
            | 5 =>
              intro ho hd
              obtain rfl := (Option.some.inj ho).symm
              clear hd ho
              refine step_open rfl ?_
              clear G
              exact step_run (v := (.pointer (some ⟨ub, 5, none⟩))) (by go_simp) rfl
            | 6 =>
              intro ho hd
              obtain rfl := (Option.some.inj ho).symm
              have d5 : vs 5 = (.pointer (some ⟨ub, 5, none⟩)) := hd ⟨5, .data⟩ (by simp) rfl
              clear hd ho
              have h100 := G.h (j := 5) (d := 100) rfl (by decide) d5
              refine step_open rfl ?_
              clear G
              exact step_run (v := (.slice (some ⟨q, 0, none⟩) L lc)) (by go_simp) rfl
            | 7 =>
              intro ho hd
              obtain rfl := (Option.some.inj ho).symm
              clear hd ho
              refine step_open rfl ?_
              clear G
              exact step_run (v := (.int .i64 (i : Int))) (by go_simp) rfl
            | 8 =>
              intro ho hd
              obtain rfl := (Option.some.inj ho).symm
              have d6 : vs 6 = (.slice (some ⟨q, 0, none⟩) L lc) := hd ⟨6, .data⟩ (by simp) rfl
              have d7 : vs 7 = (.int .i64 (i : Int)) := hd ⟨7, .data⟩ (by simp) rfl
              clear hd ho
              have h101 := G.h (j := 6) (d := 101) rfl (by decide) d6
              have h102 := G.h (j := 7) (d := 102) rfl (by decide) d7
              refine step_open rfl ?_
              clear G
              exact step_run (v := (.pointer (some ⟨q, i * 2, none⟩))) (by go_simp) rfl
            | 9 =>
              intro ho hd
              obtain rfl := (Option.some.inj ho).symm
              have d8 : vs 8 = (.pointer (some ⟨q, i * 2, none⟩)) := hd ⟨8, .data⟩ (by simp) rfl
              clear hd ho
              have h103 := G.h (j := 8) (d := 103) rfl (by decide) d8
              refine step_open rfl ?_
              clear G
              exact step_run (v := (.pointer (some ⟨q, i * 2 + 1, none⟩))) (by go_simp) rfl
            | 10 =>
              intro ho hd
              obtain rfl := (Option.some.inj ho).symm
              have d9 : vs 9 = (.pointer (some ⟨q, i * 2 + 1, none⟩)) := hd ⟨9, .data⟩ (by simp) rfl
              clear hd ho
              have h104 := G.h (j := 9) (d := 104) rfl (by decide) d9
              refine step_open rfl ?_
              clear G
              exact step_run (v := (.slice (some ⟨yb, yo, none⟩) n rpc)) (by go_simp) rfl
            | 11 =>
              intro ho hd
              obtain rfl := (Option.some.inj ho).symm
              clear hd ho
              refine step_open rfl ?_
              clear G
              exact step_run (v := (.int .i64 (k : Int))) (by go_simp) rfl
            | 12 =>
              intro ho hd
              obtain rfl := (Option.some.inj ho).symm
              have d10 : vs 10 = (.slice (some ⟨yb, yo, none⟩) n rpc) := hd ⟨10, .data⟩ (by simp) rfl
              have d11 : vs 11 = (.int .i64 (k : Int)) := hd ⟨11, .data⟩ (by simp) rfl
              clear hd ho
              have h105 := G.h (j := 10) (d := 105) rfl (by decide) d10
              have h106 := G.h (j := 11) (d := 106) rfl (by decide) d11
              refine step_open rfl ?_
              clear G
              exact step_run (v := (.pointer (some ⟨yb, yo + k * 2, none⟩))) (by go_simp) rfl
            | 13 =>
              intro ho hd
              obtain rfl := (Option.some.inj ho).symm
              have d12 : vs 12 = (.pointer (some ⟨yb, yo + k * 2, none⟩)) := hd ⟨12, .data⟩ (by simp) rfl
              clear hd ho
              have h107 := G.h (j := 12) (d := 107) rfl (by decide) d12
              refine step_open rfl ?_
              clear G
              exact step_run (v := (.pointer (some ⟨yb, yo + k * 2, none⟩))) (by go_simp) rfl
            | 14 =>
              intro ho hd
              obtain rfl := (Option.some.inj ho).symm
              have d13 : vs 13 = (.pointer (some ⟨yb, yo + k * 2, none⟩)) := hd ⟨13, .data⟩ (by simp) rfl
              clear hd ho
              have h108 := G.h (j := 13) (d := 108) rfl (by decide) d13
              refine step_open rfl ?_
              clear G
              exact step_run (v := (.int .i64 pcomp)) (by go_simp) rfl
            | 15 =>
              intro ho hd
              obtain rfl := (Option.some.inj ho).symm
              have d4 : vs 4 = (.int .i64 pcomp) := hd ⟨4, .data⟩ (by simp) rfl
              have d14 : vs 14 = (.int .i64 pcomp) := hd ⟨14, .data⟩ (by simp) rfl
              clear hd ho
              have h99 := G.h (j := 4) (d := 99) rfl (by decide) d4
              have h109 := G.h (j := 14) (d := 109) rfl (by decide) d14
              refine step_open rfl ?_
              clear G
              exact step_run (v := (.bool false)) (by go_simp) rfl
            | 16 =>
              intro ho hd
              obtain rfl := (Option.some.inj ho).symm
              have d15 : vs 15 = (.bool false) := hd ⟨15, .data⟩ (by simp) rfl
              clear hd ho
              have h110 := G.h (j := 15) (d := 110) rfl (by decide) d15
              refine step_open rfl ?_
              clear G
              exact step_run (v := (.bool false)) (by go_simp) rfl
            | 17 =>
              intro ho hd
              obtain rfl := (Option.some.inj ho).symm
              have d16 : vs 16 = (.bool false) := hd ⟨16, .guard⟩ (by simp) rfl
              clear hd ho
              refine step_yes G rfl rfl (by decide) d16 ?_
              clear G
              exact step_run (v := (.slice (some ⟨pb, po, none⟩) n pc)) (by go_simp) rfl
            | 18 =>
              intro ho hd
              obtain rfl := (Option.some.inj ho).symm
              have d16 : vs 16 = (.bool false) := hd ⟨16, .guard⟩ (by simp) rfl
              clear hd ho
              refine step_yes G rfl rfl (by decide) d16 ?_
              clear G
              exact step_run (v := (.int .i64 (k : Int))) (by go_simp) rfl
            | 19 =>
              intro ho hd
              obtain rfl := (Option.some.inj ho).symm
              have d17 : vs 17 = (.slice (some ⟨pb, po, none⟩) n pc) := hd ⟨17, .data⟩ (by simp) rfl
              have d18 : vs 18 = (.int .i64 (k : Int)) := hd ⟨18, .data⟩ (by simp) rfl
              have d16 : vs 16 = (.bool false) := hd ⟨16, .guard⟩ (by simp) rfl
              clear hd ho
              have h112 := G.h (j := 17) (d := 112) rfl (by decide) d17
              have h113 := G.h (j := 18) (d := 113) rfl (by decide) d18
              refine step_yes G rfl rfl (by decide) d16 ?_
              clear G
              exact step_run (v := (.pointer (some ⟨pb, po + k * 2, none⟩))) (by go_simp) rfl
            | 20 =>
              intro ho hd
              obtain rfl := (Option.some.inj ho).symm
              have d19 : vs 19 = (.pointer (some ⟨pb, po + k * 2, none⟩)) := hd ⟨19, .data⟩ (by simp) rfl
              have d16 : vs 16 = (.bool false) := hd ⟨16, .guard⟩ (by simp) rfl
              clear hd ho
              have h114 := G.h (j := 19) (d := 114) rfl (by decide) d19
              refine step_yes G rfl rfl (by decide) d16 ?_
              clear G
              exact step_run (v := (.pointer (some ⟨pb, po + k * 2 + 1, none⟩))) (by go_simp) rfl
            | 21 =>
              intro ho hd
              obtain rfl := (Option.some.inj ho).symm
              have d20 : vs 20 = (.pointer (some ⟨pb, po + k * 2 + 1, none⟩)) := hd ⟨20, .data⟩ (by simp) rfl
              have d16 : vs 16 = (.bool false) := hd ⟨16, .guard⟩ (by simp) rfl
              clear hd ho
              have h115 := G.h (j := 20) (d := 115) rfl (by decide) d20
              refine step_yes G rfl rfl (by decide) d16 ?_
              clear G
              exact step_run (v := (.slice xa xl xc)) (by go_simp) rfl
            | 22 =>
              intro ho hd
              obtain rfl := (Option.some.inj ho).symm
              have d16 : vs 16 = (.bool false) := hd ⟨16, .guard⟩ (by simp) rfl
              clear hd ho
              refine step_yes G rfl rfl (by decide) d16 ?_
              clear G
              exact step_run (v := (.pointer (some ⟨ub, 5, none⟩))) (by go_simp) rfl
            | 23 =>
              intro ho hd
              obtain rfl := (Option.some.inj ho).symm
              have d22 : vs 22 = (.pointer (some ⟨ub, 5, none⟩)) := hd ⟨22, .data⟩ (by simp) rfl
              have d16 : vs 16 = (.bool false) := hd ⟨16, .guard⟩ (by simp) rfl
              clear hd ho
              have h117 := G.h (j := 22) (d := 117) rfl (by decide) d22
              refine step_yes G rfl rfl (by decide) d16 ?_
              clear G
              exact step_run (v := (.slice (some ⟨q, 0, none⟩) L lc)) (by go_simp) rfl
            | 24 =>
              intro ho hd
              obtain rfl := (Option.some.inj ho).symm
              have d16 : vs 16 = (.bool false) := hd ⟨16, .guard⟩ (by simp) rfl
              clear hd ho
              refine step_yes G rfl rfl (by decide) d16 ?_
              clear G
              exact step_run (v := (.int .i64 (i : Int))) (by go_simp) rfl
            | 25 =>
              intro ho hd
              obtain rfl := (Option.some.inj ho).symm
              have d23 : vs 23 = (.slice (some ⟨q, 0, none⟩) L lc) := hd ⟨23, .data⟩ (by simp) rfl
              have d24 : vs 24 = (.int .i64 (i : Int)) := hd ⟨24, .data⟩ (by simp) rfl
              have d16 : vs 16 = (.bool false) := hd ⟨16, .guard⟩ (by simp) rfl
              clear hd ho
              have h118 := G.h (j := 23) (d := 118) rfl (by decide) d23
              have h119 := G.h (j := 24) (d := 119) rfl (by decide) d24
              refine step_yes G rfl rfl (by decide) d16 ?_
              clear G
              exact step_run (v := (.pointer (some ⟨q, i * 2, none⟩))) (by go_simp) rfl
            | 26 =>
              intro ho hd
              obtain rfl := (Option.some.inj ho).symm
              have d25 : vs 25 = (.pointer (some ⟨q, i * 2, none⟩)) := hd ⟨25, .data⟩ (by simp) rfl
              have d16 : vs 16 = (.bool false) := hd ⟨16, .guard⟩ (by simp) rfl
              clear hd ho
              have h120 := G.h (j := 25) (d := 120) rfl (by decide) d25
              refine step_yes G rfl rfl (by decide) d16 ?_
              clear G
              exact step_run (v := (.pointer (some ⟨q, i * 2 + 1, none⟩))) (by go_simp) rfl
            | 27 =>
              intro ho hd
              obtain rfl := (Option.some.inj ho).symm
              have d26 : vs 26 = (.pointer (some ⟨q, i * 2 + 1, none⟩)) := hd ⟨26, .data⟩ (by simp) rfl
              have d16 : vs 16 = (.bool false) := hd ⟨16, .guard⟩ (by simp) rfl
              clear hd ho
              have h121 := G.h (j := 26) (d := 121) rfl (by decide) d26
              refine step_yes G rfl rfl (by decide) d16 ?_
              clear G
              exact step_run (v := (.slice (some ⟨yb, yo, none⟩) n rpc)) (by go_simp) rfl
            | 28 =>
              intro ho hd
              obtain rfl := (Option.some.inj ho).symm
              have d16 : vs 16 = (.bool false) := hd ⟨16, .guard⟩ (by simp) rfl
              clear hd ho
              refine step_yes G rfl rfl (by decide) d16 ?_
              clear G
              exact step_run (v := (.int .i64 (k : Int))) (by go_simp) rfl
            | 29 =>
              intro ho hd
              obtain rfl := (Option.some.inj ho).symm
              have d27 : vs 27 = (.slice (some ⟨yb, yo, none⟩) n rpc) := hd ⟨27, .data⟩ (by simp) rfl
              have d28 : vs 28 = (.int .i64 (k : Int)) := hd ⟨28, .data⟩ (by simp) rfl
              have d16 : vs 16 = (.bool false) := hd ⟨16, .guard⟩ (by simp) rfl
              clear hd ho
              have h122 := G.h (j := 27) (d := 122) rfl (by decide) d27
              have h123 := G.h (j := 28) (d := 123) rfl (by decide) d28
              refine step_yes G rfl rfl (by decide) d16 ?_
              clear G
              exact step_run (v := (.pointer (some ⟨yb, yo + k * 2, none⟩))) (by go_simp) rfl
            | 30 =>
              intro ho hd
              obtain rfl := (Option.some.inj ho).symm
              have d29 : vs 29 = (.pointer (some ⟨yb, yo + k * 2, none⟩)) := hd ⟨29, .data⟩ (by simp) rfl
              have d16 : vs 16 = (.bool false) := hd ⟨16, .guard⟩ (by simp) rfl
              clear hd ho
              have h124 := G.h (j := 29) (d := 124) rfl (by decide) d29
              refine step_yes G rfl rfl (by decide) d16 ?_
              clear G
              exact step_run (v := (.pointer (some ⟨yb, yo + k * 2 + 1, none⟩))) (by go_simp) rfl
            | 31 =>
              intro ho hd
              obtain rfl := (Option.some.inj ho).symm
              have d30 : vs 30 = (.pointer (some ⟨yb, yo + k * 2 + 1, none⟩)) := hd ⟨30, .data⟩ (by simp) rfl
              have d16 : vs 16 = (.bool false) := hd ⟨16, .guard⟩ (by simp) rfl
              clear hd ho
              have h125 := G.h (j := 30) (d := 125) rfl (by decide) d30
              refine step_yes G rfl rfl (by decide) d16 ?_
              clear G
              exact step_run (v := (.slice za zl zc)) (by go_simp) rfl
            | 32 =>
              intro ho hd
              obtain rfl := (Option.some.inj ho).symm
              have d21 : vs 21 = (.slice xa xl xc) := hd ⟨21, .data⟩ (by simp) rfl
              have d31 : vs 31 = (.slice za zl zc) := hd ⟨31, .data⟩ (by simp) rfl
              have d16 : vs 16 = (.bool false) := hd ⟨16, .guard⟩ (by simp) rfl
              clear hd ho
              have h116 := G.h (j := 21) (d := 116) rfl (by decide) d21
              have h126 := G.h (j := 31) (d := 126) rfl (by decide) d31
              refine step_yes G rfl rfl (by decide) d16 ?_
              clear G
              go_simp
              refine hl1.mono ?_
              rintro e w9 ⟨rfl, m9, rfl⟩
              exact ⟨_, rfl, rfl, below_drewN (Below.refl _ _) _⟩
            | 33 =>
              intro ho hd
              obtain rfl := (Option.some.inj ho).symm
              have d32 : vs 32 = (.bool true) := hd ⟨32, .data⟩ (by simp) rfl
              have d16 : vs 16 = (.bool false) := hd ⟨16, .guard⟩ (by simp) rfl
              clear hd ho
              have h127 := G.h (j := 32) (d := 127) rfl (by decide) d32
              refine step_yes G rfl rfl (by decide) d16 ?_
              clear G
              exact step_run (v := (.bool false)) (by go_simp) rfl
            | 34 =>
              intro ho hd
              obtain rfl := (Option.some.inj ho).symm
              have d16 : vs 16 = (.bool false) := hd ⟨16, .data⟩ (by simp) rfl
              have d33 : vs 33 = (.bool false) := hd ⟨33, .data⟩ (by simp) rfl
              clear hd ho
              have h111 := G.h (j := 16) (d := 111) rfl (by decide) d16
              have h128 := G.h (j := 33) (d := 128) rfl (by decide) d33
              refine step_open rfl ?_
              clear G
              exact step_run (v := (.bool false)) (by go_simp) rfl
            | n + 35 =>
              intro ho hd
              simp at ho
          intro vs13 w5 hb hR
          have hvv : vs13 34 = .bool false := hR 34 (by simp)
          have HB5 := Lib.hid (HBK.out.trans (hb.mono HBK.out.size))
          simp only [putAll, Act.put, List.setIfInBounds_toArray, List.set_cons_succ, List.set_cons_zero, Nat.zero_add, Nat.reduceAdd]
          rw [hvv]
          clear hR hb hvv
          go_wp2_with fail
          go_roundw
          case rel => exact ⟨k + 1, by omega, by go_num, HB5.out⟩
          case measure => simp only [intOf]; omega
        · obtain rfl : k = n := by omega
          have HBE := Lib.hid (HB4.out.trans (hbk.mono HB4.out.size))
          go_wp2_with fail
          go_roundw
          case rel => exact ⟨i + 1, by omega, by go_num, HBE.out⟩
          case measure => simp only [intOf]; omega
    · obtain rfl : i = L := by omega
      have HBE := Lib.hid (HB2.out.trans (hbr.mono HB2.out.size))
      clear hbr
      go_wp2_with fail
      go_returns
      exact ⟨rfl, HBE.out⟩
end Go.Proofs.YtoadihebdaooaaaGreat
