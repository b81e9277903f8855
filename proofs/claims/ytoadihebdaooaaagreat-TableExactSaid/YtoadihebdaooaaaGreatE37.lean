/- Contract of the reference's sorted. Printed by mkZJ.py. · How the arguments of TableExact are read: numbers, parts, deeds; nil is nil. -/
import Derived.Test.YtoadihebdaooaaaGreatE35
import Derived.Test.YtoadihebdaooaaaGreatE36
import Derived.Test.YtoadihebdaooaaaGreatE22
namespace Go.Proofs.YtoadihebdaooaaaGreat
open Go.RowKit
set_option linter.unusedVariables false
theorem Tryz.infoInt16 : (Tryz.prog.info? 148).map (fun i => (i.zero, i.size, i.bytes)) = some (some (.agg #[.bool false, .int .u64 0, .int .u64 0]), 3, 24) := by kernel_rfl
/-- The parts in the order of the ids; none: one of them isn't there just once. -/
def sortGo : List Int → List (Int × List WI) → List (Int × List WI) → Option (List (Int × List WI))
  | [], _, out => some out
  | id :: r, ps, out => if (ps.filter fun p => p.1 == id).length = 1 then sortGo r ps (out ++ ps.filter fun p => p.1 == id) else none
def sortF (ids : List Int) (ps : List (Int × List WI)) : Option (List (Int × List WI)) := if ps.length ≠ ids.length then none else sortGo ids ps []
theorem filter_snoc {α : Type} {p : α → Bool} {l : List α} {k : Nat} {x : α} (h : l[k]? = some x) : (l.take (k + 1)).filter p = (l.take k).filter p ++ (if p x then [x] else []) := by
  rw [take_snoc h, List.filter_append]
  cases hp : p x <;> simp [hp]
theorem intL_one {xs : List WI} : ∀ u ∈ xs.flatMap intL, u.oneCell' = true := by
  intro u hu
  obtain ⟨x, _, hx⟩ := List.mem_flatMap.1 hu
  simp only [intL, List.mem_cons, List.not_mem_nil, or_false] at hx
  rcases hx with rfl | rfl | rfl <;> rfl
theorem intL_in : ∀ (l : List WI) (j : Nat) (u : Value), (l.flatMap intL)[j]? = some u → ∃ i x, l[i]? = some x ∧ ((j = i * 3 ∧ u = .bool x.neg) ∨ (j = i * 3 + 1 ∧ u = .int .u64 x.hi) ∨ (j = i * 3 + 2 ∧ u = .int .u64 x.lo))
  | [], j, u, h => by simp at h
  | y :: r, j, u, h => by
    rw [List.flatMap_cons] at h
    have hl : (intL y).length = 3 := rfl
    rcases Nat.lt_or_ge j 3 with hlt | hge
    · rw [List.getElem?_append_left (by omega)] at h
      rcases (by omega : j = 0 ∨ j = 1 ∨ j = 2) with rfl | rfl | rfl <;> cases h
      · exact ⟨0, y, rfl, .inl ⟨rfl, rfl⟩⟩
      · exact ⟨0, y, rfl, .inr (.inl ⟨rfl, rfl⟩)⟩
      · exact ⟨0, y, rfl, .inr (.inr ⟨rfl, rfl⟩)⟩
    · rw [List.getElem?_append_right (by omega), hl] at h
      obtain ⟨i, x, hx, hc⟩ := intL_in r (j - 3) u h
      refine ⟨i + 1, x, by simpa using hx, ?_⟩
      rcases hc with ⟨h1, h2⟩ | ⟨h1, h2⟩ | ⟨h1, h2⟩
      · exact .inl ⟨by omega, h2⟩
      · exact .inr (.inl ⟨by omega, h2⟩)
      · exact .inr (.inr ⟨by omega, h2⟩)
theorem IntsAt.src {B : Nat} {w : World} {a : Option Addr} {len cap : Nat} {xs : List WI} (h : IntsAt B w a len cap xs) (hn : a = none → len = 0 ∧ cap = 0) : SrcAt w 3 a len cap (xs.flatMap intL) := by
  obtain ⟨h1, h2, h3, h4, h5⟩ := h
  refine ⟨by rw [intL_len, h1], intL_one, ?_⟩
  cases a with
  | none => obtain ⟨e1, e2⟩ := hn rfl; exact .inl ⟨rfl, e1, e2⟩
  | some ad =>
    refine .inr ⟨ad, rfl, fun j u hu => ?_⟩
    rcases h5 with h5 | ⟨b, off, ha, _, hc⟩
    · obtain rfl : xs = [] := List.eq_nil_of_length_eq_zero (by omega)
      simp at hu
    · cases ha
      obtain ⟨i, x, hx, hcs⟩ := intL_in xs j u hu
      obtain ⟨c0, c1, c2⟩ := hc i x hx
      have e : (⟨b, off, none⟩ : Addr).add j = ⟨b, off + j, none⟩ := by
        unfold Addr.add; split <;> simp_all
      rw [e]
      rcases hcs with ⟨rfl, rfl⟩ | ⟨rfl, rfl⟩ | ⟨rfl, rfl⟩
      · exact c0
      · rw [← Nat.add_assoc]; exact c1
      · rw [← Nat.add_assoc]; exact c2
theorem PO.snoc {U : Nat} {w w' : World} {a a' : Option Addr} {n c c' : Nat} {ps : List PW} {p : PW} (h : PO U w a n c ps) (hg : w.grownBy w' (Value.slice a n c).ownBlock) (hown : w'.ownsRow U 85 2 (.slice a' (n + 1) c') (n + 1) (ps.flatMap partL ++ partL p))
    (hv : w.ownsRow U 148 3 (.slice p.va p.vl p.vc) p.vl (p.val.flatMap intL)) (hl : p.val.length = p.vl) (hw : ∀ y ∈ p.val, y.wf) : PO U w' a' (n + 1) c' (ps ++ [p]) := by
  refine ⟨by rw [List.flatMap_append, List.flatMap_singleton]; exact hown, fun q hq => ?_, by rw [List.length_append, h.len]; rfl⟩
  rcases List.mem_append.1 hq with hq | hq
  · exact ⟨(h.vals q hq).1.kept hg (ownsRow_ne (h.vals q hq).1 h.row (by decide)), (h.vals q hq).2⟩
  · obtain rfl : q = p := List.mem_singleton.1 hq
    exact ⟨hv.kept hg (ownsRow_ne hv h.row (by decide)), hl, hw⟩
theorem wp_run {P : Program} {A : Act} {w : World} {K : Act → World → Prop} {Q : Exit → Act → World → Prop} {o : Oper} {v : Value} (hv : (execOp A.eval o).run P w = .ok (.value v) w) (h : K (A.put o.dst v) w) : o.wp P A w K Q := by
  unfold Oper.wp
  rw [hv]
  exact h
def NilInts (ps : List PW) : Prop := ∀ p ∈ ps, p.va = none → p.vl = 0 ∧ p.vc = 0
def sort_list (oa : Option Addr) (m' oc pb po n pc k : Nat) (pcomp : Int) (U : Nat) (xl : Nat) (xv : List WI) (xa : Option Addr) (xc : Nat) : List (Value → World → Prop) :=
  [IsV (.slice oa m' oc),
   IsV (.slice (some ⟨pb, po, none⟩) n pc),
   IsV (.int .i64 (k : Int)),
   IsV (.pointer (some ⟨pb, po + k * 2, none⟩)),
   IsV (.pointer (some ⟨pb, po + k * 2, none⟩)),
   IsV (.int .i64 pcomp),
   IsEmp U 148 3,
   IsV (.slice (some ⟨pb, po, none⟩) n pc),
   IsV (.int .i64 (k : Int)),
   IsV (.pointer (some ⟨pb, po + k * 2, none⟩)),
   IsV (.pointer (some ⟨pb, po + k * 2 + 1, none⟩)),
   IsV (.slice xa xl xc),
   IsRowO U 148 3 xl (xv.flatMap intL),
   IsWith U 148 3 xl (xv.flatMap intL) (fun va vc => .agg #[.int .i64 pcomp, .slice va xl vc]),
   IsOneW U 148 3 xl (xv.flatMap intL) 85 (fun va vc => #[.int .i64 pcomp, .slice va xl vc])]
theorem sort_list_lasts (oa : Option Addr) (m' oc pb po n pc k : Nat) (pcomp : Int) (U : Nat) (xl : Nat) (xv : List WI) (xa : Option Addr) (xc : Nat) : ∀ p ∈ sort_list oa  m' oc pb po n pc k  pcomp  U  xl  xv  xa  xc , Lasts p := by
  simp only [sort_list, List.mem_cons, List.not_mem_nil, or_false]
  rintro p hp
  repeat (rcases hp with rfl | hp; first | exact lasts_v _ | exact lasts_emp _ _ _ | exact lasts_rowO _ _ _ _ _ | exact lasts_with _ _ _ _ _ _ | exact lasts_oneW _ _ _ _ _ _ _ | exact lasts_one _ _)
set_option maxRecDepth 100000 in
set_option maxHeartbeats 2000000 in
theorem sorted16_any (u : UD) (ids : List Int) (pa : Option Addr) (n pc : Nat) (ps : List PW) (w : World) (hi : w.ownsRow 0 3 1 (.slice u.ia u.il u.ic) u.il (ids.map (.int .i64))) (hl : ids.length = u.il) (hb : u.il ≤ 1000) (hps : PartsAt w.heap.size w pa n pc ps) (hn : n ≤ 1000) (hvl : ∀ p ∈ ps, p.vl ≤ 1000) (hnl : NilInts ps) :
    Calls Tryz.prog 88 #[u.v, .slice pa n pc] w fun e w' => Below w.heap.size w w' ∧ ((sortF ids (cv ps) = none ∧ e = .returned (.tuple #[.slice none 0 0, .bool false])) ∨ ∃ oa oc qs, sortF ids (cv ps) = some (cv qs) ∧ e = .returned (.tuple #[.slice oa qs.length oc, .bool true]) ∧ PO w.heap.size w' oa qs.length oc qs) := by
  obtain ⟨i0, hi0, hz0, hz1, hz2⟩ := info_parts Tryz.infoInt16
  obtain ⟨I1, hi1, hy0, hy1, hy2⟩ := info_parts Tryz.info85
  obtain ⟨ver, ca, cl, cc, ia, il, ic, most, kept, la, ln, lc⟩ := u
  dsimp only [UD.v] at *
  have hpl := hps.1
  have hU := heap_alloc_new w (.cells #[.int .i64 ver, .slice ca cl cc, .slice ia il ic, .int .i64 most, .int .i64 kept, .slice la ln lc] 99)
  have hb0 : Below w.heap.size w (w.alloc (.cells #[.int .i64 ver, .slice ca cl cc, .slice ia il ic, .int .i64 most, .int .i64 kept, .slice la ln lc] 99)) := by go_grown
  have hz0' := World.size_alloc w (.cells #[.int .i64 ver, .slice ca cl cc, .slice ia il ic, .int .i64 most, .int .i64 kept, .slice la ln lc] 99)
  have HH := Lib.hid (And.intro hU (And.intro hb0 (And.intro (ownsRow_below hi hb0) hz0')))
  have HL := Lib.hid (And.intro hl (And.intro hpl (And.intro hvl hnl)))
  have HPS := Lib.hid hps
  clear hi hU hb0 hl hps hz0' hvl hnl
  by_cases hlen : n = il
  · subst hlen
    have HSF : Hid (sortF ids (cv ps) = sortGo ids (cv ps) []) := Lib.hid (by unfold sortF; rw [if_neg (by rw [HL.out.1]; unfold cv; rw [List.length_map, HL.out.2.1]; omega)])
    go_enter Tryz.func88, Tryz.ntmps88
    go_wp2_with fail
    rw [← HH.out.2.2.2]
    generalize w.alloc (.cells #[.int .i64 ver, .slice ca cl cc, .slice ia n ic, .int .i64 most, .int .i64 kept, .slice la ln lc] 99) = W at *
    have c1 := cell_at HH.out.1 2
    simp at c1
    have hul := lt_some HH.out.1
    have hbb : Below W.heap.size W (W.alloc (.cells #[] 85)) := by go_grown
    have hpo0 : PO W.heap.size (W.alloc (.cells #[] 85)) (some ⟨W.heap.size, 0, none⟩) 0 0 [] := ⟨World.ownsRow_made W #[] 0 (Nat.le_refl _) (by simp) (by simp), by simp, rfl⟩
    have HB0 := Lib.hid (And.intro hpo0 hbb)
    clear hbb hpo0
    generalize W.alloc (.cells #[] 85) = W0 at *
    go_loopw [6, 7] (fun out j wr => ∃ (i : Nat) (oa : Option Addr) (m oc : Nat) (qs : List PW), i ≤ n ∧ j = .int .i64 i ∧ out = .slice oa m oc ∧ PO W.heap.size wr oa m oc qs ∧ sortGo ids (cv ps) [] = sortGo (ids.drop i) (cv ps) (cv qs) ∧ m = i ∧ Below W.heap.size W wr) (fun _ j _ => n - (intOf j).toNat)
    case atStart => exact ⟨0, _, 0, 0, [], Nat.zero_le _, rfl, rfl, HB0.out.1, rfl, rfl, HB0.out.2⟩
    case round =>
      obtain ⟨i, oa, m, oc, qs, hi, rfl, rfl, hpo, hgo, hmi, hbr⟩ := hrel
      have HPO := Lib.hid hpo
      have HGO := Lib.hid hgo
      have HBR := Lib.hid hbr
      have c1 := cell_at (keep hbr HH.out.1) 2
      simp at c1
      have hzr := hbr.size
      have hur : w.heap.size < wr.heap.size := by omega
      clear hpo hgo hbr
      by_cases hlt : i < n
      · obtain ⟨id, hid⟩ : ∃ id, ids[i]? = some id := ⟨_, List.getElem?_eq_getElem (by have := HL.out.1; omega)⟩
        have hst := HGO.out
        rw [drop_get hid, sortGo] at hst
        have HST := Lib.hid hst
        have HID := Lib.hid hid
        clear hst hid
        generalize wr = W1 at *
        go_wp2_with fail
        clear c1
        go_loopw [6, 8, 9] (fun out cn j ws => ∃ (k c : Nat) (oa : Option Addr) (m' oc : Nat) (rs : List PW), k ≤ n ∧ j = .int .i64 k ∧ cn = .int .i64 c ∧ out = .slice oa m' oc ∧ PO W.heap.size ws oa m' oc rs ∧ cv rs = cv qs ++ ((cv ps).take k).filter (fun p => p.1 == id) ∧ c = (((cv ps).take k).filter (fun p => p.1 == id)).length ∧ m' = m + c ∧ c ≤ k ∧ Below W.heap.size W ws) (fun _ _ j _ => n - (intOf j).toNat)
        case atStart => exact ⟨0, 0, oa, m, oc, qs, Nat.zero_le _, rfl, rfl, rfl, HPO.out, by simp, by simp, rfl, Nat.le_refl _, HBR.out⟩
        case round =>
          obtain ⟨k, c, oa, m', oc, rs, hk, rfl, rfl, rfl, hpo, hcv, hcn, hmc, hck, hbs⟩ := hrel
          have HPK := Lib.hid hpo
          have HCV := Lib.hid (And.intro hcv hcn)
          have HBS := Lib.hid hbs
          have hus := keep hbs HH.out.1
          have c1 := cell_at hus 2
          simp at c1
          have hzs := hbs.size
          have hur' : w.heap.size < wr.heap.size := by omega
          have HUS := Lib.hid hus
          clear hpo hcv hcn hus
          by_cases hlk : k < n
          · have hbw := HH.out.2.1.trans (hbs.mono HH.out.2.1.size)
            obtain ⟨pb, po, p, rfl, hpB, hp, hpI, p0, p1⟩ := HPS.out.get hbw hlk
            have hcp : (cv ps)[k]? = some (p.comp, p.val) := by unfold cv; rw [List.getElem?_map, hp]; rfl
            have hids := ownsRow_below HH.out.2.2.1 hbs
            obtain ⟨ib, rfl, _, hil, hic⟩ := row_block hids (by omega)
            have z0 := hic i (.int .i64 id) (by rw [List.getElem?_map, HID.out]; rfl)
            have i1 : (0 : Int) ≤ (i : Int) := by omega
            have i2 : (i : Int) < (n : Int) := by omega
            have i3 : (0 : Int) ≤ (k : Int) := by omega
            have i4 : (k : Int) < (n : Int) := by omega
            have hpl := HL.out.2.2.1 p (List.mem_of_getElem? hp)
            have hpn := HL.out.2.2.2 p (List.mem_of_getElem? hp)
            have HPI := Lib.hid (And.intro hpI hpn)
            have HCP := Lib.hid hcp
            have HIC := Lib.hid hids
            have HFS := Lib.hid (filter_snoc (p := fun q : Int × List WI => q.1 == id) hcp)
            clear hbw hp hpI hcp hic hpn hids hbs
            obtain ⟨pcomp, xa, xl, xc, xv⟩ := p
            dsimp only at p0 p1 HPI HCP HFS hpl
            by_cases he : pcomp = id
            · subst he
              have hfs := HFS.out
              simp only [BEq.rfl, if_true] at hfs
              have HF2 := Lib.hid hfs
              clear hfs HFS
              have hw1 : IntKind.i64.wrap ((c : Int) + 1) = ((c + 1 : Nat) : Int) := by rw [IntWalk.i64_in _ (by omega)]; omega
              generalize wr = W2 at *
              go_wp2_with fail
              go_quiet (fail)
              go_wp2_with fail
              have HPK2 := Lib.hid (HPK.out.below (below_drewN (Below.refl _ W2) nq))
              have HBS2 := Lib.hid (below_drewN HBS.out nq)
              have HPI2 := Lib.hid (And.intro (HPI.out.1.below ((below_drewN (Below.refl _ W2) nq).mono (show w.heap.size ≤ W2.heap.size by omega))) HPI.out.2)
              have hpB2 : pb < W2.heap.size := by have := HBS.out.size; have := HH.out.2.1.size; omega
              obtain ⟨U, hUe⟩ : ∃ U, W.heap.size = U := ⟨_, rfl⟩
              have hUz : U ≤ W2.heap.size := by rw [← hUe]; exact HBS.out.size
              rw [hUe] at HPK2 HBS2
              refine wp_region_tail 15 (by kernel_rfl) (by kernel_rfl) (by kernel_rfl) (by decide) (by kernel_rfl) (byList (sort_list oa m' oc pb po n pc k pcomp U xl xv xa xc)) (lasts_list (sort_list_lasts oa m' oc pb po n pc k pcomp U xl xv xa xc)) ?_ ?_
              · intro vs w' iq o A hi F hb ho hd
                have m6 : A.tmps[6]?.getD undef = (.slice oa m' oc) := F.m (by kernel_rfl) rfl
                have m1 : A.tmps[1]?.getD undef = (.slice (some ⟨pb, po, none⟩) n pc) := F.m (by kernel_rfl) rfl
                have m9 : A.tmps[9]?.getD undef = (.int .i64 (k : Int)) := F.m (by kernel_rfl) rfl
                have G := F.light (n := 62) (by kernel_rfl)
                clear F
                have hdz : (World.drewN W2 nq).heap.size = W2.heap.size := by simp
                have hwz : w.heap.size ≤ (World.drewN W2 nq).heap.size := by omega
                have hz' := hb.size
                have z0 := (hb.cell (p := ⟨pb, _, none⟩) (show pb < (World.drewN W2 nq).heap.size by simpa using hpB2)).trans ((show (World.drewN W2 nq).cell? ⟨pb, po + k * 2, none⟩ = _ from p0))
                have z1 := (hb.cell (p := ⟨pb, _, none⟩) (show pb < (World.drewN W2 nq).heap.size by simpa using hpB2)).trans ((show (World.drewN W2 nq).cell? ⟨pb, po + k * 2 + 1, none⟩ = _ from p1))
                revert hi ho hd
                match iq with
                | 0 =>
                  intro _ ho hd
                  obtain rfl := (Option.some.inj ho).symm
                  clear hd ho
                  refine step_open rfl ?_
                  clear G
                  exact step_run (v := (.slice oa m' oc)) (by go_simp) rfl
                | 1 =>
                  intro _ ho hd
                  obtain rfl := (Option.some.inj ho).symm
                  clear hd ho
                  refine step_open rfl ?_
                  clear G
                  exact step_run (v := (.slice (some ⟨pb, po, none⟩) n pc)) (by go_simp) rfl
                | 2 =>
                  intro _ ho hd
                  obtain rfl := (Option.some.inj ho).symm
                  clear hd ho
                  refine step_open rfl ?_
                  clear G
                  exact step_run (v := (.int .i64 (k : Int))) (by go_simp) rfl
                | 3 =>
                  intro _ ho hd
                  obtain rfl := (Option.some.inj ho).symm
                  have d1 : vs 1 = (.slice (some ⟨pb, po, none⟩) n pc) := hd ⟨1, .data⟩ (by simp) rfl
                  have d2 : vs 2 = (.int .i64 (k : Int)) := hd ⟨2, .data⟩ (by simp) rfl
                  clear hd ho
                  have h44 := G.h (j := 1) (d := 44) rfl (by decide) d1
                  have h45 := G.h (j := 2) (d := 45) rfl (by decide) d2
                  refine step_open rfl ?_
                  clear G
                  exact step_run (v := (.pointer (some ⟨pb, po + k * 2, none⟩))) (by go_simp) rfl
                | 4 =>
                  intro _ ho hd
                  obtain rfl := (Option.some.inj ho).symm
                  have d3 : vs 3 = (.pointer (some ⟨pb, po + k * 2, none⟩)) := hd ⟨3, .data⟩ (by simp) rfl
                  clear hd ho
                  have h46 := G.h (j := 3) (d := 46) rfl (by decide) d3
                  refine step_open rfl ?_
                  clear G
                  exact step_run (v := (.pointer (some ⟨pb, po + k * 2, none⟩))) (by go_simp) rfl
                | 5 =>
                  intro _ ho hd
                  obtain rfl := (Option.some.inj ho).symm
                  have d4 : vs 4 = (.pointer (some ⟨pb, po + k * 2, none⟩)) := hd ⟨4, .data⟩ (by simp) rfl
                  clear hd ho
                  have h47 := G.h (j := 4) (d := 47) rfl (by decide) d4
                  refine step_open rfl ?_
                  clear G
                  exact step_run (v := (.int .i64 pcomp)) (by go_simp) rfl
                | 6 =>
                  intro _ ho hd
                  obtain rfl := (Option.some.inj ho).symm
                  clear hd ho
                  refine step_open rfl ?_
                  clear G
                  go_simp
                  exact ⟨_, rfl, (show IsEmp _ _ _ _ _ from isEmp_new (by omega)), by go_grown⟩
                | 7 =>
                  intro _ ho hd
                  obtain rfl := (Option.some.inj ho).symm
                  clear hd ho
                  refine step_open rfl ?_
                  clear G
                  exact step_run (v := (.slice (some ⟨pb, po, none⟩) n pc)) (by go_simp) rfl
                | 8 =>
                  intro _ ho hd
                  obtain rfl := (Option.some.inj ho).symm
                  clear hd ho
                  refine step_open rfl ?_
                  clear G
                  exact step_run (v := (.int .i64 (k : Int))) (by go_simp) rfl
                | 9 =>
                  intro _ ho hd
                  obtain rfl := (Option.some.inj ho).symm
                  have d7 : vs 7 = (.slice (some ⟨pb, po, none⟩) n pc) := hd ⟨7, .data⟩ (by simp) rfl
                  have d8 : vs 8 = (.int .i64 (k : Int)) := hd ⟨8, .data⟩ (by simp) rfl
                  clear hd ho
                  have h50 := G.h (j := 7) (d := 50) rfl (by decide) d7
                  have h51 := G.h (j := 8) (d := 51) rfl (by decide) d8
                  refine step_open rfl ?_
                  clear G
                  exact step_run (v := (.pointer (some ⟨pb, po + k * 2, none⟩))) (by go_simp) rfl
                | 10 =>
                  intro _ ho hd
                  obtain rfl := (Option.some.inj ho).symm
                  have d9 : vs 9 = (.pointer (some ⟨pb, po + k * 2, none⟩)) := hd ⟨9, .data⟩ (by simp) rfl
                  clear hd ho
                  have h52 := G.h (j := 9) (d := 52) rfl (by decide) d9
                  refine step_open rfl ?_
                  clear G
                  exact step_run (v := (.pointer (some ⟨pb, po + k * 2 + 1, none⟩))) (by go_simp) rfl
                | 11 =>
                  intro _ ho hd
                  obtain rfl := (Option.some.inj ho).symm
                  have d10 : vs 10 = (.pointer (some ⟨pb, po + k * 2 + 1, none⟩)) := hd ⟨10, .data⟩ (by simp) rfl
                  clear hd ho
                  have h53 := G.h (j := 10) (d := 53) rfl (by decide) d10
                  refine step_open rfl ?_
                  clear G
                  exact step_run (v := (.slice xa xl xc)) (by go_simp) rfl
                | 12 =>
                  intro _ ho hd
                  obtain rfl := (Option.some.inj ho).symm
                  obtain ⟨q6, d6, own6⟩ : IsEmp U 148 3 (vs 6) w' := hd ⟨6, .data⟩ (by simp) rfl
                  have d11 : vs 11 = (.slice xa xl xc) := hd ⟨11, .data⟩ (by simp) rfl
                  clear hd ho
                  have h49 := G.h (j := 6) (d := 49) rfl (by decide) d6
                  have h54 := G.h (j := 11) (d := 54) rfl (by decide) d11
                  refine step_open rfl ?_
                  clear G
                  refine wp_append_fresh (.tmp 49) (.tmp 54) 83 rfl 148 i0 (.agg #[.bool false, .int .u64 0, .int .u64 0]) 3 24 Tryz.underlying83 hi0 hz0 hz1 hz2 rfl (by decide) U q6 (eval_of h49) own6 xa xl xc (xv.flatMap intL) (eval_of h54) (IntsAt.src (HPI2.out.1.below (hb.mono hwz)) HPI2.out.2) (by unfold maxLen; omega) (by omega) (by omega) (fun va vc w9 h1 h2 => (show IsRowO _ _ _ _ _ _ _ from ⟨va, vc, rfl, h1⟩))
                | 13 =>
                  intro _ ho hd
                  obtain rfl := (Option.some.inj ho).symm
                  have d5 : vs 5 = (.int .i64 pcomp) := hd ⟨5, .data⟩ (by simp) rfl
                  obtain ⟨va, vc, d12, own12⟩ : IsRowO U 148 3 xl (xv.flatMap intL) (vs 12) w' := hd ⟨12, .data⟩ (by simp) rfl
                  clear hd ho
                  have h48 := G.h (j := 5) (d := 48) rfl (by decide) d5
                  have h55 := G.h (j := 12) (d := 55) rfl (by decide) d12
                  refine step_open rfl ?_
                  clear G
                  go_simp
                  exact ⟨_, rfl, (show IsWith _ _ _ _ _ _ _ _ from ⟨va, vc, rfl, own12⟩), Below.refl _ _⟩
                | 14 =>
                  intro _ ho hd
                  obtain rfl := (Option.some.inj ho).symm
                  obtain ⟨va, vc, d13, own13⟩ : IsWith U 148 3 xl (xv.flatMap intL) (fun va vc => .agg #[.int .i64 pcomp, .slice va xl vc]) (vs 13) w' := hd ⟨13, .data⟩ (by simp) rfl
                  clear hd ho
                  have h56 := G.h (j := 13) (d := 56) rfl (by decide) d13
                  refine step_open rfl ?_
                  clear G
                  go_simp
                  exact ⟨_, rfl, (show IsOneW _ _ _ _ _ _ _ _ _ from isOneW_new own13), by go_grown⟩
                | n + 15 =>
                  intro hi
                  exfalso
                  omega
              · intro vs w6 A hA F hb hR
                obtain ⟨va, vc, q14, d14, hq14, own14⟩ : IsOneW U 148 3 xl (xv.flatMap intL) 85 (fun va vc => #[.int .i64 pcomp, .slice va xl vc]) (vs 14) w6 := hR 14 (by decide)
                have d0 : vs 0 = (.slice oa m' oc) := hR 0 (by decide)
                have G := F.light (n := 62) (by kernel_rfl)
                have h43 := G.h (j := 0) (d := 43) rfl (by decide) d0
                have h57 := G.h (j := 14) (d := 57) rfl (by decide) d14
                have HP6 := Lib.hid (HPK2.out.below hb)
                have HB6 := Lib.hid (HBS2.out.trans (hb.mono (by simp; omega)))
                clear G F hR d14 d0 hb
                simp only [List.drop_succ_cons, List.drop_zero, wpTail]
                refine wp_append_src (.tmp 43) (.tmp 57) 70 rfl U 85 I1 (.agg #[.int .i64 0, .slice none 0 0]) 2 32 Tryz.underlying70 hi1 hy0 hy1 hy2 rfl (by decide) _ m' (rs.flatMap partL) (eval_of h43) HP6.out.row (some ⟨q14, 0, none⟩) 1 1 _ (eval_of h57) (src_one hq14 rfl rfl) (by unfold maxLen; omega) (by omega) (by have := HB6.out.size; omega) ?_
                intro v' w7 hown7 hg7
                obtain ⟨oa', oc', hv'⟩ := ownsRow_slice hown7
                rw [hv'] at hown7 ⊢
                clear hv' h43 h57
                have HP7 := Lib.hid (PO.snoc (p := ⟨pcomp, va, xl, vc, xv⟩) HP6.out hg7 hown7 own14 HPI2.out.1.1 HPI2.out.1.2.2.2.1)
                have HB7 := Lib.hid (HB6.out.trans ((below_own HP6.out.row hg7 (by have := HB6.out.size; omega)).mono (Nat.le_refl _)))
                subst hA
                clear hown7 hg7 hq14 own14 HP6 HB6
                refine wp_run (v := .slice oa' (m' + 1) oc') (by simp only [putAll, Act.put, List.setIfInBounds_toArray, List.set_cons_succ, List.set_cons_zero]; go_simp) ?_
                simp only [putAll, Act.put, List.setIfInBounds_toArray, List.set_cons_succ, List.set_cons_zero]
                go_wp2_with fail
                subst hUe
                go_roundw
                case rel => exact ⟨k + 1, c + 1, oa', m' + 1, oc', rs ++ [⟨pcomp, va, xl, vc, xv⟩], by omega, by go_num, rfl, rfl, HP7.out, by rw [HF2.out, ← List.append_assoc, ← HCV.out.1]; simp [cv], by rw [HF2.out, List.length_append, ← HCV.out.2]; rfl, by omega, by omega, HB7.out⟩
                case measure => simp only [intOf]; omega
            · have hfs := HFS.out
              have e1 : (pcomp == id) = false := by rw [beq_eq_false_iff_ne]; exact he
              simp only [e1, if_false, Bool.false_eq_true, List.append_nil] at hfs
              have HF2 := Lib.hid hfs
              clear hfs HFS he
              go_wp2_with fail
              go_quiet (fail)
              go_wp2_with fail
              go_roundw
              case rel => exact ⟨k + 1, c, oa, m', oc, rs, by omega, by go_num, rfl, rfl, HPK.out.below (below_drewN (Below.refl _ _) _), by rw [HCV.out.1, HF2.out], by rw [HF2.out]; exact HCV.out.2, hmc, by omega, below_drewN HBS.out _⟩
              case measure => simp only [intOf]; omega
          · obtain rfl : k = n := by omega
            have hfl : (cv ps).take k = cv ps := List.take_of_length_le (by unfold cv; rw [List.length_map, HL.out.2.1]; exact Nat.le_refl _)
            obtain ⟨hcv, hcn⟩ := HCV.out
            rw [hfl] at hcv hcn
            by_cases h1 : c = 1
            · subst h1
              have HNX : Hid (sortGo ids (cv ps) [] = sortGo (ids.drop (i + 1)) (cv ps) (cv rs)) := Lib.hid (by rw [HST.out, if_pos hcn.symm, hcv])
              clear hcv hcn hfl
              go_wp2_with fail
              go_roundw
              case rel => exact ⟨i + 1, oa, m', oc, rs, by omega, by go_num, rfl, HPK.out, HNX.out, by omega, HBS.out⟩
              case measure => simp only [intOf]; omega
            · have HNO : Hid (sortF ids (cv ps) = none) := Lib.hid (by rw [HSF.out, HST.out, if_neg (by rw [← hcn]; exact h1)])
              have e1 : ((c : Int) != 1) = true := by rw [bne_iff_ne]; omega
              have HBE := Lib.hid (HH.out.2.1.trans (HBS.out.mono HH.out.2.1.size))
              clear hcv hcn hfl h1
              go_wp2_with fail
              go_ret2
              exact ⟨HBE.out, .inl ⟨HNO.out, rfl⟩⟩
      · obtain rfl : i = n := by omega
        have HT : Hid (sortF ids (cv ps) = some (cv qs)) := Lib.hid (by rw [HSF.out, HGO.out, List.drop_eq_nil_of_le (by rw [HL.out.1]; exact Nat.le_refl _)]; rfl)
        have HBE := Lib.hid (HH.out.2.1.trans (HBR.out.mono HH.out.2.1.size))
        have hqm : qs.length = m := HPO.out.len
        subst hqm
        go_wp2_with fail
        go_ret2
        exact ⟨HBE.out, .inr ⟨oa, oc, qs, HT.out, rfl, HPO.out.mono HH.out.2.1.size⟩⟩
  · have HNO : Hid (sortF ids (cv ps) = none) := Lib.hid (by unfold sortF; rw [if_pos (by rw [HL.out.1]; unfold cv; rw [List.length_map, HL.out.2.1]; exact hlen)])
    have e1 : ((n : Int) != (il : Int)) = true := by rw [bne_iff_ne]; omega
    clear hlen
    go_enter Tryz.func88, Tryz.ntmps88
    go_wp2_with fail
    go_ret2
    exact ⟨HH.out.2.1, .inl ⟨HNO.out, rfl⟩⟩
end Go.Proofs.YtoadihebdaooaaaGreat
namespace Go.Proofs.YtoadihebdaooaaaGreat
open Go.ChangeShapes Go.WideShapes Go.RowKit Go.Deep
set_option linter.unusedVariables false
section
variable {H : Type} {enc : TypeId × Value → H} {w : World} {base : Nat} {spare : Nat → Bool} {held : Bool}
theorem open_ints16n {fuel : Nat} {v : Value} {x : DataW H × List MemPlace} (h : DataW.trod enc Tryz.prog w base spare held fuel 83 [v] = some x) :
    ∃ a len cap xs, v = .slice a len cap ∧ IntsAt w.heap.size w a len cap xs ∧ (a = none → len = 0 ∧ cap = 0) := by
  obtain ⟨fds, hu, hone, hC, hsz, g0, g1, g2⟩ := Tryz.one148
  rcases open_elems Tryz.underlying83 hu hone hC (by omega) h with h1 | ⟨b, off, sp, len, cap, h1, hlm, hlc, hsp, hel⟩
  · cases h1
    exact ⟨none, 0, 0, [], rfl, ⟨rfl, Nat.le_refl _, by unfold maxLen; omega, by simp, .inl rfl⟩, fun _ => ⟨rfl, rfl⟩⟩
  · cases h1
    obtain ⟨f0, q0, r0⟩ := field_of g0
    obtain ⟨f1, q1, r1⟩ := field_of g1
    obtain ⟨f2, q2, r2⟩ := field_of g2
    obtain ⟨l, hl, hp⟩ := list_of (fun i (y : WI) => (w.cell? ⟨b, off + i * 3, none⟩ = some (.bool y.neg) ∧ w.cell? ⟨b, off + i * 3 + 1, none⟩ = some (.int .u64 y.hi) ∧ w.cell? ⟨b, off + i * 3 + 2, none⟩ = some (.int .u64 y.lo)) ∧ y.wf) len (by
      intro i hi
      obtain ⟨v0, y0, n0, c0, t0⟩ := hel i hi 0 f0 q0
      obtain ⟨v1, y1, n1, c1, t1⟩ := hel i hi 1 f1 q1
      obtain ⟨v2, y2, n2, c2, t2⟩ := hel i hi 2 f2 q2
      rw [r0] at t0; rw [r1] at t1; rw [r2] at t2
      obtain ⟨a0, e0, _⟩ := DataW.trod_bool Tryz.underlying4 t0
      obtain ⟨a1, e1, _, w1⟩ := DataW.trod_int Tryz.underlying60 t1
      obtain ⟨a2, e2, _, w2⟩ := DataW.trod_int Tryz.underlying60 t2
      cases e0; cases e1; cases e2
      rw [hsz] at c0 c1 c2
      exact ⟨⟨a0, a1, a2⟩, ⟨c0, c1, c2⟩, u64_of w1, u64_of w2⟩)
    refine ⟨some ⟨b, off, sp⟩, len, cap, l, rfl, ⟨hl, hlc.1, hlc.2, fun y hy => ?_, ?_⟩, fun hh => by cases hh⟩
    · obtain ⟨i, hi⟩ := List.getElem?_of_mem hy
      exact (hp i y hi).2
    · by_cases h0 : len = 0
      · exact .inl h0
      · obtain ⟨rfl, hb⟩ := hsp (by omega)
        exact .inr ⟨b, off, rfl, hb, fun i y hy => (hp i y hy).1⟩
theorem open_partsn {fuel : Nat} {v : Value} {x : DataW H × List MemPlace} (h : DataW.trod enc Tryz.prog w base spare held fuel 70 [v] = some x) :
    ∃ a len cap ps, v = .slice a len cap ∧ PartsAt w.heap.size w a len cap ps ∧ NilInts ps := by
  obtain ⟨fds, hu, hone, hC, hsz, g0, g1⟩ := Tryz.one85
  rcases open_elems Tryz.underlying70 hu hone hC (by omega) h with h1 | ⟨b, off, sp, len, cap, h1, hlm, hlc, hsp, hel⟩
  · cases h1
    exact ⟨none, 0, 0, [], rfl, ⟨rfl, Nat.le_refl _, by unfold maxLen; omega, by simp, .inl rfl⟩, fun p hp => by cases hp⟩
  · cases h1
    obtain ⟨f0, q0, r0⟩ := field_of g0
    obtain ⟨f1, q1, r1⟩ := field_of g1
    obtain ⟨l, hl, hp⟩ := list_of (fun i (p : PW) => (w.cell? ⟨b, off + i * 2, none⟩ = some (.int .i64 p.comp) ∧ w.cell? ⟨b, off + i * 2 + 1, none⟩ = some (.slice p.va p.vl p.vc)) ∧ IntsAt w.heap.size w p.va p.vl p.vc p.val ∧ (p.va = none → p.vl = 0 ∧ p.vc = 0)) len (by
      intro i hi
      obtain ⟨v0, y0, n0, c0, t0⟩ := hel i hi 0 f0 q0
      obtain ⟨v1, y1, n1, c1, t1⟩ := hel i hi 1 f1 q1
      rw [r0] at t0; rw [r1] at t1
      obtain ⟨a0, e0, _, _⟩ := DataW.trod_int Tryz.underlying3 t0
      obtain ⟨va, vl, vc, xs, e1, hv, hn⟩ := open_ints16n t1
      cases e0; subst e1
      rw [hsz] at c0 c1
      exact ⟨⟨a0, va, vl, vc, xs⟩, ⟨c0, c1⟩, hv, hn⟩)
    refine ⟨some ⟨b, off, sp⟩, len, cap, l, rfl, ⟨hl, hlc.1, hlc.2, fun y hy => ?_, ?_⟩, fun y hy => ?_⟩
    · obtain ⟨i, hi⟩ := List.getElem?_of_mem hy
      exact (hp i y hi).2.1
    · by_cases h0 : len = 0
      · exact .inl h0
      · obtain ⟨rfl, hb⟩ := hsp (by omega)
        exact .inr ⟨b, off, rfl, hb, fun i y hy => (hp i y hy).1⟩
    · obtain ⟨i, hi⟩ := List.getElem?_of_mem hy
      exact (hp i y hi).2.2
theorem open_tactsn {fuel : Nat} {v : Value} {x : DataW H × List MemPlace} (h : DataW.trod enc Tryz.prog w base spare held fuel 67 [v] = some x) :
    ∃ a len cap l, v = .slice a len cap ∧ TActsAt w.heap.size w a len l ∧ ∀ y ∈ l, NilInts y.ps := by
  obtain ⟨fds, hu, hone, hC, hsz, g0, g1, g2, g3⟩ := Tryz.one72
  rcases open_elems Tryz.underlying67 hu hone hC (by omega) h with h1 | ⟨b, off, sp, len, cap, h1, hlm, hlc, hsp, hel⟩
  · cases h1
    exact ⟨none, 0, 0, [], rfl, ⟨rfl, by unfold maxLen; omega, by simp, .inl rfl⟩, by simp⟩
  · cases h1
    obtain ⟨f0, q0, r0⟩ := field_of g0
    obtain ⟨f1, q1, r1⟩ := field_of g1
    obtain ⟨f2, q2, r2⟩ := field_of g2
    obtain ⟨f3, q3, r3⟩ := field_of g3
    obtain ⟨l, hl, hp⟩ := list_of (fun i (x : TA) => (w.cell? ⟨b, off + i * 4, none⟩ = some (.int .i64 x.kind) ∧ w.cell? ⟨b, off + i * 4 + 1, none⟩ = some (.int .i64 x.i) ∧ w.cell? ⟨b, off + i * 4 + 2, none⟩ = some (.int .u64 x.e) ∧ w.cell? ⟨b, off + i * 4 + 3, none⟩ = some (.slice x.pa x.pl x.pc)) ∧ PartsAt w.heap.size w x.pa x.pl x.pc x.ps ∧ NilInts x.ps) len (by
      intro i hi
      obtain ⟨v0, y0, n0, c0, t0⟩ := hel i hi 0 f0 q0
      obtain ⟨v1, y1, n1, c1, t1⟩ := hel i hi 1 f1 q1
      obtain ⟨v2, y2, n2, c2, t2⟩ := hel i hi 2 f2 q2
      obtain ⟨v3, y3, n3, c3, t3⟩ := hel i hi 3 f3 q3
      rw [r0] at t0; rw [r1] at t1; rw [r2] at t2; rw [r3] at t3
      obtain ⟨a0, e0, _, _⟩ := DataW.trod_int Tryz.underlying3 t0
      obtain ⟨a1, e1, _, _⟩ := DataW.trod_int Tryz.underlying3 t1
      obtain ⟨a2, e2, _, _⟩ := DataW.trod_int Tryz.underlying60 t2
      obtain ⟨pa, pl, pc, ps, e3, hv, hn⟩ := open_partsn t3
      cases e0; cases e1; cases e2; subst e3
      rw [hsz] at c0 c1 c2 c3
      exact ⟨⟨a0, a1, a2, pa, pl, pc, ps⟩, ⟨c0, c1, c2, c3⟩, hv, hn⟩)
    refine ⟨some ⟨b, off, sp⟩, len, cap, l, rfl, ⟨hl, hlm, fun x hx => ?_, ?_⟩, fun x hx => ?_⟩
    · obtain ⟨i, hi⟩ := List.getElem?_of_mem hx
      exact (hp i x hi).2.1
    · by_cases h0 : len = 0
      · exact .inl h0
      · obtain ⟨rfl, hb⟩ := hsp (by omega)
        exact .inr ⟨b, off, rfl, hb, fun i x hx => (hp i x hx).1⟩
    · obtain ⟨i, hi⟩ := List.getElem?_of_mem hx
      exact (hp i x hi).2.2
end
end Go.Proofs.YtoadihebdaooaaaGreat
