/- The law's switch: Set, whole; the switch. · What the law asks behind each deed. Printed by mkXA.py. · What is asked behind each deed, whole. -/
import Derived.Test.YtoadihebdaooaaaGreatE49
namespace Go.Proofs.YtoadihebdaooaaaGreat
open Go.RowKit
set_option linter.unusedVariables false
section
variable {w0 : World} {UB : Nat} {ver : Int} {a : Option Addr} {len cap : Nat} {cs : List Cmp} {set : Int} {B : Nat} {t : TD} {V : List (List (List WI))} {u : UD} {rs : List URow} {w : World} {X : Nat} {x : TA} {f : Nat → Value} {d : List Deferred} {K : Act → World → Prop} {Q : Exit → Act → World → Prop} {p : PW} {q : Int}
theorem row_cv (hm : MatchR t V u rs) {i : Nat} {r : URow} {R : List (List WI)} (hr : rs[i]? = some r) (hR : V[i]? = some R) (hl : R.length = t.cps.length) : r.ps.length = (t.cps.map (·.c.id)).length ∧ ∀ (k : Nat) (p : PW) (id : Int), (t.cps.map (·.c.id))[k]? = some id → r.ps[k]? = some p → p.comp = id ∧ R[k]? = some p.val := by
  have h := hm.val i r R hr hR
  refine ⟨?_, fun k p id hk hp => ?_⟩
  · have h2 := congrArg List.length h
    rw [rowCv_len hl, cv_len] at h2
    rw [List.length_map]
    exact h2
  · have h2 : (cv r.ps)[k]? = some (p.comp, p.val) := by unfold cv; rw [List.getElem?_map, hp]; rfl
    rw [h] at h2
    unfold rowCv at h2
    rw [List.getElem?_zip_eq_some] at h2
    obtain ⟨h3, h4⟩ := h2
    rw [hk] at h3
    exact ⟨(Option.some.inj h3).symm, h4⟩
theorem sw_setNo (h : XP w0 UB ver a len cap cs set B t V u rs w) (hm : MatchR t V u rs) (hs : AtSw X x t UB f w) (hp : PartsX w0 x) (hk : x.kind = 5) (hl : 0 < x.pl) (hp0 : x.ps[0]? = some p)
    (hT : ∀ W, XP w0 UB ver a len cap cs set B t V u rs W → Calls Tryz.prog 40 #[.pointer (some ⟨t.tb, 0, none⟩), .int .i64 x.i, .agg #[.int .i64 p.comp, .slice p.va p.vl p.vc]] W fun en w' => en = .returned (.int .i64 q) ∧ Below W.heap.size W w')
    (hU : ∀ W, XP w0 UB ver a len cap cs set B t V u rs W → Calls Tryz.prog 50 #[u.v, .int .i64 x.i, .agg #[.int .i64 p.comp, .slice p.va p.vl p.vc]] W fun en w' => Below W.heap.size W w' ∧ en = .returned (.tuple #[u.v, .int .i64 q]))
    (hK : KSw w0 UB ver a len cap cs set B X x f d K) : (piece Tryz.f6 pSw).wp Tryz.prog (Exit.then K Q) ⟨(frX f).toArray, d⟩ w := by
  refine sw_set1 (rs1 := fun _ => rs) (q := q) h (fun z => ⟨hm.len, hm.ln, hm.ent, hm.val, hm.kept, hm.most⟩) rfl hs hp hk hl hp0 (fun W hW => ?_) (fun W hW => ?_) hK
  · refine (hT W (h.below hW)).mono ?_
    rintro en w' ⟨rfl, hb⟩
    exact ⟨rfl, (h.below hW).below hb, (keep hb (keep hW hs.x)).trans hs.x.symm⟩
  · refine (hU W hW).mono ?_
    rintro en w' ⟨hb, rfl⟩
    exact ⟨⟨u.la, u.lc, none, 0, none, 0⟩, rfl, hW.ru.below hb, hb⟩
set_option maxHeartbeats 1000000 in
theorem sw_set (h : XP w0 UB ver a len cap cs set B t V u rs w) (hm : MatchR t V u rs) (hs : AtSw X x t UB f w) (hp : PartsX w0 x) (hcs : CompsAt w0.heap.size w0 a len cs) (hk : x.kind = 5) (hK : KSw w0 UB ver a len cap cs set B X x f d K) : (piece Tryz.f6 pSw).wp Tryz.prog (Exit.then K Q) ⟨(frX f).toArray, d⟩ w := by
  rcases Nat.eq_zero_or_pos x.pl with hl | hl
  · exact sw_set0 h hm hs hk hl hK
  obtain ⟨p, hp0⟩ : ∃ p, x.ps[0]? = some p := ⟨_, List.getElem?_eq_getElem (by have := hp.at_.1; omega)⟩
  have hpm := List.mem_of_getElem? hp0
  obtain ⟨b0, b1, b2, b3, b4, _⟩ := hm.bd h.tab
  by_cases hin : 0 ≤ x.i ∧ x.i < t.ents.length
  · obtain ⟨row, hrow⟩ : ∃ r : Nat, x.i = (r : Int) := ⟨x.i.toNat, by omega⟩
    have hrl : row < t.ents.length := by omega
    obtain ⟨r, hr⟩ : ∃ r, rs[row]? = some r := ⟨_, List.getElem?_eq_getElem (by rw [hm.len]; omega)⟩
    obtain ⟨R, hR⟩ : ∃ R, V[row]? = some R := ⟨_, List.getElem?_eq_getElem (by rw [h.vals.len]; omega)⟩
    have hRl := h.vals.row R (List.mem_of_getElem? hR)
    obtain ⟨hrp, hcmp⟩ := row_cv hm hr hR hRl
    rw [h.uids] at hrp hcmp
    have hU0 := fun (t' : TD) (V' : List (List (List WI))) (W : World) (hW : XP w0 UB ver a len cap cs set B t' V' u rs W) => set16_row u (idsTo set 24) cs rs row p.comp p.va p.vl p.vc p.val r W hW.ids hW.idl (by have := hW.il; omega) (by omega) hW.ru hr hrp (hW.comps hcs)
      (fun hc => by
        rw [List.contains_iff_mem, ← h.uids] at hc
        obtain ⟨y, hy, he⟩ := List.mem_map.1 hc
        exact ⟨y.c, by rw [← he]; exact h.find y hy⟩)
      (fun k q h1 h2 => (hcmp k q _ h1 h2).1) (((hp.at_.2.2.2.1 p hpm).below hW.bel).mono hW.bel.size) (by have := hp.vl p hpm; omega) (hp.nil p hpm)
    rcases part_col p.comp t.cps 0 with ⟨c1, c2⟩ | ⟨j, y, c1, c2, c3, c4, c5⟩
    · rw [h.uids] at c1
      have hfe : findErr t (row : Int) p.comp = 6 := by unfold findErr; rw [if_pos ⟨by omega, by omega⟩, c2]; rfl
      refine sw_setNo (q := 6) h hm hs hp hk hl hp0 (fun W hW => ?_) (fun W hW => ?_) hK
      · have := tabSet_no1 hW.tab (row : Int) p.comp p.va p.vl p.vc (by rw [hfe]; decide)
        rw [hfe] at this
        rw [hrow]
        exact this
      · rw [hrow]
        refine (hU0 t V W hW).mono ?_
        rintro en w' ⟨hb, ⟨_, rfl⟩ | ⟨k, c, _, h2, _⟩⟩
        · exact ⟨hb, rfl⟩
        · rw [c1] at h2; omega
    · rw [Nat.zero_add] at c1
      rw [h.uids] at c1 c2
      have hfind := h.find y (List.mem_of_getElem? c3)
      rw [c5] at hfind
      by_cases hfit : fitF y.c.fields p.val = 0
      · obtain ⟨dd, hd⟩ : ∃ dd, t.cols[j]? = some dd := ⟨_, List.getElem?_eq_getElem (by rw [h.tab.len]; exact (List.getElem?_eq_some_iff.1 c3).1)⟩
        obtain ⟨_, _, _, hdr⟩ := h.tab.col j y dd c3 hd
        have hwf := (hp.at_.2.2.2.1 p hpm).2.2.2.1
        refine sw_set1 (t1 := t.put j row dd (packF y.c.fields p.val)) (V1 := V.set row (R.set j p.val)) (rs1 := fun z => rs.set row ⟨r.e, z.pa, r.pn, z.pc, r.ps.set j ⟨p.comp, z.va, p.vl, z.vc, p.val⟩⟩) (q := 0) h (fun z => ?_) rfl hs hp hk hl hp0 (fun W hW => ?_) (fun W hW => ?_) hK
        · exact hm.put (t' := t.put j row dd (packF y.c.fields p.val)) hr hR (by rw [h.uids]; exact c2) rfl rfl rfl rfl z.la z.lc z.pa z.pc
        · have hx := h.below hW
          rw [hrow]
          refine (tabSet_ok hx.tab row j y dd p.comp p.va p.vl p.vc p.val hrl c4 c3 hd (((hp.at_.2.2.2.1 p hpm).below hx.bel).mono hx.bel.size) hfit).mono ?_
          rintro en w' ⟨rfl, ht, hf, ho⟩
          have ho' : Out t.foot W w' := (Out.refl t.foot W).trans ho (fun b hb => .inl (TabIn.cfoot_foot hb))
          have hxW := keep hW hs.x
          exact ⟨rfl, hx.table ho' ht (Vals.put h.vals hR c3 hd (by rw [hdr]; exact hrl) hfit hwf) rfl rfl, (ho'.keep hxW (hx.not_act hxW)).trans hs.x.symm⟩
        · rw [hrow]
          refine (hU0 _ _ W hW).mono ?_
          rintro en w' ⟨hb, ⟨h1, _⟩ | ⟨k, c, h1, h2, h3, h4⟩⟩
          · rw [c1] at h1; omega
          · obtain rfl : k = j := by rw [c1] at h2; omega
            obtain rfl : c = y.c := by rw [hfind] at h3; exact (Option.some.inj h3).symm
            rcases h4 with ⟨h4, _⟩ | ⟨_, la, lc, pa, pc, va', vc', rfl, hru⟩
            · exact absurd hfit h4
            · exact ⟨⟨la, lc, pa, pc, va', vc'⟩, rfl, hru, hb⟩
      · obtain ⟨q, hq⟩ : ∃ q, fitF y.c.fields p.val = q := ⟨_, rfl⟩
        refine sw_setNo (q := q) h hm hs hp hk hl hp0 (fun W hW => ?_) (fun W hW => ?_) hK
        · have := tabSet_no2 hW.tab row j y p.comp p.va p.vl p.vc p.val hrl c4 c3 (((hp.at_.2.2.2.1 p hpm).below hW.bel).mono hW.bel.size) hfit
          rw [hq] at this
          rw [hrow]
          exact this
        · rw [hrow]
          refine (hU0 _ _ W hW).mono ?_
          rintro en w' ⟨hb, ⟨h1, _⟩ | ⟨k, c, h1, h2, h3, h4⟩⟩
          · rw [c1] at h1; omega
          · obtain rfl : c = y.c := by rw [hfind] at h3; exact (Option.some.inj h3).symm
            rcases h4 with ⟨_, rfl⟩ | ⟨h4, _⟩
            · exact ⟨hb, by rw [hq]⟩
            · exact absurd h4 hfit
  · have hfe : findErr t x.i p.comp = 3 := by unfold findErr; rw [if_neg hin]
    refine sw_setNo (q := 3) h hm hs hp hk hl hp0 (fun W hW => ?_) (fun W hW => ?_) hK
    · have := tabSet_no1 hW.tab x.i p.comp p.va p.vl p.vc (by rw [hfe]; decide)
      rwa [hfe] at this
    · exact set16_no3 u x.i p.comp p.va p.vl p.vc W (by omega) (by rw [hm.ln]; exact hin)
/-- The switch. -/
theorem sw_any (h : XP w0 UB ver a len cap cs set B t V u rs w) (hm : MatchR t V u rs) (hs : AtSw X x t UB f w) (hp : PartsX w0 x) (hcs : CompsAt w0.heap.size w0 a len cs) (hsis : sIs set = true) (hK : KSw w0 UB ver a len cap cs set B X x f d K) : (piece Tryz.f6 pSw).wp Tryz.prog (Exit.then K Q) ⟨(frX f).toArray, d⟩ w := by
  by_cases hn : x.kind < 1 ∨ 9 < x.kind
  · exact sw_none h hm hs hn hK
  · rcases (by omega : x.kind = 1 ∨ x.kind = 2 ∨ x.kind = 3 ∨ x.kind = 4 ∨ x.kind = 5 ∨ x.kind = 6 ∨ x.kind = 7 ∨ x.kind = 8 ∨ x.kind = 9) with hk | hk | hk | hk | hk | hk | hk | hk | hk
    · exact sw_add1 h hm hs hp hcs hsis hk hK
    · exact sw_add2 h hm hs hp hcs hsis hk hK
    · exact sw_add3 h hm hs hp hcs hsis hk hK
    · exact sw_drop h hm hs hk hK
    · exact sw_set h hm hs hp hcs hk hK
    · by_cases hf : t.free = 0
      · exact sw_keep0 h hm hs hk hf hK
      · exact sw_keep1 h hm hs hk hf hK
    · by_cases hf : t.kept = 0
      · exact sw_yield0 h hm hs hk hf hK
      · exact sw_yield1 h hm hs hk hf hK
    · exact sw_clone h hm hs hk hK
    · exact sw_other h hm hs hp hk hK
end
end Go.Proofs.YtoadihebdaooaaaGreat
namespace Go.Proofs.YtoadihebdaooaaaGreat
open Go.RowKit
set_option linter.unusedVariables false
def mskA : List Bool := [false, false, false, false, false, false, false, false, true, false, false, false, false, false, false, false, false, false, false, false, false, false, false, false, false, false, false, false, false, false, false, false, false, false, false, false, false, true, true, true, true, true, true, true, true, true, false, false, false, false, false, false, false, false, false, false, false, false, false, false, false, false, false, false, false, false, false, false, false, false, false, false, false, false, false, false, false, false, false, false, false, false, false, false, false, false, false, false, false, false, false, false, false, false, false, false, false, false, false, false, false, false, false, false, false, false, false, false, false, false, false, false, false, false, false, false, false, false, false, false, false, false, false, false, false, false, false, false, false, false, false, false, false, false, false, false, false, false, false, false, false, false, false, false, false, false, false, false, false, false, false, false, false, false, false, false, false, false, false, false, false, false, false, false, false, false, false, false, false, false, false, false, false, false, false, false, false, false, false, false, false, false, false, false, false, false, false, false, false, false, false, false, false, false, false, false, false, false, false, false, false, false, false, false, false, false, false, false, false, false, false, false, false, false, false, false, false, false, false, false, false, false, false, false, false, false, false, false, false, false, false, false, false, false, false, false, false, false, false, false, false, false, false, false, false, false, false, false, false, false, false, false, false, false, false, false, false, false, false, false, false, false, false, false, false, false, false, false, false, false, false, false, false, false, false, false, false, false, false, false, false, false, false, false, false, false, false, false, false, false, false, false, false, false, false, false, false, false, false, false, false, false, false, false, false, false, false, false, false, false, false, false, false, false, false, false, false, false, false, false, false, false, false, false, false, false, false, false, false, false, false, false, false, false, false, false, false, false, false, false, false, false, false, true, true, true, true, true, true, true, true, true, true, true, true, true, true, true, true, true, true, true, true, true, true, true, true, true, true, true, true, true, true, true, true, true, true, true, true, true, true, true, true, true, true, true, true, true, true, true, true, true, true, true, true, true, true, true, true, true, true, true, true, true, true, true, true, true, true, true, true, true, true, true, true, true, true]
def pAsk : List Dir := [.r, .r, .r, .r, .r, .r, .l, .r, .i, .i, .r, .l, .i, .r, .r, .r, .r]
section
variable {w0 : World} {UB : Nat} {ver : Int} {a : Option Addr} {len cap : Nat} {cs : List Cmp} {set : Int} {B : Nat} {t : TD} {V : List (List (List WI))} {u : UD} {rs : List URow} {w : World} {X : Nat} {x : TA} {f : Nat → Value} {d : List Deferred} {Q : Exit → Act → World → Prop}
set_option maxRecDepth 100000 in
set_option maxHeartbeats 1000000 in
theorem ask_walk (h : XP w0 UB ver a len cap cs set B t V u rs w) (hm : MatchR t V u rs) (f9 : f 9 = .pointer (some ⟨t.tb, 0, none⟩)) (f20 : f 20 = .pointer (some ⟨UB, 0, none⟩)) (f22 : f 22 = .pointer (some ⟨X, 0, none⟩)) (f1 : f 1 = .int .u32 set) (i : Nat) (hi : i ≤ 80) (f21 : f 21 = .int .i64 (i : Int))
    (hx : w.heap[X]? = some (.cells #[.int .i64 x.kind, .int .i64 x.i, .int .u64 x.e, .slice x.pa x.pl x.pc] 72 (0, 0))) (val : List WI) (s : ByteArray) (q : Int)
    (hG1 : ∀ W, XP w0 UB ver a len cap cs set B t V u rs W → Calls Tryz.prog 41 #[.pointer (some ⟨t.tb, 0, none⟩), .int .i64 x.i, .int .i64 (1 + (i : Int) % 6)] W fun e w' => ∃ va vc, e = .returned (.tuple #[.slice va val.length vc, .int .i64 q]) ∧ IntsAt w'.heap.size w' va val.length vc val ∧ Below W.heap.size W w')
    (hG2 : ∀ W, XP w0 UB ver a len cap cs set B t V u rs W → Calls Tryz.prog 52 #[u.v, .int .i64 x.i, .int .i64 (1 + (i : Int) % 6)] W fun e w' => ∃ va vc, e = .returned (.tuple #[.slice va val.length vc, .int .i64 q]) ∧ IntsAt w'.heap.size w' va val.length vc val ∧ Below W.heap.size W w')
    (hB1 : ∀ W, XP w0 UB ver a len cap cs set B t V u rs W → Calls Tryz.prog 44 #[.pointer (some ⟨t.tb, 0, none⟩), .int .i64 x.i, .int .i64 (1 + (i : Int) % 6)] W fun e w' => e = .returned (.tuple #[.string s, .int .i64 q]) ∧ Below W.heap.size W w')
    (hB2 : ∀ W, XP w0 UB ver a len cap cs set B t V u rs W → Calls Tryz.prog 53 #[u.v, .int .i64 x.i, .int .i64 (1 + (i : Int) % 6)] W fun e w' => e = .returned (.tuple #[.string s, .int .i64 q]) ∧ Below W.heap.size W w')
    (hK : ∀ (v : List Value) (w' : World), XP w0 UB ver a len cap cs set B t V u rs w' → mixF mskA (nthV v) 0 (frX f) = v → Q .normal ⟨v.toArray, d⟩ w') : (piece Tryz.f6 pAsk).wp Tryz.prog Q ⟨(frX f).toArray, d⟩ w := by
  obtain ⟨C, hC⟩ : ∃ C : Int, 1 + (i : Int) % 6 = C := ⟨_, rfl⟩
  rw [hC] at hG1 hG2 hB1 hB2
  have hw1 : (i : Int).tmod 6 = (i : Int) % 6 := Int.tmod_eq_emod_of_nonneg (by omega)
  have hw2 : IntKind.i64.wrap (1 + (i : Int) % 6) = C := by rw [IntWalk.i64_in _ (by omega)]; exact hC
  obtain ⟨xi, hxi⟩ : ∃ xi, x.i = xi := ⟨_, rfl⟩
  obtain ⟨TB, hTB⟩ : ∃ TB, t.tb = TB := ⟨_, rfl⟩
  obtain ⟨vn, hvn⟩ : ∃ n, val.length = n := ⟨_, rfl⟩
  rw [hvn] at hG1 hG2
  have hx1 : ∀ W, Below w.heap.size w W → W.cell? ⟨X, 1, none⟩ = some (.int .i64 xi) := fun W hW => by rw [← hxi, cell_at (keep hW hx)]; rfl
  have hxl := lt_some hx
  have hln := hm.ln
  have hRW := fun (W : World) (hW : XP w0 UB ver a len cap cs set B t V u rs W) => rows16_true B W t V u rs hW.tab hW.vals hW.ru hm
  have hEN := fun (W : World) (hW : XP w0 UB ver a len cap cs set B t V u rs W) => tabEnt_no hW.tab (u.ln : Int) (by rw [hln]; omega)
  have hSG := fun (W : World) (hW : XP w0 UB ver a len cap cs set B t V u rs W) => tabSig_in hW.tab
  have hse := h.seteq
  rw [hse] at hSG
  have HF := Lib.hid (And.intro f9 (And.intro f20 (And.intro f22 (And.intro f21 f1))))
  rw [hTB] at hG1 hB1 hRW hEN hSG f9
  rw [hxi] at hG1 hG2 hB1 hB2
  obtain ⟨uver, uca, ucl, ucc, uia, uil, uic, umost, ukept, ula, uln, ulc⟩ := u
  dsimp only [UD.v] at hG2 hB2 hRW hEN
  have HG1 := Lib.hid hG1
  have HG2 := Lib.hid hG2
  have HB1 := Lib.hid hB1
  have HB2 := Lib.hid hB2
  have HRW := Lib.hid hRW
  have HEN := Lib.hid hEN
  have HSG := Lib.hid hSG
  have HX := Lib.hid hx1
  have HH := Lib.hid (And.intro h (And.intro hm (And.intro hTB hK)))
  have x1 := hx1 w (Below.refl _ _)
  clear h hm hx hK hG1 hG2 hB1 hB2 hRW hEN hSG hx1 hTB hxi hvn hln hse hC
  unfold frX
  rw [f9, f20, f22, f21, f1]
  clear f9 f20 f22 f21 f1
  conv => arg 2; whnf
  go_wp2_with fail
  refine (HG1.out w HH.out.1).mono ?_
  rintro e w1 ⟨va1, vc1, rfl, hi1, hb1⟩
  have HI1 := Lib.hid hi1
  have HX1 := Lib.hid (HH.out.1.below hb1)
  have HW1 := Lib.hid hb1
  have y1 := HX.out w1 hb1
  have hz1 := hb1.size
  have hxl1 : X < w1.heap.size := by omega
  obtain ⟨c0, c1, c2, c3, c4, c5, hul⟩ := HX1.out.cells
  dsimp only at c0 c1 c2 c3 c4 c5
  clear x1 hi1 hb1 hxl hz1
  go_wp2_with fail
  refine (HG2.out w1 HX1.out).mono ?_
  rintro e w2 ⟨va2, vc2, rfl, hi2, hb2⟩
  have HI2 := Lib.hid (And.intro ((HI1.out.below hb2).mono hb2.size) hi2)
  have HX2 := Lib.hid (HX1.out.below hb2)
  have HW2 := Lib.hid (HW1.out.trans (hb2.mono HW1.out.size))
  have y2 := HX.out w2 HW2.out
  have hxl2 : X < w2.heap.size := by have := hb2.size; omega
  clear c0 c1 c2 c3 c4 c5 hul y1 hi2 hb2 hxl1 HX1 HI1 HW1
  go_wp2_with fail
  refine (HB1.out w2 HX2.out).mono ?_
  rintro e w3 ⟨rfl, hb3⟩
  have HI3 := Lib.hid (And.intro ((HI2.out.1.below hb3).mono hb3.size) ((HI2.out.2.below hb3).mono hb3.size))
  have HX3 := Lib.hid (HX2.out.below hb3)
  have HW3 := Lib.hid (HW2.out.trans (hb3.mono HW2.out.size))
  have y3 := HX.out w3 HW3.out
  have hxl3 : X < w3.heap.size := by have := hb3.size; omega
  obtain ⟨c0, c1, c2, c3, c4, c5, hul⟩ := HX3.out.cells
  dsimp only at c0 c1 c2 c3 c4 c5
  clear y2 hb3 hxl2 HX2 HI2 HW2
  go_wp2_with fail
  refine (HB2.out w3 HX3.out).mono ?_
  rintro e w4 ⟨rfl, hb4⟩
  have HI4 := Lib.hid (And.intro ((HI3.out.1.below hb4).mono hb4.size) ((HI3.out.2.below hb4).mono hb4.size))
  have HX4 := Lib.hid (HX3.out.below hb4)
  clear c0 c1 c2 c3 c4 c5 hul
  obtain ⟨c0, c1, c2, c3, c4, c5, hul⟩ := HX4.out.cells
  dsimp only at c0 c1 c2 c3 c4 c5
  clear y3 hb4 hxl3 HX3 HI3 HW3
  go_wp2_with fail
  refine (HRW.out w4 HX4.out).mono ?_
  rintro e w5 ⟨rfl, hb5⟩
  have HI5 := Lib.hid (And.intro ((HI4.out.1.below hb5).mono hb5.size) ((HI4.out.2.below hb5).mono hb5.size))
  have HX5 := Lib.hid (HX4.out.below hb5)
  clear c0 c1 c2 c3 c4 c5 hul hb5 HX4 HI4
  go_wp2_with fail
  refine (values_eq16 val va1 vn vc1 va2 vn vc2 w5 HI5.out.1 HI5.out.2).mono ?_
  rintro e w6 ⟨rfl, m6, rfl⟩
  have HX6 := Lib.hid (HX5.out.below (below_drewN (Below.refl _ w5) m6))
  obtain ⟨c0, c1, c2, c3, c4, c5, hul⟩ := HX5.out.cells
  dsimp only at c0 c1 c2 c3 c4 c5
  clear HX5 HI5
  go_wp2_with fail
  refine (HEN.out _ HX6.out).mono ?_
  rintro e w7 ⟨rfl, rfl⟩
  clear c0 c1 c2 c3 c4 c5 hul
  go_wp2_with fail
  refine (HSG.out _ HX6.out).mono ?_
  rintro e w8 ⟨rfl, rfl⟩
  go_wp2_with fail
  refine HH.out.2.2.2 _ _ HX6.out ?_
  unfold frX
  rw [HF.out.1, HF.out.2.1, HF.out.2.2.1, HF.out.2.2.2.1, HF.out.2.2.2.2, HH.out.2.2.1]
  rfl
end
end Go.Proofs.YtoadihebdaooaaaGreat
namespace Go.Proofs.YtoadihebdaooaaaGreat
open Go.RowKit
set_option linter.unusedVariables false
theorem ints_nil (B : Nat) (w : World) : IntsAt B w none 0 0 [] := ⟨rfl, Nat.le_refl _, Nat.zero_le _, by simp, .inl rfl⟩
section
variable {w0 : World} {UB : Nat} {ver : Int} {a : Option Addr} {len cap : Nat} {cs : List Cmp} {set : Int} {B : Nat} {t : TD} {V : List (List (List WI))} {u : UD} {rs : List URow} {w : World} {X : Nat} {x : TA} {f : Nat → Value} {d : List Deferred} {Q : Exit → Act → World → Prop}
theorem ask_any (h : XP w0 UB ver a len cap cs set B t V u rs w) (hm : MatchR t V u rs) (hcs : CompsAt w0.heap.size w0 a len cs) (f9 : f 9 = .pointer (some ⟨t.tb, 0, none⟩)) (f20 : f 20 = .pointer (some ⟨UB, 0, none⟩)) (f22 : f 22 = .pointer (some ⟨X, 0, none⟩)) (f1 : f 1 = .int .u32 set) (i : Nat) (hi : i ≤ 80) (f21 : f 21 = .int .i64 (i : Int))
    (hx : w.heap[X]? = some (.cells #[.int .i64 x.kind, .int .i64 x.i, .int .u64 x.e, .slice x.pa x.pl x.pc] 72 (0, 0)))
    (hK : ∀ (v : List Value) (w' : World), XP w0 UB ver a len cap cs set B t V u rs w' → mixF mskA (nthV v) 0 (frX f) = v → Q .normal ⟨v.toArray, d⟩ w') : (piece Tryz.f6 pAsk).wp Tryz.prog Q ⟨(frX f).toArray, d⟩ w := by
  obtain ⟨b0, b1, b2, b3, b4, _⟩ := hm.bd h.tab
  obtain ⟨C, hC⟩ : ∃ C : Int, 1 + (i : Int) % 6 = C := ⟨_, rfl⟩
  by_cases hin : 0 ≤ x.i ∧ x.i < t.ents.length
  · obtain ⟨row, hrow⟩ : ∃ r : Nat, x.i = (r : Int) := ⟨x.i.toNat, by omega⟩
    have hrl : row < t.ents.length := by omega
    obtain ⟨r, hr⟩ : ∃ r, rs[row]? = some r := ⟨_, List.getElem?_eq_getElem (by rw [hm.len]; omega)⟩
    obtain ⟨R, hR⟩ : ∃ R, V[row]? = some R := ⟨_, List.getElem?_eq_getElem (by rw [h.vals.len]; omega)⟩
    have hRl := h.vals.row R (List.mem_of_getElem? hR)
    obtain ⟨hrp, hcmp⟩ := row_cv hm hr hR hRl
    rw [h.uids] at hrp hcmp
    have hG := fun (W : World) (hW : XP w0 UB ver a len cap cs set B t V u rs W) => get16_row (u := u) (w := W) row C r hW.ids hW.idl (by have := hW.il; omega) (by omega) hW.ru hr hrp
    have hfits : ∀ (k : Nat) (p : PW), (idsTo set 24)[k]? = some C → r.ps[k]? = some p → ∃ c, findC C cs = some c ∧ fitF c.fields p.val = 0 := by
      intro k p hk hp
      rw [← h.uids] at hk
      obtain ⟨hc, hv⟩ := hcmp k p C (by rw [← h.uids]; exact hk) hp
      rw [List.getElem?_map] at hk
      obtain ⟨y, hy, hyc⟩ := Option.map_eq_some_iff.1 hk
      obtain ⟨dd, hd⟩ : ∃ dd, t.cols[k]? = some dd := ⟨_, List.getElem?_eq_getElem (by rw [h.tab.len]; exact (List.getElem?_eq_some_iff.1 hy).1)⟩
      have hf := h.find y (List.mem_of_getElem? hy)
      rw [hyc] at hf
      exact ⟨y.c, hf, (h.vals.at_ row k R p.val y dd hR hv hy hd).2.1⟩
    have hBy := fun (W : World) (hW : XP w0 UB ver a len cap cs set B t V u rs W) => bytes16_row (u := u) (w := W) row C r hW.ids hW.idl (by have := hW.il; omega) (by omega) hW.ru hr hrp (hW.comps hcs) hfits
    rcases part_col C t.cps 0 with ⟨c1, c2⟩ | ⟨j, y, c1, c2, c3, c4, c5⟩
    · rw [h.uids] at c1
      have hfe : findErr t (row : Int) C = 6 := by unfold findErr; rw [if_pos ⟨by omega, by omega⟩, c2]; rfl
      refine ask_walk h hm f9 f20 f22 f1 i hi f21 hx [] ⟨#[]⟩ 6 (fun W hW => ?_) (fun W hW => ?_) (fun W hW => ?_) (fun W hW => ?_) hK
      · have := tabGet_no hW.tab (row : Int) C (by rw [hfe]; decide)
        rw [hfe] at this
        rw [hC, hrow]
        exact this.mono (fun e w' ⟨h1, h2⟩ => ⟨none, 0, h1, ints_nil _ _, h2⟩)
      · rw [hC, hrow]
        refine (hG W hW).mono ?_
        rintro e w' ⟨hb, ⟨_, rfl⟩ | ⟨k, p, _, h2, _⟩⟩
        · exact ⟨none, 0, rfl, ints_nil _ _, hb⟩
        · rw [c1] at h2; omega
      · have := tabBytes_no hW.tab (row : Int) C (by rw [hfe]; decide)
        rw [hfe] at this
        rw [hC, hrow]
        exact this
      · rw [hC, hrow]
        refine (hBy W hW).mono ?_
        rintro e w' ⟨hb, ⟨_, rfl⟩ | ⟨k, p, c, _, h2, _⟩⟩
        · exact ⟨rfl, hb⟩
        · rw [c1] at h2; omega
    · rw [Nat.zero_add] at c1
      rw [h.uids] at c1 c2
      have hfind := h.find y (List.mem_of_getElem? c3)
      rw [c5] at hfind
      obtain ⟨p, hp⟩ : ∃ p, r.ps[j]? = some p := ⟨_, List.getElem?_eq_getElem (by rw [hrp]; exact (List.getElem?_eq_some_iff.1 c2).1)⟩
      obtain ⟨_, hv⟩ := hcmp j p C c2 hp
      obtain ⟨dd, hd⟩ : ∃ dd, t.cols[j]? = some dd := ⟨_, List.getElem?_eq_getElem (by rw [h.tab.len]; exact (List.getElem?_eq_some_iff.1 c3).1)⟩
      obtain ⟨hl, hfit, hwf⟩ := h.vals.at_ row j R p.val y dd hR hv c3 hd
      refine ask_walk h hm f9 f20 f22 f1 i hi f21 hx p.val ⟨(packF y.c.fields p.val).toArray⟩ 0 (fun W hW => ?_) (fun W hW => ?_) (fun W hW => ?_) (fun W hW => ?_) hK
      · rw [hC, hrow]
        refine (tabGet_ok hW.tab row j y dd p.val C hrl c4 c3 hd hl hfit hwf).mono ?_
        rintro e w' ⟨va, vc, rfl, hown, hb⟩
        exact ⟨va, vc, rfl, own_ints hown rfl hwf, hb⟩
      · rw [hC, hrow]
        refine (hG W hW).mono ?_
        rintro e w' ⟨hb, ⟨h1, _⟩ | ⟨k, p', h1, h2, h3, rfl⟩⟩
        · rw [c1] at h1; omega
        · obtain rfl : k = j := by rw [c1] at h2; omega
          obtain rfl : p' = p := by rw [hp] at h3; exact (Option.some.inj h3).symm
          have hpo := hW.ru.parts r (List.mem_of_getElem? hr)
          obtain ⟨g1, g2, g3⟩ := hpo.vals p' (List.mem_of_getElem? hp)
          refine ⟨p'.va, p'.vc, by rw [g2], ?_, hb⟩
          rw [g2]
          exact ((own_ints g1 g2 g3).below hb).mono hb.size
      · rw [hC, hrow]
        exact tabBytes_in hW.tab row j y dd _ C hrl c4 c3 hd hl
      · rw [hC, hrow]
        refine (hBy W hW).mono ?_
        rintro e w' ⟨hb, ⟨h1, _⟩ | ⟨k, p', c, h1, h2, h3, h4, rfl⟩⟩
        · rw [c1] at h1; omega
        · obtain rfl : k = j := by rw [c1] at h2; omega
          obtain rfl : p' = p := by rw [hp] at h3; exact (Option.some.inj h3).symm
          obtain rfl : c = y.c := by rw [hfind] at h4; exact (Option.some.inj h4).symm
          exact ⟨rfl, hb⟩
  · have hfe : findErr t x.i C = 3 := by unfold findErr; rw [if_neg hin]
    refine ask_walk h hm f9 f20 f22 f1 i hi f21 hx [] ⟨#[]⟩ 3 (fun W hW => ?_) (fun W hW => ?_) (fun W hW => ?_) (fun W hW => ?_) hK
    · have := tabGet_no hW.tab x.i C (by rw [hfe]; decide)
      rw [hfe] at this
      rw [hC]
      exact this.mono (fun e w' ⟨h1, h2⟩ => ⟨none, 0, h1, ints_nil _ _, h2⟩)
    · rw [hC]
      exact (get16_no3 (u := u) (w := W) x.i C (by omega) (by rw [hm.ln]; exact hin)).mono (fun e w' ⟨h1, h2⟩ => ⟨none, 0, h1, ints_nil _ _, h2⟩)
    · have := tabBytes_no hW.tab x.i C (by rw [hfe]; decide)
      rw [hfe] at this
      rw [hC]
      exact this
    · rw [hC]
      exact bytes16_no3 (u := u) (w := W) x.i C (by omega) (by rw [hm.ln]; exact hin)
end
end Go.Proofs.YtoadihebdaooaaaGreat
