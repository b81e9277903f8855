/- Parts that are owned; table.Parts. · table.Set. · Maps told as functions to values of any element type; values16. · The law's test of two rows of numbers. -/
import Derived.Test.YthmpknlgkflhiabGreatP29
import Derived.Laws.StructEq
namespace Go.Proofs.YthmpknlgkflhiabGreat
open Go.RowKit
set_option linter.unusedVariables false
theorem Tryz.info48 : (Tryz.prog.info? 48).map (fun i => (i.zero, i.size, i.bytes)) = some (some (.agg #[.int .i64 0, .slice none 0 0]), 2, 32) := by kernel_rfl
def partL (p : PW) : List Value := [.int .i64 p.comp, .slice p.va p.vl p.vc]
theorem partL_at : ∀ (l : List PW) (i : Nat) (p : PW), l[i]? = some p → (l.flatMap partL)[i * 2]? = some (.int .i64 p.comp) ∧ (l.flatMap partL)[i * 2 + 1]? = some (.slice p.va p.vl p.vc)
  | [], _, _, h => by simp at h
  | y :: r, 0, x, h => by
    simp at h
    subst h
    exact ⟨rfl, rfl⟩
  | y :: r, i + 1, x, h => by
    obtain ⟨h1, h2⟩ := partL_at r i x (by simpa using h)
    rw [show (i + 1) * 2 = i * 2 + 2 by omega]
    exact ⟨h1, h2⟩
/-- Parts with all their memory, at or above block B. -/
structure PO (B : Nat) (w : World) (a : Option Addr) (n c : Nat) (ps : List PW) : Prop where
  row : w.ownsRow B 48 2 (.slice a n c) n (ps.flatMap partL)
  vals : ∀ p ∈ ps, w.ownsRow B 67 3 (.slice p.va p.vl p.vc) p.vl (p.val.flatMap intL) ∧ p.val.length = p.vl ∧ ∀ y ∈ p.val, y.wf
  len : ps.length = n
/-- Blocks that aren't of parts. -/
def MutP (w : World) (b : Nat) : Prop := ∀ cs t fr, w.heap[b]? = some (.cells cs t fr) → t ≠ 48 ∧ t ≠ 67
theorem rowP {F : Nat → Prop} {w : World} {B s : Nat} {e : TypeId} {v : Value} {n : Nat} {xs : List Value} (h : w.ownsRow B e s v n xs) (he : e = 48 ∨ e = 67) (hM : ∀ b, F b → MutP w b) : ∀ x, v.ownBlock = some x → ¬ F x := by
  intro x hx hF
  obtain ⟨cur, hc⟩ := row_type h hx
  obtain ⟨h1, h2⟩ := hM x hF _ _ _ hc
  rcases he with rfl | rfl <;> contradiction
theorem PO.out {B : Nat} {w w' : World} {F : Nat → Prop} {a : Option Addr} {n c : Nat} {ps : List PW} (h : PO B w a n c ps) (ho : Out F w w') (hM : ∀ b, F b → MutP w b) : PO B w' a n c ps :=
  ⟨ownsRow_out h.row ho (rowP h.row (.inl rfl) hM), fun p hp => ⟨ownsRow_out (h.vals p hp).1 ho (rowP (h.vals p hp).1 (.inr rfl) hM), (h.vals p hp).2⟩, h.len⟩
theorem PO.below {B : Nat} {w w' : World} {a : Option Addr} {n c : Nat} {ps : List PW} (h : PO B w a n c ps) (hb : Below w.heap.size w w') : PO B w' a n c ps := h.out (F := fun _ => False) (Out.of hb) (fun _ => False.elim)
theorem PO.mono {B B' : Nat} {w : World} {a : Option Addr} {n c : Nat} {ps : List PW} (h : PO B w a n c ps) (hb : B' ≤ B) : PO B' w a n c ps := ⟨ownsRow_mono h.row hb, fun p hp => ⟨ownsRow_mono (h.vals p hp).1 hb, (h.vals p hp).2⟩, h.len⟩
theorem own_max {w : World} {B : Nat} {e : TypeId} {s : Nat} {a : Option Addr} {n c : Nat} {xs : List Value} (h : w.ownsRow B e s (.slice a n c) n xs) : n ≤ c ∧ c ≤ maxLen := by
  rcases h.2 with ⟨he, h0⟩ | ⟨g, cap, cur, he, _, _, h1, h2, _⟩
  · cases he; exact ⟨Nat.le_refl _, Nat.zero_le _⟩
  · cases he; exact ⟨h1, h2⟩
theorem PO.at {B : Nat} {w : World} {a : Option Addr} {n c : Nat} {ps : List PW} (h : PO B w a n c ps) : PartsAt w.heap.size w a n c ps := by
  obtain ⟨h1, h2⟩ := own_max h.row
  refine ⟨h.len, h1, h2, fun p hp => own_ints (h.vals p hp).1 (h.vals p hp).2.1 (h.vals p hp).2.2, ?_⟩
  rcases Nat.eq_zero_or_pos n with h0 | h0
  · exact .inl h0
  · obtain ⟨q, hq, _, hql, hqc⟩ := row_block h.row h0
    refine .inr ⟨q, 0, hq, hql, fun i p hp => ?_⟩
    obtain ⟨g0, g1⟩ := partL_at ps i p hp
    rw [Nat.zero_add]
    exact ⟨hqc _ _ g0, hqc _ _ g1⟩
/-- Parts as they are told. -/
def cv (ps : List PW) : List (Int × List WI) := ps.map fun p => (p.comp, p.val)
/-- The parts of a row. -/
def rowCv (t : TD) (r : List (List WI)) : List (Int × List WI) := (t.cps.map (·.c.id)).zip r
def IsParts (cvs : List (Int × List WI)) (w : World) (e : Ending) (w' : World) : Prop := ∃ pa pc ps, e = .returned (.tuple #[.slice pa cvs.length pc, .int .i64 0]) ∧ PO w.heap.size w' pa cvs.length pc ps ∧ cv ps = cvs ∧ Below w.heap.size w w'
theorem find_cv {x : CV} : ∀ {l : List CV}, (l.map (·.c.id)).Nodup → x ∈ l → colOf l x.c.id = some x
  | [], _, h => by simp at h
  | y :: r, hn, h => by
    unfold colOf
    rw [List.find?_cons]
    rw [List.map_cons, List.nodup_cons] at hn
    rcases List.mem_cons.1 h with rfl | h
    · simp
    · have : ¬ y.c.id = x.c.id := fun he => hn.1 (by rw [he]; exact List.mem_map.2 ⟨x, h, rfl⟩)
      rw [decide_eq_false this]
      exact find_cv hn.2 h
theorem colOf_at {t : TD} {i : Nat} {x : CV} (hids : t.cps.map (·.c.id) = idsTo t.set 24) (hx : t.cps[i]? = some x) : colOf t.cps x.c.id = some x :=
  find_cv (by rw [hids]; exact idsTo_nodup _ _) (List.mem_of_getElem? hx)
theorem take_zip {α β : Type} {l : List α} {m : List β} {i : Nat} {x : α} {y : β} (h1 : l[i]? = some x) (h2 : m[i]? = some y) : (l.zip m).take (i + 1) = (l.zip m).take i ++ [(x, y)] :=
  take_snoc (by rw [List.getElem?_zip_eq_some]; exact ⟨h1, h2⟩)
theorem rowCv_len {t : TD} {r : List (List WI)} (h : r.length = t.cps.length) : (rowCv t r).length = t.cps.length := by simp [rowCv, h]
section
variable {B : Nat} {w : World} {t : TD}
set_option maxRecDepth 100000 in
set_option maxHeartbeats 1000000 in
theorem tabParts_ok (h : TabIn B w t) (V : List (List (List WI))) (hV : Vals t V) (k : Nat) (r : List (List WI)) (hk : V[k]? = some r) :
    Calls Tryz.prog 33 #[.pointer (some ⟨t.tb, 0, none⟩), .int .i64 (k : Int)] w (IsParts (rowCv t r) w) := by
  obtain ⟨i0, hi, hz0', hz1, hz2⟩ := info_parts Tryz.info48
  have hkl : k < t.ents.length := by rw [← hV.len]; exact (List.getElem?_eq_some_iff.1 hk).1
  have hrl := hV.row r (List.mem_of_getElem? hk)
  have hc := tabAt_in h (k : Int)
  rw [if_pos ⟨by omega, by omega⟩] at hc
  have HC := Lib.hid hc
  have HT := Lib.hid h
  have HV := Lib.hid hV
  have HK := Lib.hid hk
  have HKL := Lib.hid hkl
  have HRL := Lib.hid hrl
  obtain ⟨_, _, _, _, _, _, c6, _⟩ := h.cells
  have hn24 := h.n24
  have hlen := h.len
  unfold IsParts
  rw [rowCv_len hrl]
  obtain ⟨n, hn⟩ : ∃ n, t.cps.length = n := ⟨_, rfl⟩
  rw [hn] at c6 hn24 hrl hlen ⊢
  have HN := Lib.hid hn
  have HLEN := Lib.hid hlen
  have HRL2 := Lib.hid hrl
  clear h hV hk hkl hrl hc hn hlen
  go_enter Tryz.func33, Tryz.ntmps33
  go_wp2_with fail
  refine HC.out.mono ?_
  rintro e w1 ⟨rfl, rfl⟩
  go_wp2_with fail
  clear c6
  go_loopw [7, 23] (fun v j wr => ∃ m : Nat, m ≤ n ∧ j = .int .i64 (m : Int) ∧ ∃ pa pc ps, v = .slice pa m pc ∧ PO w.heap.size wr pa m pc ps ∧ cv ps = (rowCv t r).take m ∧ Below w.heap.size w wr) (fun _ j _ => n - (intOf j).toNat)
  case atStart => exact ⟨0, by omega, rfl, none, 0, [], rfl, ⟨⟨by simp, .inl ⟨rfl, rfl⟩⟩, by simp, rfl⟩, by simp [cv], Below.refl _ _⟩
  case round =>
    obtain ⟨m, hm, rfl, pa, pc, ps, rfl, hpo, hcv, hbr⟩ := hrel
    by_cases hlt : m < n
    · obtain ⟨x, hx⟩ : ∃ x, t.cps[m]? = some x := ⟨_, List.getElem?_eq_getElem (by have := HN.out; omega)⟩
      obtain ⟨d, hd⟩ : ∃ d, t.cols[m]? = some d := ⟨_, List.getElem?_eq_getElem (by have := HLEN.out; omega)⟩
      obtain ⟨v, hv⟩ : ∃ v, r[m]? = some v := ⟨_, List.getElem?_eq_getElem (by have := HRL2.out; omega)⟩
      obtain ⟨a1, a2, a3⟩ := HV.out.at_ k m r v x d HK.out hv hx hd
      have htr := HT.out.below hbr
      have hcr := htr.colsR
      rw [HN.out] at hcr
      obtain ⟨q, hq, _, hql, hqc⟩ := row_block hcr (by omega)
      obtain ⟨g0, g1, g2, g3⟩ := colL_at t.cps hx
      have z0 := hqc _ _ g0
      have z1 := hqc _ _ g1
      have z2 := hqc _ _ g2
      have z3 := hqc _ _ g3
      rw [hq]
      have i1 : (0 : Int) ≤ (m : Int) := by omega
      have i2 : (m : Int) < (n : Int) := by omega
      have htA := htr.below ((Below.refl _ wr).alloc (Nat.le_refl _) (.cells #[.int .i64 x.c.id, .string x.c.name, .slice x.fa x.fl x.fc, .pointer (some ⟨x.cb, 0, none⟩)] 146))
      have HG := Lib.hid (tabGet_ok htA k m x d v x.c.id HKL.out (colOf_at htr.ids hx) hx hd a1 a2 a3)
      have HPO := Lib.hid (hpo.below ((Below.refl _ wr).alloc (Nat.le_refl _) (.cells #[.int .i64 x.c.id, .string x.c.name, .slice x.fa x.fl x.fc, .pointer (some ⟨x.cb, 0, none⟩)] 146)))
      have HBR := Lib.hid (hbr.alloc hbr.size (.cells #[.int .i64 x.c.id, .string x.c.name, .slice x.fa x.fl x.fc, .pointer (some ⟨x.cb, 0, none⟩)] 146))
      have HH := Lib.hid (heap_alloc_new wr (.cells #[.int .i64 x.c.id, .string x.c.name, .slice x.fa x.fl x.fc, .pointer (some ⟨x.cb, 0, none⟩)] 146))
      have HTZ := Lib.hid (take_zip (l := t.cps.map (·.c.id)) (by rw [List.getElem?_map, hx]; rfl) hv)
      have HCV := Lib.hid hcv
      have HWF := Lib.hid a3
      clear hx hd hv a1 a2 a3 htr hcr hqc g0 g1 g2 g3 htA hpo hcv hbr hq
      go_wp2_with fail
      refine HG.out.mono ?_
      rintro e w3 ⟨va, vc, rfl, hown, hb3⟩
      have hh3 := keep hb3 HH.out
      have c0 := cell_at hh3 0
      simp at c0
      have hh3l := lt_some hh3
      have hpo3 := HPO.out.below hb3
      have hb0 := HBR.out.trans (hb3.mono HBR.out.size)
      have hz0 := hb0.size
      have HOWN := Lib.hid ((ownsRow_mono hown HBR.out.size).alloc (.cells #[.int .i64 x.c.id, .slice va v.length vc] 48))
      have HPO3 := Lib.hid (hpo3.below ((Below.refl _ w3).alloc (Nat.le_refl _) (.cells #[.int .i64 x.c.id, .slice va v.length vc] 48)))
      have HB3 := Lib.hid (hb0.alloc hz0 (.cells #[.int .i64 x.c.id, .slice va v.length vc] 48))
      have HN1 := Lib.hid (And.intro (World.news_of_block (heap_alloc_new w3 (.cells #[.int .i64 x.c.id, .slice va v.length vc] 48))) (show ∀ u ∈ (#[.int .i64 x.c.id, .slice va v.length vc] : Array Value).toList, u.oneCell' = true from List.all_eq_true.1 rfl))
      clear hown hb3 hh3 hpo3 hb0 z0 z1 z2 z3 HG HH HPO HBR
      go_wp2_with (at_builtin; go_loud (refine wpList_append_own _ rfl (.tmp 36) (.tmp 42) 35 rfl w.heap.size 48 i0 (.agg #[.int .i64 0, .slice none 0 0]) 2 32 Tryz.underlying35 hi hz0' hz1 hz2 rfl (by decide) (.slice pa m pc) m (ps.flatMap partL) rfl HPO3.out.row ⟨w3.heap.size, 0, none⟩ 1 1 (#[.int .i64 x.c.id, .slice va v.length vc] : Array Value).toList rfl rfl HN1.out.1 HN1.out.2 (by unfold maxLen; omega) (by omega) (by simp; omega) ?_))
      intro v' w4 hown4 hg4 _
      obtain ⟨vb', vd', hv'⟩ := ownsRow_slice hown4
      rw [hv'] at hown4 ⊢
      clear hv'
      have hpo4 : PO w.heap.size w4 vb' (m + 1) vd' (ps ++ [⟨x.c.id, va, v.length, vc, v⟩]) := by
        refine ⟨by rw [List.flatMap_append]; exact hown4, fun p hp => ?_, by rw [List.length_append, HPO3.out.len]; rfl⟩
        rcases List.mem_append.1 hp with hp | hp
        · exact ⟨(HPO3.out.vals p hp).1.kept hg4 (ownsRow_ne (HPO3.out.vals p hp).1 HPO3.out.row (by decide)), (HPO3.out.vals p hp).2⟩
        · obtain rfl : p = _ := List.mem_singleton.1 hp
          exact ⟨HOWN.out.kept hg4 (ownsRow_ne HOWN.out HPO3.out.row (by decide)), rfl, HWF.out⟩
      have HPO4 := Lib.hid hpo4
      have HB4 := Lib.hid (HB3.out.trans (below_own HPO3.out.row hg4 (by simp; omega)))
      clear hown4 hg4 hpo4 HOWN HPO3 c0
      go_wp2_with fail
      go_roundw
      case rel => exact ⟨m + 1, by omega, by go_num, vb', vd', _, rfl, HPO4.out, by unfold cv at *; rw [List.map_append, HCV.out]; exact HTZ.out.symm, HB4.out⟩
      case measure => simp [intOf]; omega
    · obtain rfl : m = n := by omega
      have HPO := Lib.hid hpo
      have HB := Lib.hid hbr
      have HCV := Lib.hid hcv
      clear hpo hbr hcv
      go_wp2_with fail
      go_ret2
      exact ⟨pa, pc, ps, rfl, HPO.out, by rw [HCV.out, List.take_of_length_le (by rw [rowCv_len (by rw [HRL2.out, HN.out]), HN.out]; exact Nat.le_refl _)], HB.out⟩
end
end Go.Proofs.YthmpknlgkflhiabGreat
namespace Go.Proofs.YthmpknlgkflhiabGreat
open Go.RowKit
set_option linter.unusedVariables false
theorem TabIn.setCol {B : Nat} {w w' : World} {t : TD} (h : TabIn B w t) {i : Nat} {d d' : CD} (hd : t.cols[i]? = some d) (ho : Out d.foot w w') (hc : ColAt B w' d') (hf : ∀ b, d'.foot b ↔ d.foot b) (h1 : d'.cb = d.cb) (h2 : d'.size = d.size) (h3 : d'.cap = d.cap) (h4 : d'.rows.length = d.rows.length) :
    TabIn B w' { t with cols := t.cols.set i d' } ∧ (∀ b, TD.foot { t with cols := t.cols.set i d' } b → t.foot b) ∧ Out t.cfoot w w' := by
  have hdm := List.mem_of_getElem? hd
  have ho2 : Out t.cfoot w w' := ho.mono (fun b hb => .inl ⟨d, hdm, hb⟩)
  have hM : ∀ b, t.cfoot b → Mut w b := fun b hb => h.foot_mut (TabIn.cfoot_foot hb)
  have hil := (List.getElem?_eq_some_iff.1 hd).1
  have hat : ∀ (j : Nat) (e : CD), (t.cols.set i d')[j]? = some e → (j = i ∧ e = d') ∨ (j ≠ i ∧ t.cols[j]? = some e) := by
    intro j e he
    rw [List.getElem?_set] at he
    split at he
    · rename_i hij
      subst hij
      have he2 : d' = e := by simpa [hil] using he
      exact .inl ⟨rfl, he2.symm⟩
    · rename_i hij
      exact .inr ⟨fun e => hij e.symm, he⟩
  refine ⟨⟨ho2.keep h.blk h.cfoot_ne.1, ownsRow_out h.comps ho2 (row_mut h.comps (.inl rfl) hM), ownsRow_out h.colsR ho2 (row_mut h.colsR (.inr (.inl rfl)) hM), fun x hx => (h.fields x hx).out ho2 hM, ownsRow_out h.entsR ho2 h.cfoot_ne.2, h.hB, by rw [List.length_set]; exact h.len, ?_, ?_, ?_, h.lay, h.n24, h.most1, h.most2, h.room, h.set0, h.set1, h.ids⟩, ?_, ho2⟩
  · intro j x e hx he
    rcases hat j e he with ⟨rfl, rfl⟩ | ⟨_, he⟩
    · obtain ⟨k1, k2, k3, k4⟩ := h.col j x d hx hd
      exact ⟨h1.trans k1, h2.trans k2, h3.trans k3, h4.trans k4⟩
    · exact h.col j x e hx he
  · intro e he
    obtain ⟨j, hj⟩ := List.getElem?_of_mem he
    rcases hat j e hj with ⟨rfl, rfl⟩ | ⟨hne, hj⟩
    · exact hc
    · exact (h.colsA e (List.mem_of_getElem? hj)).out ho (fun b hb hb2 => h.apart j i e d hne hj hd b hb hb2)
  · intro j k e f hjk he hg b hb hb2
    rcases hat j e he with ⟨rfl, rfl⟩ | ⟨hne, he2⟩
    · rcases hat k f hg with ⟨rfl, rfl⟩ | ⟨hne2, hg2⟩
      · exact hjk rfl
      · exact h.apart j k d f hjk hd hg2 b ((hf b).1 hb) hb2
    · rcases hat k f hg with ⟨rfl, rfl⟩ | ⟨hne2, hg2⟩
      · exact h.apart j k e d hjk he2 hd b hb ((hf b).1 hb2)
      · exact h.apart j k e f hjk he2 hg2 b hb hb2
  · rintro b (hb | hb | ⟨e, he, hb⟩)
    · exact .inl hb
    · exact .inr (.inl hb)
    · obtain ⟨j, hj⟩ := List.getElem?_of_mem he
      rcases hat j e hj with ⟨rfl, rfl⟩ | ⟨hne, hj⟩
      · exact .inr (.inr ⟨d, hdm, (hf b).1 hb⟩)
      · exact .inr (.inr ⟨e, List.mem_of_getElem? hj, hb⟩)
/-- The table with another row in a column. -/
def TD.put (t : TD) (i k : Nat) (d : CD) (row : List UInt8) : TD := { t with cols := t.cols.set i { d with rows := d.rows.set k row } }
section
variable {B : Nat} {w : World} {t : TD}
set_option maxRecDepth 100000 in
theorem tabSet_no1 (h : TabIn B w t) (row comp : Int) (va : Option Addr) (vl vc : Nat) (he : findErr t row comp ≠ 0) :
    Calls Tryz.prog 53 #[.pointer (some ⟨t.tb, 0, none⟩), .int .i64 row, .agg #[.int .i64 comp, .slice va vl vc]] w fun e w' => e = .returned (.int .i64 (findErr t row comp)) ∧ Below w.heap.size w w' := by
  have hv : findVal t row comp = .agg #[.int .i64 0, .string ByteArray.empty, .slice none 0 0, .pointer none] := by
    unfold findErr at he
    unfold findVal
    split
    · rename_i h1
      rw [if_pos h1] at he
      cases hc : colOf t.cps comp with
      | none => rfl
      | some x => rw [hc] at he; exact absurd rfl he
    · rfl
  have hb0 : Below w.heap.size w (w.alloc (.cells #[.int .i64 comp, .slice va vl vc] 48)) := by go_grown
  have HF := Lib.hid (tabFind_in (h.below hb0) row comp)
  have HB0 := Lib.hid hb0
  rw [hv] at HF
  obtain ⟨r, hr⟩ : ∃ r, findErr t row comp = r := ⟨_, rfl⟩
  rw [hr] at HF he ⊢
  have e1 : (r != 0) = true := by rw [bne_iff_ne]; exact he
  clear h hb0 hv hr he
  go_enter Tryz.func53, Tryz.ntmps53
  go_wp2_with fail
  refine HF.out.mono ?_
  rintro e w1 ⟨rfl, hb⟩
  have HB1 := Lib.hid (HB0.out.trans (hb.mono HB0.out.size))
  have hz := HB1.out.size
  clear hb
  go_wp2_with fail
  go_returns
  exact ⟨rfl, HB1.out.alloc hz _⟩
set_option maxRecDepth 100000 in
theorem tabSet_ok (h : TabIn B w t) (k i : Nat) (x : CV) (d : CD) (comp : Int) (va : Option Addr) (vl vc : Nat) (v : List WI) (hk : k < t.ents.length) (hc : colOf t.cps comp = some x) (hx : t.cps[i]? = some x) (hd : t.cols[i]? = some d) (hp : IntsAt w.heap.size w va vl vc v) (hfit : fitF x.c.fields v = 0) :
    Calls Tryz.prog 53 #[.pointer (some ⟨t.tb, 0, none⟩), .int .i64 (k : Int), .agg #[.int .i64 comp, .slice va vl vc]] w fun e w' => e = .returned (.int .i64 0) ∧ TabIn B w' (t.put i k d (packF x.c.fields v)) ∧ (∀ b, (t.put i k d (packF x.c.fields v)).foot b → t.foot b) ∧ Out t.cfoot w w' := by
  have hv : findVal t (k : Int) comp = .agg #[.int .i64 x.c.id, .string x.c.name, .slice x.fa x.fl x.fc, .pointer (some ⟨x.cb, 0, none⟩)] := by unfold findVal; rw [if_pos ⟨by omega, by omega⟩, hc]
  have he : findErr t (k : Int) comp = 0 := by unfold findErr; rw [if_pos ⟨by omega, by omega⟩, hc]; rfl
  obtain ⟨k1, k2, k3, k4⟩ := h.col i x d hx hd
  obtain ⟨hlay, hcn, _⟩ := fit_zero hfit
  have hlen := packF_len hlay (show cnt x.c.fields ≤ v.length by omega)
  have hb0 : Below w.heap.size w (w.alloc (.cells #[.int .i64 comp, .slice va vl vc] 48)) := by go_grown
  have hf := tabFind_in (h.below hb0) (k : Int) comp
  rw [hv, he] at hf
  have HF := Lib.hid hf
  have HB0 := Lib.hid hb0
  have HP0 := Lib.hid (heap_alloc_new w (.cells #[.int .i64 comp, .slice va vl vc] 48))
  have HFL := Lib.hid (h.fields x (List.mem_of_getElem? hx))
  have HIN := Lib.hid hp
  have HPK := Lib.hid (fun (W : World) (hW : CVF B W x) (hI : IntsAt W.heap.size W va vl vc v) => pack_ok x.c.fields x.fa x.fl x.fc va vl vc v W (fieldsAt_row hW.row hW.len hW.max) (slice_le hW.row) hI hfit)
  have HT := Lib.hid h
  have HD := Lib.hid hd
  obtain ⟨s, hs⟩ : ∃ s, s = (⟨(packF x.c.fields v).toArray⟩ : ByteArray) := ⟨_, rfl⟩
  rw [← hs] at HPK
  have hss : s.size = d.size := by rw [hs, k2, ← hlen]; show (packF x.c.fields v).toArray.size = _; rw [List.size_toArray]
  have hst : s.data.toList = packF x.c.fields v := by rw [hs]
  rw [← hst]
  have HST : Hid (∀ W, TabIn B W t → Calls Tryz.prog 95 #[.pointer (some ⟨x.cb, 0, none⟩), .int .i64 (k : Int), .string s] W fun e w' => e = .returned (.int .i64 0) ∧ ColAt B w' { d with rows := d.rows.set k s.data.toList } ∧ Out d.foot W w') := Lib.hid (fun W hW => by rw [← k1]; exact colSet_any B W d k s (hW.colsA d (List.mem_of_getElem? hd)) (by rw [k4]; exact hk) hss)
  clear h hv he hf hk hc hx hfit hb0 hp k1 k2 k3 k4 hlay hcn hlen hs hss hst hd
  go_enter Tryz.func53, Tryz.ntmps53
  go_wp2_with fail
  refine HF.out.mono ?_
  rintro e w1 ⟨rfl, hb⟩
  have HB1 := Lib.hid (HB0.out.trans (hb.mono HB0.out.size))
  have hz := HB1.out.size
  have hp1 := keep hb HP0.out
  have HB2 := Lib.hid (HB1.out.alloc hz (.cells #[.int .i64 x.c.id, .string x.c.name, .slice x.fa x.fl x.fc, .pointer (some ⟨x.cb, 0, none⟩)] 146))
  have c1 := cell_at hp1 1
  simp at c1
  have hwl : w.heap.size < w1.heap.size := lt_some hp1
  have HFL2 := Lib.hid (HFL.out.below HB2.out)
  have HIN2 := Lib.hid ((HIN.out.below HB2.out).mono HB2.out.size)
  have HK2 := Lib.hid (heap_alloc_new w1 (.cells #[.int .i64 x.c.id, .string x.c.name, .slice x.fa x.fl x.fc, .pointer (some ⟨x.cb, 0, none⟩)] 146))
  clear hb hp1
  go_wp2_with fail
  refine (HPK.out _ HFL2.out HIN2.out).mono ?_
  rintro e w2 ⟨rfl, hb2⟩
  have HB3 := Lib.hid (HB2.out.trans (hb2.mono HB2.out.size))
  have hk3 := keep hb2 HK2.out
  have c3 := cell_at hk3 3
  simp at c3
  have hk3l := lt_some hk3
  have HT3 := Lib.hid (HT.out.below HB3.out)
  clear hb2 c1 hk3
  go_wp2_with fail
  refine (HST.out _ HT3.out).mono ?_
  rintro e w3 ⟨rfl, hca, ho⟩
  have hset := HT3.out.setCol HD.out ho hca (fun b => Iff.rfl) rfl rfl rfl (by simp)
  have HS := Lib.hid hset
  clear hca ho hset c3
  go_wp2_with fail
  go_returns
  exact ⟨rfl, HS.out.1, HS.out.2.1, (Out.of HB3.out).trans HS.out.2.2 (fun _ hx => .inl hx)⟩
end
end Go.Proofs.YthmpknlgkflhiabGreat
namespace Go.Proofs.YthmpknlgkflhiabGreat
open Go.RowKit
open Go.Maps (Keyed IsMap Tidy int_keyed keyOf_int_mk)
set_option linter.unusedVariables false
section
variable {P : Program} {w : World} {k e : TypeId} {b cnt : Nat} {f : Lit → Option Value}
/-- An element reads as itself. -/
def heldR (v : Value) : Option (DataW Value × List MemPlace) := some (.held v, [])
/-- Block b is a map of cnt entries, that holds at each key what f says. -/
def MapV (P : Program) (w : World) (k : TypeId) (b cnt : Nat) (f : Lit → Option Value) : Prop :=
  ∃ D : DataW Value, w.ownsMap P k heldR b cnt D ∧ Maps.size D = cnt ∧ ∀ kl, Maps.has D kl = (f kl).isSome ∧ ∀ v, f kl = some v → ∀ z, D.atKey kl z = .held v
def putV (f : Lit → Option Value) (kl : Lit) (v : Value) : Lit → Option Value := fun x => if litEq x kl = true then some v else f x
def delV (f : Lit → Option Value) (kl : Lit) : Lit → Option Value := fun x => if litEq x kl = true then none else f x
theorem putV_same (f : Lit → Option Value) (kl : Lit) (v : Value) : putV f kl v kl = some v := if_pos (litEq_iff.2 rfl)
theorem putV_ne {f : Lit → Option Value} {kl x : Lit} {v : Value} (h : x ≠ kl) : putV f kl v x = f x := if_neg (fun e => h (litEq_iff.1 e))
theorem delV_same (f : Lit → Option Value) (kl : Lit) : delV f kl kl = none := if_pos (litEq_iff.2 rfl)
theorem delV_ne {f : Lit → Option Value} {kl x : Lit} (h : x ≠ kl) : delV f kl x = f x := if_neg (fun e => h (litEq_iff.1 e))
theorem MapV.made (w : World) (P : Program) (k : TypeId) : MapV P (w.alloc (.map #[] 0)) k w.heap.size 0 (fun _ => none) :=
  ⟨.map [], World.ownsMap_made _ _ _ _, rfl, fun kl => ⟨rfl, fun v h => by cases h⟩⟩
theorem MapV.kept {w' : World} {row : Option Nat} (h : MapV P w k b cnt f) (hg : w.grownBy w' row) (hne : some b ≠ row) : MapV P w' k b cnt f := by
  obtain ⟨D, h1, h2, h3⟩ := h
  exact ⟨D, h1.kept hg hne, h2, h3⟩
theorem MapV.alloc (h : MapV P w k b cnt f) (o : Obj) : MapV P (w.alloc o) k b cnt f := by
  obtain ⟨D, h1, h2, h3⟩ := h
  exact ⟨D, h1.alloc o, h2, h3⟩
theorem MapV.lt (h : MapV P w k b cnt f) : b < w.heap.size := by obtain ⟨D, h1, _⟩ := h; exact h1.lt
theorem MapV.out {F : Nat → Prop} {w' : World} (h : MapV P w k b cnt f) (ho : Out F w w') (hb : ¬ F b) : MapV P w' k b cnt f := by
  obtain ⟨D, ⟨es, c, hh, r⟩, h2⟩ := h
  exact ⟨D, ⟨es, c, ho.keep hh hb, r⟩, h2⟩
theorem MapV.below (h : MapV P w k b cnt f) {w' : World} (hb : Below w.heap.size w w') : MapV P w' k b cnt f := h.out (F := fun _ => False) (Out.of hb) id
theorem MapV.obj (h : MapV P w k b cnt f) : ∃ es c, w.heap[b]? = some (.map es c) := by
  obtain ⟨D, ⟨es, c, hb, _⟩, _⟩ := h
  exact ⟨es, c, hb⟩
/-- m[k]. -/
theorem MapV.look {t : TypeId} (h : MapV P w k b cnt f) (K : Keyed P k) (ht : P.underlying t = some (.map k e)) {z : Value} (hz : ∀ w, (zeroValue e).run P w = .ok z w)
    {key : Value} {kl : Lit} (hkey : keyOf P k key = some kl) : (Instr.lookup t (.map (some b)) key false).run P w = .ok ((f kl).getD z) w := by
  obtain ⟨D, h1, h2, h3⟩ := h
  obtain ⟨v, ps, hrun, hv⟩ := h1.lookup K ht (hz w) (show heldR z = some (.held z, []) from rfl) hkey
  rw [hrun]
  obtain ⟨hh, hat⟩ := h3 kl
  unfold heldR at hv
  simp only [Option.some.injEq, Prod.mk.injEq] at hv
  cases hf : f kl with
  | none =>
    rw [hf] at hh
    rw [Maps.atKey_of_not_has hh] at hv
    obtain ⟨hv, _⟩ := hv
    cases hv
    rfl
  | some u =>
    rw [hat u hf] at hv
    obtain ⟨hv, _⟩ := hv
    cases hv
    rfl
/-- len(m). -/
theorem MapV.len {t : TypeId} (h : MapV P w k b cnt f) (ht : P.underlying t = some (.map k e)) (ty : TypeId) : (Builtin.len_ #[t] ty #[.map (some b)]).run P w = .ok (.int .i64 cnt) w := by
  obtain ⟨D, h1, h2, h3⟩ := h
  rw [h1.len ht, h2]
/-- m[k] = v. -/
theorem MapV.store {t : TypeId} (h : MapV P w k b cnt f) (K : Keyed P k) (ht : P.underlying t = some (.map k e)) (hn : cnt < maxLen) {key val : Value} {kl : Lit} (hkey : keyOf P k key = some kl) :
    ∃ w', (Instr.mapUpdate t (.map (some b)) key val).run P w = .ok () w' ∧ MapV P w' k b (if (f kl).isSome then cnt else cnt + 1) (putV f kl val) ∧ w.grownBy w' (some b) ∧ w'.heap.size = w.heap.size := by
  obtain ⟨D, h1, h2, h3⟩ := h
  obtain ⟨w', hrun, h1', ht'⟩ := h1.store K ht hn hkey (show heldR val = some (.held val, []) from rfl)
  have hs : Maps.size (D.put kl (.held val)) = if (f kl).isSome then cnt else cnt + 1 := by
    rw [Maps.size_put (h1.tidy K), (h3 kl).1, h2]
  have hsz : w'.heap.size = w.heap.size := by
    obtain ⟨es, clock, es', clock', hb, rfl⟩ := ht'
    simp [ChangeMaps.setBlock]
  refine ⟨w', hrun, ⟨D.put kl (.held val), ?_, hs, fun x => ?_⟩, ht'.grown, hsz⟩
  · obtain ⟨es, clock, hb, F, hle, hD⟩ := h1'
    refine ⟨es, clock, hb, F, ?_, hD⟩
    rw [← hs, hD]
    simp [Maps.size, length_sorted]
  · by_cases hx : x = kl
    · subst hx
      rw [putV_same]
      refine ⟨by rw [Maps.has_put_same h1.isMap (K.key hkey)]; rfl, fun u hu z => ?_⟩
      rw [Maps.atKey_put_same h1.isMap (K.key hkey)]
      cases hu
      rfl
    · rw [putV_ne hx]
      refine ⟨by rw [Maps.has_put_other hx, (h3 x).1], fun u hu z => ?_⟩
      rw [Maps.atKey_put_other hx]
      exact (h3 x).2 u hu z
/-- delete(m, k). -/
theorem MapV.drop {t : TypeId} (h : MapV P w k b cnt f) (K : Keyed P k) (ht : P.underlying t = some (.map k e)) {key : Value} {kl : Lit} (hkey : keyOf P k key = some kl) (ty : TypeId) :
    ∃ w', (Builtin.delete_ #[t, k] ty #[.map (some b), key]).run P w = .ok (.tuple #[]) w' ∧ MapV P w' k b (if (f kl).isSome then cnt - 1 else cnt) (delV f kl) ∧ w.grownBy w' (some b) ∧ w'.heap.size = w.heap.size := by
  obtain ⟨D, h1, h2, h3⟩ := h
  obtain ⟨w', hrun, h1', ht'⟩ := h1.drop K ht hkey ty
  have hs : Maps.size (D.del kl) = if (f kl).isSome then cnt - 1 else cnt := by
    have := Maps.size_del (k := kl) (h1.tidy K)
    rw [(h3 kl).1, h2] at this
    split at this <;> rename_i hc
    · rw [if_pos hc]; omega
    · rw [if_neg hc]; omega
  have hsz : w'.heap.size = w.heap.size := by
    obtain ⟨es, clock, es', clock', hb, rfl⟩ := ht'
    simp [ChangeMaps.setBlock]
  refine ⟨w', hrun, ⟨D.del kl, ?_, hs, fun x => ?_⟩, ht'.grown, hsz⟩
  · obtain ⟨es, clock, hb, F, hle, hD⟩ := h1'
    refine ⟨es, clock, hb, F, ?_, hD⟩
    rw [← hs, hD]
    simp [Maps.size, length_sorted]
  · by_cases hx : x = kl
    · subst hx
      rw [delV_same]
      exact ⟨Maps.has_del_same, fun u hu z => by cases hu⟩
    · rw [delV_ne hx]
      refine ⟨by rw [Maps.has_del_other hx, (h3 x).1], fun u hu z => ?_⟩
      rw [Maps.atKey_del_other hx]
      exact (h3 x).2 u hu z
end
end Go.Proofs.YthmpknlgkflhiabGreat
namespace Go.Proofs.YthmpknlgkflhiabGreat
open Go.RowKit
set_option linter.unusedVariables false
theorem int_ne (a b : Bool) (c d e f : Int) (w : World) : Sem.run Tryz.prog (binOp BinOp.neq 67 (.agg #[.bool a, .int .u64 c, .int .u64 e]) (.agg #[.bool b, .int .u64 d, .int .u64 f])) w = .ok (.bool (!(a == b && (c == d && e == f)))) w := by
  cases h1 : a == b <;> cases h2 : c == d <;> cases h3 : e == f <;> go_simp
theorem wi_ext {x y : WI} (h : (x.neg == y.neg && (x.hi == y.hi && x.lo == y.lo)) = true) : x = y := by
  obtain ⟨a, b, c⟩ := x
  obtain ⟨a', b', c'⟩ := y
  simp at h
  obtain ⟨rfl, rfl, rfl⟩ := h
  rfl
theorem take_eq_succ {α : Type} {xs ys : List α} {k : Nat} {x y : α} (hx : xs[k]? = some x) (hy : ys[k]? = some y) (h : xs.take k = ys.take k) (he : x = y) : xs.take (k + 1) = ys.take (k + 1) := by rw [take_snoc hx, take_snoc hy, h, he]
end Go.Proofs.YthmpknlgkflhiabGreat
