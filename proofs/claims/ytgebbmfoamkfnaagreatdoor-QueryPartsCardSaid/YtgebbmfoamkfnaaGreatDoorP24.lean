/- Parts that are owned; table.Parts. · table.Set. · Maps told as functions to values of any element type; values16. · The law's test of two rows of numbers. · Plain: what the deeds of a table do to its values. · A table's deeds, with its values. -/
import Derived.Test.YtgebbmfoamkfnaaGreatDoorP23
import Derived.Laws.StructEq
import Derived.Test.YtgebbmfoamkfnaaGreatDoorP19
namespace Go.Proofs.YtgebbmfoamkfnaaGreatDoor
open Go.RowKit
set_option linter.unusedVariables false
theorem Tryz.info85 : (Tryz.prog.info? 85).map (fun i => (i.zero, i.size, i.bytes)) = some (some (.agg #[.int .i64 0, .slice none 0 0]), 2, 32) := by kernel_rfl
def partL (p : PW) : List Value := [.int .i64 p.comp, .slice p.va p.vl p.vc]
theorem partL_at : ∀ (l : List PW) (i : Nat) (p : PW), l[i]? = some p → (l.flatMap partL)[i * 2]? = some (.int .i64 p.comp) ∧ (l.flatMap partL)[i * 2 + 1]? = some (.slice p.va p.vl p.vc)
  | [], _, _, h => by simp at h
  | y :: r, 0, x, h => by
    simp at h
    subst h
    exact ⟨rfl, rfl⟩
  | y :: r, i + 1, x, h => by
    obtain ⟨h1, h2⟩ := partL_at r i x (by simpa using h)
    rw [show (i + 1) * 2 = i * 2 + 2 by omega]
    exact ⟨h1, h2⟩
/-- Parts with all their memory, at or above block B. -/
structure PO (B : Nat) (w : World) (a : Option Addr) (n c : Nat) (ps : List PW) : Prop where
  row : w.ownsRow B 85 2 (.slice a n c) n (ps.flatMap partL)
  vals : ∀ p ∈ ps, w.ownsRow B 87 3 (.slice p.va p.vl p.vc) p.vl (p.val.flatMap intL) ∧ p.val.length = p.vl ∧ ∀ y ∈ p.val, y.wf
  len : ps.length = n
/-- Blocks that aren't of parts. -/
def MutP (w : World) (b : Nat) : Prop := ∀ cs t fr, w.heap[b]? = some (.cells cs t fr) → t ≠ 85 ∧ t ≠ 87
theorem rowP {F : Nat → Prop} {w : World} {B s : Nat} {e : TypeId} {v : Value} {n : Nat} {xs : List Value} (h : w.ownsRow B e s v n xs) (he : e = 85 ∨ e = 87) (hM : ∀ b, F b → MutP w b) : ∀ x, v.ownBlock = some x → ¬ F x := by
  intro x hx hF
  obtain ⟨cur, hc⟩ := row_type h hx
  obtain ⟨h1, h2⟩ := hM x hF _ _ _ hc
  rcases he with rfl | rfl <;> contradiction
theorem PO.out {B : Nat} {w w' : World} {F : Nat → Prop} {a : Option Addr} {n c : Nat} {ps : List PW} (h : PO B w a n c ps) (ho : Out F w w') (hM : ∀ b, F b → MutP w b) : PO B w' a n c ps :=
  ⟨ownsRow_out h.row ho (rowP h.row (.inl rfl) hM), fun p hp => ⟨ownsRow_out (h.vals p hp).1 ho (rowP (h.vals p hp).1 (.inr rfl) hM), (h.vals p hp).2⟩, h.len⟩
theorem PO.below {B : Nat} {w w' : World} {a : Option Addr} {n c : Nat} {ps : List PW} (h : PO B w a n c ps) (hb : Below w.heap.size w w') : PO B w' a n c ps := h.out (F := fun _ => False) (Out.of hb) (fun _ => False.elim)
theorem PO.mono {B B' : Nat} {w : World} {a : Option Addr} {n c : Nat} {ps : List PW} (h : PO B w a n c ps) (hb : B' ≤ B) : PO B' w a n c ps := ⟨ownsRow_mono h.row hb, fun p hp => ⟨ownsRow_mono (h.vals p hp).1 hb, (h.vals p hp).2⟩, h.len⟩
theorem own_max {w : World} {B : Nat} {e : TypeId} {s : Nat} {a : Option Addr} {n c : Nat} {xs : List Value} (h : w.ownsRow B e s (.slice a n c) n xs) : n ≤ c ∧ c ≤ maxLen := by
  rcases h.2 with ⟨he, h0⟩ | ⟨g, cap, cur, he, _, _, h1, h2, _⟩
  · cases he; exact ⟨Nat.le_refl _, Nat.zero_le _⟩
  · cases he; exact ⟨h1, h2⟩
theorem PO.at {B : Nat} {w : World} {a : Option Addr} {n c : Nat} {ps : List PW} (h : PO B w a n c ps) : PartsAt w.heap.size w a n c ps := by
  obtain ⟨h1, h2⟩ := own_max h.row
  refine ⟨h.len, h1, h2, fun p hp => own_ints (h.vals p hp).1 (h.vals p hp).2.1 (h.vals p hp).2.2, ?_⟩
  rcases Nat.eq_zero_or_pos n with h0 | h0
  · exact .inl h0
  · obtain ⟨q, hq, _, hql, hqc⟩ := row_block h.row h0
    refine .inr ⟨q, 0, hq, hql, fun i p hp => ?_⟩
    obtain ⟨g0, g1⟩ := partL_at ps i p hp
    rw [Nat.zero_add]
    exact ⟨hqc _ _ g0, hqc _ _ g1⟩
/-- Parts as they are told. -/
def cv (ps : List PW) : List (Int × List WI) := ps.map fun p => (p.comp, p.val)
/-- The parts of a row. -/
def rowCv (t : TD) (r : List (List WI)) : List (Int × List WI) := (t.cps.map (·.c.id)).zip r
def IsParts (cvs : List (Int × List WI)) (w : World) (e : Ending) (w' : World) : Prop := ∃ pa pc ps, e = .returned (.tuple #[.slice pa cvs.length pc, .int .i64 0]) ∧ PO w.heap.size w' pa cvs.length pc ps ∧ cv ps = cvs ∧ Below w.heap.size w w'
theorem find_cv {x : CV} : ∀ {l : List CV}, (l.map (·.c.id)).Nodup → x ∈ l → colOf l x.c.id = some x
  | [], _, h => by simp at h
  | y :: r, hn, h => by
    unfold colOf
    rw [List.find?_cons]
    rw [List.map_cons, List.nodup_cons] at hn
    rcases List.mem_cons.1 h with rfl | h
    · simp
    · have : ¬ y.c.id = x.c.id := fun he => hn.1 (by rw [he]; exact List.mem_map.2 ⟨x, h, rfl⟩)
      rw [decide_eq_false this]
      exact find_cv hn.2 h
theorem colOf_at {t : TD} {i : Nat} {x : CV} (hids : t.cps.map (·.c.id) = idsTo t.set 24) (hx : t.cps[i]? = some x) : colOf t.cps x.c.id = some x :=
  find_cv (by rw [hids]; exact idsTo_nodup _ _) (List.mem_of_getElem? hx)
theorem take_zip {α β : Type} {l : List α} {m : List β} {i : Nat} {x : α} {y : β} (h1 : l[i]? = some x) (h2 : m[i]? = some y) : (l.zip m).take (i + 1) = (l.zip m).take i ++ [(x, y)] :=
  take_snoc (by rw [List.getElem?_zip_eq_some]; exact ⟨h1, h2⟩)
theorem rowCv_len {t : TD} {r : List (List WI)} (h : r.length = t.cps.length) : (rowCv t r).length = t.cps.length := by simp [rowCv, h]
section
variable {B : Nat} {w : World} {t : TD}
set_option maxRecDepth 100000 in
set_option maxHeartbeats 1000000 in
theorem tabParts_ok (h : TabIn B w t) (V : List (List (List WI))) (hV : Vals t V) (k : Nat) (r : List (List WI)) (hk : V[k]? = some r) :
    Calls Tryz.prog 97 #[.pointer (some ⟨t.tb, 0, none⟩), .int .i64 (k : Int)] w (IsParts (rowCv t r) w) := by
  obtain ⟨i0, hi, hz0', hz1, hz2⟩ := info_parts Tryz.info85
  have hkl : k < t.ents.length := by rw [← hV.len]; exact (List.getElem?_eq_some_iff.1 hk).1
  have hrl := hV.row r (List.mem_of_getElem? hk)
  have hc := tabAt_in h (k : Int)
  rw [if_pos ⟨by omega, by omega⟩] at hc
  have HC := Lib.hid hc
  have HT := Lib.hid h
  have HV := Lib.hid hV
  have HK := Lib.hid hk
  have HKL := Lib.hid hkl
  have HRL := Lib.hid hrl
  obtain ⟨_, _, _, _, _, _, c6, _⟩ := h.cells
  have hn24 := h.n24
  have hlen := h.len
  unfold IsParts
  rw [rowCv_len hrl]
  obtain ⟨n, hn⟩ : ∃ n, t.cps.length = n := ⟨_, rfl⟩
  rw [hn] at c6 hn24 hrl hlen ⊢
  have HN := Lib.hid hn
  have HLEN := Lib.hid hlen
  have HRL2 := Lib.hid hrl
  clear h hV hk hkl hrl hc hn hlen
  go_enter Tryz.func97, Tryz.ntmps97
  go_wp2_with fail
  refine HC.out.mono ?_
  rintro e w1 ⟨rfl, rfl⟩
  go_wp2_with fail
  clear c6
  go_loopw [7, 23] (fun v j wr => ∃ m : Nat, m ≤ n ∧ j = .int .i64 (m : Int) ∧ ∃ pa pc ps, v = .slice pa m pc ∧ PO w.heap.size wr pa m pc ps ∧ cv ps = (rowCv t r).take m ∧ Below w.heap.size w wr) (fun _ j _ => n - (intOf j).toNat)
  case atStart => exact ⟨0, by omega, rfl, none, 0, [], rfl, ⟨⟨by simp, .inl ⟨rfl, rfl⟩⟩, by simp, rfl⟩, by simp [cv], Below.refl _ _⟩
  case round =>
    obtain ⟨m, hm, rfl, pa, pc, ps, rfl, hpo, hcv, hbr⟩ := hrel
    by_cases hlt : m < n
    · obtain ⟨x, hx⟩ : ∃ x, t.cps[m]? = some x := ⟨_, List.getElem?_eq_getElem (by have := HN.out; omega)⟩
      obtain ⟨d, hd⟩ : ∃ d, t.cols[m]? = some d := ⟨_, List.getElem?_eq_getElem (by have := HLEN.out; omega)⟩
      obtain ⟨v, hv⟩ : ∃ v, r[m]? = some v := ⟨_, List.getElem?_eq_getElem (by have := HRL2.out; omega)⟩
      obtain ⟨a1, a2, a3⟩ := HV.out.at_ k m r v x d HK.out hv hx hd
      have htr := HT.out.below hbr
      have hcr := htr.colsR
      rw [HN.out] at hcr
      obtain ⟨q, hq, _, hql, hqc⟩ := row_block hcr (by omega)
      obtain ⟨g0, g1, g2, g3⟩ := colL_at t.cps hx
      have z0 := hqc _ _ g0
      have z1 := hqc _ _ g1
      have z2 := hqc _ _ g2
      have z3 := hqc _ _ g3
      rw [hq]
      have i1 : (0 : Int) ≤ (m : Int) := by omega
      have i2 : (m : Int) < (n : Int) := by omega
      have htA := htr.below ((Below.refl _ wr).alloc (Nat.le_refl _) (.cells #[.int .i64 x.c.id, .string x.c.name, .slice x.fa x.fl x.fc, .pointer (some ⟨x.cb, 0, none⟩)] 181))
      have HG := Lib.hid (tabGet_ok htA k m x d v x.c.id HKL.out (colOf_at htr.ids hx) hx hd a1 a2 a3)
      have HPO := Lib.hid (hpo.below ((Below.refl _ wr).alloc (Nat.le_refl _) (.cells #[.int .i64 x.c.id, .string x.c.name, .slice x.fa x.fl x.fc, .pointer (some ⟨x.cb, 0, none⟩)] 181)))
      have HBR := Lib.hid (hbr.alloc hbr.size (.cells #[.int .i64 x.c.id, .string x.c.name, .slice x.fa x.fl x.fc, .pointer (some ⟨x.cb, 0, none⟩)] 181))
      have HH := Lib.hid (heap_alloc_new wr (.cells #[.int .i64 x.c.id, .string x.c.name, .slice x.fa x.fl x.fc, .pointer (some ⟨x.cb, 0, none⟩)] 181))
      have HTZ := Lib.hid (take_zip (l := t.cps.map (·.c.id)) (by rw [List.getElem?_map, hx]; rfl) hv)
      have HCV := Lib.hid hcv
      have HWF := Lib.hid a3
      clear hx hd hv a1 a2 a3 htr hcr hqc g0 g1 g2 g3 htA hpo hcv hbr hq
      go_wp2_with fail
      refine HG.out.mono ?_
      rintro e w3 ⟨va, vc, rfl, hown, hb3⟩
      have hh3 := keep hb3 HH.out
      have c0 := cell_at hh3 0
      simp at c0
      have hh3l := lt_some hh3
      have hpo3 := HPO.out.below hb3
      have hb0 := HBR.out.trans (hb3.mono HBR.out.size)
      have hz0 := hb0.size
      have HOWN := Lib.hid ((ownsRow_mono hown HBR.out.size).alloc (.cells #[.int .i64 x.c.id, .slice va v.length vc] 85))
      have HPO3 := Lib.hid (hpo3.below ((Below.refl _ w3).alloc (Nat.le_refl _) (.cells #[.int .i64 x.c.id, .slice va v.length vc] 85)))
      have HB3 := Lib.hid (hb0.alloc hz0 (.cells #[.int .i64 x.c.id, .slice va v.length vc] 85))
      have HN1 := Lib.hid (And.intro (World.news_of_block (heap_alloc_new w3 (.cells #[.int .i64 x.c.id, .slice va v.length vc] 85))) (show ∀ u ∈ (#[.int .i64 x.c.id, .slice va v.length vc] : Array Value).toList, u.oneCell' = true from List.all_eq_true.1 rfl))
      clear hown hb3 hh3 hpo3 hb0 z0 z1 z2 z3 HG HH HPO HBR
      go_wp2_with (at_builtin; go_loud (refine wpList_append_own _ rfl (.tmp 36) (.tmp 42) 48 rfl w.heap.size 85 i0 (.agg #[.int .i64 0, .slice none 0 0]) 2 32 Tryz.underlying48 hi hz0' hz1 hz2 rfl (by decide) (.slice pa m pc) m (ps.flatMap partL) rfl HPO3.out.row ⟨w3.heap.size, 0, none⟩ 1 1 (#[.int .i64 x.c.id, .slice va v.length vc] : Array Value).toList rfl rfl HN1.out.1 HN1.out.2 (by unfold maxLen; omega) (by omega) (by simp; omega) ?_))
      intro v' w4 hown4 hg4 _
      obtain ⟨vb', vd', hv'⟩ := ownsRow_slice hown4
      rw [hv'] at hown4 ⊢
      clear hv'
      have hpo4 : PO w.heap.size w4 vb' (m + 1) vd' (ps ++ [⟨x.c.id, va, v.length, vc, v⟩]) := by
        refine ⟨by rw [List.flatMap_append]; exact hown4, fun p hp => ?_, by rw [List.length_append, HPO3.out.len]; rfl⟩
        rcases List.mem_append.1 hp with hp | hp
        · exact ⟨(HPO3.out.vals p hp).1.kept hg4 (ownsRow_ne (HPO3.out.vals p hp).1 HPO3.out.row (by decide)), (HPO3.out.vals p hp).2⟩
        · obtain rfl : p = _ := List.mem_singleton.1 hp
          exact ⟨HOWN.out.kept hg4 (ownsRow_ne HOWN.out HPO3.out.row (by decide)), rfl, HWF.out⟩
      have HPO4 := Lib.hid hpo4
      have HB4 := Lib.hid (HB3.out.trans (below_own HPO3.out.row hg4 (by simp; omega)))
      clear hown4 hg4 hpo4 HOWN HPO3 c0
      go_wp2_with fail
      go_roundw
      case rel => exact ⟨m + 1, by omega, by go_num, vb', vd', _, rfl, HPO4.out, by unfold cv at *; rw [List.map_append, HCV.out]; exact HTZ.out.symm, HB4.out⟩
      case measure => simp [intOf]; omega
    · obtain rfl : m = n := by omega
      have HPO := Lib.hid hpo
      have HB := Lib.hid hbr
      have HCV := Lib.hid hcv
      clear hpo hbr hcv
      go_wp2_with fail
      go_ret2
      exact ⟨pa, pc, ps, rfl, HPO.out, by rw [HCV.out, List.take_of_length_le (by rw [rowCv_len (by rw [HRL2.out, HN.out]), HN.out]; exact Nat.le_refl _)], HB.out⟩
end
end Go.Proofs.YtgebbmfoamkfnaaGreatDoor
namespace Go.Proofs.YtgebbmfoamkfnaaGreatDoor
open Go.RowKit
set_option linter.unusedVariables false
/-- The table with another row in a column. -/
def TD.put (t : TD) (i k : Nat) (d : CD) (row : List UInt8) : TD := { t with cols := t.cols.set i { d with rows := d.rows.set k row } }
end Go.Proofs.YtgebbmfoamkfnaaGreatDoor
namespace Go.Proofs.YtgebbmfoamkfnaaGreatDoor
open Go.RowKit
open Go.Maps (Keyed IsMap Tidy int_keyed keyOf_int_mk)
set_option linter.unusedVariables false
section
variable {P : Program} {w : World} {k e : TypeId} {b cnt : Nat} {f : Lit → Option Value}
/-- An element reads as itself. -/
def heldR (v : Value) : Option (DataW Value × List MemPlace) := some (.held v, [])
/-- Block b is a map of cnt entries, that holds at each key what f says. -/
def MapV (P : Program) (w : World) (k : TypeId) (b cnt : Nat) (f : Lit → Option Value) : Prop :=
  ∃ D : DataW Value, w.ownsMap P k heldR b cnt D ∧ Maps.size D = cnt ∧ ∀ kl, Maps.has D kl = (f kl).isSome ∧ ∀ v, f kl = some v → ∀ z, D.atKey kl z = .held v
def putV (f : Lit → Option Value) (kl : Lit) (v : Value) : Lit → Option Value := fun x => if litEq x kl = true then some v else f x
def delV (f : Lit → Option Value) (kl : Lit) : Lit → Option Value := fun x => if litEq x kl = true then none else f x
theorem putV_same (f : Lit → Option Value) (kl : Lit) (v : Value) : putV f kl v kl = some v := if_pos (litEq_iff.2 rfl)
theorem putV_ne {f : Lit → Option Value} {kl x : Lit} {v : Value} (h : x ≠ kl) : putV f kl v x = f x := if_neg (fun e => h (litEq_iff.1 e))
theorem delV_same (f : Lit → Option Value) (kl : Lit) : delV f kl kl = none := if_pos (litEq_iff.2 rfl)
theorem delV_ne {f : Lit → Option Value} {kl x : Lit} (h : x ≠ kl) : delV f kl x = f x := if_neg (fun e => h (litEq_iff.1 e))
theorem MapV.made (w : World) (P : Program) (k : TypeId) : MapV P (w.alloc (.map #[] 0)) k w.heap.size 0 (fun _ => none) :=
  ⟨.map [], World.ownsMap_made _ _ _ _, rfl, fun kl => ⟨rfl, fun v h => by cases h⟩⟩
theorem MapV.kept {w' : World} {row : Option Nat} (h : MapV P w k b cnt f) (hg : w.grownBy w' row) (hne : some b ≠ row) : MapV P w' k b cnt f := by
  obtain ⟨D, h1, h2, h3⟩ := h
  exact ⟨D, h1.kept hg hne, h2, h3⟩
theorem MapV.alloc (h : MapV P w k b cnt f) (o : Obj) : MapV P (w.alloc o) k b cnt f := by
  obtain ⟨D, h1, h2, h3⟩ := h
  exact ⟨D, h1.alloc o, h2, h3⟩
theorem MapV.lt (h : MapV P w k b cnt f) : b < w.heap.size := by obtain ⟨D, h1, _⟩ := h; exact h1.lt
theorem MapV.out {F : Nat → Prop} {w' : World} (h : MapV P w k b cnt f) (ho : Out F w w') (hb : ¬ F b) : MapV P w' k b cnt f := by
  obtain ⟨D, ⟨es, c, hh, r⟩, h2⟩ := h
  exact ⟨D, ⟨es, c, ho.keep hh hb, r⟩, h2⟩
theorem MapV.below (h : MapV P w k b cnt f) {w' : World} (hb : Below w.heap.size w w') : MapV P w' k b cnt f := h.out (F := fun _ => False) (Out.of hb) id
theorem MapV.obj (h : MapV P w k b cnt f) : ∃ es c, w.heap[b]? = some (.map es c) := by
  obtain ⟨D, ⟨es, c, hb, _⟩, _⟩ := h
  exact ⟨es, c, hb⟩
/-- m[k]. -/
theorem MapV.look {t : TypeId} (h : MapV P w k b cnt f) (K : Keyed P k) (ht : P.underlying t = some (.map k e)) {z : Value} (hz : ∀ w, (zeroValue e).run P w = .ok z w)
    {key : Value} {kl : Lit} (hkey : keyOf P k key = some kl) : (Instr.lookup t (.map (some b)) key false).run P w = .ok ((f kl).getD z) w := by
  obtain ⟨D, h1, h2, h3⟩ := h
  obtain ⟨v, ps, hrun, hv⟩ := h1.lookup K ht (hz w) (show heldR z = some (.held z, []) from rfl) hkey
  rw [hrun]
  obtain ⟨hh, hat⟩ := h3 kl
  unfold heldR at hv
  simp only [Option.some.injEq, Prod.mk.injEq] at hv
  cases hf : f kl with
  | none =>
    rw [hf] at hh
    rw [Maps.atKey_of_not_has hh] at hv
    obtain ⟨hv, _⟩ := hv
    cases hv
    rfl
  | some u =>
    rw [hat u hf] at hv
    obtain ⟨hv, _⟩ := hv
    cases hv
    rfl
/-- len(m). -/
theorem MapV.len {t : TypeId} (h : MapV P w k b cnt f) (ht : P.underlying t = some (.map k e)) (ty : TypeId) : (Builtin.len_ #[t] ty #[.map (some b)]).run P w = .ok (.int .i64 cnt) w := by
  obtain ⟨D, h1, h2, h3⟩ := h
  rw [h1.len ht, h2]
/-- m[k] = v. -/
theorem MapV.store {t : TypeId} (h : MapV P w k b cnt f) (K : Keyed P k) (ht : P.underlying t = some (.map k e)) (hn : cnt < maxLen) {key val : Value} {kl : Lit} (hkey : keyOf P k key = some kl) :
    ∃ w', (Instr.mapUpdate t (.map (some b)) key val).run P w = .ok () w' ∧ MapV P w' k b (if (f kl).isSome then cnt else cnt + 1) (putV f kl val) ∧ w.grownBy w' (some b) ∧ w'.heap.size = w.heap.size := by
  obtain ⟨D, h1, h2, h3⟩ := h
  obtain ⟨w', hrun, h1', ht'⟩ := h1.store K ht hn hkey (show heldR val = some (.held val, []) from rfl)
  have hs : Maps.size (D.put kl (.held val)) = if (f kl).isSome then cnt else cnt + 1 := by
    rw [Maps.size_put (h1.tidy K), (h3 kl).1, h2]
  have hsz : w'.heap.size = w.heap.size := by
    obtain ⟨es, clock, es', clock', hb, rfl⟩ := ht'
    simp [ChangeMaps.setBlock]
  refine ⟨w', hrun, ⟨D.put kl (.held val), ?_, hs, fun x => ?_⟩, ht'.grown, hsz⟩
  · obtain ⟨es, clock, hb, F, hle, hD⟩ := h1'
    refine ⟨es, clock, hb, F, ?_, hD⟩
    rw [← hs, hD]
    simp [Maps.size, length_sorted]
  · by_cases hx : x = kl
    · subst hx
      rw [putV_same]
      refine ⟨by rw [Maps.has_put_same h1.isMap (K.key hkey)]; rfl, fun u hu z => ?_⟩
      rw [Maps.atKey_put_same h1.isMap (K.key hkey)]
      cases hu
      rfl
    · rw [putV_ne hx]
      refine ⟨by rw [Maps.has_put_other hx, (h3 x).1], fun u hu z => ?_⟩
      rw [Maps.atKey_put_other hx]
      exact (h3 x).2 u hu z
/-- delete(m, k). -/
theorem MapV.drop {t : TypeId} (h : MapV P w k b cnt f) (K : Keyed P k) (ht : P.underlying t = some (.map k e)) {key : Value} {kl : Lit} (hkey : keyOf P k key = some kl) (ty : TypeId) :
    ∃ w', (Builtin.delete_ #[t, k] ty #[.map (some b), key]).run P w = .ok (.tuple #[]) w' ∧ MapV P w' k b (if (f kl).isSome then cnt - 1 else cnt) (delV f kl) ∧ w.grownBy w' (some b) ∧ w'.heap.size = w.heap.size := by
  obtain ⟨D, h1, h2, h3⟩ := h
  obtain ⟨w', hrun, h1', ht'⟩ := h1.drop K ht hkey ty
  have hs : Maps.size (D.del kl) = if (f kl).isSome then cnt - 1 else cnt := by
    have := Maps.size_del (k := kl) (h1.tidy K)
    rw [(h3 kl).1, h2] at this
    split at this <;> rename_i hc
    · rw [if_pos hc]; omega
    · rw [if_neg hc]; omega
  have hsz : w'.heap.size = w.heap.size := by
    obtain ⟨es, clock, es', clock', hb, rfl⟩ := ht'
    simp [ChangeMaps.setBlock]
  refine ⟨w', hrun, ⟨D.del kl, ?_, hs, fun x => ?_⟩, ht'.grown, hsz⟩
  · obtain ⟨es, clock, hb, F, hle, hD⟩ := h1'
    refine ⟨es, clock, hb, F, ?_, hD⟩
    rw [← hs, hD]
    simp [Maps.size, length_sorted]
  · by_cases hx : x = kl
    · subst hx
      rw [delV_same]
      exact ⟨Maps.has_del_same, fun u hu z => by cases hu⟩
    · rw [delV_ne hx]
      refine ⟨by rw [Maps.has_del_other hx, (h3 x).1], fun u hu z => ?_⟩
      rw [Maps.atKey_del_other hx]
      exact (h3 x).2 u hu z
end
end Go.Proofs.YtgebbmfoamkfnaaGreatDoor
namespace Go.Proofs.YtgebbmfoamkfnaaGreatDoor
open Go.RowKit
set_option linter.unusedVariables false
theorem take_eq_succ {α : Type} {xs ys : List α} {k : Nat} {x y : α} (hx : xs[k]? = some x) (hy : ys[k]? = some y) (h : xs.take k = ys.take k) (he : x = y) : xs.take (k + 1) = ys.take (k + 1) := by rw [take_snoc hx, take_snoc hy, h, he]
end Go.Proofs.YtgebbmfoamkfnaaGreatDoor
namespace Go.Proofs.YtgebbmfoamkfnaaGreatDoor
open Go.RowKit
set_option linter.unusedVariables false
theorem Vals.new {t : TD} (h : t.ents = []) : Vals t [] := ⟨by simp [h], by simp, by simp⟩
def addRow (ps : List PW) (t : TD) : List (List WI) := t.cps.map fun x => match partOf ps x.c.id with | some p => p.val | none => []
theorem Vals.add {B : Nat} {w : World} {t : TD} {V : List (List (List WI))} {e : Int} {ps : List PW} {ea : Option Addr} {ec : Nat} {D : List CD} (hT : TabIn B w t) (h : Vals t V) (hfit : ∀ x ∈ t.cps, ∃ p, partOf ps x.c.id = some p ∧ fitF x.c.fields p.val = 0 ∧ ∀ y ∈ p.val, y.wf)
    (hD : ∀ (i : Nat) (d d' : CD), t.cols[i]? = some d → D[i]? = some d' → PutG ps t.cps i d d') : Vals { t with ents := t.ents ++ [e], ea := ea, ec := ec, cols := D } (V ++ [addRow ps t]) := by
  refine ⟨by simp [h.len], fun r hr => ?_, ?_⟩
  · rcases List.mem_append.1 hr with hr | hr
    · exact h.row r hr
    · obtain rfl := List.mem_singleton.1 hr
      simp [addRow]
  · intro k i r v x d' hk hv hx hd'
    have hil := (List.getElem?_eq_some_iff.1 hx).1
    obtain ⟨d, hd⟩ : ∃ d, t.cols[i]? = some d := ⟨_, List.getElem?_eq_getElem (by rw [hT.len]; exact hil)⟩
    obtain ⟨_, _, _, hrl⟩ := hT.col i x d hx hd
    obtain ⟨hrows, _⟩ := hD i d d' hd hd' x hx
    have hVl := h.len
    rcases Nat.lt_or_ge k V.length with hlt | hge
    · rw [List.getElem?_append_left hlt] at hk
      obtain ⟨h1, h2⟩ := h.at_ k i r v x d hk hv hx hd
      exact ⟨by rw [hrows, List.getElem?_append_left (by omega)]; exact h1, h2⟩
    · rw [List.getElem?_append_right hge] at hk
      have hk0 : k - V.length = 0 := by
        have := (List.getElem?_eq_some_iff.1 hk).1
        simp at this
        omega
      rw [hk0] at hk
      simp at hk
      subst hk
      obtain ⟨p, hp, hf, hw⟩ := hfit x (List.mem_of_getElem? hx)
      have hvv : v = p.val := by
        unfold addRow at hv
        rw [List.getElem?_map, hx] at hv
        simp [hp] at hv
        exact hv.symm
      subst hvv
      refine ⟨?_, hf, hw⟩
      rw [hrows, List.getElem?_append_right (by omega), show k - d.rows.length = 0 by omega]
      simp [rowOf, hp]
theorem set_take_at {α : Type} {l : List α} {r m k : Nat} {a x : α} (h : ((l.set r a).take m)[k]? = some x) : k < m ∧ ((k = r ∧ x = a) ∨ (k ≠ r ∧ l[k]? = some x)) := by
  rw [List.getElem?_take] at h
  split at h
  · rename_i hk
    refine ⟨hk, ?_⟩
    rw [List.getElem?_set] at h
    split at h
    · rename_i hr
      split at h
      · exact .inl ⟨hr.symm, by cases h; rfl⟩
      · cases h
    · rename_i hr
      exact .inr ⟨fun e => hr e.symm, h⟩
  · cases h
theorem set_at {α : Type} {l : List α} {r k : Nat} {a x : α} (h : (l.set r a)[k]? = some x) : (k = r ∧ x = a) ∨ (k ≠ r ∧ l[k]? = some x) := by
  have hk := (List.getElem?_eq_some_iff.1 h).1
  exact (set_take_at (m := k + 1) (by rw [List.getElem?_take, if_pos (by omega)]; exact h)).2
theorem Vals.drop {B : Nat} {w : World} {t : TD} {V : List (List (List WI))} {r m : Nat} {e : Int} {vl : List (List WI)} {D : List CD} (hT : TabIn B w t) (h : Vals t V) (hr : r ≤ m) (hm : t.ents.length = m + 1) (hl : V[m]? = some vl)
    (hD : ∀ (i : Nat) (d d' : CD), t.cols[i]? = some d → D[i]? = some d' → DropG r m i d d') : Vals { t with ents := (t.ents.set r e).take m, cols := D } ((V.set r vl).take m) := by
  have hVl := h.len
  refine ⟨by simp [h.len], fun q hq => ?_, ?_⟩
  · obtain ⟨k, hk⟩ := List.getElem?_of_mem hq
    obtain ⟨_, ⟨_, rfl⟩ | ⟨_, h2⟩⟩ := set_take_at hk
    · exact h.row _ (List.mem_of_getElem? hl)
    · exact h.row _ (List.mem_of_getElem? h2)
  · intro k i q v x d' hk hv hx hd'
    have hil := (List.getElem?_eq_some_iff.1 hx).1
    obtain ⟨d, hd⟩ : ∃ d, t.cols[i]? = some d := ⟨_, List.getElem?_eq_getElem (by rw [hT.len]; exact hil)⟩
    obtain ⟨_, _, _, hrl⟩ := hT.col i x d hx hd
    obtain ⟨l, hl'⟩ : ∃ l, d.rows[m]? = some l := ⟨_, List.getElem?_eq_getElem (by omega)⟩
    obtain ⟨hrows, _⟩ := hD i d d' hd hd' l hl'
    obtain ⟨hkm, hc⟩ := set_take_at hk
    rcases hc with ⟨rfl, rfl⟩ | ⟨hne, h2⟩
    · obtain ⟨h1, h3⟩ := h.at_ m i q v x d hl hv hx hd
      rw [hl'] at h1
      cases h1
      refine ⟨?_, h3⟩
      rw [hrows, List.getElem?_take, if_pos hkm, List.getElem?_set, if_pos rfl, if_pos (by omega)]
    · obtain ⟨h1, h3⟩ := h.at_ k i q v x d h2 hv hx hd
      refine ⟨?_, h3⟩
      rw [hrows, List.getElem?_take, if_pos hkm, List.getElem?_set, if_neg (fun e => hne e.symm)]
      exact h1
theorem Vals.put {t : TD} {V : List (List (List WI))} {i k : Nat} {d : CD} {x : CV} {r : List (List WI)} {v : List WI} (h : Vals t V) (hk : V[k]? = some r) (hx : t.cps[i]? = some x) (hd : t.cols[i]? = some d) (hkl : k < d.rows.length) (hfit : fitF x.c.fields v = 0) (hwf : ∀ y ∈ v, y.wf) :
    Vals (t.put i k d (packF x.c.fields v)) (V.set k (r.set i v)) := by
  refine ⟨by rw [List.length_set]; exact h.len, fun q hq => ?_, ?_⟩
  · obtain ⟨j, hj⟩ := List.getElem?_of_mem hq
    rcases set_at hj with ⟨_, rfl⟩ | ⟨_, h2⟩
    · rw [List.length_set]; exact h.row _ (List.mem_of_getElem? hk)
    · exact h.row _ (List.mem_of_getElem? h2)
  · intro k' i' q v' x' d' hk' hv' hx' hd'
    have hx2 : t.cps[i']? = some x' := hx'
    rcases set_at (show (t.cols.set i { d with rows := d.rows.set k (packF x.c.fields v) })[i']? = some d' from hd') with ⟨rfl, rfl⟩ | ⟨hne, hd2⟩
    · obtain rfl : x' = x := by rw [hx] at hx2; cases hx2; rfl
      rcases set_at hk' with ⟨rfl, rfl⟩ | ⟨hne2, hk2⟩
      · rcases set_at hv' with ⟨_, rfl⟩ | ⟨hne3, _⟩
        · refine ⟨?_, hfit, hwf⟩
          show (d.rows.set k' _)[k']? = _
          rw [List.getElem?_set, if_pos rfl, if_pos hkl]
        · exact absurd rfl hne3
      · obtain ⟨h1, h3⟩ := h.at_ k' i' q v' x' d hk2 hv' hx hd
        refine ⟨?_, h3⟩
        show (d.rows.set k _)[k']? = _
        rw [List.getElem?_set, if_neg (fun e => hne2 e.symm)]
        exact h1
    · rcases set_at hk' with ⟨rfl, rfl⟩ | ⟨hne2, hk2⟩
      · rcases set_at hv' with ⟨rfl, _⟩ | ⟨_, hv2⟩
        · exact absurd rfl hne
        · exact h.at_ k' i' r v' x' d' hk hv2 hx2 hd2
      · exact h.at_ k' i' q v' x' d' hk2 hv' hx2 hd2
end Go.Proofs.YtgebbmfoamkfnaaGreatDoor
namespace Go.Proofs.YtgebbmfoamkfnaaGreatDoor
open Go.RowKit
set_option linter.unusedVariables false
section
variable {B : Nat} {w : World} {t : TD} {V : List (List (List WI))}
theorem TDeed.refl (h : TabIn B w t) {w' : World} (hb : Below w.heap.size w w') : TDeed B t t w w' := ⟨h.below hb, rfl, rfl, rfl, rfl, rfl, Out.of hb, fun _ => .inl⟩
theorem tabAdd_deed (h : TabIn B w t) (hV : Vals t V) (e : Int) (ps : List PW) (pa : Option Addr) (pl pc : Nat) (hps : ∀ w', Out t.cfoot w w' → PartsAt w'.heap.size w' pa pl pc ps) (hl : pl ≤ 100000) (herr : addErr t e ps = 0)
    (hfit : ∀ x ∈ t.cps, ∃ p, partOf ps x.c.id = some p ∧ fitF x.c.fields p.val = 0 ∧ ∀ y ∈ p.val, y.wf) :
    Calls Tryz.prog 53 #[.pointer (some ⟨t.tb, 0, none⟩), .int .u64 e, .slice pa pl pc] w fun en w' => en = .returned (.tuple #[.int .i64 (t.ents.length : Int), .int .i64 0]) ∧ ∃ t', TDeed B t t' w w' ∧ t'.ents = t.ents ++ [e] ∧ t'.kept = t.kept ∧ t'.cps = t.cps ∧ Vals t' (V ++ [addRow ps t]) := by
  refine (tabAdd_ok h e ps pa pl pc hps hl herr).mono ?_
  rintro en w' ⟨rfl, ea, ec, D, hT, hG, hO, hF⟩
  exact ⟨rfl, _, ⟨hT, rfl, rfl, rfl, rfl, rfl, hO, hF⟩, rfl, rfl, rfl, hV.add h hfit hG⟩
theorem Vals.kept (hV : Vals t V) (k : Nat) : Vals { t with kept := k } V := ⟨hV.len, hV.row, hV.at_⟩
end
end Go.Proofs.YtgebbmfoamkfnaaGreatDoor
