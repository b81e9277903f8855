/- Pieces of a function's code, frames as functions; what the law's rounds keep. Printed by mkZR.py. · The law's switch: the cases that clone, and none. Printed by mkZS.py. · The law's switch: the table is cloned; a clone is changed and let go. Printed by mkZS.py. · The law's switch: a clone is changed and let go; Keep, Yield. Printed by mkZS.py. -/
import Derived.Test.YtoadihebdaooaaaGreatE43
import Derived.Test.YtoadihebdaooaaaGreatE35
import Derived.Test.YtoadihebdaooaaaGreatE44
import Derived.Test.YtoadihebdaooaaaGreatE3
import Derived.Deep.CutBlock
namespace Go.Proofs.YtoadihebdaooaaaGreat
open Go.RowKit
set_option linter.unusedVariables false
/-- A way into code. -/
inductive Dir where
  | l | r | t | f | i
def goIn : List Dir → Code → Code
  | [], c => c
  | .l :: p, .seq a _ => goIn p a
  | .r :: p, .seq _ b => goIn p b
  | .t :: p, .cond _ a _ => goIn p a
  | .f :: p, .cond _ _ b => goIn p b
  | .i :: p, .loop b => goIn p b
  | .i :: p, .block _ b => goIn p b
  | .i :: p, .scope b => goIn p b
  | _, c => c
def piece (f : Func) (p : List Dir) : Code := goIn p (f.body.getD .skip)
/-- The law's frame. -/
def frX (f : Nat → Value) : List Value := [f 0, f 1, f 2, f 3, f 4, f 5, f 6, f 7, f 8, f 9, f 10, f 11, f 12, f 13, f 14, f 15, f 16, f 17, f 18, f 19, f 20, f 21, f 22, f 23, f 24, f 25, f 26, f 27, f 28, f 29, f 30, f 31, f 32, f 33, f 34, f 35, f 36, f 37, f 38, f 39, f 40, f 41, f 42, f 43, f 44, f 45, f 46, f 47, f 48, f 49, f 50, f 51, f 52, f 53, f 54, f 55, f 56, f 57, f 58, f 59, f 60, f 61, f 62, f 63, f 64, f 65, f 66, f 67, f 68, f 69, f 70, f 71, f 72, f 73, f 74, f 75, f 76, f 77, f 78, f 79, f 80, f 81, f 82, f 83, f 84, f 85, f 86, f 87, f 88, f 89, f 90, f 91, f 92, f 93, f 94, f 95, f 96, f 97, f 98, f 99, f 100, f 101, f 102, f 103, f 104, f 105, f 106, f 107, f 108, f 109, f 110, f 111, f 112, f 113, f 114, f 115, f 116, f 117, f 118, f 119, f 120, f 121, f 122, f 123, f 124, f 125, f 126, f 127, f 128, f 129, f 130, f 131, f 132, f 133, f 134, f 135, f 136, f 137, f 138, f 139, f 140, f 141, f 142, f 143, f 144, f 145, f 146, f 147, f 148, f 149, f 150, f 151, f 152, f 153, f 154, f 155, f 156, f 157, f 158, f 159, f 160, f 161, f 162, f 163, f 164, f 165, f 166, f 167, f 168, f 169, f 170, f 171, f 172, f 173, f 174, f 175, f 176, f 177, f 178, f 179, f 180, f 181, f 182, f 183, f 184, f 185, f 186, f 187, f 188, f 189, f 190, f 191, f 192, f 193, f 194, f 195, f 196, f 197, f 198, f 199, f 200, f 201, f 202, f 203, f 204, f 205, f 206, f 207, f 208, f 209, f 210, f 211, f 212, f 213, f 214, f 215, f 216, f 217, f 218, f 219, f 220, f 221, f 222, f 223, f 224, f 225, f 226, f 227, f 228, f 229, f 230, f 231, f 232, f 233, f 234, f 235, f 236, f 237, f 238, f 239, f 240, f 241, f 242, f 243, f 244, f 245, f 246, f 247, f 248, f 249, f 250, f 251, f 252, f 253, f 254, f 255, f 256, f 257, f 258, f 259, f 260, f 261, f 262, f 263, f 264, f 265, f 266, f 267, f 268, f 269, f 270, f 271, f 272, f 273, f 274, f 275, f 276, f 277, f 278, f 279, f 280, f 281, f 282, f 283, f 284, f 285, f 286, f 287, f 288, f 289, f 290, f 291, f 292, f 293, f 294, f 295, f 296, f 297, f 298, f 299, f 300, f 301, f 302, f 303, f 304, f 305, f 306, f 307, f 308, f 309, f 310, f 311, f 312, f 313, f 314, f 315, f 316, f 317, f 318, f 319, f 320, f 321, f 322, f 323, f 324, f 325, f 326, f 327, f 328, f 329, f 330, f 331, f 332, f 333, f 334, f 335, f 336, f 337, f 338, f 339, f 340, f 341, f 342, f 343, f 344, f 345, f 346, f 347, f 348, f 349, f 350, f 351, f 352, f 353, f 354, f 355, f 356, f 357, f 358, f 359, f 360, f 361, f 362, f 363, f 364, f 365, f 366, f 367, f 368, f 369, f 370, f 371, f 372, f 373, f 374, f 375, f 376, f 377, f 378, f 379, f 380, f 381, f 382, f 383, f 384, f 385, f 386, f 387, f 388, f 389, f 390, f 391, f 392, f 393, f 394, f 395, f 396, f 397, f 398, f 399, f 400, f 401, f 402, f 403, f 404, f 405, f 406, f 407, f 408, f 409, f 410, f 411, f 412, f 413, f 414, f 415, f 416]
/-- What the law's rounds keep, but that the rows agree. -/
structure XP (w0 : World) (UB : Nat) (ver : Int) (a : Option Addr) (len cap : Nat) (cs : List Cmp) (set : Int) (B : Nat) (t : TD) (V : List (List (List WI))) (u : UD) (rs : List URow) (w : World) : Prop where
  tab : TabIn B w t
  vals : Vals t V
  ub : w.heap[UB]? = some (.cells u.cs 99 (0, 0))
  ru : RU 0 w u.la u.ln u.lc rs
  ids : w.ownsRow 0 3 1 (.slice u.ia u.il u.ic) u.il ((idsTo set 24).map (.int .i64))
  idl : (idsTo set 24).length = u.il
  con : u.ver = ver ∧ u.ca = a ∧ u.cl = len ∧ u.cc = cap
  seteq : t.set = set
  rel : RelC cs t
  bel : Below w0.heap.size w0 w
  le : w0.heap.size ≤ B
  leU : w0.heap.size ≤ UB
theorem TabIn.foot_ty {B : Nat} {w : World} {t : TD} (h : TabIn B w t) {b : Nat} (hb : t.foot b) : ∃ cs ty fr, w.heap[b]? = some (.cells cs ty fr) ∧ (ty = 139 ∨ ty = 61 ∨ ty = 207 ∨ ty = 192 ∨ ty = 5) := by
  rcases hb with rfl | hb | ⟨d, hd, hb⟩
  · exact ⟨_, _, _, h.blk, .inl rfl⟩
  · obtain ⟨cur, hh⟩ := row_type h.entsR hb
    exact ⟨_, _, _, hh, .inr (.inl rfl)⟩
  · obtain ⟨cs, ty, fr, hh, ht⟩ := (h.colsA d hd).foot_ty hb
    rcases ht with rfl | rfl | rfl
    · exact ⟨_, _, _, hh, .inr (.inr (.inl rfl))⟩
    · exact ⟨_, _, _, hh, .inr (.inr (.inr (.inl rfl)))⟩
    · exact ⟨_, _, _, hh, .inr (.inr (.inr (.inr rfl)))⟩
section
variable {w0 : World} {UB : Nat} {ver : Int} {a : Option Addr} {len cap : Nat} {cs : List Cmp} {set : Int} {B : Nat} {t t' : TD} {V V' : List (List (List WI))} {u u' : UD} {rs rs' : List URow} {w w' : World}
theorem XP.not_foot (h : XP w0 UB ver a len cap cs set B t V u rs w) : ¬ t.foot UB := by
  intro hf
  obtain ⟨cs', ty, fr, hh, ht⟩ := h.tab.foot_ty hf
  rw [h.ub] at hh
  cases hh
  rcases ht with ht | ht | ht | ht | ht <;> cases ht
/-- A deed of the table. -/
theorem XP.table (h : XP w0 UB ver a len cap cs set B t V u rs w) (ho : Out t.foot w w') (ht : TabIn B w' t') (hv : Vals t' V') (hs : t'.set = t.set) (hc : t'.cps = t.cps) : XP w0 UB ver a len cap cs set B t' V' u rs w' := by
  refine ⟨ht, hv, ho.keep h.ub h.not_foot, h.ru.out ho (fun b hb => h.tab.foot_mutU hb), ownsRow_out h.ids ho (fun x hx hf => ?_), h.idl, h.con, hs.trans h.seteq, ?_, h.bel.trans (ho.below (fun b hb => Nat.le_trans h.le (h.tab.foot_ge hb).1) h.bel.size), h.le, h.leU⟩
  · obtain ⟨cur, h1⟩ := row_type h.ids hx
    obtain ⟨cs', ty, fr, hh, ht⟩ := h.tab.foot_ty hf
    rw [h1] at hh
    cases hh
    rcases ht with ht | ht | ht | ht | ht <;> cases ht
  · unfold RelC TD.cs at *
    rw [hs, hc]
    exact h.rel
theorem XP.below (h : XP w0 UB ver a len cap cs set B t V u rs w) (hb : Below w.heap.size w w') : XP w0 UB ver a len cap cs set B t V u rs w' := h.table (Out.of hb) (h.tab.below hb) h.vals rfl rfl
/-- Another table with the same rows. -/
theorem XP.copy (h : XP w0 UB ver a len cap cs set B t V u rs w) (hb : Below w.heap.size w w') (ht : TabIn B w' t') (hv : Vals t' V') (hs : t'.set = t.set) (hc : t'.cps.map (·.c) = t.cps.map (·.c)) : XP w0 UB ver a len cap cs set B t' V' u rs w' := by
  have h2 := h.below hb
  refine ⟨ht, hv, h2.ub, h2.ru, h2.ids, h2.idl, h2.con, hs.trans h.seteq, ?_, h2.bel, h2.le, h2.leU⟩
  have hr := h.rel
  unfold RelC TD.cs at *
  rw [hs, hc]
  exact hr
/-- The reference's table is stored. -/
theorem XP.put (h : XP w0 UB ver a len cap cs set B t V u rs w) (hr : RU 0 w u'.la u'.ln u'.lc rs') (hi : u'.ia = u.ia ∧ u'.il = u.il ∧ u'.ic = u.ic) (hc : u'.ver = ver ∧ u'.ca = a ∧ u'.cl = len ∧ u'.cc = cap) : XP w0 UB ver a len cap cs set B t V u' rs' (setU w UB u') := by
  have ho := setU_out w UB u'
  have hm : ∀ b, b = UB → MutU w b := fun b hb => by subst hb; exact mutU_box h.ub
  refine ⟨h.tab.out ho (fun b hb hb' => by subst hb'; exact h.not_foot hb) (fun b hb => ?_), h.vals, setU_cells u' h.ub (by simp [UD.cs]), hr.out ho hm, ?_, by rw [hi.2.1]; exact h.idl, hc, h.seteq, h.rel, setU_below h.bel h.leU, h.le, h.leU⟩
  · subst hb
    exact mut_of h.ub (by decide) (by decide) (by decide)
  · rw [hi.1, hi.2.1, hi.2.2]
    refine ownsRow_out h.ids ho (fun x hx hf => ?_)
    subst hf
    obtain ⟨cur, h1⟩ := row_type h.ids hx
    rw [h.ub] at h1
    cases h1
/-- One number of it is. -/
theorem XP.kept (h : XP w0 UB ver a len cap cs set B t V u rs w) (k : Int) : XP w0 UB ver a len cap cs set B t V { u with kept := k } rs (w.setCell ⟨UB, 4, none⟩ (.int .i64 k)) := by
  have ho : Out (fun x => x = UB) w (w.setCell ⟨UB, 4, none⟩ (.int .i64 k)) := Out.only (Only.at w UB 4 _) rfl
  have hm : ∀ b, b = UB → MutU w b := fun b hb => by subst hb; exact mutU_box h.ub
  refine ⟨h.tab.out ho (fun b hb hb' => by subst hb'; exact h.not_foot hb) (fun b hb => ?_), h.vals, hset w UB 4 (.int .i64 k) _ _ _ h.ub, h.ru.out ho hm, ?_, h.idl, h.con, h.seteq, h.rel, h.bel.setCell h.leU _, h.le, h.leU⟩
  · subst hb
    exact mut_of h.ub (by decide) (by decide) (by decide)
  · refine ownsRow_out h.ids ho (fun x hx hf => ?_)
    subst hf
    obtain ⟨cur, h1⟩ := row_type h.ids hx
    rw [h.ub] at h1
    cases h1
theorem XP.cells (h : XP w0 UB ver a len cap cs set B t V u rs w) : w.cell? ⟨UB, 0, none⟩ = some (.int .i64 u.ver) ∧ w.cell? ⟨UB, 1, none⟩ = some (.slice u.ca u.cl u.cc) ∧ w.cell? ⟨UB, 2, none⟩ = some (.slice u.ia u.il u.ic) ∧ w.cell? ⟨UB, 3, none⟩ = some (.int .i64 u.most) ∧ w.cell? ⟨UB, 4, none⟩ = some (.int .i64 u.kept) ∧ w.cell? ⟨UB, 5, none⟩ = some (.slice u.la u.ln u.lc) ∧ UB < w.heap.size :=
  ⟨cell_at h.ub 0, cell_at h.ub 1, cell_at h.ub 2, cell_at h.ub 3, cell_at h.ub 4, cell_at h.ub 5, lt_some h.ub⟩
theorem XP.uids (h : XP w0 UB ver a len cap cs set B t V u rs w) : t.cps.map (·.c.id) = idsTo set 24 := by rw [h.tab.ids, h.seteq]
theorem XP.find (h : XP w0 UB ver a len cap cs set B t V u rs w) : ∀ x ∈ t.cps, findC x.c.id cs = some x.c := relC_find h.rel h.tab.ids
theorem MatchR.bd (hm : MatchR t V u rs) (h : TabIn B w t) : 0 ≤ u.most ∧ u.most ≤ 256 ∧ 0 ≤ u.kept ∧ u.kept ≤ 256 ∧ u.ln ≤ 256 ∧ u.most - (u.ln : Int) - u.kept = (t.free : Int) := by
  have h1 := h.room
  have h2 := h.most2
  rw [hm.most, hm.kept, hm.ln]
  unfold TD.free
  omega
/-- A row more. -/
theorem MatchR.add {e : Int} (hm : MatchR t V u rs) (hV : V.length = t.ents.length) (h1 : t'.ents = t.ents ++ [e]) (h2 : t'.cps = t.cps) (h3 : t'.kept = t.kept) (h4 : t'.most = t.most) {R : List (List WI)} {r : URow} (he : r.e = e) (hr : cv r.ps = rowCv t R) (la : Option Addr) (lc : Nat) : MatchR t' (V ++ [R]) { u with la := la, ln := u.ln + 1, lc := lc } (rs ++ [r]) := by
  have hrow : ∀ q, rowCv t' q = rowCv t q := fun q => by unfold rowCv; rw [h2]
  refine ⟨by rw [List.length_append, hm.len, h1, List.length_append]; rfl, by rw [h1, List.length_append, ← hm.ln]; rfl, fun i x hx => ?_, fun i x v hx hv => ?_, by rw [h3]; exact hm.kept, by rw [h4]; exact hm.most⟩
  · rw [h1]
    rcases Nat.lt_or_ge i rs.length with hlt | hge
    · rw [List.getElem?_append_left hlt] at hx
      rw [List.getElem?_append_left (by rw [← hm.len]; exact hlt)]
      exact hm.ent i x hx
    · rw [List.getElem?_append_right hge] at hx
      have h0 : i - rs.length = 0 := by
        have := (List.getElem?_eq_some_iff.1 hx).1
        simp at this
        omega
      rw [h0] at hx
      simp at hx
      subst hx
      rw [List.getElem?_append_right (by rw [← hm.len]; exact hge), show i - t.ents.length = 0 by rw [← hm.len]; exact h0, he]
      rfl
  · rw [hrow]
    rcases Nat.lt_or_ge i rs.length with hlt | hge
    · rw [List.getElem?_append_left hlt] at hx
      rw [List.getElem?_append_left (by rw [hV, ← hm.len]; exact hlt)] at hv
      exact hm.val i x v hx hv
    · rw [List.getElem?_append_right hge] at hx
      rw [List.getElem?_append_right (by rw [hV, ← hm.len]; exact hge)] at hv
      have h0 : i - rs.length = 0 := by
        have := (List.getElem?_eq_some_iff.1 hx).1
        simp at this
        omega
      rw [h0] at hx
      rw [show i - V.length = 0 by rw [hV, ← hm.len]; exact h0] at hv
      simp at hx hv
      subst hx hv
      exact hr
/-- A row less. -/
theorem MatchR.drop (hm : MatchR t V u rs) {r m : Nat} {x : URow} {vl : List (List WI)} (hrm : r ≤ m) (hlm : t.ents.length = m + 1) (hx : rs[m]? = some x) (hv : V[m]? = some vl) (h1 : t'.ents = (t.ents.set r x.e).take m) (h2 : t'.cps = t.cps) (h3 : t'.kept = t.kept) (h4 : t'.most = t.most) (la : Option Addr) (lc : Nat) :
    MatchR t' ((V.set r vl).take m) { u with la := la, ln := m, lc := lc } ((rs.set r x).take m) := by
  have hrow : ∀ q, rowCv t' q = rowCv t q := fun q => by unfold rowCv; rw [h2]
  have hl := hm.len
  refine ⟨by rw [h1, List.length_take, List.length_take, List.length_set, List.length_set, hl], by rw [h1, List.length_take, List.length_set, hlm]; show m = _; omega, fun i y hy => ?_, fun i y v hy hv' => ?_, by rw [h3]; exact hm.kept, by rw [h4]; exact hm.most⟩
  · rw [h1]
    obtain ⟨him, ⟨rfl, rfl⟩ | ⟨hne, hy2⟩⟩ := set_take_at hy
    · rw [List.getElem?_take, if_pos him, List.getElem?_set, if_pos rfl, if_pos (by omega)]
    · rw [List.getElem?_take, if_pos him, List.getElem?_set, if_neg (fun e => hne e.symm)]
      exact hm.ent i y hy2
  · rw [hrow]
    obtain ⟨him, ⟨rfl, rfl⟩ | ⟨hne, hy2⟩⟩ := set_take_at hy
    · obtain ⟨_, ⟨_, rfl⟩ | ⟨hne, _⟩⟩ := set_take_at hv'
      · exact hm.val m y v hx hv
      · exact absurd rfl hne
    · obtain ⟨_, ⟨he, _⟩ | ⟨_, hv2⟩⟩ := set_take_at hv'
      · exact absurd he hne
      · exact hm.val i y v hy2 hv2
theorem zip_set {α β : Type} : ∀ (l : List α) (m : List β) (k : Nat) (x : α) (y : β), l[k]? = some x → (l.zip m).set k (x, y) = l.zip (m.set k y)
  | [], _, _, _, _, h => by simp at h
  | _ :: _, [], _, _, _, _ => by simp
  | a :: l, b :: m, 0, x, y, h => by simp at h; subst h; simp
  | a :: l, b :: m, k + 1, x, y, h => by
    have := zip_set l m k x y (by simpa using h)
    simp [this]
/-- Another value. -/
theorem MatchR.put (hm : MatchR t V u rs) {row k : Nat} {r : URow} {R : List (List WI)} {id : Int} {va : Option Addr} {vl vc : Nat} {val : List WI} (hr : rs[row]? = some r) (hR : V[row]? = some R) (hid : (t.cps.map (·.c.id))[k]? = some id) (h1 : t'.ents = t.ents) (h2 : t'.cps = t.cps) (h3 : t'.kept = t.kept) (h4 : t'.most = t.most) (la : Option Addr) (lc : Nat) (pa : Option Addr) (pc : Nat) :
    MatchR t' (V.set row (R.set k val)) { u with la := la, lc := lc } (rs.set row ⟨r.e, pa, r.pn, pc, r.ps.set k ⟨id, va, vl, vc, val⟩⟩) := by
  have hrow : ∀ q, rowCv t' q = rowCv t q := fun q => by unfold rowCv; rw [h2]
  refine ⟨by rw [List.length_set, h1]; exact hm.len, by rw [h1]; exact hm.ln, fun i y hy => ?_, fun i y v hy hv => ?_, by rw [h3]; exact hm.kept, by rw [h4]; exact hm.most⟩
  · rw [h1]
    rcases set_at hy with ⟨rfl, rfl⟩ | ⟨hne, hy2⟩
    · exact hm.ent i r hr
    · exact hm.ent i y hy2
  · rw [hrow]
    rcases set_at hy with ⟨rfl, rfl⟩ | ⟨hne, hy2⟩
    · rcases set_at hv with ⟨_, rfl⟩ | ⟨hne, _⟩
      · have := hm.val i r R hr hR
        unfold cv at *
        dsimp only
        rw [List.map_set, this]
        unfold rowCv
        exact zip_set _ _ _ _ _ hid
      · exact absurd rfl hne
    · rcases set_at hv with ⟨he, _⟩ | ⟨_, hv2⟩
      · exact absurd he hne
      · exact hm.val i y v hy2 hv2
end
end Go.Proofs.YtoadihebdaooaaaGreat
namespace Go.Proofs.YtoadihebdaooaaaGreat
open Go.RowKit
set_option linter.unusedVariables false
def mskS : List Bool := [false, false, false, false, false, false, false, false, true, true, false, false, false, false, false, false, false, false, false, false, false, false, false, false, true, true, true, true, true, true, true, true, true, true, true, true, true, false, false, false, false, false, false, false, false, false, false, false, false, false, false, false, false, false, false, false, false, false, false, false, false, false, false, false, false, false, false, false, false, false, false, false, false, false, false, false, false, false, false, false, false, false, false, false, false, false, false, false, false, false, false, false, false, false, false, false, false, false, false, false, false, false, false, false, false, false, false, false, false, false, false, false, false, false, false, false, false, false, false, false, false, false, false, false, false, false, false, false, false, false, false, false, false, false, false, false, false, false, false, false, false, false, false, false, false, false, false, false, false, false, false, false, false, false, false, false, false, false, false, false, false, false, false, false, false, false, false, false, false, false, false, false, false, false, false, false, false, false, false, false, false, false, false, false, false, false, false, false, false, false, false, false, false, true, true, true, true, true, true, true, true, true, true, true, true, true, true, true, true, true, true, true, true, true, true, true, true, true, true, true, true, true, true, true, true, true, true, true, true, true, true, true, true, true, true, true, true, true, true, true, true, true, true, true, true, true, true, true, true, true, true, true, true, true, true, true, true, true, true, true, true, true, true, true, true, true, true, true, true, true, true, true, true, true, true, true, true, true, true, true, true, true, true, true, true, true, true, true, true, true, true, true, true, true, true, true, true, true, true, true, true, true, true, true, true, true, true, true, true, true, true, true, true, true, true, true, true, true, true, true, true, true, true, true, true, true, true, true, true, true, true, true, true, true, true, true, true, true, true, true, true, true, true, false, false, false, false, false, false, false, false, false, false, false, false, false, false, false, false, false, false, false, false, false, false, false, false, false, false, false, false, false, false, false, false, false, false, false, false, false, false, false, false, false, false, false, false, false, false, false, false, false, false, false, false, false, false, false, false, false, false, false, false, false, false, false, false, false, false, false, false, false, false, false, false, false, false]
/-- The switch. -/
def pSw : List Dir := [.r, .r, .r, .r, .r, .r, .l, .r, .i, .i, .r, .l, .i, .r, .r, .r, .l, .r]
/-- Where a round stands ahead of its switch. -/
structure AtSw (X : Nat) (x : TA) (t : TD) (UB : Nat) (f : Nat → Value) (w : World) : Prop where
  f9 : f 9 = .pointer (some ⟨t.tb, 0, none⟩)
  f20 : f 20 = .pointer (some ⟨UB, 0, none⟩)
  f22 : f 22 = .pointer (some ⟨X, 0, none⟩)
  f192 : f 192 = .int .i64 x.kind
  x : w.heap[X]? = some (.cells #[.int .i64 x.kind, .int .i64 x.i, .int .u64 x.e, .slice x.pa x.pl x.pc] 72 (0, 0))
theorem copy_rows {B : Nat} {w w' : World} {t u : TD} {V : List (List (List WI))} (h : TabIn B w t) (hV : Vals t V) (hc : IsCopy B w t w' u) : Vals u V ∧ u.cps.map (·.c) = t.cps.map (·.c) := by
  obtain ⟨h1, h2, h3, h4, h5, h6, h7, h8, h9, h10⟩ := hc
  have hb : u.cps.map (·.c) = t.cps.map (·.c) := by
    have := congrArg (List.map (·.c)) h9
    rw [List.map_map, List.map_map] at this
    exact this
  have hl : u.cps.length = t.cps.length := by simpa using congrArg List.length hb
  refine ⟨⟨by rw [h8]; exact hV.len, fun r hr => by rw [hl]; exact hV.row r hr, fun k i r v x d hk hv hx hd => ?_⟩, hb⟩
  obtain ⟨d0, hd0, hr⟩ := h10 i d hd
  have hi := (List.getElem?_eq_some_iff.1 hx).1
  obtain ⟨x0, hx0⟩ : ∃ x0, t.cps[i]? = some x0 := ⟨_, List.getElem?_eq_getElem (by omega)⟩
  have hxc : x.c = x0.c := by
    have := congrArg (·[i]?) hb
    simp only [List.getElem?_map, hx, hx0, Option.map_some] at this
    exact Option.some.inj this
  rw [hr, hxc]
  exact hV.at_ k i r v x0 d0 hk hv hx0 hd0
section
variable {w0 : World} {UB : Nat} {ver : Int} {a : Option Addr} {len cap : Nat} {cs : List Cmp} {set : Int} {B : Nat} {t : TD} {V : List (List (List WI))} {u : UD} {rs : List URow} {w : World} {X : Nat} {x : TA} {f : Nat → Value} {d : List Deferred} {K : Act → World → Prop} {Q : Exit → Act → World → Prop}
/-- What comes behind the switch. -/
def KSw (w0 : World) (UB : Nat) (ver : Int) (a : Option Addr) (len cap : Nat) (cs : List Cmp) (set : Int) (B X : Nat) (x : TA) (f : Nat → Value) (d : List Deferred) (K : Act → World → Prop) : Prop :=
  ∀ (v : List Value) (w' : World) (t' : TD) (V' : List (List (List WI))) (u' : UD) (rs' : List URow), XP w0 UB ver a len cap cs set B t' V' u' rs' w' → MatchR t' V' u' rs' → nthV v 9 = .pointer (some ⟨t'.tb, 0, none⟩) →
    w'.heap[X]? = some (.cells #[.int .i64 x.kind, .int .i64 x.i, .int .u64 x.e, .slice x.pa x.pl x.pc] 72 (0, 0)) → mixF mskS (nthV v) 0 (frX f) = v → K ⟨v.toArray, d⟩ w'
set_option maxRecDepth 100000 in
theorem sw_none (h : XP w0 UB ver a len cap cs set B t V u rs w) (hm : MatchR t V u rs) (hs : AtSw X x t UB f w) (hk : x.kind < 1 ∨ 9 < x.kind) (hK : KSw w0 UB ver a len cap cs set B X x f d K) : (piece Tryz.f6 pSw).wp Tryz.prog (Exit.then K Q) ⟨(frX f).toArray, d⟩ w := by
  obtain ⟨f9, f20, f22, f192, hx⟩ := hs
  have e1 : (x.kind == 1) = false := by rw [beq_eq_false_iff_ne]; omega
  have e2 : (x.kind == 2) = false := by rw [beq_eq_false_iff_ne]; omega
  have e3 : (x.kind == 3) = false := by rw [beq_eq_false_iff_ne]; omega
  have e4 : (x.kind == 4) = false := by rw [beq_eq_false_iff_ne]; omega
  have e5 : (x.kind == 5) = false := by rw [beq_eq_false_iff_ne]; omega
  have e6 : (x.kind == 6) = false := by rw [beq_eq_false_iff_ne]; omega
  have e7 : (x.kind == 7) = false := by rw [beq_eq_false_iff_ne]; omega
  have e8 : (x.kind == 8) = false := by rw [beq_eq_false_iff_ne]; omega
  have e9 : (x.kind == 9) = false := by rw [beq_eq_false_iff_ne]; omega
  have HH := Lib.hid (And.intro h (And.intro hm (And.intro hx hK)))
  have HF := Lib.hid (And.intro f9 (And.intro f20 (And.intro f22 f192)))
  clear h hm hx hK hk
  unfold frX
  rw [f9, f20, f22, f192]
  clear f9 f20 f22 f192
  conv => arg 2; whnf
  go_wp2_with fail
  obtain ⟨h, hm, hx, hK⟩ := HH.out
  refine hK _ _ t V u rs h hm rfl hx ?_
  unfold frX
  rw [HF.out.2.1, HF.out.2.2.1, HF.out.2.2.2]
  rfl
end
end Go.Proofs.YtoadihebdaooaaaGreat
namespace Go.Proofs.YtoadihebdaooaaaGreat
open Go.RowKit
set_option linter.unusedVariables false
/-- A deed's parts. -/
structure PartsX (w0 : World) (x : TA) : Prop where
  at_ : PartsAt w0.heap.size w0 x.pa x.pl x.pc x.ps
  n12 : x.pl ≤ 12
  vl : ∀ p ∈ x.ps, p.vl ≤ 100
  nil : NilInts x.ps
section
variable {w0 : World} {UB : Nat} {ver : Int} {a : Option Addr} {len cap : Nat} {cs : List Cmp} {set : Int} {B : Nat} {t : TD} {V : List (List (List WI))} {u : UD} {rs : List URow} {w : World} {X : Nat} {x : TA} {f : Nat → Value} {d : List Deferred} {K : Act → World → Prop} {Q : Exit → Act → World → Prop}
theorem XP.parts (h : XP w0 UB ver a len cap cs set B t V u rs w) (hp : PartsX w0 x) : PartsAt w.heap.size w x.pa x.pl x.pc x.ps := (hp.at_.below h.bel).mono h.bel.size
set_option maxRecDepth 100000 in
theorem sw_clone (h : XP w0 UB ver a len cap cs set B t V u rs w) (hm : MatchR t V u rs) (hs : AtSw X x t UB f w) (hk : x.kind = 8) (hK : KSw w0 UB ver a len cap cs set B X x f d K) : (piece Tryz.f6 pSw).wp Tryz.prog (Exit.then K Q) ⟨(frX f).toArray, d⟩ w := by
  obtain ⟨f9, f20, f22, f192, hx⟩ := hs
  rw [hk] at f192
  have HC := Lib.hid (tabClone_rows B w t h.tab)
  have HH := Lib.hid (And.intro h (And.intro hm (And.intro hx hK)))
  have HF := Lib.hid (And.intro f9 (And.intro f20 (And.intro f22 f192)))
  clear h hm hx hK hk
  unfold frX
  rw [f9, f20, f22, f192]
  clear f9 f20 f22 f192
  conv => arg 2; whnf
  go_wp2_with fail
  refine HC.out.mono ?_
  rintro e w1 ⟨t', rfl, hc⟩
  obtain ⟨h, hm, hx, hK⟩ := HH.out
  obtain ⟨hV, hcm⟩ := copy_rows h.tab h.vals hc
  obtain ⟨h1, h2, h3, h4, h5, h6, h7, h8, h9, h10⟩ := hc
  have hx1 := keep h2 hx
  have hxp := h.copy h2 h1 hV h5 hcm
  have hmr : MatchR t' V u rs := ⟨by rw [h8]; exact hm.len, by rw [h8]; exact hm.ln, fun i r hr => by rw [h8]; exact hm.ent i r hr, fun i r v hr hv => by
    have hrow : rowCv t' v = rowCv t v := by
      unfold rowCv
      have := congrArg (List.map (·.id)) hcm
      rw [List.map_map, List.map_map] at this
      have e : t'.cps.map (·.c.id) = t.cps.map (·.c.id) := this
      rw [e]
    rw [hrow]; exact hm.val i r v hr hv, by rw [h7]; exact hm.kept, by rw [h6]; exact hm.most⟩
  have HE := Lib.hid (And.intro hxp (And.intro hmr (And.intro hx1 hK)))
  clear h hm hx hK hV hcm h1 h2 h3 h4 h5 h6 h7 h8 h9 h10 hx1 hxp hmr HC HH
  go_wp2_with fail
  obtain ⟨hxp, hmr, hx1, hK⟩ := HE.out
  refine hK _ _ t' V u rs hxp hmr rfl hx1 ?_
  unfold frX
  rw [HF.out.2.1, HF.out.2.2.1, HF.out.2.2.2]
  rfl
end
end Go.Proofs.YtoadihebdaooaaaGreat
namespace Go.Proofs.YtoadihebdaooaaaGreat
open Go.RowKit
set_option linter.unusedVariables false
/-- A table all of whose blocks are new. -/
structure CP (B N : Nat) (w : World) (c : TD) (W : World) : Prop where
  tab : TabIn B W c
  foot : ∀ b, c.foot b → N ≤ b
  bel : Below N w W
  le : N ≤ W.heap.size
section
variable {B N : Nat} {w W : World} {c : TD}
theorem cp_keep (h : CP B N w c W) : Calls Tryz.prog 35 #[.pointer (some ⟨c.tb, 0, none⟩)] W fun e w' => ∃ k c', e = .returned (.int .i64 k) ∧ c'.tb = c.tb ∧ CP B N w c' w' := by
  refine (tabKeep_in h.tab).mono ?_
  rintro e w1 ⟨rfl, ht, ho⟩
  have hb := h.bel.trans (ho.below h.foot h.le)
  refine ⟨_, _, rfl, ?_, ht, fun b hb' => ?_, hb, Nat.le_trans h.le ho.size⟩
  · split <;> rfl
  · by_cases hf : c.free = 0
    · rw [if_pos hf] at hb'
      exact h.foot b hb'
    · rw [if_neg hf] at hb'
      exact h.foot b hb'
theorem cp_drop (h : CP B N w c W) : Calls Tryz.prog 34 #[.pointer (some ⟨c.tb, 0, none⟩), .int .i64 0] W fun e w' => ∃ x y c', e = .returned (.tuple #[.int .u64 x, .int .i64 y]) ∧ c'.tb = c.tb ∧ CP B N w c' w' := by
  by_cases h0 : c.ents.length = 0
  · refine (tabDrop_no h.tab 0 (by omega)).mono ?_
    rintro e w1 ⟨rfl, rfl⟩
    exact ⟨_, _, c, rfl, rfl, h⟩
  · obtain ⟨m, hm⟩ : ∃ m, c.ents.length = m + 1 := ⟨c.ents.length - 1, by omega⟩
    obtain ⟨y, hy⟩ : ∃ y, c.ents[m]? = some y := ⟨_, List.getElem?_eq_getElem (by omega)⟩
    refine (tabDrop_ok h.tab 0 m (Nat.zero_le _) hm y hy).mono ?_
    rintro e w1 ⟨rfl, D, ht, _, ho, hf⟩
    refine ⟨_, _, _, rfl, ?_, ⟨ht, fun b hb => ?_, h.bel.trans (ho.below h.foot h.le), Nat.le_trans h.le ho.size⟩⟩
    · rfl
    · rcases hf b hb with h1 | h1
      · exact h.foot b h1
      · exact Nat.le_trans h.le h1
theorem cp_add (h : CP B N w c W) (e : Int) (ps : List PW) (pa : Option Addr) (pl pc : Nat) (hps : ∀ w', Below N w w' → N ≤ w'.heap.size → PartsAt w'.heap.size w' pa pl pc ps) (hl : pl ≤ 100000) : Calls Tryz.prog 24 #[.pointer (some ⟨c.tb, 0, none⟩), .int .u64 e, .slice pa pl pc] W fun en w' => ∃ x y c', en = .returned (.tuple #[.int .i64 x, .int .i64 y]) ∧ c'.tb = c.tb ∧ CP B N w c' w' := by
  by_cases herr : addErr c e ps = 0
  · refine (tabAdd_ok h.tab e ps pa pl pc (fun w' ho => hps w' (h.bel.trans (ho.below (fun b hb => h.foot b (TabIn.cfoot_foot hb)) h.le)) (Nat.le_trans h.le ho.size)) hl herr).mono ?_
    rintro en w1 ⟨rfl, ea, ec, D, ht, _, ho, hf⟩
    refine ⟨_, _, _, rfl, ?_, ⟨ht, fun b hb => ?_, h.bel.trans (ho.below h.foot h.le), Nat.le_trans h.le ho.size⟩⟩
    · rfl
    · rcases hf b hb with h1 | h1
      · exact h.foot b h1
      · exact Nat.le_trans h.le h1
  · refine (tabAdd_no h.tab e ps pa pl pc (hps W h.bel h.le) hl herr).mono ?_
    rintro en w1 ⟨rfl, hb⟩
    exact ⟨_, _, c, rfl, rfl, h.tab.below hb, h.foot, h.bel.trans (hb.mono h.le), Nat.le_trans h.le hb.size⟩
end
section
variable {w0 : World} {UB : Nat} {ver : Int} {a : Option Addr} {len cap : Nat} {cs : List Cmp} {set : Int} {B : Nat} {t : TD} {V : List (List (List WI))} {u : UD} {rs : List URow} {w : World} {X : Nat} {x : TA} {f : Nat → Value} {d : List Deferred} {K : Act → World → Prop} {Q : Exit → Act → World → Prop}
set_option maxRecDepth 100000 in
theorem sw_other (h : XP w0 UB ver a len cap cs set B t V u rs w) (hm : MatchR t V u rs) (hs : AtSw X x t UB f w) (hp : PartsX w0 x) (hk : x.kind = 9) (hK : KSw w0 UB ver a len cap cs set B X x f d K) : (piece Tryz.f6 pSw).wp Tryz.prog (Exit.then K Q) ⟨(frX f).toArray, d⟩ w := by
  obtain ⟨f9, f20, f22, f192, hx⟩ := hs
  rw [hk] at f192
  have HC := Lib.hid (tabClone_rows B w t h.tab)
  have HH := Lib.hid (And.intro h (And.intro hm (And.intro hx hK)))
  have HF := Lib.hid (And.intro f9 (And.intro f20 (And.intro f22 f192)))
  have HP := Lib.hid hp
  clear h hm hx hK hk hp
  unfold frX
  rw [f9, f20, f22, f192]
  clear f9 f20 f22 f192
  conv => arg 2; whnf
  go_wp2_with fail
  refine HC.out.mono ?_
  rintro e w1 ⟨t', rfl, h1, h2, h3, _⟩
  have HCP : Hid (CP B w.heap.size w t' w1) := Lib.hid ⟨h1, h3, h2, h2.size⟩
  obtain ⟨TB, hTB⟩ : ∃ b, t'.tb = b := ⟨_, rfl⟩
  rw [hTB]
  have HTB := Lib.hid hTB
  clear h1 h2 h3 hTB HC
  go_wp2_with fail
  have hkp := cp_keep HCP.out
  rw [HTB.out] at hkp
  refine hkp.mono ?_
  rintro e w2 ⟨k, c2, rfl, htb2, hc2⟩
  have HCP2 := Lib.hid (And.intro hc2 htb2)
  clear hkp htb2 hc2 HCP HTB
  go_wp2_with fail
  have hkp := cp_drop HCP2.out.1
  rw [HCP2.out.2] at hkp
  refine hkp.mono ?_
  rintro e w3 ⟨r1, r2, c3, rfl, htb3, hc3⟩
  have HCP3 := Lib.hid (And.intro hc3 htb3)
  have hx3 := keep hc3.bel HH.out.2.2.1
  have x2 := cell_at hx3 2
  have x3 := cell_at hx3 3
  simp at x2 x3
  have hxl := lt_some hx3
  clear hkp htb3 hc3 HCP2
  go_wp2_with fail
  have hkp := cp_add HCP3.out.1 x.e x.ps x.pa x.pl x.pc (fun w' hb hN => ((HH.out.1.parts HP.out).below hb).mono hN) (by have := HP.out.n12; omega)
  rw [HCP3.out.2] at hkp
  refine hkp.mono ?_
  rintro e w4 ⟨r3, r4, c4, rfl, _, hc4⟩
  obtain ⟨h, hm, hx, hK⟩ := HH.out
  have HE := Lib.hid (And.intro (h.below hc4.bel) (And.intro (keep hc4.bel hx) hK))
  have HM := Lib.hid hm
  clear hkp h hm hx hK hc4 HCP3 x2 x3 hxl hx3 HH HP
  go_wp2_with fail
  obtain ⟨hxp, hx1, hK⟩ := HE.out
  refine hK _ _ t V u rs hxp HM.out rfl hx1 ?_
  unfold frX
  rw [HF.out.2.1, HF.out.2.2.1, HF.out.2.2.2]
  rfl
end
end Go.Proofs.YtoadihebdaooaaaGreat
