/- Maps told as functions to values of any element type; values16. · The law's test of two rows of numbers. · Plain: what the deeds of a table do to its values. · A table's deeds, with its values. · A world in memory: its index, its graph with the tables' rows, its map of places; frames. · A world's memory: the map of places; deeds of the graph. -/
import Derived.Test.YtnhlnnehpmjeiaaGreatDoorP26
import Derived.Laws.StructEq
import Derived.Test.YtnhlnnehpmjeiaaGreatDoorP19
import Derived.Test.YtnhlnnehpmjeiaaGreatDoorP14
namespace Go.Proofs.YtnhlnnehpmjeiaaGreatDoor
open Go.RowKit
open Go.Maps (Keyed IsMap Tidy int_keyed keyOf_int_mk)
set_option linter.unusedVariables false
section
variable {P : Program} {w : World} {k e : TypeId} {b cnt : Nat} {f : Lit → Option Value}
/-- An element reads as itself. -/
def heldR (v : Value) : Option (DataW Value × List MemPlace) := some (.held v, [])
/-- Block b is a map of cnt entries, that holds at each key what f says. -/
def MapV (P : Program) (w : World) (k : TypeId) (b cnt : Nat) (f : Lit → Option Value) : Prop :=
  ∃ D : DataW Value, w.ownsMap P k heldR b cnt D ∧ Maps.size D = cnt ∧ ∀ kl, Maps.has D kl = (f kl).isSome ∧ ∀ v, f kl = some v → ∀ z, D.atKey kl z = .held v
def putV (f : Lit → Option Value) (kl : Lit) (v : Value) : Lit → Option Value := fun x => if litEq x kl = true then some v else f x
def delV (f : Lit → Option Value) (kl : Lit) : Lit → Option Value := fun x => if litEq x kl = true then none else f x
theorem putV_same (f : Lit → Option Value) (kl : Lit) (v : Value) : putV f kl v kl = some v := if_pos (litEq_iff.2 rfl)
theorem putV_ne {f : Lit → Option Value} {kl x : Lit} {v : Value} (h : x ≠ kl) : putV f kl v x = f x := if_neg (fun e => h (litEq_iff.1 e))
theorem delV_same (f : Lit → Option Value) (kl : Lit) : delV f kl kl = none := if_pos (litEq_iff.2 rfl)
theorem delV_ne {f : Lit → Option Value} {kl x : Lit} (h : x ≠ kl) : delV f kl x = f x := if_neg (fun e => h (litEq_iff.1 e))
theorem MapV.made (w : World) (P : Program) (k : TypeId) : MapV P (w.alloc (.map #[] 0)) k w.heap.size 0 (fun _ => none) :=
  ⟨.map [], World.ownsMap_made _ _ _ _, rfl, fun kl => ⟨rfl, fun v h => by cases h⟩⟩
theorem MapV.kept {w' : World} {row : Option Nat} (h : MapV P w k b cnt f) (hg : w.grownBy w' row) (hne : some b ≠ row) : MapV P w' k b cnt f := by
  obtain ⟨D, h1, h2, h3⟩ := h
  exact ⟨D, h1.kept hg hne, h2, h3⟩
theorem MapV.alloc (h : MapV P w k b cnt f) (o : Obj) : MapV P (w.alloc o) k b cnt f := by
  obtain ⟨D, h1, h2, h3⟩ := h
  exact ⟨D, h1.alloc o, h2, h3⟩
theorem MapV.lt (h : MapV P w k b cnt f) : b < w.heap.size := by obtain ⟨D, h1, _⟩ := h; exact h1.lt
theorem MapV.out {F : Nat → Prop} {w' : World} (h : MapV P w k b cnt f) (ho : Out F w w') (hb : ¬ F b) : MapV P w' k b cnt f := by
  obtain ⟨D, ⟨es, c, hh, r⟩, h2⟩ := h
  exact ⟨D, ⟨es, c, ho.keep hh hb, r⟩, h2⟩
theorem MapV.below (h : MapV P w k b cnt f) {w' : World} (hb : Below w.heap.size w w') : MapV P w' k b cnt f := h.out (F := fun _ => False) (Out.of hb) id
theorem MapV.obj (h : MapV P w k b cnt f) : ∃ es c, w.heap[b]? = some (.map es c) := by
  obtain ⟨D, ⟨es, c, hb, _⟩, _⟩ := h
  exact ⟨es, c, hb⟩
/-- m[k]. -/
theorem MapV.look {t : TypeId} (h : MapV P w k b cnt f) (K : Keyed P k) (ht : P.underlying t = some (.map k e)) {z : Value} (hz : ∀ w, (zeroValue e).run P w = .ok z w)
    {key : Value} {kl : Lit} (hkey : keyOf P k key = some kl) : (Instr.lookup t (.map (some b)) key false).run P w = .ok ((f kl).getD z) w := by
  obtain ⟨D, h1, h2, h3⟩ := h
  obtain ⟨v, ps, hrun, hv⟩ := h1.lookup K ht (hz w) (show heldR z = some (.held z, []) from rfl) hkey
  rw [hrun]
  obtain ⟨hh, hat⟩ := h3 kl
  unfold heldR at hv
  simp only [Option.some.injEq, Prod.mk.injEq] at hv
  cases hf : f kl with
  | none =>
    rw [hf] at hh
    rw [Maps.atKey_of_not_has hh] at hv
    obtain ⟨hv, _⟩ := hv
    cases hv
    rfl
  | some u =>
    rw [hat u hf] at hv
    obtain ⟨hv, _⟩ := hv
    cases hv
    rfl
/-- len(m). -/
theorem MapV.len {t : TypeId} (h : MapV P w k b cnt f) (ht : P.underlying t = some (.map k e)) (ty : TypeId) : (Builtin.len_ #[t] ty #[.map (some b)]).run P w = .ok (.int .i64 cnt) w := by
  obtain ⟨D, h1, h2, h3⟩ := h
  rw [h1.len ht, h2]
/-- m[k] = v. -/
theorem MapV.store {t : TypeId} (h : MapV P w k b cnt f) (K : Keyed P k) (ht : P.underlying t = some (.map k e)) (hn : cnt < maxLen) {key val : Value} {kl : Lit} (hkey : keyOf P k key = some kl) :
    ∃ w', (Instr.mapUpdate t (.map (some b)) key val).run P w = .ok () w' ∧ MapV P w' k b (if (f kl).isSome then cnt else cnt + 1) (putV f kl val) ∧ w.grownBy w' (some b) ∧ w'.heap.size = w.heap.size := by
  obtain ⟨D, h1, h2, h3⟩ := h
  obtain ⟨w', hrun, h1', ht'⟩ := h1.store K ht hn hkey (show heldR val = some (.held val, []) from rfl)
  have hs : Maps.size (D.put kl (.held val)) = if (f kl).isSome then cnt else cnt + 1 := by
    rw [Maps.size_put (h1.tidy K), (h3 kl).1, h2]
  have hsz : w'.heap.size = w.heap.size := by
    obtain ⟨es, clock, es', clock', hb, rfl⟩ := ht'
    simp [ChangeMaps.setBlock]
  refine ⟨w', hrun, ⟨D.put kl (.held val), ?_, hs, fun x => ?_⟩, ht'.grown, hsz⟩
  · obtain ⟨es, clock, hb, F, hle, hD⟩ := h1'
    refine ⟨es, clock, hb, F, ?_, hD⟩
    rw [← hs, hD]
    simp [Maps.size, length_sorted]
  · by_cases hx : x = kl
    · subst hx
      rw [putV_same]
      refine ⟨by rw [Maps.has_put_same h1.isMap (K.key hkey)]; rfl, fun u hu z => ?_⟩
      rw [Maps.atKey_put_same h1.isMap (K.key hkey)]
      cases hu
      rfl
    · rw [putV_ne hx]
      refine ⟨by rw [Maps.has_put_other hx, (h3 x).1], fun u hu z => ?_⟩
      rw [Maps.atKey_put_other hx]
      exact (h3 x).2 u hu z
/-- delete(m, k). -/
theorem MapV.drop {t : TypeId} (h : MapV P w k b cnt f) (K : Keyed P k) (ht : P.underlying t = some (.map k e)) {key : Value} {kl : Lit} (hkey : keyOf P k key = some kl) (ty : TypeId) :
    ∃ w', (Builtin.delete_ #[t, k] ty #[.map (some b), key]).run P w = .ok (.tuple #[]) w' ∧ MapV P w' k b (if (f kl).isSome then cnt - 1 else cnt) (delV f kl) ∧ w.grownBy w' (some b) ∧ w'.heap.size = w.heap.size := by
  obtain ⟨D, h1, h2, h3⟩ := h
  obtain ⟨w', hrun, h1', ht'⟩ := h1.drop K ht hkey ty
  have hs : Maps.size (D.del kl) = if (f kl).isSome then cnt - 1 else cnt := by
    have := Maps.size_del (k := kl) (h1.tidy K)
    rw [(h3 kl).1, h2] at this
    split at this <;> rename_i hc
    · rw [if_pos hc]; omega
    · rw [if_neg hc]; omega
  have hsz : w'.heap.size = w.heap.size := by
    obtain ⟨es, clock, es', clock', hb, rfl⟩ := ht'
    simp [ChangeMaps.setBlock]
  refine ⟨w', hrun, ⟨D.del kl, ?_, hs, fun x => ?_⟩, ht'.grown, hsz⟩
  · obtain ⟨es, clock, hb, F, hle, hD⟩ := h1'
    refine ⟨es, clock, hb, F, ?_, hD⟩
    rw [← hs, hD]
    simp [Maps.size, length_sorted]
  · by_cases hx : x = kl
    · subst hx
      rw [delV_same]
      exact ⟨Maps.has_del_same, fun u hu z => by cases hu⟩
    · rw [delV_ne hx]
      refine ⟨by rw [Maps.has_del_other hx, (h3 x).1], fun u hu z => ?_⟩
      rw [Maps.atKey_del_other hx]
      exact (h3 x).2 u hu z
end
end Go.Proofs.YtnhlnnehpmjeiaaGreatDoor
namespace Go.Proofs.YtnhlnnehpmjeiaaGreatDoor
open Go.RowKit
set_option linter.unusedVariables false
theorem int_ne (a b : Bool) (c d e f : Int) (w : World) : Sem.run Tryz.prog (binOp BinOp.neq 96 (.agg #[.bool a, .int .u64 c, .int .u64 e]) (.agg #[.bool b, .int .u64 d, .int .u64 f])) w = .ok (.bool (!(a == b && (c == d && e == f)))) w := by
  cases h1 : a == b <;> cases h2 : c == d <;> cases h3 : e == f <;> go_simp
theorem wi_ext {x y : WI} (h : (x.neg == y.neg && (x.hi == y.hi && x.lo == y.lo)) = true) : x = y := by
  obtain ⟨a, b, c⟩ := x
  obtain ⟨a', b', c'⟩ := y
  simp at h
  obtain ⟨rfl, rfl, rfl⟩ := h
  rfl
theorem take_eq_succ {α : Type} {xs ys : List α} {k : Nat} {x y : α} (hx : xs[k]? = some x) (hy : ys[k]? = some y) (h : xs.take k = ys.take k) (he : x = y) : xs.take (k + 1) = ys.take (k + 1) := by rw [take_snoc hx, take_snoc hy, h, he]
end Go.Proofs.YtnhlnnehpmjeiaaGreatDoor
namespace Go.Proofs.YtnhlnnehpmjeiaaGreatDoor
open Go.RowKit
set_option linter.unusedVariables false
theorem Vals.new {t : TD} (h : t.ents = []) : Vals t [] := ⟨by simp [h], by simp, by simp⟩
def addRow (ps : List PW) (t : TD) : List (List WI) := t.cps.map fun x => match partOf ps x.c.id with | some p => p.val | none => []
theorem Vals.add {B : Nat} {w : World} {t : TD} {V : List (List (List WI))} {e : Int} {ps : List PW} {ea : Option Addr} {ec : Nat} {D : List CD} (hT : TabIn B w t) (h : Vals t V) (hfit : ∀ x ∈ t.cps, ∃ p, partOf ps x.c.id = some p ∧ fitF x.c.fields p.val = 0 ∧ ∀ y ∈ p.val, y.wf)
    (hD : ∀ (i : Nat) (d d' : CD), t.cols[i]? = some d → D[i]? = some d' → PutG ps t.cps i d d') : Vals { t with ents := t.ents ++ [e], ea := ea, ec := ec, cols := D } (V ++ [addRow ps t]) := by
  refine ⟨by simp [h.len], fun r hr => ?_, ?_⟩
  · rcases List.mem_append.1 hr with hr | hr
    · exact h.row r hr
    · obtain rfl := List.mem_singleton.1 hr
      simp [addRow]
  · intro k i r v x d' hk hv hx hd'
    have hil := (List.getElem?_eq_some_iff.1 hx).1
    obtain ⟨d, hd⟩ : ∃ d, t.cols[i]? = some d := ⟨_, List.getElem?_eq_getElem (by rw [hT.len]; exact hil)⟩
    obtain ⟨_, _, _, hrl⟩ := hT.col i x d hx hd
    obtain ⟨hrows, _⟩ := hD i d d' hd hd' x hx
    have hVl := h.len
    rcases Nat.lt_or_ge k V.length with hlt | hge
    · rw [List.getElem?_append_left hlt] at hk
      obtain ⟨h1, h2⟩ := h.at_ k i r v x d hk hv hx hd
      exact ⟨by rw [hrows, List.getElem?_append_left (by omega)]; exact h1, h2⟩
    · rw [List.getElem?_append_right hge] at hk
      have hk0 : k - V.length = 0 := by
        have := (List.getElem?_eq_some_iff.1 hk).1
        simp at this
        omega
      rw [hk0] at hk
      simp at hk
      subst hk
      obtain ⟨p, hp, hf, hw⟩ := hfit x (List.mem_of_getElem? hx)
      have hvv : v = p.val := by
        unfold addRow at hv
        rw [List.getElem?_map, hx] at hv
        simp [hp] at hv
        exact hv.symm
      subst hvv
      refine ⟨?_, hf, hw⟩
      rw [hrows, List.getElem?_append_right (by omega), show k - d.rows.length = 0 by omega]
      simp [rowOf, hp]
theorem set_take_at {α : Type} {l : List α} {r m k : Nat} {a x : α} (h : ((l.set r a).take m)[k]? = some x) : k < m ∧ ((k = r ∧ x = a) ∨ (k ≠ r ∧ l[k]? = some x)) := by
  rw [List.getElem?_take] at h
  split at h
  · rename_i hk
    refine ⟨hk, ?_⟩
    rw [List.getElem?_set] at h
    split at h
    · rename_i hr
      split at h
      · exact .inl ⟨hr.symm, by cases h; rfl⟩
      · cases h
    · rename_i hr
      exact .inr ⟨fun e => hr e.symm, h⟩
  · cases h
theorem set_at {α : Type} {l : List α} {r k : Nat} {a x : α} (h : (l.set r a)[k]? = some x) : (k = r ∧ x = a) ∨ (k ≠ r ∧ l[k]? = some x) := by
  have hk := (List.getElem?_eq_some_iff.1 h).1
  exact (set_take_at (m := k + 1) (by rw [List.getElem?_take, if_pos (by omega)]; exact h)).2
theorem Vals.drop {B : Nat} {w : World} {t : TD} {V : List (List (List WI))} {r m : Nat} {e : Int} {vl : List (List WI)} {D : List CD} (hT : TabIn B w t) (h : Vals t V) (hr : r ≤ m) (hm : t.ents.length = m + 1) (hl : V[m]? = some vl)
    (hD : ∀ (i : Nat) (d d' : CD), t.cols[i]? = some d → D[i]? = some d' → DropG r m i d d') : Vals { t with ents := (t.ents.set r e).take m, cols := D } ((V.set r vl).take m) := by
  have hVl := h.len
  refine ⟨by simp [h.len], fun q hq => ?_, ?_⟩
  · obtain ⟨k, hk⟩ := List.getElem?_of_mem hq
    obtain ⟨_, ⟨_, rfl⟩ | ⟨_, h2⟩⟩ := set_take_at hk
    · exact h.row _ (List.mem_of_getElem? hl)
    · exact h.row _ (List.mem_of_getElem? h2)
  · intro k i q v x d' hk hv hx hd'
    have hil := (List.getElem?_eq_some_iff.1 hx).1
    obtain ⟨d, hd⟩ : ∃ d, t.cols[i]? = some d := ⟨_, List.getElem?_eq_getElem (by rw [hT.len]; exact hil)⟩
    obtain ⟨_, _, _, hrl⟩ := hT.col i x d hx hd
    obtain ⟨l, hl'⟩ : ∃ l, d.rows[m]? = some l := ⟨_, List.getElem?_eq_getElem (by omega)⟩
    obtain ⟨hrows, _⟩ := hD i d d' hd hd' l hl'
    obtain ⟨hkm, hc⟩ := set_take_at hk
    rcases hc with ⟨rfl, rfl⟩ | ⟨hne, h2⟩
    · obtain ⟨h1, h3⟩ := h.at_ m i q v x d hl hv hx hd
      rw [hl'] at h1
      cases h1
      refine ⟨?_, h3⟩
      rw [hrows, List.getElem?_take, if_pos hkm, List.getElem?_set, if_pos rfl, if_pos (by omega)]
    · obtain ⟨h1, h3⟩ := h.at_ k i q v x d h2 hv hx hd
      refine ⟨?_, h3⟩
      rw [hrows, List.getElem?_take, if_pos hkm, List.getElem?_set, if_neg (fun e => hne e.symm)]
      exact h1
theorem Vals.put {t : TD} {V : List (List (List WI))} {i k : Nat} {d : CD} {x : CV} {r : List (List WI)} {v : List WI} (h : Vals t V) (hk : V[k]? = some r) (hx : t.cps[i]? = some x) (hd : t.cols[i]? = some d) (hkl : k < d.rows.length) (hfit : fitF x.c.fields v = 0) (hwf : ∀ y ∈ v, y.wf) :
    Vals (t.put i k d (packF x.c.fields v)) (V.set k (r.set i v)) := by
  refine ⟨by rw [List.length_set]; exact h.len, fun q hq => ?_, ?_⟩
  · obtain ⟨j, hj⟩ := List.getElem?_of_mem hq
    rcases set_at hj with ⟨_, rfl⟩ | ⟨_, h2⟩
    · rw [List.length_set]; exact h.row _ (List.mem_of_getElem? hk)
    · exact h.row _ (List.mem_of_getElem? h2)
  · intro k' i' q v' x' d' hk' hv' hx' hd'
    have hx2 : t.cps[i']? = some x' := hx'
    rcases set_at (show (t.cols.set i { d with rows := d.rows.set k (packF x.c.fields v) })[i']? = some d' from hd') with ⟨rfl, rfl⟩ | ⟨hne, hd2⟩
    · obtain rfl : x' = x := by rw [hx] at hx2; cases hx2; rfl
      rcases set_at hk' with ⟨rfl, rfl⟩ | ⟨hne2, hk2⟩
      · rcases set_at hv' with ⟨_, rfl⟩ | ⟨hne3, _⟩
        · refine ⟨?_, hfit, hwf⟩
          show (d.rows.set k' _)[k']? = _
          rw [List.getElem?_set, if_pos rfl, if_pos hkl]
        · exact absurd rfl hne3
      · obtain ⟨h1, h3⟩ := h.at_ k' i' q v' x' d hk2 hv' hx hd
        refine ⟨?_, h3⟩
        show (d.rows.set k _)[k']? = _
        rw [List.getElem?_set, if_neg (fun e => hne2 e.symm)]
        exact h1
    · rcases set_at hk' with ⟨rfl, rfl⟩ | ⟨hne2, hk2⟩
      · rcases set_at hv' with ⟨rfl, _⟩ | ⟨_, hv2⟩
        · exact absurd rfl hne
        · exact h.at_ k' i' r v' x' d' hk hv2 hx2 hd2
      · exact h.at_ k' i' q v' x' d' hk2 hv' hx2 hd2
end Go.Proofs.YtnhlnnehpmjeiaaGreatDoor
namespace Go.Proofs.YtnhlnnehpmjeiaaGreatDoor
open Go.RowKit
set_option linter.unusedVariables false
section
variable {B : Nat} {w : World} {t : TD} {V : List (List (List WI))}
theorem TDeed.refl (h : TabIn B w t) {w' : World} (hb : Below w.heap.size w w') : TDeed B t t w w' := ⟨h.below hb, rfl, rfl, rfl, rfl, rfl, Out.of hb, fun _ => .inl⟩
theorem tabAdd_deed (h : TabIn B w t) (hV : Vals t V) (e : Int) (ps : List PW) (pa : Option Addr) (pl pc : Nat) (hps : ∀ w', Out t.cfoot w w' → PartsAt w'.heap.size w' pa pl pc ps) (hl : pl ≤ 100000) (herr : addErr t e ps = 0)
    (hfit : ∀ x ∈ t.cps, ∃ p, partOf ps x.c.id = some p ∧ fitF x.c.fields p.val = 0 ∧ ∀ y ∈ p.val, y.wf) :
    Calls Tryz.prog 155 #[.pointer (some ⟨t.tb, 0, none⟩), .int .u64 e, .slice pa pl pc] w fun en w' => en = .returned (.tuple #[.int .i64 (t.ents.length : Int), .int .i64 0]) ∧ ∃ t', TDeed B t t' w w' ∧ t'.ents = t.ents ++ [e] ∧ t'.kept = t.kept ∧ t'.cps = t.cps ∧ Vals t' (V ++ [addRow ps t]) := by
  refine (tabAdd_ok h e ps pa pl pc hps hl herr).mono ?_
  rintro en w' ⟨rfl, ea, ec, D, hT, hG, hO, hF⟩
  exact ⟨rfl, _, ⟨hT, rfl, rfl, rfl, rfl, rfl, hO, hF⟩, rfl, rfl, rfl, hV.add h hfit hG⟩
theorem tabDrop_deed (h : TabIn B w t) (hV : Vals t V) (r m : Nat) (hr : r ≤ m) (hm : t.ents.length = m + 1) (x : Int) (hx : t.ents[m]? = some x) (vl : List (List WI)) (hvl : V[m]? = some vl) :
    Calls Tryz.prog 164 #[.pointer (some ⟨t.tb, 0, none⟩), .int .i64 (r : Int)] w fun en w' => en = .returned (.tuple #[.int .u64 (if r = m then 0 else x), .int .i64 0]) ∧ ∃ t', TDeed B t t' w w' ∧ t'.ents = (t.ents.set r x).take m ∧ t'.kept = t.kept ∧ t'.cps = t.cps ∧ Vals t' ((V.set r vl).take m) := by
  refine (tabDrop_ok h r m hr hm x hx).mono ?_
  rintro en w' ⟨rfl, D, hT, hG, hO, hF⟩
  exact ⟨rfl, _, ⟨hT, rfl, rfl, rfl, rfl, rfl, hO, hF⟩, rfl, rfl, rfl, hV.drop h hr hm hvl hG⟩
theorem Vals.kept (hV : Vals t V) (k : Nat) : Vals { t with kept := k } V := ⟨hV.len, hV.row, hV.at_⟩
theorem tabYield_deed (h : TabIn B w t) (hV : Vals t V) (hk : t.kept ≠ 0) : Calls Tryz.prog 163 #[.pointer (some ⟨t.tb, 0, none⟩)] w fun e w' => e = .returned (.int .i64 0) ∧ ∃ t', TDeed B t t' w w' ∧ t'.ents = t.ents ∧ t'.kept = t.kept - 1 ∧ t'.cps = t.cps ∧ Vals t' V := by
  refine (tabYield_in h).mono ?_
  rintro e w' ⟨rfl, hT, hO⟩
  rw [if_neg hk] at hT
  exact ⟨by rw [if_neg hk], _, ⟨hT, rfl, rfl, rfl, rfl, rfl, hO, fun _ hb => .inl hb⟩, rfl, rfl, rfl, hV.kept _⟩
end
end Go.Proofs.YtnhlnnehpmjeiaaGreatDoor
namespace Go.Proofs.YtnhlnnehpmjeiaaGreatDoor
open Go.RowKit
open Go.Maps (Keyed IsMap Tidy int_keyed keyOf_int_mk)
set_option linter.unusedVariables false
/-- A block of cells of a kind in the list. -/
def KIn (w : World) (b : Nat) (l : List TypeId) : Prop := ∃ cs ty fr, w.heap[b]? = some (.cells cs ty fr) ∧ ty ∈ l
def IsMapB (w : World) (b : Nat) : Prop := ∃ es c, w.heap[b]? = some (.map es c)
theorem KIn.ne {w : World} {b : Nat} {l m : List TypeId} (h : KIn w b l) (k : KIn w b m) (hd : ∀ x ∈ l, x ∉ m) : False := by
  obtain ⟨cs, ty, fr, h1, h2⟩ := h
  obtain ⟨cs', ty', fr', k1, k2⟩ := k
  rw [h1] at k1
  cases k1
  exact hd _ h2 k2
theorem KIn.ne_map {w : World} {b : Nat} {l : List TypeId} (h : KIn w b l) (k : IsMapB w b) : False := by
  obtain ⟨cs, ty, fr, h1, h2⟩ := h
  obtain ⟨es, c, k1⟩ := k
  rw [h1] at k1
  cases k1
theorem KIn.mono {w : World} {b : Nat} {l m : List TypeId} (h : KIn w b l) (hd : ∀ x ∈ l, x ∈ m) : KIn w b m := by
  obtain ⟨cs, ty, fr, h1, h2⟩ := h
  exact ⟨cs, ty, fr, h1, hd _ h2⟩
theorem KIn.mut {w : World} {b : Nat} {l : List TypeId} (h : KIn w b l) (hd : ∀ x ∈ l, x ≠ 51 ∧ x ≠ 258 ∧ x ≠ 143) : Mut w b := by
  obtain ⟨cs, ty, fr, h1, h2⟩ := h
  obtain ⟨n1, n2, n3⟩ := hd _ h2
  exact mut_of h1 n1 n2 n3
theorem IsMapB.mut {w : World} {b : Nat} (h : IsMapB w b) : Mut w b := by
  obtain ⟨es, c, h1⟩ := h
  intro cs t fr h2
  rw [h1] at h2
  cases h2
def xK : List TypeId := [128, 3, 4]
def gK : List TypeId := [134, 229]
def tK : List TypeId := [254, 31, 283, 113, 5]
def wK : List TypeId := [92]
theorem TabIn.kin {w : World} {t : TD} (h : TabIn 0 w t) {b : Nat} (hb : t.foot b) : KIn w b tK := by
  obtain ⟨cs, ty, fr, hh, ht⟩ := h.foot_fty hb
  exact ⟨cs, ty, fr, hh, by rcases ht with h | h | h | h | h <;> subst h <;> decide⟩
theorem XIn.kin {w : World} {x : XD} (h : XIn w x) {b : Nat} (hb : x.foot b) : KIn w b xK := by
  rcases hb with rfl | hb | hb | hb
  · exact ⟨_, _, _, h.blk, by decide⟩
  · obtain ⟨cur, hh⟩ := row_type h.gensR hb
    exact ⟨_, _, _, hh, by decide⟩
  · obtain ⟨cur, hh⟩ := row_type h.livesR hb
    exact ⟨_, _, _, hh, by decide⟩
  · obtain ⟨cur, hh⟩ := row_type h.freeR hb
    exact ⟨_, _, _, hh, by decide⟩
section
variable {B1 gb : Nat} {g : GS} {w w' : World} {mb wb : Nat} {ta : Option Addr} {tc : Nat} {F : Nat → Prop}
theorem Graph.kin (h : Graph B1 gb g mb wb ta tc w) {b : Nat} (hb : gfoot gb mb wb ta b) : KIn w b gK ∨ (IsMapB w b ∧ (b = mb ∨ b = wb)) := by
  obtain ⟨ca, cl, cc, bs, ws, h⟩ := h
  rcases hb with rfl | rfl | rfl | hr
  · exact .inl ⟨_, _, _, h.blk, by decide⟩
  · exact .inr ⟨h.bySet.obj, .inl rfl⟩
  · exact .inr ⟨h.byWay.obj, .inr rfl⟩
  · obtain ⟨cur, hh⟩ := row_type h.row ((ownBlock_slice ta g.ts.length tc 0 0).trans hr)
    exact .inl ⟨_, _, _, hh, by decide⟩
theorem keepsTy_mut (ho : Out F w w') (hM : ∀ b, F b → Mut w b) : KeepsTy w w' := by
  intro b c e fz hb he
  refine ho.keep hb (fun hf => ?_)
  obtain ⟨n1, n2, n3⟩ := hM b hf _ _ _ hb
  rcases he with rfl | rfl
  · exact n1 rfl
  · exact n3 rfl
theorem Graph.outM (h : Graph B1 gb g mb wb ta tc w) (ho : Out F w w') (hno : ∀ b, gfoot gb mb wb ta b → ¬ F b) (hM : ∀ b, F b → Mut w b) (hs : ∀ t ∈ g.ts, SigAt w' t.1 t.2) : Graph B1 gb g mb wb ta tc w' := by
  obtain ⟨ca, cl, cc, bs, ws, h⟩ := h
  have hty := keepsTy_mut ho hM
  refine ⟨ca, cl, cc, bs, ws, { h with
    blk := ho.keep h.blk (hno _ (.inl rfl))
    comps := (h.comps.ty h.cty hty).mono ho.size
    cty := h.cty.hk hty
    row := ownsRow_out h.row ho (fun x hx => hno x (.inr (.inr (.inr ((ownBlock_slice ta 0 0 g.ts.length tc).trans hx)))))
    bySet := h.bySet.out ho (hno _ (.inr (.inl rfl)))
    byWay := h.byWay.out ho (hno _ (.inr (.inr (.inl rfl))))
    tab := fun t ht => ⟨hs t ht, (h.tab t ht).2⟩
    wf := ⟨h.wf.1, h.wf.2.1, h.wf.2.2.1, h.wf.2.2.2.1, h.wf.2.2.2.2.1, Nat.le_trans h.wf.2.2.2.2.2.1 ho.size, h.wf.2.2.2.2.2.2⟩ }⟩
theorem Graph.mono0 (h : Graph B1 gb g mb wb ta tc w) : Graph 0 gb g mb wb ta tc w := by
  obtain ⟨ca, cl, cc, bs, ws, h⟩ := h
  exact ⟨ca, cl, cc, bs, ws, { h with
    bg := Nat.zero_le _
    bm := Nat.zero_le _
    bw := Nat.zero_le _
    row := ownsRow_mono h.row (Nat.zero_le _)
    wf := ⟨h.wf.1, h.wf.2.1, h.wf.2.2.1, h.wf.2.2.2.1, h.wf.2.2.2.2.1, Nat.zero_le _, h.wf.2.2.2.2.2.2⟩
    tlo := fun _ _ => Nat.zero_le _ }⟩
end
/-- A place as a value. -/
def Pl.rowI (p : Pl) : Int := match p.row with | some r => (r : Int) | none => -1
def plV (p : Pl) : Value := .agg #[.int .i64 (p.tab : Int), .int .i64 p.rowI]
/-- The map of places. -/
def AtM (w : World) (ab : Nat) (pl : Int → Option Pl) (n : Nat) : Prop := ∃ f, MapV Tryz.prog w 31 ab n f ∧ ∀ e, 0 ≤ e → e < 18446744073709551616 → f (.int .u64 e) = (pl e).map plV
theorem AtM.out {w w' : World} {ab : Nat} {pl : Int → Option Pl} {n : Nat} {F : Nat → Prop} (h : AtM w ab pl n) (ho : Out F w w') (hn : ¬ F ab) : AtM w' ab pl n := by
  obtain ⟨f, h1, h2⟩ := h
  exact ⟨f, h1.out ho hn, h2⟩
theorem AtM.obj {w : World} {ab : Nat} {pl : Int → Option Pl} {n : Nat} (h : AtM w ab pl n) : IsMapB w ab := by
  obtain ⟨f, h1, h2⟩ := h
  exact h1.obj
structure CapsD where
  ents : Int
  rows : Int
  archs : Int
  cmds : Int
  fuel : Int
  gens : Int
structure WD where
  wb : Nat
  caps : CapsD
  x : XD
  gb : Nat
  mb : Nat
  wmb : Nat
  ta : Option Addr
  tc : Nat
  g : GS
  T : List TD
  V : List (List (List (List WI)))
  ab : Nat
  pl : Int → Option Pl
def WD.foot (d : WD) (b : Nat) : Prop := b = d.wb ∨ b = d.ab ∨ d.x.foot b ∨ gfoot d.gb d.mb d.wmb d.ta b ∨ ∃ t ∈ d.T, t.foot b
def PTof (t : TD) (v : List (List (List WI))) : PT := ⟨t.set, t.ents, t.kept, v⟩
def WD.P (d : WD) : PS := ⟨List.zipWith PTof d.T d.V, d.pl⟩
/-- A world's memory; its map has n entries. -/
structure WRaw (w : World) (d : WD) (n : Nat) : Prop where
  blk : w.heap[d.wb]? = some (.cells #[.int .i64 d.caps.ents, .int .i64 d.caps.rows, .int .i64 d.caps.archs, .int .i64 d.caps.cmds, .int .i64 d.caps.fuel, .int .i64 d.caps.gens, .pointer (some ⟨d.x.xb, 0, none⟩), .pointer (some ⟨d.gb, 0, none⟩), .map (some d.ab)] 92 (0, 0))
  ix : XIn w d.x
  gr : Graph 0 d.gb d.g d.mb d.wmb d.ta d.tc w
  tabs : Tabs 0 d.g d.T w
  vlen : d.V.length = d.T.length
  vals : ∀ (i : Nat) t v, d.T[i]? = some t → d.V[i]? = some v → Vals t v
  atm : AtM w d.ab d.pl n
  ne1 : d.ab ≠ d.mb
  ne2 : d.ab ≠ d.wmb
section
variable {w w' : World} {d : WD} {n : Nat} {F : Nat → Prop}
theorem WRaw.kin (h : WRaw w d n) {b : Nat} (hb : d.foot b) : KIn w b (wK ++ xK ++ gK ++ tK) ∨ IsMapB w b := by
  rcases hb with rfl | rfl | hb | hb | ⟨t, ht, hb⟩
  · exact .inl ⟨_, _, _, h.blk, by decide⟩
  · exact .inr h.atm.obj
  · exact .inl ((h.ix.kin hb).mono (by decide))
  · rcases h.gr.kin hb with k | ⟨k, _⟩
    · exact .inl (k.mono (by decide))
    · exact .inr k
  · exact .inl (((h.tabs.tab t ht).kin hb).mono (by decide))
theorem WRaw.mut (h : WRaw w d n) {b : Nat} (hb : d.foot b) : Mut w b := by
  rcases h.kin hb with k | k
  · exact k.mut (by decide)
  · exact k.mut
theorem WRaw.lt (h : WRaw w d n) {b : Nat} (hb : d.foot b) : b < w.heap.size := by
  rcases h.kin hb with ⟨_, _, _, k, _⟩ | ⟨_, _, k⟩ <;> exact lt_some k
/-- What is not its own may change. -/
theorem WRaw.out (h : WRaw w d n) (ho : Out F w w') (hF : ∀ b, d.foot b → ¬ F b) (hM : ∀ b, F b → Mut w b) : WRaw w' d n := by
  have hT := h.tabs.out ho (fun b hb t ht hf => hF b (.inr (.inr (.inr (.inr ⟨t, ht, hf⟩)))) hb) hM
  exact { h with
    blk := ho.keep h.blk (hF _ (.inl rfl))
    ix := h.ix.out ho (fun b hb => hF b (.inr (.inr (.inl hb))))
    gr := h.gr.outM ho (fun b hb => hF b (.inr (.inr (.inr (.inl hb))))) hM hT.sigAt
    tabs := hT
    atm := h.atm.out ho (hF _ (.inr (.inl rfl))) }
theorem WRaw.below (h : WRaw w d n) (hb : Below w.heap.size w w') : WRaw w' d n := h.out (F := fun _ => False) (Out.of hb) (fun _ _ => id) (fun _ => False.elim)
theorem WRaw.ab_x (h : WRaw w d n) : ¬ d.x.foot d.ab := fun hb => (h.ix.kin hb).ne_map h.atm.obj
theorem WRaw.ab_t (h : WRaw w d n) {t : TD} (ht : t ∈ d.T) : ¬ t.foot d.ab := fun hb => ((h.tabs.tab t ht).kin hb).ne_map h.atm.obj
theorem WRaw.ab_g (h : WRaw w d n) : ¬ gfoot d.gb d.mb d.wmb d.ta d.ab := fun hb => by
  rcases h.gr.kin hb with k | ⟨_, k | k⟩
  · exact k.ne_map h.atm.obj
  · exact h.ne1 k
  · exact h.ne2 k
theorem WRaw.wb_k (h : WRaw w d n) : KIn w d.wb wK := ⟨_, _, _, h.blk, by decide⟩
theorem WRaw.wb_x (h : WRaw w d n) : ¬ d.x.foot d.wb := fun hb => (h.ix.kin hb).ne h.wb_k (by decide)
theorem WRaw.wb_t (h : WRaw w d n) {t : TD} (ht : t ∈ d.T) : ¬ t.foot d.wb := fun hb => ((h.tabs.tab t ht).kin hb).ne h.wb_k (by decide)
theorem WRaw.wb_g (h : WRaw w d n) : ¬ gfoot d.gb d.mb d.wmb d.ta d.wb := fun hb => by
  rcases h.gr.kin hb with k | ⟨k, _⟩
  · exact k.ne h.wb_k (by decide)
  · exact h.wb_k.ne_map k
theorem WRaw.wb_ab (h : WRaw w d n) : d.wb ≠ d.ab := fun e => h.wb_k.ne_map (e ▸ h.atm.obj)
theorem WRaw.x_g (h : WRaw w d n) {b : Nat} (hb : d.x.foot b) : ¬ gfoot d.gb d.mb d.wmb d.ta b := fun hg => by
  rcases h.gr.kin hg with k | ⟨k, _⟩
  · exact (h.ix.kin hb).ne k (by decide)
  · exact (h.ix.kin hb).ne_map k
theorem WRaw.x_t (h : WRaw w d n) {b : Nat} (hb : d.x.foot b) {t : TD} (ht : t ∈ d.T) : ¬ t.foot b := fun hg => (h.ix.kin hb).ne ((h.tabs.tab t ht).kin hg) (by decide)
theorem WRaw.g_t (h : WRaw w d n) {b : Nat} (hb : gfoot d.gb d.mb d.wmb d.ta b) {t : TD} (ht : t ∈ d.T) : ¬ t.foot b := fun hg => by
  rcases h.gr.kin hb with k | ⟨k, _⟩
  · exact ((h.tabs.tab t ht).kin hg).ne k (by decide)
  · exact ((h.tabs.tab t ht).kin hg).ne_map k
end
/-- A deed of a world: what it may change. -/
structure WFr (d d' : WD) (w w' : World) : Prop where
  wb : d'.wb = d.wb
  out : Out d.foot w w'
  foot : ∀ b, d'.foot b → d.foot b ∨ w.heap.size ≤ b
theorem WFr.trans {d d1 d2 : WD} {a b c : World} (h : WFr d d1 a b) (k : WFr d1 d2 b c) : WFr d d2 a c :=
  ⟨k.wb.trans h.wb, h.out.trans k.out h.foot, fun x hx => (k.foot x hx).elim (h.foot x) fun hb => .inr (Nat.le_trans h.out.size hb)⟩
theorem WFr.of_below {d : WD} {w w' : World} (h : Below w.heap.size w w') : WFr d d w w' := ⟨rfl, Out.of h, fun _ => .inl⟩
section
variable {w w' : World} {d : WD} {n : Nat}
/-- A deed of a table. -/
theorem WRaw.tdeed (h : WRaw w d n) {i : Nat} {t t' : TD} {v' : List (List (List WI))} (hi : d.T[i]? = some t) (hd : TDeed 0 t t' w w') (hv : Vals t' v') : WRaw w' { d with T := d.T.set i t', V := d.V.set i v' } n ∧ WFr d { d with T := d.T.set i t', V := d.V.set i v' } w w' := by
  have htm := List.mem_of_getElem? hi
  have hT := h.tabs.put hi hd
  have hM : ∀ b, t.foot b → Mut w b := fun b hb => ((h.tabs.tab t htm).foot_fty hb).mut
  refine ⟨{ h with
    blk := hd.out.keep h.blk (h.wb_t htm)
    ix := h.ix.out hd.out (fun b hb => h.x_t hb htm)
    gr := h.gr.outM hd.out (fun b hb => h.g_t hb htm) hM hT.sigAt
    tabs := hT
    vlen := by simp [h.vlen]
    vals := ?_
    atm := h.atm.out hd.out (h.ab_t htm) }, rfl, hd.out.mono (fun b hb => .inl (.inr (.inr (.inr (.inr ⟨t, htm, hb⟩))))), ?_⟩
  · intro j u v hu hvj
    rcases set_some hu with ⟨rfl, rfl, _⟩ | ⟨hj, hu⟩
    · rcases set_some hvj with ⟨_, rfl, _⟩ | ⟨hj, _⟩
      · exact hv
      · exact absurd rfl hj
    · rw [set_other hj] at hvj
      exact h.vals j u v hu hvj
  · rintro b (hb | hb | hb | hb | ⟨u, hu, hb⟩)
    · exact .inl (.inl hb)
    · exact .inl (.inr (.inl hb))
    · exact .inl (.inr (.inr (.inl hb)))
    · exact .inl (.inr (.inr (.inr (.inl hb))))
    · rcases List.mem_or_eq_of_mem_set hu with hu | rfl
      · exact .inl (.inr (.inr (.inr (.inr ⟨u, hu, hb⟩))))
      · exact (hd.foot b hb).imp (fun hb => .inr (.inr (.inr (.inr ⟨t, htm, hb⟩)))) id
/-- A deed of the index. -/
theorem WRaw.xdeed (h : WRaw w d n) {x' : XD} (hx : XIn w' x') (hb : x'.xb = d.x.xb) (ho : Out d.x.foot w w') (hf : ∀ b, x'.foot b → d.x.foot b ∨ w.heap.size ≤ b) : WRaw w' { d with x := x' } n ∧ WFr d { d with x := x' } w w' := by
  have hM : ∀ b, d.x.foot b → Mut w b := fun b hb => (h.ix.kin hb).mut (by decide)
  have hT := h.tabs.out ho (fun b hb t ht hg => h.x_t hb ht hg) hM
  refine ⟨{ h with
    blk := by rw [hb]; exact ho.keep h.blk h.wb_x
    ix := hx
    gr := h.gr.outM ho (fun b hg hb => h.x_g hb hg) hM hT.sigAt
    tabs := hT
    atm := h.atm.out ho h.ab_x }, rfl, ho.mono (fun b hb => .inl (.inr (.inr (.inl hb)))), ?_⟩
  rintro b (hb | hb | hb | hb | hb)
  · exact .inl (.inl hb)
  · exact .inl (.inr (.inl hb))
  · exact (hf b hb).imp (fun hb => .inr (.inr (.inl hb))) id
  · exact .inl (.inr (.inr (.inr (.inl hb))))
  · exact .inl (.inr (.inr (.inr (.inr hb))))
/-- A deed of the map of places. -/
theorem WRaw.adeed (h : WRaw w d n) {pl' : Int → Option Pl} {n' : Nat} (ha : AtM w' d.ab pl' n') (hg : w.grownBy w' (some d.ab)) : WRaw w' { d with pl := pl' } n' ∧ WFr d { d with pl := pl' } w w' := by
  have ho : Out (fun b => b = d.ab) w w' := ⟨hg.os, hg.tape, hg.output, hg.size, fun i hi hn => hg.block i hi (fun e => hn (by cases e; rfl))⟩
  have hM : ∀ b, b = d.ab → Mut w b := fun b hb => by subst hb; exact h.atm.obj.mut
  have hT := h.tabs.out ho (fun b hb t ht hf => by subst hb; exact h.ab_t ht hf) hM
  refine ⟨{ h with
    blk := ho.keep h.blk h.wb_ab
    ix := h.ix.out ho (fun b hb e => by subst e; exact h.ab_x hb)
    gr := h.gr.outM ho (fun b hb e => by subst e; exact h.ab_g hb) hM hT.sigAt
    tabs := hT
    atm := ha }, rfl, ho.mono (fun b hb => .inl (.inr (.inl hb))), fun b hb => .inl hb⟩
end
end Go.Proofs.YtnhlnnehpmjeiaaGreatDoor
namespace Go.Proofs.YtnhlnnehpmjeiaaGreatDoor
open Go.RowKit
open Go.Maps (Keyed IsMap Tidy int_keyed keyOf_int_mk)
set_option linter.unusedVariables false
theorem Tryz.lawE : Keyed Tryz.prog 31 := int_keyed Tryz.underlying31
theorem Tryz.zeroPl (w : World) : (zeroValue 243).run Tryz.prog w = .ok (.agg #[.int .i64 0, .int .i64 0]) w := by kernel_rfl
theorem key_e {e : Int} (h0 : 0 ≤ e) (h1 : e < 18446744073709551616) : keyOf Tryz.prog 31 (.int .u64 e) = some (.int .u64 e) :=
  keyOf_int_mk Tryz.underlying31 (by simp [Lit.wf, IntKind.min, IntKind.max, IntKind.signed, IntKind.bits]; omega)
/-- What the map of places says. -/
def atV (pl : Int → Option Pl) (e : Int) : Value := match pl e with | some p => plV p | none => .agg #[.int .i64 0, .int .i64 0]
section
variable {w : World} {ab n : Nat} {pl : Int → Option Pl} {e : Int}
theorem AtM.look (h : AtM w ab pl n) (h0 : 0 ≤ e) (h1 : e < 18446744073709551616) : (Instr.lookup 90 (.map (some ab)) (.int .u64 e) false).run Tryz.prog w = .ok (atV pl e) w := by
  obtain ⟨f, hM, hf⟩ := h
  rw [hM.look Tryz.lawE Tryz.underlying90 Tryz.zeroPl (key_e h0 h1), hf e h0 h1]
  unfold atV
  cases pl e <;> rfl
theorem AtM.store (h : AtM w ab pl n) (hn : n < 1000000) (h0 : 0 ≤ e) (h1 : e < 18446744073709551616) (p : Pl) :
    ∃ w', (Instr.mapUpdate 90 (.map (some ab)) (.int .u64 e) (plV p)).run Tryz.prog w = .ok () w' ∧ AtM w' ab (updP pl e (some p)) (if (pl e).isSome then n else n + 1) ∧ w.grownBy w' (some ab) ∧ w'.heap.size = w.heap.size := by
  obtain ⟨f, hM, hf⟩ := h
  obtain ⟨w', hrun, hM', hg, hz⟩ := hM.store (val := plV p) Tryz.lawE Tryz.underlying90 (by unfold maxLen; omega) (key_e h0 h1)
  refine ⟨w', hrun, ⟨putV f (.int .u64 e) (plV p), ?_, fun x x0 x1 => ?_⟩, hg, hz⟩
  · rw [hf e h0 h1, Option.isSome_map] at hM'
    exact hM'
  · by_cases hx : x = e
    · subst hx; rw [putV_same, updP_same]; rfl
    · rw [putV_ne (by simpa using hx), updP_ne hx]; exact hf x x0 x1
theorem AtM.drop (h : AtM w ab pl n) (h0 : 0 ≤ e) (h1 : e < 18446744073709551616) (ty : TypeId) :
    ∃ w', (Builtin.delete_ #[90, 31] ty #[.map (some ab), .int .u64 e]).run Tryz.prog w = .ok (.tuple #[]) w' ∧ AtM w' ab (updP pl e none) (if (pl e).isSome then n - 1 else n) ∧ w.grownBy w' (some ab) ∧ w'.heap.size = w.heap.size := by
  obtain ⟨f, hM, hf⟩ := h
  obtain ⟨w', hrun, hM', hg, hz⟩ := hM.drop (key := .int .u64 e) Tryz.lawE Tryz.underlying90 (key_e h0 h1) ty
  refine ⟨w', hrun, ⟨delV f (.int .u64 e), ?_, fun x x0 x1 => ?_⟩, hg, hz⟩
  · rw [hf e h0 h1, Option.isSome_map] at hM'
    exact hM'
  · by_cases hx : x = e
    · subst hx; rw [delV_same, updP_same]; rfl
    · rw [delV_ne (by simpa using hx), updP_ne hx]; exact hf x x0 x1
end
theorem Tabs.congr {B : Nat} {g g' : GS} {T : List TD} {w : World} (h : Tabs B g T w) (hts : g'.ts = g.ts) (hg : g'.ver = g.ver ∧ g'.rows = g.rows ∧ g'.cs = g.cs) : Tabs B g' T w :=
  ⟨h.ts.trans hts.symm, h.tab, fun t ht => by rw [hg.1, hg.2.1, hg.2.2]; exact h.like t ht, h.apart⟩
section
variable {w w' : World} {d : WD} {n : Nat}
theorem WRaw.gmut (h : WRaw w d n) {b : Nat} (hb : gfoot d.gb d.mb d.wmb d.ta b) : Mut w b := h.mut (.inr (.inr (.inr (.inl hb))))
/-- A deed of the graph: no table comes. -/
theorem WRaw.gold (h : WRaw w d n) {g' : GS} {ta' : Option Addr} {tc' : Nat} (hg : Graph 0 d.gb g' d.mb d.wmb ta' tc' w') (ho : GOut d.gb d.mb d.wmb d.ta ta' w w') (hs : g'.ver = d.g.ver ∧ g'.rows = d.g.rows ∧ g'.cs = d.g.cs) (hts : g'.ts = d.g.ts) :
    WRaw w' { d with g := g', ta := ta', tc := tc' } n ∧ WFr d { d with g := g', ta := ta', tc := tc' } w w' := by
  have hT := h.tabs.out ho.1 (fun b hb t ht => h.g_t hb ht) (fun b hb => h.gmut hb)
  refine ⟨{ h with
    blk := ho.1.keep h.blk h.wb_g
    ix := h.ix.out ho.1 (fun b hb => h.x_g hb)
    gr := hg
    tabs := hT.congr hts hs
    atm := h.atm.out ho.1 h.ab_g }, rfl, ho.1.mono (fun b hb => .inl (.inr (.inr (.inr (.inl hb))))), ?_⟩
  rintro b (hb | hb | hb | hb | hb)
  · exact .inl (.inl hb)
  · exact .inl (.inr (.inl hb))
  · exact .inl (.inr (.inr (.inl hb)))
  · exact (ho.2 b hb).imp (fun hb => .inr (.inr (.inr (.inl hb)))) id
  · exact .inl (.inr (.inr (.inr (.inr hb))))
/-- .. a table comes. -/
theorem WRaw.gnew (h : WRaw w d n) {g' : GS} {ta' : Option Addr} {tc' : Nat} (hg : Graph 0 d.gb g' d.mb d.wmb ta' tc' w') (ho : GOut d.gb d.mb d.wmb d.ta ta' w w') (hs : g'.ver = d.g.ver ∧ g'.rows = d.g.rows ∧ g'.cs = d.g.cs) {tb : Nat} {set : Int} (hts : g'.ts = d.g.ts ++ [(tb, set)])
    (hN : TableNew w' tb d.g.ver d.g.cs set d.g.rows) (hlo : w.heap.size ≤ tb) (hok : tableOk d.g.ver d.g.cs set d.g.rows = true) (h0 : 0 ≤ set) (h1 : set ≤ 4294967295) {most : Nat} (hm : d.g.rows = (most : Int)) :
    ∃ t, WRaw w' { d with g := g', ta := ta', tc := tc', T := d.T ++ [t], V := d.V ++ [[]] } n ∧ WFr d { d with g := g', ta := ta', tc := tc', T := d.T ++ [t], V := d.V ++ [[]] } w w' ∧ t.tb = tb ∧ t.set = set ∧ t.kept = 0 ∧ t.ents = [] ∧ t.most = most := by
  have hT := h.tabs.out ho.1 (fun b hb t ht => h.g_t hb ht) (fun b hb => h.gmut hb)
  obtain ⟨t, hT', e1, e2, e3, e4, e5, hge⟩ := h.tabs.snoc hm hN hok h0 h1 (Nat.zero_le _) hlo hT ⟨hts, hs⟩
  refine ⟨t, { h with
    blk := ho.1.keep h.blk h.wb_g
    ix := h.ix.out ho.1 (fun b hb => h.x_g hb)
    gr := hg
    tabs := hT'
    vlen := by simp [h.vlen]
    vals := ?_
    atm := h.atm.out ho.1 h.ab_g }, ⟨rfl, ho.1.mono (fun b hb => .inl (.inr (.inr (.inr (.inl hb))))), ?_⟩, e1, e2, e3, e4, e5⟩
  · intro i u v hu hv
    have hvl := h.vlen
    rcases Nat.lt_or_ge i d.T.length with hlt | hge
    · rw [List.getElem?_append_left hlt] at hu
      rw [List.getElem?_append_left (by omega)] at hv
      exact h.vals i u v hu hv
    · have hul := (List.getElem?_eq_some_iff.1 hu).1
      rw [List.length_append] at hul
      have hul2 : i < d.T.length + 1 := hul
      obtain rfl : i = d.T.length := by omega
      rw [List.getElem?_append_right (Nat.le_refl _), Nat.sub_self] at hu
      rw [List.getElem?_append_right (by omega), show d.T.length - d.V.length = 0 by omega] at hv
      simp at hu hv
      subst hu; subst hv
      exact Vals.new e4
  · rintro b (hb | hb | hb | hb | ⟨u, hu, hb⟩)
    · exact .inl (.inl hb)
    · exact .inl (.inr (.inl hb))
    · exact .inl (.inr (.inr (.inl hb)))
    · exact (ho.2 b hb).imp (fun hb => .inr (.inr (.inr (.inl hb)))) id
    · rcases List.mem_append.1 hu with hu | hu
      · exact .inl (.inr (.inr (.inr (.inr ⟨u, hu, hb⟩))))
      · obtain rfl : u = t := by simpa using hu
        exact .inr (hge b hb)
end
end Go.Proofs.YtnhlnnehpmjeiaaGreatDoor
