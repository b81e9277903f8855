/- Maps told as functions to values of any element type; values16. · The law's test of two rows of numbers. · Plain: what the deeds of a table do to its values. · A table's deeds, with its values. · As D0, over K9: bits of a set; the ways of a graph lead there and back. · Plain: a heap of numbers: what a step down and a step up keep. -/
import Derived.Test.YtgebbmfoamkfnaaGreatDoorT23
import Derived.Laws.StructEq
import Derived.Test.YtgebbmfoamkfnaaGreatDoorT19
import Derived.Test.YtgebbmfoamkfnaaGreatDoorT18
import Derived.Laws.BitsAllLaws
import Derived.Test.YtgebbmfoamkfnaaGreatDoorRows
namespace Go.Proofs.YtgebbmfoamkfnaaGreatDoor
open Go.RowKit
open Go.Maps (Keyed IsMap Tidy int_keyed keyOf_int_mk)
set_option linter.unusedVariables false
section
variable {P : Program} {w : World} {k e : TypeId} {b cnt : Nat} {f : Lit → Option Value}
def heldR (v : Value) : Option (DataW Value × List MemPlace) := some (.held v, [])
def MapV (P : Program) (w : World) (k : TypeId) (b cnt : Nat) (f : Lit → Option Value) : Prop :=
 ∃ D : DataW Value, w.ownsMap P k heldR b cnt D ∧ Maps.size D = cnt ∧ ∀ kl, Maps.has D kl = (f kl).isSome ∧ ∀ v, f kl = some v → ∀ z, D.atKey kl z = .held v
def putV (f : Lit → Option Value) (kl : Lit) (v : Value) : Lit → Option Value := fun x => if litEq x kl = true then some v else f x
def delV (f : Lit → Option Value) (kl : Lit) : Lit → Option Value := fun x => if litEq x kl = true then none else f x
theorem putV_same (f : Lit → Option Value) (kl : Lit) (v : Value) : putV f kl v kl = some v := if_pos (litEq_iff.2 rfl)
theorem putV_ne {f : Lit → Option Value} {kl x : Lit} {v : Value} (h : x ≠ kl) : putV f kl v x = f x := if_neg (fun e => h (litEq_iff.1 e))
theorem delV_same (f : Lit → Option Value) (kl : Lit) : delV f kl kl = none := if_pos (litEq_iff.2 rfl)
theorem delV_ne {f : Lit → Option Value} {kl x : Lit} (h : x ≠ kl) : delV f kl x = f x := if_neg (fun e => h (litEq_iff.1 e))
theorem MapV.made (w : World) (P : Program) (k : TypeId) : MapV P (w.alloc (.map #[] 0)) k w.heap.size 0 (fun _ => none) :=
 ⟨.map [], World.ownsMap_made _ _ _ _, rfl, fun kl => ⟨rfl, fun v h => by cases h⟩⟩
theorem MapV.kept {w' : World} {row : Option Nat} (h : MapV P w k b cnt f) (hg : w.grownBy w' row) (hne : some b ≠ row) : MapV P w' k b cnt f := by
 obtain ⟨D, h1, h2, h3⟩ := h
 exact ⟨D, h1.kept hg hne, h2, h3⟩
theorem MapV.alloc (h : MapV P w k b cnt f) (o : Obj) : MapV P (w.alloc o) k b cnt f := by
 obtain ⟨D, h1, h2, h3⟩ := h
 exact ⟨D, h1.alloc o, h2, h3⟩
theorem MapV.lt (h : MapV P w k b cnt f) : b < w.heap.size := by obtain ⟨D, h1, _⟩ := h; exact h1.lt
theorem MapV.out {F : Nat → Prop} {w' : World} (h : MapV P w k b cnt f) (ho : Out F w w') (hb : ¬ F b) : MapV P w' k b cnt f := by
 obtain ⟨D, ⟨es, c, hh, r⟩, h2⟩ := h
 exact ⟨D, ⟨es, c, ho.keep hh hb, r⟩, h2⟩
theorem MapV.below (h : MapV P w k b cnt f) {w' : World} (hb : Below w.heap.size w w') : MapV P w' k b cnt f := h.out (F := fun _ => False) (Out.of hb) id
theorem MapV.obj (h : MapV P w k b cnt f) : ∃ es c, w.heap[b]? = some (.map es c) := by
 obtain ⟨D, ⟨es, c, hb, _⟩, _⟩ := h
 exact ⟨es, c, hb⟩
theorem MapV.look {t : TypeId} (h : MapV P w k b cnt f) (K : Keyed P k) (ht : P.underlying t = some (.map k e)) {z : Value} (hz : ∀ w, (zeroValue e).run P w = .ok z w)
  {key : Value} {kl : Lit} (hkey : keyOf P k key = some kl) : (Instr.lookup t (.map (some b)) key false).run P w = .ok ((f kl).getD z) w := by
 obtain ⟨D, h1, h2, h3⟩ := h
 obtain ⟨v, ps, hrun, hv⟩ := h1.lookup K ht (hz w) (show heldR z = some (.held z, []) from rfl) hkey
 rw [hrun]
 obtain ⟨hh, hat⟩ := h3 kl
 unfold heldR at hv
 simp only [Option.some.injEq, Prod.mk.injEq] at hv
 cases hf : f kl with
 | none =>
  rw [hf] at hh
  rw [Maps.atKey_of_not_has hh] at hv
  obtain ⟨hv, _⟩ := hv
  cases hv
  rfl
 | some u =>
  rw [hat u hf] at hv
  obtain ⟨hv, _⟩ := hv
  cases hv
  rfl
theorem MapV.len {t : TypeId} (h : MapV P w k b cnt f) (ht : P.underlying t = some (.map k e)) (ty : TypeId) : (Builtin.len_ #[t] ty #[.map (some b)]).run P w = .ok (.int .i64 cnt) w := by
 obtain ⟨D, h1, h2, h3⟩ := h
 rw [h1.len ht, h2]
theorem MapV.store {t : TypeId} (h : MapV P w k b cnt f) (K : Keyed P k) (ht : P.underlying t = some (.map k e)) (hn : cnt < maxLen) {key val : Value} {kl : Lit} (hkey : keyOf P k key = some kl) :
  ∃ w', (Instr.mapUpdate t (.map (some b)) key val).run P w = .ok () w' ∧ MapV P w' k b (if (f kl).isSome then cnt else cnt + 1) (putV f kl val) ∧ w.grownBy w' (some b) ∧ w'.heap.size = w.heap.size := by
 obtain ⟨D, h1, h2, h3⟩ := h
 obtain ⟨w', hrun, h1', ht'⟩ := h1.store K ht hn hkey (show heldR val = some (.held val, []) from rfl)
 have hs : Maps.size (D.put kl (.held val)) = if (f kl).isSome then cnt else cnt + 1 := by
  rw [Maps.size_put (h1.tidy K), (h3 kl).1, h2]
 have hsz : w'.heap.size = w.heap.size := by
  obtain ⟨es, clock, es', clock', hb, rfl⟩ := ht'
  simp [ChangeMaps.setBlock]
 refine ⟨w', hrun, ⟨D.put kl (.held val), ?_, hs, fun x => ?_⟩, ht'.grown, hsz⟩
 ·obtain ⟨es, clock, hb, F, hle, hD⟩ := h1'
  refine ⟨es, clock, hb, F, ?_, hD⟩
  rw [← hs, hD]
  simp [Maps.size, length_sorted]
 ·by_cases hx : x = kl
  ·subst hx
   rw [putV_same]
   refine ⟨by rw [Maps.has_put_same h1.isMap (K.key hkey)]; rfl, fun u hu z => ?_⟩
   rw [Maps.atKey_put_same h1.isMap (K.key hkey)]
   cases hu
   rfl
  ·rw [putV_ne hx]
   refine ⟨by rw [Maps.has_put_other hx, (h3 x).1], fun u hu z => ?_⟩
   rw [Maps.atKey_put_other hx]
   exact (h3 x).2 u hu z
theorem MapV.drop {t : TypeId} (h : MapV P w k b cnt f) (K : Keyed P k) (ht : P.underlying t = some (.map k e)) {key : Value} {kl : Lit} (hkey : keyOf P k key = some kl) (ty : TypeId) :
  ∃ w', (Builtin.delete_ #[t, k] ty #[.map (some b), key]).run P w = .ok (.tuple #[]) w' ∧ MapV P w' k b (if (f kl).isSome then cnt - 1 else cnt) (delV f kl) ∧ w.grownBy w' (some b) ∧ w'.heap.size = w.heap.size := by
 obtain ⟨D, h1, h2, h3⟩ := h
 obtain ⟨w', hrun, h1', ht'⟩ := h1.drop K ht hkey ty
 have hs : Maps.size (D.del kl) = if (f kl).isSome then cnt - 1 else cnt := by
  have := Maps.size_del (k := kl) (h1.tidy K)
  rw [(h3 kl).1, h2] at this
  split at this <;> rename_i hc
  ·rw [if_pos hc]; omega
  ·rw [if_neg hc]; omega
 have hsz : w'.heap.size = w.heap.size := by
  obtain ⟨es, clock, es', clock', hb, rfl⟩ := ht'
  simp [ChangeMaps.setBlock]
 refine ⟨w', hrun, ⟨D.del kl, ?_, hs, fun x => ?_⟩, ht'.grown, hsz⟩
 ·obtain ⟨es, clock, hb, F, hle, hD⟩ := h1'
  refine ⟨es, clock, hb, F, ?_, hD⟩
  rw [← hs, hD]
  simp [Maps.size, length_sorted]
 ·by_cases hx : x = kl
  ·subst hx
   rw [delV_same]
   exact ⟨Maps.has_del_same, fun u hu z => by cases hu⟩
  ·rw [delV_ne hx]
   refine ⟨by rw [Maps.has_del_other hx, (h3 x).1], fun u hu z => ?_⟩
   rw [Maps.atKey_del_other hx]
   exact (h3 x).2 u hu z
end
end Go.Proofs.YtgebbmfoamkfnaaGreatDoor
namespace Go.Proofs.YtgebbmfoamkfnaaGreatDoor
open Go.RowKit
set_option linter.unusedVariables false
theorem take_eq_succ {α : Type} {xs ys : List α} {k : Nat} {x y : α} (hx : xs[k]? = some x) (hy : ys[k]? = some y) (h : xs.take k = ys.take k) (he : x = y) : xs.take (k + 1) = ys.take (k + 1) := by rw [take_snoc hx, take_snoc hy, h, he]
end Go.Proofs.YtgebbmfoamkfnaaGreatDoor
namespace Go.Proofs.YtgebbmfoamkfnaaGreatDoor
open Go.RowKit
set_option linter.unusedVariables false
theorem Vals.new {t : TD} (h : t.ents = []) : Vals t [] := ⟨by simp [h], by simp, by simp⟩
def addRow (ps : List PW) (t : TD) : List (List WI) := t.cps.map fun x => match partOf ps x.c.id with | some p => p.val | none => []
theorem Vals.add {B : Nat} {w : World} {t : TD} {V : List (List (List WI))} {e : Int} {ps : List PW} {ea : Option Addr} {ec : Nat} {D : List CD} (hT : TabIn B w t) (h : Vals t V) (hfit : ∀ x ∈ t.cps, ∃ p, partOf ps x.c.id = some p ∧ fitF x.c.fields p.val = 0 ∧ ∀ y ∈ p.val, y.wf)
  (hD : ∀ (i : Nat) (d d' : CD), t.cols[i]? = some d → D[i]? = some d' → PutG ps t.cps i d d') : Vals { t with ents := t.ents ++ [e], ea := ea, ec := ec, cols := D } (V ++ [addRow ps t]) := by
 refine ⟨by simp [h.len], fun r hr => ?_, ?_⟩
 ·rcases List.mem_append.1 hr with hr | hr
  ·exact h.row r hr
  ·obtain rfl := List.mem_singleton.1 hr
   simp [addRow]
 ·intro k i r v x d' hk hv hx hd'
  have hil := (List.getElem?_eq_some_iff.1 hx).1
  obtain ⟨d, hd⟩ : ∃ d, t.cols[i]? = some d := ⟨_, List.getElem?_eq_getElem (by rw [hT.len]; exact hil)⟩
  obtain ⟨_, _, _, hrl⟩ := hT.col i x d hx hd
  obtain ⟨hrows, _⟩ := hD i d d' hd hd' x hx
  have hVl := h.len
  rcases Nat.lt_or_ge k V.length with hlt | hge
  ·rw [List.getElem?_append_left hlt] at hk
   obtain ⟨h1, h2⟩ := h.at_ k i r v x d hk hv hx hd
   exact ⟨by rw [hrows, List.getElem?_append_left (by omega)]; exact h1, h2⟩
  ·rw [List.getElem?_append_right hge] at hk
   have hk0 : k - V.length = 0 := by
    have := (List.getElem?_eq_some_iff.1 hk).1
    simp at this
    omega
   rw [hk0] at hk
   simp at hk
   subst hk
   obtain ⟨p, hp, hf, hw⟩ := hfit x (List.mem_of_getElem? hx)
   have hvv : v = p.val := by
    unfold addRow at hv
    rw [List.getElem?_map, hx] at hv
    simp [hp] at hv
    exact hv.symm
   subst hvv
   refine ⟨?_, hf, hw⟩
   rw [hrows, List.getElem?_append_right (by omega), show k - d.rows.length = 0 by omega]
   simp [rowOf, hp]
theorem set_take_at {α : Type} {l : List α} {r m k : Nat} {a x : α} (h : ((l.set r a).take m)[k]? = some x) : k < m ∧ ((k = r ∧ x = a) ∨ (k ≠ r ∧ l[k]? = some x)) := by
 rw [List.getElem?_take] at h
 split at h
 ·rename_i hk
  refine ⟨hk, ?_⟩
  rw [List.getElem?_set] at h
  split at h
  ·rename_i hr
   split at h
   ·exact .inl ⟨hr.symm, by cases h; rfl⟩
   ·cases h
  ·rename_i hr
   exact .inr ⟨fun e => hr e.symm, h⟩
 ·cases h
theorem set_at {α : Type} {l : List α} {r k : Nat} {a x : α} (h : (l.set r a)[k]? = some x) : (k = r ∧ x = a) ∨ (k ≠ r ∧ l[k]? = some x) := by
 have hk := (List.getElem?_eq_some_iff.1 h).1
 exact (set_take_at (m := k + 1) (by rw [List.getElem?_take, if_pos (by omega)]; exact h)).2
theorem Vals.drop {B : Nat} {w : World} {t : TD} {V : List (List (List WI))} {r m : Nat} {e : Int} {vl : List (List WI)} {D : List CD} (hT : TabIn B w t) (h : Vals t V) (hr : r ≤ m) (hm : t.ents.length = m + 1) (hl : V[m]? = some vl)
  (hD : ∀ (i : Nat) (d d' : CD), t.cols[i]? = some d → D[i]? = some d' → DropG r m i d d') : Vals { t with ents := (t.ents.set r e).take m, cols := D } ((V.set r vl).take m) := by
 have hVl := h.len
 refine ⟨by simp [h.len], fun q hq => ?_, ?_⟩
 ·obtain ⟨k, hk⟩ := List.getElem?_of_mem hq
  obtain ⟨_, ⟨_, rfl⟩ | ⟨_, h2⟩⟩ := set_take_at hk
  ·exact h.row _ (List.mem_of_getElem? hl)
  ·exact h.row _ (List.mem_of_getElem? h2)
 ·intro k i q v x d' hk hv hx hd'
  have hil := (List.getElem?_eq_some_iff.1 hx).1
  obtain ⟨d, hd⟩ : ∃ d, t.cols[i]? = some d := ⟨_, List.getElem?_eq_getElem (by rw [hT.len]; exact hil)⟩
  obtain ⟨_, _, _, hrl⟩ := hT.col i x d hx hd
  obtain ⟨l, hl'⟩ : ∃ l, d.rows[m]? = some l := ⟨_, List.getElem?_eq_getElem (by omega)⟩
  obtain ⟨hrows, _⟩ := hD i d d' hd hd' l hl'
  obtain ⟨hkm, hc⟩ := set_take_at hk
  rcases hc with ⟨rfl, rfl⟩ | ⟨hne, h2⟩
  ·obtain ⟨h1, h3⟩ := h.at_ m i q v x d hl hv hx hd
   rw [hl'] at h1
   cases h1
   refine ⟨?_, h3⟩
   rw [hrows, List.getElem?_take, if_pos hkm, List.getElem?_set, if_pos rfl, if_pos (by omega)]
  ·obtain ⟨h1, h3⟩ := h.at_ k i q v x d h2 hv hx hd
   refine ⟨?_, h3⟩
   rw [hrows, List.getElem?_take, if_pos hkm, List.getElem?_set, if_neg (fun e => hne e.symm)]
   exact h1
theorem Vals.put {t : TD} {V : List (List (List WI))} {i k : Nat} {d : CD} {x : CV} {r : List (List WI)} {v : List WI} (h : Vals t V) (hk : V[k]? = some r) (hx : t.cps[i]? = some x) (hd : t.cols[i]? = some d) (hkl : k < d.rows.length) (hfit : fitF x.c.fields v = 0) (hwf : ∀ y ∈ v, y.wf) :
  Vals (t.put i k d (packF x.c.fields v)) (V.set k (r.set i v)) := by
 refine ⟨by rw [List.length_set]; exact h.len, fun q hq => ?_, ?_⟩
 ·obtain ⟨j, hj⟩ := List.getElem?_of_mem hq
  rcases set_at hj with ⟨_, rfl⟩ | ⟨_, h2⟩
  ·rw [List.length_set]; exact h.row _ (List.mem_of_getElem? hk)
  ·exact h.row _ (List.mem_of_getElem? h2)
 ·intro k' i' q v' x' d' hk' hv' hx' hd'
  have hx2 : t.cps[i']? = some x' := hx'
  rcases set_at (show (t.cols.set i { d with rows := d.rows.set k (packF x.c.fields v) })[i']? = some d' from hd') with ⟨rfl, rfl⟩ | ⟨hne, hd2⟩
  ·obtain rfl : x' = x := by rw [hx] at hx2; cases hx2; rfl
   rcases set_at hk' with ⟨rfl, rfl⟩ | ⟨hne2, hk2⟩
   ·rcases set_at hv' with ⟨_, rfl⟩ | ⟨hne3, _⟩
    ·refine ⟨?_, hfit, hwf⟩
     show (d.rows.set k' _)[k']? = _
     rw [List.getElem?_set, if_pos rfl, if_pos hkl]
    ·exact absurd rfl hne3
   ·obtain ⟨h1, h3⟩ := h.at_ k' i' q v' x' d hk2 hv' hx hd
    refine ⟨?_, h3⟩
    show (d.rows.set k _)[k']? = _
    rw [List.getElem?_set, if_neg (fun e => hne2 e.symm)]
    exact h1
  ·rcases set_at hk' with ⟨rfl, rfl⟩ | ⟨hne2, hk2⟩
   ·rcases set_at hv' with ⟨rfl, _⟩ | ⟨_, hv2⟩
    ·exact absurd rfl hne
    ·exact h.at_ k' i' r v' x' d' hk hv2 hx2 hd2
   ·exact h.at_ k' i' q v' x' d' hk2 hv' hx2 hd2
end Go.Proofs.YtgebbmfoamkfnaaGreatDoor
namespace Go.Proofs.YtgebbmfoamkfnaaGreatDoor
open Go.RowKit
set_option linter.unusedVariables false
section
variable {B : Nat} {w : World} {t : TD} {V : List (List (List WI))}
theorem TDeed.refl (h : TabIn B w t) {w' : World} (hb : Below w.heap.size w w') : TDeed B t t w w' := ⟨h.below hb, rfl, rfl, rfl, rfl, rfl, Out.of hb, fun _ => .inl⟩
theorem tabAdd_deed (h : TabIn B w t) (hV : Vals t V) (e : Int) (ps : List PW) (pa : Option Addr) (pl pc : Nat) (hps : ∀ w', Out t.cfoot w w' → PartsAt w'.heap.size w' pa pl pc ps) (hl : pl ≤ 100000) (herr : addErr t e ps = 0)
  (hfit : ∀ x ∈ t.cps, ∃ p, partOf ps x.c.id = some p ∧ fitF x.c.fields p.val = 0 ∧ ∀ y ∈ p.val, y.wf) :
  Calls Tryz.prog 53 #[.pointer (some ⟨t.tb, 0, none⟩), .int .u64 e, .slice pa pl pc] w fun en w' => en = .returned (.tuple #[.int .i64 (t.ents.length : Int), .int .i64 0]) ∧ ∃ t', TDeed B t t' w w' ∧ t'.ents = t.ents ++ [e] ∧ t'.kept = t.kept ∧ t'.cps = t.cps ∧ Vals t' (V ++ [addRow ps t]) := by
 refine (tabAdd_ok h e ps pa pl pc hps hl herr).mono ?_
 rintro en w' ⟨rfl, ea, ec, D, hT, hG, hO, hF⟩
 exact ⟨rfl, _, ⟨hT, rfl, rfl, rfl, rfl, rfl, hO, hF⟩, rfl, rfl, rfl, hV.add h hfit hG⟩
theorem Vals.kept (hV : Vals t V) (k : Nat) : Vals { t with kept := k } V := ⟨hV.len, hV.row, hV.at_⟩
end
end Go.Proofs.YtgebbmfoamkfnaaGreatDoor
namespace Go.Proofs.YtgebbmfoamkfnaaGreatDoor
open Go.RowKit
set_option linter.unusedVariables false
theorem hasB_bit {s n : Nat} (hs : s < 4294967296) (h1 : 1 ≤ n) (h2 : n ≤ 24) : hasB (s : Int) (n : Int) = s.testBit n := by
 have hd : s / 2 ^ n < 4294967296 := by
  have := Nat.div_le_self s (2 ^ n)
  omega
 unfold hasB
 rw [idB_true (by omega) (by omega), Bool.true_and, Int.toNat_natCast]
 have e : ((s : Int) / 2 ^ n) = ((s / 2 ^ n : Nat) : Int) := by simp
 rw [e, show (1 : Int) = ((1 : Nat) : Int) from rfl, u32_and_nat _ _ hd (by omega)]
 rw [Nat.testBit_eq_decide_div_mod_eq, Nat.and_one_is_mod]
 by_cases hh : s / 2 ^ n % 2 = 1
 ·rw [hh]; simp
 ·simp [hh]; omega
theorem pow_small {n : Nat} (h2 : n ≤ 24) : 2 ^ n < 4294967296 := by
 have : 2 ^ n ≤ 2 ^ 24 := Nat.pow_le_pow_right (by omega) h2
 omega
theorem sWith_nat {s n : Nat} (hs : s < 4294967296) (h1 : 1 ≤ n) (h2 : n ≤ 24) : sWith (s : Int) (n : Int) = ((s ||| 2 ^ n : Nat) : Int) := by
 have hp := pow_small h2
 unfold sWith
 rw [idB_true (by omega) (by omega), Int.toNat_natCast]
 have e : ((2 : Int) ^ n % 4294967296) = ((2 ^ n : Nat) : Int) := by
  have : ((2 : Int) ^ n) = ((2 ^ n : Nat) : Int) := by simp
  have hq : ((2 ^ n : Nat) : Int) < 4294967296 := by have := Int.ofNat_lt.2 hp; exact this
  rw [this]; exact Int.emod_eq_of_lt (Int.natCast_nonneg _) hq
 rw [e]
 simp only [if_true]
 exact u32_or_nat _ _ hs hp
theorem sWithout_nat {s n : Nat} (hs : s < 4294967296) (h1 : 1 ≤ n) (h2 : n ≤ 24) : sWithout (s : Int) (n : Int) = ((s &&& (4294967295 - 2 ^ n) : Nat) : Int) := by
 have hp := pow_small h2
 unfold sWithout
 rw [idB_true (by omega) (by omega), Int.toNat_natCast]
 have e : ((2 : Int) ^ n % 4294967296) = ((2 ^ n : Nat) : Int) := by
  have : ((2 : Int) ^ n) = ((2 ^ n : Nat) : Int) := by simp
  have hq : ((2 ^ n : Nat) : Int) < 4294967296 := by have := Int.ofNat_lt.2 hp; exact this
  rw [this]; exact Int.emod_eq_of_lt (Int.natCast_nonneg _) hq
 rw [e]
 simp only [if_true]
 exact u32_andNot_nat _ _ hs hp
theorem bit_or {s n : Nat} : (s ||| 2 ^ n).testBit n = true := by simp [Nat.testBit_or]
theorem bit_not (n i : Nat) (h2 : n ≤ 24) : (4294967295 - 2 ^ n).testBit i = (decide (i < 32) && !decide (n = i)) := by
 have := Nat.testBit_two_pow_sub_succ (x := 2 ^ n) (n := 32) (pow_small h2) i
 rw [show 2 ^ 32 - (2 ^ n + 1) = 4294967295 - 2 ^ n by omega] at this
 rw [this, Nat.testBit_two_pow]
theorem bit_high {s i : Nat} (hs : s < 4294967296) (hi : 32 ≤ i) : s.testBit i = false :=
 Nat.testBit_lt_two_pow (Nat.lt_of_lt_of_le hs (by have := Nat.pow_le_pow_right (n := 2) (by omega) hi; omega))
def upd (s c : Int) (b : Bool) : Int := if b then sWith s c else sWithout s c
theorem upd_bd {s c : Int} {b : Bool} (h0 : 0 ≤ s) (h1 : s ≤ 4294967295) : 0 ≤ upd s c b ∧ upd s c b ≤ 4294967295 := by
 unfold upd; split
 ·exact sWith_bd h0 h1
 ·exact sWithout_bd h0 h1
theorem id_nat {c : Int} (h : idB c = true) : ∃ n : Nat, c = n ∧ 1 ≤ n ∧ n ≤ 24 := by
 simp [idB] at h
 exact ⟨c.toNat, by omega, by omega, by omega⟩
theorem hasB_upd {s c : Int} (b : Bool) (h0 : 0 ≤ s) (h1 : s ≤ 4294967295) (hc : idB c = true) : hasB (upd s c b) c = b := by
 obtain ⟨n, rfl, g1, g2⟩ := id_nat hc
 obtain ⟨s, rfl⟩ := Int.eq_ofNat_of_zero_le h0
 have hs : s < 4294967296 := by omega
 have hp := pow_small g2
 cases b
 ·simp only [upd, Bool.false_eq_true, if_false]
  rw [sWithout_nat hs g1 g2, hasB_bit (Nat.lt_of_le_of_lt Nat.and_le_left hs) g1 g2, Nat.testBit_and, bit_not n n g2]
  simp
 ·simp only [upd, if_true]
  rw [sWith_nat hs g1 g2, hasB_bit (by have := Nat.or_lt_two_pow (n := 32) hs hp; omega) g1 g2]
  exact bit_or
theorem upd_back {s c : Int} {b : Bool} (h0 : 0 ≤ s) (h1 : s ≤ 4294967295) (hc : idB c = true) (hh : hasB s c = !b) : upd (upd s c b) c (!b) = s := by
 obtain ⟨n, rfl, g1, g2⟩ := id_nat hc
 obtain ⟨s, rfl⟩ := Int.eq_ofNat_of_zero_le h0
 have hs : s < 4294967296 := by omega
 have hp := pow_small g2
 rw [hasB_bit hs g1 g2] at hh
 cases b
 ·simp only [upd, Bool.false_eq_true, if_false, Bool.not_false, if_true]
  rw [sWithout_nat hs g1 g2, sWith_nat (Nat.lt_of_le_of_lt Nat.and_le_left hs) g1 g2]
  congr 1
  apply Nat.eq_of_testBit_eq
  intro i
  rw [Nat.testBit_or, Nat.testBit_and, bit_not n i g2, Nat.testBit_two_pow]
  by_cases e : n = i
  ·subst e; simp [hh]
  ·by_cases hi : i < 32
   ·simp [e, hi]
   ·have hbh := bit_high hs (Nat.le_of_not_lt hi)
    simp [e, hi, hbh]
 ·simp only [upd, Bool.not_true, Bool.false_eq_true, if_false, if_true]
  rw [sWith_nat hs g1 g2, sWithout_nat (by have := Nat.or_lt_two_pow (n := 32) hs hp; omega) g1 g2]
  congr 1
  apply Nat.eq_of_testBit_eq
  intro i
  rw [Nat.testBit_and, Nat.testBit_or, bit_not n i g2, Nat.testBit_two_pow]
  by_cases e : n = i
  ·subst e; simp [hh]
  ·by_cases hi : i < 32
   ·simp [e, hi]
   ·have hbh := bit_high hs (Nat.le_of_not_lt hi)
    simp [e, hi, hbh]
theorem upd_set {s c : Int} {b : Bool} (h0 : 0 ≤ s) (h1 : s ≤ 4294967295) (hc : idB c = true) (hh : hasB s c = !b) : (if b then sWith (sWithout s c) c else sWithout s c) = upd s c b := by
 cases b
 ·rfl
 ·simp only [if_true, upd]
  have hw : sWithout s c = s := by
   obtain ⟨n, rfl, g1, g2⟩ := id_nat hc
   obtain ⟨s, rfl⟩ := Int.eq_ofNat_of_zero_le h0
   have hs : s < 4294967296 := by omega
   rw [hasB_bit hs g1 g2] at hh
   rw [sWithout_nat hs g1 g2]
   congr 1
   apply Nat.eq_of_testBit_eq
   intro i
   rw [Nat.testBit_and, bit_not n i g2]
   by_cases e : n = i
   ·subst e; simp [hh]
   ·by_cases hi : i < 32
    ·simp [e, hi]
    ·have hbh := bit_high hs (Nat.le_of_not_lt hi)
     simp [e, hi, hbh]
  rw [hw]
structure Inv (g : GS) : Prop where
 nd : ∀ (i : Nat) (s : Int), g.sigs[i]? = some s → posOf s g.sigs = some i
 ids : ∀ c, (findC c g.cs).isSome = true → idB c = true
 bd : ∀ (i : Nat) (s : Int), g.sigs[i]? = some s → 0 ≤ s ∧ s ≤ 4294967295
 wy : ∀ (i c : Int) (b : Bool) (n : Nat), g.ways (i, c, b) = some n → 0 ≤ i ∧ (findC c g.cs).isSome = true ∧ (∃ s, g.sigs[i.toNat]? = some s ∧ hasB s c = (!b) ∧ g.sigs[n]? = some (upd s c b)) ∧ g.ways (n, c, !b) = some i.toNat
theorem sigs_len (g : GS) : g.sigs.length = g.ts.length := by simp [GS.sigs]
theorem Inv.made {g : GS} (h : Inv g) {set : Int} (h0 : 0 ≤ set) (h1 : set ≤ 4294967295) (tb : Nat) : Inv (makeG g set tb).1 ∧ ∀ (i : Nat) (s : Int), g.sigs[i]? = some s → (makeG g set tb).1.sigs[i]? = some s := by
 cases hp : posOf set g.sigs with
 | some i => rw [makeG_has hp]; exact ⟨h, fun _ _ h => h⟩
 | none =>
  by_cases hk : tableOk g.ver g.cs set g.rows = true
  ·by_cases hf : g.archs = g.ts.length
   ·rw [makeG_full hp hk hf]; exact ⟨h, fun _ _ h => h⟩
   ·rw [makeG_new hp hk hf]
    have hs : ({ g with ts := g.ts ++ [(tb, set)] } : GS).sigs = g.sigs ++ [set] := by simp [GS.sigs]
    have pre : ∀ (i : Nat) (s : Int), g.sigs[i]? = some s → (g.sigs ++ [set])[i]? = some s := by
     intro i s hi
     rw [List.getElem?_append_left (List.getElem?_eq_some_iff.1 hi).1]; exact hi
    have cas : ∀ (i : Nat) (s : Int), (g.sigs ++ [set])[i]? = some s → g.sigs[i]? = some s ∨ (i = g.sigs.length ∧ s = set) := by
     intro i s hi
     by_cases hl : i < g.sigs.length
     ·rw [List.getElem?_append_left hl] at hi; exact .inl hi
     ·have := (List.getElem?_eq_some_iff.1 hi).1
      simp at this
      obtain rfl : i = g.sigs.length := by omega
      simp at hi
      exact .inr ⟨rfl, hi.symm⟩
    refine ⟨⟨?_, h.ids, ?_, ?_⟩, ?_⟩
    ·intro i s hi
     rw [hs] at hi ⊢
     rw [posOf_snoc]
     rcases cas i s hi with h2 | ⟨rfl, rfl⟩
     ·rw [h.nd i s h2]
     ·rw [hp]; simp
    ·intro i s hi
     rw [hs] at hi
     rcases cas i s hi with h2 | ⟨rfl, rfl⟩
     ·exact h.bd i s h2
     ·exact ⟨h0, h1⟩
    ·intro i c b n hw
     obtain ⟨a1, a2, ⟨s, a3, a4, a5⟩, a6⟩ := h.wy i c b n hw
     exact ⟨a1, a2, ⟨s, by rw [hs]; exact pre _ _ a3, a4, by rw [hs]; exact pre _ _ a5⟩, a6⟩
    ·intro i s hi
     show ({ g with ts := g.ts ++ [(tb, set)] } : GS).sigs[i]? = some s
     rw [hs]; exact pre i s hi
  ·rw [makeG_no hp (by simpa using hk)]; exact ⟨h, fun _ _ h => h⟩
theorem chk_ok {g : GS} {i c : Int} {b : Bool} (h : chkF g i c b = 0) : 0 ≤ i ∧ (∃ s, g.sigs[i.toNat]? = some s ∧ g.sigs.getD i.toNat 0 = s ∧ hasB s c = !b) ∧ (findC c g.cs).isSome = true := by
 unfold chkF at h
 split at h
 ·simp at h
 ·rename_i h1
  split at h
  ·simp at h
  ·rename_i h2
   split at h
   ·simp at h
   ·rename_i h3
    have hl : i.toNat < g.sigs.length := by rw [sigs_len]; omega
    refine ⟨by omega, ⟨g.sigs[i.toNat], List.getElem?_eq_getElem hl, by simp [List.getD, List.getElem?_eq_getElem hl], ?_⟩, by cases hf : (findC c g.cs).isSome <;> simp_all⟩
    simp [List.getD, List.getElem?_eq_getElem hl] at h3
    cases b <;> simp_all
structure Gone (g g' : GS) (i c : Int) (b : Bool) (n : Nat) : Prop where
 known : g'.ways (i, c, b) = some n
 frm : ∃ s, g.sigs[i.toNat]? = some s ∧ g'.sigs[n]? = some (upd s c b)
 lo : 0 ≤ i
theorem Inv.step {g : GS} (h : Inv g) (i c : Int) (b : Bool) (tb : Nat) :
  Inv (stepG g i c b tb).1 ∧ ((stepG g i c b tb).2.2 = 0 → ∃ n : Nat, (stepG g i c b tb).2.1 = n ∧ Gone g (stepG g i c b tb).1 i c b n) := by
 by_cases hck : chkF g i c b = 0
 ·obtain ⟨c1, ⟨s, c2, c3, c4⟩, c5⟩ := chk_ok hck
  have hid := h.ids c c5
  have hsb := h.bd _ _ c2
  cases hw : g.ways (i, c, b) with
  | some n =>
   rw [stepG_has hck hw]
   refine ⟨h, fun _ => ⟨n, rfl, hw, ?_, c1⟩⟩
   obtain ⟨a1, a2, ⟨s', a3, a4, a5⟩, a6⟩ := h.wy i c b n hw
   exact ⟨s', a3, a5⟩
  | none =>
   have hset : stepSet g i c b = upd s c b := by
    unfold stepSet; rw [c3]; exact upd_set hsb.1 hsb.2 hid c4
   have hub := upd_bd (c := c) (b := b) hsb.1 hsb.2
   by_cases he : (makeG g (stepSet g i c b) tb).2.2 = 0
   ·rw [stepG_new hck hw tb he]
    obtain ⟨n, m1, m2, m3, m4, m5, m6, m7⟩ := makeG_ok he
    rw [hset] at m1 m2 m3 m4 m5 m6 m7 ⊢
    obtain ⟨hM, hpre⟩ := h.made hub.1 hub.2 tb
    generalize makeG g (upd s c b) tb = M at m1 m2 m3 m4 m5 m6 m7 hM hpre ⊢
    rw [m1]
    simp only [Int.toNat_natCast]
    have hhu := hasB_upd b hsb.1 hsb.2 hid
    have hbk := upd_back hsb.1 hsb.2 hid c4
    have hne : ((i, c, b) : Int × Int × Bool) ≠ ((n : Int), c, !b) := by
     intro e
     simp at e
    have hi2 : M.1.sigs[i.toNat]? = some s := hpre _ _ c2
    refine ⟨⟨hM.nd, hM.ids, hM.bd, ?_⟩, fun _ => ⟨n, rfl, ?_, ⟨s, c2, m6⟩, c1⟩⟩
    ·intro i' c' b' n' hy
     simp only [putW] at hy ⊢
     by_cases e1 : ((i', c', b') : Int × Int × Bool) = ((n : Int), c, !b)
     ·rw [if_pos e1] at hy
      simp only [Prod.mk.injEq] at e1
      obtain ⟨rfl, rfl, rfl⟩ := e1
      cases hy
      refine ⟨by omega, by show (findC c' M.1.cs).isSome = true; rw [m5]; exact c5, ⟨upd s c' b, by rw [Int.toNat_natCast]; exact m6, by rw [hhu]; simp, by rw [hbk]; exact hi2⟩, ?_⟩
      have e2 : ((i.toNat : Int), c', !!b) = (i, c', b) := by simp; omega
      rw [e2, if_neg hne, if_pos rfl]
      simp
     ·rw [if_neg e1] at hy
      by_cases e2 : ((i', c', b') : Int × Int × Bool) = (i, c, b)
      ·rw [if_pos e2] at hy
       simp only [Prod.mk.injEq] at e2
       obtain ⟨rfl, rfl, rfl⟩ := e2
       cases hy
       refine ⟨c1, by show (findC c' M.1.cs).isSome = true; rw [m5]; exact c5, ⟨s, hi2, c4, m6⟩, ?_⟩
       rw [if_pos rfl]
      ·rw [if_neg e2] at hy
       obtain ⟨a1, a2, ⟨s', a3, a4, a5⟩, a6⟩ := h.wy i' c' b' n' hy
       refine ⟨a1, by show (findC c' M.1.cs).isSome = true; rw [m5]; exact a2, ⟨s', hpre _ _ a3, a4, hpre _ _ a5⟩, ?_⟩
       by_cases e3 : (((n' : Int), c', !b') : Int × Int × Bool) = ((n : Int), c, !b)
       ·simp only [Prod.mk.injEq] at e3
        obtain ⟨f1, rfl, f3⟩ := e3
        obtain rfl : n' = n := by omega
        obtain rfl : b' = b := by cases b <;> cases b' <;> simp_all
        have hs' := hpre _ _ a5
        rw [m6] at hs'
        have hbd' := h.bd _ _ a3
        have hbk' := upd_back hbd'.1 hbd'.2 hid a4
        rw [← Option.some.inj hs', hbk] at hbk'
        subst hbk'
        have q1 := h.nd _ _ a3
        have q2 := h.nd _ _ c2
        rw [q1] at q2
        have := Option.some.inj q2
        exact absurd (show (i', c', b') = (i, c', b') by simp; omega) e2
       ·rw [if_neg e3]
        by_cases e4 : (((n' : Int), c', !b') : Int × Int × Bool) = (i, c, b)
        ·rw [e4] at a6; rw [hw] at a6; cases a6
        ·rw [if_neg e4]; exact a6
    ·show putW _ _ _ _ = _
     unfold putW
     rw [if_neg hne, if_pos rfl]
   ·rw [stepG_err hck hw tb he]
    exact ⟨h, fun e => absurd e he⟩
 ·rw [stepG_chk hck]
  exact ⟨h, fun e => absurd e hck⟩
theorem compsGo_ids : ∀ (cs : List Cmp) (last : Int) (seen : List (List UInt8)), 0 ≤ last → compsGo last seen cs = 0 → ∀ c ∈ cs, 1 ≤ c.id ∧ c.id ≤ 24
 | [], _, _, _, _, c, hc => by cases hc
 | x :: r, last, seen, hl, h, c, hc => by
  unfold compsGo at h
  split at h
  ·simp at h
  ·split at h
   ·simp at h
   ·split at h
    ·contradiction
    ·rcases List.mem_cons.1 hc with rfl | hc
     ·omega
     ·exact compsGo_ids r _ _ (by omega) h c hc
theorem inv_new {ver archs rows : Int} {cs : List Cmp} (h : newOk ver cs archs rows = true) : Inv (GS0 ver cs archs rows) := by
 refine ⟨fun i s hs => by simp [GS0, GS.sigs] at hs, fun c hc => ?_, fun i s hs => by simp [GS0, GS.sigs] at hs, fun i c b n hw => by simp [GS0] at hw⟩
 have hk : schemaCheck ver cs = 0 := by
  unfold newOk at h
  simp at h
  exact h.1.1.1.1
 unfold schemaCheck at hk
 split at hk
 ·simp at hk
 ·obtain ⟨x, hx⟩ := Option.isSome_iff_exists.1 hc
  have hm : x ∈ cs := List.mem_of_find?_eq_some hx
  have he := List.find?_some hx
  simp at he
  have := compsGo_ids cs 0 [] (by omega) hk x hm
  exact idB_true (by omega) (by omega)
end Go.Proofs.YtgebbmfoamkfnaaGreatDoor
namespace Go.Proofs.YtgebbmfoamkfnaaGreatDoor
set_option linter.unusedVariables false
def at0 (l : List Int) (k : Nat) : Int := l.getD k 0
theorem at0_some {l : List Int} {k : Nat} {x : Int} (h : l[k]? = some x) : at0 l k = x := by
 unfold at0; rw [List.getD_eq_getElem?_getD, h]; rfl
theorem at0_get {l : List Int} {k : Nat} (h : k < l.length) : l[k]? = some (at0 l k) := by
 unfold at0; rw [List.getD_eq_getElem?_getD, List.getElem?_eq_getElem h]; rfl
def swapL (l : List Int) (i j : Nat) : List Int := (l.set i (at0 l j)).set j (at0 l i)
theorem swapL_len (l : List Int) (i j : Nat) : (swapL l i j).length = l.length := by unfold swapL; simp
theorem swapL_at {l : List Int} {i j : Nat} (hi : i < l.length) (hj : j < l.length) (k : Nat) : at0 (swapL l i j) k = if k = j then at0 l i else if k = i then at0 l j else at0 l k := by
 unfold swapL at0
 simp only [List.getD_eq_getElem?_getD, List.getElem?_set, List.length_set]
 by_cases h1 : k = j
 ·subst h1; simp [hj]
 ·rw [if_neg (fun e => h1 e.symm), if_neg h1]
  by_cases h2 : k = i
  ·subst h2; simp [hi]
  ·rw [if_neg (fun e => h2 e.symm), if_neg h2]
theorem swapL_perm {l : List Int} {i j : Nat} (hi : i < l.length) (hj : j < l.length) : (swapL l i j).Perm l := by
 unfold swapL
 have h1 : at0 l j = l[j] := by unfold at0; rw [List.getD_eq_getElem?_getD, List.getElem?_eq_getElem hj]; rfl
 have h2 : at0 l i = l[i] := by unfold at0; rw [List.getD_eq_getElem?_getD, List.getElem?_eq_getElem hi]; rfl
 rw [h1, h2]
 exact List.set_set_perm hi hj
def HeapN (l : List Int) (n : Nat) : Prop := ∀ k, 1 ≤ k → k < n → at0 l ((k - 1) / 2) ≤ at0 l k
structure DownN (l : List Int) (n i : Nat) : Prop where
 rest : ∀ k, 1 ≤ k → k < n → (k - 1) / 2 ≠ i → at0 l ((k - 1) / 2) ≤ at0 l k
 over : ∀ k, 1 ≤ k → k < n → (k - 1) / 2 = i → 1 ≤ i → at0 l ((i - 1) / 2) ≤ at0 l k
structure UpN (l : List Int) (n j : Nat) : Prop where
 rest : ∀ k, 1 ≤ k → k < n → k ≠ j → at0 l ((k - 1) / 2) ≤ at0 l k
 over : ∀ k, 1 ≤ k → k < n → (k - 1) / 2 = j → 1 ≤ j → at0 l ((j - 1) / 2) ≤ at0 l k
theorem HeapN.down {l : List Int} {n : Nat} (h : HeapN l n) (i : Nat) : DownN l n i :=
 ⟨fun k h1 h2 _ => h k h1 h2, fun k h1 h2 h3 h4 => by
  have a := h k h1 h2
  rw [h3] at a
  have b := h i h4 (by omega)
  omega⟩
theorem DownN.leaf {l : List Int} {n i : Nat} (h : DownN l n i) (hi : n ≤ 2 * i + 1) : HeapN l n := fun k h1 h2 => h.rest k h1 h2 (by omega)
theorem DownN.stop {l : List Int} {n i j : Nat} (h : DownN l n i) (hj : at0 l i ≤ at0 l j) (hm : ∀ k, 1 ≤ k → k < n → (k - 1) / 2 = i → at0 l j ≤ at0 l k) : HeapN l n := fun k h1 h2 => by
 by_cases e : (k - 1) / 2 = i
 ·rw [e]; have := hm k h1 h2 e; omega
 ·exact h.rest k h1 h2 e
theorem DownN.step {l : List Int} {n i j : Nat} (h : DownN l n i) (hn : n ≤ l.length) (hj1 : 1 ≤ j) (hjn : j < n) (hji : (j - 1) / 2 = i) (hlt : at0 l j < at0 l i) (hm : ∀ k, 1 ≤ k → k < n → (k - 1) / 2 = i → at0 l j ≤ at0 l k) : DownN (swapL l i j) n j := by
 have hi : i < l.length := by omega
 have hjl : j < l.length := by omega
 have hij : i ≠ j := by omega
 refine ⟨fun k h1 h2 h3 => ?_, fun k h1 h2 h3 h4 => ?_⟩
 ·rw [swapL_at hi hjl, swapL_at hi hjl, if_neg h3]
  by_cases e1 : (k - 1) / 2 = i
  ·rw [if_pos e1]
   by_cases e2 : k = j
   ·rw [if_pos e2]; omega
   ·rw [if_neg e2, if_neg (by omega)]
    exact hm k h1 h2 e1
  ·rw [if_neg e1, if_neg (by intro e; subst e; exact e1 hji)]
   by_cases e2 : k = i
   ·subst e2
    rw [if_pos rfl]
    exact h.over j hj1 hjn hji h1
   ·rw [if_neg e2]
    exact h.rest k h1 h2 e1
 ·rw [swapL_at hi hjl, swapL_at hi hjl, hji, if_neg hij, if_pos rfl, if_neg (by omega), if_neg (by omega)]
  have := h.rest k h1 h2 (by omega)
  rw [h3] at this
  exact this
theorem UpN.stop {l : List Int} {n j : Nat} (h : UpN l n j) (hj : j = 0 ∨ at0 l ((j - 1) / 2) ≤ at0 l j) : HeapN l n := fun k h1 h2 => by
 by_cases e : k = j
 ·subst e
  rcases hj with hj | hj
  ·omega
  ·exact hj
 ·exact h.rest k h1 h2 e
theorem UpN.step {l : List Int} {n i j : Nat} (h : UpN l n j) (hn : n ≤ l.length) (hj1 : 1 ≤ j) (hjn : j < n) (hij : i = (j - 1) / 2) (hlt : at0 l j < at0 l i) : UpN (swapL l i j) n i := by
 subst hij
 have hi : (j - 1) / 2 < l.length := by omega
 have hjl : j < l.length := by omega
 refine ⟨fun k h1 h2 h3 => ?_, fun k h1 h2 h3 h4 => ?_⟩
 ·rw [swapL_at hi hjl, swapL_at hi hjl]
  by_cases e2 : k = j
  ·subst e2
   rw [if_pos rfl, if_neg (by omega), if_pos rfl]; omega
  ·rw [if_neg e2, if_neg h3]
   by_cases e1 : (k - 1) / 2 = j
   ·rw [if_pos e1]
    exact h.over k h1 h2 e1 hj1
   ·rw [if_neg e1]
    by_cases e3 : (k - 1) / 2 = (j - 1) / 2
    ·rw [if_pos e3]
     have := h.rest k h1 h2 e2
     rw [e3] at this
     omega
    ·rw [if_neg e3]; exact h.rest k h1 h2 e2
 ·rw [swapL_at hi hjl, swapL_at hi hjl, if_neg (by omega), if_neg (by omega)]
  have hp := h.rest ((j - 1) / 2) h4 (by omega) (by omega)
  by_cases e : k = j
  ·rw [if_pos e]; exact hp
  ·rw [if_neg e, if_neg (by omega)]
   have := h.rest k h1 h2 e
   rw [h3] at this
   omega
theorem HeapN.least {l : List Int} {n : Nat} (h : HeapN l n) : ∀ k, k < n → at0 l 0 ≤ at0 l k := by
 intro k
 induction k using Nat.strongRecOn with
 | _ k ih =>
  intro hk
  rcases Nat.eq_zero_or_pos k with rfl | h0
  ·exact Int.le_refl _
  ·have a := ih ((k - 1) / 2) (by omega) (by omega)
   have b := h k h0 hk
   omega
theorem HeapN.of_take {l : List Int} {n m : Nat} (h : HeapN l n) (hm : m ≤ n) : HeapN (l.take m) m := fun k h1 h2 => by
 have := h k h1 (by omega)
 unfold at0 at *
 rw [List.getD_eq_getElem?_getD, List.getD_eq_getElem?_getD] at *
 rw [List.getElem?_take_of_lt (by omega), List.getElem?_take_of_lt h2]
 exact this
theorem HeapN.snoc {l : List Int} (h : HeapN l l.length) (x : Int) : UpN (l ++ [x]) (l.length + 1) l.length := by
 have e : ∀ k, k < l.length → at0 (l ++ [x]) k = at0 l k := fun k hk => by
  unfold at0
  rw [List.getD_eq_getElem?_getD, List.getD_eq_getElem?_getD, List.getElem?_append_left hk]
 exact ⟨fun k h1 h2 h3 => by rw [e _ (by omega), e _ (by omega)]; exact h k h1 (by omega), fun k h1 h2 h3 h4 => by omega⟩
theorem HeapN.swapped {l : List Int} {m : Nat} (h : HeapN l (m + 1)) (hl : l.length = m + 1) : DownN (swapL l 0 m) m 0 := by
 refine ⟨fun k h1 h2 h3 => ?_, fun k h1 h2 h3 h4 => by omega⟩
 rw [swapL_at (by omega) (by omega), swapL_at (by omega) (by omega), if_neg (by omega), if_neg h3, if_neg (by omega), if_neg (by omega)]
 exact h k h1 (by omega)
end Go.Proofs.YtgebbmfoamkfnaaGreatDoor
