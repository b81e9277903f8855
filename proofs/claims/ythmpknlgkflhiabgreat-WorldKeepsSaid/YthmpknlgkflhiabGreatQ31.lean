/- Plain: sets are what they hold; rows as parts, and back. · A world: its memory, who is where, and what that comes to. · What each of a world's calls answers, and leaves: plain. · The queue of free ids: its methods. · The queue's ends; the heap: down, up, Pop, Push. -/
import Derived.Test.YthmpknlgkflhiabGreatQ30
import Derived.Test.YthmpknlgkflhiabGreatQ29
import Derived.WalkKit
import Derived.BigQuiet
import Derived.Deep.QuietTactic
import Derived.Deep.DeepCutAuto
import Derived.Test.YthmpknlgkflhiabGreatQ12
import Derived.Deep.AppendLies
import Derived.Deep.RegionLaw
namespace Go.Proofs.YthmpknlgkflhiabGreat
open Go.RowKit
set_option linter.unusedVariables false
theorem mask_in : ∀ i, i < 32 → (4261412865 : Nat).testBit i = !decide (1 ≤ i ∧ i ≤ 24) := by decide
theorem has_without {s c n : Int} (h0 : 0 ≤ s) (h1 : s ≤ 4294967295) (hc : idB c = true) (hn : idB n = true) : hasB (sWithout s c) n = (hasB s n && decide (n ≠ c)) := by
 obtain ⟨x, rfl⟩ := Int.eq_ofNat_of_zero_le h0
 obtain ⟨c, rfl, c1, c2⟩ := idNat hc
 obtain ⟨n, rfl, n1, n2⟩ := idNat hn
 have hx : x < 4294967296 := by omega
 rw [sWithout_nat hx c1 c2, hasBit (Nat.lt_of_le_of_lt Nat.and_le_left hx) n1 n2, hasBit hx n1 n2, Nat.testBit_and, bit_not c n c2]
 congr 1
 have h3 : n < 32 := by omega
 by_cases h : c = n
 ·simp [h]
 ·have h2 : ¬ (n : Int) = c := by omega
  simp [h, h2, h3]
theorem hasB_id {s n : Int} (h : hasB s n = true) : idB n = true := by
 unfold hasB at h
 rw [Bool.and_eq_true] at h
 exact h.1
theorem set_ext {s t : Int} (s0 : 0 ≤ s) (s1 : s ≤ 4294967295) (t0 : 0 ≤ t) (t1 : t ≤ 4294967295) (hs : sIs s = true) (ht : sIs t = true) (h : ∀ n, idB n = true → hasB s n = hasB t n) : s = t := by
 obtain ⟨x, rfl⟩ := Int.eq_ofNat_of_zero_le s0
 obtain ⟨y, rfl⟩ := Int.eq_ofNat_of_zero_le t0
 have hx : x < 4294967296 := by omega
 have hy : y < 4294967296 := by omega
 rw [sIs_w hx, beq_iff_eq] at hs
 rw [sIs_w hy, beq_iff_eq] at ht
 congr 1
 apply Nat.eq_of_testBit_eq
 intro i
 by_cases hi : i < 32
 ·by_cases hid : 1 ≤ i ∧ i ≤ 24
  ·have := h i (idB_true (by omega) (by omega))
   rw [hasBit hx hid.1 hid.2, hasBit hy hid.1 hid.2] at this
   exact this
  ·have a : (x &&& 4261412865).testBit i = false := by rw [hs]; simp
   have b : (y &&& 4261412865).testBit i = false := by rw [ht]; simp
   rw [Nat.testBit_and, mask_in i hi] at a b
   simp only [hid, decide_false, Bool.not_false, Bool.and_true] at a b
   rw [a, b]
 ·rw [bit_high hx (by omega), bit_high hy (by omega)]
theorem ids_all (s : Int) : (idsTo s 24).all idB = true := by
 rw [List.all_eq_true]
 intro x hx
 exact (idsTo_mem hx).2
theorem mem_ids {s n : Int} : n ∈ idsTo s 24 ↔ hasB s n = true := by
 constructor
 ·exact fun h => (idsTo_mem h).1
 ·intro h
  obtain ⟨k, rfl, n1, n2⟩ := idNat (hasB_id h)
  unfold idsTo
  rw [List.mem_filter]
  exact ⟨List.mem_map.2 ⟨k - 1, List.mem_range.2 (by omega), by omega⟩, h⟩
theorem fold_of {s : Int} (s0 : 0 ≤ s) (s1 : s ≤ 4294967295) (hs : sIs s = true) {ids : List Int} (ha : ids.all idB = true) (hm : ∀ n, idB n = true → (n ∈ ids ↔ hasB s n = true)) : foldS ids = s := by
 obtain ⟨a, b⟩ := foldS_bd ids
 refine set_ext a b s0 s1 (sIs_fold _ ha) hs fun n hn => ?_
 rw [has_fold hn _ ha]
 have := hm n hn
 cases hh : hasB s n with
 | true => rw [hh] at this; simpa using this
 | false => rw [hh] at this; simpa using this
def valAt (l : List (Int × List WI)) (i : Int) : List WI := match l.find? (fun p => decide (p.1 = i)) with | some p => p.2 | none => []
def cvOf (s : Int) (r : List (List WI)) : List (Int × List WI) := (idsTo s 24).zip r
def rowOfC (l : List (Int × List WI)) (s : Int) : List (List WI) := (idsTo s 24).map (valAt l)
theorem valsOf_cv (ps : List PW) (s : Int) : valsOf ps s = rowOfC (cv ps) s := by
 unfold valsOf rowOfC
 apply List.map_congr_left
 intro i _
 unfold valAt partOf cv
 rw [List.find?_map]
 have : ((fun p : Int × List WI => decide (p.1 = i)) ∘ fun p : PW => (p.comp, p.val)) = fun c => decide (c.comp = i) := rfl
 rw [this]
 cases ps.find? (fun c => decide (c.comp = i)) <;> rfl
theorem rowOfC_len (l : List (Int × List WI)) (s : Int) : (rowOfC l s).length = (idsTo s 24).length := by unfold rowOfC; simp
theorem valAt_zip {ids : List Int} (hn : ids.Nodup) : ∀ (r : List (List WI)), r.length = ids.length → ids.map (valAt (ids.zip r)) = r := by
 induction ids with
 | nil => intro r h; simp at h; subst h; rfl
 | cons x l ih =>
  intro r h
  cases r with
  | nil => simp at h
  | cons v m =>
   rw [List.nodup_cons] at hn
   rw [List.map_cons, List.zip_cons_cons]
   have h1 : valAt ((x, v) :: l.zip m) x = v := by simp [valAt]
   rw [h1]
   congr 1
   refine Eq.trans (List.map_congr_left fun i hi => ?_) (ih hn.2 m (by simpa using h))
   have hne : ¬ x = i := fun e => hn.1 (e ▸ hi)
   unfold valAt
   rw [List.find?_cons]
   simp only [hne, decide_false]
theorem row_back {s : Int} {r : List (List WI)} (h : r.length = (idsTo s 24).length) : rowOfC (cvOf s r) s = r := valAt_zip (idsTo_nodup _ _) r h
end Go.Proofs.YthmpknlgkflhiabGreat
namespace Go.Proofs.YthmpknlgkflhiabGreat
open Go.RowKit
set_option linter.unusedVariables false
structure WS where
 caps : CapsD
 ver : Int
 cs : List Cmp
 ix : IX
 sets : List Int
 who : Int → Option Who
def WD.S (d : WD) : WS := ⟨d.caps, d.g.ver, d.g.cs, d.x.ix, d.g.sigs, d.P.who⟩
def updW (f : Int → Option Who) (e : Int) (x : Option Who) : Int → Option Who := fun y => if y = e then x else f y
theorem updW_same (f : Int → Option Who) (e : Int) (p : Option Who) : updW f e p e = p := if_pos rfl
theorem updW_ne {f : Int → Option Who} {e x : Int} {p : Option Who} (h : x ≠ e) : updW f e p x = f x := if_neg h
structure CapsOk (c : CapsD) : Prop where
 ents : 1 ≤ c.ents ∧ c.ents ≤ 256
 rows : 1 ≤ c.rows ∧ c.rows ≤ 256
 archs : 1 ≤ c.archs ∧ c.archs ≤ 64
 cmds : 0 ≤ c.cmds ∧ c.cmds ≤ 64
 fuel : 0 ≤ c.fuel ∧ c.fuel ≤ 4096
 gens : 1 ≤ c.gens ∧ c.gens ≤ 65535
structure WMid (w : World) (d : WD) (L : List Int) (N : Nat) : Prop where
 raw : WRaw w d L.length
 ok : d.P.Ok L
 inv : Inv d.g
 nw : d.g.nw ≤ N
 archs : d.g.archs = d.caps.archs
 rows : d.g.rows = d.caps.rows
 gens : d.x.ix.most = d.caps.gens
 ents : (d.x.ix.gens.length : Int) = d.caps.ents + 1
 sch : schemaCheck d.g.ver d.g.cs = 0
 caps : CapsOk d.caps
 lbd : L.length ≤ 257
def WIn (w : World) (d : WD) (N : Nat) : Prop := WMid w d d.x.ix.liveL N
section
variable {w w' : World} {d : WD} {L : List Int} {N : Nat}
theorem WMid.out {F : Nat → Prop} (h : WMid w d L N) (ho : Out F w w') (hF : ∀ b, d.foot b → ¬ F b) (hM : ∀ b, F b → Mut w b) : WMid w' d L N := { h with raw := h.raw.out ho hF hM }
theorem WMid.below (h : WMid w d L N) (hb : Below w.heap.size w w') : WMid w' d L N := { h with raw := h.raw.below hb }
theorem WIn.below (h : WIn w d N) (hb : Below w.heap.size w w') : WIn w' d N := WMid.below h hb
theorem WMid.mono {M : Nat} (h : WMid w d L N) (hm : N ≤ M) : WMid w d L M := { h with nw := Nat.le_trans h.nw hm }
theorem tabs_at {d : WD} {i : Nat} {t : TD} {v : List (List (List WI))} (ht : d.T[i]? = some t) (hv : d.V[i]? = some v) : d.P.tabs[i]? = some (PTof t v) := by
 show (List.zipWith PTof d.T d.V)[i]? = _
 rw [List.getElem?_zipWith, ht, hv]
theorem tabs_of {d : WD} {i : Nat} {u : PT} (h : d.P.tabs[i]? = some u) : ∃ t v, d.T[i]? = some t ∧ d.V[i]? = some v ∧ u = PTof t v := by
 have h : (List.zipWith PTof d.T d.V)[i]? = some u := h
 rw [List.getElem?_zipWith] at h
 cases ht : d.T[i]? with
 | none => rw [ht] at h; simp at h
 | some t =>
  cases hv : d.V[i]? with
  | none => rw [ht, hv] at h; simp at h
  | some v =>
   rw [ht, hv] at h
   exact ⟨t, v, rfl, rfl, by simpa using h.symm⟩
theorem zip_set {T : List TD} {V : List (List (List (List WI)))} (i : Nat) (t : TD) (v : List (List (List WI))) : List.zipWith PTof (T.set i t) (V.set i v) = (List.zipWith PTof T V).set i (PTof t v) := by
 apply List.ext_getElem?
 intro j
 rw [List.getElem?_zipWith, List.getElem?_set, List.getElem?_set, List.getElem?_set, List.getElem?_zipWith, List.length_zipWith]
 by_cases e : i = j
 ·subst e
  rw [if_pos rfl, if_pos rfl, if_pos rfl]
  by_cases h1 : i < T.length <;> by_cases h2 : i < V.length <;> simp [h1, h2] <;> omega
 ·rw [if_neg e, if_neg e, if_neg e]
theorem WMid.tabv (h : WMid w d L N) {i : Nat} {t : TD} (ht : d.T[i]? = some t) : ∃ v, d.V[i]? = some v ∧ Vals t v ∧ d.P.tabs[i]? = some (PTof t v) := by
 have hl := (List.getElem?_eq_some_iff.1 ht).1
 have hv : d.V[i]? = some (d.V[i]'(by rw [h.raw.vlen]; exact hl)) := List.getElem?_eq_getElem _
 exact ⟨_, hv, h.raw.vals i t _ ht hv, tabs_at ht hv⟩
theorem WMid.tlen (h : WMid w d L N) : d.P.tabs.length = d.T.length ∧ d.T.length = d.g.ts.length ∧ d.g.sigs.length = d.T.length := by
 refine ⟨?_, h.raw.tabs.len, ?_⟩
 ·show (List.zipWith PTof d.T d.V).length = _
  rw [List.length_zipWith, h.raw.vlen, Nat.min_self]
 ·rw [sigs_len, h.raw.tabs.len]
theorem WMid.at (h : WMid w d L N) {e : Int} (he : e ∈ L) : ∃ p t v, d.pl e = some p ∧ d.T[p.tab]? = some t ∧ d.V[p.tab]? = some v ∧ Vals t v := by
 obtain ⟨p, u, hp, hu⟩ := h.ok.at he
 obtain ⟨t, v, ht, hv, _⟩ := tabs_of hu
 exact ⟨p, t, v, hp, ht, hv, h.raw.vals _ t v ht hv⟩
theorem WMid.sig_at (h : WMid w d L N) {i : Nat} {t : TD} (ht : d.T[i]? = some t) : d.g.sigs[i]? = some t.set := sigs_get (h.raw.tabs.at ht)
theorem WMid.pos (h : WMid w d L N) {i : Nat} {t : TD} (ht : d.T[i]? = some t) : posOf t.set d.g.sigs = some i := h.inv.nd i _ (h.sig_at ht)
theorem posOf_at : ∀ {l : List Int} {s : Int} {i : Nat}, posOf s l = some i → l[i]? = some s
 | [], _, _, h => by cases h
 | x :: r, s, i, h => by
  unfold posOf at h
  split at h
  ·rename_i e
   cases h
   subst e; rfl
  ·cases hp : posOf s r with
   | none => rw [hp] at h; cases h
   | some j =>
    rw [hp] at h
    cases h
    have := posOf_at hp
    simpa using this
theorem WMid.of_pos (h : WMid w d L N) {s : Int} {i : Nat} (hp : posOf s d.g.sigs = some i) : ∃ t, d.T[i]? = some t ∧ t.set = s := by
 have h1 := posOf_at hp
 have h2 := (List.getElem?_eq_some_iff.1 h1).1
 rw [h.tlen.2.2] at h2
 refine ⟨_, List.getElem?_eq_getElem h2, ?_⟩
 have h3 := h.sig_at (List.getElem?_eq_getElem h2)
 rw [h1] at h3
 exact (Option.some.inj h3).symm
theorem WMid.sets_eq (h : WMid w d L N) : d.P.tabs.map (·.set) = d.g.sigs := by
 apply List.ext_getElem?
 intro i
 rw [List.getElem?_map]
 rcases Nat.lt_or_ge i d.T.length with hl | hl
 ·have ht : d.T[i]? = some d.T[i] := List.getElem?_eq_getElem hl
  obtain ⟨v, _, _, hp⟩ := h.tabv ht
  rw [hp, h.sig_at ht]; rfl
 ·rw [List.getElem?_eq_none (by rw [h.tlen.1]; exact hl), List.getElem?_eq_none (by rw [h.tlen.2.2]; exact hl)]; rfl
end
def WS.cnt (S : WS) (set : Int) : Nat := S.ix.liveL.countP fun e => match S.who e with | some x => decide (x.set = set) | none => false
def WS.openE (S : WS) (set : Int) : Int := match posOf set S.sets with
 | some _ => if S.caps.rows ≤ (S.cnt set : Int) then 5 else 0
 | none => if tableOk S.ver S.cs set S.caps.rows then (if S.caps.archs ≤ (S.sets.length : Int) then 5 else 0) else 6
def WS.openS (S : WS) (set : Int) : List Int := match posOf set S.sets with
 | some _ => S.sets
 | none => S.sets ++ [set]
section
variable {w : World} {d : WD} {L : List Int} {N : Nat}
theorem WMid.count (h : WMid w d L N) {i : Nat} {t : TD} (ht : d.T[i]? = some t) : L.countP (hasSet d.P t.set) = t.ents.length + t.kept := by
 obtain ⟨v, _, _, hp⟩ := h.tabv ht
 exact h.ok.count hp
theorem WIn.cnt (h : WIn w d N) {i : Nat} {t : TD} (ht : d.T[i]? = some t) : d.S.cnt t.set = t.ents.length + t.kept := WMid.count h ht
theorem WMid.like (h : WMid w d L N) {i : Nat} {t : TD} (ht : d.T[i]? = some t) : (t.most : Int) = d.caps.rows ∧ (idsTo t.set 24).map (findC · d.g.cs) = t.cs.map some := by
 obtain ⟨_, h2, h3⟩ := h.raw.tabs.like t (List.mem_of_getElem? ht)
 exact ⟨h2.trans h.rows, h3⟩
theorem WIn.full (h : WIn w d N) {i : Nat} {t : TD} (ht : d.T[i]? = some t) : t.free = 0 ↔ d.caps.rows ≤ (d.S.cnt t.set : Int) := by
 have h1 := h.cnt ht
 have h2 := (WMid.like h ht).1
 have h3 := (h.raw.tabs.tab t (List.mem_of_getElem? ht)).room
 unfold TD.free
 omega
theorem WMid.tab (h : WMid w d L N) {i : Nat} {t : TD} (ht : d.T[i]? = some t) : TabIn 0 w t := h.raw.tabs.tab t (List.mem_of_getElem? ht)
theorem WMid.ptr (h : WMid w d L N) {i : Nat} {t : TD} (ht : d.T[i]? = some t) : tabPtr d.g i = some ⟨t.tb, 0, none⟩ := tabPtr_some (h.raw.tabs.at ht)
theorem WMid.bd (h : WMid w d L N) {i : Nat} {t : TD} (ht : d.T[i]? = some t) : 0 ≤ t.set ∧ t.set ≤ 4294967295 := ⟨(h.tab ht).set0, (h.tab ht).set1⟩
end
theorem alive_in {w : World} {d : WD} {N : Nat} (h : WIn w d N) {e : Int} (h0 : 0 ≤ e) : d.x.ix.alive e = true ↔ e ∈ d.x.ix.liveL := h.raw.ix.ok.alive_iff e h0
end Go.Proofs.YthmpknlgkflhiabGreat
namespace Go.Proofs.YthmpknlgkflhiabGreat
open Go.RowKit
set_option linter.unusedVariables false
def pwOf (p : Int × List WI) : PW := ⟨p.1, none, 0, 0, p.2⟩
theorem cpF_cv (cs : List Cmp) (p : PW) : cpF cs (pwOf (p.comp, p.val)) = cpF cs p := rfl
theorem cpsGo_cv (cs : List Cmp) : ∀ (ps seen : List PW), cpsGo cs ((cv seen).map pwOf) ((cv ps).map pwOf) = cpsGo cs seen ps
 | [], _ => by unfold cpsGo; rfl
 | p :: r, seen => by
  have h := cpsGo_cv cs r (seen ++ [p])
  unfold cpsGo
  rw [show (cv (p :: r)).map pwOf = pwOf (p.comp, p.val) :: (cv r).map pwOf from rfl]
  have e : (((cv seen).map pwOf).any fun q => q.comp == (pwOf (p.comp, p.val)).comp) = (seen.any fun q => q.comp == p.comp) := by
   unfold cv
   rw [List.any_map, List.any_map]; rfl
  simp only [e, cpF_cv]
  have e2 : (cv seen).map pwOf ++ [pwOf (p.comp, p.val)] = (cv (seen ++ [p])).map pwOf := by simp [cv]
  rw [e2, h]
  rfl
def fC (cs : List Cmp) (p : Int × List WI) : Int := cpF cs (pwOf p)
def cpC (cs : List Cmp) (l : List (Int × List WI)) : Int := cpsGo cs [] (l.map pwOf)
def setC (l : List (Int × List WI)) : Int := foldS (l.map (·.1))
theorem cpC_cv (cs : List Cmp) (ps : List PW) : cpC cs (cv ps) = cpsGo cs [] ps := cpsGo_cv cs ps []
theorem setC_cv (ps : List PW) : setC (cv ps) = foldS (comps ps) := by unfold setC cv comps; rw [List.map_map]; rfl
def WS.rowAt (S : WS) (e : Int) : Option (Int × List (List WI)) := match S.who e with
 | some ⟨s, some r⟩ => some (s, r)
 | _ => none
def WS.spawnE (S : WS) (l : List (Int × List WI)) : Int := if cpC S.cs l ≠ 0 then cpC S.cs l else if S.ix.next = none then 5 else S.openE (setC l)
def WS.spawnH (S : WS) : Int := match S.ix.next with | none => 0 | some id => hOf id (S.ix.gen id)
def WS.spawnS (S : WS) (l : List (Int × List WI)) : WS := match S.ix.next with
 | none => S
 | some id => { S with ix := S.ix.spawn id, sets := S.openS (setC l), who := updW S.who (hOf id (S.ix.gen id)) (some ⟨setC l, some (rowOfC l (setC l))⟩) }
def WS.deadE (S : WS) (e : Int) : Int := if S.ix.alive e then 0 else 11
def WS.despawnS (S : WS) (e : Int) : WS := { S with ix := S.ix.kill (e % 4294967296).toNat, who := updW S.who e none }
def WS.addE (S : WS) (e : Int) (p : Int × List WI) : Int :=
 if S.ix.alive e then (if fC S.cs p ≠ 0 then fC S.cs p else match S.rowAt e with
  | none => 7
  | some (s, _) => if hasB s p.1 then 7 else S.openE (sWith s p.1)) else 11
def WS.movedS (S : WS) (e s : Int) (l : List (Int × List WI)) : WS := { S with sets := S.openS s, who := updW S.who e (some ⟨s, some (rowOfC l s)⟩) }
def WS.addS (S : WS) (e : Int) (p : Int × List WI) : WS := match S.rowAt e with
 | none => S
 | some (s, r) => S.movedS e (sWith s p.1) (cvOf s r ++ [p])
def WS.removeE (S : WS) (e c : Int) : Int :=
 if S.ix.alive e then (match S.rowAt e with
  | none => 7
  | some (s, _) => if hasB s c then S.openE (sWithout s c) else 6) else 11
def WS.removeS (S : WS) (e c : Int) : WS := match S.rowAt e with
 | none => S
 | some (s, r) => S.movedS e (sWithout s c) ((cvOf s r).filter fun p => decide (p.1 ≠ c))
def WS.setE (S : WS) (e : Int) (p : Int × List WI) : Int :=
 if S.ix.alive e then (if fC S.cs p ≠ 0 then fC S.cs p else match S.rowAt e with
  | none => 7
  | some (s, _) => if hasB s p.1 then 0 else 6) else 11
def putC (l : List (Int × List WI)) (p : Int × List WI) : List (Int × List WI) := l.map fun q => if q.1 = p.1 then p else q
def WS.setS (S : WS) (e : Int) (p : Int × List WI) : WS := match S.rowAt e with
 | none => S
 | some (s, r) => { S with who := updW S.who e (some ⟨s, some (rowOfC (putC (cvOf s r) p) s)⟩) }
def WS.getV (S : WS) (e c : Int) : List WI := match S.rowAt e with
 | none => []
 | some (s, r) => valAt (cvOf s r) c
def WS.getE (S : WS) (e c : Int) : Int :=
 if S.ix.alive e then (match S.rowAt e with
  | none => 7
  | some (s, _) => if hasB s c then 0 else 6) else 11
def WS.partsV (S : WS) (e : Int) : List (Int × List WI) := match S.rowAt e with
 | none => []
 | some (s, r) => cvOf s r
def WS.sigV (S : WS) (e : Int) : Int := match S.who e with | some x => x.set | none => 0
end Go.Proofs.YthmpknlgkflhiabGreat
namespace Go.Proofs.YthmpknlgkflhiabGreat
open Go.RowKit
set_option linter.unusedVariables false
theorem XMem.cells {w : World} {x : XD} (h : XMem w x) : w.cell? ⟨x.xb, 0, none⟩ = some (.int .i64 x.ix.most) ∧ w.cell? ⟨x.xb, 1, none⟩ = some (.slice x.ga x.ix.gens.length x.gc) ∧ w.cell? ⟨x.xb, 2, none⟩ = some (.slice x.la x.ix.lives.length x.lc) ∧ w.cell? ⟨x.xb, 3, none⟩ = some (.slice x.fa x.fr.length x.fc) ∧ ∀ o, w.frozen? ⟨x.xb, o, none⟩ = false := by
 have c0 := cell_at h.blk 0
 have c1 := cell_at h.blk 1
 have c2 := cell_at h.blk 2
 have c3 := cell_at h.blk 3
 simp at c0 c1 c2 c3
 exact ⟨c0, c1, c2, c3, fun o => free_at h.blk o⟩
def XD.withFr (x : XD) (l : List Int) : XD := { x with fr := l }
structure XStep (x x' : XD) (w w' : World) : Prop where
 mem : XMem w' x'
 xb : x'.xb = x.xb
 out : Out x.foot w w'
 foot : ∀ b, x'.foot b → x.foot b ∨ w.heap.size ≤ b
theorem XStep.trans {x y z : XD} {a b c : World} (h : XStep x y a b) (k : XStep y z b c) : XStep x z a c :=
 ⟨k.mem, k.xb.trans h.xb, h.out.trans k.out h.foot, fun q hq => (k.foot q hq).elim (h.foot q) fun hb => .inr (Nat.le_trans h.out.size hb)⟩
theorem XStep.refl {x : XD} {w : World} (h : XMem w x) : XStep x x w w := ⟨h, rfl, Out.refl _ _, fun _ => .inl⟩
theorem XStep.below {x y : XD} {a b c : World} (h : XStep x y a b) (hb : Below b.heap.size b c) : XStep x y a c :=
 h.trans ⟨h.mem.out (F := fun _ => False) (Out.of hb) (fun _ _ => id), rfl, Out.of hb, fun _ => .inl⟩
theorem XMem.frow {w : World} {x : XD} (h : XMem w x) {k : Nat} (hk : k < x.fr.length) : ∃ q, x.fa = some ⟨q, 0, none⟩ ∧ q < w.heap.size ∧ w.cell? ⟨q, k, none⟩ = some (.int .i64 (at0 x.fr k)) ∧ w.frozen? ⟨q, k, none⟩ = false ∧ x.fr.length ≤ x.fc ∧ q ≠ x.xb := by
 obtain ⟨q, hq, _, hl, hc⟩ := row_block h.freeR (by omega)
 obtain ⟨q2, hq2, _, hf, _, hcap⟩ := ownsRow_set (r := k) (.int .i64 0) h.freeR hk
 have : q2 = q := by rw [hq] at hq2; cases hq2; rfl
 subst this
 refine ⟨q2, hq, hl, hc k _ (by rw [List.getElem?_map, at0_get hk]; rfl), hf, hcap, fun e => ?_⟩
 have h1 := ownsRow_ne_block3 h.freeR h.blk (fun cur he => by cases he)
 rw [hq] at h1
 exact h1 (by rw [e]; rfl)
theorem XMem.fput {w : World} {x : XD} (h : XMem w x) {k : Nat} (hk : k < x.fr.length) (y : Int) {q : Nat} (hq : x.fa = some ⟨q, 0, none⟩) : XStep x (x.withFr (x.fr.set k y)) w (w.setCell ⟨q, k, none⟩ (.int .i64 y)) := by
 obtain ⟨q2, hq2, hrow, hf, hql, hcap⟩ := ownsRow_set (r := k) (.int .i64 y) h.freeR hk
 have : q2 = q := by rw [hq] at hq2; cases hq2; rfl
 subst this
 have ho : Only q2 w (w.setCell ⟨q2, k, none⟩ (.int .i64 y)) := Only.at w q2 k _
 have hfb : (Value.slice x.fa x.fr.length x.fc).ownBlock = some q2 := by rw [hq]; rfl
 have hn1 : q2 ≠ x.xb := fun e => by
  have h1 := ownsRow_ne_block3 h.freeR h.blk (fun cur he => by cases he)
  exact h1 (by rw [hfb, e])
 have hn2 : ∀ b, (Value.slice x.ga x.ix.gens.length x.gc).ownBlock = some b → b ≠ q2 := fun b hb e => h.ne b hb (by rw [e]; exact hfb)
 have hn3 : ∀ b, (Value.slice x.la x.ix.lives.length x.lc).ownBlock = some b → b ≠ q2 := fun b hb e => by
  subst e
  obtain ⟨c1, h1⟩ := row_type h.livesR hb
  obtain ⟨c2, h2⟩ := row_type h.freeR hfb
  rw [h1] at h2; cases h2
 have hout : Out (fun b => b = q2) w (w.setCell ⟨q2, k, none⟩ (.int .i64 y)) := Out.only ho rfl
 refine ⟨⟨?_, ownsRow_out h.gensR hout hn2, ownsRow_out h.livesR hout hn3, ?_, ?_⟩, rfl, hout.mono (fun b hb => .inl (by subst hb; exact .inr (.inr (.inr hfb)))), fun b hb => .inl ?_⟩
 ·have := keepO ho h.blk (Ne.symm hn1)
  simpa [XD.withFr] using this
 ·simpa [XD.withFr, List.map_set] using hrow
 ·intro b hb
  have := h.ne b hb
  simpa [XD.withFr] using this
 ·rcases hb with hb | hb | hb | hb
  ·exact .inl hb
  ·exact .inr (.inl hb)
  ·exact .inr (.inr (.inl hb))
  ·exact .inr (.inr (.inr (by simpa [XD.withFr] using hb)))
theorem qLen_any (a : Option Addr) (n c : Nat) (w : World) : Calls Tryz.prog 213 #[.slice a n c] w fun e w' => e = .returned (.int .i64 n) ∧ w = w' := by
 go_enter Tryz.func213, Tryz.ntmps213
 go_wp2_with fail
 go_returns
 exact ⟨rfl, rfl⟩
theorem qLess_any (x : XD) (w : World) (h : XMem w x) (i j : Nat) (hi : i < x.fr.length) (hj : j < x.fr.length) : Calls Tryz.prog 214 #[.slice x.fa x.fr.length x.fc, .int .i64 i, .int .i64 j] w fun e w' => e = .returned (.bool (decide (at0 x.fr i < at0 x.fr j))) ∧ ∃ n, w' = w.drewN n := by
 obtain ⟨q, hq, _, ci, _, hcap, _⟩ := h.frow hi
 obtain ⟨q', hq', _, cj, _, _, _⟩ := h.frow hj
 have : q' = q := by rw [hq] at hq'; cases hq'; rfl
 subst this
 rw [hq]
 have i0 : (0 : Int) ≤ (i : Int) := by omega
 have i1 : (i : Int) < (x.fr.length : Int) := by omega
 have j0 : (0 : Int) ≤ (j : Int) := by omega
 have j1 : (j : Int) < (x.fr.length : Int) := by omega
 have H := Lib.hid h
 have HQ := Lib.hid hq
 clear h hq hq' hi hj
 go_enter Tryz.func214, Tryz.ntmps214
 go_wp2_with fail
 go_quiet (fail)
 go_wp2_with fail
 go_returns
 exact ⟨rfl, _, rfl⟩
theorem qSwap_any (x : XD) (w : World) (h : XMem w x) (i j : Nat) (hi : i < x.fr.length) (hj : j < x.fr.length) : Calls Tryz.prog 215 #[.slice x.fa x.fr.length x.fc, .int .i64 i, .int .i64 j] w fun e w' => e = .returned (.tuple #[]) ∧ XStep x (x.withFr (swapL x.fr i j)) w w' := by
 obtain ⟨q, hq, _, ci, fi, hcap, _⟩ := h.frow hi
 obtain ⟨q', hq', _, cj, fj, _, _⟩ := h.frow hj
 have : q' = q := by rw [hq] at hq'; cases hq'; rfl
 subst this
 rw [hq]
 have i0 : (0 : Int) ≤ (i : Int) := by omega
 have i1 : (i : Int) < (x.fr.length : Int) := by omega
 have j0 : (0 : Int) ≤ (j : Int) := by omega
 have j1 : (j : Int) < (x.fr.length : Int) := by omega
 have hst := h.fput hi (at0 x.fr j) hq
 have hj2 : j < (x.fr.set i (at0 x.fr j)).length := by simpa using hj
 obtain ⟨q3, hq3, _, cs, fs, _, _⟩ := hst.mem.frow hj2
 have : q3 = q' := by
  have hq3 : x.fa = some ⟨q3, 0, none⟩ := hq3
  rw [hq] at hq3; cases hq3; rfl
 subst this
 have e1 : at0 (x.fr.set i (at0 x.fr j)) j = at0 x.fr j := by
  unfold at0
  rw [List.getD_eq_getElem?_getD, List.getD_eq_getElem?_getD, List.getElem?_set]
  split
  ·rename_i e; subst e; simp [hi]
  ·rfl
 have cs : (w.setCell ⟨q3, i, none⟩ (.int .i64 (at0 x.fr j))).cell? ⟨q3, j, none⟩ = some (.int .i64 (at0 (x.fr.set i (at0 x.fr j)) j)) := cs
 rw [e1] at cs
 have hst2 := hst.trans (hst.mem.fput hj2 (at0 x.fr i) hq)
 have HST := Lib.hid hst2
 clear h hq hq' hst hst2 e1 hq3 hj2
 go_enter Tryz.func215, Tryz.ntmps215
 go_wp2_with fail
 go_region
 all_goals
  go_wp2_with fail
  go_end0
  exact ⟨rfl, HST.out.below ⟨rfl, rfl, rfl, Nat.le_refl _, fun _ _ => rfl⟩⟩
end Go.Proofs.YthmpknlgkflhiabGreat
namespace Go.Proofs.YthmpknlgkflhiabGreat
open Go.RowKit
set_option linter.unusedVariables false
theorem XMem.fb {w : World} {x : XD} (h : XMem w x) : ∀ b, (Value.slice x.fa x.fr.length x.fc).ownBlock = some b → b ≠ x.xb := fun b hb e => by
 have h1 := ownsRow_ne_block3 h.freeR h.blk (fun cur he => by cases he)
 exact h1 (by rw [hb, e])
theorem XMem.gb {w : World} {x : XD} (h : XMem w x) : ∀ b, (Value.slice x.ga x.ix.gens.length x.gc).ownBlock = some b → b ≠ x.xb := fun b hb e => by
 have h1 := ownsRow_ne_block3 h.gensR h.blk (fun cur he => by cases he)
 exact h1 (by rw [hb, e])
theorem XMem.lb {w : World} {x : XD} (h : XMem w x) : ∀ b, (Value.slice x.la x.ix.lives.length x.lc).ownBlock = some b → b ≠ x.xb := fun b hb e => by
 have h1 := ownsRow_ne_block3 h.livesR h.blk (fun cur he => by cases he)
 exact h1 (by rw [hb, e])
def XD.withFa (x : XD) (fa : Option Addr) (fc : Nat) (l : List Int) : XD := { x with fr := l, fa := fa, fc := fc }
theorem XMem.fhang {w : World} {x : XD} (h : XMem w x) {fa : Option Addr} {fc : Nat} {l : List Int} (hrow : w.ownsRow 0 3 1 (.slice fa l.length fc) l.length (l.map (.int .i64))) (hf : ∀ b, (Value.slice fa l.length fc).ownBlock = some b → b ≠ x.xb ∧ (Value.slice x.ga x.ix.gens.length x.gc).ownBlock ≠ some b) :
  XMem (w.setCell ⟨x.xb, 3, none⟩ (.slice fa l.length fc)) (x.withFa fa fc l) := by
 have ho : Out (fun b => b = x.xb) w (w.setCell ⟨x.xb, 3, none⟩ (.slice fa l.length fc)) := Out.only (Only.at w x.xb 3 _) rfl
 refine ⟨?_, ownsRow_out h.gensR ho (fun b hb e => h.gb b hb e), ownsRow_out h.livesR ho (fun b hb e => h.lb b hb e), ownsRow_out hrow ho (fun b hb e => (hf b hb).1 e), fun b hb hb2 => (hf b hb2).2 hb⟩
 have := hset w x.xb 3 (.slice fa l.length fc) _ _ _ h.blk
 simpa [XD.withFa] using this
theorem XMem.ftake {w : World} {x : XD} (h : XMem w x) {m : Nat} (hm : x.fr.length = m + 1) : XStep x (x.withFr (x.fr.take m)) w (w.setCell ⟨x.xb, 3, none⟩ (.slice x.fa m x.fc)) := by
 have hl : (x.fr.take m).length = m := by rw [List.length_take]; omega
 have hr := ownsRow_shrink h.freeR (show m ≤ x.fr.length by omega) (by omega)
 have hob : (Value.slice x.fa m x.fc).ownBlock = (Value.slice x.fa x.fr.length x.fc).ownBlock := by cases x.fa <;> rfl
 have := h.fhang (l := x.fr.take m) (fa := x.fa) (fc := x.fc) (by rw [hl, List.map_take]; exact hr) (fun b hb => by rw [hl, hob] at hb; exact ⟨h.fb b hb, fun hg => h.ne b hg hb⟩)
 rw [hl] at this
 refine ⟨this, rfl, (Out.only (Only.at w x.xb 3 _) (F := fun b => b = x.xb) rfl).mono (fun b hb => .inl (.inl hb)), fun b hb => .inl ?_⟩
 rcases hb with hb | hb | hb | hb
 ·exact .inl hb
 ·exact .inr (.inl hb)
 ·exact .inr (.inr (.inl hb))
 ·refine .inr (.inr (.inr ?_))
  have hb : (Value.slice x.fa (x.fr.take m).length x.fc).ownBlock = some b := hb
  rw [hl, hob] at hb; exact hb
theorem qPop_any (x : XD) (w : World) (h : XMem w x) (m : Nat) (hm : x.fr.length = m + 1) (hl : m ≤ 300) : Calls Tryz.prog 218 #[.pointer (some ⟨x.xb, 3, none⟩)] w fun e w' => e = .returned (.iface 3 (.int .i64 (at0 x.fr m))) ∧ XStep x (x.withFr (x.fr.take m)) w w' := by
 obtain ⟨q, hq, _, ci, fi, hcap, _⟩ := h.frow (show m < x.fr.length by omega)
 obtain ⟨_, _, _, c3, fz⟩ := h.cells
 have f3 := fz 3
 have hst := h.ftake hm
 rw [hm] at c3 hcap
 rw [hq] at c3 hst
 have i0 : (0 : Int) ≤ (m : Int) := by omega
 have i1 : (m : Int) < (m : Int) + 1 := by omega
 have i2 : (m : Int) ≤ (x.fc : Int) := by omega
 have HST := Lib.hid hst
 clear h hq hst hm fz
 go_enter Tryz.func218, Tryz.ntmps218
 go_wp2_with fail
 go_returns
 exact ⟨rfl, HST.out⟩
theorem Tryz.infoI : (Tryz.prog.info? 3).map (fun i => (i.zero, i.size, i.bytes)) = some (some (.int .i64 0), 1, 8) := by kernel_rfl
theorem assert_int (y : Int) (w : World) : (Instr.typeAssert (.iface 3 (.int .i64 y)) 20 3 false).run Tryz.prog w = .ok (.int .i64 y) w := by kernel_rfl
theorem XMem.fapp {W w6 : World} {x : XD} (h : XMem W x) {o : Obj} {q cap : Nat} {y : Int} (hg : (W.alloc o).drew.grownBy w6 (Value.slice x.fa x.fr.length x.fc).ownBlock) (hrow : w6.ownsRow 0 3 1 (.slice (some ⟨q, 0, none⟩) (x.fr.length + 1) cap) (x.fr.length + 1) (x.fr.map (.int .i64) ++ [.int .i64 y])) (hat : (Value.slice x.fa x.fr.length x.fc).ownBlock = some q ∨ q = W.heap.size + 1) :
  XStep x (x.withFa (some ⟨q, 0, none⟩) cap (x.fr ++ [y])) W (w6.setCell ⟨x.xb, 3, none⟩ (.slice (some ⟨q, 0, none⟩) (x.fr.length + 1) cap)) := by
 have h1 : Out (fun b => (Value.slice x.fa x.fr.length x.fc).ownBlock = some b) W w6 := ⟨hg.os, hg.tape, hg.output, by have := hg.size; simp at this; omega, fun k hk hF => (hg.block k (by simp; omega) (fun e => hF e.symm)).trans (by
  show (W.alloc o).heap[k]? = _
  rw [halloc, if_neg (by omega)])⟩
 have hl3 : ∀ b, (Value.slice x.la x.ix.lives.length x.lc).ownBlock = some b → ¬ (Value.slice x.fa x.fr.length x.fc).ownBlock = some b := fun b hb e => by
  obtain ⟨c1, k1⟩ := row_type h.livesR hb
  obtain ⟨c2, k2⟩ := row_type h.freeR e
  rw [k1] at k2; cases k2
 have hblk := h1.keep h.blk (fun e => h.fb _ e rfl)
 have hgR := ownsRow_out h.gensR h1 (fun b hb e => h.ne b hb e)
 have hlR := ownsRow_out h.livesR h1 hl3
 have hq1 : q ≠ x.xb := fun e => by
  rcases hat with hat | hat
  ·exact h.fb _ hat e
  ·have := lt_some h.blk; omega
 have hq2 : (Value.slice x.ga x.ix.gens.length x.gc).ownBlock ≠ some q := fun e => by
  rcases hat with hat | hat
  ·exact h.ne _ e hat
  ·obtain ⟨c1, k1⟩ := row_type h.gensR e
   have := lt_some k1; omega
 have ho : Out (fun b => b = x.xb) w6 (w6.setCell ⟨x.xb, 3, none⟩ (.slice (some ⟨q, 0, none⟩) (x.fr.length + 1) cap)) := Out.only (Only.at w6 x.xb 3 _) rfl
 have hqb : ∀ b, (Value.slice (some ⟨q, 0, none⟩) (x.fr.length + 1) cap).ownBlock = some b → b = q := fun b hb => by simp [Value.ownBlock] at hb; exact hb.symm
 refine ⟨⟨?_, ownsRow_out hgR ho (fun b hb e => h.gb b hb e), ownsRow_out hlR ho (fun b hb e => h.lb b hb e), ?_, fun b hb hb2 => ?_⟩, rfl, ?_, ?_⟩
 ·have := hset w6 x.xb 3 (.slice (some ⟨q, 0, none⟩) (x.fr.length + 1) cap) _ _ _ hblk
  simpa [XD.withFa] using this
 ·have := ownsRow_out hrow ho (fun b hb e => hq1 ((hqb b hb).symm.trans e))
  simpa [XD.withFa] using this
 ·have e : b = q := by simpa [XD.withFa, Value.ownBlock] using hb2.symm
  subst e
  exact hq2 hb
 ·exact (h1.mono (G := x.foot) (fun b hb => .inl (.inr (.inr (.inr hb))))).trans ho (fun b hb => .inl (.inl hb))
 ·rintro b (hb | hb | hb | hb)
  ·exact .inl (.inl hb)
  ·exact .inl (.inr (.inl hb))
  ·exact .inl (.inr (.inr (.inl hb)))
  ·have e : b = q := by simpa [XD.withFa, Value.ownBlock] using hb.symm
   subst e
   rcases hat with hat | hat
   ·exact .inl (.inr (.inr (.inr hat)))
   ·exact .inr (by omega)
set_option maxRecDepth 100000 in
set_option maxHeartbeats 2000000 in
theorem qPush_any (x : XD) (w : World) (h : XMem w x) (y : Int) (hl : x.fr.length ≤ 300) : Calls Tryz.prog 219 #[.pointer (some ⟨x.xb, 3, none⟩), .iface 3 (.int .i64 y)] w fun e w' => e = .returned (.tuple #[]) ∧ ∃ fa fc, XStep x (x.withFa fa fc (x.fr ++ [y])) w w' := by
 obtain ⟨i0, hi, hz0, hz1, hz2⟩ := info_parts Tryz.infoI
 obtain ⟨_, _, _, c3, fz⟩ := h.cells
 have f3 := fz 3
 clear fz
 obtain ⟨xb, ix, fr, ga, gc, la, lc, fa, fc⟩ := x
 simp only at c3 f3 hl ⊢
 obtain ⟨n, hn⟩ : ∃ n, fr.length = n := ⟨_, rfl⟩
 have hown : ((w.alloc (.cells #[.int .i64 y] 3)).drew).ownsRow 0 3 1 (.slice fa n fc) n (fr.map (.int .i64)) := by
  rw [← hn]; exact h.freeR.alloc _
 have hnews : ∀ j u, ([.int .i64 y] : List Value)[j]? = some u → ((w.alloc (.cells #[.int .i64 y] 3)).drew).cell? ((⟨w.heap.size, 0, none⟩ : Addr).add j) = some u :=
  World.news_of_block (w := ((w.alloc (.cells #[.int .i64 y] 3)).drew)) (cs := #[.int .i64 y]) (t := 3) (fr := (0, 0)) (heap_alloc_new w _)
 have hd : ∀ w6, ((w.alloc (.cells #[.int .i64 y] 3)).drew).grownBy w6 (Value.slice fa n fc).ownBlock → w6.cell? ⟨xb, 3, none⟩ = some (.slice fa n fc) ∧ w6.frozen? ⟨xb, 3, none⟩ = false := by
  intro w6 hg6
  have hb6 := keepG hg6 (show ((w.alloc (.cells #[.int .i64 y] 3)).drew).heap[xb]? = _ from keepA _ h.blk) (fun e => by rw [← hn] at e; exact h.fb _ e.symm rfl)
  exact ⟨by rw [cell_at hb6, ← hn]; rfl, free_at hb6 3⟩
 have c3a : (w.alloc (.cells #[.int .i64 y] 3)).cell? ⟨xb, 3, none⟩ = some (.slice fa n fc) := by rw [cell_at (keepA _ h.blk), ← hn]; rfl
 rw [hn] at c3 hl
 have H := Lib.hid h
 have HN := Lib.hid hn
 have HOWN := Lib.hid hown
 have HNEWS := Lib.hid hnews
 have HD := Lib.hid hd
 have hm1 : n + 1 ≤ maxLen := by unfold maxLen; omega
 have hm2 : (n + 1) * 8 ≤ 140737488355328 := by omega
 have hT := assert_int y
 clear h hn hown hnews hd
 go_enter Tryz.func219, Tryz.ntmps219
 go_wp2_with fail
 go_region_law (first | (refine step_append_lies _ (by rfl) _ _ 130 (by rfl) 0 3 i0 _ 1 8 Tryz.underlying130 hi hz0 hz1 hz2 rfl (by omega) (.slice fa n fc) n (fr.map (.int .i64)) (by rfl) HOWN.out ⟨w.heap.size, 0, none⟩ 1 1 [.int .i64 y] (by rfl) (by rfl) HNEWS.out (ints_oneCell .i64 [y]) (by omega) hm1 hm2 (by simp) (w.heap.size + 1) (by simp) ?_; intro gq cap6 w6 hown6 hg6 hat6 hlt6; obtain ⟨d0, d1⟩ := HD.out _ hg6))
 all_goals
  have hfin := H.out.fapp (o := .cells #[.int .i64 y] 3) (w6 := w6) (q := gq) (cap := cap6) (y := y) (by rw [HN.out]; exact hg6) (by rw [HN.out]; exact hown6) (by rw [HN.out]; exact hat6)
  rw [HN.out] at hfin
  go_wp2_with fail
  go_end0
  exact ⟨rfl, _, _, hfin⟩
end Go.Proofs.YthmpknlgkflhiabGreat
