/- table.Set. · Maps told as functions to values of any element type; values16. · The law's test of two rows of numbers. · Plain: what the deeds of a table do to its values. · A table's deeds, with its values. · Plain: a heap of numbers: what a step down and a step up keep. -/
import Derived.Test.YthmpknlgkflhiabGreatQ27
import Derived.Laws.StructEq
import Derived.Test.YthmpknlgkflhiabGreatQ24
import Derived.Test.YthmpknlgkflhiabGreatRows
namespace Go.Proofs.YthmpknlgkflhiabGreat
open Go.RowKit
set_option linter.unusedVariables false
theorem TabIn.setCol {B : Nat} {w w' : World} {t : TD} (h : TabIn B w t) {i : Nat} {d d' : CD} (hd : t.cols[i]? = some d) (ho : Out d.foot w w') (hc : ColAt B w' d') (hf : ∀ b, d'.foot b ↔ d.foot b) (h1 : d'.cb = d.cb) (h2 : d'.size = d.size) (h3 : d'.cap = d.cap) (h4 : d'.rows.length = d.rows.length) :
  TabIn B w' { t with cols := t.cols.set i d' } ∧ (∀ b, TD.foot { t with cols := t.cols.set i d' } b → t.foot b) ∧ Out t.cfoot w w' := by
 have hdm := List.mem_of_getElem? hd
 have ho2 : Out t.cfoot w w' := ho.mono (fun b hb => .inl ⟨d, hdm, hb⟩)
 have hM : ∀ b, t.cfoot b → Mut w b := fun b hb => h.foot_mut (TabIn.cfoot_foot hb)
 have hil := (List.getElem?_eq_some_iff.1 hd).1
 have hat : ∀ (j : Nat) (e : CD), (t.cols.set i d')[j]? = some e → (j = i ∧ e = d') ∨ (j ≠ i ∧ t.cols[j]? = some e) := by
  intro j e he
  rw [List.getElem?_set] at he
  split at he
  ·rename_i hij
   subst hij
   have he2 : d' = e := by simpa [hil] using he
   exact .inl ⟨rfl, he2.symm⟩
  ·rename_i hij
   exact .inr ⟨fun e => hij e.symm, he⟩
 refine ⟨⟨ho2.keep h.blk h.cfoot_ne.1, ownsRow_out h.comps ho2 (row_mut h.comps (.inl rfl) hM), ownsRow_out h.colsR ho2 (row_mut h.colsR (.inr (.inl rfl)) hM), fun x hx => (h.fields x hx).out ho2 hM, ownsRow_out h.entsR ho2 h.cfoot_ne.2, h.hB, by rw [List.length_set]; exact h.len, ?_, ?_, ?_, h.lay, h.n24, h.most1, h.most2, h.room, h.set0, h.set1, h.ids⟩, ?_, ho2⟩
 ·intro j x e hx he
  rcases hat j e he with ⟨rfl, rfl⟩ | ⟨_, he⟩
  ·obtain ⟨k1, k2, k3, k4⟩ := h.col j x d hx hd
   exact ⟨h1.trans k1, h2.trans k2, h3.trans k3, h4.trans k4⟩
  ·exact h.col j x e hx he
 ·intro e he
  obtain ⟨j, hj⟩ := List.getElem?_of_mem he
  rcases hat j e hj with ⟨rfl, rfl⟩ | ⟨hne, hj⟩
  ·exact hc
  ·exact (h.colsA e (List.mem_of_getElem? hj)).out ho (fun b hb hb2 => h.apart j i e d hne hj hd b hb hb2)
 ·intro j k e f hjk he hg b hb hb2
  rcases hat j e he with ⟨rfl, rfl⟩ | ⟨hne, he2⟩
  ·rcases hat k f hg with ⟨rfl, rfl⟩ | ⟨hne2, hg2⟩
   ·exact hjk rfl
   ·exact h.apart j k d f hjk hd hg2 b ((hf b).1 hb) hb2
  ·rcases hat k f hg with ⟨rfl, rfl⟩ | ⟨hne2, hg2⟩
   ·exact h.apart j k e d hjk he2 hd b hb ((hf b).1 hb2)
   ·exact h.apart j k e f hjk he2 hg2 b hb hb2
 ·rintro b (hb | hb | ⟨e, he, hb⟩)
  ·exact .inl hb
  ·exact .inr (.inl hb)
  ·obtain ⟨j, hj⟩ := List.getElem?_of_mem he
   rcases hat j e hj with ⟨rfl, rfl⟩ | ⟨hne, hj⟩
   ·exact .inr (.inr ⟨d, hdm, (hf b).1 hb⟩)
   ·exact .inr (.inr ⟨e, List.mem_of_getElem? hj, hb⟩)
def TD.put (t : TD) (i k : Nat) (d : CD) (row : List UInt8) : TD := { t with cols := t.cols.set i { d with rows := d.rows.set k row } }
section
variable {B : Nat} {w : World} {t : TD}
set_option maxRecDepth 100000 in
theorem tabSet_no1 (h : TabIn B w t) (row comp : Int) (va : Option Addr) (vl vc : Nat) (he : findErr t row comp ≠ 0) :
  Calls Tryz.prog 53 #[.pointer (some ⟨t.tb, 0, none⟩), .int .i64 row, .agg #[.int .i64 comp, .slice va vl vc]] w fun e w' => e = .returned (.int .i64 (findErr t row comp)) ∧ Below w.heap.size w w' := by
 have hv : findVal t row comp = .agg #[.int .i64 0, .string ByteArray.empty, .slice none 0 0, .pointer none] := by
  unfold findErr at he
  unfold findVal
  split
  ·rename_i h1
   rw [if_pos h1] at he
   cases hc : colOf t.cps comp with
   | none => rfl
   | some x => rw [hc] at he; exact absurd rfl he
  ·rfl
 have hb0 : Below w.heap.size w (w.alloc (.cells #[.int .i64 comp, .slice va vl vc] 48)) := by go_grown
 have HF := Lib.hid (tabFind_in (h.below hb0) row comp)
 have HB0 := Lib.hid hb0
 rw [hv] at HF
 obtain ⟨r, hr⟩ : ∃ r, findErr t row comp = r := ⟨_, rfl⟩
 rw [hr] at HF he ⊢
 have e1 : (r != 0) = true := by rw [bne_iff_ne]; exact he
 clear h hb0 hv hr he
 go_enter Tryz.func53, Tryz.ntmps53
 go_wp2_with fail
 refine HF.out.mono ?_
 rintro e w1 ⟨rfl, hb⟩
 have HB1 := Lib.hid (HB0.out.trans (hb.mono HB0.out.size))
 have hz := HB1.out.size
 clear hb
 go_wp2_with fail
 go_returns
 exact ⟨rfl, HB1.out.alloc hz _⟩
set_option maxRecDepth 100000 in
theorem tabSet_ok (h : TabIn B w t) (k i : Nat) (x : CV) (d : CD) (comp : Int) (va : Option Addr) (vl vc : Nat) (v : List WI) (hk : k < t.ents.length) (hc : colOf t.cps comp = some x) (hx : t.cps[i]? = some x) (hd : t.cols[i]? = some d) (hp : IntsAt w.heap.size w va vl vc v) (hfit : fitF x.c.fields v = 0) :
  Calls Tryz.prog 53 #[.pointer (some ⟨t.tb, 0, none⟩), .int .i64 (k : Int), .agg #[.int .i64 comp, .slice va vl vc]] w fun e w' => e = .returned (.int .i64 0) ∧ TabIn B w' (t.put i k d (packF x.c.fields v)) ∧ (∀ b, (t.put i k d (packF x.c.fields v)).foot b → t.foot b) ∧ Out t.cfoot w w' := by
 have hv : findVal t (k : Int) comp = .agg #[.int .i64 x.c.id, .string x.c.name, .slice x.fa x.fl x.fc, .pointer (some ⟨x.cb, 0, none⟩)] := by unfold findVal; rw [if_pos ⟨by omega, by omega⟩, hc]
 have he : findErr t (k : Int) comp = 0 := by unfold findErr; rw [if_pos ⟨by omega, by omega⟩, hc]; rfl
 obtain ⟨k1, k2, k3, k4⟩ := h.col i x d hx hd
 obtain ⟨hlay, hcn, _⟩ := fit_zero hfit
 have hlen := packF_len hlay (show cnt x.c.fields ≤ v.length by omega)
 have hb0 : Below w.heap.size w (w.alloc (.cells #[.int .i64 comp, .slice va vl vc] 48)) := by go_grown
 have hf := tabFind_in (h.below hb0) (k : Int) comp
 rw [hv, he] at hf
 have HF := Lib.hid hf
 have HB0 := Lib.hid hb0
 have HP0 := Lib.hid (heap_alloc_new w (.cells #[.int .i64 comp, .slice va vl vc] 48))
 have HFL := Lib.hid (h.fields x (List.mem_of_getElem? hx))
 have HIN := Lib.hid hp
 have HPK := Lib.hid (fun (W : World) (hW : CVF B W x) (hI : IntsAt W.heap.size W va vl vc v) => pack_ok x.c.fields x.fa x.fl x.fc va vl vc v W (fieldsAt_row hW.row hW.len hW.max) (slice_le hW.row) hI hfit)
 have HT := Lib.hid h
 have HD := Lib.hid hd
 obtain ⟨s, hs⟩ : ∃ s, s = (⟨(packF x.c.fields v).toArray⟩ : ByteArray) := ⟨_, rfl⟩
 rw [← hs] at HPK
 have hss : s.size = d.size := by rw [hs, k2, ← hlen]; show (packF x.c.fields v).toArray.size = _; rw [List.size_toArray]
 have hst : s.data.toList = packF x.c.fields v := by rw [hs]
 rw [← hst]
 have HST : Hid (∀ W, TabIn B W t → Calls Tryz.prog 95 #[.pointer (some ⟨x.cb, 0, none⟩), .int .i64 (k : Int), .string s] W fun e w' => e = .returned (.int .i64 0) ∧ ColAt B w' { d with rows := d.rows.set k s.data.toList } ∧ Out d.foot W w') := Lib.hid (fun W hW => by rw [← k1]; exact colSet_any B W d k s (hW.colsA d (List.mem_of_getElem? hd)) (by rw [k4]; exact hk) hss)
 clear h hv he hf hk hc hx hfit hb0 hp k1 k2 k3 k4 hlay hcn hlen hs hss hst hd
 go_enter Tryz.func53, Tryz.ntmps53
 go_wp2_with fail
 refine HF.out.mono ?_
 rintro e w1 ⟨rfl, hb⟩
 have HB1 := Lib.hid (HB0.out.trans (hb.mono HB0.out.size))
 have hz := HB1.out.size
 have hp1 := keep hb HP0.out
 have HB2 := Lib.hid (HB1.out.alloc hz (.cells #[.int .i64 x.c.id, .string x.c.name, .slice x.fa x.fl x.fc, .pointer (some ⟨x.cb, 0, none⟩)] 146))
 have c1 := cell_at hp1 1
 simp at c1
 have hwl : w.heap.size < w1.heap.size := lt_some hp1
 have HFL2 := Lib.hid (HFL.out.below HB2.out)
 have HIN2 := Lib.hid ((HIN.out.below HB2.out).mono HB2.out.size)
 have HK2 := Lib.hid (heap_alloc_new w1 (.cells #[.int .i64 x.c.id, .string x.c.name, .slice x.fa x.fl x.fc, .pointer (some ⟨x.cb, 0, none⟩)] 146))
 clear hb hp1
 go_wp2_with fail
 refine (HPK.out _ HFL2.out HIN2.out).mono ?_
 rintro e w2 ⟨rfl, hb2⟩
 have HB3 := Lib.hid (HB2.out.trans (hb2.mono HB2.out.size))
 have hk3 := keep hb2 HK2.out
 have c3 := cell_at hk3 3
 simp at c3
 have hk3l := lt_some hk3
 have HT3 := Lib.hid (HT.out.below HB3.out)
 clear hb2 c1 hk3
 go_wp2_with fail
 refine (HST.out _ HT3.out).mono ?_
 rintro e w3 ⟨rfl, hca, ho⟩
 have hset := HT3.out.setCol HD.out ho hca (fun b => Iff.rfl) rfl rfl rfl (by simp)
 have HS := Lib.hid hset
 clear hca ho hset c3
 go_wp2_with fail
 go_returns
 exact ⟨rfl, HS.out.1, HS.out.2.1, (Out.of HB3.out).trans HS.out.2.2 (fun _ hx => .inl hx)⟩
end
end Go.Proofs.YthmpknlgkflhiabGreat
namespace Go.Proofs.YthmpknlgkflhiabGreat
open Go.RowKit
open Go.Maps (Keyed IsMap Tidy int_keyed keyOf_int_mk)
set_option linter.unusedVariables false
section
variable {P : Program} {w : World} {k e : TypeId} {b cnt : Nat} {f : Lit → Option Value}
def heldR (v : Value) : Option (DataW Value × List MemPlace) := some (.held v, [])
def MapV (P : Program) (w : World) (k : TypeId) (b cnt : Nat) (f : Lit → Option Value) : Prop :=
 ∃ D : DataW Value, w.ownsMap P k heldR b cnt D ∧ Maps.size D = cnt ∧ ∀ kl, Maps.has D kl = (f kl).isSome ∧ ∀ v, f kl = some v → ∀ z, D.atKey kl z = .held v
def putV (f : Lit → Option Value) (kl : Lit) (v : Value) : Lit → Option Value := fun x => if litEq x kl = true then some v else f x
def delV (f : Lit → Option Value) (kl : Lit) : Lit → Option Value := fun x => if litEq x kl = true then none else f x
theorem putV_same (f : Lit → Option Value) (kl : Lit) (v : Value) : putV f kl v kl = some v := if_pos (litEq_iff.2 rfl)
theorem putV_ne {f : Lit → Option Value} {kl x : Lit} {v : Value} (h : x ≠ kl) : putV f kl v x = f x := if_neg (fun e => h (litEq_iff.1 e))
theorem delV_same (f : Lit → Option Value) (kl : Lit) : delV f kl kl = none := if_pos (litEq_iff.2 rfl)
theorem delV_ne {f : Lit → Option Value} {kl x : Lit} (h : x ≠ kl) : delV f kl x = f x := if_neg (fun e => h (litEq_iff.1 e))
theorem MapV.made (w : World) (P : Program) (k : TypeId) : MapV P (w.alloc (.map #[] 0)) k w.heap.size 0 (fun _ => none) :=
 ⟨.map [], World.ownsMap_made _ _ _ _, rfl, fun kl => ⟨rfl, fun v h => by cases h⟩⟩
theorem MapV.kept {w' : World} {row : Option Nat} (h : MapV P w k b cnt f) (hg : w.grownBy w' row) (hne : some b ≠ row) : MapV P w' k b cnt f := by
 obtain ⟨D, h1, h2, h3⟩ := h
 exact ⟨D, h1.kept hg hne, h2, h3⟩
theorem MapV.alloc (h : MapV P w k b cnt f) (o : Obj) : MapV P (w.alloc o) k b cnt f := by
 obtain ⟨D, h1, h2, h3⟩ := h
 exact ⟨D, h1.alloc o, h2, h3⟩
theorem MapV.lt (h : MapV P w k b cnt f) : b < w.heap.size := by obtain ⟨D, h1, _⟩ := h; exact h1.lt
theorem MapV.out {F : Nat → Prop} {w' : World} (h : MapV P w k b cnt f) (ho : Out F w w') (hb : ¬ F b) : MapV P w' k b cnt f := by
 obtain ⟨D, ⟨es, c, hh, r⟩, h2⟩ := h
 exact ⟨D, ⟨es, c, ho.keep hh hb, r⟩, h2⟩
theorem MapV.below (h : MapV P w k b cnt f) {w' : World} (hb : Below w.heap.size w w') : MapV P w' k b cnt f := h.out (F := fun _ => False) (Out.of hb) id
theorem MapV.obj (h : MapV P w k b cnt f) : ∃ es c, w.heap[b]? = some (.map es c) := by
 obtain ⟨D, ⟨es, c, hb, _⟩, _⟩ := h
 exact ⟨es, c, hb⟩
theorem MapV.look {t : TypeId} (h : MapV P w k b cnt f) (K : Keyed P k) (ht : P.underlying t = some (.map k e)) {z : Value} (hz : ∀ w, (zeroValue e).run P w = .ok z w)
  {key : Value} {kl : Lit} (hkey : keyOf P k key = some kl) : (Instr.lookup t (.map (some b)) key false).run P w = .ok ((f kl).getD z) w := by
 obtain ⟨D, h1, h2, h3⟩ := h
 obtain ⟨v, ps, hrun, hv⟩ := h1.lookup K ht (hz w) (show heldR z = some (.held z, []) from rfl) hkey
 rw [hrun]
 obtain ⟨hh, hat⟩ := h3 kl
 unfold heldR at hv
 simp only [Option.some.injEq, Prod.mk.injEq] at hv
 cases hf : f kl with
 | none =>
  rw [hf] at hh
  rw [Maps.atKey_of_not_has hh] at hv
  obtain ⟨hv, _⟩ := hv
  cases hv
  rfl
 | some u =>
  rw [hat u hf] at hv
  obtain ⟨hv, _⟩ := hv
  cases hv
  rfl
theorem MapV.len {t : TypeId} (h : MapV P w k b cnt f) (ht : P.underlying t = some (.map k e)) (ty : TypeId) : (Builtin.len_ #[t] ty #[.map (some b)]).run P w = .ok (.int .i64 cnt) w := by
 obtain ⟨D, h1, h2, h3⟩ := h
 rw [h1.len ht, h2]
theorem MapV.store {t : TypeId} (h : MapV P w k b cnt f) (K : Keyed P k) (ht : P.underlying t = some (.map k e)) (hn : cnt < maxLen) {key val : Value} {kl : Lit} (hkey : keyOf P k key = some kl) :
  ∃ w', (Instr.mapUpdate t (.map (some b)) key val).run P w = .ok () w' ∧ MapV P w' k b (if (f kl).isSome then cnt else cnt + 1) (putV f kl val) ∧ w.grownBy w' (some b) ∧ w'.heap.size = w.heap.size := by
 obtain ⟨D, h1, h2, h3⟩ := h
 obtain ⟨w', hrun, h1', ht'⟩ := h1.store K ht hn hkey (show heldR val = some (.held val, []) from rfl)
 have hs : Maps.size (D.put kl (.held val)) = if (f kl).isSome then cnt else cnt + 1 := by
  rw [Maps.size_put (h1.tidy K), (h3 kl).1, h2]
 have hsz : w'.heap.size = w.heap.size := by
  obtain ⟨es, clock, es', clock', hb, rfl⟩ := ht'
  simp [ChangeMaps.setBlock]
 refine ⟨w', hrun, ⟨D.put kl (.held val), ?_, hs, fun x => ?_⟩, ht'.grown, hsz⟩
 ·obtain ⟨es, clock, hb, F, hle, hD⟩ := h1'
  refine ⟨es, clock, hb, F, ?_, hD⟩
  rw [← hs, hD]
  simp [Maps.size, length_sorted]
 ·by_cases hx : x = kl
  ·subst hx
   rw [putV_same]
   refine ⟨by rw [Maps.has_put_same h1.isMap (K.key hkey)]; rfl, fun u hu z => ?_⟩
   rw [Maps.atKey_put_same h1.isMap (K.key hkey)]
   cases hu
   rfl
  ·rw [putV_ne hx]
   refine ⟨by rw [Maps.has_put_other hx, (h3 x).1], fun u hu z => ?_⟩
   rw [Maps.atKey_put_other hx]
   exact (h3 x).2 u hu z
theorem MapV.drop {t : TypeId} (h : MapV P w k b cnt f) (K : Keyed P k) (ht : P.underlying t = some (.map k e)) {key : Value} {kl : Lit} (hkey : keyOf P k key = some kl) (ty : TypeId) :
  ∃ w', (Builtin.delete_ #[t, k] ty #[.map (some b), key]).run P w = .ok (.tuple #[]) w' ∧ MapV P w' k b (if (f kl).isSome then cnt - 1 else cnt) (delV f kl) ∧ w.grownBy w' (some b) ∧ w'.heap.size = w.heap.size := by
 obtain ⟨D, h1, h2, h3⟩ := h
 obtain ⟨w', hrun, h1', ht'⟩ := h1.drop K ht hkey ty
 have hs : Maps.size (D.del kl) = if (f kl).isSome then cnt - 1 else cnt := by
  have := Maps.size_del (k := kl) (h1.tidy K)
  rw [(h3 kl).1, h2] at this
  split at this <;> rename_i hc
  ·rw [if_pos hc]; omega
  ·rw [if_neg hc]; omega
 have hsz : w'.heap.size = w.heap.size := by
  obtain ⟨es, clock, es', clock', hb, rfl⟩ := ht'
  simp [ChangeMaps.setBlock]
 refine ⟨w', hrun, ⟨D.del kl, ?_, hs, fun x => ?_⟩, ht'.grown, hsz⟩
 ·obtain ⟨es, clock, hb, F, hle, hD⟩ := h1'
  refine ⟨es, clock, hb, F, ?_, hD⟩
  rw [← hs, hD]
  simp [Maps.size, length_sorted]
 ·by_cases hx : x = kl
  ·subst hx
   rw [delV_same]
   exact ⟨Maps.has_del_same, fun u hu z => by cases hu⟩
  ·rw [delV_ne hx]
   refine ⟨by rw [Maps.has_del_other hx, (h3 x).1], fun u hu z => ?_⟩
   rw [Maps.atKey_del_other hx]
   exact (h3 x).2 u hu z
end
end Go.Proofs.YthmpknlgkflhiabGreat
namespace Go.Proofs.YthmpknlgkflhiabGreat
open Go.RowKit
set_option linter.unusedVariables false
theorem int_ne (a b : Bool) (c d e f : Int) (w : World) : Sem.run Tryz.prog (binOp BinOp.neq 67 (.agg #[.bool a, .int .u64 c, .int .u64 e]) (.agg #[.bool b, .int .u64 d, .int .u64 f])) w = .ok (.bool (!(a == b && (c == d && e == f)))) w := by
 cases h1 : a == b <;> cases h2 : c == d <;> cases h3 : e == f <;> go_simp
theorem wi_ext {x y : WI} (h : (x.neg == y.neg && (x.hi == y.hi && x.lo == y.lo)) = true) : x = y := by
 obtain ⟨a, b, c⟩ := x
 obtain ⟨a', b', c'⟩ := y
 simp at h
 obtain ⟨rfl, rfl, rfl⟩ := h
 rfl
theorem take_eq_succ {α : Type} {xs ys : List α} {k : Nat} {x y : α} (hx : xs[k]? = some x) (hy : ys[k]? = some y) (h : xs.take k = ys.take k) (he : x = y) : xs.take (k + 1) = ys.take (k + 1) := by rw [take_snoc hx, take_snoc hy, h, he]
end Go.Proofs.YthmpknlgkflhiabGreat
namespace Go.Proofs.YthmpknlgkflhiabGreat
open Go.RowKit
set_option linter.unusedVariables false
theorem Vals.new {t : TD} (h : t.ents = []) : Vals t [] := ⟨by simp [h], by simp, by simp⟩
def addRow (ps : List PW) (t : TD) : List (List WI) := t.cps.map fun x => match partOf ps x.c.id with | some p => p.val | none => []
theorem Vals.add {B : Nat} {w : World} {t : TD} {V : List (List (List WI))} {e : Int} {ps : List PW} {ea : Option Addr} {ec : Nat} {D : List CD} (hT : TabIn B w t) (h : Vals t V) (hfit : ∀ x ∈ t.cps, ∃ p, partOf ps x.c.id = some p ∧ fitF x.c.fields p.val = 0 ∧ ∀ y ∈ p.val, y.wf)
  (hD : ∀ (i : Nat) (d d' : CD), t.cols[i]? = some d → D[i]? = some d' → PutG ps t.cps i d d') : Vals { t with ents := t.ents ++ [e], ea := ea, ec := ec, cols := D } (V ++ [addRow ps t]) := by
 refine ⟨by simp [h.len], fun r hr => ?_, ?_⟩
 ·rcases List.mem_append.1 hr with hr | hr
  ·exact h.row r hr
  ·obtain rfl := List.mem_singleton.1 hr
   simp [addRow]
 ·intro k i r v x d' hk hv hx hd'
  have hil := (List.getElem?_eq_some_iff.1 hx).1
  obtain ⟨d, hd⟩ : ∃ d, t.cols[i]? = some d := ⟨_, List.getElem?_eq_getElem (by rw [hT.len]; exact hil)⟩
  obtain ⟨_, _, _, hrl⟩ := hT.col i x d hx hd
  obtain ⟨hrows, _⟩ := hD i d d' hd hd' x hx
  have hVl := h.len
  rcases Nat.lt_or_ge k V.length with hlt | hge
  ·rw [List.getElem?_append_left hlt] at hk
   obtain ⟨h1, h2⟩ := h.at_ k i r v x d hk hv hx hd
   exact ⟨by rw [hrows, List.getElem?_append_left (by omega)]; exact h1, h2⟩
  ·rw [List.getElem?_append_right hge] at hk
   have hk0 : k - V.length = 0 := by
    have := (List.getElem?_eq_some_iff.1 hk).1
    simp at this
    omega
   rw [hk0] at hk
   simp at hk
   subst hk
   obtain ⟨p, hp, hf, hw⟩ := hfit x (List.mem_of_getElem? hx)
   have hvv : v = p.val := by
    unfold addRow at hv
    rw [List.getElem?_map, hx] at hv
    simp [hp] at hv
    exact hv.symm
   subst hvv
   refine ⟨?_, hf, hw⟩
   rw [hrows, List.getElem?_append_right (by omega), show k - d.rows.length = 0 by omega]
   simp [rowOf, hp]
theorem set_take_at {α : Type} {l : List α} {r m k : Nat} {a x : α} (h : ((l.set r a).take m)[k]? = some x) : k < m ∧ ((k = r ∧ x = a) ∨ (k ≠ r ∧ l[k]? = some x)) := by
 rw [List.getElem?_take] at h
 split at h
 ·rename_i hk
  refine ⟨hk, ?_⟩
  rw [List.getElem?_set] at h
  split at h
  ·rename_i hr
   split at h
   ·exact .inl ⟨hr.symm, by cases h; rfl⟩
   ·cases h
  ·rename_i hr
   exact .inr ⟨fun e => hr e.symm, h⟩
 ·cases h
theorem set_at {α : Type} {l : List α} {r k : Nat} {a x : α} (h : (l.set r a)[k]? = some x) : (k = r ∧ x = a) ∨ (k ≠ r ∧ l[k]? = some x) := by
 have hk := (List.getElem?_eq_some_iff.1 h).1
 exact (set_take_at (m := k + 1) (by rw [List.getElem?_take, if_pos (by omega)]; exact h)).2
theorem Vals.drop {B : Nat} {w : World} {t : TD} {V : List (List (List WI))} {r m : Nat} {e : Int} {vl : List (List WI)} {D : List CD} (hT : TabIn B w t) (h : Vals t V) (hr : r ≤ m) (hm : t.ents.length = m + 1) (hl : V[m]? = some vl)
  (hD : ∀ (i : Nat) (d d' : CD), t.cols[i]? = some d → D[i]? = some d' → DropG r m i d d') : Vals { t with ents := (t.ents.set r e).take m, cols := D } ((V.set r vl).take m) := by
 have hVl := h.len
 refine ⟨by simp [h.len], fun q hq => ?_, ?_⟩
 ·obtain ⟨k, hk⟩ := List.getElem?_of_mem hq
  obtain ⟨_, ⟨_, rfl⟩ | ⟨_, h2⟩⟩ := set_take_at hk
  ·exact h.row _ (List.mem_of_getElem? hl)
  ·exact h.row _ (List.mem_of_getElem? h2)
 ·intro k i q v x d' hk hv hx hd'
  have hil := (List.getElem?_eq_some_iff.1 hx).1
  obtain ⟨d, hd⟩ : ∃ d, t.cols[i]? = some d := ⟨_, List.getElem?_eq_getElem (by rw [hT.len]; exact hil)⟩
  obtain ⟨_, _, _, hrl⟩ := hT.col i x d hx hd
  obtain ⟨l, hl'⟩ : ∃ l, d.rows[m]? = some l := ⟨_, List.getElem?_eq_getElem (by omega)⟩
  obtain ⟨hrows, _⟩ := hD i d d' hd hd' l hl'
  obtain ⟨hkm, hc⟩ := set_take_at hk
  rcases hc with ⟨rfl, rfl⟩ | ⟨hne, h2⟩
  ·obtain ⟨h1, h3⟩ := h.at_ m i q v x d hl hv hx hd
   rw [hl'] at h1
   cases h1
   refine ⟨?_, h3⟩
   rw [hrows, List.getElem?_take, if_pos hkm, List.getElem?_set, if_pos rfl, if_pos (by omega)]
  ·obtain ⟨h1, h3⟩ := h.at_ k i q v x d h2 hv hx hd
   refine ⟨?_, h3⟩
   rw [hrows, List.getElem?_take, if_pos hkm, List.getElem?_set, if_neg (fun e => hne e.symm)]
   exact h1
theorem Vals.put {t : TD} {V : List (List (List WI))} {i k : Nat} {d : CD} {x : CV} {r : List (List WI)} {v : List WI} (h : Vals t V) (hk : V[k]? = some r) (hx : t.cps[i]? = some x) (hd : t.cols[i]? = some d) (hkl : k < d.rows.length) (hfit : fitF x.c.fields v = 0) (hwf : ∀ y ∈ v, y.wf) :
  Vals (t.put i k d (packF x.c.fields v)) (V.set k (r.set i v)) := by
 refine ⟨by rw [List.length_set]; exact h.len, fun q hq => ?_, ?_⟩
 ·obtain ⟨j, hj⟩ := List.getElem?_of_mem hq
  rcases set_at hj with ⟨_, rfl⟩ | ⟨_, h2⟩
  ·rw [List.length_set]; exact h.row _ (List.mem_of_getElem? hk)
  ·exact h.row _ (List.mem_of_getElem? h2)
 ·intro k' i' q v' x' d' hk' hv' hx' hd'
  have hx2 : t.cps[i']? = some x' := hx'
  rcases set_at (show (t.cols.set i { d with rows := d.rows.set k (packF x.c.fields v) })[i']? = some d' from hd') with ⟨rfl, rfl⟩ | ⟨hne, hd2⟩
  ·obtain rfl : x' = x := by rw [hx] at hx2; cases hx2; rfl
   rcases set_at hk' with ⟨rfl, rfl⟩ | ⟨hne2, hk2⟩
   ·rcases set_at hv' with ⟨_, rfl⟩ | ⟨hne3, _⟩
    ·refine ⟨?_, hfit, hwf⟩
     show (d.rows.set k' _)[k']? = _
     rw [List.getElem?_set, if_pos rfl, if_pos hkl]
    ·exact absurd rfl hne3
   ·obtain ⟨h1, h3⟩ := h.at_ k' i' q v' x' d hk2 hv' hx hd
    refine ⟨?_, h3⟩
    show (d.rows.set k _)[k']? = _
    rw [List.getElem?_set, if_neg (fun e => hne2 e.symm)]
    exact h1
  ·rcases set_at hk' with ⟨rfl, rfl⟩ | ⟨hne2, hk2⟩
   ·rcases set_at hv' with ⟨rfl, _⟩ | ⟨_, hv2⟩
    ·exact absurd rfl hne
    ·exact h.at_ k' i' r v' x' d' hk hv2 hx2 hd2
   ·exact h.at_ k' i' q v' x' d' hk2 hv' hx2 hd2
end Go.Proofs.YthmpknlgkflhiabGreat
namespace Go.Proofs.YthmpknlgkflhiabGreat
open Go.RowKit
set_option linter.unusedVariables false
section
variable {B : Nat} {w : World} {t : TD} {V : List (List (List WI))}
theorem TDeed.refl (h : TabIn B w t) {w' : World} (hb : Below w.heap.size w w') : TDeed B t t w w' := ⟨h.below hb, rfl, rfl, rfl, rfl, rfl, Out.of hb, fun _ => .inl⟩
theorem tabAdd_deed (h : TabIn B w t) (hV : Vals t V) (e : Int) (ps : List PW) (pa : Option Addr) (pl pc : Nat) (hps : ∀ w', Out t.cfoot w w' → PartsAt w'.heap.size w' pa pl pc ps) (hl : pl ≤ 100000) (herr : addErr t e ps = 0)
  (hfit : ∀ x ∈ t.cps, ∃ p, partOf ps x.c.id = some p ∧ fitF x.c.fields p.val = 0 ∧ ∀ y ∈ p.val, y.wf) :
  Calls Tryz.prog 42 #[.pointer (some ⟨t.tb, 0, none⟩), .int .u64 e, .slice pa pl pc] w fun en w' => en = .returned (.tuple #[.int .i64 (t.ents.length : Int), .int .i64 0]) ∧ ∃ t', TDeed B t t' w w' ∧ t'.ents = t.ents ++ [e] ∧ t'.kept = t.kept ∧ t'.cps = t.cps ∧ Vals t' (V ++ [addRow ps t]) := by
 refine (tabAdd_ok h e ps pa pl pc hps hl herr).mono ?_
 rintro en w' ⟨rfl, ea, ec, D, hT, hG, hO, hF⟩
 exact ⟨rfl, _, ⟨hT, rfl, rfl, rfl, rfl, rfl, hO, hF⟩, rfl, rfl, rfl, hV.add h hfit hG⟩
theorem tabDrop_deed (h : TabIn B w t) (hV : Vals t V) (r m : Nat) (hr : r ≤ m) (hm : t.ents.length = m + 1) (x : Int) (hx : t.ents[m]? = some x) (vl : List (List WI)) (hvl : V[m]? = some vl) :
  Calls Tryz.prog 84 #[.pointer (some ⟨t.tb, 0, none⟩), .int .i64 (r : Int)] w fun en w' => en = .returned (.tuple #[.int .u64 (if r = m then 0 else x), .int .i64 0]) ∧ ∃ t', TDeed B t t' w w' ∧ t'.ents = (t.ents.set r x).take m ∧ t'.kept = t.kept ∧ t'.cps = t.cps ∧ Vals t' ((V.set r vl).take m) := by
 refine (tabDrop_ok h r m hr hm x hx).mono ?_
 rintro en w' ⟨rfl, D, hT, hG, hO, hF⟩
 exact ⟨rfl, _, ⟨hT, rfl, rfl, rfl, rfl, rfl, hO, hF⟩, rfl, rfl, rfl, hV.drop h hr hm hvl hG⟩
theorem Vals.kept (hV : Vals t V) (k : Nat) : Vals { t with kept := k } V := ⟨hV.len, hV.row, hV.at_⟩
theorem tabKeep_deed (h : TabIn B w t) (hV : Vals t V) (hf : t.free ≠ 0) : Calls Tryz.prog 65 #[.pointer (some ⟨t.tb, 0, none⟩)] w fun e w' => e = .returned (.int .i64 0) ∧ ∃ t', TDeed B t t' w w' ∧ t'.ents = t.ents ∧ t'.kept = t.kept + 1 ∧ t'.cps = t.cps ∧ Vals t' V := by
 refine (tabKeep_in h).mono ?_
 rintro e w' ⟨rfl, hT, hO⟩
 rw [if_neg hf] at hT
 exact ⟨by rw [if_neg hf], _, ⟨hT, rfl, rfl, rfl, rfl, rfl, hO, fun _ hb => .inl hb⟩, rfl, rfl, rfl, hV.kept _⟩
theorem tabYield_deed (h : TabIn B w t) (hV : Vals t V) (hk : t.kept ≠ 0) : Calls Tryz.prog 64 #[.pointer (some ⟨t.tb, 0, none⟩)] w fun e w' => e = .returned (.int .i64 0) ∧ ∃ t', TDeed B t t' w w' ∧ t'.ents = t.ents ∧ t'.kept = t.kept - 1 ∧ t'.cps = t.cps ∧ Vals t' V := by
 refine (tabYield_in h).mono ?_
 rintro e w' ⟨rfl, hT, hO⟩
 rw [if_neg hk] at hT
 exact ⟨by rw [if_neg hk], _, ⟨hT, rfl, rfl, rfl, rfl, rfl, hO, fun _ hb => .inl hb⟩, rfl, rfl, rfl, hV.kept _⟩
theorem tabSet_deed (h : TabIn B w t) (hV : Vals t V) (k i : Nat) (x : CV) (d : CD) (r : List (List WI)) (hr : V[k]? = some r) (comp : Int) (va : Option Addr) (vl vc : Nat) (v : List WI) (hk : k < t.ents.length) (hc : colOf t.cps comp = some x) (hx : t.cps[i]? = some x) (hd : t.cols[i]? = some d) (hp : IntsAt w.heap.size w va vl vc v) (hfit : fitF x.c.fields v = 0) (hwf : ∀ y ∈ v, y.wf) :
  Calls Tryz.prog 53 #[.pointer (some ⟨t.tb, 0, none⟩), .int .i64 (k : Int), .agg #[.int .i64 comp, .slice va vl vc]] w fun e w' => e = .returned (.int .i64 0) ∧ ∃ t', TDeed B t t' w w' ∧ t'.ents = t.ents ∧ t'.kept = t.kept ∧ t'.cps = t.cps ∧ Vals t' (V.set k (r.set i v)) := by
 refine (tabSet_ok h k i x d comp va vl vc v hk hc hx hd hp hfit).mono ?_
 rintro e w' ⟨rfl, hT, hF, hO⟩
 obtain ⟨_, _, _, hrl⟩ := h.col i x d hx hd
 exact ⟨rfl, _, ⟨hT, rfl, rfl, rfl, rfl, rfl, hO.mono (fun b hb => .inl (.inr (.inr hb))), fun b hb => .inl (hF b hb)⟩, rfl, rfl, rfl, hV.put hr hx hd (by omega) hfit hwf⟩
end
end Go.Proofs.YthmpknlgkflhiabGreat
namespace Go.Proofs.YthmpknlgkflhiabGreat
set_option linter.unusedVariables false
def at0 (l : List Int) (k : Nat) : Int := l.getD k 0
theorem at0_some {l : List Int} {k : Nat} {x : Int} (h : l[k]? = some x) : at0 l k = x := by
 unfold at0; rw [List.getD_eq_getElem?_getD, h]; rfl
theorem at0_get {l : List Int} {k : Nat} (h : k < l.length) : l[k]? = some (at0 l k) := by
 unfold at0; rw [List.getD_eq_getElem?_getD, List.getElem?_eq_getElem h]; rfl
def swapL (l : List Int) (i j : Nat) : List Int := (l.set i (at0 l j)).set j (at0 l i)
theorem swapL_len (l : List Int) (i j : Nat) : (swapL l i j).length = l.length := by unfold swapL; simp
theorem swapL_at {l : List Int} {i j : Nat} (hi : i < l.length) (hj : j < l.length) (k : Nat) : at0 (swapL l i j) k = if k = j then at0 l i else if k = i then at0 l j else at0 l k := by
 unfold swapL at0
 simp only [List.getD_eq_getElem?_getD, List.getElem?_set, List.length_set]
 by_cases h1 : k = j
 ·subst h1; simp [hj]
 ·rw [if_neg (fun e => h1 e.symm), if_neg h1]
  by_cases h2 : k = i
  ·subst h2; simp [hi]
  ·rw [if_neg (fun e => h2 e.symm), if_neg h2]
theorem swapL_perm {l : List Int} {i j : Nat} (hi : i < l.length) (hj : j < l.length) : (swapL l i j).Perm l := by
 unfold swapL
 have h1 : at0 l j = l[j] := by unfold at0; rw [List.getD_eq_getElem?_getD, List.getElem?_eq_getElem hj]; rfl
 have h2 : at0 l i = l[i] := by unfold at0; rw [List.getD_eq_getElem?_getD, List.getElem?_eq_getElem hi]; rfl
 rw [h1, h2]
 exact List.set_set_perm hi hj
def HeapN (l : List Int) (n : Nat) : Prop := ∀ k, 1 ≤ k → k < n → at0 l ((k - 1) / 2) ≤ at0 l k
structure DownN (l : List Int) (n i : Nat) : Prop where
 rest : ∀ k, 1 ≤ k → k < n → (k - 1) / 2 ≠ i → at0 l ((k - 1) / 2) ≤ at0 l k
 over : ∀ k, 1 ≤ k → k < n → (k - 1) / 2 = i → 1 ≤ i → at0 l ((i - 1) / 2) ≤ at0 l k
structure UpN (l : List Int) (n j : Nat) : Prop where
 rest : ∀ k, 1 ≤ k → k < n → k ≠ j → at0 l ((k - 1) / 2) ≤ at0 l k
 over : ∀ k, 1 ≤ k → k < n → (k - 1) / 2 = j → 1 ≤ j → at0 l ((j - 1) / 2) ≤ at0 l k
theorem HeapN.down {l : List Int} {n : Nat} (h : HeapN l n) (i : Nat) : DownN l n i :=
 ⟨fun k h1 h2 _ => h k h1 h2, fun k h1 h2 h3 h4 => by
  have a := h k h1 h2
  rw [h3] at a
  have b := h i h4 (by omega)
  omega⟩
theorem DownN.leaf {l : List Int} {n i : Nat} (h : DownN l n i) (hi : n ≤ 2 * i + 1) : HeapN l n := fun k h1 h2 => h.rest k h1 h2 (by omega)
theorem DownN.stop {l : List Int} {n i j : Nat} (h : DownN l n i) (hj : at0 l i ≤ at0 l j) (hm : ∀ k, 1 ≤ k → k < n → (k - 1) / 2 = i → at0 l j ≤ at0 l k) : HeapN l n := fun k h1 h2 => by
 by_cases e : (k - 1) / 2 = i
 ·rw [e]; have := hm k h1 h2 e; omega
 ·exact h.rest k h1 h2 e
theorem DownN.step {l : List Int} {n i j : Nat} (h : DownN l n i) (hn : n ≤ l.length) (hj1 : 1 ≤ j) (hjn : j < n) (hji : (j - 1) / 2 = i) (hlt : at0 l j < at0 l i) (hm : ∀ k, 1 ≤ k → k < n → (k - 1) / 2 = i → at0 l j ≤ at0 l k) : DownN (swapL l i j) n j := by
 have hi : i < l.length := by omega
 have hjl : j < l.length := by omega
 have hij : i ≠ j := by omega
 refine ⟨fun k h1 h2 h3 => ?_, fun k h1 h2 h3 h4 => ?_⟩
 ·rw [swapL_at hi hjl, swapL_at hi hjl, if_neg h3]
  by_cases e1 : (k - 1) / 2 = i
  ·rw [if_pos e1]
   by_cases e2 : k = j
   ·rw [if_pos e2]; omega
   ·rw [if_neg e2, if_neg (by omega)]
    exact hm k h1 h2 e1
  ·rw [if_neg e1, if_neg (by intro e; subst e; exact e1 hji)]
   by_cases e2 : k = i
   ·subst e2
    rw [if_pos rfl]
    exact h.over j hj1 hjn hji h1
   ·rw [if_neg e2]
    exact h.rest k h1 h2 e1
 ·rw [swapL_at hi hjl, swapL_at hi hjl, hji, if_neg hij, if_pos rfl, if_neg (by omega), if_neg (by omega)]
  have := h.rest k h1 h2 (by omega)
  rw [h3] at this
  exact this
theorem UpN.stop {l : List Int} {n j : Nat} (h : UpN l n j) (hj : j = 0 ∨ at0 l ((j - 1) / 2) ≤ at0 l j) : HeapN l n := fun k h1 h2 => by
 by_cases e : k = j
 ·subst e
  rcases hj with hj | hj
  ·omega
  ·exact hj
 ·exact h.rest k h1 h2 e
theorem UpN.step {l : List Int} {n i j : Nat} (h : UpN l n j) (hn : n ≤ l.length) (hj1 : 1 ≤ j) (hjn : j < n) (hij : i = (j - 1) / 2) (hlt : at0 l j < at0 l i) : UpN (swapL l i j) n i := by
 subst hij
 have hi : (j - 1) / 2 < l.length := by omega
 have hjl : j < l.length := by omega
 refine ⟨fun k h1 h2 h3 => ?_, fun k h1 h2 h3 h4 => ?_⟩
 ·rw [swapL_at hi hjl, swapL_at hi hjl]
  by_cases e2 : k = j
  ·subst e2
   rw [if_pos rfl, if_neg (by omega), if_pos rfl]; omega
  ·rw [if_neg e2, if_neg h3]
   by_cases e1 : (k - 1) / 2 = j
   ·rw [if_pos e1]
    exact h.over k h1 h2 e1 hj1
   ·rw [if_neg e1]
    by_cases e3 : (k - 1) / 2 = (j - 1) / 2
    ·rw [if_pos e3]
     have := h.rest k h1 h2 e2
     rw [e3] at this
     omega
    ·rw [if_neg e3]; exact h.rest k h1 h2 e2
 ·rw [swapL_at hi hjl, swapL_at hi hjl, if_neg (by omega), if_neg (by omega)]
  have hp := h.rest ((j - 1) / 2) h4 (by omega) (by omega)
  by_cases e : k = j
  ·rw [if_pos e]; exact hp
  ·rw [if_neg e, if_neg (by omega)]
   have := h.rest k h1 h2 e
   rw [h3] at this
   omega
theorem HeapN.least {l : List Int} {n : Nat} (h : HeapN l n) : ∀ k, k < n → at0 l 0 ≤ at0 l k := by
 intro k
 induction k using Nat.strongRecOn with
 | _ k ih =>
  intro hk
  rcases Nat.eq_zero_or_pos k with rfl | h0
  ·exact Int.le_refl _
  ·have a := ih ((k - 1) / 2) (by omega) (by omega)
   have b := h k h0 hk
   omega
theorem HeapN.of_take {l : List Int} {n m : Nat} (h : HeapN l n) (hm : m ≤ n) : HeapN (l.take m) m := fun k h1 h2 => by
 have := h k h1 (by omega)
 unfold at0 at *
 rw [List.getD_eq_getElem?_getD, List.getD_eq_getElem?_getD] at *
 rw [List.getElem?_take_of_lt (by omega), List.getElem?_take_of_lt h2]
 exact this
theorem HeapN.snoc {l : List Int} (h : HeapN l l.length) (x : Int) : UpN (l ++ [x]) (l.length + 1) l.length := by
 have e : ∀ k, k < l.length → at0 (l ++ [x]) k = at0 l k := fun k hk => by
  unfold at0
  rw [List.getD_eq_getElem?_getD, List.getD_eq_getElem?_getD, List.getElem?_append_left hk]
 exact ⟨fun k h1 h2 h3 => by rw [e _ (by omega), e _ (by omega)]; exact h k h1 (by omega), fun k h1 h2 h3 h4 => by omega⟩
theorem HeapN.swapped {l : List Int} {m : Nat} (h : HeapN l (m + 1)) (hl : l.length = m + 1) : DownN (swapL l 0 m) m 0 := by
 refine ⟨fun k h1 h2 h3 => ?_, fun k h1 h2 h3 h4 => by omega⟩
 rw [swapL_at (by omega) (by omega), swapL_at (by omega) (by omega), if_neg (by omega), if_neg h3, if_neg (by omega), if_neg (by omega)]
 exact h k h1 (by omega)
end Go.Proofs.YthmpknlgkflhiabGreat
