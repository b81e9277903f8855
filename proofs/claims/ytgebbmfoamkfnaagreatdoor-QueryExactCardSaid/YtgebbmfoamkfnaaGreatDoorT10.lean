/- Contracts of layout.Pack and its closure. · Frames: all stays but a set of blocks; rows. · Columns with rows: how they lie; cell, check, Get. -/
import Derived.Test.YtgebbmfoamkfnaaGreatDoorT9
import Derived.Test.YtgebbmfoamkfnaaGreatDoorT1
import Derived.Lib.BufferWrite
import Derived.Deep.DeepCutAuto
namespace Go.Proofs.YtgebbmfoamkfnaaGreatDoor
open Go.RowKit
set_option linter.unusedVariables false
theorem builder_below {T e : TypeId} {B b : Nat} {bs : List Value} {w w' : World} (h : Lib.IsBuilderF T e B b bs w) (hb : Below w.heap.size w w') : Lib.IsBuilderF T e B b bs w' := by
 rcases h with ⟨h1, v, h2, h3, h4⟩ | ⟨h1, v, h2, h3, h4⟩
 ·exact .inl ⟨h1, v, keep hb h2, h3.kept (grownOf hb none) (by cases v.ownBlock <;> simp), h4⟩
 ·exact .inr ⟨h1, v, keep hb h2, h3.kept (grownOf hb none) (by cases v.ownBlock <;> simp), h4⟩
theorem othersOf {e : TypeId} {b : Option Nat} {w w' : World} (hb : Below w.heap.size w w') : Lib.OthersKept e b w w' := fun _ _ hk _ _ => keep hb hk
theorem ret_si {l l' : List UInt8} {a b : Int} (h1 : l = l') (h2 : a = b) : Ending.returned (.tuple #[.string ⟨l.toArray⟩, .int .i64 a]) = .returned (.tuple #[.string ⟨l'.toArray⟩, .int .i64 b]) := by rw [h1, h2]
theorem strCells_bytes (l : List UInt8) : Lib.strCells ⟨l.toArray⟩ = Lib.byteCells l := rfl
theorem repeatL_zero (c : Nat) : Lib.repeatL [0] c = List.replicate c 0 := by
 induction c with
 | zero => rfl
 | succ c ih => rw [Lib.repeatL, ih, List.replicate_succ]; rfl
set_option maxRecDepth 100000 in
theorem pad_any (B b : Nat) (l : List UInt8) (n : Nat) (w : World) (h : Lib.IsBuilderF 203 5 B b (Lib.byteCells l) w) (hle : l.length ≤ n) (h1 : n ≤ 100000) (hBw : B ≤ w.heap.size) :
  Calls Tryz.prog 121 #[.int .i64 (n : Int), .pointer (some ⟨b, 0, none⟩)] w fun e w' => e = .returned (.tuple #[]) ∧ Lib.IsBuilderF 203 5 B b (Lib.byteCells (padB l n)) w' ∧ Below B w w' ∧ Lib.OthersKept 5 (some b) w w' := by
 have HL := Lib.hid (Lib.byteCells_length l)
 have HH := Lib.hid h
 clear h
 go_enter Tryz.func121, Tryz.ntmps121
 go_wp2_with fail
 refine (Tryz.Builder_Len_f B b _ _ HH.out).mono ?_
 rintro e w' ⟨rfl, rfl⟩
 rw [HL.out]
 have hw1 : IntKind.i64.wrap ((n : Int) - (l.length : Int)) = ((n - l.length : Nat) : Int) := by rw [IntWalk.i64_in _ (by omega)]; omega
 obtain ⟨d, hd⟩ : ∃ d, n - l.length = d := ⟨_, rfl⟩
 rw [hd] at hw1
 have HD := Lib.hid hd
 clear hd
 go_wp2_with fail
 have hd' := HD.out
 refine (Tryz.strings_Repeat ⟨#[0]⟩ d _ (by omega) (by show 1 * d ≤ _; omega)).mono ?_
 rintro e w2 ⟨rfl, hb2⟩
 have hz := hb2.size
 have hh2 : Lib.IsBuilderF 203 5 B b (Lib.byteCells l) w2 := builder_below HH.out hb2
 go_wp2_with fail
 refine (Tryz.Builder_WriteString_k B b _ _ _ hh2 (by rw [HL.out]; show l.length + (Lib.repeatL [0] d).toArray.size ≤ _; rw [repeatL_zero]; simp; omega) (by omega)).mono ?_
 rintro e w3 ⟨rfl, hb3, hbel, hok⟩
 have HB3 := Lib.hid hb3
 have HBEL := Lib.hid hbel
 have HOK := Lib.hid hok
 clear hb3 hbel hh2 hok
 go_wp2_with fail
 go_end0
 refine ⟨rfl, ?_, hb2.mono hBw |>.trans HBEL.out, (othersOf hb2).trans HOK.out⟩
 refine .inr ?_
 have := HB3.out
 rw [repeatL_zero, strCells_bytes, ← Lib.byteCells_append] at this
 unfold padB
 rw [HD.out]
 exact this
theorem keepB {B : Nat} {w w' : World} {b : Nat} {o : Obj} (hb : Below B w w') (h : w.heap[b]? = some o) (hk : b < B) : w'.heap[b]? = some o := (hb.block b hk).trans h
theorem fit_zero {fs : List Fld} {val : List WI} (h : fitF fs val = 0) : layCheck fs = 0 ∧ val.length = cnt fs ∧ fitGo fs val = 0 := by
 unfold fitF at h
 split at h
 ·contradiction
 ·rename_i h1
  split at h
  ·cases h
  ·rename_i h2
   exact ⟨by simpa using h1, by simpa using h2, h⟩
theorem fitGo_at : ∀ (fs : List Fld) (val : List WI) (k : Nat) (f : Fld), fitGo fs val = 0 → fs[k]? = some f → ((val.drop (cnt (fs.take k))).take f.count.toNat).all (fitsF f.kind) = true
 | [], _, _, _, _, h => by simp at h
 | g :: r, val, 0, f, h0, h => by
  simp at h
  subst h
  unfold fitGo at h0
  split at h0
  ·rename_i hg; simpa [cnt] using hg
  ·cases h0
 | g :: r, val, k + 1, f, h0, h => by
  unfold fitGo at h0
  split at h0
  ·have := fitGo_at r _ k f h0 (by simpa using h)
   rw [List.drop_drop] at this
   rw [List.take_succ_cons, cnt_cons]
   exact this
  ·cases h0
set_option maxRecDepth 100000 in
set_option maxHeartbeats 2000000 in
theorem pack_ok (fs : List Fld) (a : Option Addr) (len cap : Nat) (va : Option Addr) (vl vc : Nat) (val : List WI) (w : World) (hfs : FieldsAt w.heap.size w a len fs) (hc : len ≤ cap) (hv : IntsAt w.heap.size w va vl vc val) (hfit : fitF fs val = 0) :
  Calls Tryz.prog 92 #[.slice a len cap, .slice va vl vc] w fun e w' => e = .returned (.tuple #[.string ⟨(packF fs val).toArray⟩, .int .i64 0]) ∧ Below w.heap.size w w' := by
 have hmx : len ≤ maxLen := hfs.2.1
 have hlen := hfs.1
 have hvl := hv.1
 obtain ⟨hl, hcn, hgo⟩ := fit_zero hfit
 obtain ⟨h8, hall, h256⟩ := layCheck_zero hl
 have hcl := cnt_le fs hall
 unfold maxLen at hmx
 have HFS := Lib.hid hfs
 have HV := Lib.hid hv
 have HLN := Lib.hid hlen
 have HVL := Lib.hid hvl
 have HFIT := Lib.hid hfit
 have HLC := Lib.hid hl
 have HCN := Lib.hid hcn
 have HGO := Lib.hid hgo
 have HA := Lib.hid hall
 clear hfs hv hlen hvl hfit hl hcn hgo hall
 go_enter Tryz.func92, Tryz.ntmps92
 go_wp2_with fail
 refine (fit_any fs _ _ _ _ _ _ val _ HFS.out hc HV.out).mono ?_
 rintro e w1 ⟨rfl, hb1⟩
 rw [HFIT.out]
 go_wp2_with fail
 refine (plan_any fs _ _ _ _ ((HFS.out.below hb1).mono (by have := hb1.size; omega)) (by have := HLN.out; omega) (fun f hf => by have h := HA.out; rw [List.all_eq_true] at h; have := fldOk_bd (h f hf); omega)).mono ?_
 rintro e w2 ⟨pa, pc, rfl, hprow, hb2⟩
 go_wp2_with fail
 have hP := keepA (.cells #[.pointer none, .slice none 0 0] 203) (heap_alloc_new w2 (.cells #[.int .i64 (planSize fs), .slice pa len pc] 217))
 have hI := Lib.IsBuilderF.of (Lib.fresh_isBuilder 203 5 (w2.alloc (.cells #[.int .i64 (planSize fs), .slice pa len pc] 217)))
 have hbW : Below w.heap.size w ((w2.alloc (.cells #[.int .i64 (planSize fs), .slice pa len pc] 217)).alloc (.cells #[.pointer none, .slice none 0 0] 203)) := by
  have h1 := hb1.size
  have h2 := hb2.size
  exact ((hb1.trans (hb2.mono h1)).alloc (by omega) _).alloc (by simp; omega) _
 have hR : ∀ (k : Nat) (u : Int), (planF fs).1[k]? = some u → ∃ q, pa = some ⟨q, 0, none⟩ ∧ q < w2.heap.size ∧ ((w2.alloc (.cells #[.int .i64 (planSize fs), .slice pa len pc] 217)).alloc (.cells #[.pointer none, .slice none 0 0] 203)).cell? ⟨q, k, none⟩ = some (.int .i64 u) := by
  intro k u hu
  have hk : k < len := by have := (List.getElem?_eq_some_iff.1 hu).1; rw [planF_len] at this; have := HLN.out; omega
  obtain ⟨q, rfl, _, hq, hqc⟩ := row_block ((hprow.alloc (.cells #[.int .i64 (planSize fs), .slice pa len pc] 217)).alloc (.cells #[.pointer none, .slice none 0 0] 203)) (by omega)
  refine ⟨q, rfl, ?_, hqc k _ (by simp [hu])⟩
  obtain ⟨q', he, _, hq', _⟩ := row_block hprow (show 0 < len by omega)
  cases he
  exact hq'
 rw [World.size_alloc] at hI
 have hzW : ((w2.alloc (.cells #[.int .i64 (planSize fs), .slice pa len pc] 217)).alloc (.cells #[.pointer none, .slice none 0 0] 203)).heap.size = w2.heap.size + 2 := by rw [World.size_alloc, World.size_alloc]
 have hz0 : w.heap.size ≤ w2.heap.size := by have h1 := hb1.size; have h2 := hb2.size; omega
 generalize (w2.alloc (.cells #[.int .i64 (planSize fs), .slice pa len pc] 217)).alloc (.cells #[.pointer none, .slice none 0 0] 203) = W at *
 generalize w2.heap.size = PB at *
 have HP := Lib.hid hP
 have HI := Lib.hid hI
 have HR := Lib.hid hR
 have HZW := Lib.hid hzW
 clear hP hI hR hzW hprow hb1 hb2
 go_loopw [1, 27] (fun v j wr => ∃ k : Nat, k ≤ len ∧ j = .int .i64 (k : Int) ∧ FitVal w.heap.size val fs k v wr ∧ Lib.IsBuilderF 203 5 (PB + 1) (PB + 1) (Lib.byteCells (packPre (fs.take k) val).2.1) wr ∧ Below (PB + 1) W wr) (fun _ j _ => len - (intOf j).toNat)
 case atStart => exact ⟨0, by omega, rfl, ⟨_, _, _, rfl, by simpa [cnt] using HV.out.below hbW⟩, HI.out, Below.refl _ _⟩
 case round =>
  obtain ⟨k, hk, rfl, ⟨a2, l2, c2, rfl, hva⟩, hbd, hbr⟩ := hrel
  have hbw := hbW.trans (hbr.mono (show w.heap.size ≤ PB + 1 by omega))
  have hz := hbr.size
  have hzW := HZW.out
  have hzr : PB + 2 ≤ wr.heap.size := by omega
  clear hzW hz
  by_cases hlt : k < len
  ·obtain ⟨b, off, f, rfl, hB, hf, c0, c1, c2'⟩ := HFS.out.get hbw hlt
   have hfo : fldOk f = true := by have h := HA.out; rw [List.all_eq_true] at h; exact h f (List.mem_of_getElem? hf)
   obtain ⟨ks1, ks2, f1, f2⟩ := fldOk_bd hfo
   have hct := cnt_take_succ hf
   have hcl2 := cnt_take_le (fs := fs) (k + 1)
   have hll := hva.1
   rw [List.length_drop] at hll
   have hl2x : c2 ≤ maxLen := hva.2.2.1
   have hl2y : l2 ≤ c2 := hva.2.1
   unfold maxLen at hl2x
   obtain ⟨c, hc'⟩ : ∃ c : Nat, f.count = c := ⟨f.count.toNat, by omega⟩
   have hcc : c ≤ l2 := by have h1 := HCN.out; rw [hc'] at hct; simp at hct; omega
   rw [hc'] at f1 f2 c2'
   have hfl := HLN.out
   obtain ⟨p0, p1, p2, p3⟩ := plan_bd (show (fs.take k).length ≤ 8 by rw [List.length_take]; omega) (all_take HA.out k)
   obtain ⟨u1, u2, u3⟩ := upF_eq p0 (by omega) ks1 ks2
   have hpl := (pack_len _ (fs.take k) rfl (by rw [List.length_take]; omega) (all_take HA.out k) val (by have := cnt_take_le (fs := fs) k; have := HCN.out; omega)).1
   obtain ⟨n, hn⟩ : ∃ n : Nat, upF (planF (fs.take k)).2.1 (kSize f.kind) = n := ⟨(upF (planF (fs.take k)).2.1 (kSize f.kind)).toNat, by omega⟩
   have hat := plan_at hf
   rw [hn] at hat u2 u3
   obtain ⟨q, rfl, hq, hqc⟩ := HR.out k n hat
   have hqr := (hbr.cell (p := ⟨q, k, none⟩) (show q < PB + 1 by omega)).trans hqc
   have hpb := keepB hbr HP.out (by omega)
   have t0 := cell_at hpb 0
   have t1 := cell_at hpb 1
   simp at t0 t1
   have hstep : packPre (fs.take (k + 1)) val = packStep (packPre (fs.take k) val) f := by rw [take_snoc hf, packPre_snoc]
   have hrest := (pack_len _ (fs.take k) rfl (by rw [List.length_take]; omega) (all_take HA.out k) val (by have := cnt_take_le (fs := fs) k; have := HCN.out; omega)).2
   have hstep2 : (packPre (fs.take (k + 1)) val).2.1 = padB (packPre (fs.take k) val).2.1 n ++ ((val.drop (cnt (fs.take k))).take c).flatMap (putB f.kind) := by
    rw [hstep]
    unfold packStep
    rw [hrest, packPre_fst, hn, hc']
    rfl
   have hfi := fitGo_at fs val k f HGO.out hf
   rw [hc', Int.toNat_natCast] at hfi
   have i1 : (0 : Int) ≤ (k : Int) := by omega
   have i2 : (k : Int) < (len : Int) := by omega
   have z1 : PB < wr.heap.size := by omega
   have z2 : q < wr.heap.size := by omega
   have z3 : b < wr.heap.size := by omega
   have hln : (packPre (fs.take k) val).2.1.length ≤ n := by omega
   have hn1 : n ≤ 1000 := by omega
   generalize (packPre (fs.take k) val).2.1 = pre at *
   have hvf := hva.below ((Below.refl w.heap.size wr).alloc (by omega) (.cells #[.string f.name, .int .i64 f.kind, .int .i64 (c : Int)] 79))
   have hbf := builder_below hbd ((Below.refl _ wr).alloc (Nat.le_refl _) (.cells #[.string f.name, .int .i64 f.kind, .int .i64 (c : Int)] 79))
   have HCC := Lib.hid hc'
   have HF := Lib.hid hf
   have HVA := Lib.hid hvf
   have HBF := Lib.hid hbf
   have HS2 := Lib.hid hstep2
   have HFI := Lib.hid hfi
   have HLN2 := Lib.hid hln
   have HN1 := Lib.hid hn1
   clear hfo hct hcl2 hll hc' hf hva hvf hbf hbd hstep hstep2 hrest hfi hpl hat hn u1 u2 u3 p0 p1 p2 p3 hqc hfl hpb hln hn1
   go_wp2_with fail
   have hf7 := heap_alloc_new wr (.cells #[.string f.name, .int .i64 f.kind, .int .i64 (c : Int)] 79)
   have hzf := World.size_alloc wr (.cells #[.string f.name, .int .i64 f.kind, .int .i64 (c : Int)] 79)
   have hbf : Below (PB + 1) W (wr.alloc (.cells #[.string f.name, .int .i64 f.kind, .int .i64 (c : Int)] 79)) := hbr.alloc (by omega) _
   generalize wr.alloc (.cells #[.string f.name, .int .i64 f.kind, .int .i64 (c : Int)] 79) = wf at *
   obtain ⟨H, hH⟩ : ∃ H, wr.heap.size = H := ⟨_, rfl⟩
   rw [hH] at hf7 hzf ⊢
   have hzr' : PB + 2 ≤ H := by omega
   clear hH c0 c1 c2' hbr hbw z1 z2 z3 hqr t0 t1 hzr
   refine (pad_any (PB + 1) (PB + 1) pre n wf HBF.out HLN2.out (by have := HN1.out; omega) (by omega)).mono ?_
   rintro e w3 ⟨rfl, hI3, hb3, ho3⟩
   have hf3 := ho3 H _ hf7 (by simp; omega) (fun c fz he => by cases he)
   have k0 := cell_at hf3 1
   have k1 := cell_at hf3 2
   simp at k0 k1
   have hH3 := lt_some hf3
   have HF3 := Lib.hid hf3
   have HI3 := Lib.hid hI3
   have HB3 := Lib.hid (hbf.trans hb3)
   have HVA3 := Lib.hid (HVA.out.below (hb3.mono (show w.heap.size ≤ PB + 1 by omega)))
   have HLT := Lib.hid hlt
   have HZ3 := Lib.hid (show PB + 1 ≤ w3.heap.size by have := hb3.size; omega)
   clear hf3 hI3 hb3 ho3 hf7 hzf hbf HBF HVA hlt
   go_wp2_with fail
   clear k0 k1
   go_loopw [44] (fun j ws => ∃ m : Nat, m ≤ c ∧ j = .int .i64 (m : Int) ∧ Lib.IsBuilderF 203 5 (PB + 1) (PB + 1) (Lib.byteCells (padB pre n ++ ((val.drop (cnt (fs.take k))).take m).flatMap (putB f.kind))) ws ∧ ws.heap[H]? = some (.cells #[.string f.name, .int .i64 f.kind, .int .i64 (c : Int)] 79 (0, 0)) ∧ Below (PB + 1) w3 ws) (fun j _ => c - (intOf j).toNat)
   case atStart => exact ⟨0, by omega, rfl, by simpa using HI3.out, HF3.out, Below.refl _ _⟩
   case round =>
    obtain ⟨m, hm, rfl, hI, hblk, hbs⟩ := hrel
    have k1 := cell_at hblk 1
    have k2 := cell_at hblk 2
    simp at k1 k2
    have hHs := lt_some hblk
    have hzs : PB + 1 ≤ wr.heap.size := by omega
    have HII := Lib.hid hI
    have HBLK := Lib.hid hblk
    have HBS := Lib.hid hbs
    clear hI hblk hbs
    by_cases hlt : m < c
    ·obtain ⟨vb, vo, x, rfl, hvb, hx, hxw, x0, x1, x2⟩ := HVA3.out.get (HBS.out.mono (show w.heap.size ≤ PB + 1 by omega)) (show m < l2 by omega)
     have htk : ((val.drop (cnt (fs.take k))).take c)[m]? = some x := by rw [List.getElem?_take, if_pos hlt]; exact hx
     have hfx : fitsF f.kind x = true := by have h := HFI.out; rw [List.all_eq_true] at h; exact h x (List.mem_of_getElem? htk)
     have htk2 : ((val.drop (cnt (fs.take k))).take (m + 1)).flatMap (putB f.kind) = ((val.drop (cnt (fs.take k))).take m).flatMap (putB f.kind) ++ putB f.kind x := by rw [take_snoc hx, List.flatMap_append]; simp
     have hpl : (padB pre n).length + (((val.drop (cnt (fs.take k))).take m).flatMap (putB f.kind)).length ≤ 2000 := by
      rw [padB_len HLN2.out, flat_len]
      have h1 := HN1.out
      have h2 : ((val.drop (cnt (fs.take k))).take m).length ≤ 8 := by rw [List.length_take]; omega
      have h3 := (kSize_bd f.kind).2
      have h4 : ((val.drop (cnt (fs.take k))).take m).length * (kSize f.kind).toNat ≤ 8 * 8 := Nat.mul_le_mul h2 (by omega)
      omega
     have hi1 := builder_below HII.out ((Below.refl _ wr).alloc (Nat.le_refl _) (.cells #[.bool x.neg, .int .u64 x.hi, .int .u64 x.lo] 87))
     have hbl1 := keepA (.cells #[.bool x.neg, .int .u64 x.hi, .int .u64 x.lo] 87) HBLK.out
     have HI1 := Lib.hid hi1
     have HBL1 := Lib.hid hbl1
     have HTK := Lib.hid htk2
     have HPL := Lib.hid hpl
     have HFX := Lib.hid hfx
     have i1 : (0 : Int) ≤ (m : Int) := by omega
     have i2 : (m : Int) < (c : Int) := by omega
     clear hx htk hfx htk2 hpl hi1 hbl1
     obtain ⟨xn, xh, xl⟩ := x
     go_wp2_with fail
     refine (put_any f.kind ⟨xn, xh, xl⟩ _ hxw HFX.out).mono ?_
     rintro e w5 ⟨rfl, hb5⟩
     have hi5 := builder_below HI1.out hb5
     have hbl5 := keep hb5 HBL1.out
     have hzz := hb5.size
     rw [World.size_alloc] at hzz
     have HI5 := Lib.hid hi5
     have HBL5 := Lib.hid hbl5
     have HB5 := Lib.hid ((HBS.out.alloc hzs (.cells #[.bool xn, .int .u64 xh, .int .u64 xl] 87)).trans (hb5.mono (by simp; omega)))
     clear hi5 hbl5 hb5 k1 k2 x0 x1 x2
     go_wp2_with fail
     refine (Tryz.Builder_WriteString_k (PB + 1) (PB + 1) _ ⟨(putB f.kind ⟨xn, xh, xl⟩).toArray⟩ _ HI5.out (by
      rw [Lib.byteCells_length, List.length_append]
      have h1 := HPL.out
      have h2 := (kSize_bd f.kind).2
      have h3 : (putB f.kind ⟨xn, xh, xl⟩).toArray.size ≤ 8 := by rw [List.size_toArray, putB_len]; omega
      show _ + (putB f.kind ⟨xn, xh, xl⟩).toArray.size ≤ _
      omega) (by omega)).mono ?_
     rintro e w6 ⟨rfl, hI6, hb6, ho6⟩
     have hf6 := ho6 H _ HBL5.out (by simp; omega) (fun c fz he => by cases he)
     have HI6 := Lib.hid hI6
     have HF6 := Lib.hid hf6
     have HB6 := Lib.hid (HB5.out.trans hb6)
     clear hI6 hf6 hb6 ho6
     go_wp2_with fail
     go_roundw
     case rel =>
      refine ⟨m + 1, by omega, by go_num, ?_, HF6.out, HB6.out⟩
      rw [HTK.out, ← List.append_assoc, Lib.byteCells_append, ← strCells_bytes (putB f.kind ⟨xn, xh, xl⟩)]
      exact .inr HI6.out
     case measure => simp [intOf]; omega
    ·obtain rfl : m = c := by omega
     have hdr := (HVA3.out.below (HBS.out.mono (show w.heap.size ≤ PB + 1 by omega))).drop hcc
     rw [List.drop_drop] at hdr
     have hct := cnt_take_succ HF.out
     rw [HCC.out, Int.toNat_natCast] at hct
     rw [← hct] at hdr
     have HDR := Lib.hid hdr
     clear hdr hct
     have hlt2 := HLT.out
     have HBB := Lib.hid (HB3.out.trans HBS.out)
     have hII := HII.out
     rw [← HS2.out] at hII
     have HII2 := Lib.hid hII
     clear hII
     by_cases he : c2 = m
     ·subst he
      obtain rfl : l2 = c2 := by omega
      have hdr := HDR.out
      rw [if_pos rfl, Nat.sub_self] at hdr
      have HDR2 := Lib.hid hdr
      clear hdr
      go_wp2_with fail
      go_roundw
      case rel => exact ⟨k + 1, by omega, by go_num, ⟨_, _, _, rfl, HDR2.out⟩, HII2.out, HBB.out⟩
      case measure => simp [intOf]; omega
     ·have hdr := HDR.out
      rw [if_neg he] at hdr
      have HDR2 := Lib.hid hdr
      clear hdr
      go_wp2_with fail
      go_roundw
      case rel => exact ⟨k + 1, by omega, by go_num, ⟨_, _, _, rfl, HDR2.out⟩, HII2.out, HBB.out⟩
      case measure => simp [intOf]; omega
  ·obtain rfl : k = len := by omega
   rw [List.take_of_length_le (by have := HLN.out; omega)] at hbd
   have hfl := HLN.out
   obtain ⟨p0, p1, p2, p3⟩ := plan_bd (show fs.length ≤ 8 by omega) HA.out
   obtain ⟨u1, u2, u3⟩ := upF_eq p0 (by omega) p2 p3
   have hpl := (pack_len _ fs rfl (by omega) HA.out val (by have := HCN.out; omega)).1
   obtain ⟨n, hn⟩ : ∃ n : Nat, planSize fs = n := ⟨(planSize fs).toNat, by unfold planSize; omega⟩
   have hln : (packPre fs val).2.1.length ≤ n := by unfold planSize at hn; omega
   have hn1 : n ≤ 1000 := by omega
   have HRES := Lib.hid (show packF fs val = padB (packPre fs val).2.1 n by unfold packF; rw [hn]; rfl)
   have hpb := keepB hbr HP.out (by omega)
   have t0 := cell_at hpb 0
   have t1 := cell_at hpb 1
   rw [hn] at t0
   simp at t0 t1
   generalize (packPre fs val).2.1 = pre at *
   have HBD := Lib.hid hbd
   have HLN2 := Lib.hid hln
   have HBW := Lib.hid hbw
   have HN1 := Lib.hid hn1
   clear hbd hln hpb hn hpl u1 u2 u3 p0 p1 p2 p3 hfl hva hbw hn1
   go_wp2_with fail
   refine (pad_any (PB + 1) (PB + 1) pre n _ HBD.out HLN2.out (by have := HN1.out; omega) (by omega)).mono ?_
   rintro e w3 ⟨rfl, hI3, hb3, _⟩
   have hz3 := hb3.size
   have HI3 := Lib.hid hI3
   have HB3 := Lib.hid hb3
   clear hI3 hb3
   go_wp2_with fail
   refine (Tryz.Builder_String_any_k (PB + 1) (PB + 1) _ _ HI3.out (by omega)).mono ?_
   rintro e w4 ⟨rfl, _, hb4, _⟩
   have HB4 := Lib.hid hb4
   clear hb4
   go_wp2_with fail
   go_ret2
   exact ⟨ret_si HRES.out.symm rfl, (HBW.out.trans (HB3.out.mono (by omega))).trans (HB4.out.mono (by omega))⟩
end Go.Proofs.YtgebbmfoamkfnaaGreatDoor
namespace Go.Proofs.YtgebbmfoamkfnaaGreatDoor
open Go.RowKit
set_option linter.unusedVariables false
structure Out (F : Nat → Prop) (w w' : World) : Prop where
 os : w'.os = w.os
 tape : w'.tape = w.tape
 output : w'.output = w.output
 size : w.heap.size ≤ w'.heap.size
 block : ∀ k, k < w.heap.size → ¬ F k → w'.heap[k]? = w.heap[k]?
theorem Out.refl (F : Nat → Prop) (w : World) : Out F w w := ⟨rfl, rfl, rfl, Nat.le_refl _, fun _ _ _ => rfl⟩
theorem Out.trans {F G : Nat → Prop} {a b c : World} (h : Out F a b) (k : Out G b c) (hG : ∀ x, G x → F x ∨ a.heap.size ≤ x) : Out F a c :=
 ⟨k.os.trans h.os, k.tape.trans h.tape, k.output.trans h.output, Nat.le_trans h.size k.size, fun i hi hF => (k.block i (by have := h.size; omega) (fun hg => by exact (hG i hg).elim hF (by omega))).trans (h.block i hi hF)⟩
theorem Out.mono {F G : Nat → Prop} {a b : World} (h : Out F a b) (hG : ∀ x, F x → G x ∨ a.heap.size ≤ x) : Out G a b := ⟨h.os, h.tape, h.output, h.size, fun i hi hn => h.block i hi (fun hf => by exact (hG i hf).elim hn (by omega))⟩
theorem Out.of {F : Nat → Prop} {a b : World} (h : Below a.heap.size a b) : Out F a b := ⟨h.os, h.tape, h.output, h.size, fun i hi _ => h.block i hi⟩
theorem Out.below {F : Nat → Prop} {B : Nat} {a b : World} (h : Out F a b) (hF : ∀ x, F x → B ≤ x) (hB : B ≤ a.heap.size) : Below B a b := ⟨h.os, h.tape, h.output, h.size, fun i hi => h.block i (by omega) (fun hf => by have := hF i hf; omega)⟩
theorem Out.keep {F : Nat → Prop} {a b : World} (h : Out F a b) {k : Nat} {o : Obj} (hk : a.heap[k]? = some o) (hn : ¬ F k) : b.heap[k]? = some o := (h.block k (lt_some hk) hn).trans hk
theorem Out.only {b : Nat} {F : Nat → Prop} {w w' : World} (h : Only b w w') (hF : F b) : Out F w w' := ⟨h.os, h.tape, h.output, by rw [h.size]; exact Nat.le_refl _, fun k _ hk => h.block k (fun e => hk (e ▸ hF))⟩
theorem ownsRow_out {F : Nat → Prop} {w w' : World} {b s : Nat} {e : TypeId} {v : Value} {n : Nat} {xs : List Value} (h : w.ownsRow b e s v n xs) (ho : Out F w w') (hn : ∀ x, v.ownBlock = some x → ¬ F x) : w'.ownsRow b e s v n xs := by
 obtain ⟨h1, h2⟩ := h
 refine ⟨h1, ?_⟩
 rcases h2 with h2 | ⟨g, cap, cur, rfl, hg, hh, r⟩
 ·exact .inl h2
 ·exact .inr ⟨g, cap, cur, rfl, hg, ho.keep hh (hn g rfl), r⟩
theorem Out.drewN {F : Nat → Prop} {a b : World} (h : Out F a b) (n : Nat) : Out F a (b.drewN n) := ⟨h.os, h.tape, h.output, h.size, h.block⟩
theorem ret_sl {a : Option Addr} {n n' c : Nat} (h : n = n') : Ending.returned (.slice a n c) = .returned (.slice a n' c) := by rw [h]
theorem row_type {w : World} {B s : Nat} {e : TypeId} {v : Value} {n : Nat} {xs : List Value} (h : w.ownsRow B e s v n xs) {b : Nat} (hb : v.ownBlock = some b) : ∃ cur, w.heap[b]? = some (.cells cur e (0, 0)) := by
 rcases h.2 with ⟨rfl, _⟩ | ⟨g, cap, cur, rfl, _, hh, _⟩
 ·cases hb
 ·obtain rfl : g = b := by simpa [Value.ownBlock] using hb
  exact ⟨cur, hh⟩
theorem ownsRow_set {w : World} {b : Nat} {e : TypeId} {va : Option Addr} {n vc r : Nat} {xs : List Value} (u : Value) (h : w.ownsRow b e 1 (.slice va n vc) n xs) (hr : r < n) :
  ∃ q, va = some ⟨q, 0, none⟩ ∧ (w.setCell ⟨q, r, none⟩ u).ownsRow b e 1 (.slice va n vc) n (xs.set r u) ∧ w.frozen? ⟨q, r, none⟩ = false ∧ q < w.heap.size ∧ n ≤ vc := by
 obtain ⟨h1, h2⟩ := h
 rcases h2 with ⟨_, h3⟩ | ⟨g, cap, cur, hv, hg, hh, hc1, hc2, hc3, hc4⟩
 ·omega
 ·cases hv
  refine ⟨g, rfl, ⟨by rw [List.length_set]; exact h1, .inr ⟨g, vc, cur.setIfInBounds r u, rfl, hg, hset w g r u _ _ _ hh, hc1, hc2, by rw [Array.size_setIfInBounds]; exact hc3, ?_⟩⟩, free_at hh r, lt_some hh, hc1⟩
  rw [Array.toList_setIfInBounds, ← hc4, List.take_set]
end Go.Proofs.YtgebbmfoamkfnaaGreatDoor
namespace Go.Proofs.YtgebbmfoamkfnaaGreatDoor
open Go.RowKit
set_option linter.unusedVariables false
def chunkV (size : Nat) (cf : Nat → Nat) (g : Nat) : Value := .slice (some ⟨g, 0, none⟩) (16 * size) (cf g)
structure ColMem (B : Nat) (w : World) (size cap n cb : Nat) (va : Option Addr) (vc : Nat) (gs : List Nat) (cf : Nat → Nat) : Prop where
 blk : w.heap[cb]? = some (.cells #[.int .i64 size, .int .i64 cap, .int .i64 n, .slice va gs.length vc] 223 (0, 0))
 own : w.ownsRow B 156 1 (.slice va gs.length vc) gs.length (gs.map (chunkV size cf))
 hcb : B ≤ cb
 nd : gs.Nodup
 chunk : ∀ g ∈ gs, B ≤ g ∧ ∃ arr : Array Value, w.heap[g]? = some (.cells arr 5 (0, 0)) ∧ arr.size = cf g ∧ ∀ u ∈ arr.toList.take (16 * size), u.oneCell' = true
 hsz : size ≤ 256
 hn : n ≤ 65536
 hcap : cap ≤ 65536
 hgl : gs.length ≤ 4097
 hcf : ∀ g ∈ gs, 16 * size ≤ cf g
structure CD where
 size : Nat
 cap : Nat
 rows : List (List UInt8)
 cb : Nat
 va : Option Addr
 vc : Nat
 gs : List Nat
 cf : Nat → Nat
structure ColAt (B : Nat) (w : World) (d : CD) : Prop where
 mem : ColMem B w d.size d.cap d.rows.length d.cb d.va d.vc d.gs d.cf
 num : d.gs.length = (d.rows.length + 15) / 16
 cell : ∀ (i : Nat) (row : List UInt8), d.rows[i]? = some row → ∀ g, d.gs[i / 16]? = some g → ∀ (k : Nat) (x : UInt8), row[k]? = some x → w.cell? ⟨g, i % 16 * d.size + k, none⟩ = some (.int .u8 x.toNat)
 sz : ∀ r ∈ d.rows, r.length = d.size
 hle : d.rows.length ≤ d.cap
def CD.foot (d : CD) (b : Nat) : Prop := b = d.cb ∨ (Value.slice d.va d.gs.length d.vc).ownBlock = some b ∨ b ∈ d.gs
theorem ColMem.out {F : Nat → Prop} {B : Nat} {w w' : World} {size cap n cb : Nat} {va : Option Addr} {vc : Nat} {gs : List Nat} {cf : Nat → Nat} (h : ColMem B w size cap n cb va vc gs cf) (ho : Out F w w') (h1 : ¬ F cb) (h2 : ∀ x, (Value.slice va gs.length vc).ownBlock = some x → ¬ F x) (h3 : ∀ g ∈ gs, ¬ F g) : ColMem B w' size cap n cb va vc gs cf :=
 ⟨ho.keep h.blk h1, ownsRow_out h.own ho h2, h.hcb, h.nd, fun g hg => ⟨(h.chunk g hg).1, by obtain ⟨arr, h4, h5⟩ := (h.chunk g hg).2; exact ⟨arr, ho.keep h4 (h3 g hg), h5⟩⟩, h.hsz, h.hn, h.hcap, h.hgl, h.hcf⟩
theorem ColAt.out {F : Nat → Prop} {B : Nat} {w w' : World} {d : CD} (h : ColAt B w d) (ho : Out F w w') (hF : ∀ b, d.foot b → ¬ F b) : ColAt B w' d := by
 refine ⟨h.mem.out ho (hF _ (.inl rfl)) (fun x hx => hF x (.inr (.inl hx))) (fun g hg => hF g (.inr (.inr hg))), h.num, fun i row hr g hg k x hx => ?_, h.sz, h.hle⟩
 have hgm := List.mem_of_getElem? hg
 obtain ⟨_, arr, ha, _⟩ := h.mem.chunk g hgm
 have := h.cell i row hr g hg k x hx
 rw [cell_at ha] at this
 rw [cell_at (ho.keep ha (hF g (.inr (.inr hgm))))]
 exact this
theorem ColAt.foot_ge {B : Nat} {w : World} {d : CD} (h : ColAt B w d) {b : Nat} (hb : d.foot b) : B ≤ b ∧ b < w.heap.size := by
 rcases hb with rfl | hb | hb
 ·exact ⟨h.mem.hcb, lt_some h.mem.blk⟩
 ·exact h.mem.own.lt b hb
 ·obtain ⟨h1, arr, h2, _⟩ := h.mem.chunk b hb
  exact ⟨h1, lt_some h2⟩
def ColTy (w : World) (b : Nat) : Prop := ∃ cs t fr, w.heap[b]? = some (.cells cs t fr) ∧ (t = 223 ∨ t = 156 ∨ t = 5)
theorem ColAt.foot_ty {B : Nat} {w : World} {d : CD} (h : ColAt B w d) {b : Nat} (hb : d.foot b) : ColTy w b := by
 rcases hb with rfl | hb | hb
 ·exact ⟨_, _, _, h.mem.blk, .inl rfl⟩
 ·rcases h.mem.own.2 with ⟨h1, _⟩ | ⟨g, cap, cur, h1, _, h2, _⟩
  ·rw [h1] at hb; cases hb
  ·rw [h1] at hb
   obtain rfl : g = b := by simpa [Value.ownBlock] using hb
   exact ⟨_, _, _, h2, .inr (.inl rfl)⟩
 ·obtain ⟨_, arr, h2, _⟩ := h.mem.chunk b hb
  exact ⟨_, _, _, h2, .inr (.inr rfl)⟩
set_option maxRecDepth 100000 in
set_option maxHeartbeats 1000000 in
theorem colCell_any (B : Nat) (w : World) (size cap n cb : Nat) (va : Option Addr) (vc : Nat) (gs : List Nat) (cf : Nat → Nat) (i g : Nat) (h : ColMem B w size cap n cb va vc gs cf) (hg : gs[i / 16]? = some g) :
  Calls Tryz.prog 126 #[.pointer (some ⟨cb, 0, none⟩), .int .i64 (i : Int)] w fun e w' => e = .returned (.slice (some ⟨g, i % 16 * size, none⟩) size (cf g - i % 16 * size)) ∧ ∃ q, w' = w.drewN q := by
 have hlt := (List.getElem?_eq_some_iff.1 hg).1
 have hgl := h.hgl
 have hsz := h.hsz
 have c0 := cell_at h.blk 0
 have c3 := cell_at h.blk 3
 simp at c0 c3
 obtain ⟨q, rfl, _, _, hq⟩ := row_block h.own (by omega)
 have r0 := hq (i / 16) (chunkV size cf g) (by simp [hg])
 unfold chunkV at r0
 obtain ⟨k, hk⟩ : ∃ k, i / 16 = k := ⟨_, rfl⟩
 obtain ⟨m, hm⟩ : ∃ m, i % 16 = m := ⟨_, rfl⟩
 obtain ⟨a, ha⟩ : ∃ a, m * size = a := ⟨_, rfl⟩
 have hm16 : m < 16 := by omega
 have ha1 : a ≤ 15 * size := by rw [← ha]; exact Nat.mul_le_mul_right _ (by omega)
 rw [hm, ha]
 rw [hk] at r0 hlt
 have k1 : (i : Int) / 16 = (k : Int) := by omega
 have m1 : (i : Int) % 16 = (m : Int) := by omega
 have a1 : IntKind.i64.wrap ((m : Int) * (size : Int)) = (a : Int) := by rw [IntWalk.i64_in _ (by rw [← Int.natCast_mul, ha]; omega), ← Int.natCast_mul, ha]
 obtain ⟨e, he⟩ : ∃ e, e = a + size := ⟨_, rfl⟩
 have s1 : IntKind.i64.wrap ((a : Int) + (size : Int)) = (e : Int) := by rw [IntWalk.i64_in _ (by omega)]; omega
 have td1 : (i : Int).tdiv 16 = (k : Int) := by rw [Int.tdiv_eq_ediv_of_nonneg (by omega)]; exact k1
 have tw1 : IntKind.i64.wrap (k : Int) = (k : Int) := IntWalk.i64_in _ (by omega)
 have i1 : (0 : Int) ≤ (k : Int) := by omega
 have i2 : (k : Int) < (gs.length : Int) := by omega
 have i3 : (0 : Int) ≤ (i : Int) := by omega
 have hi : (i : Int) ≤ 100000 := by omega
 have b1 : (0 : Int) ≤ (a : Int) := by omega
 have b2 : (a : Int) ≤ (e : Int) := by omega
 have hcf := h.hcf g (List.mem_of_getElem? hg)
 generalize cf g = K at *
 have b3 : (e : Int) ≤ (K : Int) := by omega
 have HE := Lib.hid (show e - a = size by omega)
 by_cases hz : size = 0
 ·subst hz
  obtain rfl : a = 0 := by omega
  obtain rfl : e = 0 := by omega
  have w0 : IntKind.i64.wrap 0 = 0 := by decide
  clear hg hlt h hq hk hm ha hm16 s1 a1 b1 b2 b3 HE he ha1 hcf
  by_cases hK0 : K = 0
  ·subst hK0
   go_enter Tryz.func126, Tryz.ntmps126
   go_wp2_with fail
   go_quiet (fail)
   go_wp2_with fail
   go_returns
   exact ⟨rfl, _, rfl⟩
  ·have hK1 : (0 : Int) ≤ (K : Int) := by omega
   go_enter Tryz.func126, Tryz.ntmps126
   go_wp2_with fail
   go_quiet (fail)
   go_wp2_with fail
   go_returns
   exact ⟨rfl, _, rfl⟩
 ·have hne : ¬ (K = a) := by omega
  clear hg hlt h hq hk hm ha hm16 hz he hcf
  go_enter Tryz.func126, Tryz.ntmps126
  go_wp2_with fail
  go_quiet (fail)
  go_wp2_with fail
  go_returns
  exact ⟨ret_sl HE.out, _, rfl⟩
set_option maxRecDepth 100000 in
theorem colCheck_any (size cap n cb : Nat) (v : Value) (i : Int) (w : World) (h : w.heap[cb]? = some (.cells #[.int .i64 size, .int .i64 cap, .int .i64 n, v] 223 (0, 0))) :
  Calls Tryz.prog 194 #[.pointer (some ⟨cb, 0, none⟩), .int .i64 i] w fun e w' => e = .returned (.int .i64 (if 0 ≤ i ∧ i < n then 0 else 3)) ∧ w = w' := by
 have c2 := cell_at h 2
 simp at c2
 clear h
 by_cases h0 : 0 ≤ i
 ·by_cases h1 : i < n
  ·have e1 : decide (i < 0) = false := by simp; omega
   have e2 : decide ((n : Int) ≤ i) = false := by simp; omega
   rw [if_pos ⟨h0, h1⟩]
   go_enter Tryz.func194, Tryz.ntmps194
   go_wp2_with fail
   go_returns
   exact ⟨rfl, rfl⟩
  ·have e1 : decide (i < 0) = false := by simp; omega
   have e2 : decide ((n : Int) ≤ i) = true := by simp; omega
   rw [if_neg (fun h => h1 h.2)]
   go_enter Tryz.func194, Tryz.ntmps194
   go_wp2_with fail
   go_returns
   exact ⟨rfl, rfl⟩
 ·have e1 : decide (i < 0) = true := by simp; omega
  rw [if_neg (fun h => h0 h.1)]
  go_enter Tryz.func194, Tryz.ntmps194
  go_wp2_with fail
  go_returns
  exact ⟨rfl, rfl⟩
set_option maxRecDepth 100000 in
theorem colGet_any (B : Nat) (w : World) (d : CD) (i : Nat) (row : List UInt8) (h : ColAt B w d) (hr : d.rows[i]? = some row) :
  Calls Tryz.prog 163 #[.pointer (some ⟨d.cb, 0, none⟩), .int .i64 (i : Int)] w fun e w' => e = .returned (.tuple #[.string ⟨row.toArray⟩, .int .i64 0]) ∧ Below w.heap.size w w' := by
 have hi := (List.getElem?_eq_some_iff.1 hr).1
 have hgi : i / 16 < d.gs.length := by have := h.num; omega
 obtain ⟨g, hg⟩ : ∃ g, d.gs[i / 16]? = some g := ⟨_, List.getElem?_eq_getElem hgi⟩
 have hsz := h.sz row (List.mem_of_getElem? hr)
 have hcell := h.cell i row hr g hg
 have hchk := colCheck_any d.size d.cap d.rows.length d.cb _ (i : Int) w h.mem.blk
 rw [if_pos ⟨by omega, by omega⟩] at hchk
 have HCHK := Lib.hid hchk
 have HCELL := Lib.hid (colCell_any B w _ _ _ _ _ _ _ _ i g h.mem hg)
 have hcv : ∀ q, (convert 156 9 (.slice (some ⟨g, i % 16 * d.size, none⟩) d.size (d.cf g - i % 16 * d.size))).run Tryz.prog (w.drewN q) = .ok (.string ⟨row.toArray⟩) (w.drewN q) := by
  intro q
  rw [← hsz]
  refine run_convert_bytes_back (w.drewN q) 156 9 5 ⟨g, i % 16 * row.length, none⟩ _ row Tryz.underlying156 Tryz.underlying5 Tryz.underlying9 (fun j hj => ?_)
  rw [show (⟨g, i % 16 * row.length, none⟩ : Addr).add j = ⟨g, i % 16 * row.length + j, none⟩ from by simp [Addr.add]]
  show w.cell? ⟨g, i % 16 * row.length + j, none⟩ = _
  rw [hsz]
  exact hcell j _ (List.getElem?_eq_getElem hj)
 have HCV := Lib.hid hcv
 clear hcv hchk hcell hsz hgi hi hg hr h
 go_enter Tryz.func163, Tryz.ntmps163
 go_wp2_with fail
 refine HCHK.out.mono ?_
 rintro e w1 ⟨rfl, rfl⟩
 go_wp2_with fail
 refine HCELL.out.mono ?_
 rintro e w1 ⟨rfl, q, rfl⟩
 have hcv := HCV.out q
 clear HCV HCHK HCELL
 go_wp2_with fail
 go_ret2
 exact ⟨rfl, below_drewN (Below.refl _ _) _⟩
end Go.Proofs.YtgebbmfoamkfnaaGreatDoor
