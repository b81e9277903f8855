/- Contracts of retrofitref07.Find and Check. -/
import Derived.Test.YtgnilkjdpfbjgaaGreatQ18
import Derived.Deep.QuietTactic
import Derived.BigQuiet
namespace Go.Proofs.YtgnilkjdpfbjgaaGreat
open Go.RowKit
set_option linter.unusedVariables false
set_option maxRecDepth 100000 in
theorem find07_any (ver id : Int) (cs : List Cmp) (a : Option Addr) (len cap : Nat) (w : World) (hcs : CompsAt w.heap.size w a len cs) :
    Calls Tryz.prog 60 #[.agg #[.int .i64 ver, .slice a len cap], .int .i64 id] w fun e w' => e = .returned (.int .i64 (idxF id 0 cs)) ∧ Below w.heap.size w w' := by
  have hmx : len ≤ maxLen := hcs.2.1
  have HLL := Lib.hid hcs.1
  unfold maxLen at hmx
  have hbel0 : Below w.heap.size w (w.alloc (.cells #[.int .i64 ver, .slice a len cap] 25)) := by go_grown
  have hcs1 := (hcs.below hbel0).mono hbel0.size
  have s1 : (w.alloc (.cells #[.int .i64 ver, .slice a len cap] 25)).cell? ⟨w.heap.size, 1, none⟩ = some (.slice a len cap) := by rw [cell_at (heap_alloc_new w _)]; rfl
  have HB := Lib.hid hbel0
  clear hbel0 hcs
  go_enter Tryz.func60, Tryz.ntmps60
  go_wp2_with fail
  generalize w.alloc (.cells #[.int .i64 ver, .slice a len cap] 25) = V at *
  go_loop [5] (fun i => ∃ k : Nat, k ≤ len ∧ i = .int .i64 k ∧ idxF id 0 cs = idxF id k (cs.drop k)) (fun i => len - (intOf i).toNat)
  case atStart => exact ⟨0, by omega, rfl, rfl⟩
  case round =>
    obtain ⟨k, hk, rfl, hgo⟩ := hrel
    have HG := Lib.hid hgo
    clear hgo
    by_cases hlt : k < len
    · obtain ⟨b, off, c, rfl, hB, hc, c0, c1, fa, fl, fc, c2, hF, hnil⟩ := hcs1.get (Below.refl _ _) hlt
      have hstep := Lib.hid (HG.out.trans (by rw [drop_get hc]))
      have i1 : (0 : Int) ≤ (k : Int) := by omega
      have i2 : (k : Int) < (len : Int) := by omega
      by_cases h : c.id = id
      · have H1 : Hid (idxF id 0 cs = k) := Lib.hid (by rw [hstep.out]; unfold idxF; rw [if_pos h])
        have e1 : (c.id == id) = true := by simp [h]
        clear h
        go_wp2_with fail
        go_returns
        exact ⟨ret_intk H1.out.symm, HB.out⟩
      · have H1 := Lib.hid (hstep.out.trans (idxF_skip h))
        have e1 : (c.id == id) = false := by simp [h]
        clear h
        go_wp2_with fail
        go_round
        case rel => exact ⟨k + 1, by omega, by go_num, H1.out⟩
        case measure => simp [intOf]; omega
    · obtain rfl : k = len := by omega
      have H1 : Hid (idxF id 0 cs = -1) := Lib.hid (by rw [HG.out, List.drop_eq_nil_of_le (by have := HLL.out; omega)]; rfl)
      go_wp2_with fail
      go_returns
      exact ⟨ret_intk H1.out.symm, HB.out⟩
/-- What stands in a round of Check. -/
structure CkSt (w0 : World) (sb cb : Nat) (ver : Int) (a : Option Addr) (len cap : Nat) (c : Cmp) (fa : Option Addr) (fl fc : Nat) (V : World) : Prop where
  s : V.heap[sb]? = some (.cells #[.int .i64 ver, .slice a len cap] 25 (0, 0))
  cc : V.heap[cb]? = some (.cells #[.int .i64 c.id, .string c.name, .slice fa fl fc] 67 (0, 0))
  b : Below w0.heap.size w0 V
  F : FieldsAt w0.heap.size V fa fl c.fields
theorem CkSt.drewN {w0 : World} {sb cb : Nat} {ver : Int} {a : Option Addr} {len cap : Nat} {c : Cmp} {fa : Option Addr} {fl fc : Nat} {V : World} (h : CkSt w0 sb cb ver a len cap c fa fl fc V) (n : Nat) : CkSt w0 sb cb ver a len cap c fa fl fc (V.drewN n) := ⟨h.s, h.cc, below_drewN h.b n, h.F.below (below_drewN (Below.refl _ _) n)⟩
theorem CkSt.below {w0 : World} {sb cb : Nat} {ver : Int} {a : Option Addr} {len cap : Nat} {c : Cmp} {fa : Option Addr} {fl fc : Nat} {V V' : World} (h : CkSt w0 sb cb ver a len cap c fa fl fc V) (hb : Below V.heap.size V V') : CkSt w0 sb cb ver a len cap c fa fl fc V' := ⟨keep hb h.s, keep hb h.cc, h.b.trans (hb.mono h.b.size), h.F.below (hb.mono h.b.size)⟩
def nmL (s : ByteArray) : List UInt8 := s.data.toList
theorem nmL_inj {s t : ByteArray} (h : nmL s = nmL t) : s = t := by
  cases s; cases t; simp [nmL] at h; rw [h]
theorem str_ne {s t : ByteArray} (h : s ≠ t) : (s.toList == t.toList) = false := by
  rw [beq_eq_false_iff_ne, ByteArray.toList_eq, ByteArray.toList_eq]
  exact fun e => h (nmL_inj e)
theorem not_contains {l : List (List UInt8)} {x : List UInt8} (h : ∀ (m : Nat) (y : List UInt8), l[m]? = some y → y ≠ x) : l.contains x = false := by
  rw [Bool.eq_false_iff]
  intro hc
  rw [List.contains_iff_mem] at hc
  obtain ⟨m, hm⟩ := List.getElem?_of_mem hc
  exact h m x hm rfl
set_option maxRecDepth 100000 in
set_option maxHeartbeats 8000000 in
theorem check07_any (ver : Int) (cs : List Cmp) (a : Option Addr) (len cap : Nat) (w : World) (hcs : CompsAt w.heap.size w a len cs) (hw : CompsWf cs) :
    Calls Tryz.prog 53 #[.agg #[.int .i64 ver, .slice a len cap]] w fun e w' => e = .returned (.int .i64 (schemaCheck ver cs)) ∧ Below w.heap.size w w' := by
  have hmx : len ≤ maxLen := hcs.2.1
  unfold maxLen at hmx
  rcases (by omega : ver < 1 ∨ (1 ≤ ver ∧ 1073741824 < ver) ∨ (1 ≤ ver ∧ ver ≤ 1073741824)) with h | ⟨h, h'⟩ | ⟨h, h'⟩
  · have H : Hid (schemaCheck ver cs = 1) := Lib.hid (by unfold schemaCheck; rw [if_pos (.inl h)])
    go_enter Tryz.func53, Tryz.ntmps53
    go_wp2_with fail
    go_returns
    exact ⟨ret_intk H.out.symm, by go_grown⟩
  · have H : Hid (schemaCheck ver cs = 1) := Lib.hid (by unfold schemaCheck; rw [if_pos (.inr h')])
    go_enter Tryz.func53, Tryz.ntmps53
    go_wp2_with fail
    go_returns
    exact ⟨ret_intk H.out.symm, by go_grown⟩
  · have H : Hid (schemaCheck ver cs = compsGo 0 [] cs) := Lib.hid (by unfold schemaCheck; rw [if_neg (by omega)])
    have HS := Lib.hid (And.intro (heap_alloc_new w (.cells #[.int .i64 ver, .slice a len cap] 25)) (show Below w.heap.size w (w.alloc (.cells #[.int .i64 ver, .slice a len cap] 25)) by go_grown))
    go_enter Tryz.func53, Tryz.ntmps53
    go_wp2_with fail
    go_loopw [3] (fun i wr => ∃ (k : Nat) (last : Int), k ≤ len ∧ i = .int .i64 k ∧ compsGo 0 [] cs = compsGo last ((cs.take k).map fun c => (c.name).data.toList) (cs.drop k) ∧ (k = 0 → last = 0) ∧ (∀ c, 0 < k → cs[k - 1]? = some c → last = c.id ∧ 1 ≤ c.id) ∧
        wr.heap[w.heap.size]? = some (.cells #[.int .i64 ver, .slice a len cap] 25 (0, 0)) ∧ Below w.heap.size w wr) (fun i _ => len - (intOf i).toNat)
    case atStart => exact ⟨0, 0, Nat.zero_le _, rfl, rfl, fun _ => rfl, fun c h => by omega, HS.out.1, HS.out.2⟩
    case round =>
      obtain ⟨k, last, hk, rfl, hgo, hl0, hl1, hS, hbw⟩ := hrel
      have HG := Lib.hid hgo
      have HL := Lib.hid (And.intro hl0 hl1)
      clear hgo hl0 hl1
      have hzr := hbw.size
      have s1 := cell_at hS 1
      simp at s1
      by_cases hlt : k < len
      · obtain ⟨b, off, c, rfl, hB, hc, c0, c1, fa, fl, fc, c2, hF, hnil⟩ := hcs.get hbw hlt
        have htk := Lib.hid (take_snoc hc)
        obtain ⟨hsz, hszf⟩ := hw c (List.mem_of_getElem? hc)
        have hstep := Lib.hid (HG.out.trans (by rw [drop_get hc]))
        have HC := Lib.hid hc
        have hST : CkSt w w.heap.size wr.heap.size ver (some ⟨b, off, none⟩) len cap c fa fl fc (wr.alloc (.cells #[.int .i64 c.id, .string c.name, .slice fa fl fc] 67)) := ⟨keepA _ hS, heap_alloc_new wr _, hbw.alloc hzr _, hF.below ((Below.refl _ wr).alloc hzr _)⟩
        have HST := Lib.hid hST
        have i1 : (0 : Int) ≤ (k : Int) := by omega
        have i2 : (k : Int) < (len : Int) := by omega
        clear hST hS hbw hc hF
        go_upto_region 7 with (fail)
        clear c0 c1 c2 s1
        generalize wr.alloc (.cells #[.int .i64 c.id, .string c.name, .slice fa fl fc] 67) = V at *
        generalize wr.heap.size = cb at *
        have s1 := cell_at HST.out.s 1
        have d0 := cell_at HST.out.cc 0
        have d1 := cell_at HST.out.cc 1
        have d2 := cell_at HST.out.cc 2
        simp at s1 d0 d1 d2
        go_cut [55] (fun s wx => ∃ bb : Bool, s = .bool bb ∧ (bb = true ↔ c.id ≤ last ∨ 24 < c.id) ∧ CkSt w w.heap.size cb ver (some ⟨b, off, none⟩) len cap c fa fl fc wx)
        case first =>
          rcases (by omega : c.id < 1 ∨ (1 ≤ c.id ∧ 24 < c.id) ∨ (1 ≤ c.id ∧ c.id ≤ 24 ∧ k = 0) ∨ (1 ≤ c.id ∧ c.id ≤ 24 ∧ 0 < k)) with h1 | ⟨h1, h2⟩ | ⟨h1, h2, h3⟩ | ⟨h1, h2, h3⟩
          · have HLE : Hid (c.id ≤ last) := Lib.hid (by
              rcases (by omega : k = 0 ∨ 0 < k) with h0 | h0
              · rw [HL.out.1 h0]; omega
              · obtain ⟨c', hc'⟩ : ∃ c', cs[k - 1]? = some c' := ⟨_, List.getElem?_eq_getElem (by have := (List.getElem?_eq_some_iff.1 HC.out).1; omega)⟩
                have := HL.out.2 c' h0 hc'; omega)
            go_quiet (fail)
            go_wp2_with fail
            go_meet
            exact ⟨_, rfl, by simp [HLE.out], HST.out.drewN _⟩
          · have t1 : ¬ c.id < 1 := by omega
            go_quiet (fail)
            go_wp2_with fail
            go_meet
            exact ⟨_, rfl, by simp [h2], HST.out.drewN _⟩
          · have t1 : ¬ c.id < 1 := by omega
            have t2 : ¬ 24 < c.id := by omega
            have HLE : Hid (¬ c.id ≤ last) := Lib.hid (by rw [HL.out.1 h3]; omega)
            subst h3
            go_quiet (fail)
            go_wp2_with fail
            go_meet
            exact ⟨_, rfl, by simp [HLE.out]; omega, HST.out.drewN _⟩
          · have t1 : ¬ c.id < 1 := by omega
            have t2 : ¬ 24 < c.id := by omega
            have t3 : (0 : Int) < (k : Int) := by omega
            obtain ⟨b', off', c', hbo, hB', hc', p0, _⟩ := hcs.get HST.out.b (k := k - 1) (by omega)
            cases hbo
            have HLE := Lib.hid (HL.out.2 c' h3 hc').1
            have j1 : ((k : Int) - 1).toNat = k - 1 := by omega
            have j2 : (0 : Int) ≤ (k : Int) - 1 := by omega
            have j3 : (k : Int) - 1 < (len : Int) := by omega
            clear hc'
            rcases (by omega : c.id ≤ c'.id ∨ c'.id < c.id) with h4 | h4
            · go_quiet (fail)
              go_wp2_with fail
              go_meet
              exact ⟨_, rfl, by simp [HLE.out, h4], HST.out.drewN _⟩
            · have t4 : ¬ c.id ≤ c'.id := by omega
              go_quiet (fail)
              go_wp2_with fail
              go_meet
              exact ⟨_, rfl, by simp [HLE.out, t4]; omega, HST.out.drewN _⟩
        case rest =>
          obtain ⟨bb, rfl, hbb, hst⟩ := hcut
          have HBB := Lib.hid hbb
          have HST2 := Lib.hid hst
          clear hbb hst HST s1 d0 d1 d2
          generalize wc = V2 at *
          cases bb
          · have hno : ¬ (c.id ≤ last ∨ 24 < c.id) := fun h => by have := HBB.out.2 h; cases this
            have HNO := Lib.hid hno
            have d1 := cell_at HST2.out.cc 1
            simp at d1
            clear hno
            go_wp2_with fail
            refine (name07_any c.name _ hsz).mono ?_
            rintro e w' ⟨rfl, rfl⟩
            cases hn : isNameB c.name
            · have H1 : Hid (schemaCheck ver cs = 4) := Lib.hid (by rw [H.out, hstep.out]; unfold compsGo; rw [if_neg HNO.out, if_pos (.inl hn)])
              clear hn
              go_wp2_with fail
              go_returns
              exact ⟨ret_intk H1.out.symm, HST2.out.b⟩
            · have HN := Lib.hid hn
              clear hn d1
              go_wp2_with fail
              go_loopw [5] (fun i wx => ∃ m : Nat, m ≤ k ∧ i = .int .i64 m ∧ (∀ j y, j < m → cs[j]? = some y → y.name ≠ c.name) ∧ CkSt w w.heap.size cb ver (some ⟨b, off, none⟩) len cap c fa fl fc wx) (fun i _ => k - (intOf i).toNat)
              case atStart => exact ⟨0, by omega, rfl, fun j y h => by omega, HST2.out⟩
              case round =>
                obtain ⟨m, hm, rfl, hdif, hst⟩ := hrel
                have HD := Lib.hid hdif
                have HST3 := Lib.hid hst
                clear hdif hst
                have s1 := cell_at HST3.out.s 1
                have d1 := cell_at HST3.out.cc 1
                simp at s1 d1
                by_cases hmk : m < k
                · obtain ⟨b', off', c', hbo, hB', hc', p0, p1, _⟩ := hcs.get HST3.out.b (k := m) (by omega)
                  cases hbo
                  have HC' := Lib.hid hc'
                  have i3 : (0 : Int) ≤ (m : Int) := by omega
                  have i4 : (m : Int) < (len : Int) := by omega
                  have i5 : (m : Int) < (k : Int) := by omega
                  clear hc'
                  by_cases heq : c'.name = c.name
                  · have hcon : ((cs.take k).map fun c => (c.name).data.toList).contains ((c.name).data.toList) = true := by
                      rw [List.contains_iff_mem]
                      refine List.mem_map.2 ⟨c', ?_, by rw [heq]⟩
                      exact List.mem_of_getElem? (i := m) (by rw [List.getElem?_take, if_pos hmk]; exact HC'.out)
                    have H1 : Hid (schemaCheck ver cs = 4) := Lib.hid (by
                      rw [H.out, hstep.out]; unfold compsGo; rw [if_neg HNO.out, if_pos (.inr hcon)])
                    clear hcon
                    rw [heq] at p1
                    clear heq
                    go_wp2_with fail
                    go_quiet (fail)
                    go_wp2_with fail
                    go_returns
                    exact ⟨ret_intk H1.out.symm, below_drewN HST3.out.b _⟩
                  · have e1 := str_ne heq
                    have HNE := Lib.hid heq
                    clear heq
                    go_wp2_with fail
                    go_quiet (fail)
                    go_wp2_with fail
                    go_roundw
                    case rel =>
                      refine ⟨m + 1, by omega, by go_num, fun j y hj hy => ?_, HST3.out.drewN _⟩
                      rcases (by omega : j < m ∨ j = m) with h0 | rfl
                      · exact HD.out j y h0 hy
                      · rw [HC'.out] at hy; cases hy; exact HNE.out
                    case measure => simp [intOf]; omega
                · obtain rfl : m = k := by omega
                  have hct : ((cs.take m).map fun c => (c.name).data.toList).contains ((c.name).data.toList) = false := by
                    refine not_contains (fun j y hy he => ?_)
                    rw [List.getElem?_map, List.getElem?_take] at hy
                    split at hy
                    · rename_i hjm
                      cases hcj : cs[j]? with
                      | none => rw [hcj] at hy; cases hy
                      | some z =>
                        rw [hcj] at hy
                        have hy := Option.some.inj hy
                        subst hy
                        exact HD.out j z hjm hcj (nmL_inj he)
                    · cases hy
                  have HGO : Hid (schemaCheck ver cs = if fieldsF c.fields ≠ 0 then fieldsF c.fields else compsGo c.id ((cs.take (m + 1)).map fun c => (c.name).data.toList) (cs.drop (m + 1))) := Lib.hid (by
                    rw [H.out, hstep.out]; conv => lhs; unfold compsGo
                    rw [if_neg HNO.out, if_neg (by rw [HN.out, hct]; simp), htk.out, List.map_append]; rfl)
                  clear hct s1 d1 HD
                  go_wp2_with fail
                  have hflm : fl ≤ maxLen := HST3.out.F.2.1
                  have hfll := Lib.hid HST3.out.F.1
                  unfold maxLen at hflm
                  go_loopw [6] (fun i wx => ∃ p : Nat, p ≤ fl ∧ i = .int .i64 p ∧ nmOk [] (c.fields.map (·.name)) = nmOk ((c.fields.take p).map fun f => f.name.data.toList) ((c.fields.drop p).map (·.name)) ∧ CkSt w w.heap.size cb ver (some ⟨b, off, none⟩) len cap c fa fl fc wx) (fun i _ => fl - (intOf i).toNat)
                  case atStart => exact ⟨0, by omega, rfl, rfl, HST3.out⟩
                  case round =>
                    obtain ⟨p, hp, rfl, hnm, hst⟩ := hrel
                    have HNM := Lib.hid hnm
                    have HST4 := Lib.hid hst
                    clear hnm hst HST3
                    have d2 := cell_at HST4.out.cc 2
                    simp at d2
                    by_cases hpl : p < fl
                    · obtain ⟨b2, off2, f, rfl, hB2, hf, q0, q1, q2⟩ := HST4.out.F.get (Below.refl _ _) hpl
                      have HF := Lib.hid hf
                      have hfz := hszf f (List.mem_of_getElem? hf)
                      have htf := Lib.hid (take_snoc hf)
                      have hns := Lib.hid (HNM.out.trans (by rw [drop_get hf, List.map_cons]))
                      have i6 : (0 : Int) ≤ (p : Int) := by omega
                      have i7 : (p : Int) < (fl : Int) := by omega
                      clear hf q1 q2
                      go_wp2_with fail
                      refine (name07_any f.name _ hfz).mono ?_
                      rintro e w' ⟨rfl, rfl⟩
                      cases hfn : isNameB f.name
                      · have H1 : Hid (schemaCheck ver cs = 4) := Lib.hid (by
                          have hf4 : fieldsF c.fields = 4 := by
                            unfold fieldsF; rw [hns.out]; unfold nmOk; rw [hfn]; rfl
                          rw [HGO.out, hf4]; rfl)
                        clear hfn
                        go_wp2_with fail
                        go_returns
                        exact ⟨ret_intk H1.out.symm, HST4.out.b⟩
                      · have HFN := Lib.hid hfn
                        clear hfn d2 q0
                        go_wp2_with fail
                        go_loopw [7] (fun i wx => ∃ q : Nat, q ≤ p ∧ i = .int .i64 q ∧ (∀ j y, j < q → c.fields[j]? = some y → y.name ≠ f.name) ∧ CkSt w w.heap.size cb ver (some ⟨b, off, none⟩) len cap c (some ⟨b2, off2, none⟩) fl fc wx) (fun i _ => p - (intOf i).toNat)
                        case atStart => exact ⟨0, by omega, rfl, fun j y h => by omega, HST4.out⟩
                        case round =>
                          obtain ⟨q, hq, rfl, hdif, hst⟩ := hrel
                          have HD2 := Lib.hid hdif
                          have HST5 := Lib.hid hst
                          clear hdif hst HST4
                          have d2 := cell_at HST5.out.cc 2
                          simp at d2
                          by_cases hqp : q < p
                          · obtain ⟨b3, off3, f1, hbo, hB3, hf1, r0, _, _⟩ := HST5.out.F.get (Below.refl _ _) (k := q) (by omega)
                            cases hbo
                            obtain ⟨b3, off3, f2, hbo, hB3, hf2, z0, _, _⟩ := HST5.out.F.get (Below.refl _ _) (k := p) (by omega)
                            cases hbo
                            obtain rfl : f2 = f := by rw [HF.out] at hf2; exact (Option.some.inj hf2).symm
                            have HF1 := Lib.hid hf1
                            have i8 : (0 : Int) ≤ (q : Int) := by omega
                            have i9 : (q : Int) < (fl : Int) := by omega
                            have i10 : (q : Int) < (p : Int) := by omega
                            clear hf1 hf2
                            by_cases heq : f1.name = f2.name
                            · have hcon : ((c.fields.take p).map fun f => f.name.data.toList).contains (f2.name.data.toList) = true := by
                                rw [List.contains_iff_mem]
                                refine List.mem_map.2 ⟨f1, ?_, by rw [heq]⟩
                                exact List.mem_of_getElem? (i := q) (by rw [List.getElem?_take, if_pos hqp]; exact HF1.out)
                              have H1 : Hid (schemaCheck ver cs = 4) := Lib.hid (by
                                have hf4 : fieldsF c.fields = 4 := by
                                  unfold fieldsF; rw [hns.out]; unfold nmOk; rw [HFN.out, hcon]; rfl
                                rw [HGO.out, hf4]; rfl)
                              clear hcon
                              rw [heq] at r0
                              clear heq
                              go_wp2_with fail
                              go_quiet (fail)
                              go_wp2_with fail
                              go_returns
                              exact ⟨ret_intk H1.out.symm, below_drewN HST5.out.b _⟩
                            · have e1 := str_ne heq
                              have HNE := Lib.hid heq
                              clear heq
                              go_wp2_with fail
                              go_quiet (fail)
                              go_wp2_with fail
                              go_roundw
                              case rel =>
                                refine ⟨q + 1, by omega, by go_num, fun j y hj hy => ?_, HST5.out.drewN _⟩
                                rcases (by omega : j < q ∨ j = q) with h0 | rfl
                                · exact HD2.out j y h0 hy
                                · rw [HF1.out] at hy; cases hy; exact HNE.out
                              case measure => simp [intOf]; omega
                          · obtain rfl : q = p := by omega
                            have hct : ((c.fields.take q).map fun f => f.name.data.toList).contains (f.name.data.toList) = false := by
                              refine not_contains (fun j y hy he => ?_)
                              rw [List.getElem?_map, List.getElem?_take] at hy
                              split at hy
                              · rename_i hjm
                                cases hcj : c.fields[j]? with
                                | none => rw [hcj] at hy; cases hy
                                | some z =>
                                  rw [hcj] at hy
                                  have hy := Option.some.inj hy
                                  subst hy
                                  exact HD2.out j z hjm hcj (nmL_inj he)
                              · cases hy
                            have HNX : Hid (nmOk [] (c.fields.map (·.name)) = nmOk ((c.fields.take (q + 1)).map fun f => f.name.data.toList) ((c.fields.drop (q + 1)).map (·.name))) := Lib.hid (by
                              rw [hns.out]; conv => lhs; unfold nmOk
                              rw [HFN.out, hct, htf.out, List.map_append]; rfl)
                            clear hct HD2 d2
                            go_wp2_with fail
                            go_roundw
                            case rel => exact ⟨q + 1, by omega, by go_num, HNX.out, HST5.out⟩
                            case measure => simp [intOf]; omega
                    · obtain rfl : p = fl := by omega
                      have HFL : Hid (fieldsF c.fields = layCheck c.fields) := Lib.hid (by
                        unfold fieldsF; rw [HNM.out, List.drop_eq_nil_of_le (by have := hfll.out; omega)]; rfl)
                      have hFA := HST4.out.F.mono HST4.out.b.size
                      have HFA := Lib.hid hFA
                      clear hFA HNM
                      go_wp2_with fail
                      refine (lay05_any c.fields _ _ _ _ HFA.out).mono ?_
                      rintro e w6 ⟨hb6, hlay⟩
                      have HST6 := Lib.hid (HST4.out.below hb6)
                      clear HST4 HFA hb6 d2
                      by_cases hl : layCheck c.fields = 0
                      · rw [if_pos hl] at hlay
                        obtain ⟨oa, n, oc, sa, mm, sc, rfl, _⟩ := hlay
                        have HG1 : Hid (schemaCheck ver cs = compsGo c.id ((cs.take (m + 1)).map fun c => (c.name).data.toList) (cs.drop (m + 1))) := Lib.hid (by rw [HGO.out, if_neg (by rw [HFL.out]; simp [hl])])
                        clear hl
                        go_wp2_with fail
                        go_roundw
                        case rel =>
                          refine ⟨m + 1, c.id, by omega, by go_num, by rw [← H.out]; exact HG1.out, fun h => by omega, fun c' _ hc' => ?_, HST6.out.s, HST6.out.b⟩
                          rw [Nat.add_sub_cancel, HC.out] at hc'
                          cases hc'
                          refine ⟨rfl, ?_⟩
                          have := HNO.out
                          rcases (by omega : m = 0 ∨ 0 < m) with h0 | h0
                          · have := HL.out.1 h0; omega
                          · obtain ⟨c', hc'⟩ : ∃ c', cs[m - 1]? = some c' := ⟨_, List.getElem?_eq_getElem (by have := (List.getElem?_eq_some_iff.1 HC.out).1; omega)⟩
                            have := HL.out.2 c' h0 hc'; omega
                        case measure => simp [intOf]; omega
                      · rw [if_neg hl] at hlay
                        subst hlay
                        have H1 : Hid (schemaCheck ver cs = layCheck c.fields) := Lib.hid (by rw [HGO.out, if_pos (by rw [HFL.out]; exact hl), HFL.out])
                        have e1 : (layCheck c.fields != 0) = true := by simp [hl]
                        clear hl
                        go_wp2_with fail
                        go_returns
                        exact ⟨ret_intk H1.out.symm, HST6.out.b⟩
          · have H1 : Hid (schemaCheck ver cs = 1) := Lib.hid (by rw [H.out, hstep.out]; unfold compsGo; rw [if_pos (HBB.out.1 rfl)])
            go_wp2_with fail
            go_returns
            exact ⟨ret_intk H1.out.symm, HST2.out.b⟩
      · obtain rfl : k = len := by omega
        have H1 : Hid (schemaCheck ver cs = 0) := Lib.hid (by rw [H.out, HG.out, List.drop_eq_nil_of_le (by have := hcs.1; omega)]; rfl)
        have HBW := Lib.hid hbw
        clear hbw
        go_wp2_with fail
        go_returns
        exact ⟨ret_intk H1.out.symm, HBW.out⟩
end Go.Proofs.YtgnilkjdpfbjgaaGreat
