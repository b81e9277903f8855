/- What keeps each name: check.Plain. -/
import Derived.Test.YtgnilkjdpfbjgaaGreatQ11
import Derived.Deep.AppendLies
namespace Go.Proofs.YtgnilkjdpfbjgaaGreat
open Go.RowKit
set_option linter.unusedVariables false
/-- Whether what is kept by its name is kept as it is. -/
def fOk (o : List Fld) (f : Fld) : Bool := match namedF f.name o with
  | some i => match o[i]? with
    | some g => decide (f.count ≤ g.count) && decide (g.kind ≠ 10) && decide (f.kind ≠ 10)
    | none => false
  | none => false
def plainOk (old new : List Cmp) : Bool := decide (new.length ≤ 24) && new.all fun c => decide (c.fields.length ≤ 8) && match findC c.id old with
  | none => true
  | some o => decide (o.fields.length ≤ 8) && c.fields.all (fOk o.fields)
theorem plainOk_mint (v : Int) : plainOk (mintC v) (mintC (v + 1)) = true := by
  unfold mintC
  rcases mod_next v with ⟨h1, h2⟩ | ⟨h1, h2⟩
  · rw [if_pos h1, if_neg h2]
    rcases hpKind_is v with e | e | e <;> rcases hpKind_is (v + 1) with e' | e' | e' <;> rw [e, e'] <;> decide +kernel
  · rw [if_neg h1, if_pos h2]
    rcases hpKind_is v with e | e | e <;> rcases hpKind_is (v + 1) with e' | e' | e' <;> rw [e, e'] <;> decide +kernel
theorem fOk_is {o : List Fld} {f : Fld} (h : fOk o f = true) : ∃ i g, namedF f.name o = some i ∧ o[i]? = some g ∧ f.count ≤ g.count ∧ g.kind ≠ 10 ∧ f.kind ≠ 10 ∧ plainI o f = ⟨3, i⟩ := by
  unfold fOk at h
  unfold plainI
  split at h
  · rename_i i hi
    split at h
    · rename_i g hg
      simp only [Bool.and_eq_true, decide_eq_true_eq] at h
      refine ⟨i, g, hi, hg, h.1.1, h.1.2, h.2, ?_⟩
      rw [hi]
      simp only [hg]
      rw [if_pos]
      simp [h.1.1, h.1.2, h.2]
    · cases h
  · cases h
/-- The types of a program's rows but the rules' own. -/
def TI : Nat → TypeId → Prop := fun _ t => t = 207 ∨ t = 175
theorem Tryz.infoIx : (Tryz.prog.info? 175).map (fun i => (i.zero, i.size, i.bytes)) = some (some (.slice none 0 0), 1, 24) := by kernel_rfl
theorem Tryz.infoRu : (Tryz.prog.info? 167).map (fun i => (i.zero, i.size, i.bytes)) = some (some (.agg #[.int .i64 0, .int .i64 0, .slice none 0 0]), 3, 40) := by kernel_rfl
theorem seven {w : World} {b1 b8 b9 : Nat} {x0 x1 x2 y0 y1 y2 z0 z1 z2 : Value} {t1 t8 t9 : TypeId} (h1 : w.heap[b1]? = some (.cells #[x0, x1, x2] t1 (0, 0))) (h9 : w.heap[b9]? = some (.cells #[y0, y1, y2] t9 (0, 0))) (h8 : w.heap[b8]? = some (.cells #[z0, z1, z2] t8 (0, 0))) :
    w.cell? ⟨b1, 2, none⟩ = some x2 ∧ w.cell? ⟨b9, 0, none⟩ = some y0 ∧ w.cell? ⟨b9, 1, none⟩ = some y1 ∧ w.cell? ⟨b9, 2, none⟩ = some y2 ∧ w.cell? ⟨b8, 0, none⟩ = some z0 ∧ w.cell? ⟨b8, 1, none⟩ = some z1 ∧ w.cell? ⟨b8, 2, none⟩ = some z2 := by
  refine ⟨?_, ?_, ?_, ?_, ?_, ?_, ?_⟩
  · rw [cell_at h1]; rfl
  · rw [cell_at h9]; rfl
  · rw [cell_at h9]; rfl
  · rw [cell_at h9]; rfl
  · rw [cell_at h8]; rfl
  · rw [cell_at h8]; rfl
  · rw [cell_at h8]; rfl
theorem code_sl {w : World} {T : Nat → TypeId → Prop} {x : InsT} {u : Value} (h : At w T (codeD x) u) : ∃ q off c, u = .slice (some ⟨q, off, none⟩) 1 c := by
  obtain ⟨q, off, c, h, _⟩ := code_at h
  exact ⟨q, off, c, h⟩
/-- A row of one formula. -/
def IsCo (b gi : Nat) (v : Value) (w : World) : Prop := ∃ q q5 o5 c5, b ≤ q ∧ v = .slice (some ⟨q, 0, none⟩) 1 1 ∧ w.heap[q]? = some (.cells #[.slice (some ⟨q5, o5, none⟩) 1 c5] 175 (0, 0)) ∧ At w TC (codeD ⟨3, gi⟩) (.slice (some ⟨q5, o5, none⟩) 1 c5)
/-- What the region of a formula leaves. -/
def pl_list (b : Nat) (v1 v2 v3 : Value) (gi : Nat) : List (Value → World → Prop) := [IsV (.pointer (some ⟨b, 2, none⟩)), IsV v1, IsV v2, IsV v3, fun v w => At w TC (codeD ⟨3, gi⟩) v, IsCo b gi]
theorem pl_lasts (b : Nat) (v1 v2 v3 : Value) (gi : Nat) : ∀ p ∈ pl_list b v1 v2 v3 gi, Lasts p := by
  simp only [pl_list, List.mem_cons, List.not_mem_nil, or_false]
  rintro p hp
  rcases hp with rfl | rfl | rfl | rfl | rfl | rfl
  · exact lasts_v _
  · exact lasts_v _
  · exact lasts_v _
  · exact lasts_v _
  · exact fun v w w' h hb => h.below hb
  · exact fun v w w' ⟨q, q5, o5, c5, h0, h1, h2, h3⟩ hb => ⟨q, q5, o5, c5, h0, h1, keep hb h2, h3.below hb⟩
theorem At.set {w : World} {T : Nat → TypeId → Prop} {d : Dat} {u : Value} (h : At w T d u) {b o : Nat} {cur : Array Value} {t : TypeId} {fz : Nat × Nat} (hb : w.heap[b]? = some (.cells cur t fz)) (hT : ¬ T b t) (x : Value) : At (w.setCell ⟨b, o, none⟩ x) T d u :=
  h.kept (fun _ _ _ _ _ h => h) fun q cur' t' fz' hq ht => by
    rw [hset_ne _ _ _ _ (show q ≠ b from fun e => by subst e; rw [hb] at hq; cases hq; exact hT ht)]
    exact hq
theorem Own.set {w : World} {B : Nat} {e : TypeId} {size : Nat} {T : Nat → TypeId → Prop} {u : Value} {n : Nat} {ds : List Dat} (h : Own w B e size T u n ds) {b o : Nat} {cur : Array Value} {t : TypeId} {fz : Nat × Nat} (hb : w.heap[b]? = some (.cells cur t fz)) (hT : ¬ T b t) (he : t ≠ e) (x : Value) : Own (w.setCell ⟨b, o, none⟩ x) B e size T u n ds :=
  h.kept fun q cur' t' fz' hq ht => by
    rw [hset_ne _ _ _ _ (show q ≠ b from fun e' => by
      subst e'
      rw [hb] at hq
      cases hq
      rcases ht with ht | ht
      · exact hT ht
      · exact he ht)]
    exact hq
theorem row_below {w w' : World} {B : Nat} {e : TypeId} {size : Nat} {u : Value} {n : Nat} {xs : List Value} (h : w.ownsRow B e size u n xs) (hb : Below w.heap.size w w') : w'.ownsRow B e size u n xs := by
  refine ⟨h.1, h.2.imp_right ?_⟩
  rintro ⟨g, cap, cur, hu, hg, hh, r⟩
  exact ⟨g, cap, cur, hu, hg, keep hb hh, r⟩
set_option maxRecDepth 100000 in
set_option maxHeartbeats 2000000 in
theorem chPlain_any (a b : Int) (old new : List Cmp) (oa na : Option Addr) (ol oc nl nc : Nat) (w : World) (ho : CompsAt w.heap.size w oa ol old) (hn : CompsAt w.heap.size w na nl new) (hok : plainOk old new = true) (hof : ∀ c ∈ old, c.fields.length ≤ 100000) :
    Calls Tryz.prog 51 #[.agg #[.int .i64 a, .slice oa ol oc], .agg #[.int .i64 b, .slice na nl nc]] w fun e w' => ∃ u, e = .returned (.agg #[.int .i64 a, .int .i64 b, u]) ∧ At w' TP (rusD (plainR old new)) u ∧ Below w.heap.size w w' := by
  obtain ⟨i0, hiI, hzA, hzB, hzC⟩ := info_parts Tryz.infoIx
  obtain ⟨j0, hjR, hy0, hy1, hy2⟩ := info_parts Tryz.infoRu
  have hmx : nl ≤ 24 := by
    unfold plainOk at hok
    simp only [Bool.and_eq_true, decide_eq_true_eq] at hok
    have := hn.1
    omega
  have hlen := hn.1
  have HO := Lib.hid ho
  have HN := Lib.hid hn
  have HK := Lib.hid hok
  have HOF := Lib.hid hof
  clear ho hn hok hof
  go_enter Tryz.func51, Tryz.ntmps51
  go_wp2_with fail
  go_loopw [21] (fun i wr => ∃ (k : Nat) (ra : Option Addr) (rc : Nat), k ≤ nl ∧ i = .int .i64 k ∧ wr.heap[w.heap.size]? = some (.cells #[.int .i64 a, .slice oa ol oc] 25 (0, 0)) ∧ wr.heap[w.heap.size + 1]? = some (.cells #[.int .i64 b, .slice na nl nc] 25 (0, 0)) ∧
      wr.heap[w.heap.size + 2]? = some (.cells #[.int .i64 0, .int .i64 0, .slice none 0 0] 93 (0, 0)) ∧ wr.heap[w.heap.size + 3]? = some (.cells #[.int .i64 a, .int .i64 b, .slice ra k rc] 93 (0, 0)) ∧
      Own wr (w.heap.size + 4) 167 3 TI (.slice ra k rc) k (((new.take k).map (plainU old)).flatMap ruD) ∧ Below w.heap.size w wr ∧ w.heap.size + 4 ≤ wr.heap.size) (fun i _ => nl - (intOf i).toNat)
  case atStart =>
    refine ⟨0, none, 0, Nat.zero_le _, rfl, ?_, ?_, ?_, ?_, Own.nil fun q h => by rcases h with h | h <;> exact absurd h (by decide), by go_grown, by simp⟩
    · exact keepA _ (keepA _ (keepA _ (heap_alloc_new _ _)))
    · exact keepA _ (keepA _ (by simpa using heap_alloc_new (w.alloc _) _))
    · exact keepA _ (by simpa using heap_alloc_new ((w.alloc _).alloc _) _)
    · simpa using heap_alloc_new (((w.alloc _).alloc _).alloc _) _
  case round =>
    obtain ⟨k, ra, rc, hk, rfl, hq0, hq1, hq2, hq3, hown, hbw, hsz⟩ := hrel
    obtain ⟨wk, rfl⟩ : ∃ wk, wk = wr := ⟨wr, rfl⟩
    have HQ := Lib.hid (And.intro hq0 (And.intro hq1 (And.intro hq2 hq3)))
    have HOW := Lib.hid hown
    have c00 := cell_at hq0 0
    have c01 := cell_at hq0 1
    simp at c00 c01
    by_cases hlt : k < nl
    · obtain ⟨b9, off, c, rfl, hB, hck, c0, c1, fa, fl, fc, c2, hF, hnil⟩ := HN.out.get hbw hlt
      have HF := Lib.hid hF
      have HCK := Lib.hid hck
      have hbx : Below w.heap.size w ((wk.alloc (.cells #[.int .i64 c.id, .string c.name, .slice fa fl fc] 67)).alloc (.cells #[.int .i64 c.id, .int .i64 0, .slice none 0 0] 167)) := (hbw.alloc hbw.size _).alloc (by have := hbw.size; simp; omega) _
      have HFI := Lib.hid (Find_any a c.id old oa ol oc _ ((HO.out.below hbx).mono hbx.size) HOF.out)
      have HBX := Lib.hid hbx
      have HBW := Lib.hid hbw
      have hl0 := lt_some hq0
      clear hq0 hq1 hq2 hq3 hown hF hck hbx hbw
      go_wp2_with fail
      refine HFI.out.mono ?_
      intro e w1 hfind
      unfold IsFind at hfind
      have hzr := HBW.out.size
      cases hfc : findC c.id old with
      | none =>
        rw [hfc] at hfind
        obtain ⟨rfl, hb1⟩ := hfind
        have HPU : Hid (plainU old c = ⟨c.id, 0, []⟩) := Lib.hid (by unfold plainU; rw [hfc])
        have hr1 := keep hb1 (show ((wk.alloc (.cells #[.int .i64 c.id, .string c.name, .slice fa fl fc] 67)).alloc (.cells #[.int .i64 c.id, .int .i64 0, .slice none 0 0] 167)).heap[wk.heap.size + 1]? = some (.cells #[.int .i64 c.id, .int .i64 0, .slice none 0 0] 167 (0, 0)) by simpa using heap_alloc_new (wk.alloc (.cells #[.int .i64 c.id, .string c.name, .slice fa fl fc] 67)) (.cells #[.int .i64 c.id, .int .i64 0, .slice none 0 0] 167))
        have hb2 : Below wk.heap.size wk (w1.alloc (.cells #[.int .i64 0, .string ByteArray.empty, .slice none 0 0] 67)) := ((((Below.refl _ wk).alloc (Nat.le_refl _) _).alloc (by simp) _).trans (hb1.mono (by simp; omega))).alloc (by have := hb1.size; simp at this; omega) _
        have hr2 := keepA (.cells #[.int .i64 0, .string ByteArray.empty, .slice none 0 0] 67) hr1
        have hx2 : At (w1.alloc (.cells #[.int .i64 0, .string ByteArray.empty, .slice none 0 0] 67)) TI (exsD (plainU old c).ex) (.slice none 0 0) := by
          rw [HPU.out]
          unfold exsD At
          exact ⟨none, 0, rfl, Nat.le_refl _, Nat.zero_le _, .inl rfl⟩
        have HOV : Hid (ruD (plainU old c) = [.v (.int .i64 c.id), .v (.int .i64 0), exsD (plainU old c).ex]) := Lib.hid (by rw [HPU.out]; rfl)
        have hz1 := lt_some hr1
        have q0 := cell_at hr1 0
        have q1 := cell_at hr1 1
        have q2 := cell_at hr1 2
        simp at q0 q1 q2
        have hpp := keep hb1 (keepA _ (keepA _ HQ.out.2.2.2))
        have hz9 := lt_some hpp
        have pp2 := cell_at hpp 2
        simp at pp2
        have hbW := hb2
        have hX := hx2
        clear hb1 hr1 HFI hfc hb2 hr2 hx2 hpp
        have hWp := keep hbW HQ.out.2.2.2
        have hWr0 := keep hbW HQ.out.1
        have hWr1 := keep hbW HQ.out.2.1
        have hWr2 := keep hbW HQ.out.2.2.1
        have p0 := cell_at hWp 2
        have fp := free_at hWp 2
        simp at p0
        have HWP := Lib.hid hWp
        have HW3 := Lib.hid (And.intro hWr0 (And.intro hWr1 hWr2))
        have hzW := hbW.size
        obtain ⟨⟨xs, hro, hrv⟩, hne⟩ := HOW.out.below hbW
        have HRO := Lib.hid (hro.alloc (.cells #[.int .i64 c.id, .int .i64 0, .slice none 0 0] 167))
        have HRV := Lib.hid hrv
        have HXX := Lib.hid hX
        have HBW2 := Lib.hid (HBW.out.trans (hbW.mono HBW.out.size))
        have hra : ∀ x, (Value.slice ra k rc).ownBlock = some x → w.heap.size + 4 ≤ x := fun x hx => (hro.lt x hx).1
        clear hWp hWr0 hWr1 hWr2 hro hrv hX hbW
        go_wp2_with (at_builtin; go_loud (refine wpList_append_own _ rfl (.tmp 56) (.tmp 58) 91 rfl (w.heap.size + 4) 167 j0 (.agg #[.int .i64 0, .int .i64 0, .slice none 0 0]) 3 40 Tryz.underlying91 hjR hy0 hy1 hy2 rfl (by decide) (.slice ra k rc) k xs rfl HRO.out ⟨w1.heap.size + 1, 0, none⟩ 1 1 [.int .i64 c.id, .int .i64 0, .slice none 0 0] rfl rfl ?c1 ?c2 ?c3 ?c4 ?c5 ?_))
        case c1 =>
          intro j u hu
          have := World.news_of_block (cs := #[.int .i64 c.id, .int .i64 0, .slice none 0 0]) (t := 167) (fr := (0, 0)) (heap_alloc_new (w1.alloc (.cells #[.int .i64 0, .string ByteArray.empty, .slice none 0 0] 67)) (.cells #[.int .i64 c.id, .int .i64 0, .slice none 0 0] 167)) j u hu
          simpa using this
        case c2 => intro u hu; simp at hu; rcases hu with rfl | rfl | rfl <;> rfl
        case c3 => unfold maxLen; omega
        case c4 => omega
        case c5 => have := HBW2.out.size; simp at this ⊢; omega
        intro v' w2 hown2 hg2 _
        obtain ⟨va', vc', hv'⟩ := ownsRow_slice hown2
        rw [hv'] at hown2 ⊢
        clear hv'
        have hne3 : ∀ (b : Nat) (cur : Array Value) (t : TypeId), (World.alloc (w1.alloc (.cells #[.int .i64 0, .string ByteArray.empty, .slice none 0 0] 67)) (.cells #[.int .i64 c.id, .int .i64 0, .slice none 0 0] 167)).heap[b]? = some (.cells cur t (0, 0)) → t ≠ 167 → some b ≠ (Value.slice ra k rc).ownBlock := fun b cur t hb ht => ownsRow_ne_block3 HRO.out hb (fun cur' he => by cases he; exact ht rfl)
        have gp := keepG hg2 (keepA _ HWP.out) (hne3 _ _ _ (keepA _ HWP.out) (by decide))
        have g0 := keepG hg2 (keepA _ HW3.out.1) (hne3 _ _ _ (keepA _ HW3.out.1) (by decide))
        have g1 := keepG hg2 (keepA _ HW3.out.2.1) (hne3 _ _ _ (keepA _ HW3.out.2.1) (by decide))
        have g2 := keepG hg2 (keepA _ HW3.out.2.2) (hne3 _ _ _ (keepA _ HW3.out.2.2) (by decide))
        have hOwn := Own.grow (es := ruD (plainU old c)) HRO.out (HRV.out.kept (fun _ _ _ _ _ h => h) fun q cur t fz hq _ => keepA _ hq) hne hg2 hown2 (by
          rw [HOV.out]
          exact ⟨_, _, rfl, by unfold At; rfl, _, _, rfl, by unfold At; rfl, _, _, rfl, HXX.out.kept (fun _ _ _ _ _ h => h) (fun q cur t fz hq _ => keepA _ hq), rfl⟩)
        have hbel2 : Below w.heap.size w w2 := (HBW2.out.alloc HBW2.out.size _).grown hg2 (by have := HBW2.out.size; simp at this ⊢; omega) (fun x hx => by have := hra x hx; omega)
        have s3 := hset w2 (w.heap.size + 3) 2 (.slice va' (k + 1) vc') _ _ _ gp
        have s0 := (hset_ne w2 ⟨w.heap.size + 3, 2, none⟩ (.slice va' (k + 1) vc') w.heap.size (by simp)).trans g0
        have s1 := (hset_ne w2 ⟨w.heap.size + 3, 2, none⟩ (.slice va' (k + 1) vc') (w.heap.size + 1) (by simp)).trans g1
        have s2 := (hset_ne w2 ⟨w.heap.size + 3, 2, none⟩ (.slice va' (k + 1) vc') (w.heap.size + 2) (by simp)).trans g2
        have hOwn2 := hOwn.set (o := 2) gp (by rintro (h | h) <;> exact absurd h (by decide)) (by decide) (.slice va' (k + 1) vc')
        have r0 := cell_at gp 2
        have rf := free_at gp 2
        simp at r0
        have HS := Lib.hid (And.intro s0 (And.intro s1 (And.intro s2 s3)))
        have HON := Lib.hid hOwn2
        have HBE : Hid (Below w.heap.size w (w2.setCell ⟨w.heap.size + 3, 2, none⟩ (.slice va' (k + 1) vc'))) := Lib.hid (hbel2.setCell (by simp) _)
        have hz2 := lt_some gp
        clear s0 s1 s2 s3 g0 g1 g2 gp hOwn hOwn2 hbel2 hown2 hg2 hne3
        go_wp2
        go_roundw
        case rel =>
          refine ⟨k + 1, va', vc', by omega, by go_num, HS.out.1, HS.out.2.1, HS.out.2.2.1, HS.out.2.2.2, ?_, HBE.out, by simp [World.setCell]; omega⟩
          rw [take_snoc HCK.out, List.map_append, List.flatMap_append]
          have := HON.out
          simpa using this
        case measure => simp [intOf]; omega
      | some o =>
        rw [hfc] at hfind
        obtain ⟨va, ol', vc, rfl, ⟨hrow, hol, holm⟩, hvn, hb1⟩ := hfind
        have hoid : o.id = c.id := by
          have := List.find?_some hfc
          simpa using this
        have hco : c.fields.length ≤ 8 ∧ o.fields.length ≤ 8 ∧ c.fields.all (fOk o.fields) = true := by
          have h := HK.out
          unfold plainOk at h
          simp only [Bool.and_eq_true, decide_eq_true_eq] at h
          have := List.all_eq_true.1 h.2 c (List.mem_of_getElem? HCK.out)
          rw [hfc] at this
          simp only [Bool.and_eq_true, decide_eq_true_eq] at this
          exact ⟨this.1, this.2.1, this.2.2⟩
        obtain ⟨hcf, hofl, hfok⟩ := hco
        have hfl := HF.out.1
        have HPU : Hid (plainU old c = ⟨c.id, c.id, c.fields.map (plainI o.fields)⟩) := Lib.hid (by unfold plainU; rw [hfc])
        have HOV : Hid (ruD (plainU old c) = [.v (.int .i64 c.id), .v (.int .i64 c.id), exsD (plainU old c).ex]) := Lib.hid (by rw [HPU.out]; rfl)
        have hr1 := keep hb1 (show ((wk.alloc (.cells #[.int .i64 c.id, .string c.name, .slice fa fl fc] 67)).alloc (.cells #[.int .i64 c.id, .int .i64 0, .slice none 0 0] 167)).heap[wk.heap.size + 1]? = some (.cells #[.int .i64 c.id, .int .i64 0, .slice none 0 0] 167 (0, 0)) by simpa using heap_alloc_new (wk.alloc (.cells #[.int .i64 c.id, .string c.name, .slice fa fl fc] 67)) (.cells #[.int .i64 c.id, .int .i64 0, .slice none 0 0] 167))
        have hr0 := keep hb1 (keepA (.cells #[.int .i64 c.id, .int .i64 0, .slice none 0 0] 167) (heap_alloc_new wk (.cells #[.int .i64 c.id, .string c.name, .slice fa fl fc] 67)))
        have hz1 := lt_some hr1
        have hb0 : Below wk.heap.size wk w1 := (((Below.refl _ wk).alloc (Nat.le_refl _) _).alloc (by simp) _).trans (hb1.mono (by simp; omega))
        have hw9 := heap_alloc_new w1 (.cells #[.int .i64 o.id, .string o.name, .slice va ol' vc] 67)
        have q0 := cell_at hr0 0
        have q2 := cell_at hr0 2
        have q1 := cell_at hr1 1
        have f1 := free_at hr1 1
        simp at q0 q1 q2
        have hrow2 := hrow.alloc (.cells #[.int .i64 o.id, .string o.name, .slice va ol' vc] 67)
        have HRW := Lib.hid hrow
        have HR1 := Lib.hid hr1
        have HR0 := Lib.hid hr0
        have HB0 := Lib.hid hb0
        have HFK := Lib.hid hfok
        have hz0' := lt_some hr0
        have HW9 := Lib.hid hw9
        clear hrow hrow2 hr1 hr0 hb0 hb1 hfc hfok hw9 HFI
        have hfm : fl ≤ 9223372036854775807 := by omega
        go_wp2_with fail
        go_loopw [42] (fun i wr => ∃ (j : Nat) (ea : Option Addr) (ec : Nat), j ≤ fl ∧ i = .int .i64 j ∧ wr.heap[wk.heap.size]? = some (.cells #[.int .i64 c.id, .string c.name, .slice fa fl fc] 67 (0, 0)) ∧ wr.heap[wk.heap.size + 1]? = some (.cells #[.int .i64 c.id, .int .i64 c.id, .slice ea j ec] 167 (0, 0)) ∧
            wr.heap[w1.heap.size]? = some (.cells #[.int .i64 c.id, .string o.name, .slice va ol' vc] 67 (0, 0)) ∧ wr.ownsRow (wk.heap.size + 2) 64 3 (.slice va ol' vc) ol' (fldCells o.fields) ∧ Own wr (wk.heap.size + 2) 175 1 TC (.slice ea j ec) j ((c.fields.take j).map fun f => codeD (plainI o.fields f)) ∧ Below wk.heap.size wk wr ∧ w1.heap.size < wr.heap.size) (fun i _ => fl - (intOf i).toNat)
        case atStart =>
          have hsz : (w1.setCell ⟨wk.heap.size + 1, 1, none⟩ (.int .i64 c.id)).heap.size = w1.heap.size := by simp [World.setCell]
          refine ⟨0, none, 0, Nat.zero_le _, rfl, keepA _ ((hset_ne w1 ⟨wk.heap.size + 1, 1, none⟩ _ wk.heap.size (by simp)).trans HR0.out), keepA _ (hset w1 (wk.heap.size + 1) 1 _ _ _ _ HR1.out), ?_, ?_, Own.nil fun q h => absurd (show (175 : TypeId) = 207 from h) (by decide), ?_, by simp [World.setCell]⟩
          · have := heap_alloc_new (w1.setCell ⟨wk.heap.size + 1, 1, none⟩ (.int .i64 c.id)) (.cells #[.int .i64 c.id, .string o.name, .slice va ol' vc] 67)
            rw [hsz] at this
            exact this
          · refine ((ownsRow_setCell_other (a := ⟨wk.heap.size + 1, 1, none⟩) HRW.out ?_ (.int .i64 c.id)).alloc _) |> fun h => ownsRow_mono h (by simp)
            intro e
            have := (HRW.out.lt _ e).1
            simp at this
            omega
          · exact (HB0.out.setCell (by simp) _).alloc (by rw [hsz]; exact HB0.out.size) _
        case round =>
          obtain ⟨j, ea, ec, hj, rfl, hs0, hs1, hs9, hrow, hox, hbi, hzi⟩ := hrel
          by_cases hlj : j < fl
          · have hbw' : Below w.heap.size wk wr := hbi.mono HBW.out.size
            obtain ⟨b8, off8, f, rfl, hB8, hfj, e0, e1, e2⟩ := HF.out.get hbw' hlj
            obtain ⟨gi, g, n1, n2, n3, n4, n5, hpl⟩ := fOk_is (all_mem HFK.out hfj)
            have HSN : Hid ((c.fields.take (j + 1)).map (fun f => codeD (plainI o.fields f)) = (c.fields.take j).map (fun f => codeD (plainI o.fields f)) ++ [codeD ⟨3, gi⟩]) := Lib.hid (by rw [take_snoc hfj, List.map_append, ← hpl]; rfl)
            have hfs : FieldsAt (wr.alloc (.cells #[.string f.name, .int .i64 f.kind, .int .i64 f.count] 64)).heap.size (wr.alloc (.cells #[.string f.name, .int .i64 f.kind, .int .i64 f.count] 64)) va ol' o.fields :=
              (FieldsOn.of_row (hrow.alloc _) hol holm).imp fun b hb => ⟨hb.2, rfl⟩
            have HFS := Lib.hid hfs
            obtain ⟨⟨xs, hro, hrv⟩, hne⟩ := hox
            have k1 := keepA (.cells #[.string f.name, .int .i64 f.kind, .int .i64 f.count] 64) hs1
            have k9 := keepA (.cells #[.string f.name, .int .i64 f.kind, .int .i64 f.count] 64) hs9
            have k0 := keepA (.cells #[.string f.name, .int .i64 f.kind, .int .i64 f.count] 64) hs0
            have k8 := heap_alloc_new wr (.cells #[.string f.name, .int .i64 f.kind, .int .i64 f.count] 64)
            have hzw := hbi.size
            have hz1' := lt_some hs1
            have hl0' := lt_some hs0
            have HI := Lib.hid (And.intro hrow (And.intro hro (And.intro hrv hbi)))
            clear hrow hro hrv hbi hbw' hs0 hs1 hs9 hfs
            go_upto_region 12 with (fail)
            generalize hW : wr.alloc (.cells #[.string f.name, .int .i64 f.kind, .int .i64 f.count] 64) = W at *
            have hWz : W.heap.size = wr.heap.size + 1 := by rw [← hW]; simp
            have HW := Lib.hid hW
            have HK4 := Lib.hid (And.intro k0 (And.intro k1 (And.intro k8 k9)))
            clear hW
            have hl1 := lt_some HK4.out.2.1
            have hl9 := lt_some HK4.out.2.2.2
            have hl8 := lt_some HK4.out.2.2.1
            clear k0 k1 k8 k9
            refine wp_region_tail 6 (by kernel_rfl) (by kernel_rfl) (by kernel_rfl) (by decide) (by kernel_rfl) (byList (pl_list (wk.heap.size + 1) (.slice ea j ec) (.agg #[.int .i64 c.id, .string o.name, .slice va ol' vc]) (.agg #[.string f.name, .int .i64 f.kind, .int .i64 f.count]) gi)) (lasts_list (pl_lasts _ _ _ _ _)) ?_ ?_
            · intro vs w' iq op A hi F hb hop hd
              have m8 : A.tmps[8]?.getD undef = (.pointer (some ⟨wk.heap.size + 1, 0, none⟩)) := F.m (by kernel_rfl) rfl
              have m9 : A.tmps[9]?.getD undef = (.pointer (some ⟨w1.heap.size, 0, none⟩)) := F.m (by kernel_rfl) rfl
              have m12 : A.tmps[12]?.getD undef = (.pointer (some ⟨wr.heap.size, 0, none⟩)) := F.m (by kernel_rfl) rfl
              have G := F.light (n := 63) (by kernel_rfl)
              clear F
              obtain ⟨y2, y90, y91, y92, y80, y81, y82⟩ := seven (keep hb HK4.out.2.1) (keep hb HK4.out.2.2.2) (keep hb HK4.out.2.2.1)
              have HBW' := Lib.hid hb
              clear hb
              revert hi hop hd
              match iq with
              | 0 => intro _ ho hd; obtain rfl := (Option.some.inj ho).symm; clear hd ho; refine step_open rfl ?_; clear G; exact step_run (v := (.pointer (some ⟨wk.heap.size + 1, 2, none⟩))) (by go_simp) rfl
              | 1 => intro _ ho hd; obtain rfl := (Option.some.inj ho).symm; have d0 : vs 0 = (.pointer (some ⟨wk.heap.size + 1, 2, none⟩)) := hd ⟨0, .data⟩ (by simp) rfl; clear hd ho; have h46 := G.h (j := 0) (d := 46) rfl (by decide) d0; refine step_open rfl ?_; clear G; exact step_run (v := (.slice ea j ec)) (by go_simp) rfl
              | 2 => intro _ ho hd; obtain rfl := (Option.some.inj ho).symm; clear hd ho; refine step_open rfl ?_; clear G; exact step_run (v := (.agg #[.int .i64 c.id, .string o.name, .slice va ol' vc])) (by go_simp) rfl
              | 3 => intro _ ho hd; obtain rfl := (Option.some.inj ho).symm; clear hd ho; refine step_open rfl ?_; clear G; exact step_run (v := (.agg #[.string f.name, .int .i64 f.kind, .int .i64 f.count])) (by go_simp) rfl
              | 4 =>
                intro _ ho hd; obtain rfl := (Option.some.inj ho).symm
                have d2 : vs 2 = (.agg #[.int .i64 c.id, .string o.name, .slice va ol' vc]) := hd ⟨2, .data⟩ (by simp) rfl
                have d3 : vs 3 = (.agg #[.string f.name, .int .i64 f.kind, .int .i64 f.count]) := hd ⟨3, .data⟩ (by simp) rfl
                clear hd ho
                have h48 := G.h (j := 2) (d := 48) rfl (by decide) d2
                have h49 := G.h (j := 3) (d := 49) rfl (by decide) d3
                refine step_open rfl ?_
                clear G
                go_simp
                refine (chplain_any c.id o.name o.fields f g gi va ol' vc w' ((HFS.out.below HBW'.out).mono HBW'.out.size) n1 n2 n3 n4 n5).mono ?_
                rintro e5 w5 ⟨u5, rfl, hat5, hb5⟩
                exact ⟨_, rfl, hat5, hb5⟩
              | 5 =>
                intro _ ho hd; obtain rfl := (Option.some.inj ho).symm
                have d4 : At w' TC (codeD ⟨3, gi⟩) (vs 4) := hd ⟨4, .data⟩ (by simp) rfl
                obtain ⟨q5, o5, c5, d5⟩ := code_sl d4
                have h50 := G.h (j := 4) (d := 50) rfl (by decide) d5
                rw [d5] at d4
                clear hd ho
                refine step_open rfl ?_
                clear G
                go_simp
                exact ⟨_, rfl, ⟨_, q5, o5, c5, by have := HBW'.out.size; omega, rfl, heap_alloc_new _ _, d4.below ((Below.refl _ w').alloc (Nat.le_refl _) _)⟩, by go_grown⟩
              | n + 6 =>
                intro hi
                exfalso
                omega
            · intro vs w5 A hA F hb hR
              have d1 : vs 1 = (.slice ea j ec) := hR 1 (by decide)
              obtain ⟨qb, q5, o5, c5, hqb, d5, hq5, h5⟩ : IsCo (wk.heap.size + 1) gi (vs 5) w5 := hR 5 (by decide)
              have HRO : Hid (w5.ownsRow (wk.heap.size + 2) 175 1 (.slice ea j ec) j xs) := Lib.hid (by
                have h1 := HI.out.2.1.alloc (.cells #[.string f.name, .int .i64 f.kind, .int .i64 f.count] 64)
                rw [HW.out] at h1
                exact row_below h1 hb)
              have HKK := Lib.hid (And.intro (keep hb HK4.out.1) (And.intro (keep hb HK4.out.2.1) (keep hb HK4.out.2.2.2)))
              have H5 := Lib.hid h5
              have HQ5 := Lib.hid hq5
              have HB5 := Lib.hid hb
              have hz5 := hb.size
              clear F hR hb h5 hq5
              subst hA
              simp only [List.drop_succ_cons, List.drop_zero, wpTail, putAll, Act.put, List.setIfInBounds_toArray, List.set_cons_succ, List.set_cons_zero]
              simp only [d1]
              simp only [d5]
              clear d1 d5
              refine wp_append_own _ _ _ 165 rfl (wk.heap.size + 2) 175 i0 (.slice none 0 0) 1 24 Tryz.underlying165 hiI hzA hzB hzC rfl (by decide) (.slice ea j ec) j xs rfl HRO.out ⟨qb, 0, none⟩ 1 1 [.slice (some ⟨q5, o5, none⟩) 1 c5] rfl rfl (World.news_of_block (cs := #[.slice (some ⟨q5, o5, none⟩) 1 c5]) (fr := (0, 0)) HQ5.out) (by simp [Value.oneCell']) (by unfold maxLen; omega) (by omega) (by omega) ?_
              intro v' wA hownA hgA _
              obtain ⟨va', vc', hv'⟩ := ownsRow_slice hownA
              rw [hv'] at hownA ⊢
              clear hv'
              have hWr : Below wr.heap.size wr w5 := by
                have h1 := (Below.refl wr.heap.size wr).alloc (Nat.le_refl _) (.cells #[.string f.name, .int .i64 f.kind, .int .i64 f.count] 64)
                rw [HW.out] at h1
                exact h1.trans (HB5.out.mono (by omega))
              have a0 := keepG hgA HKK.out.1 (ownsRow_ne_block3 HRO.out HKK.out.1 (fun cur he => by cases he))
              have a1 := keepG hgA HKK.out.2.1 (ownsRow_ne_block3 HRO.out HKK.out.2.1 (fun cur he => by cases he))
              have a9 := keepG hgA HKK.out.2.2 (ownsRow_ne_block3 HRO.out HKK.out.2.2 (fun cur he => by cases he))
              have hrw := row_below HI.out.1 hWr
              have hrA := hrw.kept hgA (ownsRow_ne3 hrw HRO.out (by decide))
              have hoA := Own.grow (es := [codeD ⟨3, gi⟩]) HRO.out (HI.out.2.2.1.kept (fun _ _ _ _ _ h => h) fun q cur t fz hq _ => keep hWr hq) hne hgA hownA ⟨_, _, rfl, H5.out, rfl⟩
              rw [← HSN.out] at hoA
              have hra : ∀ x, (Value.slice ea j ec).ownBlock = some x → wk.heap.size + 2 ≤ x := fun x hx => (HRO.out.lt x hx).1
              have hbA : Below wk.heap.size wk wA := (HI.out.2.2.2.trans (hWr.mono HI.out.2.2.2.size)).grown hgA (by omega) (fun x hx => by have := hra x hx; omega)
              have s0 := (hset_ne wA ⟨wk.heap.size + 1, 2, none⟩ (.slice va' (j + 1) vc') wk.heap.size (by simp)).trans a0
              have s1 := hset wA (wk.heap.size + 1) 2 (.slice va' (j + 1) vc') _ _ _ a1
              have s9 := (hset_ne wA ⟨wk.heap.size + 1, 2, none⟩ (.slice va' (j + 1) vc') w1.heap.size (by simp; omega)).trans a9
              have sr := ownsRow_setCell_other (a := ⟨wk.heap.size + 1, 2, none⟩) hrA (fun e => ownsRow_ne_block3 hrA a1 (fun cur he => by cases he) e.symm) (.slice va' (j + 1) vc')
              have so := hoA.set (o := 2) a1 (fun h => absurd (show (167 : TypeId) = 207 from h) (by decide)) (by decide) (.slice va' (j + 1) vc')
              have sb : Below wk.heap.size wk (wA.setCell ⟨wk.heap.size + 1, 2, none⟩ (.slice va' (j + 1) vc')) := hbA.setCell (by simp) _
              have HF1 := Lib.hid (And.intro s0 (And.intro s1 (And.intro s9 (And.intro sr (And.intro so sb)))))
              have x2 := cell_at a1 2
              have x3 := free_at a1 2
              have hlA := lt_some a1
              have hl9A := lt_some a9
              simp at x2
              clear a0 a1 a9 hrw hrA hoA hra hbA s0 s1 s9 sr so sb hownA hgA
              go_simp
              go_wp2
              go_roundw
              case rel => exact ⟨j + 1, va', vc', by omega, by go_num, HF1.out.1, HF1.out.2.1, HF1.out.2.2.1, HF1.out.2.2.2.1, HF1.out.2.2.2.2.1, HF1.out.2.2.2.2.2, by simpa [World.setCell] using hl9A⟩
              case measure => simp [intOf]; omega
          · obtain rfl : fl = j := by omega
            have q0 := cell_at hs1 0
            have q1 := cell_at hs1 1
            have q2 := cell_at hs1 2
            simp at q0 q1 q2
            have hz1 := lt_some hs1
            have hpp := keep hbi HQ.out.2.2.2
            have hz9 := lt_some hpp
            have pp2 := cell_at hpp 2
            simp at pp2
            have hbW := hbi
            have hX : At wr TI (exsD (plainU old c).ex) (.slice ea fl ec) := by
              have := hox.at (T' := TI) (fun q t _ h => h)
              rw [List.take_of_length_le (by omega)] at this
              rw [HPU.out]
              unfold exsD
              rw [List.length_map, hfl, List.map_map]
              exact this
            clear hs0 hs1 hs9 hrow hox hbi hpp
            have hWp := keep hbW HQ.out.2.2.2
            have hWr0 := keep hbW HQ.out.1
            have hWr1 := keep hbW HQ.out.2.1
            have hWr2 := keep hbW HQ.out.2.2.1
            have p0 := cell_at hWp 2
            have fp := free_at hWp 2
            simp at p0
            have HWP := Lib.hid hWp
            have HW3 := Lib.hid (And.intro hWr0 (And.intro hWr1 hWr2))
            have hzW := hbW.size
            obtain ⟨⟨xs, hro, hrv⟩, hne⟩ := HOW.out.below hbW
            have HRO := Lib.hid (hro.alloc (.cells #[.int .i64 c.id, .int .i64 c.id, .slice ea fl ec] 167))
            have HRV := Lib.hid hrv
            have HXX := Lib.hid hX
            have HBW2 := Lib.hid (HBW.out.trans (hbW.mono HBW.out.size))
            have hra : ∀ x, (Value.slice ra k rc).ownBlock = some x → w.heap.size + 4 ≤ x := fun x hx => (hro.lt x hx).1
            clear hWp hWr0 hWr1 hWr2 hro hrv hX hbW
            go_wp2_with (at_builtin; go_loud (refine wpList_append_own _ rfl (.tmp 56) (.tmp 58) 91 rfl (w.heap.size + 4) 167 j0 (.agg #[.int .i64 0, .int .i64 0, .slice none 0 0]) 3 40 Tryz.underlying91 hjR hy0 hy1 hy2 rfl (by decide) (.slice ra k rc) k xs rfl HRO.out ⟨wr.heap.size, 0, none⟩ 1 1 [.int .i64 c.id, .int .i64 c.id, .slice ea fl ec] rfl rfl ?c1 ?c2 ?c3 ?c4 ?c5 ?_))
            case c1 =>
              intro j u hu
              have := World.news_of_block (cs := #[.int .i64 c.id, .int .i64 c.id, .slice ea fl ec]) (t := 167) (fr := (0, 0)) (heap_alloc_new wr (.cells #[.int .i64 c.id, .int .i64 c.id, .slice ea fl ec] 167)) j u hu
              simpa using this
            case c2 => intro u hu; simp at hu; rcases hu with rfl | rfl | rfl <;> rfl
            case c3 => unfold maxLen; omega
            case c4 => omega
            case c5 => have := HBW2.out.size; simp at this ⊢; omega
            intro v' w2 hown2 hg2 _
            obtain ⟨va', vc', hv'⟩ := ownsRow_slice hown2
            rw [hv'] at hown2 ⊢
            clear hv'
            have hne3 : ∀ (b : Nat) (cur : Array Value) (t : TypeId), (World.alloc wr (.cells #[.int .i64 c.id, .int .i64 c.id, .slice ea fl ec] 167)).heap[b]? = some (.cells cur t (0, 0)) → t ≠ 167 → some b ≠ (Value.slice ra k rc).ownBlock := fun b cur t hb ht => ownsRow_ne_block3 HRO.out hb (fun cur' he => by cases he; exact ht rfl)
            have gp := keepG hg2 (keepA _ HWP.out) (hne3 _ _ _ (keepA _ HWP.out) (by decide))
            have g0 := keepG hg2 (keepA _ HW3.out.1) (hne3 _ _ _ (keepA _ HW3.out.1) (by decide))
            have g1 := keepG hg2 (keepA _ HW3.out.2.1) (hne3 _ _ _ (keepA _ HW3.out.2.1) (by decide))
            have g2 := keepG hg2 (keepA _ HW3.out.2.2) (hne3 _ _ _ (keepA _ HW3.out.2.2) (by decide))
            have hOwn := Own.grow (es := ruD (plainU old c)) HRO.out (HRV.out.kept (fun _ _ _ _ _ h => h) fun q cur t fz hq _ => keepA _ hq) hne hg2 hown2 (by
              rw [HOV.out]
              exact ⟨_, _, rfl, by unfold At; rfl, _, _, rfl, by unfold At; rfl, _, _, rfl, HXX.out.kept (fun _ _ _ _ _ h => h) (fun q cur t fz hq _ => keepA _ hq), rfl⟩)
            have hbel2 : Below w.heap.size w w2 := (HBW2.out.alloc HBW2.out.size _).grown hg2 (by have := HBW2.out.size; simp at this ⊢; omega) (fun x hx => by have := hra x hx; omega)
            have s3 := hset w2 (w.heap.size + 3) 2 (.slice va' (k + 1) vc') _ _ _ gp
            have s0 := (hset_ne w2 ⟨w.heap.size + 3, 2, none⟩ (.slice va' (k + 1) vc') w.heap.size (by simp)).trans g0
            have s1 := (hset_ne w2 ⟨w.heap.size + 3, 2, none⟩ (.slice va' (k + 1) vc') (w.heap.size + 1) (by simp)).trans g1
            have s2 := (hset_ne w2 ⟨w.heap.size + 3, 2, none⟩ (.slice va' (k + 1) vc') (w.heap.size + 2) (by simp)).trans g2
            have hOwn2 := hOwn.set (o := 2) gp (by rintro (h | h) <;> exact absurd h (by decide)) (by decide) (.slice va' (k + 1) vc')
            have r0 := cell_at gp 2
            have rf := free_at gp 2
            simp at r0
            have HS := Lib.hid (And.intro s0 (And.intro s1 (And.intro s2 s3)))
            have HON := Lib.hid hOwn2
            have HBE : Hid (Below w.heap.size w (w2.setCell ⟨w.heap.size + 3, 2, none⟩ (.slice va' (k + 1) vc'))) := Lib.hid (hbel2.setCell (by simp) _)
            have hz2 := lt_some gp
            clear s0 s1 s2 s3 g0 g1 g2 gp hOwn hOwn2 hbel2 hown2 hg2 hne3
            go_wp2
            go_roundw
            case rel =>
              refine ⟨k + 1, va', vc', by omega, by go_num, HS.out.1, HS.out.2.1, HS.out.2.2.1, HS.out.2.2.2, ?_, HBE.out, by simp [World.setCell]; omega⟩
              rw [take_snoc HCK.out, List.map_append, List.flatMap_append]
              have := HON.out
              simpa using this
            case measure => simp [intOf]; omega
    · obtain rfl : k = nl := by omega
      have c30 := cell_at hq3 0
      have c31 := cell_at hq3 1
      have c32 := cell_at hq3 2
      have c20 := cell_at hq2 0
      have c21 := cell_at hq2 1
      have c22 := cell_at hq2 2
      have f20 := free_at hq2 0
      have f21 := free_at hq2 1
      have f22 := free_at hq2 2
      simp at c20 c21 c22 c30 c31 c32
      have hz3 := lt_some hq3
      have hs := hset _ (w.heap.size + 2) 2 (.slice ra k rc) _ _ _ (hset _ (w.heap.size + 2) 1 (.int .i64 b) _ _ _ (hset _ (w.heap.size + 2) 0 (.int .i64 a) _ _ _ hq2))
      have hbf : Below w.heap.size w (((wk.setCell ⟨w.heap.size + 2, 0, none⟩ (.int .i64 a)).setCell ⟨w.heap.size + 2, 1, none⟩ (.int .i64 b)).setCell ⟨w.heap.size + 2, 2, none⟩ (.slice ra k rc)) := ((hbw.setCell (by simp) _).setCell (by simp) _).setCell (by simp) _
      have HBF := Lib.hid hbf
      have hat : At wk TP (rusD (plainR old new)) (.slice ra k rc) := by
        have := hown.at (T' := TP) (fun q t _ h => by
          rcases h with (h | h) | h
          · exact .inl h
          · exact .inr (.inl h)
          · exact .inr (.inr h))
        rw [List.take_of_length_le (by omega)] at this
        unfold rusD plainR
        rw [List.length_map, hlen]
        exact this
      have nTP : ¬ TP (w.heap.size + 2) 93 := by rintro (h | h | h) <;> exact absurd h (by decide)
      have b1 := hset _ (w.heap.size + 2) 0 (.int .i64 a) _ _ _ hq2
      have b2 := hset _ (w.heap.size + 2) 1 (.int .i64 b) _ _ _ b1
      have HAT := Lib.hid (((hat.set (o := 0) hq2 nTP (.int .i64 a)).set (o := 1) b1 nTP (.int .i64 b)).set (o := 2) b2 nTP (.slice ra k rc))
      clear hq0 hq1 hq2 hq3 hown hbf hbw hs b1 b2 hat nTP
      go_wp2_with fail
      refine bodyPost_ret (v := .agg #[.int .i64 a, .int .i64 b, .slice ra k rc]) (by simp [results, Tryz.results51, go_sem, c20, c21, c22]; try rfl) rfl ?_
      exact ⟨_, rfl, HAT.out, HBF.out⟩
end Go.Proofs.YtgnilkjdpfbjgaaGreat
