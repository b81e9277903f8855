/- Contract of retrofitref05.Lay: its elements, its size, where fields begin, its error. -/
import Derived.Test.YtgnilkjdpfbjgaaGreatQ17
import Derived.Test.YtgnilkjdpfbjgaaGreatQ1
import Derived.Test.YtgnilkjdpfbjgaaGreatQ5
import Derived.Deep.DeepCutAuto
import Derived.Deep.AppendLies
namespace Go.Proofs.YtgnilkjdpfbjgaaGreat
open Go.RowKit
set_option linter.unusedVariables false
def elsOf (f : Fld) (s : Int) (m : Nat) : List (Int × Int) := (List.range m).map fun (j : Nat) => (f.kind, s + (j : Int) * kSize f.kind)
def elStep (q : (List Int × Int × Int) × List (Int × Int)) (f : Fld) : (List Int × Int × Int) × List (Int × Int) := (planStep q.1 f, q.2 ++ elsOf f (upF q.1.2.1 (kSize f.kind)) f.count.toNat)
def elPlan (fs : List Fld) : (List Int × Int × Int) × List (Int × Int) := fs.foldl elStep (([], 0, 1), [])
/-- All elements: kind, place. -/
def elems (fs : List Fld) : List (Int × Int) := (elPlan fs).2
theorem elPlan_snoc (fs : List Fld) (f : Fld) : elPlan (fs ++ [f]) = elStep (elPlan fs) f := by simp [elPlan]
theorem elFold_fst (fs : List Fld) : ∀ q : (List Int × Int × Int) × List (Int × Int), (fs.foldl elStep q).1 = fs.foldl planStep q.1 := by
  induction fs with
  | nil => intro q; rfl
  | cons f r ih => intro q; rw [List.foldl_cons, List.foldl_cons, ih]; rfl
theorem elPlan_fst (fs : List Fld) : (elPlan fs).1 = planF fs := elFold_fst fs _
theorem elsOf_len (f : Fld) (s : Int) (m : Nat) : (elsOf f s m).length = m := by simp [elsOf]
theorem elsOf_succ (f : Fld) (s : Int) (m : Nat) : elsOf f s (m + 1) = elsOf f s m ++ [(f.kind, s + (m : Int) * kSize f.kind)] := by
  unfold elsOf; rw [List.range_succ, List.map_append]; rfl
theorem elFold_len : ∀ (fs : List Fld), fs.all fldOk = true → ∀ q : (List Int × Int × Int) × List (Int × Int), (fs.foldl elStep q).2.length ≤ q.2.length + 8 * fs.length
  | [], _, q => by simp
  | f :: r, h, q => by
    rw [List.all_cons, Bool.and_eq_true] at h
    rw [List.foldl_cons]
    have h1 := elFold_len r h.2 (elStep q f)
    have h2 : (elStep q f).2.length = q.2.length + f.count.toNat := by unfold elStep; rw [List.length_append, elsOf_len]
    have h3 := fldOk_bd h.1
    rw [List.length_cons]
    omega
theorem elems_len {fs : List Fld} (h : fs.all fldOk = true) : (elems fs).length ≤ 8 * fs.length := by
  have := elFold_len fs h (([], 0, 1), [])
  simpa [elems, elPlan] using this
def elemL (l : List (Int × Int)) : List Value := l.flatMap fun x => [.int .i64 x.1, .int .i64 x.2]
/-- A step of the loop that rounds up. -/
theorem up_step {a n : Int} (h0 : 0 ≤ a) (h1 : a ≤ 10000) (h2 : 1 ≤ n) (h3 : n ≤ 8) : (a % n ≠ 0 → upF (a + 1) n = upF a n ∧ a < upF a n) ∧ (a % n = 0 → upF a n = a) := by
  have e1 := (upF_eq h0 (by omega) h2 h3).1
  have e2 := (upF_eq (a := a + 1) (by omega) (by omega) h2 h3).1
  rw [e1, e2]
  rcases (by omega : n = 1 ∨ n = 2 ∨ n = 3 ∨ n = 4 ∨ n = 5 ∨ n = 6 ∨ n = 7 ∨ n = 8) with rfl | rfl | rfl | rfl | rfl | rfl | rfl | rfl <;> omega
theorem Tryz.info210 : (Tryz.prog.info? 210).map (fun i => (i.zero, i.size, i.bytes)) = some (some (.agg #[.int .i64 0, .int .i64 0]), 2, 16) := by kernel_rfl
/-- The answer of Lay. -/
def IsLay (fs : List Fld) (w : World) (e : Ending) (w' : World) : Prop :=
  Below w.heap.size w w' ∧ if layCheck fs = 0 then ∃ oa n oc sa m sc, e = .returned (.tuple #[.slice oa n oc, .int .i64 (planSize fs), .slice sa m sc, .int .i64 0]) ∧
      n = (elems fs).length ∧ w'.ownsRow w.heap.size 210 2 (.slice oa n oc) n (elemL (elems fs)) ∧ m = fs.length ∧ w'.ownsRow w.heap.size 3 1 (.slice sa m sc) m ((planF fs).1.map (.int .i64))
    else e = .returned (.tuple #[.slice none 0 0, .int .i64 0, .slice none 0 0, .int .i64 (layCheck fs)])
/-- What stands in a round. -/
structure LSt (w0 : World) (fb : Nat) (f : Fld) (out : List (Int × Int)) (sts : List Int) (oa sa : Option Addr) (n oc k sc : Nat) (wx : World) : Prop where
  f : wx.heap[fb]? = some (.cells #[.string f.name, .int .i64 f.kind, .int .i64 f.count] 64 (0, 0))
  o : wx.ownsRow w0.heap.size 210 2 (.slice oa n oc) n (elemL out)
  s : wx.ownsRow w0.heap.size 3 1 (.slice sa k sc) k (sts.map (.int .i64))
  b : Below w0.heap.size w0 wx
theorem LSt.app_s {w0 : World} {fb : Nat} {f : Fld} {out : List (Int × Int)} {sts sts' : List Int} {oa sa sa' : Option Addr} {n oc k sc k' sc' : Nat} {wx w' : World} (h : LSt w0 fb f out sts oa sa n oc k sc wx)
    (hg : wx.grownBy w' (Value.slice sa k sc).ownBlock) (ho : w'.ownsRow w0.heap.size 3 1 (.slice sa' k' sc') k' (sts'.map (.int .i64))) : LSt w0 fb f out sts' oa sa' n oc k' sc' w' :=
  ⟨keepG hg h.f (ownsRow_ne_block3 h.s h.f (fun cur he => by cases he)), h.o.kept hg (ownsRow_ne3 h.o h.s (by decide)), ho, h.b.grown hg h.b.size (fun x hx => (h.s.lt x hx).1)⟩
theorem LSt.app_o {w0 : World} {fb : Nat} {f : Fld} {out out' : List (Int × Int)} {sts : List Int} {oa oa' sa : Option Addr} {n oc n' oc' k sc : Nat} {wx w' : World} (h : LSt w0 fb f out sts oa sa n oc k sc wx)
    (hg : wx.grownBy w' (Value.slice oa n oc).ownBlock) (ho : w'.ownsRow w0.heap.size 210 2 (.slice oa' n' oc') n' (elemL out')) : LSt w0 fb f out' sts oa' sa n' oc' k sc w' :=
  ⟨keepG hg h.f (ownsRow_ne_block3 h.o h.f (fun cur he => by cases he)), ho, h.s.kept hg (ownsRow_ne3 h.s h.o (by decide)), h.b.grown hg h.b.size (fun x hx => (h.o.lt x hx).1)⟩
theorem LSt.below {w0 : World} {fb : Nat} {f : Fld} {out : List (Int × Int)} {sts : List Int} {oa sa : Option Addr} {n oc k sc : Nat} {wx w' : World} (h : LSt w0 fb f out sts oa sa n oc k sc wx) (hb : Below wx.heap.size wx w') : LSt w0 fb f out sts oa sa n oc k sc w' :=
  ⟨keep hb h.f, h.o.kept (grownOf hb none) (by cases (Value.slice oa n oc).ownBlock <;> simp), h.s.kept (grownOf hb none) (by cases (Value.slice sa k sc).ownBlock <;> simp), h.b.trans (hb.mono h.b.size)⟩
set_option maxRecDepth 100000 in
set_option maxHeartbeats 4000000 in
theorem lay05_any (fs : List Fld) (a : Option Addr) (len cap : Nat) (w : World) (hfs : FieldsAt w.heap.size w a len fs) : Calls Tryz.prog 89 #[.slice a len cap] w (IsLay fs w) := by
  obtain ⟨i0, hi, hz0, hz1, hz2⟩ := info_parts Tryz.info3
  obtain ⟨i1, hje, hy0, hy1, hy2⟩ := info_parts Tryz.info210
  have hmx : len ≤ maxLen := hfs.2.1
  have hll := hfs.1
  unfold maxLen at hmx
  by_cases h8 : 8 < len
  · have H : Hid (layCheck fs = 1) := Lib.hid (layCheck_long (by omega))
    have t1 : (8 : Int) < (len : Int) := by omega
    clear h8 hll
    go_enter Tryz.func89, Tryz.ntmps89
    go_wp2_with fail
    go_returns
    unfold IsLay; rw [H.out, if_neg (by omega)]; exact ⟨Below.refl _ _, rfl⟩
  · have t1 : ¬ (8 : Int) < (len : Int) := by omega
    have hr1 := World.ownsRow_lit (base := w.heap.size) (e := 210) (size := 2) w #[] 0 (Nat.le_refl _) (by unfold maxLen; omega) rfl
    have hr2 := World.ownsRow_lit (base := w.heap.size) (e := 3) (size := 1) (w.alloc (.cells #[] 210)) #[] 0 (by simp) (by unfold maxLen; omega) rfl
    have HB := Lib.hid (And.intro (hr1.alloc (.cells #[] 3)) (And.intro hr2 (show Below w.heap.size w ((w.alloc (.cells #[] 210)).alloc (.cells #[] 3)) by go_grown)))
    have HLL := Lib.hid hll
    have H8 := Lib.hid h8
    clear hr1 hr2 hll h8
    go_enter Tryz.func89, Tryz.ntmps89
    go_wp2_with fail
    go_loopw [6, 7, 8, 9, 10] (fun o st at_ g i wr => ∃ (k : Nat) (oa : Option Addr) (n oc : Nat) (sa : Option Addr) (sc : Nat), k ≤ len ∧ i = .int .i64 k ∧ at_ = .int .i64 (planF (fs.take k)).2.1 ∧ g = .int .i64 (planF (fs.take k)).2.2 ∧ o = .slice oa n oc ∧ st = .slice sa k sc ∧
        n = (elems (fs.take k)).length ∧ (fs.take k).all fldOk = true ∧ wr.ownsRow w.heap.size 210 2 (.slice oa n oc) n (elemL (elems (fs.take k))) ∧ wr.ownsRow w.heap.size 3 1 (.slice sa k sc) k ((planF (fs.take k)).1.map (.int .i64)) ∧ Below w.heap.size w wr)
      (fun _ _ _ _ i _ => len - (intOf i).toNat)
    case atStart =>
      have h := HB.out
      simp only [World.size_alloc] at h
      exact ⟨0, _, 0, _, _, _, by omega, rfl, rfl, rfl, rfl, rfl, rfl, rfl, h.1, h.2.1, h.2.2⟩
    case round =>
      obtain ⟨k, oa, n, oc, sa, sc, hk, rfl, rfl, rfl, rfl, rfl, hn, hall, ho, hs, hbw⟩ := hrel
      have hz := hbw.size
      have hbd := plan_bd (fs := fs.take k) (by have := H8.out; rw [List.length_take]; omega) hall
      have hel := elems_len hall
      rw [List.length_take] at hel
      have HN := Lib.hid hn
      have HALL := Lib.hid hall
      by_cases hlt : k < len
      · obtain ⟨b, off, f, rfl, hB, hf, c0, c1, c2⟩ := hfs.get hbw hlt
        have htk := Lib.hid (take_snoc hf)
        have hsn := Lib.hid (planF_snoc (fs.take k) f)
        have hesn : Hid (elems (fs.take k ++ [f]) = elems (fs.take k) ++ elsOf f (upF (planF (fs.take k)).2.1 (kSize f.kind)) f.count.toNat) := Lib.hid (by
          unfold elems; rw [elPlan_snoc]; unfold elStep; rw [elPlan_fst])
        have hps := planStep_bd (p := planF (fs.take k)) (f := f)
        have HPS := Lib.hid hps
        have hn64 : n ≤ 64 := by have := H8.out; omega
        have HMEM : Hid (fs[k]? = some f) := Lib.hid hf
        have hL0 : LSt w wr.heap.size f (elems (fs.take k)) (planF (fs.take k)).1 oa sa n oc k sc (wr.alloc (.cells #[.string f.name, .int .i64 f.kind, .int .i64 f.count] 64)) :=
          ⟨heap_alloc_new wr _, ho.alloc _, hs.alloc _, hbw.alloc hz _⟩
        have HL0 := Lib.hid hL0
        generalize planF (fs.take k) = P at *
        generalize elems (fs.take k) = E at *
        obtain ⟨sts, at0, g0⟩ := P
        obtain ⟨b0, b1, b2, b3⟩ := hbd
        simp only at b0 b1 b2 b3
        have HBD := Lib.hid (And.intro b0 (And.intro b1 (And.intro b2 b3)))
        have hks := kSize_bd f.kind
        clear ho hs hbw hn hall hel hps hf hL0 HB
        go_wp2_with fail
        refine (bytes04_any f.kind _).mono ?_
        rintro e w1 ⟨rfl, hb1⟩
        have HL1 := Lib.hid (HL0.out.below hb1)
        generalize wr.heap.size = fb at *
        clear HL0 hb1 c0 c1 c2
        have f1 := cell_at HL1.out.f 1
        have f2 := cell_at HL1.out.f 2
        simp at f1 f2
        generalize hsz : kSize f.kind = sz at *
        have HSZ := Lib.hid hsz
        obtain ⟨s0, s8⟩ := hks
        clear hsz
        by_cases hok : fldOk f = true
        · obtain ⟨q1, q2, q3, q4⟩ := fldOk_bd hok
          rw [HSZ.out] at q1 q2
          have HOK := Lib.hid hok
          have e1 : (sz == 0) = false := by simp; omega
          have e2 : ¬ f.count < 1 := by omega
          have e3 : ¬ 8 < f.count := by omega
          clear hok
          go_upto_if 46 with (fail)
          go_cut [9] (fun s wx => s = .int .i64 (max g0 sz) ∧ LSt w fb f E sts oa sa n oc k sc wx)
          case first =>
            rcases (by omega : g0 < sz ∨ sz ≤ g0) with h | h
            · go_wp2_with fail
              go_meet
              exact ⟨congrArg (Value.int .i64) (by omega), HL1.out⟩
            · go_wp2_with fail
              go_meet
              exact ⟨congrArg (Value.int .i64) (by omega), HL1.out⟩
          case rest =>
            obtain ⟨rfl, hL⟩ := hcut
            have HL2 := Lib.hid hL
            clear hL HL1 f1 f2
            generalize wc = w2 at *
            obtain ⟨u, hu⟩ : ∃ u, u = upF at0 sz := ⟨_, rfl⟩
            have hub := (upF_eq b0 (by omega) q1 q2).2
            rw [← hu] at hub
            have HU := Lib.hid hu
            clear hu
            go_wp2_with fail
            go_loopw [8] (fun x wx => ∃ y : Int, x = .int .i64 y ∧ at0 ≤ y ∧ y ≤ u ∧ upF y sz = u ∧ LSt w fb f E sts oa sa n oc k sc wx) (fun x _ => (u - intOf x).toNat)
            case atStart => exact ⟨at0, rfl, by omega, by omega, HU.out.symm, HL2.out⟩
            case round =>
              obtain ⟨y, rfl, y0, y1, hy, hL⟩ := hrel
              have hst := up_step (a := y) (n := sz) (by omega) (by omega) q1 q2
              rw [hy] at hst
              have HST := Lib.hid hst
              have hm : y.tmod sz = y % sz := Int.tmod_eq_emod_of_nonneg (by omega)
              have HY := Lib.hid hy
              have HL3 := Lib.hid hL
              clear hst hy hL
              by_cases hr : y % sz = 0
              · have r1 : (y % sz != 0) = false := by simp [hr]
                obtain rfl : u = y := HST.out.2 hr
                have f1 := cell_at HL3.out.f 1
                have f2 := cell_at HL3.out.f 2
                simp at f1 f2
                have hown1 := HL3.out.s.alloc (.cells #[.int .i64 u] 3)
                have hzz := HL3.out.b.size
                clear hr
                have hsle : w.heap.size ≤ wr.heap.size := HL3.out.b.size
                go_wp2_with (at_builtin; go_loud (refine wpList_append_own _ rfl (.tmp 54) (.tmp 56) 158 rfl w.heap.size 3 i0 (.int .i64 0) 1 8 Tryz.underlying158 hi hz0 hz1 hz2 rfl (by decide) (.slice sa k sc) k (sts.map (.int .i64)) rfl hown1 ⟨wr.heap.size, 0, none⟩ 1 1 [.int .i64 u] rfl rfl (cell_one_new _ _ _) (ints_oneCell .i64 [u]) (by unfold maxLen; omega) (by omega) (by simp; omega) ?_))
                intro v' w3 hown3 hg3 _
                obtain ⟨va', vc', hv'⟩ := ownsRow_slice hown3
                rw [hv'] at hown3 ⊢
                clear hv'
                have hL4 := (HL3.out.below ((Below.refl _ wr).alloc (Nat.le_refl _) (.cells #[.int .i64 u] 3))).app_s (sts' := sts ++ [u]) hg3 (by rw [List.map_append]; exact hown3)
                have HL4 := Lib.hid hL4
                have hcn : ((f.count.toNat : Nat) : Int) = f.count := by omega
                clear hL4 hown3 hg3 hown1 HL3 HL2 f1 f2 hzz hsle
                go_wp2_with fail
                go_loopw [6, 8, 13] (fun o x i wy => ∃ (j : Nat) (oa' : Option Addr) (n' oc' : Nat), j ≤ f.count.toNat ∧ i = .int .i64 j ∧ x = .int .i64 (u + (j : Int) * sz) ∧ o = .slice oa' n' oc' ∧ n' = n + j ∧ LSt w fb f (E ++ elsOf f u j) (sts ++ [u]) oa' va' n' oc' (k + 1) vc' wy) (fun _ _ i _ => f.count.toNat - (intOf i).toNat)
                case atStart => exact ⟨0, oa, n, oc, by omega, rfl, by simp, rfl, rfl, by simpa [elsOf] using HL4.out⟩
                case round =>
                  obtain ⟨j, oa', n', oc', hj, rfl, rfl, rfl, hn', hL⟩ := hrel
                  have HL5 := Lib.hid hL
                  clear hL
                  have f1 := cell_at HL5.out.f 1
                  have f2 := cell_at HL5.out.f 2
                  simp at f1 f2
                  have hjs : 0 ≤ (j : Int) * sz ∧ (j : Int) * sz ≤ 64 := by
                    rcases (by omega : sz = 1 ∨ sz = 2 ∨ sz = 3 ∨ sz = 4 ∨ sz = 5 ∨ sz = 6 ∨ sz = 7 ∨ sz = 8) with h | h | h | h | h | h | h | h <;> rw [h] <;> omega
                  have HJS : Hid ((((j + 1 : Nat) : Int)) * sz = (j : Int) * sz + sz) := Lib.hid (by rw [show ((j + 1 : Nat) : Int) = (j : Int) + 1 by omega, Int.add_mul, Int.one_mul])
                  have hesu := Lib.hid (elsOf_succ f u j)
                  rw [HSZ.out] at hesu
                  have HCN := Lib.hid hcn
                  have HN' := Lib.hid hn'
                  have hn2 : n' ≤ 80 := by omega
                  obtain ⟨j0, j1⟩ := hjs
                  clear hcn hn'
                  generalize hjq : (j : Int) * sz = js at *
                  have HJQ := Lib.hid hjq
                  clear hjq
                  by_cases hjl : j < f.count.toNat
                  · have t1 : (j : Int) < f.count := by omega
                    have hown1 := HL5.out.o.alloc (.cells #[.int .i64 f.kind, .int .i64 (u + js)] 210)
                    have h1c := World.news_of_block (heap_alloc_new wr (.cells #[.int .i64 f.kind, .int .i64 (u + js)] 210))
                    have HN1 := Lib.hid (And.intro h1c (show ∀ v ∈ (#[.int .i64 f.kind, .int .i64 (u + js)] : Array Value).toList, v.oneCell' = true from List.all_eq_true.1 rfl))
                    have hsle : w.heap.size ≤ wr.heap.size := HL5.out.b.size
                    clear h1c
                    go_wp2_with (at_builtin; go_loud (refine wpList_append_own _ rfl (.tmp 64) (.tmp 69) 179 rfl w.heap.size 210 i1 (.agg #[.int .i64 0, .int .i64 0]) 2 16 Tryz.underlying179 hje hy0 hy1 hy2 rfl (by decide) (.slice oa' n' oc') n' (elemL (E ++ elsOf f u j)) rfl hown1 ⟨wr.heap.size, 0, none⟩ 1 1 (#[.int .i64 f.kind, .int .i64 (u + js)] : Array Value).toList rfl rfl HN1.out.1 HN1.out.2 (by unfold maxLen; omega) (by omega) (by simp; omega) ?_))
                    intro v' w4 hown4 hg4 _
                    obtain ⟨vb', vd', hv'⟩ := ownsRow_slice hown4
                    rw [hv'] at hown4 ⊢
                    clear hv'
                    have hL6 := (HL5.out.below ((Below.refl _ wr).alloc (Nat.le_refl _) (.cells #[.int .i64 f.kind, .int .i64 (u + js)] 210))).app_o (out' := E ++ elsOf f u (j + 1)) hg4 (by rw [hesu.out, ← List.append_assoc]; unfold elemL; rw [List.flatMap_append]; exact hown4)
                    have HL6 := Lib.hid hL6
                    clear hL6 hown4 hg4 hown1 HN1 hsle f1 f2 HL5
                    go_wp2_with fail
                    go_roundw
                    case rel => exact ⟨j + 1, vb', n' + 1, vd', by omega, by go_num, congrArg (Value.int .i64) (by rw [HJS.out]; go_num), rfl, by have := HN'.out; omega, HL6.out⟩
                    case measure => simp [intOf]; omega
                  · obtain rfl : j = f.count.toNat := by omega
                    have t1 : f.count ≤ ((f.count.toNat : Nat) : Int) := by omega
                    go_wp2_with fail
                    go_roundw
                    case rel =>
                      have hps := HPS.out HOK.out HBD.out.1 (by have := HBD.out.2.1; omega) HBD.out.2.2.1 HBD.out.2.2.2
                      have hjs := HJQ.out
                      rw [HCN.out, Int.mul_comm] at hjs
                      have hp1 : (planStep (sts, at0, g0) f).1 = sts ++ [u] := by rw [HU.out, ← HSZ.out]; rfl
                      have hp2 : (planStep (sts, at0, g0) f).2.2 = max g0 sz := by rw [← HSZ.out]; rfl
                      refine ⟨k + 1, oa', n', oc', va', vc', by omega, by go_num, ?_, ?_, rfl, rfl, ?_, ?_, ?_, ?_, HL5.out.b⟩
                      · rw [htk.out, hsn.out, hps.1, ← HU.out, hjs]
                      · rw [htk.out, hsn.out, hp2]
                      · rw [htk.out, hesn.out, List.length_append, elsOf_len, HN'.out, HN.out]
                      · rw [htk.out, List.all_append, HALL.out]; simp [HOK.out]
                      · rw [htk.out, hesn.out, ← HU.out]; exact HL5.out.o
                      · rw [htk.out, hsn.out, hp1]; exact HL5.out.s
                    case measure => simp [intOf]; omega
              · have r1 : (y % sz != 0) = true := by simp [hr]
                have hq := HST.out.1 hr
                have HQ := Lib.hid hq
                have hyu : y + 1 ≤ u := by omega
                clear hq hr
                go_wp2_with fail
                go_roundw
                case rel => exact ⟨y + 1, by go_num, by omega, hyu, HQ.out.1, HL3.out⟩
                case measure => simp [intOf]; omega
        · have hbad : fldOk f = false := by simpa using hok
          have H1 : Hid (layCheck fs = 1) := Lib.hid (layCheck_bad HMEM.out hbad)
          have hbd := HL1.out.b
          have hcs : sz = 0 ∨ (1 ≤ sz ∧ f.count < 1) ∨ (1 ≤ sz ∧ 1 ≤ f.count ∧ 8 < f.count) := by
            unfold fldOk at hbad
            rw [HSZ.out] at hbad
            simp at hbad
            omega
          have HBW := Lib.hid hbd
          clear hbad hok hbd
          rcases hcs with h | ⟨h, h2⟩ | ⟨h, h2, h3⟩
          · have e1 : (sz == 0) = true := by simp [h]
            clear h
            go_wp2_with fail
            go_returns
            unfold IsLay; rw [H1.out, if_neg (by omega)]; exact ⟨HBW.out, rfl⟩
          · have e1 : (sz == 0) = false := by simp; omega
            go_wp2_with fail
            go_returns
            unfold IsLay; rw [H1.out, if_neg (by omega)]; exact ⟨HBW.out, rfl⟩
          · have e1 : (sz == 0) = false := by simp; omega
            have e2 : ¬ f.count < 1 := by omega
            go_wp2_with fail
            go_returns
            unfold IsLay; rw [H1.out, if_neg (by omega)]; exact ⟨HBW.out, rfl⟩
      · obtain rfl : k = len := by omega
        have htk : fs.take k = fs := List.take_of_length_le (by have := HLL.out; omega)
        rw [htk] at hn hall ho hs hbd hel HN HALL ⊢
        have HO := Lib.hid (And.intro ho (And.intro hs hbw))
        obtain ⟨b0, b1, b2, b3⟩ := hbd
        have hps : upF (planF fs).2.1 (planF fs).2.2 = planSize fs := rfl
        have hub := (upF_eq b0 (by omega) b2 b3).2
        rw [hps] at hub
        have HPS := Lib.hid hps
        have HPL : Hid ((planF fs).1.length = fs.length) := Lib.hid (planF_len fs)
        generalize hP : planF fs = P at *
        obtain ⟨sts, at0, g0⟩ := P
        have HP := Lib.hid hP
        simp only at b0 b1 b2 b3 hub
        generalize hU : planSize fs = u at *
        have HU := Lib.hid hU
        clear ho hs hbw hn hall hel hps hP hU htk HB
        go_wp2_with fail
        go_loopw [8] (fun x wx => ∃ y : Int, x = .int .i64 y ∧ at0 ≤ y ∧ y ≤ u ∧ upF y g0 = u ∧ Hid (wx.ownsRow w.heap.size 210 2 (.slice oa n oc) n (elemL (elems fs)) ∧ wx.ownsRow w.heap.size 3 1 (.slice sa k sc) k (sts.map (.int .i64)) ∧ Below w.heap.size w wx)) (fun x _ => (u - intOf x).toNat)
        case atStart => exact ⟨at0, rfl, by omega, by omega, HPS.out, HO⟩
        case round =>
          obtain ⟨y, rfl, y0, y1, hy, HW⟩ := hrel
          have hst := up_step (a := y) (n := g0) (by omega) (by omega) b2 b3
          rw [hy] at hst
          have HST := Lib.hid hst
          have hm : y.tmod g0 = y % g0 := Int.tmod_eq_emod_of_nonneg (by omega)
          clear hst hy HO
          by_cases hr : y % g0 = 0
          · have r1 : (y % g0 != 0) = false := by simp [hr]
            obtain rfl : u = y := HST.out.2 hr
            clear hr
            have hlc : layCheck fs = if 256 < u then 5 else 0 := by
              unfold layCheck
              rw [if_neg (by have := HLL.out; have := H8.out; omega), if_pos HALL.out, HU.out]
            have HLC := Lib.hid hlc
            clear hlc
            by_cases hg : 256 < u
            · have H5 : Hid (layCheck fs = 5) := Lib.hid (by rw [HLC.out, if_pos hg])
              go_wp2_with fail
              go_returns
              unfold IsLay; rw [H5.out, if_neg (by omega)]; exact ⟨HW.out.2.2, rfl⟩
            · have H0 : Hid (layCheck fs = 0) := Lib.hid (by rw [HLC.out, if_neg hg])
              have t2 : ¬ 256 < u := hg
              go_wp2_with fail
              go_returns
              unfold IsLay; rw [if_pos H0.out, HU.out, HP.out]
              exact ⟨HW.out.2.2, oa, n, oc, sa, k, sc, rfl, HN.out, HW.out.1, HLL.out.symm, HW.out.2.1⟩
          · have r1 : (y % g0 != 0) = true := by simp [hr]
            have hq := HST.out.1 hr
            have HQ := Lib.hid hq
            have hyu : y + 1 ≤ u := by omega
            clear hq hr
            go_wp2_with fail
            go_roundw
            case rel => exact ⟨y + 1, by go_num, by omega, hyu, HQ.out.1, HW⟩
            case measure => simp [intOf]; omega
end Go.Proofs.YtgnilkjdpfbjgaaGreat
