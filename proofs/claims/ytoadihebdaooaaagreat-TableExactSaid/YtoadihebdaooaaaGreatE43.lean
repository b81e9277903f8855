/- Plain: the document's answers of a table are the table's. · column.Clone with rows. -/
import Derived.Test.YtoadihebdaooaaaGreatE42
import Derived.Test.YtoadihebdaooaaaGreatE32
import Derived.Test.YtoadihebdaooaaaGreatE34
import Derived.Test.YtoadihebdaooaaaGreatE14
import Derived.Test.YtoadihebdaooaaaGreatE16
import Derived.Test.YtoadihebdaooaaaGreatE3
namespace Go.Proofs.YtoadihebdaooaaaGreat
open Go.RowKit
set_option linter.unusedVariables false
/-- Which bits a number of ids has. -/
theorem fold_bits (ids : List Int) (h : ids.all idB = true) : ∃ x : Nat, foldS ids = (x : Int) ∧ x < 4294967296 ∧ ∀ i, x.testBit i = true → 1 ≤ i ∧ i ≤ 24 := by
  have : ∀ (m : Nat), m ≤ ids.length → ∃ x : Nat, foldS (ids.take m) = (x : Int) ∧ x < 4294967296 ∧ ∀ i, x.testBit i = true → 1 ≤ i ∧ i ≤ 24 := by
    intro m
    induction m with
    | zero => intro _; exact ⟨0, by simp [foldS], by omega, fun i hi => by simp at hi⟩
    | succ m ih =>
      intro hm
      obtain ⟨c, hc⟩ : ∃ c, ids[m]? = some c := ⟨_, List.getElem?_eq_getElem (by omega)⟩
      obtain ⟨x, hx, hx2, hx3⟩ := ih (by omega)
      have hci : idB c = true := by rw [List.all_eq_true] at h; exact h c (List.mem_of_getElem? hc)
      obtain ⟨n, rfl, n1, n2⟩ := idNat hci
      have hp : 2 ^ n < 4294967296 := by
        have : 2 ^ n ≤ 2 ^ 24 := Nat.pow_le_pow_right (by omega) n2
        omega
      refine ⟨x ||| 2 ^ n, ?_, Nat.or_lt_two_pow (n := 32) hx2 hp, fun i hi => ?_⟩
      · rw [take_snoc hc, foldS_snoc, hx, withNat hx2 n1 n2]
      · rw [Nat.testBit_or, Bool.or_eq_true] at hi
        rcases hi with hi | hi
        · exact hx3 i hi
        · rw [Nat.testBit_two_pow] at hi
          have := of_decide_eq_true hi
          omega
  obtain ⟨x, h1, h2⟩ := this ids.length (Nat.le_refl _)
  rw [List.take_length] at h1
  exact ⟨x, h1, h2⟩
theorem set_bits {s : Int} (h0 : 0 ≤ s) (h1 : s ≤ 4294967295) (hs : sIs s = true) : ∃ x : Nat, s = (x : Int) ∧ x < 4294967296 ∧ ∀ i, x.testBit i = true → 1 ≤ i ∧ i ≤ 24 := by
  obtain ⟨x, rfl⟩ := Int.eq_ofNat_of_zero_le h0
  have hx : x < 4294967296 := by omega
  refine ⟨x, rfl, hx, fun i hi => ?_⟩
  rw [sIs_nat16 hx, beq_iff_eq] at hs
  by_cases h32 : i < 32
  · have hb : (x &&& 4261412865).testBit i = false := by rw [hs]; simp
    rw [Nat.testBit_and, mask_bit16 i h32, hi] at hb
    simp at hb
    omega
  · rw [bit_high16 hx (by omega)] at hi; cases hi
theorem set_eq {s r : Int} (hs : ∃ x : Nat, s = (x : Int) ∧ x < 4294967296 ∧ ∀ i, x.testBit i = true → 1 ≤ i ∧ i ≤ 24) (hr : ∃ x : Nat, r = (x : Int) ∧ x < 4294967296 ∧ ∀ i, x.testBit i = true → 1 ≤ i ∧ i ≤ 24)
    (h : ∀ n : Int, idB n = true → hasB s n = hasB r n) : s = r := by
  obtain ⟨x, rfl, hx, bx⟩ := hs
  obtain ⟨y, rfl, hy, byy⟩ := hr
  congr 1
  apply Nat.eq_of_testBit_eq
  intro i
  by_cases hi : 1 ≤ i ∧ i ≤ 24
  · have := h (i : Int) (idB_true (by omega) (by omega))
    rwa [hasBit hx hi.1 hi.2, hasBit hy hi.1 hi.2] at this
  · cases h1 : x.testBit i with
    | true => exact absurd (bx i h1) hi
    | false =>
      cases h2 : y.testBit i with
      | true => exact absurd (byy i h2) hi
      | false => rfl
theorem idsTo_has {s i : Int} (h1 : hasB s i = true) (h2 : idB i = true) : i ∈ idsTo s 24 := by
  unfold idsTo
  rw [List.mem_filter]
  refine ⟨?_, h1⟩
  obtain ⟨n, rfl, n1, n2⟩ := idNat h2
  exact List.mem_map.2 ⟨n - 1, List.mem_range.2 (by omega), by omega⟩
/-- How many have an id. -/
theorem count_in : ∀ (S : List Int) (l : List Int), S.Nodup → (S.map fun id => (l.filter fun c => c == id).length).sum = (l.filter fun c => decide (c ∈ S)).length
  | [], l, _ => by
    simp only [List.map_nil, List.sum_nil, List.not_mem_nil, decide_false]
    rw [List.filter_eq_nil_iff.2 (by simp)]
    rfl
  | id :: r, l, h => by
    rw [List.nodup_cons] at h
    rw [List.map_cons, List.sum_cons, count_in r l h.2]
    induction l with
    | nil => simp
    | cons c l ih =>
      simp only [List.filter_cons]
      by_cases h1 : c = id
      · subst h1
        have : ¬ c ∈ r := h.1
        simp [this] at ih ⊢
        omega
      · have e1 : (c == id) = false := by rw [beq_eq_false_iff_ne]; exact h1
        by_cases h2 : c ∈ r
        · simp [h1, h2] at ih ⊢
          omega
        · simp [h1, h2] at ih ⊢
          omega
theorem sum_all {l : List Nat} (h : ∀ x ∈ l, x = 1) : l.sum = l.length := by
  induction l with
  | nil => rfl
  | cons x r ih => rw [List.sum_cons, List.length_cons, ih (fun y hy => h y (by simp [hy])), h x (by simp)]; omega
theorem sum_one {l : List Nat} (h1 : ∀ x ∈ l, 1 ≤ x) (h2 : l.sum ≤ l.length) : ∀ x ∈ l, x = 1 := by
  induction l with
  | nil => intro x hx; cases hx
  | cons y r ih =>
    have hr : r.length ≤ r.sum := by
      have h : ∀ x ∈ r, 1 ≤ x := fun x hx => h1 x (by simp [hx])
      clear ih h1 h2
      induction r with
      | nil => simp
      | cons z q ih => rw [List.sum_cons, List.length_cons]; have := ih (fun x hx => h x (by simp [hx])); have := h z (by simp); omega
    rw [List.sum_cons, List.length_cons] at h2
    have hy := h1 y (by simp)
    intro x hx
    rcases List.mem_cons.1 hx with rfl | hx
    · omega
    · exact ih (fun x hx => h1 x (by simp [hx])) (by omega) x hx
theorem filter_all {α : Type} {p : α → Bool} {l : List α} (h : (l.filter p).length = l.length) : ∀ x ∈ l, p x = true := by
  intro x hx
  have := List.filter_eq_self.1 (List.Sublist.eq_of_length List.filter_sublist h)
  exact this x hx
theorem filter_cv (ps : List PW) (id : Int) : ((cv ps).filter fun p => p.1 == id).length = ((comps ps).filter fun c => c == id).length := by
  unfold cv comps
  induction ps with
  | nil => rfl
  | cons p r ih =>
    simp only [List.map_cons, List.filter_cons]
    cases p.comp == id <;> simp [ih]
theorem sortGo_some : ∀ (S : List Int) (ps out : List (Int × List WI)), (∃ l, sortGo S ps out = some l) ↔ ∀ id ∈ S, (ps.filter fun p => p.1 == id).length = 1
  | [], ps, out => by simp [sortGo]
  | id :: r, ps, out => by
    unfold sortGo
    by_cases h : (ps.filter fun p => p.1 == id).length = 1
    · rw [if_pos h, sortGo_some r ps]
      simp [h]
    · rw [if_neg h]
      simp [h]
/-- The value of a component among parts. -/
def valOf (ps : List PW) (id : Int) : List WI := match partOf ps id with | some p => p.val | none => []
theorem filter_one {ps : List PW} {id : Int} (h : ((cv ps).filter fun p => p.1 == id).length = 1) : ((cv ps).filter fun p => p.1 == id) = [(id, valOf ps id)] := by
  unfold valOf partOf
  induction ps with
  | nil => simp [cv] at h
  | cons p r ih =>
    unfold cv at *
    simp only [List.map_cons, List.filter_cons] at h ⊢
    by_cases hp : p.comp = id
    · subst hp
      simp only [BEq.rfl, if_true, List.length_cons] at h ⊢
      have : (List.map (fun q : PW => (q.comp, q.val)) r).filter (fun q => q.1 == p.comp) = [] := List.eq_nil_of_length_eq_zero (by omega)
      rw [this]
      simp
    · have e : (p.comp == id) = false := by rw [beq_eq_false_iff_ne]; exact hp
      simp only [e, if_false, Bool.false_eq_true] at h ⊢
      rw [ih h, List.find?_cons]
      simp [hp]
theorem sortGo_map : ∀ (S : List Int) (ps : List PW) (out l : List (Int × List WI)), sortGo S (cv ps) out = some l → l = out ++ S.map fun id => (id, valOf ps id)
  | [], ps, out, l, h => by simp [sortGo] at h; simp [h]
  | id :: r, ps, out, l, h => by
    unfold sortGo at h
    split at h
    · rename_i h1
      have := sortGo_map r ps _ l h
      rw [this, filter_one h1]
      simp
    · cases h
theorem cv_len (ps : List PW) : (cv ps).length = ps.length := by simp [cv]
/-- Parts that can be sorted are those of the set. -/
theorem sort_parts (set : Int) (ps : List PW) (h0 : 0 ≤ set) (h1 : set ≤ 4294967295) (hs : sIs set = true) : (sortF (idsTo set 24) (cv ps) = none ↔ ((partsF ps).2 ≠ 0 ∨ (partsF ps).1 ≠ set)) ∧ (sortF (idsTo set 24) (cv ps) ≠ none → ∀ p ∈ ps, p.comp ∈ idsTo set 24) := by
  have hnd := idsTo_nodup set 24
  have hcl : (comps ps).length = ps.length := by simp [comps]
  have hsome : sortF (idsTo set 24) (cv ps) ≠ none → ps.length = (idsTo set 24).length ∧ ∀ id ∈ idsTo set 24, ((comps ps).filter fun c => c == id).length = 1 := by
    intro h
    unfold sortF at h
    split at h
    · exact absurd rfl h
    · rename_i hl
      refine ⟨by rw [cv_len] at hl; omega, fun id hid => ?_⟩
      rw [← filter_cv]
      exact (sortGo_some _ _ []).1 (Option.ne_none_iff_exists'.1 h) id hid
  have hin : sortF (idsTo set 24) (cv ps) ≠ none → ∀ p ∈ ps, p.comp ∈ idsTo set 24 := by
    intro h p hp
    obtain ⟨hl, h2⟩ := hsome h
    have hc := count_in _ (comps ps) hnd
    rw [sum_all (fun x hx => by
      obtain ⟨id, hid, rfl⟩ := List.mem_map.1 hx
      exact h2 id hid), List.length_map] at hc
    have := filter_all (l := comps ps) (by rw [← hc, hcl, hl]) p.comp (List.mem_map.2 ⟨p, hp, rfl⟩)
    exact of_decide_eq_true this
  have hfwd : sortF (idsTo set 24) (cv ps) ≠ none → (partsF ps).2 = 0 ∧ (partsF ps).1 = set := by
    intro h
    obtain ⟨hl, h2⟩ := hsome h
    have hm := hin h
    have hall : (comps ps).all idB = true := by
      rw [List.all_eq_true]
      intro c hc
      obtain ⟨p, hp, rfl⟩ := List.mem_map.1 hc
      exact (idsTo_mem (hm p hp)).2
    have hfs : foldS (comps ps) = set := set_eq (fold_bits _ hall) (set_bits h0 h1 hs) (fun n hn => by
      rw [has_fold hn _ hall]
      cases hb : hasB set n with
      | true =>
        have hmem := idsTo_has hb hn
        have h3 := h2 n hmem
        have : n ∈ comps ps := by
          obtain ⟨y, hy⟩ := List.length_pos_iff_exists_mem.1 (show 0 < ((comps ps).filter fun c => c == n).length by omega)
          rw [List.mem_filter] at hy
          obtain rfl : y = n := by simpa using hy.2
          exact hy.1
        simpa using this
      | false =>
        simp only [decide_eq_false_iff_not]
        intro hmem
        obtain ⟨p, hp, rfl⟩ := List.mem_map.1 hmem
        rw [(idsTo_mem (hm p hp)).1] at hb
        cases hb)
    unfold partsF
    rw [if_pos hall, hfs, if_pos hl.symm]
    exact ⟨rfl, rfl⟩
  have hbwd : (partsF ps).2 = 0 → (partsF ps).1 = set → sortF (idsTo set 24) (cv ps) ≠ none := by
    intro h2 h3
    unfold partsF at h2 h3
    split at h2
    · rename_i hall
      rw [if_pos hall] at h3
      split at h2
      · rename_i hl
        rw [if_pos hl] at h3
        simp only at h3
        rw [h3] at hl
        have hone : ∀ id ∈ idsTo set 24, ((comps ps).filter fun c => c == id).length = 1 := by
          have hge : ∀ x ∈ (idsTo set 24).map (fun id => ((comps ps).filter fun c => c == id).length), 1 ≤ x := by
            intro x hx
            obtain ⟨id, hid, rfl⟩ := List.mem_map.1 hx
            obtain ⟨g1, g2⟩ := idsTo_mem hid
            rw [← h3, has_fold g2 _ hall] at g1
            have hmem : id ∈ comps ps := of_decide_eq_true g1
            exact List.length_pos_iff_exists_mem.2 ⟨id, by rw [List.mem_filter]; exact ⟨hmem, by simp⟩⟩
          have hle : ((idsTo set 24).map (fun id => ((comps ps).filter fun c => c == id).length)).sum ≤ ((idsTo set 24).map (fun id => ((comps ps).filter fun c => c == id).length)).length := by
            rw [count_in _ _ hnd, List.length_map]
            have := List.length_filter_le (fun c => decide (c ∈ idsTo set 24)) (comps ps)
            omega
          intro id hid
          exact sum_one hge hle _ (List.mem_map.2 ⟨id, hid, rfl⟩)
        unfold sortF
        rw [if_neg (by rw [cv_len]; omega)]
        have := (sortGo_some (idsTo set 24) (cv ps) []).2 (fun id hid => by rw [filter_cv]; exact hone id hid)
        obtain ⟨l, hl'⟩ := this
        rw [hl']
        exact Option.some_ne_none _
      · cases h2
    · cases h2
  refine ⟨⟨fun h => ?_, fun h => Classical.byContradiction fun hn => ?_⟩, hin⟩
  · by_cases h2 : (partsF ps).2 = 0
    · by_cases h3 : (partsF ps).1 = set
      · exact absurd h (hbwd h2 h3)
      · exact .inr h3
    · exact .inl h2
  · obtain ⟨g1, g2⟩ := hfwd hn
    rcases h with h | h
    · exact h g1
    · exact h g2
theorem cpsGo_congr {cs cs' : List Cmp} : ∀ (ps seen : List PW), (∀ p ∈ ps, cpF cs p = cpF cs' p) → cpsGo cs seen ps = cpsGo cs' seen ps
  | [], _, _ => rfl
  | p :: r, seen, h => by
    unfold cpsGo
    rw [h p (by simp), cpsGo_congr r _ (fun q hq => h q (by simp [hq]))]
/-- A table's components are those of the schema. -/
def RelC (cs : List Cmp) (t : TD) : Prop := (idsTo t.set 24).map (findC · cs) = t.cs.map some
theorem relC_find {cs : List Cmp} {t : TD} (hr : RelC cs t) (hids : t.cps.map (·.c.id) = idsTo t.set 24) : ∀ x ∈ t.cps, findC x.c.id cs = some x.c := by
  intro x hx
  obtain ⟨i, hi⟩ := List.getElem?_of_mem hx
  unfold RelC at hr
  rw [← hids] at hr
  have h2 := congrArg (·[i]?) hr
  simp only [List.getElem?_map, hi, Option.map_some, TD.cs] at h2
  exact Option.some.inj h2
theorem relC_same {cs : List Cmp} {t : TD} (hr : RelC cs t) (hids : t.cps.map (·.c.id) = idsTo t.set 24) {id : Int} (h : id ∈ idsTo t.set 24) : findC id t.cs = findC id cs := by
  rw [← hids] at h
  obtain ⟨x, hx, rfl⟩ := List.mem_map.1 h
  rw [relC_find hr hids x hx]
  exact find_id (by rw [hids]; exact idsTo_nodup _ _) hx
/-- The errors of a new row are the same. -/
theorem err_same {cs : List Cmp} {t : TD} {u : UD} {e : Int} {ps : List PW} (hr : RelC cs t) (hids : t.cps.map (·.c.id) = idsTo t.set 24) (h0 : 0 ≤ t.set) (h1 : t.set ≤ 4294967295) (hs : sIs t.set = true) (hroom : t.ents.length + t.kept ≤ t.most) (hm : u.most = (t.most : Int)) (hk : u.kept = (t.kept : Int)) (hl : u.ln = t.ents.length) :
    err16 u (idsTo t.set 24) cs e ps = addErr t e ps := by
  obtain ⟨s1, s2⟩ := sort_parts t.set ps h0 h1 hs
  unfold err16 addErr
  by_cases he : e = 0
  · rw [if_pos he, if_pos he]
  · rw [if_neg he, if_neg he]
    by_cases hn : sortF (idsTo t.set 24) (cv ps) = none
    · rw [if_pos hn, if_pos (s1.1 hn)]
    · rw [if_neg hn, if_neg (fun h => hn (s1.2 h))]
      have hc : cpsGo cs [] ps = cpsGo t.cs [] ps := cpsGo_congr ps [] (fun p hp => by
        unfold cpF
        rw [relC_same hr hids (s2 hn p hp)])
      rw [hc]
      by_cases hz : cpsGo t.cs [] ps ≠ 0
      · rw [if_pos hz, if_pos hz]
      · rw [if_neg hz, if_neg hz]
        have : (u.most - (u.ln : Int) - u.kept ≤ 0) ↔ t.free = 0 := by
          rw [hm, hk, hl]
          unfold TD.free
          omega
        by_cases hf : t.free = 0
        · rw [if_pos hf, if_pos (this.2 hf)]
        · rw [if_neg hf, if_neg (fun h => hf (this.1 h))]
theorem sort_row {t : TD} {ps : List PW} {l : List (Int × List WI)} (hids : t.cps.map (·.c.id) = idsTo t.set 24) (h : sortF (idsTo t.set 24) (cv ps) = some l) : l = rowCv t (addRow ps t) := by
  unfold sortF at h
  split at h
  · cases h
  · have := sortGo_map _ ps [] l h
    rw [this, List.nil_append, ← hids]
    unfold rowCv addRow valOf
    rw [List.map_map, List.zip_map']
    rfl
/-- The place of a component. -/
theorem part_col (id : Int) : ∀ (l : List CV) (k : Nat), (partIx id k (l.map (·.c.id)) = -1 ∧ colOf l id = none) ∨ ∃ j x, partIx id k (l.map (·.c.id)) = ((k + j : Nat) : Int) ∧ (l.map (·.c.id))[j]? = some id ∧ l[j]? = some x ∧ colOf l id = some x ∧ x.c.id = id
  | [], k => .inl ⟨rfl, rfl⟩
  | y :: r, k => by
    rw [List.map_cons]
    unfold partIx colOf
    by_cases h : y.c.id = id
    · rw [if_pos h]
      exact .inr ⟨0, y, by simp, by simp [h], rfl, by simp [h], h⟩
    · rw [if_neg h, List.find?_cons]
      simp only [h, decide_false]
      rcases part_col id r (k + 1) with ⟨h1, h2⟩ | ⟨j, x, h1, h2, h3, h4, h5⟩
      · exact .inl ⟨h1, h2⟩
      · exact .inr ⟨j + 1, x, by rw [h1]; congr 1; omega, by simpa using h2, by simpa using h3, h4, h5⟩
end Go.Proofs.YtoadihebdaooaaaGreat
namespace Go.Proofs.YtoadihebdaooaaaGreat
open Go.RowKit
set_option linter.unusedVariables false
set_option maxRecDepth 100000 in
theorem cloneBytes_any (g L K : Nat) (arr : Array Value) (w : World) (hh : w.heap[g]? = some (.cells arr 5 (0, 0))) (hs : L ≤ arr.size) (hL : L ≤ 100000) (h1 : ∀ u ∈ arr.toList.take L, u.oneCell' = true) :
    Calls Tryz.prog 125 #[.slice (some ⟨g, 0, none⟩) L K] w fun e w' => ∃ g' c', e = .returned (.slice (some ⟨g', 0, none⟩) L c') ∧ w'.ownsRow w.heap.size 5 1 (.slice (some ⟨g', 0, none⟩) L c') L (arr.toList.take L) ∧ Below w.heap.size w w' := by
  obtain ⟨i0, hi, hz0, hz1, hz2⟩ := info_parts Tryz.info5
  have hnn := fun (wx : World) (a : Option Addr) (n c : Nat) => Lib.run_eql_slice_nil (P := Tryz.prog) wx 192 5 a n c 0 0 Tryz.underlying192
  have hcc : ∀ j u, (arr.toList.take L)[j]? = some u → (w.alloc (.cells #[] 5)).cell? ((⟨g, 0, none⟩ : Addr).add j) = some u := fun j u hu => by
    rw [show (⟨g, 0, none⟩ : Addr).add j = ⟨g, j, none⟩ from by simp [Addr.add]; omega, cell_at (keepA _ hh)]
    rw [List.getElem?_take] at hu
    split at hu
    · simpa using hu
    · cases hu
  have hown : (w.alloc (.cells #[] 5)).ownsRow w.heap.size 5 1 (.slice (some ⟨w.heap.size, 0, none⟩) 0 0) 0 [] := World.ownsRow_made w #[] 0 (Nat.le_refl _) (by simp) (by simp)
  have hcl : (arr.toList.take L).length = L * 1 := by rw [List.length_take, Array.length_toList]; omega
  have HCC := Lib.hid hcc
  have HCL := Lib.hid hcl
  have H1 := Lib.hid h1
  clear hh hs hcc hcl h1
  go_enter Tryz.func125, Tryz.ntmps125
  go_wp2_with (at_builtin; refine wpList_append_own _ rfl (.tmp 5) (.tmp 6) 192 rfl w.heap.size 5 i0 (.int .u8 0) 1 1 Tryz.underlying192 hi hz0 hz1 hz2 rfl (by decide) (.slice (some ⟨w.heap.size, 0, none⟩) 0 0) 0 [] rfl hown ⟨g, 0, none⟩ L K (arr.toList.take L) rfl HCL.out HCC.out H1.out (by unfold maxLen; omega) (by omega) (by simp) ?_)
  intro v' w1 hown1 hg1 hnil
  have hbel : Below w.heap.size w w1 := ((Below.refl _ w).alloc (Nat.le_refl _) _).grown hg1 (by simp) (fun x hx => by simp [Value.ownBlock] at hx; omega)
  rcases hown1.2 with ⟨hv, _⟩ | ⟨g', c', cur, hv, _⟩
  · first | exact absurd hv hnil | exact (hnil hv).elim
  · rw [hv] at hown1 ⊢
    try rw [Nat.zero_add] at hown1
    try rw [Nat.zero_add]
    have HO := Lib.hid hown1
    clear hown1 hnil hv
    go_wp2
    go_returns
    exact ⟨g', c', rfl, by simpa using HO.out, hbel⟩
/-- What a round of column.Clone keeps. -/
structure CCl (w0 : World) (U : Nat) (d : CD) (va : Option Addr) (vc k : Nat) (gs : List Nat) (cf : Nat → Nat) (wx : World) : Prop where
  t : wx.heap[U]? = some (.cells #[.int .i64 d.size, .int .i64 d.cap, .int .i64 d.rows.length, .slice va k vc] 207 (0, 0))
  own : wx.ownsRow (U + 1) 192 1 (.slice va k vc) k (gs.map (chunkV d.size cf))
  below : Below w0.heap.size w0 wx
  len : gs.length = k
  nd : gs.Nodup
  good : ∀ (i g' : Nat), gs[i]? = some g' → U + 1 ≤ g' ∧ 16 * d.size ≤ cf g' ∧ ∃ g arr arr', d.gs[i]? = some g ∧ w0.heap[g]? = some (.cells arr 5 (0, 0)) ∧ wx.heap[g']? = some (.cells arr' 5 (0, 0)) ∧ arr'.size = cf g' ∧ (∀ u ∈ arr'.toList.take (16 * d.size), u.oneCell' = true) ∧ arr'.toList.take (16 * d.size) = arr.toList.take (16 * d.size)
section
variable {w0 : World} {U : Nat} {d : CD} {va : Option Addr} {vc k : Nat} {gs : List Nat} {cf : Nat → Nat} {wx : World}
theorem CCl.keepB (h : CCl w0 U d va vc k gs cf wx) {w' : World} (hb : Below wx.heap.size wx w') : CCl w0 U d va vc k gs cf w' :=
  ⟨keep hb h.t, ownsRow_below h.own hb, h.below.trans (hb.mono h.below.size), h.len, h.nd, fun i g' hi => by
    obtain ⟨h1, h2, g, arr, arr', h3, h4, h5, h6⟩ := h.good i g' hi
    exact ⟨h1, h2, g, arr, arr', h3, h4, keep hb h5, h6⟩⟩
/-- A chunk more. -/
theorem CCl.app (h : CCl w0 U d va vc k gs cf wx) (hU : w0.heap.size ≤ U) {g : Nat} {arr arr' : Array Value} {gn cn : Nat} (hg : d.gs[k]? = some g) (ha : w0.heap[g]? = some (.cells arr 5 (0, 0))) (hn : wx.heap[gn]? = some (.cells arr' 5 (0, 0))) (hsz : arr'.size = cn) (hcn : 16 * d.size ≤ cn)
    (hone : ∀ u ∈ arr'.toList.take (16 * d.size), u.oneCell' = true) (heq : arr'.toList.take (16 * d.size) = arr.toList.take (16 * d.size)) (hgn : U + 1 ≤ gn) (hnew : gn ∉ gs)
    {w' : World} {q cap : Nat} (hgr : wx.grownBy w' (Value.slice va k vc).ownBlock) (ho : w'.ownsRow (U + 1) 192 1 (.slice (some ⟨q, 0, none⟩) (k + 1) cap) (k + 1) (gs.map (chunkV d.size cf) ++ [.slice (some ⟨gn, 0, none⟩) (16 * d.size) cn])) :
    CCl w0 U d (some ⟨q, 0, none⟩) cap (k + 1) (gs ++ [gn]) (fun x => if x = gn then cn else cf x) (w'.setCell ⟨U, 3, none⟩ (.slice (some ⟨q, 0, none⟩) (k + 1) cap)) := by
  have ht' := keepG hgr h.t (ownsRow_ne_block h.own h.t (fun cur he => by cases he))
  have hno : ∀ x ∈ gs, x ≠ gn := fun x hx e => hnew (e ▸ hx)
  refine ⟨?_, ?_, ?_, ?_, ?_, ?_⟩
  · exact hset _ _ _ _ _ _ _ ht'
  · rw [List.map_append]
    have e1 : gs.map (chunkV d.size fun x => if x = gn then cn else cf x) = gs.map (chunkV d.size cf) := List.map_congr_left (fun x hx => by unfold chunkV; simp only [if_neg (hno x hx)])
    have e2 : [gn].map (chunkV d.size fun x => if x = gn then cn else cf x) = [.slice (some ⟨gn, 0, none⟩) (16 * d.size) cn] := by simp [chunkV]
    rw [e1, e2]
    exact ownsRow_setCell_below ho (by simp) _
  · refine (h.below.grown hgr h.below.size (fun x hx => ?_)).setCell hU _
    have := (h.own.lt x hx).1; omega
  · rw [List.length_append, h.len]; rfl
  · rw [List.nodup_append]
    refine ⟨h.nd, by simp, fun a ha b hb => ?_⟩
    obtain rfl := List.mem_singleton.1 hb
    exact hno a ha
  · intro i g' hi
    have hk : ∀ b cs, wx.heap[b]? = some (.cells cs 5 (0, 0)) → b ≠ U → (w'.setCell ⟨U, 3, none⟩ (.slice (some ⟨q, 0, none⟩) (k + 1) cap)).heap[b]? = some (.cells cs 5 (0, 0)) := fun b cs hb hbU => by
      rw [hset_ne _ _ _ _ (by simpa using hbU)]
      exact keepG hgr hb (ownsRow_ne_block h.own hb (fun cur he => by cases he))
    rcases Nat.lt_or_ge i gs.length with hlt | hge
    · rw [List.getElem?_append_left hlt] at hi
      obtain ⟨h1, h2, g, arr, arr', h3, h4, h5, h6, h7⟩ := h.good i g' hi
      have hne := hno g' (List.mem_of_getElem? hi)
      simp only [if_neg hne]
      exact ⟨h1, h2, g, arr, arr', h3, h4, hk g' _ h5 (by omega), h6, h7⟩
    · have hil := (List.getElem?_eq_some_iff.1 hi).1
      simp at hil
      obtain rfl : i = gs.length := by omega
      rw [List.getElem?_append_right (Nat.le_refl _), Nat.sub_self] at hi
      simp at hi
      subst hi
      simp only [if_pos]
      exact ⟨hgn, hcn, g, arr, arr', by rw [h.len]; exact hg, ha, hk gn _ hn (by omega), hsz, hone, heq⟩
/-- The copy. -/
theorem CCl.fin {B : Nat} (h : CCl w0 U d va vc d.gs.length gs cf wx) (hd : ColAt B w0 d) (hU : w0.heap.size ≤ U) : ColAt w0.heap.size wx { d with cb := U, va := va, vc := vc, gs := gs, cf := cf } := by
  have hlen := h.len
  refine ⟨⟨by rw [hlen]; exact h.t, by rw [hlen]; exact ownsRow_mono h.own (by omega), hU, h.nd, fun g' hg' => ?_, hd.mem.hsz, hd.mem.hn, hd.mem.hcap, by rw [hlen]; exact hd.mem.hgl, fun g' hg' => ?_⟩, by rw [hlen]; exact hd.num, fun i row hr g' hg' k x hx => ?_, hd.sz, hd.hle⟩
  · obtain ⟨i, hi⟩ := List.getElem?_of_mem hg'
    obtain ⟨h1, h2, g, arr, arr', h3, h4, h5, h6, h7, h8⟩ := h.good i g' hi
    exact ⟨by omega, arr', h5, h6, h7⟩
  · obtain ⟨i, hi⟩ := List.getElem?_of_mem hg'
    exact (h.good i g' hi).2.1
  · obtain ⟨h1, h2, g, arr, arr', h3, h4, h5, h6, h7, h8⟩ := h.good (i / 16) g' hg'
    have hc := hd.cell i row hr g h3 k x hx
    have hkl := (List.getElem?_eq_some_iff.1 hx).1
    have hsz := hd.sz row (List.mem_of_getElem? hr)
    have hoff : i % 16 * d.size ≤ 15 * d.size := Nat.mul_le_mul_right _ (by omega)
    have hin : i % 16 * d.size + k < 16 * d.size := by omega
    rw [cell_at h4] at hc
    rw [cell_at h5]
    have e1 : (arr'.toList.take (16 * d.size))[i % 16 * d.size + k]? = arr'[i % 16 * d.size + k]? := by rw [List.getElem?_take, if_pos hin]; simp
    have e2 : (arr.toList.take (16 * d.size))[i % 16 * d.size + k]? = arr[i % 16 * d.size + k]? := by rw [List.getElem?_take, if_pos hin]; simp
    rw [← e1, h8, e2]
    exact hc
end
set_option maxRecDepth 100000 in
set_option maxHeartbeats 4000000 in
theorem colClone_rows (B : Nat) (w : World) (d : CD) (h : ColAt B w d) : Calls Tryz.prog 86 #[.pointer (some ⟨d.cb, 0, none⟩)] w fun e w' => ∃ d' : CD, e = .returned (.pointer (some ⟨d'.cb, 0, none⟩)) ∧ ColAt w.heap.size w' d' ∧ d'.rows = d.rows ∧ d'.size = d.size ∧ d'.cap = d.cap ∧ Below w.heap.size w w' := by
  obtain ⟨i1, hi', hy0, hy1, hy2⟩ := info_parts Tryz.info192
  have H := Lib.hid h
  have hgl := h.mem.hgl
  have hsz256 := h.mem.hsz
  have c0 := cell_at h.mem.blk 0
  have c1 := cell_at h.mem.blk 1
  have c2 := cell_at h.mem.blk 2
  have c3 := cell_at h.mem.blk 3
  simp at c0 c1 c2 c3
  have hU := heap_alloc_new w (.cells #[.int .i64 d.size, .int .i64 d.cap, .int .i64 d.rows.length, .slice d.va d.gs.length d.vc] 207)
  have hb0 : Below w.heap.size w (w.alloc (.cells #[.int .i64 d.size, .int .i64 d.cap, .int .i64 d.rows.length, .slice d.va d.gs.length d.vc] 207)) := by go_grown
  have hT := keep hb0 h.mem.blk
  have HV := Lib.hid (And.intro hU hb0)
  clear h
  go_enter Tryz.func86, Tryz.ntmps86
  go_upto_region 4 with (fail)
  clear c0 c1 c2 c3 hb0
  generalize w.alloc (.cells #[.int .i64 d.size, .int .i64 d.cap, .int .i64 d.rows.length, .slice d.va d.gs.length d.vc] 207) = V at *
  have d3 := cell_at hT 3
  have u3 := cell_at hU 3
  have f3 := free_at hU 3
  simp at d3 u3
  clear hT hU
  go_upto_region 5 with (fail)
  have hU2 := hset V w.heap.size 3 (.slice none 0 0) _ _ _ HV.out.1
  have hb2 : Below w.heap.size w (V.setCell ⟨w.heap.size, 3, none⟩ (.slice none 0 0)) := HV.out.2.setCell (by simp) _
  clear u3 f3 d3
  generalize V.setCell ⟨w.heap.size, 3, none⟩ (.slice none 0 0) = V2 at *
  have hT := keep hb2 H.out.mem.blk
  have d3 := cell_at hT 3
  simp at d3 hU2
  clear hT
  have HV2 := Lib.hid (And.intro hU2 hb2)
  clear hU2 hb2 HV
  generalize hgU : w.heap.size = U at *
  have HGU := Lib.hid hgU
  clear hgU
  generalize hgn : d.gs.length = n at *
  have HGN := Lib.hid hgn
  clear hgn
  go_wp2_with fail
  go_loopw [17] (fun i wr => ∃ (k : Nat) (va' : Option Addr) (vc' : Nat) (gs' : List Nat) (cf' : Nat → Nat), k ≤ n ∧ i = .int .i64 k ∧ CCl w U d va' vc' k gs' cf' wr) (fun i _ => n - (intOf i).toNat)
  case atStart =>
    exact ⟨0, none, 0, [], fun _ => 0, Nat.zero_le _, rfl, HV2.out.1, World.ownsRow_nil _ _ _ _, by rw [HGU.out]; exact HV2.out.2, rfl, by simp, (fun i g' hi => by simp at hi)⟩
  case round =>
    obtain ⟨k, va', vc', gs', cf', hk, rfl, hst⟩ := hrel
    have HST := Lib.hid hst
    have hbw := hst.below
    by_cases hlt : k < n
    · obtain ⟨g, hg⟩ : ∃ g, d.gs[k]? = some g := ⟨_, List.getElem?_eq_getElem (by have := HGN.out; omega)⟩
      obtain ⟨hgB, arr, harr, hasz, hone⟩ := H.out.mem.chunk g (List.mem_of_getElem? hg)
      have hcf := H.out.mem.hcf g (List.mem_of_getElem? hg)
      have hrow := ownsRow_below H.out.mem.own hbw
      rw [HGN.out] at hrow
      obtain ⟨q, hq, _, hql, hqc⟩ := row_block hrow (by omega)
      have z0 := hqc k (chunkV d.size d.cf g) (by simp [hg])
      unfold chunkV at z0
      have i1 : (0 : Int) ≤ (k : Int) := by omega
      have i2 : (k : Int) < (n : Int) := by omega
      have HG := Lib.hid hg
      have HAR := Lib.hid harr
      have HON := Lib.hid hone
      have HSZ := Lib.hid hasz
      rw [hq]
      obtain ⟨L, hL⟩ : ∃ L, 16 * d.size = L := ⟨_, rfl⟩
      have hL5 : L ≤ 5000 := by omega
      rw [hL] at z0 hcf
      have HL := Lib.hid hL
      clear hg hgB harr hasz hone hrow hqc hq hbw hst hL
      go_upto_region 8 with (fail)
      have hUz := lt_some HST.out.t
      have t0 := cell_at HST.out.t 3
      have t2 := free_at HST.out.t 3
      simp at t0
      have HLT := Lib.hid hlt
      clear z0 i1 i2 hlt d3
      have hcl : Calls Tryz.prog 125 #[.slice (some ⟨g, 0, none⟩) L (d.cf g)] wr.drew fun e w' => ∃ g' c', e = .returned (.slice (some ⟨g', 0, none⟩) L c') ∧ w'.ownsRow wr.drew.heap.size 5 1 (.slice (some ⟨g', 0, none⟩) L c') L (arr.toList.take L) ∧ Below wr.drew.heap.size wr.drew w' :=
        cloneBytes_any g L _ arr wr.drew (keep (show Below w.heap.size w wr.drew from HST.out.below.drew) HAR.out) (by rw [HSZ.out]; exact hcf) (by omega) (by rw [← HL.out]; exact HON.out)
      have HCL := Lib.hid hcl
      clear hcl
      have hd : ∀ w6, Below wr.drew.heap.size wr.drew w6 → w6.cell? ⟨U, 3, none⟩ = some (.slice va' k vc') ∧ ∀ o, (w6.alloc o).cell? ⟨U, 3, none⟩ = some (.slice va' k vc') := by
        intro w6 hb6
        have st := HST.out.keepB (w' := wr.drew) (Below.refl _ _).drew |>.keepB hb6
        exact ⟨by rw [cell_at st.t]; rfl, fun o => by rw [cell_at (keepA _ st.t)]; rfl⟩
      have HD := Lib.hid hd
      clear hd
      have he : ∀ w6 o w7, Below wr.drew.heap.size wr.drew w6 → (w6.alloc o).grownBy w7 (Value.slice va' k vc').ownBlock → w7.cell? ⟨U, 3, none⟩ = some (.slice va' k vc') ∧ w7.frozen? ⟨U, 3, none⟩ = false := by
        intro w6 o w7 hb6 hg7
        have st := HST.out.keepB (w' := wr.drew) (Below.refl _ _).drew |>.keepB hb6
        have hT6 := keepG hg7 (keepA _ st.t) (ownsRow_ne_block st.own st.t (fun cur he => by cases he))
        exact ⟨by rw [cell_at hT6]; rfl, free_at hT6 _⟩
      have HE := Lib.hid he
      clear he
      have hob : ∀ w6 o, Below wr.drew.heap.size wr.drew w6 → (w6.alloc o).ownsRow (U + 1) 192 1 (.slice va' k vc') k (gs'.map (chunkV d.size cf')) := by
        intro w6 o hb6
        exact (HST.out.keepB (w' := wr.drew) (Below.refl _ _).drew |>.keepB hb6).own.alloc o
      have HOB := Lib.hid hob
      clear hob
      have hnw : ∀ (w6 : World) (u0 : Value) j u, ([u0] : List Value)[j]? = some u → (w6.alloc (.cells #[u0] 192)).cell? ((⟨w6.heap.size, 0, none⟩ : Addr).add j) = some u :=
        fun w6 u0 => World.news_of_block (cs := #[u0]) (t := 192) (fr := (0, 0)) (heap_alloc_new w6 _)
      have HNW := Lib.hid hnw
      clear hnw
      have hm1 : k + 1 ≤ maxLen := by unfold maxLen; omega
      have hm2 : (k + 1) * 24 ≤ 140737488355328 := by omega
      have hm3 : ∀ w6 o, Below wr.drew.heap.size wr.drew w6 → U + 1 ≤ (w6.alloc o).heap.size := by
        intro w6 o hb6
        have : wr.heap.size ≤ w6.heap.size := hb6.size
        simp; omega
      have HM3 := Lib.hid hm3
      clear hm3
      have hfin : ∀ (w6 : World) (o : Obj) (w7 : World) (q cap gn cn : Nat), Below wr.drew.heap.size wr.drew w6 → w6.ownsRow wr.drew.heap.size 5 1 (.slice (some ⟨gn, 0, none⟩) L cn) L (arr.toList.take L) → (w6.alloc o).grownBy w7 (Value.slice va' k vc').ownBlock → w7.ownsRow (U + 1) 192 1 (.slice (some ⟨q, 0, none⟩) (k + 1) cap) (k + 1) (gs'.map (chunkV d.size cf') ++ [.slice (some ⟨gn, 0, none⟩) L cn]) →
          ∃ gs2 cf2, CCl w U d (some ⟨q, 0, none⟩) cap (k + 1) gs2 cf2 (w7.setCell ⟨U, 3, none⟩ (.slice (some ⟨q, 0, none⟩) (k + 1) cap)) := by
        intro w6 o w7 q cap gn cn hb6 hgo hg7 hown7
        have st := (HST.out.keepB (w' := wr.drew) (Below.refl _ _).drew |>.keepB hb6).keepB ((Below.refl _ _).alloc (Nat.le_refl _) o)
        rcases hgo.2 with ⟨hv, _⟩ | ⟨g1, cap1, cur, hv, hg1, hcur, hc1, hc2, hc3, hc4⟩
        · cases hv
        · cases hv
          have hgnr : wr.heap.size ≤ gn := hg1
          rw [← HL.out] at hc1 hc4 hown7
          have hlenL : (arr.toList.take (16 * d.size)).length = 16 * d.size := by rw [List.length_take, Array.length_toList]; have := HSZ.out; have := HL.out; omega
          rw [Nat.mul_one] at hc3 hc4
          exact ⟨_, _, st.app (by have := HGU.out; omega) HG.out HAR.out (keepA o hcur) hc3 hc1 (by rw [hc4]; exact HON.out) hc4 (by omega) (fun hm => by
            obtain ⟨i, hi⟩ := List.getElem?_of_mem hm
            obtain ⟨_, _, _, _, _, _, _, h5, _⟩ := HST.out.good i gn hi
            have := lt_some h5
            omega) hg7 hown7⟩
      have HFIN := Lib.hid hfin
      clear hfin
      go_wp2_with fail
      go_region_law (first | (refine step_append_lies _ (by rfl) _ _ 205 (by rfl) (U + 1) 192 i1 _ 1 24 Tryz.underlying205 hi' hy0 hy1 hy2 rfl (by omega) (.slice va' k vc') k (gs'.map (chunkV d.size cf')) (by rfl) (HOB.out _ _ hb6) ⟨w6.heap.size, 0, none⟩ 1 1 [.slice (some ⟨gn, 0, none⟩) L cn] (by rfl) (by rfl) (HNW.out w6 (.slice (some ⟨gn, 0, none⟩) L cn)) (by intro u hu; simp at hu; subst hu; rfl) (by omega) hm1 hm2 (HM3.out _ _ hb6) (w6.heap.size + 1) (by simp) ?_; intro q7 cap7 w7 hown7 hg7 hat7 hlt7; obtain ⟨d5, d6⟩ := HE.out _ _ _ hb6 hg7) | (go_simp; go_at_call 125; refine HCL.out.mono ?_; rintro e w6 ⟨gn, cn, rfl, hgo, hb6⟩; have HGO := Lib.hid hgo; clear hgo; obtain ⟨d0, d0'⟩ := HD.out _ hb6))
      all_goals
        obtain ⟨gs2, cf2, hst3⟩ := HFIN.out _ _ _ _ _ _ _ hb6 HGO.out hg7 hown7
        have HST3 := Lib.hid hst3
        clear hb6 hg7 hown7 d0 d0' d5 d6 t0 t2 hat7 hlt7 hst3
        go_wp2_with fail
        go_roundw
        case rel => exact ⟨k + 1, _, _, _, _, by have := HLT.out; omega, by go_num, HST3.out⟩
        case measure => have := HLT.out; simp [intOf]; omega
    · obtain rfl : k = n := by omega
      go_wp2_with fail
      go_returns
      have hst2 := HST.out
      rw [← HGN.out] at hst2
      have hf := hst2.fin H.out (by have := HGU.out; omega)
      exact ⟨{ d with cb := U, va := va', vc := vc', gs := gs', cf := cf' }, rfl, hf, rfl, rfl, rfl, HST.out.below⟩
end Go.Proofs.YtoadihebdaooaaaGreat
