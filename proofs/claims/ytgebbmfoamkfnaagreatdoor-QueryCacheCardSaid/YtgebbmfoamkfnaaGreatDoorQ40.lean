/- The queries' laws' awake, told. · awake of the queries' laws is true. -/
import Derived.Test.YtgebbmfoamkfnaaGreatDoorQ39
import Derived.Test.YtgebbmfoamkfnaaGreatDoorQ37
namespace Go.Proofs.YtgebbmfoamkfnaaGreatDoor
open Go.RowKit
set_option linter.unusedVariables false
def caps20 : CapsD := ⟨2, 2, 2, 0, 0, 2⟩
def cs20 : List Cmp := [⟨1, ⟨#[97]⟩, [⟨⟨#[120]⟩, 6, 1⟩]⟩, ⟨2, ⟨#[98]⟩, []⟩, ⟨3, ⟨#[99]⟩, []⟩]
def p20 : List (Int × List WI) := [(3, []), (1, [⟨false, 0, 5⟩])]
def Q0 : WS := WS0 caps20 1 cs20 2
def Q1 : WS := Q0.spawnS p20
theorem q_spawn : Q0.spawnE p20 = 0 := by kernel_rfl
theorem q_match : Q1.matchL 2 4 = [4294967297] := by kernel_rfl
theorem q_row : Q1.rowN 2 4294967297 = 1 := by kernel_rfl
theorem schema20 : schemaCheck 1 cs20 = 0 := by kernel_rfl
theorem caps20_ok : CapsOk caps20 := by constructor <;> decide
theorem q_check1 : checkQ 1 cs20 2 4 = 0 := by kernel_rfl
theorem q_check2 : checkQ 1 cs20 2 2 = 7 := by kernel_rfl
def K1q : CS := CS.new.ask (2, 4) [2, 6, 10]
def K2q : CS := K1q.ask (2, 4) [2, 6, 10, 18]
theorem k_tabs1 : tabsGo 2 4 0 [2, 6, 10] = [0, 2] := by kernel_rfl
theorem k_tabs2 : tabsGo 2 4 0 [2, 6, 10, 18] = [0, 2, 3] := by kernel_rfl
theorem k_look1 : K1q.looked = 3 := by kernel_rfl
theorem k_look : K2q.looked = 4 := by kernel_rfl
theorem k_cnt1 : K1q.cnt = 1 := by kernel_rfl
theorem k_cnt : K2q.cnt = 1 := by kernel_rfl
def txt1 : ByteArray := ⟨#[49, 32, 110, 111, 116, 32, 50]⟩
def txt2 : ByteArray := ⟨#[49, 32, 110, 111, 116]⟩
theorem t_text : textQ 2 4 = [49, 32, 110, 111, 116, 32, 50] := by kernel_rfl
theorem t_parse1 : parseQ txt1 = (2, 4) := by kernel_rfl
theorem t_err1 : parseQE txt1 = 0 := by kernel_rfl
theorem t_parse2 : parseQ txt2 = (0, 0) := by kernel_rfl
theorem t_err2 : parseQE txt2 = 4 := by kernel_rfl
theorem cs20_wf : CompsWf cs20 := by
  intro c hc
  simp only [cs20, List.mem_cons, List.not_mem_nil, or_false] at hc
  rcases hc with rfl | rfl | rfl
  · refine ⟨by decide, fun f hf => ?_⟩
    simp only [List.mem_cons, List.not_mem_nil, or_false] at hf
    subst hf
    decide
  · exact ⟨by decide, fun f hf => by cases hf⟩
  · exact ⟨by decide, fun f hf => by cases hf⟩
theorem cs20_f : ∀ c ∈ cs20, c.fields.length ≤ 100000 := by
  intro c hc
  simp only [cs20, List.mem_cons, List.not_mem_nil, or_false] at hc
  rcases hc with rfl | rfl | rfl <;> decide
/-- The schema of three, in memory: its fields' block f, its components' q. -/
def fieldC : Array Value := #[.string ⟨#[120]⟩, .int .i64 6, .int .i64 1]
def compC20 (f : Nat) : Array Value := #[.int .i64 1, .string ⟨#[97]⟩, .slice (some ⟨f, 0, none⟩) 1 1, .int .i64 2, .string ⟨#[98]⟩, .slice none 0 0, .int .i64 3, .string ⟨#[99]⟩, .slice none 0 0]
theorem comps20 {W : World} {f q b : Nat} {t u : TypeId} (hf : W.heap[f]? = some (.cells fieldC t (0, 0))) (hq : W.heap[q]? = some (.cells (compC20 f) u (0, 0))) (hfb : f < b) (hqb : q < b) : CompsAt b W (some ⟨q, 0, none⟩) 3 cs20 := by
  refine ⟨rfl, by unfold maxLen; omega, .inr ⟨q, 0, rfl, hqb, fun i c hc => ?_⟩⟩
  match i, hc with
  | 0, hc =>
    cases hc
    refine ⟨by rw [cell_at hq]; rfl, by rw [cell_at hq]; rfl, some ⟨f, 0, none⟩, 1, 1, by rw [cell_at hq]; rfl, ⟨rfl, by unfold maxLen; omega, .inr ⟨f, 0, rfl, hfb, fun j g hg => ?_⟩⟩, fun h => by cases h⟩
    match j, hg with
    | 0, hg =>
      cases hg
      exact ⟨by rw [cell_at hf]; rfl, by rw [cell_at hf]; rfl, by rw [cell_at hf]; rfl⟩
    | n + 1, hg => simp at hg
  | 1, hc =>
    cases hc
    exact ⟨by rw [cell_at hq]; rfl, by rw [cell_at hq]; rfl, none, 0, 0, by rw [cell_at hq]; rfl, ⟨rfl, by unfold maxLen; omega, .inl rfl⟩, fun _ => ⟨rfl, rfl⟩⟩
  | 2, hc =>
    cases hc
    exact ⟨by rw [cell_at hq]; rfl, by rw [cell_at hq]; rfl, none, 0, 0, by rw [cell_at hq]; rfl, ⟨rfl, by unfold maxLen; omega, .inl rfl⟩, fun _ => ⟨rfl, rfl⟩⟩
  | n + 3, hc => simp [cs20] at hc
/-- The two parts. -/
def ps20 (ib : Nat) : List PW := [⟨3, none, 0, 0, []⟩, ⟨1, some ⟨ib, 0, none⟩, 1, 1, [⟨false, 0, 5⟩]⟩]
theorem cv20 (ib : Nat) : cv (ps20 ib) = p20 := rfl
def partC20 (ib : Nat) : Array Value := #[.int .i64 3, .slice none 0 0, .int .i64 1, .slice (some ⟨ib, 0, none⟩) 1 1]
theorem parts20At {w : World} {pb ib : Nat} (hp : w.heap[pb]? = some (.cells (partC20 ib) 85 (0, 0))) (hi : w.heap[ib]? = some (.cells #[.bool false, .int .u64 0, .int .u64 5] 87 (0, 0))) :
    PartsAt w.heap.size w (some ⟨pb, 0, none⟩) 2 2 (ps20 ib) := by
  refine ⟨rfl, Nat.le_refl _, by unfold maxLen; omega, fun p hpp => ?_, .inr ⟨pb, 0, rfl, lt_some hp, fun i p hpp => ?_⟩⟩
  · simp only [ps20, List.mem_cons, List.not_mem_nil, or_false] at hpp
    rcases hpp with rfl | rfl
    · exact ⟨rfl, Nat.le_refl _, Nat.zero_le _, (fun x hx => by cases hx), .inl rfl⟩
    · refine ⟨rfl, Nat.le_refl _, by show 1 ≤ maxLen; unfold maxLen; omega, fun x hx => ?_, .inr ⟨ib, 0, rfl, lt_some hi, fun i x hx => ?_⟩⟩
      · simp only [List.mem_cons, List.not_mem_nil, or_false] at hx
        subst hx
        exact wf_lo (by omega) (by omega)
      · match i, hx with
        | 0, hx =>
          cases hx
          exact ⟨by rw [cell_at hi]; rfl, by rw [cell_at hi]; rfl, by rw [cell_at hi]; rfl⟩
        | n + 1, hx => simp at hx
  · match i, hpp with
    | 0, hpp =>
      cases hpp
      exact ⟨by rw [cell_at hp]; rfl, by rw [cell_at hp]; rfl⟩
    | 1, hpp =>
      cases hpp
      exact ⟨by rw [cell_at hp]; rfl, by rw [cell_at hp]; rfl⟩
    | n + 2, hpp => simp [ps20] at hpp
section
variable {w w' w9 : World} {d d' : WD} {n : Nat}
theorem raw_off (h : WRaw w d n) {b : Nat} {cs : Array Value} {ty : TypeId} {fr : Nat × Nat} (hb : w.heap[b]? = some (.cells cs ty fr)) (ht : ty ∉ wK ++ xK ++ gK ++ tK) : ¬ d.foot b := by
  intro hf
  rcases h.kin hf with ⟨cs', ty', fr', h1, h2⟩ | ⟨es, c, h1⟩
  · rw [hb] at h1; cases h1; exact ht h2
  · rw [hb] at h1; cases h1
theorem parts20 (h : WRaw w d n) {pb ib : Nat} (hp : w.heap[pb]? = some (.cells (partC20 ib) 85 (0, 0))) (hi : w.heap[ib]? = some (.cells #[.bool false, .int .u64 0, .int .u64 5] 87 (0, 0))) : PartsIn d w (some ⟨pb, 0, none⟩) 2 2 (ps20 ib) :=
  ⟨fun w' ho => parts20At (ho.keep hp (raw_off h hp (by decide))) (ho.keep hi (raw_off h hi (by decide))), by omega⟩
/-- The world that awake makes; what lay before it is as it was. -/
structure AwD (w9 : World) (S : WS) (WB : Nat) (w : World) : Prop where
  ex : ∃ d, WIn w d 0 ∧ d.S = S ∧ d.wb = WB ∧ ∀ z, d.foot z → w9.heap.size ≤ z
  bel : Below w9.heap.size w9 w
variable {S : WS} {WB : Nat}
theorem AwD.below (h : AwD w9 S WB w) (hb : Below w.heap.size w w') : AwD w9 S WB w' := by
  obtain ⟨⟨d, h1, h2⟩, h3⟩ := h
  exact ⟨⟨d, h1.below hb, h2⟩, h3.trans (hb.mono h3.size)⟩
theorem aw20_new {q : Nat} (hc : CompsAt w9.heap.size w9 (some ⟨q, 0, none⟩) 3 cs20) : Calls Tryz.prog 16 #[.agg #[.int .i64 1, .slice (some ⟨q, 0, none⟩) 3 3], .agg #[.int .i64 2, .int .i64 2, .int .i64 2, .int .i64 0, .int .i64 0, .int .i64 2]] w9 fun e w' => ∃ wb, e = .returned (.pointer (some ⟨wb, 0, none⟩)) ∧ AwD w9 Q0 wb w' := by
  refine (wNew_any caps20 caps20_ok 1 cs20 _ 3 3 2 rfl w9 hc cs20_wf (by decide) cs20_f (fun h => by cases h) schema20).mono ?_
  rintro e w' ⟨d, rfl, hW, hS, hF, hb⟩
  exact ⟨d.wb, rfl, ⟨d, hW, hS, rfl, hF⟩, hb⟩
theorem aw20_spawn (h : AwD w9 Q0 WB w) {pb ib : Nat} (hp : w.heap[pb]? = some (.cells (partC20 ib) 85 (0, 0))) (hi : w.heap[ib]? = some (.cells #[.bool false, .int .u64 0, .int .u64 5] 87 (0, 0))) :
    Calls Tryz.prog 17 #[.pointer (some ⟨WB, 0, none⟩), .slice (some ⟨pb, 0, none⟩) 2 2] w fun e w' => (∃ v, e = .returned v) ∧ AwD w9 Q1 WB w' := by
  obtain ⟨⟨d, h1, h2, rfl, h3⟩, h4⟩ := h
  refine (wSpawn_any h1 (parts20 h1.raw hp hi)).mono ?_
  rintro e w' ⟨d', k1, k2, k3, hor⟩
  rw [cv20, h2] at hor
  rcases hor with ⟨k4, _⟩ | ⟨_, rfl, k5⟩
  · exact absurd q_spawn k4
  · refine ⟨⟨_, rfl⟩, ⟨d', k1, k5, k3, fun z hz => ?_⟩, ?_⟩
    · rcases k2.foot z hz with hz | hz
      · exact h3 z hz
      · exact Nat.le_trans h4.size hz
    · exact h4.trans (k2.out.below h3 h4.size)
theorem aw20_rows (h : AwD w9 Q1 WB w) : Calls Tryz.prog 19 #[.pointer (some ⟨WB, 0, none⟩), .agg #[.int .u32 2, .int .u32 4]] w fun e w' => ∃ b c en pa pc, e = .returned (.tuple #[.slice (some ⟨b, 0, none⟩) 1 c, .int .i64 0]) ∧ w'.cell? ⟨b, 0, none⟩ = some en ∧ w'.cell? ⟨b, 1, none⟩ = some (.slice pa 1 pc) ∧ b < w'.heap.size ∧ AwD w9 Q1 WB w' := by
  obtain ⟨d, h1, h2, h3, _⟩ := h.ex
  have hr := qRows_any h1 2 4 ⟨⟨by decide, by decide⟩, by decide, by decide⟩
  rw [h2, h3] at hr
  refine hr.mono ?_
  intro e w' hi
  unfold IsRowsE at hi
  rw [if_neg (by rw [show checkQ Q1.ver Q1.cs 2 4 = 0 from q_check1]; simp), q_match] at hi
  obtain ⟨va, vc, R, rfl, ⟨hR, hN⟩, ho, hb⟩ := hi
  obtain ⟨r, rfl⟩ : ∃ r, R = [r] := by
    have := congrArg List.length hR
    rw [List.length_map] at this
    exact List.length_eq_one_iff.1 this
  have he : r.ent = 4294967297 := by simpa using hR
  have hn := hN r (by simp)
  rw [he, q_row] at hn
  obtain ⟨b, hv, _, hlt, hc⟩ := row_block ho (by decide)
  cases hv
  refine ⟨b, vc, _, r.pa, r.pc, rfl, hc 0 _ rfl, ?_, hlt, h.below hb⟩
  have h1 := hc 1 (.slice r.pa r.pn r.pc) rfl
  rw [hn] at h1
  exact h1
end
end Go.Proofs.YtgebbmfoamkfnaaGreatDoor
namespace Go.Proofs.YtgebbmfoamkfnaaGreatDoor
open Go.RowKit
set_option linter.unusedVariables false
theorem qwf24 : QWf (2, 4) := ⟨⟨by decide, by decide⟩, by decide, by decide⟩
theorem qwf22 : QWf (2, 2) := ⟨⟨by decide, by decide⟩, by decide, by decide⟩
theorem sets1_ok : setsOk [2, 6, 10] := by intro s hs; simp at hs; omega
theorem sets2_ok : setsOk [2, 6, 10, 18] := by intro s hs; simp at hs; omega
theorem row_lit {w : World} {cur : Array Value} {e : TypeId} {n : Nat} (hs : cur.size = n) (hm : n ≤ maxLen) : (w.alloc (.cells cur e)).ownsRow 0 e 1 (.slice (some ⟨w.heap.size, 0, none⟩) n n) n cur.toList :=
  ⟨by simp [hs], .inr ⟨w.heap.size, n, cur, rfl, Nat.zero_le _, heap_alloc_new w _, Nat.le_refl _, hm, by omega, by subst hs; simp [List.take_of_length_le]⟩⟩
theorem QV.out {w w' : World} {F : Nat → Prop} (h : QV w) (ho : Out F w w') (hF : ∀ x, F x → 2 < x) : QV w' := by
  obtain ⟨⟨m, hm⟩, ⟨e1, h1, k1⟩, ⟨e2, h2, k2⟩, hs⟩ := h
  have hc : ∀ b, b ≤ 2 → w'.cell? ⟨b, 0, none⟩ = w.cell? ⟨b, 0, none⟩ := fun b hb => World.cell?_of_block (a := ⟨b, 0, none⟩) (ho.block b (by show b < w.heap.size; omega) (fun hf => by have := hF b hf; omega))
  exact ⟨⟨m, (hc 0 (by omega)).trans hm⟩, ⟨e1, (hc 1 (by omega)).trans h1, k1⟩, ⟨e2, (hc 2 (by omega)).trans h2, k2⟩, Nat.lt_of_lt_of_le hs ho.size⟩
/-- What awake has before it makes its world. -/
structure AwP (w0 : World) (cb kb q3 q4 : Nat) (w : World) : Prop where
  q1 : w.heap[w0.heap.size]? = some (.cells #[.int .u32 2, .int .u32 4] 30 (0, 0))
  cache : CacheAt w cb kb K2q
  r3 : w.cell? ⟨q3, 0, none⟩ = some (.int .i64 0) ∧ w.cell? ⟨q3, 1, none⟩ = some (.int .i64 2) ∧ q3 < w.heap.size
  r4 : w.cell? ⟨q4, 2, none⟩ = some (.int .i64 3) ∧ q4 < w.heap.size
  qv : QV w
  bel : Below w0.heap.size w0 w
theorem AwP.below {w0 w w' : World} {cb kb q3 q4 : Nat} (h : AwP w0 cb kb q3 q4 w) (hb : Below w.heap.size w w') : AwP w0 cb kb q3 q4 w' :=
  ⟨keep hb h.q1, h.cache.below hb, ⟨(hb.cell (p := ⟨q3, 0, none⟩) h.r3.2.2).trans h.r3.1, (hb.cell (p := ⟨q3, 1, none⟩) h.r3.2.2).trans h.r3.2.1, Nat.lt_of_lt_of_le h.r3.2.2 hb.size⟩, ⟨(hb.cell (p := ⟨q4, 2, none⟩) h.r4.2).trans h.r4.1, Nat.lt_of_lt_of_le h.r4.2 hb.size⟩, h.qv.below hb, h.bel.trans (hb.mono h.bel.size)⟩
/-- The schema of three, in memory. -/
structure AwS (f q s : Nat) (w : World) : Prop where
  hf : w.heap[f]? = some (.cells fieldC 79 (0, 0))
  hq : w.heap[q]? = some (.cells (compC20 f) 82 (0, 0))
  hs : w.heap[s]? = some (.cells #[.int .i64 1, .slice (some ⟨q, 0, none⟩) 3 3] 24 (0, 0))
theorem AwS.below {f q s : Nat} {w w' : World} (h : AwS f q s w) (hb : Below w.heap.size w w') : AwS f q s w' := ⟨keep hb h.hf, keep hb h.hq, keep hb h.hs⟩
theorem AwS.comps {f q s : Nat} {w : World} (h : AwS f q s w) : CompsAt w.heap.size w (some ⟨q, 0, none⟩) 3 cs20 := comps20 h.hf h.hq (lt_some h.hf) (lt_some h.hq)
theorem aws_new (w : World) : AwS (w.heap.size + 1) (w.heap.size + 1 + 1) (w.heap.size + 1 + 1 + 1) ((((w.alloc (.cells #[.int .u32 0, .int .u32 0] 30)).alloc (.cells fieldC 79)).alloc (.cells (compC20 (w.heap.size + 1)) 82)).alloc (.cells #[.int .i64 1, .slice (some ⟨w.heap.size + 1 + 1, 0, none⟩) 3 3] 24)) := by
  have h1 := heap_alloc_new (w.alloc (.cells #[.int .u32 0, .int .u32 0] 30)) (.cells fieldC 79)
  have h2 := heap_alloc_new ((w.alloc (.cells #[.int .u32 0, .int .u32 0] 30)).alloc (.cells fieldC 79)) (.cells (compC20 (w.heap.size + 1)) 82)
  have h3 := heap_alloc_new (((w.alloc (.cells #[.int .u32 0, .int .u32 0] 30)).alloc (.cells fieldC 79)).alloc (.cells (compC20 (w.heap.size + 1)) 82)) (.cells #[.int .i64 1, .slice (some ⟨w.heap.size + 1 + 1, 0, none⟩) 3 3] 24)
  simp only [World.size_alloc] at h1 h2 h3
  exact ⟨keepA _ (keepA _ h1), keepA _ h2, h3⟩
set_option maxRecDepth 100000 in
set_option maxHeartbeats 4000000 in
theorem awake20_any (w : World) (hv : QV w) : Calls Tryz.prog 6 #[] w fun e w' => e = .returned (.bool true) ∧ Below w.heap.size w w' := by
  have hq0 := heap_alloc_new w (.cells #[.int .u32 2, .int .u32 4] 30)
  have hb0 : Below w.heap.size w (w.alloc (.cells #[.int .u32 2, .int .u32 4] 30)) := by go_grown
  have HVS := Lib.hid hv.size
  have HV := Lib.hid (hv.below hb0)
  have HQ0 := Lib.hid hq0
  have HB0 := Lib.hid hb0
  clear hv hq0 hb0
  go_enter Tryz.func6, Tryz.ntmps6
  go_wp2_with fail
  generalize w.alloc (.cells #[.int .u32 2, .int .u32 4] 30) = w1 at *
  refine (cacheNew_any w1).mono ?_
  rintro e w2 ⟨cb, kb, rfl, hC2, hb2, hcb, hkb⟩
  have hqb := HQ0.out
  have hs1 := lt_some hqb
  have hq2 := keep hb2 hqb
  have HQ2 := Lib.hid hq2
  have HB2 := Lib.hid (HB0.out.trans (hb2.mono HB0.out.size))
  have HV2 := Lib.hid (HV.out.below hb2)
  have HC2 := Lib.hid hC2
  have HNE : Hid (w.heap.size ≠ cb ∧ w.heap.size ≠ kb ∧ w.heap.size < cb ∧ w.heap.size < kb) := Lib.hid (by omega)
  have z0 := cell_at hq2 0
  have z1 := cell_at hq2 1
  simp at z0 z1
  clear hC2 hb2 hcb hkb hqb hs1 hq2 HV HQ0 HB0
  go_wp2_with fail
  have hrow : (w2.alloc (.cells #[.int .u32 2, .int .u32 6, .int .u32 10] 28)).ownsRow 0 28 1 (.slice (some ⟨w2.heap.size, 0, none⟩) 3 3) 3 (([2, 6, 10] : List Int).map (.int .u32)) := row_lit rfl (by decide)
  have hba : Below w2.heap.size w2 (w2.alloc (.cells #[.int .u32 2, .int .u32 6, .int .u32 10] 28)) := by go_grown
  have hT := tables_any (HC2.out.below hba) 2 4 qwf24 [2, 6, 10] _ 3 3 hrow sets1_ok (by decide) (by decide) (by decide) (by decide)
  rw [k_tabs1] at hT
  have HQ2' := Lib.hid (keep hba HQ2.out)
  have HB2' := Lib.hid (HB2.out.trans (hba.mono HB2.out.size))
  have HV2' := Lib.hid (HV2.out.below hba)
  have HT := Lib.hid hT
  have HCL := Lib.hid (lt_some HC2.out.blk)
  have HKL : Hid (kb < w2.heap.size) := Lib.hid (by
    obtain ⟨f, hf, _⟩ := HC2.out.map
    obtain ⟨es, c, ho⟩ := hf.obj
    exact lt_some ho)
  have HSA : Hid (w2.heap.size < (w2.alloc (.cells #[.int .u32 2, .int .u32 6, .int .u32 10] 28)).heap.size) := Lib.hid (by simp)
  clear hrow hba hT HC2 HQ2 HB2 HV2 z0 z1
  generalize w2.alloc (.cells #[.int .u32 2, .int .u32 6, .int .u32 10] 28) = w3 at *
  refine HT.out.mono ?_
  rintro e w4 ⟨va, m, vc, rfl, ho4, hC4, hO4⟩
  have hm : m = 2 := by have := ho4.1; simp at this; omega
  subst hm
  obtain ⟨q3, rfl, hq3, hq3l, hc3⟩ := row_block ho4 (by decide)
  have HR3 : Hid (w4.cell? ⟨q3, 0, none⟩ = some (.int .i64 0) ∧ w4.cell? ⟨q3, 1, none⟩ = some (.int .i64 2)) := Lib.hid ⟨hc3 0 _ rfl, hc3 1 _ rfl⟩
  have hq4 := hO4.keep HQ2'.out (fun h => by rcases h with h | h; exact HNE.out.1 h; exact HNE.out.2.1 h)
  have HQ4 := Lib.hid hq4
  have HV4 : Hid (QV w4) := Lib.hid (HV2'.out.out hO4 (fun z hz => by have := HNE.out; have := HVS.out; rcases hz with rfl | rfl <;> omega))
  have HB4 := Lib.hid (HB2'.out.trans (hO4.below (fun z hz => by rcases hz with rfl | rfl; exact Nat.le_of_lt HNE.out.2.2.1; exact Nat.le_of_lt HNE.out.2.2.2) HB2'.out.size))
  have HC4 : Hid (CacheAt w4 cb kb K1q) := Lib.hid hC4
  have z0 := cell_at hq4 0
  have z1 := cell_at hq4 1
  simp at z0 z1
  have HQ34 : Hid (w3.heap.size ≤ q3 ∧ q3 < w4.heap.size ∧ w3.heap.size ≤ w4.heap.size) := Lib.hid ⟨hq3, hq3l, hO4.size⟩
  clear ho4 hC4 hO4 hc3 hq4 HT HV2' HQ2' HB2' hq3 hq3l
  go_wp2_with fail
  have hrow : (w4.alloc (.cells #[.int .u32 2, .int .u32 6, .int .u32 10, .int .u32 18] 28)).ownsRow 0 28 1 (.slice (some ⟨w4.heap.size, 0, none⟩) 4 4) 4 (([2, 6, 10, 18] : List Int).map (.int .u32)) := row_lit rfl (by decide)
  have hba : Below w4.heap.size w4 (w4.alloc (.cells #[.int .u32 2, .int .u32 6, .int .u32 10, .int .u32 18] 28)) := by go_grown
  have hT := tables_any (HC4.out.below hba) 2 4 qwf24 [2, 6, 10, 18] _ 4 4 hrow sets2_ok (by decide) (by rw [k_look1]; decide) (by rw [k_look1]; decide) (by rw [k_cnt1]; decide)
  rw [k_tabs2] at hT
  have HQ4' := Lib.hid (keep hba HQ4.out)
  have HB4' := Lib.hid (HB4.out.trans (hba.mono HB4.out.size))
  have HV4' := Lib.hid (HV4.out.below hba)
  have HR3' : Hid ((w4.alloc (.cells #[.int .u32 2, .int .u32 6, .int .u32 10, .int .u32 18] 28)).cell? ⟨q3, 0, none⟩ = some (.int .i64 0) ∧ (w4.alloc (.cells #[.int .u32 2, .int .u32 6, .int .u32 10, .int .u32 18] 28)).cell? ⟨q3, 1, none⟩ = some (.int .i64 2)) := Lib.hid ⟨(hba.cell (p := ⟨q3, 0, none⟩) HQ34.out.2.1).trans HR3.out.1, (hba.cell (p := ⟨q3, 1, none⟩) HQ34.out.2.1).trans HR3.out.2⟩
  have HT := Lib.hid hT
  have HS5 : Hid (w4.heap.size < (w4.alloc (.cells #[.int .u32 2, .int .u32 6, .int .u32 10, .int .u32 18] 28)).heap.size) := Lib.hid (by simp)
  clear hrow hba hT HC4 HQ4 HB4 HV4 HR3 z0 z1
  generalize w4.alloc (.cells #[.int .u32 2, .int .u32 6, .int .u32 10, .int .u32 18] 28) = w5 at *
  refine HT.out.mono ?_
  rintro e w6 ⟨va, m, vc4, rfl, ho6, hC6, hO6⟩
  have hm : m = 3 := by have := ho6.1; simp at this; omega
  subst hm
  obtain ⟨q4, rfl, hq4, hq4l, hc4⟩ := row_block ho6 (by decide)
  have hnf : ∀ z, (z = cb ∨ z = kb) → z < w3.heap.size ∧ 2 < z ∧ w.heap.size < z := fun z hz => by
    have := HNE.out; have := HVS.out; have := HCL.out; have := HKL.out; have := HSA.out
    rcases hz with rfl | rfl <;> omega
  have hP : AwP w cb kb q3 q4 w6 := by
    have hk : ∀ o, w6.cell? ⟨q3, o, none⟩ = w5.cell? ⟨q3, o, none⟩ := fun o => World.cell?_of_block (a := ⟨q3, o, none⟩) (hO6.block q3 (by have := HQ34.out; have := HS5.out; omega) (fun hf => by have := hnf q3 hf; have := HQ34.out; omega))
    refine ⟨hO6.keep HQ4'.out (fun h => by have := hnf _ h; omega), hC6, ⟨(hk 0).trans HR3'.out.1, (hk 1).trans HR3'.out.2, by have := HQ34.out; have := HS5.out; have := hO6.size; omega⟩, ⟨hc4 2 _ rfl, hq4l⟩, HV4'.out.out hO6 (fun z hz => (hnf z hz).2.1), HB4'.out.trans (hO6.below (fun z hz => Nat.le_of_lt (hnf z hz).2.2) HB4'.out.size)⟩
  have HP := Lib.hid hP
  clear ho6 hC6 hO6 hc4 hnf hP HT HV4' HQ4' HB4' HR3' hq4 hq4l
  go_wp2_with fail
  have hp1 := fun W (hq : QV W) => qParse_any txt1 W (by decide) hq
  have hp2 := fun W (hq : QV W) => qParse_any txt2 W (by decide) hq
  rw [t_parse1, t_err1] at hp1
  rw [t_parse2, t_err2] at hp2
  unfold txt1 at hp1
  unfold txt2 at hp2
  refine (hp1 _ HP.out.qv).mono ?_
  rintro e w7 ⟨rfl, hb7⟩
  have HP7 := Lib.hid (HP.out.below hb7)
  clear hb7 HP
  go_wp2_with fail
  have hb8 : Below w7.heap.size w7 (w7.alloc (.cells #[.int .u32 2, .int .u32 4] 30)) := by go_grown
  have HB5 := Lib.hid (heap_alloc_new w7 (.cells #[.int .u32 2, .int .u32 4] 30))
  have HP8 := Lib.hid (HP7.out.below hb8)
  obtain ⟨b5, hb5⟩ : ∃ b5, w7.heap.size = b5 := ⟨_, rfl⟩
  rw [hb5] at HB5 ⊢
  clear hb8 HP7 hb5
  generalize w7.alloc (.cells #[.int .u32 2, .int .u32 4] 30) = w8 at *
  refine (hp2 _ HP8.out.qv).mono ?_
  rintro e w9 ⟨rfl, hb9⟩
  have HP9 := Lib.hid (HP8.out.below hb9)
  have HB59 := Lib.hid (keep hb9 HB5.out)
  clear hb9 HP8 HB5 hp1 hp2
  have hs10 := aws_new w9
  have hb10 : Below w9.heap.size w9 ((((w9.alloc (.cells #[.int .u32 0, .int .u32 0] 30)).alloc (.cells fieldC 79)).alloc (.cells (compC20 (w9.heap.size + 1)) 82)).alloc (.cells #[.int .i64 1, .slice (some ⟨w9.heap.size + 1 + 1, 0, none⟩) 3 3] 24)) := by go_grown
  have HP10 := Lib.hid (HP9.out.below hb10)
  have HB10 := Lib.hid (keep hb10 HB59.out)
  unfold fieldC compC20 at hs10 HP10 HB10
  clear hb10 HP9 HB59
  go_wp2_with fail
  generalize (((w9.alloc (.cells #[.int .u32 0, .int .u32 0] 30)).alloc _).alloc _).alloc _ = w10 at *
  obtain ⟨f, hf⟩ : ∃ f, w9.heap.size + 1 = f := ⟨_, rfl⟩
  rw [hf] at hs10 ⊢
  obtain ⟨q, hq⟩ : ∃ q, f + 1 = q := ⟨_, rfl⟩
  rw [hq] at hs10 ⊢
  obtain ⟨b9, hb9⟩ : ∃ b9, q + 1 = b9 := ⟨_, rfl⟩
  rw [hb9] at hs10 ⊢
  have HS10 := Lib.hid hs10
  have HN := Lib.hid (aw20_new hs10.comps)
  clear hf hq hb9 hs10
  refine HN.out.mono ?_
  rintro e w11 ⟨WB, rfl, hD⟩
  have HD := Lib.hid hD
  clear hD HN
  go_wp2_with fail
  refine (wof_pos 5 _ (by omega) (by omega)).mono ?_
  rintro e w12 ⟨rfl, hb12⟩
  have hd12 := HD.out.below hb12
  have h1 := keepA (.cells (partC20 w12.heap.size) 85) (heap_alloc_new w12 (.cells #[.bool false, .int .u64 0, .int .u64 5] 87))
  have h2 := heap_alloc_new (w12.alloc (.cells #[.bool false, .int .u64 0, .int .u64 5] 87)) (.cells (partC20 w12.heap.size) 85)
  rw [World.size_alloc] at h2
  have hb13 : Below w12.heap.size w12 ((w12.alloc (.cells #[.bool false, .int .u64 0, .int .u64 5] 87)).alloc (.cells (partC20 w12.heap.size) 85)) := by go_grown
  have HSP := Lib.hid (aw20_spawn (hd12.below hb13) h2 h1)
  unfold partC20 at HSP
  clear hd12 h1 h2 hb13 hb12 HD
  unfold WI.v
  go_wp2_with fail
  refine HSP.out.mono ?_
  rintro e w14 ⟨⟨v14, rfl⟩, hd14⟩
  have HD := Lib.hid hd14
  have y0 := cell_at (HP10.out.below hd14.bel).q1 0
  have y1 := cell_at (HP10.out.below hd14.bel).q1 1
  simp at y0 y1
  have HRW := Lib.hid (aw20_rows hd14)
  clear hd14 HSP
  go_wp2_with fail
  refine HRW.out.mono ?_
  rintro e w15 ⟨br, cr, en, pa, pc, rfl, r0, r1, hbr, hd15⟩
  have HD15 := Lib.hid hd15
  have hp15 := HP10.out.below hd15.bel
  have HP15 := Lib.hid hp15
  have hs15 := HS10.out.below hd15.bel
  have HS15 := Lib.hid hs15
  have hb515 := keep hd15.bel HB10.out
  have y0 := cell_at hp15.q1 0
  have y1 := cell_at hp15.q1 1
  have x0 := cell_at hb515 0
  have x1 := cell_at hb515 1
  have s0 := cell_at hs15.hs 0
  have s1 := cell_at hs15.hs 1
  simp at y0 y1 x0 x1 s0 s1
  obtain ⟨t0, t1, t2⟩ := hp15.r3
  obtain ⟨u0, u1⟩ := hp15.r4
  clear hd15 hp15 hs15 hb515 HD HRW
  go_wp2_with fail
  have hlk := cacheLooked_any HP15.out.cache
  rw [k_look] at hlk
  refine hlk.mono ?_
  clear hlk
  rintro e w16 ⟨rfl, rfl⟩
  go_wp2_with fail
  have hln := cacheLen_any HP15.out.cache
  rw [k_cnt] at hln
  refine hln.mono ?_
  clear hln
  rintro e w16 ⟨rfl, rfl⟩
  have htx := fun W => qText_any 2 4 W qwf24
  rw [t_text] at htx
  go_wp2_with fail
  refine (htx _).mono ?_
  clear htx
  rintro e w16 ⟨rfl, hb16⟩
  have HS16 := Lib.hid (HS15.out.below hb16)
  have HF16 := Lib.hid (HP15.out.below hb16).bel
  have s0 := cell_at HS16.out.hs 0
  have s1 := cell_at HS16.out.hs 1
  simp at s0 s1
  have r1 := (hb16.cell (p := ⟨br, 1, none⟩) hbr).trans r1
  have hbr : br < w16.heap.size := Nat.lt_of_lt_of_le hbr hb16.size
  have HCK := qCheck_any 1 cs20 (some ⟨q, 0, none⟩) 3 3 2 2 w16 HS16.out.comps cs20_wf (by decide) qwf22
  rw [q_check2] at HCK
  have HCK := Lib.hid HCK
  clear hb16 x0 x1 y0 y1 r0
  go_wp2_with fail
  refine HCK.out.mono ?_
  rintro e w17 ⟨rfl, hb17⟩
  have HFIN := Lib.hid (HF16.out.trans (hb17.mono HF16.out.size))
  clear hb17
  go_wp2_with fail
  go_returns
  exact ⟨rfl, HFIN.out⟩
end Go.Proofs.YtgebbmfoamkfnaaGreatDoor
