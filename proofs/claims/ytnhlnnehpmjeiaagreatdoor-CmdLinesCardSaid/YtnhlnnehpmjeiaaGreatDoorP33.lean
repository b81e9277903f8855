/- A world's isAll: whether a list has just those who live. · A world's Heir: plain parts. · The worlds' laws' awake, told. · A world's Place: who is awaited has a row. · Worlds: what is not theirs stays; a set, told; caps that can't be. What awake keeps. · Commands done to a world: a Spawn without parts, a Despawn of nobody. · The two commands that awake pushes: what a buffer of them lists. · The commands' laws' awake, told. · A buffer of two commands, a Spawn and a Despawn of nobody, is flushed: the answers. · cmd.Check of an Add without a part: the wrong form. · The words of commands. -/
import Derived.Test.YtnhlnnehpmjeiaaGreatDoorP32
import Derived.StillTailTactics
import Derived.Test.YtnhlnnehpmjeiaaGreatDoorP26
import Derived.Test.YtnhlnnehpmjeiaaGreatDoorP18
import Derived.Test.YtnhlnnehpmjeiaaGreatDoorP31
import Derived.Test.YtnhlnnehpmjeiaaGreatDoorP3
namespace Go.Proofs.YtnhlnnehpmjeiaaGreatDoor
open Go.RowKit
set_option linter.unusedVariables false
/-- A row of awaited ones below a block. -/
def AwaitsAt (B : Nat) (w : World) (a : Option Addr) (len : Nat) (l : List (Int × Int)) : Prop :=
  l.length = len ∧ len ≤ maxLen ∧ (len = 0 ∨ ∃ b off, a = some ⟨b, off, none⟩ ∧ b < B ∧ ∀ (i : Nat) (x : Int × Int), l[i]? = some x →
    w.cell? ⟨b, off + i * 2, none⟩ = some (.int .u64 x.1) ∧ w.cell? ⟨b, off + i * 2 + 1, none⟩ = some (.int .u32 x.2))
theorem AwaitsAt.below {B : Nat} {w w' : World} {a : Option Addr} {len : Nat} {l : List (Int × Int)} (h : AwaitsAt B w a len l) (hb : Below B w w') : AwaitsAt B w' a len l := by
  obtain ⟨h1, h2, h3⟩ := h
  refine ⟨h1, h2, h3.imp id ?_⟩
  rintro ⟨b, off, ha, hB, hc⟩
  exact ⟨b, off, ha, hB, fun i x hx => ⟨(hb.cell (p := ⟨b, _, none⟩) hB).trans (hc i x hx).1, (hb.cell (p := ⟨b, _, none⟩) hB).trans (hc i x hx).2⟩⟩
theorem AwaitsAt.get {B : Nat} {w : World} {a : Option Addr} {len : Nat} {l : List (Int × Int)} (h : AwaitsAt B w a len l) {k : Nat} (hk : k < len) : ∃ b off e s, a = some ⟨b, off, none⟩ ∧ b < B ∧ l[k]? = some (e, s) ∧ w.cell? ⟨b, off + k * 2, none⟩ = some (.int .u64 e) ∧ w.cell? ⟨b, off + k * 2 + 1, none⟩ = some (.int .u32 s) := by
  obtain ⟨h1, _, h3⟩ := h
  rcases h3 with h3 | ⟨b, off, ha, hB, hc⟩
  · omega
  · have hl : k < l.length := by omega
    obtain ⟨c0, c1⟩ := hc k _ (List.getElem?_eq_getElem hl)
    exact ⟨b, off, _, _, ha, hB, List.getElem?_eq_getElem hl, c0, c1⟩
/-- A row of handles in memory. -/
def ERow (w : World) (a : Option Addr) (n : Nat) (l : List Int) : Prop := l.length = n ∧ n ≤ 100000 ∧ (n = 0 ∨ ∃ b off, a = some ⟨b, off, none⟩ ∧ b < w.heap.size ∧ ∀ (i : Nat) (x : Int), l[i]? = some x → w.cell? ⟨b, off + i, none⟩ = some (.int .u64 x))
theorem ERow.get {w : World} {a : Option Addr} {n : Nat} {l : List Int} (h : ERow w a n l) {k : Nat} (hk : k < n) : ∃ b off x, a = some ⟨b, off, none⟩ ∧ b < w.heap.size ∧ l[k]? = some x ∧ w.cell? ⟨b, off + k, none⟩ = some (.int .u64 x) := by
  obtain ⟨h1, _, h3⟩ := h
  rcases h3 with h3 | ⟨b, off, ha, hB, hc⟩
  · omega
  · have hl : k < l.length := by omega
    exact ⟨b, off, _, ha, hB, List.getElem?_eq_getElem hl, hc k _ (List.getElem?_eq_getElem hl)⟩
theorem ERow.below {w w' : World} {a : Option Addr} {n : Nat} {l : List Int} (h : ERow w a n l) (hb : Below w.heap.size w w') : ERow w' a n l := by
  obtain ⟨h1, h2, h3⟩ := h
  refine ⟨h1, h2, h3.imp id ?_⟩
  rintro ⟨b, off, ha, hB, hc⟩
  exact ⟨b, off, ha, Nat.lt_of_lt_of_le hB hb.size, fun i x hx => (hb.cell (p := ⟨b, _, none⟩) hB).trans (hc i x hx)⟩
theorem ERow.of {w : World} {B n : Nat} {va : Option Addr} {vc : Nat} {l : List Int} (h : w.ownsRow B 31 1 (.slice va n vc) n (l.map (.int .u64))) (hl : l.length = n) (hn : n ≤ 100000) : ERow w va n l := by
  refine ⟨hl, hn, ?_⟩
  by_cases h0 : n = 0
  · exact .inl h0
  · obtain ⟨q, hq, _, hlt, hc⟩ := row_block h (by omega)
    refine .inr ⟨q, 0, hq, hlt, fun i x hx => ?_⟩
    rw [Nat.zero_add]
    exact hc i _ (by rw [List.getElem?_map, hx]; rfl)
end Go.Proofs.YtnhlnnehpmjeiaaGreatDoor
namespace Go.Proofs.YtnhlnnehpmjeiaaGreatDoor
open Go.RowKit
set_option linter.unusedVariables false
theorem AwaitsAt.mono {B C : Nat} {w : World} {a : Option Addr} {len : Nat} {l : List (Int × Int)} (h : AwaitsAt B w a len l) (hb : B ≤ C) : AwaitsAt C w a len l := by
  obtain ⟨h1, h2, h3⟩ := h
  refine ⟨h1, h2, h3.imp id ?_⟩
  rintro ⟨b, off, ha, hB, hc⟩
  exact ⟨b, off, ha, Nat.lt_of_lt_of_le hB hb, hc⟩
section
variable {w w' : World} {d : WD} {L L' : List Int} {N n : Nat}
theorem WMid.perm (h : WMid w d L N) (hp : L.Perm L') : WMid w d L' N := by
  refine { h with raw := by rw [← hp.length_eq]; exact h.raw, ok := ⟨hp.nodup h.ok.nd, fun e => (h.ok.dom e).trans hp.mem_iff, h.ok.row, h.ok.tab, fun i t ht => (h.ok.kept i t ht).trans (hp.countP_eq _), h.ok.len, h.ok.sets⟩, lbd := by rw [← hp.length_eq]; exact h.lbd }
theorem WMid.counts (h : WMid w d L N) (hx : d.x.ix.Ok) (hs : ∀ e ∈ L, e ∈ d.x.ix.liveL) : Counts d L := by
  intro s
  show d.x.ix.liveL.countP (hasSet d.P s) = L.countP (hasSet d.P s)
  rw [List.countP_eq_length_filter, List.countP_eq_length_filter]
  refine nd_len (hx.liveL_nd.filter _) (h.ok.nd.filter _) fun e => ?_
  rw [List.mem_filter, List.mem_filter]
  constructor
  · rintro ⟨_, h2⟩
    refine ⟨Classical.byContradiction fun he => ?_, h2⟩
    unfold hasSet at h2
    rw [who_none (h.ok.noPl he)] at h2
    cases h2
  · rintro ⟨h1, h2⟩
    exact ⟨hs e h1, h2⟩
/-- A world that nobody has touched but the caller's own. -/
structure Fresh (w0 : World) (d : WD) (w : World) : Prop where
  bel : Below w0.heap.size w0 w
  foot : ∀ b, d.foot b → w0.heap.size ≤ b
theorem Fresh.go {w0 : World} {d' : WD} (h : Fresh w0 d w) (hf : WFr d d' w w') : Fresh w0 d' w' := ⟨h.bel.trans (hf.out.below h.foot h.bel.size), fun b hb => (hf.foot b hb).elim (h.foot b) (fun h' => Nat.le_trans h.bel.size h')⟩
theorem Fresh.below {w0 : World} (h : Fresh w0 d w) (hb : Below w.heap.size w w') : Fresh w0 d w' := h.go (WFr.of_below hb)
end
end Go.Proofs.YtnhlnnehpmjeiaaGreatDoor
namespace Go.Proofs.YtnhlnnehpmjeiaaGreatDoor
open Go.RowKit
set_option linter.unusedVariables false
def h18 : Int := 4294967297
def g18 : Int := 8589934593
def q18 : Int × List WI := (1, [⟨false, 0, 7⟩])
def A0 : WS := WS0 caps18 1 cs18 2
def A1 : WS := A0.spawnS [q18]
def A2 : WS := A1.addS h18 (2, [])
def A3 : WS := A2.removeS h18 1
def A4 : WS := A3.despawnS h18
def A5 : WS := A4.spawnS []
def B0 : WS := ⟨caps18, 1, cs18, A5.ix, [], fun _ => none⟩
def B1 : WS := B0.awaitS g18 2
end Go.Proofs.YtnhlnnehpmjeiaaGreatDoor
namespace Go.Proofs.YtnhlnnehpmjeiaaGreatDoor
open Go.RowKit
set_option linter.unusedVariables false
section
variable {w w' w1 : World} {d : WD} {L L' : List Int} {N n : Nat} {pa : Option Addr} {pl pc : Nat} {ps : List PW}
/-- A row for who was awaited: plain. -/
def PS.place (P : PS) (i : Nat) (t : PT) (e : Int) (v : List (List WI)) : PS := ⟨P.tabs.set i { t with kept := t.kept - 1, ents := t.ents ++ [e], vals := t.vals ++ [v] }, updP P.pl e (some ⟨i, some t.ents.length⟩)⟩
theorem PS.Ok.place {P : PS} (h : P.Ok L) {i : Nat} {t : PT} (ht : P.tabs[i]? = some t) {e : Int} (hp : P.pl e = some ⟨i, none⟩) (he : e ∈ L) (v : List (List WI)) : (P.place i t e v).Ok L ∧ ∀ x, (P.place i t e v).who x = if x = e then some ⟨t.set, some v⟩ else P.who x := by
  have hperm := List.perm_cons_erase he
  obtain ⟨hy, _⟩ := h.yield ht hp hperm
  have hn : e ∉ L.erase e := fun hm => (List.nodup_cons.1 (hperm.nodup h.nd)).1 hm
  have ht2 : (P.yield i t e).tabs[i]? = some { t with kept := t.kept - 1 } := set_same ht
  have heq : P.place i t e v = (P.yield i t e).add i { t with kept := t.kept - 1 } e v := by
    unfold PS.place PS.add PS.yield
    simp only [updP_back, List.set_set]
  rw [heq]
  refine ⟨hy.add ht2 hn hperm v, fun x => ?_⟩
  rw [hy.add_who ht2 (e := e) v x]
  split
  · rfl
  · rename_i hx
    rw [h.yield_who ht x, if_neg hx]
end
end Go.Proofs.YtnhlnnehpmjeiaaGreatDoor
namespace Go.Proofs.YtnhlnnehpmjeiaaGreatDoor
open Go.RowKit
set_option linter.unusedVariables false
section
variable {w w' : World} {d d' : WD} {N n : Nat}
theorem WRaw.not_foot (h : WRaw w d n) {b : Nat} {cs : Array Value} {ty : TypeId} {fr : Nat × Nat} (hb : w.heap[b]? = some (.cells cs ty fr)) (ht : ty ∉ wK ++ xK ++ gK ++ tK) : ¬ d.foot b := by
  intro hf
  rcases h.kin hf with ⟨cs', ty', fr', h1, h2⟩ | ⟨es, c, h1⟩
  · rw [hb] at h1; cases h1; exact ht h2
  · rw [hb] at h1; cases h1
theorem WFr.keep (hf : WFr d d' w w') {b : Nat} {o : Obj} (hb : w.heap[b]? = some o) (hn : ¬ d.foot b) : w'.heap[b]? = some o := hf.out.keep hb hn
theorem partsNone (d : WD) (w : World) : PartsIn d w none 0 0 [] := ⟨fun w' _ => ⟨rfl, Nat.le_refl _, by unfold maxLen; omega, by simp, .inl rfl⟩, by omega⟩
theorem partK (ty : TypeId) (h : ty = 73 ∨ ty = 96) : ty ∉ wK ++ xK ++ gK ++ tK := by rcases h with rfl | rfl <;> decide
/-- What awake keeps from deed to deed: the world, told, its part, and rows of numbers. -/
structure AwW (w0 : World) (S : WS) (N WB pb ib : Nat) (I : List (Nat × Array Value)) (w : World) : Prop where
  ex : ∃ d, WIn w d N ∧ d.S = S ∧ d.wb = WB ∧ Fresh w0 d w
  hp : w.heap[pb]? = some (.cells #[.int .i64 1, .slice (some ⟨ib, 0, none⟩) 1 1] 73 (0, 0))
  hi : w.heap[ib]? = some (.cells #[.bool false, .int .u64 0, .int .u64 7] 96 (0, 0))
  hI : ∀ x ∈ I, w.heap[x.1]? = some (.cells x.2 96 (0, 0))
variable {w0 : World} {S S' : WS} {WB pb ib : Nat} {I : List (Nat × Array Value)}
theorem AwW.below (h : AwW w0 S N WB pb ib I w) (hb : Below w.heap.size w w') : AwW w0 S N WB pb ib I w' := by
  obtain ⟨⟨d, h1, h2, h3, h4⟩, h5, h6, h7⟩ := h
  exact ⟨⟨d, h1.below hb, h2, h3, h4.below hb⟩, keep hb h5, keep hb h6, fun x hx => keep hb (h7 x hx)⟩
theorem AwW.bel (h : AwW w0 S N WB pb ib I w) : Below w0.heap.size w0 w := by
  obtain ⟨⟨d, _, _, _, h4⟩, _⟩ := h
  exact h4.bel
theorem AwW.deed (h : AwW w0 S N WB pb ib I w) (h1 : WIn w d N) (h3 : d.wb = WB) (h4 : Fresh w0 d w) {M : Nat} (k : WIn w' d' M) (hf : WFr d d' w w') (hS : d'.S = S') : AwW w0 S' M WB pb ib I w' :=
  ⟨⟨d', k, hS, hf.wb.trans h3, h4.go hf⟩, hf.keep h.hp (h1.raw.not_foot h.hp (partK _ (.inl rfl))), hf.keep h.hi (h1.raw.not_foot h.hi (partK _ (.inr rfl))), fun x hx => hf.keep (h.hI x hx) (h1.raw.not_foot (h.hI x hx) (partK _ (.inr rfl)))⟩
end
end Go.Proofs.YtnhlnnehpmjeiaaGreatDoor
namespace Go.Proofs.YtnhlnnehpmjeiaaGreatDoor
open Go.RowKit
set_option linter.unusedVariables false
def Done (d : WD) (S' : WS) (W : World) (N : Nat) (w' : World) : Prop := ∃ d', WIn w' d' N ∧ WFr d d' W w' ∧ d'.wb = d.wb ∧ d'.S = S'
section
variable {W : World} {d : WD} {N : Nat}
theorem Done.after {d : WD} {S' : WS} {W W1 : World} (hb : Below W.heap.size W W1) {w' : World} (h : Done d S' W1 N w') : Done d S' W N w' := by
  obtain ⟨d', h1, h2, h3, h4⟩ := h
  exact ⟨d', h1, (WFr.of_below hb).trans h2, h3, h4⟩
set_option maxRecDepth 100000 in
theorem doSpawn (h : WIn W d N) (hs : d.S.spawnE [] = 0) (ent comp : Int) : Calls Tryz.prog 38 #[.pointer (some ⟨d.wb, 0, none⟩), .agg #[.int .i64 1, .int .u64 ent, .int .i64 comp, .slice none 0 0]] W fun e w' => e = .returned (.int .i64 0) ∧ Done d (d.S.spawnS []) W N w' := by
  have h0 := cmdWorld_any (wb := d.wb) (w := W) (ent := ent) (P := fun er w' => er = 0 ∧ Done d (d.S.spawnS []) W N w') 1 comp (fun W1 hb1 => cmdDo_spawn (fun W2 hb2 => ?_))
  · refine h0.mono ?_
    rintro e w' ⟨er, rfl, rfl, h2⟩
    exact ⟨rfl, h2⟩
  · have hb : Below W.heap.size W W2 := hb1.trans (hb2.mono hb1.size)
    refine (wSpawn_any (h.below hb) (partsNone d W2)).mono ?_
    rintro e w' ⟨d', k1, k2, k3, hor⟩
    rcases hor with ⟨k4, _, _⟩ | ⟨_, rfl, k5⟩
    · exact absurd hs k4
    · exact ⟨_, _, rfl, rfl, Done.after hb ⟨d', k1, k2, k3, k5⟩⟩
set_option maxRecDepth 100000 in
theorem doDespawn (h : WIn W d N) (ent comp : Int) (h0 : 0 ≤ ent) (h1 : ent < 18446744073709551616) : Calls Tryz.prog 38 #[.pointer (some ⟨d.wb, 0, none⟩), .agg #[.int .i64 2, .int .u64 ent, .int .i64 comp, .slice none 0 0]] W fun e w' => e = .returned (.int .i64 (d.S.deadE ent)) ∧ ∃ S', Done d S' W N w' := by
  have hk := cmdWorld_any (wb := d.wb) (w := W) (ent := ent) (P := fun er w' => er = d.S.deadE ent ∧ ∃ S', Done d S' W N w') 2 comp (fun W1 hb1 => cmdDo_despawn (fun W2 hb2 => ?_))
  · refine hk.mono ?_
    rintro e w' ⟨er, rfl, rfl, h2⟩
    exact ⟨rfl, h2⟩
  · have hb : Below W.heap.size W W2 := hb1.trans (hb2.mono hb1.size)
    refine (wDespawn_any (h.below hb) ent h0 h1).mono ?_
    rintro e w' ⟨d', k1, k2, k3, rfl, k5⟩
    exact ⟨_, rfl, rfl, _, Done.after hb ⟨d', k1, k2, k3, k5⟩⟩
end
end Go.Proofs.YtnhlnnehpmjeiaaGreatDoor
namespace Go.Proofs.YtnhlnnehpmjeiaaGreatDoor
open Go.RowKit
set_option linter.unusedVariables false
def itS : IT := ⟨⟨1, 0, 1, 5⟩, 1, 1, 0, 0⟩
def itD : IT := ⟨⟨1, 0, 2, 0⟩, 0, 2, 9, 0⟩
theorem itS_wf : itS.wf := ⟨⟨by unfold inI; decide, by unfold inI; decide, by unfold inI; decide, by unfold inI; decide⟩, by unfold inI; decide⟩
theorem itD_wf : itD.wf := ⟨⟨by unfold inI; decide, by unfold inI; decide, by unfold inI; decide, by unfold inI; decide⟩, by unfold inI; decide⟩
theorem itDS : ¬ itD.r ≤ itS.r := by decide +kernel
theorem two_sorted {its out : List IT} (hp : its.Perm [itS, itD]) (ho : out.Perm its) (hs : out.Pairwise fun a b => a.r ≤ b.r) : out = [itS, itD] := by
  have hq := ho.trans hp
  have hl := hq.length_eq
  match out, hl with
  | [a, b], _ =>
    have ha : a ∈ [itS, itD] := hq.mem_iff.1 (by simp)
    have hsum := (hq.map IT.kind)
    have hb : b ∈ [itS, itD] := hq.mem_iff.1 (by simp)
    simp only [List.mem_cons, List.not_mem_nil, or_false] at ha hb
    rcases ha with rfl | rfl <;> rcases hb with rfl | rfl
    · exact absurd (hsum.mem_iff.2 (show (2 : Int) ∈ [itS, itD].map IT.kind by decide)) (by decide)
    · rfl
    · have := List.rel_of_pairwise_cons hs (show itS ∈ [itS] by simp)
      exact absurd this itDS
    · exact absurd (hsum.mem_iff.2 (show (1 : Int) ∈ [itS, itD].map IT.kind by decide)) (by decide)
end Go.Proofs.YtnhlnnehpmjeiaaGreatDoor
namespace Go.Proofs.YtnhlnnehpmjeiaaGreatDoor
open Go.RowKit
set_option linter.unusedVariables false
def caps21 : CapsD := ⟨1, 1, 1, 0, 0, 1⟩
def cs21 : List Cmp := [⟨1, ⟨#[97]⟩, []⟩]
def C0 : WS := WS0 caps21 1 cs21 1
def C1 : WS := C0.spawnS []
theorem c_spawn : C0.spawnE [] = 0 := by kernel_rfl
theorem c_despawn : C1.deadE 9 = 11 := by kernel_rfl
theorem cs21_wf : CompsWf cs21 := by
  intro c hc
  simp only [cs21, List.mem_cons, List.not_mem_nil, or_false] at hc
  subst hc
  exact ⟨by decide, fun f hf => by cases hf⟩
theorem cs21_f : ∀ c ∈ cs21, c.fields.length ≤ 100000 := by
  intro c hc
  simp only [cs21, List.mem_cons, List.not_mem_nil, or_false] at hc
  subst hc
  decide
theorem caps21_ok : CapsOk caps21 := by constructor <;> decide
theorem schema21 : schemaCheck 1 cs21 = 0 := by kernel_rfl
/-- The schema of one component, in memory. -/
theorem comps21 {W : World} {q b : Nat} {t : TypeId} (h : W.heap[q]? = some (.cells #[.int .i64 1, .string ⟨#[97]⟩, .slice none 0 0] t (0, 0))) (hq : q < b) : CompsAt b W (some ⟨q, 0, none⟩) 1 cs21 := by
  refine ⟨rfl, by unfold maxLen; omega, .inr ⟨q, 0, rfl, hq, fun i c hc => ?_⟩⟩
  match i, hc with
  | 0, hc =>
    cases hc
    exact ⟨by rw [cell_at h]; rfl, by rw [cell_at h]; rfl, none, 0, 0, by rw [cell_at h]; rfl, ⟨rfl, by unfold maxLen; omega, .inl rfl⟩, fun _ => ⟨rfl, rfl⟩⟩
  | n + 1, hc => simp [cs21] at hc
end Go.Proofs.YtnhlnnehpmjeiaaGreatDoor
namespace Go.Proofs.YtnhlnnehpmjeiaaGreatDoor
open Go.RowKit
set_option linter.unusedVariables false
theorem Tryz.info28 : (Tryz.prog.info? 28).map (fun i => (i.zero, i.size, i.bytes)) = some (some (.int .i64 0), 1, 8) := by kernel_rfl
/-- The answers so far. -/
def ansF (k : Nat) : List Value := ([.int .i64 0, .int .i64 11] : List Value).take k
def anF (k : Nat) : Int := if k = 0 then 0 else 11
theorem ansF_snoc {k : Nat} (hk : k < 2) : ansF (k + 1) = ansF k ++ [.int .i64 (anF k)] := by
  match k, hk with
  | 0, _ => rfl
  | 1, _ => rfl
def kindF (k : Nat) : Int := if k = 0 then 1 else 2
def entF (k : Nat) : Int := if k = 0 then 0 else 9
theorem sd_cells {k : Nat} (hk : k < 2) : ([itS, itD].flatMap IT.d)[k * 4]? = some (.int .i64 (kindF k)) ∧ ([itS, itD].flatMap IT.d)[k * 4 + 1]? = some (.int .u64 (entF k)) ∧ ([itS, itD].flatMap IT.d)[k * 4 + 2]? = some (.int .i64 0) ∧ ([itS, itD].flatMap IT.d)[k * 4 + 3]? = some (.slice none 0 0) := by
  match k, hk with
  | 0, _ => exact ⟨rfl, rfl, rfl, rfl⟩
  | 1, _ => exact ⟨rfl, rfl, rfl, rfl⟩
/-- What stays of the flush: a world, from the one at its start. -/
structure FlS (d : WD) (N : Nat) (w : World) (k : Nat) (wr : World) (d' : WD) : Prop where
  inn : WIn wr d' N
  fr : WFr d d' w wr
  s0 : k = 0 → d'.S = C0
  s1 : k = 1 → d'.S = C1
set_option maxHeartbeats 1000000 in
theorem flush_do {d d' : WD} {N k : Nat} {w wr W : World} (h : FlS d N w k wr d') (hk : k < 2) (hb : Below wr.heap.size wr W) : Calls Tryz.prog 38 #[.pointer (some ⟨d.wb, 0, none⟩), .agg #[.int .i64 (kindF k), .int .u64 (entF k), .int .i64 0, .slice none 0 0]] W fun e w' => e = .returned (.int .i64 (anF k)) ∧ Out d'.foot wr w' ∧ ∃ d2, FlS d N w (k + 1) w' d2 := by
  have hwb : d'.wb = d.wb := h.fr.wb
  rw [← hwb]
  match k, hk, h with
  | 0, _, h =>
    rw [show kindF 0 = 1 from rfl, show entF 0 = 0 from rfl, show anF 0 = 0 from rfl]
    have hs : d'.S.spawnE [] = 0 := by rw [h.s0 rfl]; exact c_spawn
    refine (doSpawn (h.inn.below hb) hs 0 0).mono ?_
    rintro e w' ⟨rfl, d2, k1, k2, k3, k4⟩
    have k2' := (WFr.of_below (d := d') hb).trans k2
    exact ⟨rfl, k2'.out, d2, k1, h.fr.trans k2', fun e => by omega, fun _ => by rw [k4, h.s0 rfl]; rfl⟩
  | 1, _, h =>
    rw [show kindF 1 = 2 from rfl, show entF 1 = 9 from rfl, show anF 1 = 11 from rfl]
    refine (doDespawn (h.inn.below hb) 9 0 (by decide) (by decide)).mono ?_
    rintro e w' ⟨rfl, S', d2, k1, k2, k3, k4⟩
    have k2' := (WFr.of_below (d := d') hb).trans k2
    exact ⟨by rw [h.s1 rfl, c_despawn], k2'.out, d2, k1, h.fr.trans k2', fun e => by omega, fun e => by omega⟩
theorem WIn.row_no {w : World} {d : WD} {N : Nat} (h : WIn w d N) {B s n : Nat} {e : TypeId} {v : Value} {xs : List Value} (hr : w.ownsRow B e s v n xs) (he : e ∉ wK ++ xK ++ gK ++ tK) {q : Nat} (hq : v.ownBlock = some q) : ¬ d.foot q := by
  obtain ⟨cur, hc⟩ := row_type hr hq
  exact h.raw.not_foot hc he
theorem flush_append {d d' : WD} {N k : Nat} {w wr w' : World} (h : FlS d N w k wr d') {B s n : Nat} {v : Value} {xs : List Value} (hB : w.heap.size ≤ B) (hr : wr.ownsRow B 28 s v n xs) {F : Nat → Prop} (ho : Out F wr w') (hF : ∀ q, F q → v.ownBlock = some q) (hq0 : ∀ q, v.ownBlock = some q → B ≤ q) : FlS d N w k w' d' := by
  have hno : ∀ q, d'.foot q → ¬ F q := fun q hq hf => h.inn.row_no hr (by decide) (hF q hf) hq
  have hm : ∀ q, F q → Mut wr q := fun q hf => by
    obtain ⟨cur, hc⟩ := row_type hr (hF q hf)
    exact mut_of hc (by decide) (by decide) (by decide)
  exact ⟨WMid.out h.inn ho hno hm, ⟨h.fr.wb, h.fr.out.trans ho (fun q hq => .inr (Nat.le_trans hB (hq0 q (hF q hq)))), h.fr.foot⟩, h.s0, h.s1⟩
theorem QMem.foot_lt {w : World} {x : QD} (h : QMem w x) {q : Nat} (hq : x.foot q) : q < w.heap.size := by
  rcases hq with hq | hq
  · rw [show q = x.pb from hq]; exact lt_some h.blk
  · obtain ⟨cur, hc⟩ := row_type h.row hq
    exact lt_some hc
set_option maxRecDepth 100000 in
set_option maxHeartbeats 2000000 in
theorem bufFlush_two {b : Nat} {most nx : Int} {fa : Option Addr} {fc : Nat} {its : List IT} {d : WD} {N : Nat} (w : World) (h : QMem w (bufQ b most nx fa fc its)) (hwf : ∀ z ∈ its, z.wf) (hh : HeapI its its.length) (hp : its.Perm [itS, itD]) (hW : WIn w d N) (hS : d.S = C0) :
    Calls Tryz.prog 16 #[.pointer (some ⟨b, 0, none⟩), .pointer (some ⟨d.wb, 0, none⟩)] w fun e w' => ∃ (oa : Option Addr) (oc : Nat), e = .returned (.slice oa 2 oc) ∧ w'.ownsRow w.heap.size 28 1 (.slice oa 2 oc) 2 [.int .i64 0, .int .i64 11] ∧ QMem w' (bufQ b most nx none 0 []) ∧ Out (fun q => d.foot q ∨ (bufQ b most nx fa fc its).foot q) w w' := by
  obtain ⟨i0, hi, hz0, hz1, hz2⟩ := info_parts Tryz.info28
  have HL := Lib.hid (bufList_any w h hwf hh (by have := hp.length_eq; simp at this; omega))
  have HQ := Lib.hid h
  have HP := Lib.hid hp
  have HW := Lib.hid hW
  have HS := Lib.hid hS
  clear h hwf hh hp hW hS
  go_enter Tryz.func16, Tryz.ntmps16
  go_wp2_with fail
  refine HL.out.mono ?_
  rintro e w1 ⟨out, va, vc, rfl, hown, hpm, hs, hb1⟩
  obtain rfl := two_sorted HP.out hpm hs
  obtain ⟨q1, hq1, hq1b, _, hqc⟩ := row_block hown (by decide)
  have hown : w1.ownsRow w.heap.size 34 4 (.slice va 2 vc) 2 ([itS, itD].flatMap IT.d) := hown
  have HF0 : Hid (FlS d N w 0 w1 d) := Lib.hid ⟨HW.out.below hb1, WFr.of_below hb1, fun _ => HS.out, fun e => by omega⟩
  have HOWN := Lib.hid hown
  have HQB := Lib.hid hq1b
  subst hq1
  clear hown hpm hs hb1 hqc
  go_wp2_with fail
  go_loopw [5, 11] (fun o i wr => ∃ (k : Nat) (oa : Option Addr) (oc : Nat), o = .slice oa k oc ∧ i = .int .i64 (k : Int) ∧ k ≤ 2 ∧ wr.ownsRow w.heap.size 28 1 (.slice oa k oc) k (ansF k) ∧ wr.ownsRow w.heap.size 34 4 (.slice (some ⟨q1, 0, none⟩) 2 vc) 2 ([itS, itD].flatMap IT.d) ∧ ∃ d', FlS d N w k wr d') (fun _ i _ => 2 - (intOf i).toNat)
  case atStart => exact ⟨0, none, 0, rfl, rfl, by omega, World.ownsRow_nil _ _ _ _, HOWN.out, d, HF0.out⟩
  case round =>
    obtain ⟨k, oa, oc, rfl, rfl, hk, hro, hrl, d', hfl⟩ := hrel
    by_cases h1 : k < 2
    · obtain ⟨z0, z1, z2, z3⟩ := sd_cells h1
      obtain ⟨q', hq', _, _, hcl⟩ := row_block hrl (by decide)
      have : q' = q1 := by cases hq'; rfl
      subst this
      have x0 := hcl _ _ z0
      have x1 := hcl _ _ z1
      have x2 := hcl _ _ z2
      have x3 := hcl _ _ z3
      have g0 : (0 : Int) ≤ (k : Int) := by omega
      have g1 : decide ((k : Int) < 2) = true := decide_eq_true (by omega)
      have g2 : (k : Int) < 2 := by omega
      have HRO := Lib.hid hro
      have HRL := Lib.hid hrl
      have HFL := Lib.hid hfl
      have HB : Hid (Below wr.heap.size wr (wr.alloc (.cells #[.int .i64 (kindF k), .int .u64 (entF k), .int .i64 0, .slice none 0 0] 34))) := Lib.hid (by go_grown)
      clear hro hrl hfl z0 z1 z2 z3 hcl hq'
      go_wp2_with fail
      refine (flush_do HFL.out h1 HB.out).mono ?_
      rintro e w3 ⟨rfl, ho3, d2, hf3⟩
      have hro3 := ownsRow_out HRO.out ho3 (fun q hq => HFL.out.inn.row_no HRO.out (by decide) hq)
      have hrl3 := ownsRow_out HRL.out ho3 (fun q hq => HFL.out.inn.row_no HRL.out (by decide) hq)
      have hro4 := hro3.alloc (.cells #[.int .i64 (anF k)] 28)
      have hnews : ∀ j u, ([.int .i64 (anF k)] : List Value)[j]? = some u → (w3.alloc (.cells #[.int .i64 (anF k)] 28)).cell? ((⟨w3.heap.size, 0, none⟩ : Addr).add j) = some u :=
        World.news_of_block (w := w3.alloc (.cells #[.int .i64 (anF k)] 28)) (cs := #[.int .i64 (anF k)]) (t := 28) (fr := (0, 0)) (heap_alloc_new w3 _)
      have HO4 := Lib.hid hro4
      have HO3 := Lib.hid hro3
      have HL3 := Lib.hid hrl3
      have HF3 := Lib.hid hf3
      have HNEWS := Lib.hid hnews
      have HSZ : Hid (w.heap.size ≤ w3.heap.size) := Lib.hid hf3.fr.out.size
      clear ho3 hro3 hrl3 hro4 hnews hf3 x0 x1 x2 x3
      go_wp2_with (at_builtin; refine wpList_append_own _ rfl (.tmp 15) (.tmp 19) 56 rfl w.heap.size 28 i0 (.int .i64 0) 1 8 Tryz.underlying56 hi hz0 hz1 hz2 rfl (by decide) (.slice oa k oc) k (ansF k) rfl HO4.out ⟨w3.heap.size, 0, none⟩ 1 1 [.int .i64 (anF k)] rfl rfl HNEWS.out (fun u hu => by simp at hu; subst hu; rfl) (by unfold maxLen; omega) (by omega) (by have := HSZ.out; simp; omega) ?_)
      intro v' w4 hown4 hg4 hnil
      obtain ⟨va', vc', hv⟩ := ownsRow_slice hown4
      rw [hv] at hown4 hnil ⊢
      clear hv hnil
      have ho4 := out_append hg4
      have hf4 := flush_append HF3.out (Nat.le_refl _) HO3.out ho4 (fun q hq => hq) (fun q hq => own_base HO3.out hq)
      have hrl4 := ownsRow_out HL3.out ho4 (fun q hq e => by
        obtain ⟨c1, e1⟩ := row_type HL3.out hq
        obtain ⟨c2, e2⟩ := row_type HO3.out e
        rw [e1] at e2
        injection e2 with e2
        injection e2 with _ e2 _
        exact absurd e2 (by decide))
      rw [← ansF_snoc h1] at hown4
      have HREL := Lib.hid (show w4.ownsRow w.heap.size 28 1 (.slice va' (k + 1) vc') (k + 1) (ansF (k + 1)) ∧ w4.ownsRow w.heap.size 34 4 (.slice (some ⟨q', 0, none⟩) 2 vc) 2 ([itS, itD].flatMap IT.d) ∧ ∃ d', FlS d N w (k + 1) w4 d' from ⟨hown4, hrl4, d2, hf4⟩)
      clear ho4 hf4 hrl4 hown4 hg4
      go_wp2_with fail
      go_roundw
      case rel => exact ⟨k + 1, va', vc', rfl, by go_num, by omega, HREL.out⟩
      case measure => simp [intOf]; omega
    · have hk2 : k = 2 := by omega
      subst hk2
      have hQ := HQ.out.out hfl.fr.out (fun q hq hd => by
        rcases hq with hq | hq
        · exact HW.out.raw.not_foot (bufQ_blk HQ.out) (by decide) (by rw [show q = b from hq] at hd; exact hd)
        · exact HW.out.row_no HQ.out.row (by decide) hq hd)
      have HC := Lib.hid (bufClear_any wr hQ)
      have HRO := Lib.hid hro
      have HF := Lib.hid hfl.fr.out
      clear hro hrl hfl hQ
      go_wp2_with fail
      refine HC.out.mono ?_
      rintro e w5 ⟨rfl, hst⟩
      have hro5 := ownsRow_out HRO.out hst.out (fun q hq hf => by
        have e1 := own_base HRO.out hq
        have e2 := HQ.out.foot_lt hf
        omega)
      have HR5 := Lib.hid (show w5.ownsRow w.heap.size 28 1 (.slice oa 2 oc) 2 [.int .i64 0, .int .i64 11] from hro5)
      have HM5 := Lib.hid hst.mem
      have HO5 := Lib.hid ((HF.out.mono (G := fun q => d.foot q ∨ (bufQ b most nx fa fc its).foot q) (fun q hq => .inl (.inl hq))).trans hst.out (fun q hq => .inl (.inr hq)))
      clear hro5 hst HC
      go_wp2_with fail
      go_returns
      exact ⟨oa, oc, rfl, HR5.out, HM5.out, HO5.out⟩
end Go.Proofs.YtnhlnnehpmjeiaaGreatDoor
namespace Go.Proofs.YtnhlnnehpmjeiaaGreatDoor
open Go.RowKit
set_option linter.unusedVariables false
theorem plainAdd_any (w : World) : Calls Tryz.prog 26 #[.agg #[.int .i64 3, .int .u64 0, .int .i64 0, .slice none 0 0]] w fun e w' => e = .returned (.bool false) ∧ Below w.heap.size w w' := by
  have HB : Hid (Below w.heap.size w (w.alloc (.cells #[.int .i64 3, .int .u64 0, .int .i64 0, .slice none 0 0] 34))) := Lib.hid (by go_grown)
  go_enter Tryz.func26, Tryz.ntmps26
  go_wp2_with fail
  go_returns
  exact ⟨rfl, HB.out⟩
set_option maxRecDepth 100000 in
theorem checkForm_any (ver : Int) (cs : List Cmp) (a : Option Addr) (len cap : Nat) (w : World) (hcs : CompsAt w.heap.size w a len cs) (hw : CompsWf cs) (hok : schemaCheck ver cs = 0) :
    Calls Tryz.prog 13 #[.agg #[.int .i64 ver, .slice a len cap], .agg #[.int .i64 3, .int .u64 0, .int .i64 0, .slice none 0 0]] w fun e w' => e = .returned (.int .i64 4) ∧ Below w.heap.size w w' := by
  obtain ⟨w1, hw1⟩ : ∃ w1, w1 = (w.alloc (.cells #[.int .i64 ver, .slice a len cap] 43)).alloc (.cells #[.int .i64 3, .int .u64 0, .int .i64 0, .slice none 0 0] 34) := ⟨_, rfl⟩
  have hb1 : Below w.heap.size w w1 := by rw [hw1]; go_grown
  have hc1 : w1.heap[w.heap.size + 1]? = some (.cells #[.int .i64 3, .int .u64 0, .int .i64 0, .slice none 0 0] 34 (0, 0)) := by
    rw [hw1]
    have := heap_alloc_new (w.alloc (.cells #[.int .i64 ver, .slice a len cap] 43)) (.cells #[.int .i64 3, .int .u64 0, .int .i64 0, .slice none 0 0] 34)
    simpa using this
  have hS := schemaCheck_any ver cs a len cap w1 ((hcs.below hb1).mono hb1.size) hw
  rw [hok] at hS
  have HS := Lib.hid hS
  have HB1 := Lib.hid hb1
  have HC1 := Lib.hid hc1
  clear hcs hb1 hc1 hS
  go_enter Tryz.func13, Tryz.ntmps13
  go_wp2_with fail
  rw [← hw1]
  clear hw1
  refine HS.out.mono ?_
  rintro e w2 ⟨rfl, hb2⟩
  have hc2 := keep hb2 HC1.out
  have HB2 := Lib.hid (HB1.out.trans (hb2.mono HB1.out.size))
  have x0 := cell_at hc2 0
  have x1 := cell_at hc2 1
  have x2 := cell_at hc2 2
  have x3 := cell_at hc2 3
  simp at x0 x1 x2 x3
  have HC2 := Lib.hid hc2
  clear hb2 hc2 HS HC1 HB1
  go_wp2_with fail
  refine (plainAdd_any _).mono ?_
  rintro e w4 ⟨rfl, hb4⟩
  have HB4 := Lib.hid (HB2.out.trans (hb4.mono HB2.out.size))
  clear hb4
  go_wp2_with fail
  go_returns
  exact ⟨rfl, HB4.out⟩
end Go.Proofs.YtnhlnnehpmjeiaaGreatDoor
namespace Go.Proofs.YtnhlnnehpmjeiaaGreatDoor
open Go.RowKit
set_option linter.unusedVariables false
def wordsC : Array Value := #[.string ⟨#[]⟩, .string ⟨#[115, 112, 97, 119, 110]⟩, .string ⟨#[100, 101, 115, 112, 97, 119, 110]⟩, .string ⟨#[97, 100, 100]⟩, .string ⟨#[115, 101, 116]⟩, .string ⟨#[114, 101, 109, 111, 118, 101]⟩]
theorem cmdWords_any (w : World) : Calls Tryz.prog 29 #[] w fun e w' => ∃ q, e = .returned (.slice (some ⟨q, 0, none⟩) 6 6) ∧ w'.heap[q]? = some (.cells wordsC 9 (0, 0)) ∧ Below w.heap.size w w' := by
  go_enter Tryz.func29, Tryz.ntmps29
  go_wp2_with fail
  go_returns
  exact ⟨_, rfl, heap_alloc_new w _, by go_grown⟩
end Go.Proofs.YtnhlnnehpmjeiaaGreatDoor
