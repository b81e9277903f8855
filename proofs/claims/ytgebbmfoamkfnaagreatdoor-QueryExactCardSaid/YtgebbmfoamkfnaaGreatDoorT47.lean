/- QueryCache: the asks; the law's own map of what it saw. · QueryCache: its walk. Printed by mkFK.py. · Readings: slices of structs of one-cell fields, field by field; slices of one-cell values. · How the arguments of the queries' laws are read: sets, asks; what the library's variables hold. · The law's test of great schemas; deeds as they lie; what TableRoom's rounds keep. · How the arguments of the tables' laws are read: a schema, parts, deeds. -/
import Derived.Test.YtgebbmfoamkfnaaGreatDoorT30
import Derived.Test.YtgebbmfoamkfnaaGreatDoorT26
import Derived.Test.YtgebbmfoamkfnaaGreatDoorT18
import Derived.Test.YtgebbmfoamkfnaaGreatDoorT43
import Derived.Test.YtgebbmfoamkfnaaGreatDoorT3
import Derived.Test.YtgebbmfoamkfnaaGreatDoorProg
import Derived.WalkKit
import Derived.ProofKit
import Derived.OpenShut
import Derived.ShutString
import Derived.ChangeOld
import Derived.Below
import Derived.Deep.Slices
import Derived.Deep.Fields
import Derived.Lib.SmallJoins
import Derived.LaidMore
import Derived.LaidLaws
import Derived.Shelf.Vars
import Derived.Stop.Joined
import Derived.Stop.LaidErr
import Derived.Test.YtgebbmfoamkfnaaGreatDoorRows
import Derived.Test.YtgebbmfoamkfnaaGreatDoorT23
namespace Go.Proofs.YtgebbmfoamkfnaaGreatDoor
open Go.RowKit
open Go.Maps (Keyed IsMap Tidy int_keyed keyOf_int_mk)
set_option linter.unusedVariables false
theorem Tryz.rowA2 : 73 < Tryz.prog.types.size := of_decide_eq_true (by kernel_rfl)
theorem Tryz.wideA2 : (match Tryz.prog.underlying 73 with | some (.array _ _) | some (.struct _) => true | _ => false) = true := by kernel_rfl
set_option maxRecDepth 100000 in
theorem Tryz.lawA2 : Keyed Tryz.prog 73 := Keyed.of_law (deep_law_laid laidOut (m := 2) (by omega) Tryz.rowA2 (by kernel_rfl) Tryz.wideA2)
theorem Tryz.ktA2 : Tryz.prog.keyType 73 = true := by kernel_rfl
theorem Tryz.coA2 : Tryz.prog.cellsOf 73 = 2 := by kernel_rfl
theorem Tryz.coU32 : Tryz.prog.cellsOf 25 = 1 := by kernel_rfl
theorem Tryz.zeroU32s (w : World) : (zeroValue 63).run Tryz.prog w = .ok (.slice none 0 0) w := by kernel_rfl
theorem a2_key {q : Int × Int} (h : QWf q) : keyOf Tryz.prog 73 (qVal q) = some (qK q) := by
  obtain ⟨m, hm⟩ := Tryz.tsz
  have e : Tryz.prog.keyLits (m + 2) 73 [.int .u32 q.1, .int .u32 q.2] = some [.int .u32 q.1, .int .u32 q.2] := by
    simp [Program.keyLits, show List.range 2 = [0, 1] from rfl, Tryz.underlying73, Tryz.underlying25, Tryz.coA2, Tryz.coU32, wf_u32 h.1.1 h.1.2, wf_u32 h.2.1 h.2.2]
  unfold keyOf qVal
  rw [Tryz.underlying73]
  simp only [Tryz.ktA2, hm, Value.cells, e]
  simp [Value.formed, Tryz.underlying73, Tryz.coA2]
  rfl
/-- An ask of the law. -/
structure AskD where
  all : Int
  none : Int
  n : Int
  clr : Bool
  other : Bool
def AskD.q (x : AskD) : Int × Int := (x.all, x.none)
def AskD.wf (x : AskD) : Prop := QWf x.q
def askL (x : AskD) : List Value := [.int .u32 x.all, .int .u32 x.none, .int .i64 x.n, .bool x.clr, .bool x.other]
/-- A row of asks that lies below block B. -/
def AsksAt (B : Nat) (w : World) (a : Option Addr) (len : Nat) (l : List AskD) : Prop :=
  l.length = len ∧ len ≤ maxLen ∧ (∀ x ∈ l, x.wf) ∧ (len = 0 ∨ ∃ b off, a = some ⟨b, off, none⟩ ∧ b < B ∧ ∀ (i : Nat) (x : AskD), l[i]? = some x → ∀ (j : Nat) (v : Value), (askL x)[j]? = some v → w.cell? ⟨b, off + i * 5 + j, none⟩ = some v)
theorem AsksAt.below {B : Nat} {w w' : World} {a : Option Addr} {len : Nat} {l : List AskD} (h : AsksAt B w a len l) (hb : Below B w w') : AsksAt B w' a len l := by
  obtain ⟨h1, h2, h3, h4⟩ := h
  refine ⟨h1, h2, h3, h4.imp id ?_⟩
  rintro ⟨b, off, ha, hB, hc⟩
  exact ⟨b, off, ha, hB, fun i x hx j v hv => (hb.cell (p := ⟨b, off + i * 5 + j, none⟩) hB).trans (hc i x hx j v hv)⟩
theorem AsksAt.get {B : Nat} {w : World} {a : Option Addr} {len : Nat} {l : List AskD} (h : AsksAt B w a len l) {k : Nat} (hk : k < len) : ∃ b off x, a = some ⟨b, off, none⟩ ∧ b < B ∧ l[k]? = some x ∧ x.wf ∧ w.cell? ⟨b, off + k * 5, none⟩ = some (.int .u32 x.all) ∧ w.cell? ⟨b, off + k * 5 + 1, none⟩ = some (.int .u32 x.none) ∧ w.cell? ⟨b, off + k * 5 + 2, none⟩ = some (.int .i64 x.n) ∧ w.cell? ⟨b, off + k * 5 + 3, none⟩ = some (.bool x.clr) ∧ w.cell? ⟨b, off + k * 5 + 4, none⟩ = some (.bool x.other) := by
  obtain ⟨h1, h2, h3, h4⟩ := h
  rcases h4 with h4 | ⟨b, off, ha, hB, hc⟩
  · omega
  · have hl : k < l.length := by omega
    have hx := List.getElem?_eq_getElem hl
    have hcx := hc k _ hx
    exact ⟨b, off, _, ha, hB, hx, h3 _ (List.getElem_mem hl), hcx 0 _ rfl, hcx 1 _ rfl, hcx 2 _ rfl, hcx 3 _ rfl, hcx 4 _ rfl⟩
/-- What the law's map holds of a query. -/
def SawIs (w : World) : Option (List Int) → Option Value → Prop
  | none, v => v = none
  | some l, v => ∃ sa n sc, v = some (.slice sa n sc) ∧ l.length = n ∧ n ≤ 60 ∧ w.ownsRow 0 25 1 (.slice sa n sc) n (l.map (.int .u32))
def SawAt (w : World) (mb : Nat) (S : CS) : Prop := ∃ f, MapV Tryz.prog w 73 mb S.cnt f ∧ ∀ q, QWf q → SawIs w (S.kf q) (f (qK q))
section
variable {w w' : World} {mb : Nat} {S : CS}
theorem SawIs.out {F : Nat → Prop} {l : Option (List Int)} {v : Option Value} (h : SawIs w l v) (ho : Out F w w') (hF : ∀ x cs, F x → w.heap[x]? ≠ some (.cells cs 25 (0, 0))) : SawIs w' l v := by
  cases l with
  | none => exact h
  | some l =>
    obtain ⟨sa, n, sc, h1, h2, h3, h4⟩ := h
    refine ⟨sa, n, sc, h1, h2, h3, ownsRow_out h4 ho (fun x hx hf => ?_)⟩
    obtain ⟨cur, hc⟩ := row_type h4 hx
    exact hF x cur hf hc
theorem SawAt.out {F : Nat → Prop} (h : SawAt w mb S) (ho : Out F w w') (hF : ∀ x, F x → x ≠ mb ∧ ∀ cs, w.heap[x]? ≠ some (.cells cs 25 (0, 0))) : SawAt w' mb S := by
  obtain ⟨f, h1, h2⟩ := h
  exact ⟨f, h1.out ho (fun hf => (hF _ hf).1 rfl), fun q hq => (h2 q hq).out ho (fun x cs hf => (hF x hf).2 cs)⟩
theorem SawAt.below (h : SawAt w mb S) (hb : Below w.heap.size w w') : SawAt w' mb S := h.out (F := fun _ => False) (Out.of hb) (fun _ hf => hf.elim)
theorem SawAt.lt (h : SawAt w mb S) : mb < w.heap.size := by obtain ⟨f, h1, _⟩ := h; exact h1.lt
theorem SawAt.obj (h : SawAt w mb S) : ∃ es c, w.heap[mb]? = some (.map es c) := by obtain ⟨f, h1, _⟩ := h; exact h1.obj
theorem SawAt.made (w : World) (lk : Int) : SawAt (w.alloc (.map #[] 0)) w.heap.size ⟨fun _ => none, 0, lk⟩ := ⟨fun _ => none, MapV.made w Tryz.prog 73, fun q hq => rfl⟩
theorem SawAt.len (h : SawAt w mb S) (ty : TypeId) : (Builtin.len_ #[67] ty #[.map (some mb)]).run Tryz.prog w = .ok (.int .i64 S.cnt) w := by
  obtain ⟨f, h1, _⟩ := h
  exact h1.len Tryz.underlying67 ty
theorem SawAt.look (h : SawAt w mb S) {q : Int × Int} (hq : QWf q) : ∃ sa n sc, (Instr.lookup 67 (.map (some mb)) (.agg #[.int .u32 q.1, .int .u32 q.2]) false).run Tryz.prog w = .ok (.slice sa n sc) w ∧ (S.old q).length = n ∧ n ≤ 60 ∧ w.ownsRow 0 25 1 (.slice sa n sc) n ((S.old q).map (.int .u32)) := by
  obtain ⟨f, hm, hf⟩ := h
  have hl : (Instr.lookup 67 (.map (some mb)) (.agg #[.int .u32 q.1, .int .u32 q.2]) false).run Tryz.prog w = .ok ((f (qK q)).getD (.slice none 0 0)) w := hm.look Tryz.lawA2 Tryz.underlying67 Tryz.zeroU32s (a2_key hq)
  have hq2 := hf q hq
  unfold CS.old
  cases hk : S.kf q with
  | none =>
    rw [hk] at hq2
    rw [show f (qK q) = none from hq2] at hl
    exact ⟨none, 0, 0, hl, rfl, by omega, World.ownsRow_nil _ _ _ _⟩
  | some l =>
    rw [hk] at hq2
    obtain ⟨sa, n, sc, hu, h2, h3, h4⟩ := hq2
    rw [hu] at hl
    exact ⟨sa, n, sc, hl, h2, h3, h4⟩
theorem SawAt.put (h : SawAt w mb S) {q : Int × Int} (hq : QWf q) (l : List Int) {sa : Option Addr} {n sc : Nat} (hln : l.length = n) (hn : n ≤ 60) (ho : w.ownsRow 0 25 1 (.slice sa n sc) n (l.map (.int .u32))) (hcn : S.cnt ≤ 1000000) :
    ∃ w7, (Instr.mapUpdate 67 (.map (some mb)) (.agg #[.int .u32 q.1, .int .u32 q.2]) (.slice sa n sc)).run Tryz.prog w = .ok () w7 ∧ SawAt w7 mb (S.ask q l) ∧ Out (fun x => x = mb) w w7 := by
  obtain ⟨es, c, hob⟩ := h.obj
  obtain ⟨f, hm, hf⟩ := h
  obtain ⟨w7, hput, hm7, hg7, hsz7⟩ := hm.store (key := qVal q) (val := .slice sa n sc) Tryz.lawA2 Tryz.underlying67 (by unfold maxLen; omega) (a2_key hq)
  have ho7 : Out (fun x => x = mb) w w7 := ⟨hg7.os, hg7.tape, hg7.output, by rw [hsz7]; exact Nat.le_refl _, fun k hk hn => hg7.block k hk (fun e => hn (by cases e; rfl))⟩
  have hkm : ∀ x cs, x = mb → w.heap[x]? ≠ some (.cells cs 25 (0, 0)) := fun x cs e => by
    subst e
    rw [hob]
    simp
  have hcnt : (f (qK q)).isSome = (S.kf q).isSome := by
    have h1 := hf q hq
    cases hk : S.kf q with
    | none => rw [hk] at h1; rw [show f (qK q) = none from h1]; rfl
    | some l' => rw [hk] at h1; obtain ⟨_, _, _, hu, _⟩ := h1; rw [hu]; rfl
  rw [hcnt] at hm7
  refine ⟨w7, hput, ⟨putV f (qK q) (.slice sa n sc), hm7, fun x hx => ?_⟩, ho7⟩
  show SawIs w7 (if x = q then some l else S.kf x) _
  by_cases hxq : x = q
  · subst hxq
    rw [if_pos rfl, putV_same]
    refine ⟨sa, n, sc, rfl, hln, hn, ownsRow_out ho ho7 (fun z hz e => ?_)⟩
    obtain ⟨cur, hc⟩ := row_type ho hz
    exact hkm z cur e hc
  · rw [if_neg hxq, putV_ne (fun e => hxq (qK_inj hx hq e))]
    exact (hf x hx).out ho7 hkm
end
end Go.Proofs.YtgebbmfoamkfnaaGreatDoor
namespace Go.Proofs.YtgebbmfoamkfnaaGreatDoor
open Go.RowKit
set_option linter.unusedVariables false
/-- A row of raw sets that lies below block B. -/
def SetsAt (B : Nat) (w : World) (a : Option Addr) (n : Nat) (l : List Int) : Prop := l.length = n ∧ n ≤ maxLen ∧ (n = 0 ∨ ∃ b off, a = some ⟨b, off, none⟩ ∧ b < B ∧ ∀ (i : Nat) (x : Int), l[i]? = some x → w.cell? ⟨b, off + i, none⟩ = some (.int .u32 x))
theorem SetsAt.below {B n : Nat} {w w' : World} {a : Option Addr} {l : List Int} (h : SetsAt B w a n l) (hb : Below B w w') : SetsAt B w' a n l := by
  obtain ⟨h1, h2, h3⟩ := h
  refine ⟨h1, h2, h3.imp id ?_⟩
  rintro ⟨b, off, ha, hB, hc⟩
  exact ⟨b, off, ha, hB, fun i x hx => (hb.cell (p := ⟨b, off + i, none⟩) hB).trans (hc i x hx)⟩
theorem SetsAt.get {B n : Nat} {w : World} {a : Option Addr} {l : List Int} (h : SetsAt B w a n l) {k : Nat} (hk : k < n) : ∃ b off x, a = some ⟨b, off, none⟩ ∧ b < B ∧ l[k]? = some x ∧ w.cell? ⟨b, off + k, none⟩ = some (.int .u32 x) := by
  obtain ⟨h1, _, h3⟩ := h
  rcases h3 with h3 | ⟨b, off, ha, hB, hc⟩
  · omega
  · have hl : k < l.length := by omega
    exact ⟨b, off, _, ha, hB, List.getElem?_eq_getElem hl, hc k _ (List.getElem?_eq_getElem hl)⟩
/-- What the law keeps from ask to ask. -/
structure CI (w0 : World) (cb kb mb : Nat) (S : CS) (k : Nat) (w : World) : Prop where
  cache : CacheAt w cb kb S
  saw : SawAt w mb S
  ne : mb ≠ cb ∧ mb ≠ kb
  lo : w0.heap.size ≤ cb ∧ w0.heap.size ≤ kb ∧ w0.heap.size ≤ mb
  lk : 0 ≤ S.looked ∧ S.looked ≤ 60 * (k : Int)
  cnt : S.cnt ≤ k
  bel : Below w0.heap.size w0 w
section
variable {w0 w w' : World} {cb kb mb k : Nat} {S : CS}
theorem CacheAt.lt (h : CacheAt w cb kb S) : cb < w.heap.size ∧ kb < w.heap.size := by
  obtain ⟨f, hf, _⟩ := h.map
  exact ⟨lt_some h.blk, hf.lt⟩
theorem CI.below (h : CI w0 cb kb mb S k w) (hb : Below w.heap.size w w') : CI w0 cb kb mb S k w' := ⟨h.cache.below hb, h.saw.below hb, h.ne, h.lo, h.lk, h.cnt, h.bel.trans (hb.mono h.bel.size)⟩
theorem CI.clear (h : CI w0 cb kb mb S k w) (hc : CacheAt w' cb kb ⟨fun _ => none, 0, S.looked⟩) (ho : Only kb w w') : CI w0 cb kb w'.heap.size ⟨fun _ => none, 0, S.looked⟩ k (w'.alloc (.map #[] 0)) := by
  have hlt := hc.lt
  have hb : Below w0.heap.size w0 w' := h.bel.trans (ho.below h.lo.2.1)
  exact ⟨hc.below ((Below.refl _ w').alloc (Nat.le_refl _) _), SawAt.made w' _, ⟨by omega, by omega⟩, ⟨h.lo.1, h.lo.2.1, hb.size⟩, h.lk, Nat.zero_le _, hb.trans ((Below.refl _ w').alloc hb.size _)⟩
theorem CI.put {q : Int × Int} (h : CI w0 cb kb mb S k w) (hq : QWf q) (l : List Int) {sa : Option Addr} {n sc : Nat} (hln : l.length = n) (hn : n ≤ 60) (ho : w.ownsRow 0 25 1 (.slice sa n sc) n (l.map (.int .u32))) (hk : k ≤ 60) :
    ∃ w7, (Instr.mapUpdate 67 (.map (some mb)) (.agg #[.int .u32 q.1, .int .u32 q.2]) (.slice sa n sc)).run Tryz.prog w = .ok () w7 ∧ SawAt w7 mb (S.ask q l) ∧ CacheAt w7 cb kb S ∧ Out (fun x => x = mb) w w7 ∧ ∃ es c, w.heap[mb]? = some (.map es c) := by
  have hc := h.cnt
  obtain ⟨w7, h1, h2, h3⟩ := h.saw.put hq l hln hn ho (by omega)
  obtain ⟨es, c, hm⟩ := h.saw.obj
  refine ⟨w7, h1, h2, h.cache.out h3 (fun x hx => ?_), h3, es, c, hm⟩
  subst hx
  refine ⟨h.ne.1, h.ne.2, fun cs => ?_⟩
  rw [hm]
  exact ⟨by simp, by simp⟩
theorem CS.kept_le (S : CS) (q : Int × Int) (l : List Int) : S.kept q l ≤ l.length := by
  unfold CS.kept
  split
  · rename_i hf
    obtain ⟨r, hr⟩ := frontB_eq hf
    rw [hr, List.length_append]
    omega
  · exact Nat.zero_le _
theorem CI.next {q : Int × Int} {l : List Int} {w7 w8 : World} (h : CI w0 cb kb mb S k w) (hl : l.length ≤ 60) (hs : SawAt w7 mb (S.ask q l)) (hc7 : CacheAt w7 cb kb S) (hO7 : Out (fun x => x = mb) w w7) (hc8 : CacheAt w8 cb kb (S.ask q l)) (hO8 : Out (fun x => x = cb ∨ x = kb) w7 w8) : CI w0 cb kb mb (S.ask q l) (k + 1) w8 := by
  have hlk := h.lk
  have hkp := S.kept_le q l
  have hcn := h.cnt
  have hlo := h.lo
  refine ⟨hc8, hs.out hO8 (fun x hx => ?_), h.ne, h.lo, ?_, ?_, ?_⟩
  · rcases hx with rfl | rfl
    · refine ⟨fun e => h.ne.1 e.symm, fun cs => ?_⟩
      rw [hc7.blk]
      exact fun e => by injection e with e; injection e with _ e _; exact absurd e (by decide)
    · obtain ⟨f, hf, _⟩ := hc7.map
      obtain ⟨es, c, he⟩ := hf.obj
      refine ⟨fun e => h.ne.2 e.symm, fun cs => ?_⟩
      rw [he]
      simp
  · show 0 ≤ S.looked + ((l.length : Int) - (S.kept q l : Int)) ∧ S.looked + ((l.length : Int) - (S.kept q l : Int)) ≤ 60 * ((k + 1 : Nat) : Int)
    omega
  · show (if (S.kf q).isSome then S.cnt else S.cnt + 1) ≤ k + 1
    split <;> omega
  · exact (h.bel.trans (hO7.below (fun x hx => by rw [hx]; exact hlo.2.2) h.bel.size)).trans (hO8.below (fun x hx => by rcases hx with rfl | rfl; exact hlo.1; exact hlo.2.1) (Nat.le_trans h.bel.size hO7.size))
/-- What the first of its loops keeps: the ask, and three rows. -/
structure RI (wb : World) (xb : Nat) (x : AskD) (la : Option Addr) (jl lc : Nat) (ma : Option Addr) (jm mc : Nat) (ta : Option Addr) (jt tc : Nat) (l m t : List Int) (w : World) : Prop where
  bel : Below wb.heap.size wb w
  ask : w.heap[xb]? = some (.cells #[.int .u32 x.all, .int .u32 x.none, .int .i64 x.n, .bool x.clr, .bool x.other] 69 (0, 0))
  lrow : w.ownsRow wb.heap.size 25 1 (.slice la jl lc) jl (l.map (.int .u32))
  mrow : w.ownsRow wb.heap.size 28 1 (.slice ma jm mc) jm (m.map (.int .u32))
  trow : w.ownsRow wb.heap.size 3 1 (.slice ta jt tc) jt (t.map (.int .i64))
variable {wb : World} {xb : Nat} {x : AskD} {la ma ta va : Option Addr} {jl lc jm mc jt tc vc : Nat} {l m t : List Int}
theorem RI.below (h : RI wb xb x la jl lc ma jm mc ta jt tc l m t w) (hb : Below w.heap.size w w') : RI wb xb x la jl lc ma jm mc ta jt tc l m t w' :=
  ⟨h.bel.trans (hb.mono h.bel.size), keep hb h.ask, ownsRow_below h.lrow hb, ownsRow_below h.mrow hb, ownsRow_below h.trow hb⟩
theorem RI.cells (h : RI wb xb x la jl lc ma jm mc ta jt tc l m t w) : w.cell? ⟨xb, 0, none⟩ = some (.int .u32 x.all) ∧ w.cell? ⟨xb, 1, none⟩ = some (.int .u32 x.none) ∧ w.cell? ⟨xb, 2, none⟩ = some (.int .i64 x.n) ∧ w.cell? ⟨xb, 3, none⟩ = some (.bool x.clr) ∧ w.cell? ⟨xb, 4, none⟩ = some (.bool x.other) ∧ xb < w.heap.size := ⟨cell_at h.ask 0, cell_at h.ask 1, cell_at h.ask 2, cell_at h.ask 3, cell_at h.ask 4, lt_some h.ask⟩
end
theorem RI.start {wc : World} {xb : Nat} {x : AskD} (h : wc.heap[xb]? = some (.cells #[.int .u32 x.all, .int .u32 x.none, .int .i64 x.n, .bool x.clr, .bool x.other] 69 (0, 0))) : RI wc xb x (some ⟨wc.heap.size, 0, none⟩) 0 0 (some ⟨wc.heap.size + 1, 0, none⟩) 0 0 (some ⟨wc.heap.size + 1 + 1, 0, none⟩) 0 0 [] [] [] (((wc.alloc (.cells #[] 25)).alloc (.cells #[] 28)).alloc (.cells #[] 3)) := by
  have h1 : (wc.alloc (.cells #[] 25)).ownsRow wc.heap.size 25 1 (.slice (some ⟨wc.heap.size, 0, none⟩) 0 0) 0 [] := World.ownsRow_made wc #[] 0 (Nat.le_refl _) (by simp) (by simp)
  have h2 := World.ownsRow_made (base := wc.heap.size) (e := 28) (size := 1) (wc.alloc (.cells #[] 25)) #[] 0 (by simp) (by simp) (by simp)
  have h3 := World.ownsRow_made (base := wc.heap.size) (e := 3) (size := 1) ((wc.alloc (.cells #[] 25)).alloc (.cells #[] 28)) #[] 0 (by simp; omega) (by simp) (by simp)
  rw [World.size_alloc] at h2
  rw [World.size_alloc, World.size_alloc] at h3
  exact ⟨by go_grown, keepA _ (keepA _ (keepA _ h)), (h1.alloc _).alloc _, h2.alloc _, h3⟩
end Go.Proofs.YtgebbmfoamkfnaaGreatDoor
namespace Go.Proofs.YtgebbmfoamkfnaaGreatDoor
open Go.ChangeShapes Go.WideShapes Go.ChangeAt Go.RowKit Go.Joins Go.Deep
set_option linter.unusedVariables false
theorem list_of {α : Type} (P : Nat → α → Prop) : ∀ (len : Nat), (∀ i, i < len → ∃ x, P i x) → ∃ l : List α, l.length = len ∧ ∀ (i : Nat) (x : α), l[i]? = some x → P i x
  | 0, _ => ⟨[], rfl, fun i x h => by simp at h⟩
  | n + 1, h => by
    obtain ⟨l, hl, hp⟩ := list_of P n (fun i hi => h i (by omega))
    obtain ⟨x, hx⟩ := h n (by omega)
    refine ⟨l ++ [x], by simp [hl], fun i y hy => ?_⟩
    by_cases hi : i < n
    · rw [List.getElem?_append_left (by omega)] at hy; exact hp i y hy
    · have hlt := (List.getElem?_eq_some_iff.1 hy).1
      simp [hl] at hlt
      obtain rfl : i = n := by omega
      rw [List.getElem?_append_right (by omega), hl] at hy
      simp at hy
      subst hy; exact hx
section
variable {H : Type} {enc : TypeId × Value → H} {P : Program} {w : World} {base : Nat} {spare : Nat → Bool} {held : Bool}
/-- A slice of structs of one-cell fields: each field's cell, and its reading. -/
theorem open_elems {t e : TypeId} {fs : Array Field} {fuel : Nat} {cs : List Value} {x : DataW H × List MemPlace} (ht : P.underlying t = some (.slice e)) (he : P.underlying e = some (.struct fs)) (hone : oneCellFields P fs = true) (hC : P.cellsOf e = fs.size) (h0 : 0 < fs.size)
    (h : DataW.trod enc P w base spare held fuel t cs = some x) :
    cs = [.slice none 0 0] ∨ ∃ (b off : Nat) (sp : Option Nat) (len cap : Nat), cs = [.slice (some ⟨b, off, sp⟩) len cap] ∧ len ≤ maxLen ∧ (len ≤ cap ∧ cap ≤ maxLen) ∧ (0 < len → sp = none ∧ b < w.heap.size) ∧
      ∀ i, i < len → ∀ (j : Nat) (f : Field), fs[j]? = some f → ∃ (v : Value) (y : DataW H × List MemPlace) (n : Nat), w.cell? ⟨b, off + (i * fs.size + j), none⟩ = some v ∧ DataW.trod enc P w base spare held n f.type [v] = some y := by
  rcases open_slice ht h with ⟨h1, _⟩ | ⟨a, len, cap, m, n, D, Pl, hcs, hb, hl, hm, hmm, hx, hi⟩
  · exact .inl h1
  · obtain ⟨b, off, sp⟩ := a
    have hlm : len ≤ m := by rw [hmm]; split <;> omega
    have key : ∀ i, i < len → ∀ (j : Nat) (f : Field), fs[j]? = some f → ∃ (v : Value) (y : DataW H × List MemPlace) (n : Nat), w.cell? ((⟨b, off, sp⟩ : Addr).add (i * fs.size + j)) = some v ∧ DataW.trod enc P w base spare held n f.type [v] = some y := by
      intro i hil j f hf
      obtain ⟨cs', hc, ht'⟩ := hi i (by omega)
      rw [hC] at hc
      obtain ⟨_, hcl, hcell⟩ := World.cells?_some hc
      obtain ⟨xs, n', _, _, _, hxl, hall⟩ := DataW.trod_struct he ht'
      obtain ⟨ho, hc1⟩ := hone_of hone j f hf
      have hj : j < fs.size := (Array.getElem?_eq_some_iff.1 hf).1
      have hlt : j < cs'.length := by omega
      have ha := hall j f hf
      rw [ho, hc1, List.drop_eq_getElem_cons hlt] at ha
      simp only [List.take_succ_cons, List.take_zero] at ha
      have hxs : xs[j]? = some (xs[j]'(by omega)) := List.getElem?_eq_getElem (by omega)
      refine ⟨cs'[j], xs[j]'(by omega), n', ?_, ha.trans hxs⟩
      have := hcell j hj
      rw [List.getElem?_eq_getElem hlt] at this
      rw [← Go.Deep.add_add]
      exact this
    refine .inr ⟨b, off, sp, len, cap, hcs, by omega, ⟨hl, hm⟩, fun hpos => ?_, fun i hil j f hf => ?_⟩
    · obtain ⟨v, y, n', hv, _⟩ := key 0 hpos 0 fs[0] (Array.getElem?_eq_getElem h0)
      have e : (⟨b, off, sp⟩ : Addr).add (0 * fs.size + 0) = ⟨b, off, sp⟩ := by simp [Addr.add]
      rw [e] at hv
      exact ⟨World.cell?_spot hv, World.block_lt_of_cell? w _ hv⟩
    · obtain ⟨v, y, n', hv, ht'⟩ := key i hil j f hf
      refine ⟨v, y, n', ?_, ht'⟩
      obtain ⟨v0, y0, n0, hv0, _⟩ := key 0 (by omega) 0 fs[0] (Array.getElem?_eq_getElem h0)
      have e : (⟨b, off, sp⟩ : Addr).add (0 * fs.size + 0) = ⟨b, off, sp⟩ := by simp [Addr.add]
      rw [e] at hv0
      have hsp : sp = none := World.cell?_spot hv0
      subst hsp
      have hadd : (⟨b, off, none⟩ : Addr).add (i * fs.size + j) = ⟨b, off + (i * fs.size + j), none⟩ := by unfold Addr.add; split <;> simp_all
      rw [← hadd]; exact hv
end
theorem field_of {fs : Array Field} {j : Nat} {t : TypeId} (h : (fs[j]?.map (·.type)) = some t) : ∃ f, fs[j]? = some f ∧ f.type = t := by
  cases hf : fs[j]? with
  | none => rw [hf] at h; cases h
  | some f => rw [hf] at h; exact ⟨f, rfl, Option.some.inj h⟩
theorem u32_of {n : Int} (h : (Lit.int .u32 n).wf = true) : 0 ≤ n ∧ n ≤ 4294967295 := by
  simpa [Lit.wf, IntKind.min, IntKind.max, IntKind.signed, IntKind.bits] using h
end Go.Proofs.YtgebbmfoamkfnaaGreatDoor
namespace Go.Proofs.YtgebbmfoamkfnaaGreatDoor
open Go.ChangeShapes Go.WideShapes Go.ChangeAt Go.RowKit Go.Joins Go.Deep
set_option linter.unusedVariables false
/-- The plain wrap, with a condition of the row's own and the world's shape kept. -/
theorem wrap_open {H : Type} {enc : TypeId × Value → H} {a : Assume} {C : Checked} {os : Os} {f : FuncId} {fn : Func} {s : ChangeSpec} {conds : List PathCond} {apart fresh handsOn again : Bool} {X : World → Array Value → Prop}
    (hX : ∀ (w w' : World) (args : Array Value), w.heap = w'.heap → X w args → X w' args)
    (own : ownKnob C.prog.godebug = none) (started : os.Started) (noInit : C.prog.inits.idxOf? f = none) (hfn : C.prog.funcs[f]? = some fn)
    (witness : ∃ (w : World) (tape : Tape) (i : Input), w.os = os ∧ (w.forCall tape i).Shaped C.prog ∧ i.vars = [] ∧ Input.okWide C.prog (w.forCall tape i) .any w.heap.size f i ∧
      ((s.pre enc C.prog fn conds apart (w.forCall tape i).memory i.args ∧ X (w.forCall tape i).memory i.args) ∧ sizedMet enc C.prog fn (OpenSpec.ofChange s) apart (w.forCall tape i).memory i.args) ∧ a.holds C.prog (lone (Frame.enter C.prog f i.args .normal) [] (w.forCall tape i)))
    (contract : ∀ (W : World) (base : Nat) (args : Array Value) (ds gs : List (DataW H)) (before : List MemPlace),
      (∀ (j : Nat) t v, fn.params[j]? = some t → args[j]? = some v → Value.okWide C.prog W .any base t v) →
      DataW.Whole enc C.prog fn.params.toList s.vars apart W args.toList ds gs before → X W args → W.ShapedOpen C.prog →
      Calls C.prog f args W fun e W' => ∃ v, e = .returned v ∧ s.post enc C.prog fn apart fresh handsOn again W args v W') :
    ReturnsInHanded a C os f .any (fun w args => (s.pre enc C.prog fn conds apart w args ∧ X w args) ∧ sizedMet enc C.prog fn (OpenSpec.ofChange s) apart w args) (s.post enc C.prog fn apart fresh handsOn again) := by
  refine returnsInHanded_of_calls own started noInit witness ?_
  intro w tape i _ hsh _ hok hpre _
  obtain ⟨_, _, _, fn', hfn', _, _, _, _, hval⟩ := hok
  obtain rfl : fn' = fn := Option.some.inj (hfn'.symm.trans hfn)
  obtain ⟨⟨⟨ds, gs, before, hw, _⟩, hx⟩, _⟩ := hpre
  refine (contract (w.forCall tape i) w.heap.size i.args ds gs before hval (DataW.Whole.of_heap (w' := w.forCall tape i) (by rfl) hw) (hX _ _ _ (by rfl) hx) hsh).mono fun e W' ⟨v, he, hp⟩ => ?_
  subst he
  exact ChangeSpec.post_blind hp
theorem gSyn : Tryz.prog.globalNamed "strconv.ErrSyntax" = some 1 := by kernel_rfl
theorem gSynT : (Tryz.prog.globals[1]?).map (·.type) = some 142 := by kernel_rfl
theorem gRng : Tryz.prog.globalNamed "strconv.ErrRange" = some 2 := by kernel_rfl
theorem gRngT : (Tryz.prog.globals[2]?).map (·.type) = some 142 := by kernel_rfl
theorem starErr : "*" ++ "errors.errorString" = "*errors.errorString" := by decide
theorem rowErr (u : TypeId) (h : Tryz.prog.typeName? 3 u = some "*errors.errorString") : u = 300 :=
  typeName_ptr_named (nm := "errors.errorString") (by rw [starErr]; kernel_rfl) (by kernel_rfl) (by decide) u (by rw [starErr]; exact h)
theorem Tryz.coErr : Tryz.prog.cellsOf 302 = 1 := by kernel_rfl
theorem Tryz.coStr : Tryz.prog.cellsOf 9 = 1 := by kernel_rfl
/-- What the condition and the world's shape give the walks. -/
theorem qv_of {W : World} (hL : laidMetH Tryz.prog Rows.queryCacheRow.laid W) (hs : W.ShapedOpen Tryz.prog) : QV W := by
  rw [MakeChecks.laidMetH_plain _ _ _ (by kernel_rfl)] at hL
  have h5 := laidMet.tail (laidMet.tail (laidMet.tail (laidMet.tail hL)))
  obtain ⟨a0, s0, hva, _, _, _⟩ := laid_sentinel h5 gRng gRngT Tryz.underlying142 rowErr Tryz.underlying300 Tryz.underlying302 rfl rfl Tryz.underlying9 Tryz.coErr Tryz.coStr
  obtain ⟨a1, s1, hvb, _, _, _⟩ := laid_sentinel (laidMet.tail h5) gSyn gSynT Tryz.underlying142 rowErr Tryz.underlying300 Tryz.underlying302 rfl rfl Tryz.underlying9 Tryz.coErr Tryz.coStr
  have c2 := World.var?_cell gRng hva 0
  have c1 := World.var?_cell gSyn hvb 0
  refine ⟨cell_of_shapedOpen_int (g := 0) (zero := #[.int .i64 0]) (t := 3) hs (of_decide_eq_true (by kernel_rfl)) (by kernel_rfl) rfl (by kernel_rfl) (by kernel_rfl) Tryz.underlying3, ⟨_, by simpa using c1, .inr ⟨_, _, rfl⟩⟩, ⟨_, by simpa using c2, .inr ⟨_, _, rfl⟩⟩, ?_⟩
  have c3 : W.cell? ⟨2, 0, none⟩ = some (.iface 300 (.pointer (some a0))) := by simpa using c2
  exact World.block_lt_of_cell? W _ c3
end Go.Proofs.YtgebbmfoamkfnaaGreatDoor
namespace Go.Proofs.YtgebbmfoamkfnaaGreatDoor
open Go.RowKit
set_option linter.unusedVariables false
structure TA where
 kind : Int
 i : Int
 e : Int
 pa : Option Addr
 pl : Nat
 pc : Nat
 ps : List PW
def TActsAt (B : Nat) (w : World) (a : Option Addr) (len : Nat) (l : List TA) : Prop :=
 l.length = len ∧ len ≤ maxLen ∧ (∀ x ∈ l, PartsAt B w x.pa x.pl x.pc x.ps) ∧ (len = 0 ∨ ∃ b off, a = some ⟨b, off, none⟩ ∧ b < B ∧ ∀ (i : Nat) (x : TA), l[i]? = some x →
  w.cell? ⟨b, off + i * 4, none⟩ = some (.int .i64 x.kind) ∧ w.cell? ⟨b, off + i * 4 + 1, none⟩ = some (.int .i64 x.i) ∧ w.cell? ⟨b, off + i * 4 + 2, none⟩ = some (.int .u64 x.e) ∧ w.cell? ⟨b, off + i * 4 + 3, none⟩ = some (.slice x.pa x.pl x.pc))
theorem TActsAt.get {B : Nat} {w w' : World} {a : Option Addr} {len : Nat} {l : List TA} (h : TActsAt B w a len l) (hb : Below B w w') {k : Nat} (hk : k < len) :
  ∃ b off x, a = some ⟨b, off, none⟩ ∧ b < B ∧ l[k]? = some x ∧ PartsAt B w' x.pa x.pl x.pc x.ps ∧ w'.cell? ⟨b, off + k * 4, none⟩ = some (.int .i64 x.kind) ∧ w'.cell? ⟨b, off + k * 4 + 1, none⟩ = some (.int .i64 x.i) ∧ w'.cell? ⟨b, off + k * 4 + 2, none⟩ = some (.int .u64 x.e) ∧ w'.cell? ⟨b, off + k * 4 + 3, none⟩ = some (.slice x.pa x.pl x.pc) := by
 obtain ⟨h1, h2, h4, h3⟩ := h
 rcases h3 with h3 | ⟨b, off, ha, hB, hc⟩
 ·omega
 ·have hl : k < l.length := by omega
  obtain ⟨c0, c1, c2, c3⟩ := hc k _ (List.getElem?_eq_getElem hl)
  exact ⟨b, off, l[k], ha, hB, List.getElem?_eq_getElem hl, (h4 _ (List.getElem_mem hl)).below hb, (hb.cell (p := ⟨b, _, none⟩) hB).trans c0, (hb.cell (p := ⟨b, _, none⟩) hB).trans c1, (hb.cell (p := ⟨b, _, none⟩) hB).trans c2, (hb.cell (p := ⟨b, _, none⟩) hB).trans c3⟩
structure RoomS (w0 : World) (TB n : Nat) (t : TD) (w : World) : Prop where
 tab : TabIn TB w t
 tb : t.tb = TB
 most : t.most = n
 bel : Below w0.heap.size w0 w
 le : w0.heap.size ≤ TB
theorem RoomS.next {w0 w w' : World} {TB n : Nat} {t t' : TD} (h : RoomS w0 TB n t w) (ho : Out t.foot w w') (ht : TabIn TB w' t') (h1 : t'.tb = t.tb) (h2 : t'.most = t.most) : RoomS w0 TB n t' w' :=
 ⟨ht, h1.trans h.tb, h2.trans h.most, h.bel.trans (ho.below (fun b hb => Nat.le_trans h.le (h.tab.foot_ge hb).1) h.bel.size), h.le⟩
theorem RoomS.below {w0 w w' : World} {TB n : Nat} {t : TD} (h : RoomS w0 TB n t w) (hb : Below w.heap.size w w') : RoomS w0 TB n t w' := h.next (Out.of hb) (h.tab.below hb) rfl rfl
theorem RoomS.room {w0 w : World} {TB n : Nat} {t : TD} (h : RoomS w0 TB n t w) {fr : Nat} (hf : t.free = fr) : Calls Tryz.prog 86 #[.pointer (some ⟨TB, 0, none⟩)] w fun e w' => e = .returned (.int .i64 (fr : Int)) ∧ RoomS w0 TB n t w' := by
 have := tabRoom_in h.tab
 rw [h.tb, hf] at this
 exact this.mono fun e w' ⟨he, m, hm⟩ => ⟨he, by rw [hm]; exact h.below (below_drewN (Below.refl _ _) m)⟩
theorem RoomS.parts {w0 w : World} {TB n : Nat} {t : TD} (h : RoomS w0 TB n t w) {pa : Option Addr} {pl pc : Nat} {ps : List PW} (hp : PartsAt w0.heap.size w0 pa pl pc ps) : ∀ w', Out t.cfoot w w' → PartsAt w'.heap.size w' pa pl pc ps := by
 intro w' ho
 have hb : Below w0.heap.size w w' := ho.below (fun b hb => Nat.le_trans h.le (h.tab.foot_ge (TabIn.cfoot_foot hb)).1) h.bel.size
 have := h.bel.trans hb
 exact (hp.below this).mono this.size
end Go.Proofs.YtgebbmfoamkfnaaGreatDoor
namespace Go.Proofs.YtgebbmfoamkfnaaGreatDoor
open Go.ChangeShapes Go.WideShapes Go.RowKit Go.Deep
set_option linter.unusedVariables false
section
variable {H : Type} {enc : TypeId × Value → H} {w : World} {base : Nat} {spare : Nat → Bool} {held : Bool}
theorem Tryz.one79 : ∃ fs, Tryz.prog.underlying 79 = some (.struct fs) ∧ oneCellFields Tryz.prog fs = true ∧ Tryz.prog.cellsOf 79 = fs.size ∧ fs.size = 3 ∧ (fs[0]?.map (·.type)) = some 9 ∧ (fs[1]?.map (·.type)) = some 77 ∧ (fs[2]?.map (·.type)) = some 3 :=
 ⟨_, Tryz.underlying79, by kernel_rfl, by kernel_rfl, rfl, rfl, rfl, rfl⟩
theorem Tryz.one82 : ∃ fs, Tryz.prog.underlying 82 = some (.struct fs) ∧ oneCellFields Tryz.prog fs = true ∧ Tryz.prog.cellsOf 82 = fs.size ∧ fs.size = 3 ∧ (fs[0]?.map (·.type)) = some 3 ∧ (fs[1]?.map (·.type)) = some 9 ∧ (fs[2]?.map (·.type)) = some 80 :=
 ⟨_, Tryz.underlying82, by kernel_rfl, by kernel_rfl, rfl, rfl, rfl, rfl⟩
theorem open_fields {fuel : Nat} {v : Value} {x : DataW H × List MemPlace} (h : DataW.trod enc Tryz.prog w base spare held fuel 80 [v] = some x) :
  ∃ a len cap fs, v = .slice a len cap ∧ FieldsAt w.heap.size w a len fs ∧ (a = none → len = 0 ∧ cap = 0) ∧ ∀ f ∈ fs, f.name.size ≤ maxLen := by
 obtain ⟨fds, hu, hone, hC, hsz, g0, g1, g2⟩ := Tryz.one79
 rcases open_elems Tryz.underlying80 hu hone hC (by omega) h with h1 | ⟨b, off, sp, len, cap, h1, hlm, hlc, hsp, hel⟩
 ·cases h1
  exact ⟨none, 0, 0, [], rfl, ⟨rfl, by unfold maxLen; omega, .inl rfl⟩, fun _ => ⟨rfl, rfl⟩, by simp⟩
 ·cases h1
  obtain ⟨f0, q0, r0⟩ := field_of g0
  obtain ⟨f1, q1, r1⟩ := field_of g1
  obtain ⟨f2, q2, r2⟩ := field_of g2
  obtain ⟨l, hl, hp⟩ := list_of (fun i (f : Fld) => w.cell? ⟨b, off + i * 3, none⟩ = some (.string f.name) ∧ w.cell? ⟨b, off + i * 3 + 1, none⟩ = some (.int .i64 f.kind) ∧ w.cell? ⟨b, off + i * 3 + 2, none⟩ = some (.int .i64 f.count) ∧ f.name.size ≤ maxLen) len (by
   intro i hi
   obtain ⟨v0, y0, n0, c0, t0⟩ := hel i hi 0 f0 q0
   obtain ⟨v1, y1, n1, c1, t1⟩ := hel i hi 1 f1 q1
   obtain ⟨v2, y2, n2, c2, t2⟩ := hel i hi 2 f2 q2
   rw [r0] at t0; rw [r1] at t1; rw [r2] at t2
   obtain ⟨s, e0, _, hs⟩ := DataW.trod_string Tryz.underlying9 t0
   obtain ⟨k, e1, _, hk⟩ := DataW.trod_int Tryz.underlying77 t1
   obtain ⟨c, e2, _, hc⟩ := DataW.trod_int Tryz.underlying3 t2
   cases e0; cases e1; cases e2
   rw [hsz] at c0 c1 c2
   exact ⟨⟨s, k, c⟩, c0, c1, c2, hs⟩)
  refine ⟨some ⟨b, off, sp⟩, len, cap, l, rfl, ⟨hl, hlm, ?_⟩, fun hh => by (cases hh), fun f hf => ?_⟩
  ·by_cases h0 : len = 0
   ·exact .inl h0
   ·obtain ⟨rfl, hb⟩ := hsp (by omega)
    exact .inr ⟨b, off, rfl, hb, fun i f hf => ⟨(hp i f hf).1, (hp i f hf).2.1, (hp i f hf).2.2.1⟩⟩
  ·obtain ⟨i, hi⟩ := List.getElem?_of_mem hf
   exact (hp i f hi).2.2.2
theorem open_comps {fuel : Nat} {v : Value} {x : DataW H × List MemPlace} (h : DataW.trod enc Tryz.prog w base spare held fuel 22 [v] = some x) :
  ∃ a len cap cs, v = .slice a len cap ∧ CompsAt w.heap.size w a len cs ∧ (a = none → len = 0 ∧ cap = 0) ∧ CompsWf cs := by
 obtain ⟨fds, hu, hone, hC, hsz, g0, g1, g2⟩ := Tryz.one82
 rcases open_elems Tryz.underlying22 hu hone hC (by omega) h with h1 | ⟨b, off, sp, len, cap, h1, hlm, hlc, hsp, hel⟩
 ·cases h1
  exact ⟨none, 0, 0, [], rfl, ⟨rfl, by unfold maxLen; omega, .inl rfl⟩, fun _ => ⟨rfl, rfl⟩, by intro c hc; cases hc⟩
 ·cases h1
  obtain ⟨f0, q0, r0⟩ := field_of g0
  obtain ⟨f1, q1, r1⟩ := field_of g1
  obtain ⟨f2, q2, r2⟩ := field_of g2
  obtain ⟨l, hl, hp⟩ := list_of (fun i (c : Cmp) => (w.cell? ⟨b, off + i * 3, none⟩ = some (.int .i64 c.id) ∧ w.cell? ⟨b, off + i * 3 + 1, none⟩ = some (.string c.name) ∧
    ∃ fa fl fc, w.cell? ⟨b, off + i * 3 + 2, none⟩ = some (.slice fa fl fc) ∧ FieldsAt w.heap.size w fa fl c.fields ∧ (fa = none → fl = 0 ∧ fc = 0)) ∧ c.name.size ≤ maxLen ∧ ∀ f ∈ c.fields, f.name.size ≤ maxLen) len (by
   intro i hi
   obtain ⟨v0, y0, n0, c0, t0⟩ := hel i hi 0 f0 q0
   obtain ⟨v1, y1, n1, c1, t1⟩ := hel i hi 1 f1 q1
   obtain ⟨v2, y2, n2, c2, t2⟩ := hel i hi 2 f2 q2
   rw [r0] at t0; rw [r1] at t1; rw [r2] at t2
   obtain ⟨k, e0, _, hk⟩ := DataW.trod_int Tryz.underlying3 t0
   obtain ⟨s, e1, _, hs⟩ := DataW.trod_string Tryz.underlying9 t1
   obtain ⟨fa, fl, fc, fs, e2, hF, hn, hfn⟩ := open_fields t2
   cases e0; cases e1; subst e2
   rw [hsz] at c0 c1 c2
   exact ⟨⟨k, s, fs⟩, ⟨c0, c1, fa, fl, fc, c2, hF, hn⟩, hs, hfn⟩)
  refine ⟨some ⟨b, off, sp⟩, len, cap, l, rfl, ⟨hl, hlm, ?_⟩, fun hh => by (cases hh), fun c hc => ?_⟩
  ·by_cases h0 : len = 0
   ·exact .inl h0
   ·obtain ⟨rfl, hb⟩ := hsp (by omega)
    exact .inr ⟨b, off, rfl, hb, fun i c hc => (hp i c hc).1⟩
  ·obtain ⟨i, hi⟩ := List.getElem?_of_mem hc
   exact (hp i c hi).2
end
end Go.Proofs.YtgebbmfoamkfnaaGreatDoor
