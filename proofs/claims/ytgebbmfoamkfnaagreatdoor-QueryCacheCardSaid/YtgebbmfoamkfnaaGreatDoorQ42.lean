/- QueryCache: its walk. Printed by mkFK.py. -/
import Derived.Test.YtgebbmfoamkfnaaGreatDoorQ40
import Derived.Test.YtgebbmfoamkfnaaGreatDoorQ41
import Derived.Test.YtgebbmfoamkfnaaGreatDoorQ3
namespace Go.Proofs.YtgebbmfoamkfnaaGreatDoor
open Go.RowKit
set_option linter.unusedVariables false
def mskO : List Bool := [false, false, false, false, true, false, true, true, true, true, true, true, true, true, true, true, true, true, true, true, true, false, false, false, false, false, false, false, false, false, false, false, false, false, true, true, true, true, true, true, true, true, true, true, true, true, true, true, true, true, true, true, true, true, true, true, true, true, true, true, true, true, true, true, true, true, true, true, true, true, true, true, true, true, true, true, true, true, true, true, true, true, true, true, true, true, true, true, true, true, true, true, true, true, true, true, true, true, true, true, true, true, true, true, true, true, true, true, true, true, true, true, true, true, true, true, true, true, true, true, true, true, true, true, true, true, true, true, true, true, true, true, true, true, true, true, true, true, true, true, true, true, true, true, true, true, true, true, true, true, true, true, true, true, true, true, true, true, true, true, true, true, true, true, true, true, true, true, true, true, true, true, true, true, true, true, true, true, true, true, true, true, true, false, false, false, false, false, false, false, false, false, false, false, false, false, false, false, false]
def mskC : List Bool := [false, false, false, false, false, false, true, false, false, false, false, false, false, false, false, false, false, false, false, false, false, false, false, false, false, false, false, false, false, false, false, false, false, false, false, false, false, false, false, false, false, false, false, false, false, false, true, true, true, false, false, false, false, false, false, false, false, false, false, false, false, false, false, false, false, false, false, false, false, false, false, false, false, false, false, false, false, false, false, false, false, false, false, false, false, false, false, false, false, false, false, false, false, false, false, false, false, false, false, false, false, false, false, false, false, false, false, false, false, false, false, false, false, false, false, false, false, false, false, false, false, false, false, false, false, false, false, false, false, false, false, false, false, false, false, false, false, false, false, false, false, false, false, false, false, false, false, false, false, false, false, false, false, false, false, false, false, false, false, false, false, false, false, false, false, false, false, false, false, false, false, false, false, false, false, false, false, false, false, false, false, false, false, false, false, false, false, false, false, false, false, false, false, false, false, false, false, false, false]
def mskN : List Bool := [false, false, false, false, false, false, false, false, false, false, true, false, false, false, false, false, false, false, false, false, false, false, false, false, false, false, false, false, false, false, false, false, false, false, false, false, false, false, false, false, false, false, false, false, false, false, false, false, false, true, true, true, true, true, true, true, true, true, false, false, false, false, false, false, false, false, false, false, false, false, false, false, false, false, false, false, false, false, false, false, false, false, false, false, false, false, false, false, false, false, false, false, false, false, false, false, false, false, false, false, false, false, false, false, false, false, false, false, false, false, false, false, false, false, false, false, false, false, false, false, false, false, false, false, false, false, false, false, false, false, false, false, false, false, false, false, false, false, false, false, false, false, false, false, false, false, false, false, false, false, false, false, false, false, false, false, false, false, false, false, false, false, false, false, false, false, false, false, false, false, false, false, false, false, false, false, false, false, false, false, false, false, false, false, false, false, false, false, false, false, false, false, false, false, false, false, false, false, false]
def mskL : List Bool := [false, false, false, false, false, false, false, false, false, false, false, true, true, true, true, true, false, false, false, false, false, false, false, false, false, false, false, false, false, false, false, false, false, false, false, false, false, false, false, false, false, false, false, false, false, false, false, false, false, false, false, false, false, false, false, false, false, false, false, false, false, true, true, true, true, true, true, true, true, true, true, true, true, true, true, true, true, true, true, true, true, true, true, true, true, true, true, true, true, true, true, true, true, true, true, true, false, false, false, false, false, false, false, false, false, false, false, false, false, false, false, false, false, false, false, false, false, false, false, false, false, false, false, false, false, false, false, false, false, false, false, false, false, false, false, false, false, false, false, false, false, false, false, false, false, false, false, false, false, false, false, false, false, false, false, false, false, false, false, false, false, false, false, false, false, false, false, false, false, false, false, false, false, false, false, false, false, false, false, false, false, false, false, false, false, false, false, false, false, false, false, false, false, false, false, false, false, false, false]
def mskT : List Bool := [false, false, false, false, false, false, false, false, false, false, false, false, false, false, false, false, false, false, false, false, false, false, false, false, false, false, false, false, false, false, false, false, false, false, false, false, false, false, false, false, false, false, false, false, false, false, false, false, false, false, false, false, false, false, false, false, false, false, false, false, false, false, false, false, false, false, false, false, false, false, true, true, true, true, true, true, false, false, false, false, false, false, false, false, false, false, false, false, false, false, false, false, false, false, false, false, false, false, false, false, false, false, false, false, false, false, false, false, false, false, false, false, false, false, false, false, false, false, false, false, false, false, false, false, false, false, false, false, false, false, false, false, false, false, false, false, false, false, false, false, false, false, false, false, false, false, false, false, false, false, false, false, false, false, false, false, false, false, false, false, false, false, false, false, false, false, false, false, false, false, false, false, false, false, false, false, false, false, false, false, false, false, false, false, false, false, false, false, false, false, false, false, false, false, false, false, false, false, false]
def mskX : List Bool := [false, false, false, false, false, false, false, false, false, false, false, false, false, false, false, true, false, false, false, false, false, false, false, false, false, false, false, false, false, false, false, false, false, false, false, false, false, false, false, false, false, false, false, false, false, false, false, false, false, false, false, false, false, false, false, false, false, false, false, false, false, false, false, false, false, false, false, false, false, false, false, false, false, false, false, false, true, true, false, false, false, false, false, false, false, false, false, false, false, false, false, false, false, false, false, false, false, false, false, false, false, false, false, false, false, false, false, false, false, false, false, false, false, false, false, false, false, false, false, false, false, false, false, false, false, false, false, false, false, false, false, false, false, false, false, false, false, false, false, false, false, false, false, false, false, false, false, false, false, false, false, false, false, false, false, false, false, false, false, false, false, false, false, false, false, false, false, false, false, false, false, false, false, false, false, false, false, false, false, false, false, false, false, false, false, false, false, false, false, false, false, false, false, false, false, false, false, false, false]
def mskF : List Bool := [false, false, false, false, false, false, false, false, false, false, false, false, false, false, false, false, false, true, true, false, false, false, false, false, false, false, false, false, false, false, false, false, false, false, false, false, false, false, false, false, false, false, false, false, false, false, false, false, false, false, false, false, false, false, false, false, false, false, false, false, false, false, false, false, false, false, false, false, false, false, false, false, false, false, false, false, false, false, false, false, false, false, false, false, false, false, false, false, false, false, false, false, false, false, false, false, false, false, false, false, false, false, false, false, false, false, false, false, true, true, true, true, true, true, true, true, true, true, true, true, true, true, true, true, true, true, false, false, false, false, false, false, false, false, false, false, false, false, false, false, false, false, false, false, false, false, false, false, false, false, false, false, false, false, false, false, false, false, false, false, false, false, false, false, false, false, false, false, false, false, false, false, false, false, false, false, false, false, false, false, false, false, false, false, false, false, false, false, false, false, false, false, false, false, false, false, false, false, false]
def mskW : List Bool := [false, false, false, false, false, false, false, true, false, false, false, false, false, false, false, false, false, false, false, false, false, false, false, false, false, false, false, false, false, false, false, false, false, false, false, false, false, false, false, false, false, false, false, false, false, false, false, false, false, false, false, false, false, false, false, false, false, false, false, false, false, false, false, false, false, false, false, false, false, false, false, false, false, false, false, false, false, false, false, false, false, false, false, false, false, false, false, false, false, false, false, false, false, false, false, false, false, false, false, false, false, false, false, false, false, false, false, false, false, false, false, false, false, false, false, false, false, false, false, false, false, false, false, false, false, false, false, false, false, false, false, true, true, true, true, false, false, false, false, false, false, false, false, false, false, false, false, false, false, false, false, false, false, false, false, false, false, false, false, false, false, false, false, false, false, false, false, false, false, false, false, false, false, false, false, false, false, false, false, false, false, false, false, false, false, false, false, false, false, false, false, false, false, false, false, false, false, false, false]
def mskG : List Bool := [false, false, false, false, true, false, false, false, false, false, false, false, false, false, false, false, false, false, false, false, true, false, false, false, false, false, false, false, false, false, false, false, false, false, false, false, false, false, false, false, false, false, false, false, false, false, false, false, false, false, false, false, false, false, false, false, false, false, false, false, false, false, false, false, false, false, false, false, false, false, false, false, false, false, false, false, false, false, false, false, false, false, false, false, false, false, false, false, false, false, false, false, false, false, false, false, false, false, false, false, false, false, false, false, false, false, false, false, false, false, false, false, false, false, false, false, false, false, false, false, false, false, false, false, false, false, false, false, false, false, false, false, false, false, false, false, false, false, false, false, false, false, false, false, false, false, false, false, false, false, false, false, false, false, false, false, false, false, false, false, false, false, false, false, false, false, false, false, true, true, true, true, true, true, true, true, true, true, true, true, true, true, true, false, false, false, false, false, false, false, false, false, false, false, false, false, false, false, false]
theorem row_other {w w' : World} {B B' s s' n n' : Nat} {e e' : TypeId} {v v' : Value} {xs xs' : List Value} (h : w.ownsRow B e s v n xs) (ho : w.ownsRow B' e' s' v' n' xs') (hg : w.grownBy w' v'.ownBlock) (hne : e ≠ e') : w'.ownsRow B e s v n xs := by
  obtain ⟨h1, h2⟩ := h
  refine ⟨h1, h2.imp id ?_⟩
  rintro ⟨g, cap, cur, hv, hb, hh, r⟩
  exact ⟨g, cap, cur, hv, hb, own_keep ho hg hh hne, r⟩
/-- A row of raw sets that lies below block B. -/
def SetsAt (B : Nat) (w : World) (a : Option Addr) (n : Nat) (l : List Int) : Prop := l.length = n ∧ n ≤ maxLen ∧ (n = 0 ∨ ∃ b off, a = some ⟨b, off, none⟩ ∧ b < B ∧ ∀ (i : Nat) (x : Int), l[i]? = some x → w.cell? ⟨b, off + i, none⟩ = some (.int .u32 x))
theorem SetsAt.below {B n : Nat} {w w' : World} {a : Option Addr} {l : List Int} (h : SetsAt B w a n l) (hb : Below B w w') : SetsAt B w' a n l := by
  obtain ⟨h1, h2, h3⟩ := h
  refine ⟨h1, h2, h3.imp id ?_⟩
  rintro ⟨b, off, ha, hB, hc⟩
  exact ⟨b, off, ha, hB, fun i x hx => (hb.cell (p := ⟨b, off + i, none⟩) hB).trans (hc i x hx)⟩
theorem SetsAt.get {B n : Nat} {w : World} {a : Option Addr} {l : List Int} (h : SetsAt B w a n l) {k : Nat} (hk : k < n) : ∃ b off x, a = some ⟨b, off, none⟩ ∧ b < B ∧ l[k]? = some x ∧ w.cell? ⟨b, off + k, none⟩ = some (.int .u32 x) := by
  obtain ⟨h1, _, h3⟩ := h
  rcases h3 with h3 | ⟨b, off, ha, hB, hc⟩
  · omega
  · have hl : k < l.length := by omega
    exact ⟨b, off, _, ha, hB, List.getElem?_eq_getElem hl, hc k _ (List.getElem?_eq_getElem hl)⟩
/-- What the law keeps from ask to ask. -/
structure CI (w0 : World) (cb kb mb : Nat) (S : CS) (k : Nat) (w : World) : Prop where
  cache : CacheAt w cb kb S
  saw : SawAt w mb S
  ne : mb ≠ cb ∧ mb ≠ kb
  lo : w0.heap.size ≤ cb ∧ w0.heap.size ≤ kb ∧ w0.heap.size ≤ mb
  lk : 0 ≤ S.looked ∧ S.looked ≤ 60 * (k : Int)
  cnt : S.cnt ≤ k
  bel : Below w0.heap.size w0 w
section
variable {w0 w w' : World} {cb kb mb k : Nat} {S : CS}
theorem CacheAt.lt (h : CacheAt w cb kb S) : cb < w.heap.size ∧ kb < w.heap.size := by
  obtain ⟨f, hf, _⟩ := h.map
  exact ⟨lt_some h.blk, hf.lt⟩
theorem CI.below (h : CI w0 cb kb mb S k w) (hb : Below w.heap.size w w') : CI w0 cb kb mb S k w' := ⟨h.cache.below hb, h.saw.below hb, h.ne, h.lo, h.lk, h.cnt, h.bel.trans (hb.mono h.bel.size)⟩
theorem CI.clear (h : CI w0 cb kb mb S k w) (hc : CacheAt w' cb kb ⟨fun _ => none, 0, S.looked⟩) (ho : Only kb w w') : CI w0 cb kb w'.heap.size ⟨fun _ => none, 0, S.looked⟩ k (w'.alloc (.map #[] 0)) := by
  have hlt := hc.lt
  have hb : Below w0.heap.size w0 w' := h.bel.trans (ho.below h.lo.2.1)
  exact ⟨hc.below ((Below.refl _ w').alloc (Nat.le_refl _) _), SawAt.made w' _, ⟨by omega, by omega⟩, ⟨h.lo.1, h.lo.2.1, hb.size⟩, h.lk, Nat.zero_le _, hb.trans ((Below.refl _ w').alloc hb.size _)⟩
theorem row_map {w7 : World} {B s n : Nat} {e : TypeId} {v : Value} {xs : List Value} (h : w.ownsRow B e s v n xs) (ho : Out (fun x => x = mb) w w7) (hm : ∃ es c, w.heap[mb]? = some (.map es c)) : w7.ownsRow B e s v n xs := by
  obtain ⟨es, c, hm⟩ := hm
  refine ownsRow_out h ho (fun z hz e => ?_)
  obtain ⟨cur, hc⟩ := row_type h hz
  rw [e, hm] at hc
  cases hc
theorem CI.put {q : Int × Int} (h : CI w0 cb kb mb S k w) (hq : QWf q) (l : List Int) {sa : Option Addr} {n sc : Nat} (hln : l.length = n) (hn : n ≤ 60) (ho : w.ownsRow 0 25 1 (.slice sa n sc) n (l.map (.int .u32))) (hk : k ≤ 60) :
    ∃ w7, (Instr.mapUpdate 67 (.map (some mb)) (.agg #[.int .u32 q.1, .int .u32 q.2]) (.slice sa n sc)).run Tryz.prog w = .ok () w7 ∧ SawAt w7 mb (S.ask q l) ∧ CacheAt w7 cb kb S ∧ Out (fun x => x = mb) w w7 ∧ ∃ es c, w.heap[mb]? = some (.map es c) := by
  have hc := h.cnt
  obtain ⟨w7, h1, h2, h3⟩ := h.saw.put hq l hln hn ho (by omega)
  obtain ⟨es, c, hm⟩ := h.saw.obj
  refine ⟨w7, h1, h2, h.cache.out h3 (fun x hx => ?_), h3, es, c, hm⟩
  subst hx
  refine ⟨h.ne.1, h.ne.2, fun cs => ?_⟩
  rw [hm]
  exact ⟨by simp, by simp⟩
theorem CS.kept_le (S : CS) (q : Int × Int) (l : List Int) : S.kept q l ≤ l.length := by
  unfold CS.kept
  split
  · rename_i hf
    obtain ⟨r, hr⟩ := frontB_eq hf
    rw [hr, List.length_append]
    omega
  · exact Nat.zero_le _
theorem CI.next {q : Int × Int} {l : List Int} {w7 w8 : World} (h : CI w0 cb kb mb S k w) (hl : l.length ≤ 60) (hs : SawAt w7 mb (S.ask q l)) (hc7 : CacheAt w7 cb kb S) (hO7 : Out (fun x => x = mb) w w7) (hc8 : CacheAt w8 cb kb (S.ask q l)) (hO8 : Out (fun x => x = cb ∨ x = kb) w7 w8) : CI w0 cb kb mb (S.ask q l) (k + 1) w8 := by
  have hlk := h.lk
  have hkp := S.kept_le q l
  have hcn := h.cnt
  have hlo := h.lo
  refine ⟨hc8, hs.out hO8 (fun x hx => ?_), h.ne, h.lo, ?_, ?_, ?_⟩
  · rcases hx with rfl | rfl
    · refine ⟨fun e => h.ne.1 e.symm, fun cs => ?_⟩
      rw [hc7.blk]
      exact fun e => by injection e with e; injection e with _ e _; exact absurd e (by decide)
    · obtain ⟨f, hf, _⟩ := hc7.map
      obtain ⟨es, c, he⟩ := hf.obj
      refine ⟨fun e => h.ne.2 e.symm, fun cs => ?_⟩
      rw [he]
      simp
  · show 0 ≤ S.looked + ((l.length : Int) - (S.kept q l : Int)) ∧ S.looked + ((l.length : Int) - (S.kept q l : Int)) ≤ 60 * ((k + 1 : Nat) : Int)
    omega
  · show (if (S.kf q).isSome then S.cnt else S.cnt + 1) ≤ k + 1
    split <;> omega
  · exact (h.bel.trans (hO7.below (fun x hx => by rw [hx]; exact hlo.2.2) h.bel.size)).trans (hO8.below (fun x hx => by rcases hx with rfl | rfl; exact hlo.1; exact hlo.2.1) (Nat.le_trans h.bel.size hO7.size))
theorem row_ck {w7 w8 : World} {B n : Nat} {e : TypeId} {v : Value} {xs : List Value} (h : w7.ownsRow B e 1 v n xs) (hc7 : CacheAt w7 cb kb S) (hO8 : Out (fun x => x = cb ∨ x = kb) w7 w8) (hne : 131 ≠ e) : w8.ownsRow B e 1 v n xs := by
  refine ownsRow_out h hO8 (fun z hz e => ?_)
  obtain ⟨cur, hc⟩ := row_type h hz
  rcases e with rfl | rfl
  · rw [hc7.blk] at hc
    injection hc with hc
    injection hc with _ hc _
    exact hne hc
  · obtain ⟨f, hf, _⟩ := hc7.map
    obtain ⟨es, c, he⟩ := hf.obj
    rw [he] at hc
    cases hc
/-- What the first of its loops keeps: the ask, and three rows. -/
structure RI (wb : World) (xb : Nat) (x : AskD) (la : Option Addr) (jl lc : Nat) (ma : Option Addr) (jm mc : Nat) (ta : Option Addr) (jt tc : Nat) (l m t : List Int) (w : World) : Prop where
  bel : Below wb.heap.size wb w
  ask : w.heap[xb]? = some (.cells #[.int .u32 x.all, .int .u32 x.none, .int .i64 x.n, .bool x.clr, .bool x.other] 69 (0, 0))
  lrow : w.ownsRow wb.heap.size 25 1 (.slice la jl lc) jl (l.map (.int .u32))
  mrow : w.ownsRow wb.heap.size 28 1 (.slice ma jm mc) jm (m.map (.int .u32))
  trow : w.ownsRow wb.heap.size 3 1 (.slice ta jt tc) jt (t.map (.int .i64))
variable {wb : World} {xb : Nat} {x : AskD} {la ma ta va : Option Addr} {jl lc jm mc jt tc vc : Nat} {l m t : List Int}
theorem RI.below (h : RI wb xb x la jl lc ma jm mc ta jt tc l m t w) (hb : Below w.heap.size w w') : RI wb xb x la jl lc ma jm mc ta jt tc l m t w' :=
  ⟨h.bel.trans (hb.mono h.bel.size), keep hb h.ask, ownsRow_below h.lrow hb, ownsRow_below h.mrow hb, ownsRow_below h.trow hb⟩
theorem RI.pushL {s : Int} (h : RI wb xb x la jl lc ma jm mc ta jt tc l m t w) (ho : w'.ownsRow wb.heap.size 25 1 (.slice va (jl + 1) vc) (jl + 1) (l.map (.int .u32) ++ [.int .u32 s])) (hg : w.grownBy w' (Value.slice la jl lc).ownBlock) : RI wb xb x va (jl + 1) vc ma jm mc ta jt tc (l ++ [s]) m t w' :=
  ⟨h.bel.trans (below_own h.lrow hg h.bel.size), own_keep h.lrow hg h.ask (by decide), by rw [List.map_append]; exact ho, row_other h.mrow h.lrow hg (by decide), row_other h.trow h.lrow hg (by decide)⟩
theorem RI.pushM {s : Int} (h : RI wb xb x la jl lc ma jm mc ta jt tc l m t w) (ho : w'.ownsRow wb.heap.size 28 1 (.slice va (jm + 1) vc) (jm + 1) (m.map (.int .u32) ++ [.int .u32 s])) (hg : w.grownBy w' (Value.slice ma jm mc).ownBlock) : RI wb xb x la jl lc va (jm + 1) vc ta jt tc l (m ++ [s]) t w' :=
  ⟨h.bel.trans (below_own h.mrow hg h.bel.size), own_keep h.mrow hg h.ask (by decide), row_other h.lrow h.mrow hg (by decide), by rw [List.map_append]; exact ho, row_other h.trow h.mrow hg (by decide)⟩
theorem RI.pushT {s : Int} (h : RI wb xb x la jl lc ma jm mc ta jt tc l m t w) (ho : w'.ownsRow wb.heap.size 3 1 (.slice va (jt + 1) vc) (jt + 1) (t.map (.int .i64) ++ [.int .i64 s])) (hg : w.grownBy w' (Value.slice ta jt tc).ownBlock) : RI wb xb x la jl lc ma jm mc va (jt + 1) vc l m (t ++ [s]) w' :=
  ⟨h.bel.trans (below_own h.trow hg h.bel.size), own_keep h.trow hg h.ask (by decide), row_other h.lrow h.trow hg (by decide), row_other h.mrow h.trow hg (by decide), by rw [List.map_append]; exact ho⟩
theorem RI.cells (h : RI wb xb x la jl lc ma jm mc ta jt tc l m t w) : w.cell? ⟨xb, 0, none⟩ = some (.int .u32 x.all) ∧ w.cell? ⟨xb, 1, none⟩ = some (.int .u32 x.none) ∧ w.cell? ⟨xb, 2, none⟩ = some (.int .i64 x.n) ∧ w.cell? ⟨xb, 3, none⟩ = some (.bool x.clr) ∧ w.cell? ⟨xb, 4, none⟩ = some (.bool x.other) ∧ xb < w.heap.size := ⟨cell_at h.ask 0, cell_at h.ask 1, cell_at h.ask 2, cell_at h.ask 3, cell_at h.ask 4, lt_some h.ask⟩
end
theorem RI.start {wc : World} {xb : Nat} {x : AskD} (h : wc.heap[xb]? = some (.cells #[.int .u32 x.all, .int .u32 x.none, .int .i64 x.n, .bool x.clr, .bool x.other] 69 (0, 0))) : RI wc xb x (some ⟨wc.heap.size, 0, none⟩) 0 0 (some ⟨wc.heap.size + 1, 0, none⟩) 0 0 (some ⟨wc.heap.size + 1 + 1, 0, none⟩) 0 0 [] [] [] (((wc.alloc (.cells #[] 25)).alloc (.cells #[] 28)).alloc (.cells #[] 3)) := by
  have h1 : (wc.alloc (.cells #[] 25)).ownsRow wc.heap.size 25 1 (.slice (some ⟨wc.heap.size, 0, none⟩) 0 0) 0 [] := World.ownsRow_made wc #[] 0 (Nat.le_refl _) (by simp) (by simp)
  have h2 := World.ownsRow_made (base := wc.heap.size) (e := 28) (size := 1) (wc.alloc (.cells #[] 25)) #[] 0 (by simp) (by simp) (by simp)
  have h3 := World.ownsRow_made (base := wc.heap.size) (e := 3) (size := 1) ((wc.alloc (.cells #[] 25)).alloc (.cells #[] 28)) #[] 0 (by simp; omega) (by simp) (by simp)
  rw [World.size_alloc] at h2
  rw [World.size_alloc, World.size_alloc] at h3
  exact ⟨by go_grown, keepA _ (keepA _ (keepA _ h)), (h1.alloc _).alloc _, h2.alloc _, h3⟩
theorem Tryz.infoU32 : (Tryz.prog.info? 25).map (fun i => (i.zero, i.size, i.bytes)) = some (some (.int .u32 0), 1, 4) := by kernel_rfl
theorem Tryz.infoSg : (Tryz.prog.info? 28).map (fun i => (i.zero, i.size, i.bytes)) = some (some (.int .u32 0), 1, 4) := by kernel_rfl
theorem askN_bd (xn : Int) (sn : Nat) (h : sn ≤ 60) : ∃ N : Nat, N ≤ sn ∧ wrap64 ((IntKind.u64.wrap xn).tmod ((sn : Int) + 1)) = (N : Int) := by
  have h0 : 0 ≤ IntKind.u64.wrap xn := by
    rw [IntKind.wrap_u64]
    omega
  have h1 := Int.tmod_nonneg ((sn : Int) + 1) h0
  have h2 := Int.tmod_lt_of_pos (IntKind.u64.wrap xn) (show (0 : Int) < (sn : Int) + 1 by omega)
  refine ⟨((IntKind.u64.wrap xn).tmod ((sn : Int) + 1)).toNat, by omega, ?_⟩
  generalize (IntKind.u64.wrap xn).tmod ((sn : Int) + 1) = z at *
  unfold wrap64
  omega
set_option maxRecDepth 100000 in
set_option maxHeartbeats 8000000 in
theorem cache_walk (sets : List Int) (sa : Option Addr) (sn sc : Nat) (l : List AskD) (a2 : Option Addr) (len2 cap2 : Nat) (w : World) (hs : SetsAt w.heap.size w sa sn sets) (hok : setsOk sets) (hl : AsksAt w.heap.size w a2 len2 l) (hv : QV w) :
    Calls Tryz.prog 5 #[.slice sa sn sc, .slice a2 len2 cap2] w fun e w' => e = .returned (.bool true) ∧ Below w.heap.size w w' := by
  obtain ⟨iu, hiu, hzu0, hzu1, hzu2⟩ := info_parts Tryz.infoU32
  obtain ⟨ig, hig, hzg0, hzg1, hzg2⟩ := info_parts Tryz.infoSg
  obtain ⟨i0, hi, hz0, hz1, hz2⟩ := info_parts Tryz.infoI
  have hm1 : sn ≤ maxLen := hs.2.1
  have hm2 : len2 ≤ maxLen := hl.2.1
  unfold maxLen at hm1 hm2
  have HS := Lib.hid hs
  have HL := Lib.hid hl
  have HOK := Lib.hid hok
  have HV := Lib.hid hv
  clear hs hok hl hv
  go_enter Tryz.func5, Tryz.ntmps5
  go_wp2_with fail
  refine (awake20_any w HV.out).mono ?_
  rintro e w1 ⟨rfl, hb1⟩
  have HB1 := Lib.hid hb1
  clear hb1
  by_cases hbig : 60 < sn
  · have g1 : (60 : Int) < (sn : Int) := by omega
    go_wp2_with fail
    go_returns
    exact ⟨rfl, HB1.out⟩
  by_cases hbig2 : 60 < len2
  · have g1 : ¬ (60 : Int) < (sn : Int) := by omega
    have g2 : (60 : Int) < (len2 : Int) := by omega
    go_wp2_with fail
    go_returns
    exact ⟨rfl, HB1.out⟩
  have g1 : ¬ (60 : Int) < (sn : Int) := by omega
  have g2 : ¬ (60 : Int) < (len2 : Int) := by omega
  have hmm := @run_makeMap Tryz.prog
  go_wp2_with fail
  refine (cacheNew_any w1).mono ?_
  rintro e w2 ⟨cb, kb, rfl, hC2, hb2, hcb, hkb⟩
  have hlt := hC2.lt
  have hbm : Below w2.heap.size w2 (w2.alloc (.map #[] 0)) := (Below.refl _ w2).alloc (Nat.le_refl _) _
  have HCI : Hid (CI w1 cb kb w2.heap.size CS.new 0 (w2.alloc (.map #[] 0))) := Lib.hid ⟨hC2.below hbm, SawAt.made w2 0, ⟨by omega, by omega⟩, ⟨hcb, hkb, hb2.size⟩, ⟨by decide, by decide⟩, Nat.le_refl _, hb2.trans (hbm.mono hb2.size)⟩
  clear hC2 hb2 hcb hkb hlt hbm
  go_wp2_with fail
  generalize w2.alloc (.map #[] 0) = w3 at *
  generalize w2.heap.size = mb0 at *
  refine wp_loop_f mskO (fun n f wr => ∃ (k mb : Nat) (S : CS), n + k = len2 ∧ f 8 = .int .i64 (k : Int) ∧ f 6 = .map (some mb) ∧ f 7 = .int .i64 S.looked ∧ CI w1 cb kb mb S k wr) len2 ⟨0, mb0, CS.new, rfl, rfl, rfl, rfl, HCI.out⟩ (by kernel_rfl) ?_
  intro n f wr hrel J K hJ hK
  dsimp only [mixF, mskO]
  generalize f 8 = f8 at hrel ⊢
  generalize f 6 = f6 at hrel ⊢
  generalize f 7 = f7 at hrel ⊢
  obtain ⟨k, mb, S, hnk, rfl, rfl, rfl, hci⟩ := hrel
  have HN := Lib.hid hnk
  have HC := Lib.hid hci
  clear hnk hci HCI
  have hkl : k ≤ len2 := by have := HN.out; omega
  by_cases hlt : k < len2
  · have HBR := Lib.hid (HB1.out.trans (HC.out.bel.mono HB1.out.size))
    obtain ⟨b, off, x, rfl, hB, hx, hwf, x0, x1, x2, x3, x4⟩ := (HL.out.below HBR.out).get hlt
    obtain ⟨al, no, xn, clr, oth⟩ := x
    dsimp only at x0 x1 x2 x3 x4
    have i1 : (0 : Int) ≤ (k : Int) := by omega
    have i2 : (k : Int) < (len2 : Int) := by omega
    have HWF := Lib.hid hwf
    have hbX : Below wr.heap.size wr (wr.alloc (.cells #[.int .u32 al, .int .u32 no, .int .i64 xn, .bool clr, .bool oth] 69)) := (Below.refl _ _).alloc (Nat.le_refl _) _
    have hX := heap_alloc_new wr (.cells #[.int .u32 al, .int .u32 no, .int .i64 xn, .bool clr, .bool oth] 69)
    have HX := Lib.hid hX
    have HCX := Lib.hid (HC.out.below hbX)
    have y3 := cell_at hX 3
    simp at y3
    clear hwf hbX hX hx HC
    go_upto_if 45 with (fail)
    generalize wr.alloc (.cells #[.int .u32 al, .int .u32 no, .int .i64 xn, .bool clr, .bool oth] 69) = V at *
    generalize wr.heap.size = xb at *
    clear x0 x1 x2 x3 x4 y3
    refine wp_cut_f mskC (fun f wx => ∃ (mb' : Nat) (S' : CS), f 6 = .map (some mb') ∧ S'.looked = S.looked ∧ CI w1 cb kb mb' S' k wx ∧ wx.heap[xb]? = some (.cells #[.int .u32 al, .int .u32 no, .int .i64 xn, .bool clr, .bool oth] 69 (0, 0))) ?_ ?_
    · intro f wc hcut
      dsimp only [mixF, mskC]
      generalize f 6 = f6 at hcut ⊢
      obtain ⟨mb1, S1, rfl, hlk, hci, hxa⟩ := hcut
      have HC1 := Lib.hid hci
      have HX1 := Lib.hid hxa
      have x2 := cell_at hxa 2
      simp at x2
      have hxl := lt_some hxa
      clear hci hxa HX HCX
      go_upto_region 15 with (fail)
      refine wp_cut_f mskN (fun f wx => ∃ N : Nat, N ≤ sn ∧ f 10 = .int .i64 (N : Int) ∧ wx = wc) ?_ ?_
      · intro f wc2 hcut
        dsimp only [mixF, mskN]
        generalize f 10 = f10 at hcut ⊢
        obtain ⟨N, hN, rfl, rfl⟩ := hcut
        have HR0 := Lib.hid (RI.start (x := ⟨al, no, xn, clr, oth⟩) HX1.out)
        have HC2 := Lib.hid (And.intro HC1.out hlk)
        obtain ⟨L, hL⟩ : ∃ L, askSets oth 0 (sets.take N) = L := ⟨_, rfl⟩
        have hLL : L.length = N := by rw [← hL, askSets_len, List.length_take, (HS.out).1]; omega
        have HLL := Lib.hid hLL
        have HLG : Hid (∀ (j : Nat) (s : Int), j < N → sets[j]? = some s → L[j]? = some (setAt oth j s)) := Lib.hid (fun j s hj hs => by
          have := askSets_get oth 0 (sets.take N) j s (by rw [List.getElem?_take, if_pos hj]; exact hs)
          rw [hL, Nat.zero_add] at this
          exact this)
        have HLO : Hid (setsOk L) := Lib.hid (by rw [← hL]; exact askSets_ok oth 0 _ (fun s hs => HOK.out s (List.mem_of_mem_take hs)))
        clear x2 hL hLL HC1 hlk
        go_wp2_with fail
        generalize ((wc2.alloc (.cells #[] 25)).alloc (.cells #[] 28)).alloc (.cells #[] 3) = W5 at *
        refine wp_loop_f mskL (fun n f wr => ∃ (j : Nat) (la : Option Addr) (lc : Nat) (ma : Option Addr) (mc : Nat) (ta : Option Addr) (tn tc : Nat), n + j = N ∧ f 14 = .int .i64 (j : Int) ∧ f 11 = .slice la j lc ∧ f 12 = .slice ma j mc ∧ f 13 = .slice ta tn tc ∧ tn ≤ j ∧ RI wc2 xb ⟨al, no, xn, clr, oth⟩ la j lc ma j mc ta tn tc (L.take j) (L.take j) (tabsGo al no 0 (L.take j)) wr) N ⟨0, _, _, _, _, _, _, _, rfl, rfl, rfl, rfl, rfl, Nat.le_refl _, HR0.out⟩ (by kernel_rfl) ?_
        intro n2 f wq hrel2 J2 K2 hJ2 hK2
        dsimp only [mixF, mskL]
        generalize f 14 = f14 at hrel2 ⊢
        generalize f 11 = f11 at hrel2 ⊢
        generalize f 12 = f12 at hrel2 ⊢
        generalize f 13 = f13 at hrel2 ⊢
        obtain ⟨j, la, lc, ma, mc, ta, tn, tc, hnj, rfl, rfl, rfl, rfl, htn, hri⟩ := hrel2
        have HNJ := Lib.hid hnj
        have HR := Lib.hid hri
        have hjN : j ≤ N := by omega
        clear hnj hri HR0
        by_cases hjlt : j < N
        · have HBQ := Lib.hid (HB1.out.trans ((HC2.out.1.bel.trans (HR.out.bel.mono HC2.out.1.bel.size)).mono HB1.out.size))
          obtain ⟨sb, so, s0, rfl, hsB, hs0, e0⟩ := (HS.out.below HBQ.out).get (k := j) (by omega)
          have HLJ := Lib.hid (HLG.out j s0 hjlt hs0)
          obtain ⟨hs00, hs01⟩ := HOK.out s0 (List.mem_of_getElem? hs0)
          obtain ⟨x0, x1, x2, x3, x4, hxq⟩ := HR.out.cells
          have j1 : (0 : Int) ≤ (j : Int) := by omega
          have j2 : (j : Int) < (sn : Int) := by omega
          have j3 : (j : Int) < (N : Int) := by omega
          clear hs0
          dsimp only at x0 x1 x2 x3 x4
          go_upto_region 23 with (fail)
          refine wp_cut_f mskT (fun f wx => f 75 = .bool (oth && decide (j = 0)) ∧ wx = wq) ?_ ?_
          · intro f wc3 hcut
            dsimp only [mixF, mskT]
            generalize f 75 = f75 at hcut ⊢
            obtain ⟨rfl, rfl⟩ := hcut
            obtain ⟨ob, hob⟩ : ∃ ob, (oth && decide (j = 0)) = ob := ⟨_, rfl⟩
            rw [hob]
            have hst : setAt oth j s0 = if ob = true then xor2 s0 else s0 := by
              unfold setAt
              rw [← hob]
              simp
            rw [hst] at HLJ
            clear hob hst
            go_upto_if 75 with (fail)
            refine wp_cut_f mskX (fun f wx => f 15 = .int .u32 (if ob = true then xor2 s0 else s0) ∧ wx = wc3) ?_ ?_
            · intro f wc4 hcut
              dsimp only [mixF, mskX]
              generalize f 15 = f15 at hcut ⊢
              obtain ⟨rfl, rfl⟩ := hcut
              generalize (if ob = true then xor2 s0 else s0) = s at HLJ ⊢
              obtain ⟨hsb0, hsb1⟩ := HLO.out s (List.mem_of_getElem? HLJ.out)
              have HTK := Lib.hid (take_snoc HLJ.out)
              have HA1 := Lib.hid (HR.out.below ((Below.refl _ wc4).alloc (Nat.le_refl _) (.cells #[.int .u32 s] 25)))
              have HBS : Hid (wc2.heap.size ≤ (wc4.alloc (.cells #[.int .u32 s] 25)).heap.size) := Lib.hid HA1.out.bel.size
              have hmx : j + 1 ≤ 1000 := by omega
              clear x0 x1 x2 x3 x4 e0 HR
              go_wp2_with (at_builtin; refine wpList_append_own _ rfl (.tmp 78) (.tmp 80) 63 rfl wc2.heap.size 25 iu (.int .u32 0) 1 4 Tryz.underlying63 hiu hzu0 hzu1 hzu2 rfl (by decide) (.slice la j lc) j _ rfl HA1.out.lrow ⟨wc4.heap.size, 0, none⟩ 1 1 [.int .u32 s] rfl rfl (cell_one_new _ _ _) (ints_oneCell .u32 [s]) (by unfold maxLen; omega) (by omega) HBS.out ?_)
              intro v' w6 hown6 hg6 _
              obtain ⟨va6, vc6, hv6⟩ := ownsRow_slice hown6
              rw [hv6] at hown6 ⊢
              clear hv6
              have HR6 := Lib.hid (HA1.out.pushL (by rw [List.map_take]; exact hown6) hg6)
              have HA2 := Lib.hid (HR6.out.below ((Below.refl _ w6).alloc (Nat.le_refl _) (.cells #[.int .u32 s] 28)))
              have HBS2 : Hid (wc2.heap.size ≤ (w6.alloc (.cells #[.int .u32 s] 28)).heap.size) := Lib.hid HA2.out.bel.size
              clear hown6 hg6 HA1 HBS HR6
              go_wp2_with (at_builtin; refine wpList_append_own _ rfl (.tmp 82) (.tmp 84) 71 rfl wc2.heap.size 28 ig (.int .u32 0) 1 4 Tryz.underlying71 hig hzg0 hzg1 hzg2 rfl (by decide) (.slice ma j mc) j _ rfl HA2.out.mrow ⟨w6.heap.size, 0, none⟩ 1 1 [.int .u32 s] rfl rfl (cell_one_new _ _ _) (ints_oneCell .u32 [s]) (by unfold maxLen; omega) (by omega) HBS2.out ?_)
              intro v' w7 hown7 hg7 _
              obtain ⟨va7, vc7, hv7⟩ := ownsRow_slice hown7
              rw [hv7] at hown7 ⊢
              clear hv7
              have HR7 := Lib.hid (HA2.out.pushM (by rw [List.map_take]; exact hown7) hg7)
              obtain ⟨x0, x1, x2, x3, x4, hxq⟩ := HR7.out.cells
              dsimp only at x0 x1 x2 x3 x4
              have HMT := Lib.hid (match20_any al no s w7 HWF.out.1 HWF.out.2 ⟨hsb0, hsb1⟩)
              obtain ⟨r, hr⟩ : ∃ r, matchB al no s = r := ⟨_, rfl⟩
              rw [hr] at HMT
              have HTN := Lib.hid (take_next HLJ.out al no)
              have hTN2 := HTN.out
              rw [hr] at hTN2
              have HTN2 := Lib.hid hTN2
              clear hown7 hg7 HA2 HBS2 hr hTN2 HTN
              go_wp2_with fail
              refine HMT.out.mono ?_
              rintro e w8 ⟨rfl, hb8⟩
              have HR8 := Lib.hid (HR7.out.below hb8)
              clear hb8 x0 x1 x2 x3 x4 hxq HMT HR7
              cases r
              · go_wp2_with fail
                refine Handed.intro (n2 - 1) (by have := HNJ.out; omega) (hJ2 _ _ _ ?_ (by kernel_rfl))
                exact ⟨j + 1, _, _, _, _, _, _, _, by have := HNJ.out; omega, by go_num, rfl, rfl, rfl, by omega, by rw [HTN2.out, if_neg (by simp), HTK.out]; exact HR8.out⟩
              · have HA3 := Lib.hid (HR8.out.below ((Below.refl _ w8).alloc (Nat.le_refl _) (.cells #[.int .i64 (j : Int)] 3)))
                have HBS3 : Hid (wc2.heap.size ≤ (w8.alloc (.cells #[.int .i64 (j : Int)] 3)).heap.size) := Lib.hid HA3.out.bel.size
                go_wp2_with (at_builtin; refine wpList_append_own _ rfl (.tmp 92) (.tmp 94) 72 rfl wc2.heap.size 3 i0 (.int .i64 0) 1 8 Tryz.underlying72 hi hz0 hz1 hz2 rfl (by decide) (.slice ta tn tc) tn _ rfl HA3.out.trow ⟨w8.heap.size, 0, none⟩ 1 1 [.int .i64 (j : Int)] rfl rfl (cell_one_new _ _ _) (ints_oneCell .i64 [(j : Int)]) (by unfold maxLen; omega) (by omega) HBS3.out ?_)
                intro v' w9 hown9 hg9 _
                obtain ⟨va9, vc9, hv9⟩ := ownsRow_slice hown9
                rw [hv9] at hown9 ⊢
                clear hv9
                have HR9 := Lib.hid (HA3.out.pushT hown9 hg9)
                clear hown9 hg9 HA3 HBS3 HR8
                go_wp2_with fail
                refine Handed.intro (n2 - 1) (by have := HNJ.out; omega) (hJ2 _ _ _ ?_ (by kernel_rfl))
                exact ⟨j + 1, _, _, _, _, _, _, _, by have := HNJ.out; omega, by go_num, rfl, rfl, rfl, by omega, by rw [HTN2.out, if_pos (by simp), HTK.out]; exact HR9.out⟩
            · intro J4 K4 hJ4 hK4
              cases ob
              · go_wp2_with fail
                refine Met.intro (hJ4 _ _ ?_ (by kernel_rfl))
                exact ⟨rfl, rfl⟩
              · go_wp2_with fail
                refine Met.intro (hJ4 _ _ ?_ (by kernel_rfl))
                exact ⟨rfl, rfl⟩
          · intro J4 K4 hJ4 hK4
            cases oth
            · go_wp2_with fail
              refine Met.intro (hJ4 _ _ ?_ (by kernel_rfl))
              exact ⟨rfl, rfl⟩
            · by_cases hj0 : j = 0
              · subst hj0
                go_wp2_with fail
                refine Met.intro (hJ4 _ _ ?_ (by kernel_rfl))
                exact ⟨rfl, rfl⟩
              · have hjj : ((j : Int) == 0) = false := by simp; omega
                have HJ0 := Lib.hid hj0
                clear hj0
                go_wp2_with fail
                refine Met.intro (hJ4 _ _ ?_ (by kernel_rfl))
                exact ⟨by simp [HJ0.out]; rfl, rfl⟩
        · obtain rfl : j = N := by omega
          rw [List.take_of_length_le (by rw [HLL.out]; exact Nat.le_refl _)] at HR
          have HCQ := Lib.hid (HC2.out.1.below HR.out.bel)
          obtain ⟨x0, x1, x2, x3, x4, hxq⟩ := HR.out.cells
          dsimp only at x0 x1 x2 x3 x4
          obtain ⟨oa, on, oc, hlk, hol, hon, hor⟩ := HCQ.out.saw.look HWF.out
          have HOL := Lib.hid hol
          have HOR := Lib.hid hor
          dsimp only [AskD.q] at hlk
          obtain ⟨old, hold⟩ : ∃ old, S1.old (al, no) = old := ⟨_, rfl⟩
          rw [show S1.old ((⟨al, no, xn, clr, oth⟩ : AskD).q) = old from hold] at HOL HOR
          have HOLD := Lib.hid hold
          clear hol hor hold
          go_upto_block 4 with (fail)
          refine wp_cut_f mskF (fun f wx => f 17 = .bool (frontB old L) ∧ Below wq.heap.size wq wx) ?_ ?_
          · intro f wc5 hcut
            dsimp only [mixF, mskF]
            generalize f 17 = f17 at hcut ⊢
            obtain ⟨rfl, hb5⟩ := hcut
            obtain ⟨fr, hfr⟩ : ∃ fr, frontB old L = fr := ⟨_, rfl⟩
            have HFR := Lib.hid hfr
            have HR5 := Lib.hid (HR.out.below hb5)
            have HC5 := Lib.hid (HCQ.out.below hb5)
            have hlk2 := HC2.out.2
            have hlkb := HC2.out.1.lk
            rw [hlk2] at hlkb
            obtain ⟨lk, hlkE⟩ : ∃ lk, S.looked = lk := ⟨_, rfl⟩
            rw [hlkE] at hlkb
            have HLK : Hid (S1.looked = lk) := Lib.hid (hlk2.trans hlkE)
            obtain ⟨lk0, lk1'⟩ := hlkb
            have lk1 : lk ≤ 3600 := by omega
            rw [hfr, hlkE]
            clear x0 x1 x2 x3 x4 hxq hlk hb5 hfr hlk2 hlkE
            go_upto_if 130 with (fail)
            refine wp_cut_f mskW (fun f wx => f 7 = .int .i64 (lk + (j : Int) - (if fr = true then (on : Int) else 0)) ∧ wx = wc5) ?_ ?_
            · intro f wc6 hcut
              dsimp only [mixF, mskW]
              generalize f 7 = f7 at hcut ⊢
              obtain ⟨rfl, rfl⟩ := hcut
              obtain ⟨lk2, hlk2⟩ : ∃ lk2, lk + (j : Int) - (if fr = true then (on : Int) else 0) = lk2 := ⟨_, rfl⟩
              rw [hlk2]
              have hk60 : k ≤ 60 := by omega
              have hj60 : j ≤ 60 := by omega
              obtain ⟨w7, hput, hs7, hc7, hO7, hmo⟩ := HC5.out.put HWF.out L HLL.out hj60 (ownsRow_mono HR5.out.lrow (Nat.zero_le _)) hk60
              dsimp only [AskD.q] at hput hs7
              obtain ⟨x0, x1, x2, x3, x4, hxq⟩ := HR5.out.cells
              dsimp only at x0 x1 x2 x3 x4
              have hx7 := hO7.keep HR5.out.ask (fun e => by
                obtain ⟨es, c, hm⟩ := hmo
                have := HR5.out.ask
                rw [e, hm] at this
                cases this)
              have hx71 : w7.cell? ⟨xb, 0, none⟩ = some (.int .u32 al) ∧ w7.cell? ⟨xb, 1, none⟩ = some (.int .u32 no) := ⟨cell_at hx7 0, cell_at hx7 1⟩
              have hx72 := lt_some hx7
              have HM7 := Lib.hid (row_map HR5.out.mrow hO7 hmo)
              have HT7 := Lib.hid (row_map HR5.out.trow hO7 hmo)
              have HS7 := Lib.hid hs7
              have HC7 := Lib.hid hc7
              have HO7 := Lib.hid hO7
              have hTB := tables_any hc7 al no HWF.out L ma j mc (ownsRow_mono HM7.out (Nat.zero_le _)) HLO.out (by omega) (by rw [HLK.out]; exact lk0) (by rw [HLK.out]; omega) (by have := HC5.out.cnt; omega)
              have HTB := Lib.hid hTB
              have HLE : Hid (lk2 = (S1.ask (al, no) L).looked) := Lib.hid (by
                rw [← hlk2]
                show _ = S1.looked + ((L.length : Int) - ((if frontB (S1.old (al, no)) L then (S1.old (al, no)).length else 0 : Nat) : Int))
                rw [HOLD.out, HLK.out, HLL.out, HFR.out, HOL.out]
                split <;> omega)
              clear hs7 hc7 hO7 hmo hx7 hTB hlk2
              go_wp2_with fail
              refine HTB.out.mono ?_
              rintro e w8 ⟨va, m, vc, rfl, ho8, hc8, hO8⟩
              have HT8 := Lib.hid (row_ck HT7.out HC7.out hO8 (by decide))
              have hn8 := HC5.out.next (by rw [HLL.out]; exact hj60) HS7.out HC7.out HO7.out hc8 hO8
              have hmt : m = tn := by
                have h1 := ho8.1
                have h2 := HT8.out.1
                omega
              subst hmt
              have HN8 := Lib.hid hn8
              have HO8 := Lib.hid ho8
              have hlkd := cacheLooked_any hc8
              rw [← HLE.out] at hlkd
              have hlnd := cacheLen_any hc8
              have hlen := fun ty => hn8.saw.len ty
              obtain ⟨cn, hcn⟩ : ∃ cn, (S1.ask (al, no) L).cnt = cn := ⟨_, rfl⟩
              rw [hcn] at hlnd hlen
              have HLD := Lib.hid hlkd
              have HND := Lib.hid hlnd
              clear ho8 hc8 hO8 hn8 hlkd hlnd hcn x0 x1 x2 x3 x4 hxq hx71 hx72 hput HTB HM7 HT7 HS7 HC7 HO7
              go_wp2_with fail
              refine HLD.out.mono ?_
              rintro e w9 ⟨rfl, rfl⟩
              go_wp2_with fail
              refine HND.out.mono ?_
              rintro e w9 ⟨rfl, rfl⟩
              go_wp2_with fail
              refine wp_loop_f mskG (fun n f wr => ∃ i : Nat, n + i = m ∧ f 20 = .int .i64 (i : Int) ∧ Below w8.heap.size w8 wr) m ⟨0, rfl, rfl, Below.refl _ _⟩ (by kernel_rfl) ?_
              intro n4 f wg hrel4 J6 K6 hJ6 hK6
              dsimp only [mixF, mskG]
              generalize f 20 = f20 at hrel4 ⊢
              obtain ⟨i, hni, rfl, hbg⟩ := hrel4
              have HNI := Lib.hid hni
              have HBG := Lib.hid hbg
              have him : i ≤ m := by omega
              clear hni hbg hlen
              by_cases hil : i < m
              · obtain ⟨tq, rfl, _, htql, htqc⟩ := row_block (ownsRow_below HT8.out HBG.out) (by omega)
                obtain ⟨vq, rfl, _, hvql, hvqc⟩ := row_block (ownsRow_below HO8.out HBG.out) (by omega)
                obtain ⟨u, hu⟩ : ∃ u, (tabsGo al no 0 L)[i]? = some u := ⟨_, List.getElem?_eq_getElem (by have := HT8.out.1; rw [List.length_map] at this; omega)⟩
                have u0 := htqc i (.int .i64 u) (by rw [List.getElem?_map, hu]; rfl)
                have v0 := hvqc i (.int .i64 u) (by rw [List.getElem?_map, hu]; rfl)
                have q0 : (0 : Int) ≤ (i : Int) := by omega
                have q1 : (i : Int) < (m : Int) := by omega
                clear htqc hvqc hu
                go_wp2_with fail
                go_quiet (fail)
                go_wp2_with fail
                refine Handed.intro (n4 - 1) (by have := HNI.out; omega) (hJ6 _ _ _ ?_ (by kernel_rfl))
                exact ⟨i + 1, by have := HNI.out; omega, by go_num, below_drewN HBG.out _⟩
              · obtain rfl : i = m := by omega
                have HN9 := Lib.hid (HN8.out.below HBG.out)
                go_wp2_with fail
                refine Handed.intro (n - 1) (by have := HN.out; omega) (hJ _ _ _ ?_ (by kernel_rfl))
                exact ⟨k + 1, mb1, S1.ask (al, no) L, by have := HN.out; omega, by go_num, rfl, by show Value.int .i64 lk2 = _; rw [HLE.out], HN9.out⟩
            · intro J5 K5 hJ5 hK5
              cases fr
              · go_wp2_with fail
                refine Met.intro (hJ5 _ _ ?_ (by kernel_rfl))
                exact ⟨by simp; rfl, rfl⟩
              · go_wp2_with fail
                refine Met.intro (hJ5 _ _ ?_ (by kernel_rfl))
                exact ⟨rfl, rfl⟩
          · intro J4 K4 hJ4 hK4
            go_wp2_with fail
            refine wp_loop_f mskF (fun n f wr => ∃ i : Nat, f 18 = .int .i64 (i : Int) ∧ Below wq.heap.size wq wr ∧ ((f 17 = .bool true ∧ on ≤ j ∧ i ≤ on ∧ n + i = on + 1 ∧ old.take i = L.take i) ∨ (f 17 = .bool false ∧ n = 0 ∧ frontB old L = false))) (if on ≤ j then on + 1 else 0) ?_ (by kernel_rfl) ?_
            · refine ⟨0, rfl, Below.refl _ _, ?_⟩
              by_cases hle : on ≤ j
              · rw [if_pos hle]
                exact .inl ⟨by show Value.bool (decide _) = _; rw [decide_eq_true (by omega)], hle, Nat.zero_le _, rfl, rfl⟩
              · rw [if_neg hle]
                refine .inr ⟨by show Value.bool (decide _) = _; rw [decide_eq_false (by omega)], rfl, ?_⟩
                unfold frontB
                rw [HOL.out, HLL.out, decide_eq_false hle]; rfl
            · intro n3 f wf hrel3 J5 K5 hJ5 hK5
              dsimp only [mixF, mskF]
              generalize f 17 = f17 at hrel3 ⊢
              generalize f 18 = f18 at hrel3 ⊢
              obtain ⟨i, rfl, hbf, hor⟩ := hrel3
              have HBF := Lib.hid hbf
              clear hbf x0 x1 x2 x3 x4
              rcases hor with ⟨rfl, hle, hion, hni, htk⟩ | ⟨rfl, hn0, hfr⟩
              · by_cases hi : i < on
                · have hRF := HR.out.below HBF.out
                  obtain ⟨lq, rfl, _, hlql, hlqc⟩ := row_block hRF.lrow (by omega)
                  obtain ⟨oq, rfl, _, hoql, hoqc⟩ := row_block (ownsRow_below HOR.out HBF.out) (by omega)
                  obtain ⟨u, hu⟩ : ∃ u, old[i]? = some u := ⟨_, List.getElem?_eq_getElem (by rw [HOL.out]; exact hi)⟩
                  obtain ⟨v, hv⟩ : ∃ v, L[i]? = some v := ⟨_, List.getElem?_eq_getElem (by rw [HLL.out]; omega)⟩
                  have u0 := hoqc i (.int .u32 u) (by rw [List.getElem?_map, hu]; rfl)
                  have v0 := hlqc i (.int .u32 v) (by rw [List.getElem?_map, hv]; rfl)
                  have q0 : (0 : Int) ≤ (i : Int) := by omega
                  have q1 : (i : Int) < (on : Int) := by omega
                  have q2 : (i : Int) < (j : Int) := by omega
                  have HU := Lib.hid hu
                  have HVV := Lib.hid hv
                  have HTKO := Lib.hid htk
                  have HNI := Lib.hid hni
                  clear hRF hlqc hoqc hu hv htk hni
                  go_wp2_with fail
                  go_quiet (fail)
                  go_wp2_with fail
                  by_cases huv : u = v
                  · subst huv
                    refine Handed.intro (n3 - 1) (by have := HNI.out; omega) (hJ5 _ _ _ ?_ (by kernel_rfl))
                    exact ⟨i + 1, by go_num, below_drewN HBF.out _, .inl ⟨by show Value.bool (u == u) = _; simp, hle, by omega, by have := HNI.out; omega, by rw [take_snoc HU.out, take_snoc HVV.out, HTKO.out]⟩⟩
                  · refine Handed.intro 0 (by have := HNI.out; omega) (hJ5 _ _ _ ?_ (by kernel_rfl))
                    refine ⟨i + 1, by go_num, below_drewN HBF.out _, .inr ⟨by show Value.bool (u == v) = _; simp [huv], rfl, ?_⟩⟩
                    cases hfr : frontB old L with
                    | false => rfl
                    | true =>
                      obtain ⟨r, hr⟩ := frontB_eq hfr
                      have h1 := HVV.out
                      rw [hr, List.getElem?_append_left (by rw [HOL.out]; exact hi), HU.out] at h1
                      exact absurd (Option.some.inj h1) huv
                · obtain rfl : i = on := by omega
                  have HFR : Hid (frontB old L = true) := Lib.hid (by
                    rw [List.take_of_length_le (by rw [HOL.out]; exact Nat.le_refl _)] at htk
                    unfold frontB
                    rw [HOL.out, HLL.out, decide_eq_true hle, ← htk]
                    simp)
                  clear htk hni
                  go_wp2_with fail
                  refine Met.intro (hJ4 _ _ ?_ (by kernel_rfl))
                  exact ⟨by rw [HFR.out]; rfl, HBF.out⟩
              · have HN0 := Lib.hid hn0
                have HFR := Lib.hid hfr
                clear hn0 hfr
                go_wp2_with fail
                refine Met.intro (hJ4 _ _ ?_ (by kernel_rfl))
                exact ⟨by rw [HFR.out]; rfl, HBF.out⟩
      · intro J3 K3 hJ3 hK3
        obtain ⟨N, hN, hNe⟩ := askN_bd xn sn (by omega)
        have HNE := Lib.hid hNe
        clear hNe
        go_wp2_with fail
        refine Met.intro (hJ3 _ _ ?_ (by kernel_rfl))
        exact ⟨N, hN, by show Value.int .i64 _ = _; rw [HNE.out], rfl⟩
    · intro J3 K3 hJ3 hK3
      cases clr
      · go_wp2_with fail
        refine Met.intro (hJ3 _ _ ?_ (by kernel_rfl))
        exact ⟨mb, S, rfl, rfl, HCX.out, HX.out⟩
      · have hcl := cacheClear_any HCX.out.cache
        go_wp2_with fail
        refine hcl.mono ?_
        rintro e w5 ⟨rfl, hc5, ho5⟩
        have HC5 := Lib.hid (HCX.out.clear hc5 ho5)
        have hne : xb ≠ kb := fun e => by
          obtain ⟨f', hf', _⟩ := HCX.out.cache.map
          obtain ⟨es, c, he⟩ := hf'.obj
          have := HX.out
          rw [e, he] at this
          cases this
        have HX5 := Lib.hid (keepA (.map #[] 0) (keepO ho5 HX.out hne))
        clear hcl hc5 ho5 hne
        go_wp2_with fail
        refine Met.intro (hJ3 _ _ ?_ (by kernel_rfl))
        exact ⟨_, ⟨fun _ => none, 0, S.looked⟩, rfl, rfl, HC5.out, HX5.out⟩
  · obtain rfl : k = len2 := by omega
    have HF := Lib.hid (HB1.out.trans (HC.out.bel.mono HB1.out.size))
    have hc0 := cacheClear_nil wr
    have hc1 := cacheLooked_nil wr
    have hc2 := cacheLen_nil wr
    have hrow : (wr.alloc (.cells #[.int .u32 2, .int .u32 4] 28)).ownsRow 0 28 1 (.slice (some ⟨wr.heap.size, 0, none⟩) 2 2) 2 (([2, 4] : List Int).map (.int .u32)) := row_lit rfl (by decide)
    have HT := Lib.hid (cacheTables_nil 0 0 ⟨⟨by decide, by decide⟩, by decide, by decide⟩ [2, 4] _ 2 2 hrow (by intro s hs; simp at hs; omega) (by decide))
    have HBA : Hid (Below wr.heap.size wr (wr.alloc (.cells #[.int .u32 2, .int .u32 4] 28))) := Lib.hid ((Below.refl _ _).alloc (Nat.le_refl _) _)
    clear hrow
    go_wp2_with fail
    refine hc0.mono ?_
    rintro e w5 ⟨rfl, rfl⟩
    go_wp2_with fail
    refine hc1.mono ?_
    rintro e w5 ⟨rfl, rfl⟩
    go_wp2_with fail
    refine hc2.mono ?_
    rintro e w5 ⟨rfl, rfl⟩
    clear hc0 hc1 hc2
    go_wp2_with fail
    refine HT.out.mono ?_
    rintro e w6 ⟨va, m, vc, rfl, hm, hb6⟩
    have HBF := Lib.hid (HF.out.trans ((HBA.out.trans (hb6.mono HBA.out.size)).mono HF.out.size))
    have hm2 : m = 2 := hm.trans (by kernel_rfl)
    subst hm2
    clear hb6 hm
    go_wp2_with fail
    go_returns
    exact ⟨rfl, HBF.out⟩
end Go.Proofs.YtgebbmfoamkfnaaGreatDoor
