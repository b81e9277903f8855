/- CmdOrder: keys in memory, a buffer that fills, a row of commands, who was met. -/
import Derived.Test.YtnhlnnehpmjeiaaGreatDoorQ18
import Derived.Test.YtnhlnnehpmjeiaaGreatDoorQ35
import Derived.Laws.StructEq
import Derived.Laws.Tables
import Derived.Deep.WholeRow
namespace Go.Proofs.YtnhlnnehpmjeiaaGreatDoor
open Go.RowKit
set_option linter.unusedVariables false
theorem wrapI_small {n : Int} (h0 : 0 ≤ n) (h1 : n < 9223372036854775808) : IntKind.i64.wrap n = n := by rw [IntKind.wrap_i64]; omega
theorem wrapU_small {n : Int} (h0 : 0 ≤ n) (h1 : n < 18446744073709551616) : IntKind.u64.wrap n = n := by rw [IntKind.wrap_u64]; omega
/-- Keys that lie below block B. -/
def KeysAt (B : Nat) (w : World) (a : Option Addr) (len : Nat) (K : List KY) : Prop :=
  K.length = len ∧ len ≤ maxLen ∧ (∀ k ∈ K, k.wf) ∧ (len = 0 ∨ ∃ b off, a = some ⟨b, off, none⟩ ∧ b < B ∧ ∀ (i : Nat) (k : KY), K[i]? = some k →
    w.cell? ⟨b, off + i * 4, none⟩ = some (.int .i64 k.st) ∧ w.cell? ⟨b, off + i * 4 + 1, none⟩ = some (.int .i64 k.sy) ∧ w.cell? ⟨b, off + i * 4 + 2, none⟩ = some (.int .i64 k.id) ∧ w.cell? ⟨b, off + i * 4 + 3, none⟩ = some (.int .i64 k.sq))
theorem KeysAt.below {B : Nat} {w w' : World} {a : Option Addr} {len : Nat} {K : List KY} (h : KeysAt B w a len K) (hb : Below B w w') : KeysAt B w' a len K := by
  obtain ⟨h1, h2, h3, h4⟩ := h
  refine ⟨h1, h2, h3, ?_⟩
  rcases h4 with h4 | ⟨b, off, ha, hB, hc⟩
  · exact .inl h4
  · refine .inr ⟨b, off, ha, hB, fun i k hk => ?_⟩
    obtain ⟨c0, c1, c2, c3⟩ := hc i k hk
    exact ⟨(hb.cell (p := ⟨b, off + i * 4, none⟩) hB).trans c0, (hb.cell (p := ⟨b, off + i * 4 + 1, none⟩) hB).trans c1, (hb.cell (p := ⟨b, off + i * 4 + 2, none⟩) hB).trans c2, (hb.cell (p := ⟨b, off + i * 4 + 3, none⟩) hB).trans c3⟩
theorem KeysAt.get {B : Nat} {w : World} {a : Option Addr} {len : Nat} {K : List KY} (h : KeysAt B w a len K) {i : Nat} (hi : i < len) :
    ∃ b off k, a = some ⟨b, off, none⟩ ∧ b < B ∧ K[i]? = some k ∧ k.wf ∧ w.cell? ⟨b, off + i * 4, none⟩ = some (.int .i64 k.st) ∧ w.cell? ⟨b, off + i * 4 + 1, none⟩ = some (.int .i64 k.sy) ∧ w.cell? ⟨b, off + i * 4 + 2, none⟩ = some (.int .i64 k.id) ∧ w.cell? ⟨b, off + i * 4 + 3, none⟩ = some (.int .i64 k.sq) := by
  obtain ⟨h1, h2, h3, h4⟩ := h
  rcases h4 with h4 | ⟨b, off, ha, hB, hc⟩
  · omega
  · have hl : i < K.length := by omega
    exact ⟨b, off, K[i], ha, hB, List.getElem?_eq_getElem hl, h3 _ (List.getElem_mem hl), hc i _ (List.getElem?_eq_getElem hl)⟩
/-- Keys are held against each other. -/
theorem key_eql (x y : KY) (a : Act) (p q : Operand) (d : Option Tmp) (ty : TypeId) (pos : String) (af : Array Edge) (gd : Option (Nat × Bool)) (w : World) (h1 : a.eval p = x.v) (h2 : a.eval q = y.v) :
    (execOp a.eval { dst := d, op := .binOp .eql 27 p q 27, type := ty, pos := pos, after := af, guard := gd }).run Tryz.prog w = .ok (.value (.bool (decide (x = y)))) w := by
  obtain ⟨x0, x1, x2, x3⟩ := x
  obtain ⟨y0, y1, y2, y3⟩ := y
  unfold KY.v at h1 h2
  dsimp only at h1 h2
  by_cases e0 : x0 = y0
  · by_cases e1 : x1 = y1
    · by_cases e2 : x2 = y2
      · by_cases e3 : x3 = y3
        · subst e0; subst e1; subst e2; subst e3
          have g : decide ((⟨x0, x1, x2, x3⟩ : KY) = ⟨x0, x1, x2, x3⟩) = true := decide_eq_true rfl
          rw [g]
          unfold execOp
          simp only [h1, h2]
          go_simp
        · have g : decide ((⟨x0, x1, x2, x3⟩ : KY) = ⟨y0, y1, y2, y3⟩) = false := decide_eq_false (fun h => e3 (congrArg KY.sq h))
          have f3 : (x3 == y3) = false := by simpa using e3
          subst e0; subst e1; subst e2
          rw [g]
          unfold execOp
          simp only [h1, h2]
          go_simp
      · have g : decide ((⟨x0, x1, x2, x3⟩ : KY) = ⟨y0, y1, y2, y3⟩) = false := decide_eq_false (fun h => e2 (congrArg KY.id h))
        have f2 : (x2 == y2) = false := by simpa using e2
        subst e0; subst e1
        rw [g]
        unfold execOp
        simp only [h1, h2]
        go_simp
    · have g : decide ((⟨x0, x1, x2, x3⟩ : KY) = ⟨y0, y1, y2, y3⟩) = false := decide_eq_false (fun h => e1 (congrArg KY.sy h))
      have f1 : (x1 == y1) = false := by simpa using e1
      subst e0
      rw [g]
      unfold execOp
      simp only [h1, h2]
      go_simp
  · have g : decide ((⟨x0, x1, x2, x3⟩ : KY) = ⟨y0, y1, y2, y3⟩) = false := decide_eq_false (fun h => e0 (congrArg KY.st h))
    have f0 : (x0 == y0) = false := by simpa using e0
    rw [g]
    unfold execOp
    simp only [h1, h2]
    go_simp
/-- A buffer in which n wait, of keys and numbers P. -/
def BufL (b n : Nat) (P : List (KY × Int)) (w : World) (fa : Option Addr) (fc : Nat) (its : List IT) : Prop := QMem w (bufQ b 64 (n : Int) fa fc its) ∧ (its.map IT.p).Perm P ∧ HeapI its its.length ∧ ∀ z ∈ its, z.wf ∧ z.kind = 2 ∧ z.comp = 0
def BufI (b n : Nat) (P : List (KY × Int)) (w : World) : Prop := ∃ fa fc its, BufL b n P w fa fc its
theorem BufI.below {b n : Nat} {P : List (KY × Int)} {w w' : World} (h : BufI b n P w) (hb : Below w.heap.size w w') : BufI b n P w' := by
  obtain ⟨fa, fc, its, h1, h2⟩ := h
  exact ⟨fa, fc, its, h1.below hb, h2⟩
/-- Another buffer's deeds. -/
theorem BufI.apart {b b2 n : Nat} {P : List (KY × Int)} {w w' : World} (h : BufI b n P w) (ho : Out (fun q => q = b2) w w') (hn : b ≠ b2) {cs : Array Value} (hb : w.heap[b2]? = some (.cells cs 62 (0, 0))) : BufI b n P w' := by
  obtain ⟨fa, fc, its, h1, h2⟩ := h
  refine ⟨fa, fc, its, h1.out ho (fun q hq hf => ?_), h2⟩
  rcases hq with hq | hq
  · exact hn ((show q = b from hq).symm.trans hf)
  · obtain ⟨cur, h3⟩ := row_type h1.row hq
    rw [hf, hb] at h3
    injection h3 with h3
    injection h3 with _ h3 _
    exact absurd h3 (by decide)
/-- It fills: since w0 nothing else has changed. -/
def BufS (w0 : World) (b n : Nat) (P : List (KY × Int)) (w : World) : Prop := ∃ fa fc its, BufL b n P w fa fc its ∧ (∀ q, (bufQ b 64 (n : Int) fa fc its).foot q → q = b ∨ w0.heap.size ≤ q) ∧ Out (fun q => q = b) w0 w
theorem BufS.i {w0 w : World} {b n : Nat} {P : List (KY × Int)} (h : BufS w0 b n P w) : BufI b n P w := by
  obtain ⟨fa, fc, its, h1, _⟩ := h
  exact ⟨fa, fc, its, h1⟩
theorem BufS.o {w0 w : World} {b n : Nat} {P : List (KY × Int)} (h : BufS w0 b n P w) : Out (fun q => q = b) w0 w := by
  obtain ⟨fa, fc, its, _, _, h1⟩ := h
  exact h1
theorem BufS.perm {w0 w : World} {b n : Nat} {P Q : List (KY × Int)} (h : BufS w0 b n P w) (hp : P.Perm Q) : BufS w0 b n Q w := by
  obtain ⟨fa, fc, its, ⟨h1, h2, h3, h4⟩, h5⟩ := h
  exact ⟨fa, fc, its, ⟨h1, h2.trans hp, h3, h4⟩, h5⟩
theorem BufS.below {w0 w w' : World} {b n : Nat} {P : List (KY × Int)} (h : BufS w0 b n P w) (hb : Below w.heap.size w w') : BufS w0 b n P w' := by
  obtain ⟨fa, fc, its, ⟨h1, h2, h3, h4⟩, h5, h6⟩ := h
  exact ⟨fa, fc, its, ⟨h1.below hb, h2, h3, h4⟩, h5, h6.trans (Out.of hb : Out (fun _ => False) w w') (fun _ => False.elim)⟩
theorem BufS.start {w : World} {b : Nat} (h : QMem w (bufQ b 64 0 none 0 [])) : BufS w b 0 [] w := by
  refine ⟨none, 0, [], ⟨h, List.Perm.refl _, fun i _ hi => absurd hi (Nat.not_lt_zero i), fun z hz => by cases hz⟩, fun q hq => ?_, Out.refl _ _⟩
  rcases hq with hq | hq
  · exact .inl hq
  · simp [QD.v, bufQ, Value.ownBlock] at hq
theorem buf_push {w0 w : World} {b n : Nat} {P : List (KY × Int)} (h : BufS w0 b n P w) (hn : P.length = n) (hl : n < 64) (k : KY) (hk : k.wf) (ent : Int) :
    Calls Tryz.prog 7 #[.pointer (some ⟨b, 0, none⟩), .agg #[.int .i64 k.st, .int .i64 k.sy, .int .i64 k.id, .int .i64 k.sq], .agg #[.int .i64 2, .int .u64 ent, .int .i64 0, .slice none 0 0]] w fun e w' => e = .returned (.int .i64 0) ∧ BufS w0 b (n + 1) (P ++ [(k, ent)]) w' := by
  obtain ⟨fa, fc, its, ⟨h1, h2, h3, h4⟩, h5, h6⟩ := h
  have hll := h2.length_eq
  rw [List.length_map] at hll
  refine (bufPush_any w h1 k 2 ent 0 (by omega) (by decide) (by omega) (by omega) (fun z hz => (h4 z hz).1) hk h3).mono ?_
  rintro e w' ⟨rfl, fa', fc', l, hst, hp, hh⟩
  have hi : inI (n : Int) := by unfold inI; omega
  refine ⟨rfl, fa', fc', l, ⟨hst.mem, ?_, hh, fun z hz => ?_⟩, fun q hq => ?_, h6.trans hst.out h5⟩
  · refine (hp.map IT.p).trans ?_
    rw [List.map_cons]
    exact (h2.cons _).trans (List.perm_append_singleton _ _).symm
  · rcases List.mem_cons.1 (hp.mem_iff.1 hz) with rfl | hz
    · exact ⟨⟨hk, hi⟩, rfl, rfl⟩
    · exact h4 z hz
  · rcases hst.foot q hq with hq | hq
    · exact h5 q hq
    · exact .inr (Nat.le_trans h6.size hq)
/-- The row of commands of keys and numbers. -/
def rowK (P : List (KY × Int)) : List Value := P.flatMap fun p => [.int .i64 2, .int .u64 p.2, .int .i64 0, .slice none 0 0]
theorem rowK_of : ∀ {l : List IT}, (∀ z ∈ l, z.kind = 2 ∧ z.comp = 0) → l.flatMap IT.d = rowK (l.map IT.p)
  | [], _ => rfl
  | z :: l, h => by
    have h1 := h z (by simp)
    have h2 := rowK_of (l := l) (fun y hy => h y (by simp [hy]))
    unfold rowK at h2 ⊢
    rw [List.flatMap_cons, List.map_cons, List.flatMap_cons, h2]
    unfold IT.d IT.p
    rw [h1.1, h1.2]
theorem rowK_at : ∀ {P : List (KY × Int)} {i : Nat} {k : KY} {e : Int}, P[i]? = some (k, e) → (rowK P)[i * 4]? = some (.int .i64 2) ∧ (rowK P)[i * 4 + 1]? = some (.int .u64 e) ∧ (rowK P)[i * 4 + 2]? = some (.int .i64 0) ∧ (rowK P)[i * 4 + 3]? = some (.slice none 0 0)
  | [], _, _, _, h => by simp at h
  | p :: P, 0, k, e, h => by
    simp at h
    subst h
    exact ⟨rfl, rfl, rfl, rfl⟩
  | p :: P, i + 1, k, e, h => by
    have := rowK_at (P := P) (i := i) (by simpa using h)
    unfold rowK at this ⊢
    rw [List.flatMap_cons, show (i + 1) * 4 = i * 4 + 4 by omega]
    exact this
/-- The row in memory. -/
def RowAt (n : Nat) (P : List (KY × Int)) (q : Nat) (w : World) : Prop := q < w.heap.size ∧ ∀ (i : Nat) (k : KY) (e : Int), i < n → P[i]? = some (k, e) →
  w.cell? ⟨q, i * 4, none⟩ = some (.int .i64 2) ∧ w.cell? ⟨q, i * 4 + 1, none⟩ = some (.int .u64 e) ∧ w.cell? ⟨q, i * 4 + 2, none⟩ = some (.int .i64 0) ∧ w.cell? ⟨q, i * 4 + 3, none⟩ = some (.slice none 0 0)
theorem RowAt.below {n q : Nat} {P : List (KY × Int)} {w w' : World} (h : RowAt n P q w) (hb : Below w.heap.size w w') : RowAt n P q w' :=
  ⟨Nat.lt_of_lt_of_le h.1 hb.size, fun i k e hi hp => by
    obtain ⟨c0, c1, c2, c3⟩ := h.2 i k e hi hp
    exact ⟨(hb.cell (p := ⟨q, i * 4, none⟩) h.1).trans c0, (hb.cell (p := ⟨q, i * 4 + 1, none⟩) h.1).trans c1, (hb.cell (p := ⟨q, i * 4 + 2, none⟩) h.1).trans c2, (hb.cell (p := ⟨q, i * 4 + 3, none⟩) h.1).trans c3⟩⟩
theorem RowAt.out {n q : Nat} {P : List (KY × Int)} {F : Nat → Prop} {w w' : World} (h : RowAt n P q w) (ho : Out F w w') (hq : ¬ F q) : RowAt n P q w' := by
  have hc : ∀ o, w'.cell? ⟨q, o, none⟩ = w.cell? ⟨q, o, none⟩ := fun o => by
    unfold World.cell?
    rw [ho.block q h.1 hq]
  exact ⟨Nat.lt_of_lt_of_le h.1 ho.size, fun i k e hi hp => by rw [hc, hc, hc, hc]; exact h.2 i k e hi hp⟩
def IsRowK (n : Nat) (P : List (KY × Int)) (a : Option Addr) (w : World) : Prop := n = 0 ∨ ∃ q, a = some ⟨q, 0, none⟩ ∧ RowAt n P q w
theorem IsRowK.below {n : Nat} {a : Option Addr} {P : List (KY × Int)} {w w' : World} (h : IsRowK n P a w) (hb : Below w.heap.size w w') : IsRowK n P a w' := by
  rcases h with h | ⟨q, h1, h2⟩
  · exact .inl h
  · exact .inr ⟨q, h1, h2.below hb⟩
/-- What List answers. -/
theorem buf_list {w : World} {b n : Nat} {K : List KY} (h : BufI b n (numbered K) w) (hn : K.Nodup) (hl : K.length ≤ 60) :
    Calls Tryz.prog 8 #[.pointer (some ⟨b, 0, none⟩)] w fun e w' => ∃ (P : List (KY × Int)) (va : Option Addr) (vc : Nat), e = .returned (.slice va K.length vc) ∧ IsRowK K.length P va w' ∧ Ordered K P ∧ Below w.heap.size w w' := by
  obtain ⟨fa, fc, its, h1, h2, h3, h4⟩ := h
  have hll := h2.length_eq
  rw [List.length_map, numbered_len] at hll
  refine (bufList_any w h1 (fun z hz => (h4 z hz).1) h3 (by omega)).mono ?_
  rintro e w' ⟨out, va, vc, rfl, hown, hp, hs, hb⟩
  have hol : out.length = K.length := hp.length_eq.trans hll
  rw [hol] at hown ⊢
  refine ⟨out.map IT.p, va, vc, rfl, ?_, ordered_of h2 hn (fun y hy => (h4 y hy).1) hp hs, hb⟩
  rw [rowK_of (fun z hz => (h4 z (hp.mem_iff.1 hz)).2)] at hown
  rcases Nat.eq_zero_or_pos K.length with h0 | h0
  · exact .inl h0
  · obtain ⟨q, hq, _, hql, hqc⟩ := row_block hown h0
    refine .inr ⟨q, hq, hql, fun i k e hi hpi => ?_⟩
    obtain ⟨c0, c1, c2, c3⟩ := rowK_at hpi
    exact ⟨hqc _ _ c0, hqc _ _ c1, hqc _ _ c2, hqc _ _ c3⟩
theorem same_row (ent : Int) (w : World) : Calls Tryz.prog 9 #[.agg #[.int .i64 2, .int .u64 ent, .int .i64 0, .slice none 0 0], .agg #[.int .i64 2, .int .u64 ent, .int .i64 0, .slice none 0 0]] w fun e w' => e = .returned (.bool true) ∧ Below w.heap.size w w' :=
  cmdSame_self ⟨⟨0, 0, 0, 0⟩, 0, 2, ent, 0⟩ w
theorem ahead_row (a b : KY) (w : World) (ha : a.wf) (hb : b.wf) (h : a.r < b.r) : Calls Tryz.prog 10 #[.agg #[.int .i64 a.st, .int .i64 a.sy, .int .i64 a.id, .int .i64 a.sq], .agg #[.int .i64 b.st, .int .i64 b.sy, .int .i64 b.id, .int .i64 b.sq]] w fun e w' => e = .returned (.bool true) ∧ Below w.heap.size w w' := by
  have := ahead_any a b w ha hb
  rw [decide_eq_true h] at this
  exact this
/-- Who was met, in memory. -/
def metC (l : List Int) : Array Value := ((metF l 64).map Value.bool).toArray
theorem metC_at {l : List Int} {n : Nat} (h : n < 64) : (metC l)[n]? = some (.bool (decide ((n : Int) ∈ l))) := by
  unfold metC metF
  simp [h]
theorem metC_set {l : List Int} {n : Nat} (h : n < 64) : (metC l).setIfInBounds n (.bool true) = metC (l ++ [(n : Int)]) := by
  apply Array.ext_getElem?
  intro i
  rw [Array.getElem?_setIfInBounds]
  by_cases hi : i < 64
  · rw [metC_at hi, metC_at hi]
    by_cases e : n = i
    · subst e
      rw [if_pos rfl, if_pos (by unfold metC metF; simp [h])]
      simp
    · rw [if_neg e]
      congr 2
      have : (i : Int) ≠ (n : Int) := fun h => e (by omega)
      simp [this]
  · have hs : ∀ l, (metC l)[i]? = none := fun l => by
      unfold metC metF
      simp
      omega
    rw [hs, hs]
    split
    · split
      · rename_i h1 h2
        unfold metC metF at h2
        simp at h2
        omega
      · rfl
    · rfl
section
variable {P : Program} {ops : Array Oper} {rest : List Oper} {o : Oper} {a : Act} {w w' : World} {K : Act → World → Prop} {Q : Exit → Act → World → Prop}
theorem wp_runW {v : Value} (hv : (execOp a.eval o).run P w = .ok (.value v) w') (h : K (a.put o.dst v) w') : o.wp P a w K Q := by
  unfold Oper.wp
  rw [hv]
  exact h
theorem wpList_buildC (hg : o.guard = none) (t : TypeId) (parts : Array (Nat × Operand)) (ho : o.op = .build t parts) (cells : Array Value) (hf : P.built t (parts.map fun (i, x) => (i, a.eval x)).toList = some cells)
    (h : wpList P ops Q rest (a.put o.dst (.agg cells)) w) : wpList P ops Q (o :: rest) a w := by
  refine wpList_build hg t parts ho (by rw [hf]; rfl) ?_
  rw [hf]
  exact h
end
theorem Tryz.info64 : (Tryz.prog.info? 37).map (fun i => (i.zero, i.size)) = some (some (.agg (metC [])), 64) := by kernel_rfl
theorem met_alloc (a : Act) (d : Option Tmp) (ty : TypeId) (pos : String) (af : Array Edge) (gd : Option (Nat × Bool)) (w : World) :
    (execOp a.eval { dst := d, op := .alloc 37, type := ty, pos := pos, after := af, guard := gd }).run Tryz.prog w = .ok (.value (.pointer (some ⟨w.heap.size, 0, none⟩))) (w.alloc (.cells (metC []) 37)) := by
  have hz := (zero_of_info Tryz.info64).1
  unfold execOp
  go_simp
end Go.Proofs.YtnhlnnehpmjeiaaGreatDoor
