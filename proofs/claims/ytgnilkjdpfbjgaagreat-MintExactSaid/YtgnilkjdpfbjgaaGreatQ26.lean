/- The reference's bytes of a schema: 08 Encode. -/
import Derived.Test.YtgnilkjdpfbjgaaGreatQ23
import Derived.Test.YtgnilkjdpfbjgaaGreatQ14
namespace Go.Proofs.YtgnilkjdpfbjgaaGreat
open Go.RowKit
set_option linter.unusedVariables false
/-- Memory behind an append to an own row of bytes. -/
structure GR (B : Nat) (W W' : World) : Prop where
  blk : ∀ (x : Nat) (cur : Array Value) (t : TypeId) (fz : Nat × Nat), W.heap[x]? = some (Obj.cells cur t fz) → t ≠ 5 → W'.heap[x]? = some (Obj.cells cur t fz)
  bel : Below B W W'
theorem GR.of {B : Nat} {W W' : World} {v : Value} {n : Nat} {xs : List Value} (hown : W.ownsRow B 5 1 v n xs) (hg : W.grownBy W' v.ownBlock) (hB : B ≤ W.heap.size) : GR B W W' := by
  refine ⟨fun x cur t fz hx ht => keepG hg hx (ownsRow_ne_block3 hown hx fun cur' he => by cases he; exact ht rfl), ?_⟩
  exact Below.grown ((Below.refl _ W).mono hB) hg hB (fun y hy => (hown.lt y hy).1)
theorem row_lit {W : World} {B q : Nat} (bs : List UInt8) (cells : Array Value) (hc : (Lib.byteCells bs).toArray = cells) (n : Nat) (hn : bs.length = n) (hl : n ≤ 1000) (hq : W.heap[q]? = some (.cells cells 5 (0, 0))) (hB : B ≤ q) : W.ownsRow B 5 1 (.slice (some ⟨q, 0, none⟩) n n) n (Lib.byteCells bs) := by
  subst hn hc
  refine ⟨by simp [Lib.byteCells], .inr ⟨q, bs.length, _, rfl, hB, hq, Nat.le_refl _, by unfold maxLen; omega, by simp [Lib.byteCells], ?_⟩⟩
  rw [List.take_of_length_le (by simp [Lib.byteCells])]
theorem wpList_bytes {W : World} {ops : Array Oper} {rest : List Oper} {o : Oper} {a : Act} {Q : Exit → Act → World → Prop} (hgd : o.guard = none) (s x : Operand)
    (ho : o.op = .call { callee := .builtin .append, args := #[s, x], argTypes := #[131, 131] }) (B : Nat) (l : List UInt8) (va : Option Addr) (vc : Nat) (hs : a.eval s = .slice va l.length vc) (hown : W.ownsRow B 5 1 (.slice va l.length vc) l.length (Lib.byteCells l))
    (bs : List UInt8) (m q : Nat) (cells : Array Value) (hx : a.eval x = .slice (some ⟨q, 0, none⟩) m m) (hq : W.heap[q]? = some (.cells cells 5 (0, 0))) (hm : bs.length = m) (hc : (Lib.byteCells bs).toArray = cells) (hl : l.length + m ≤ 200000) (hB : B ≤ W.heap.size)
    (h : ∀ l' va' vc' W', Hid (l' = l ++ bs) → W'.ownsRow B 5 1 (.slice va' l'.length vc') l'.length (Lib.byteCells l') → GR B W W' → wpList Tryz.prog ops Q rest (a.put o.dst (.slice va' l'.length vc')) W') : wpList Tryz.prog ops Q (o :: rest) a W := by
  obtain ⟨i0, hi, hz0, hz1, hz2⟩ := info_parts Tryz.info5
  subst hm hc
  refine wpList_append_own W hgd s x 131 ho B 5 i0 (.int .u8 0) 1 1 Tryz.underlying131 hi hz0 hz1 hz2 rfl (by decide) _ l.length _ hs hown ⟨q, 0, none⟩ bs.length bs.length (Lib.byteCells bs) hx (by simp [Lib.byteCells]) ?_ ?_ (by unfold maxLen; omega) (by omega) hB ?_
  · intro j u hu
    rw [show (⟨q, 0, none⟩ : Addr).add j = ⟨q, j, none⟩ from by (simp [Addr.add]; try omega), cell_at hq, List.getElem?_toArray]
    exact hu
  · intro u hu
    simp [Lib.byteCells] at hu
    obtain ⟨y, _, rfl⟩ := hu
    rfl
  · intro v' W' hown' hg _
    obtain ⟨va', vc', rfl⟩ := ownsRow_slice hown'
    rw [← byteCells_app, ← List.length_append] at hown'
    have := h (l ++ bs) va' vc' W' (Lib.hid rfl) hown' (GR.of hown hg hB)
    rw [List.length_append] at this
    exact this
theorem wpList_text {W : World} {ops : Array Oper} {rest : List Oper} {o : Oper} {a : Act} {Q : Exit → Act → World → Prop} (hgd : o.guard = none) (s x : Operand)
    (ho : o.op = .call { callee := .builtin .append, args := #[s, x], argTypes := #[131, 9] }) (B : Nat) (l : List UInt8) (va : Option Addr) (vc : Nat) (hs : a.eval s = .slice va l.length vc) (hown : W.ownsRow B 5 1 (.slice va l.length vc) l.length (Lib.byteCells l))
    (t : ByteArray) (hx : a.eval x = .string t) (hl : l.length + t.size ≤ 200000) (hB : B ≤ W.heap.size)
    (h : ∀ l' va' vc' W', Hid (l' = l ++ t.data.toList) → W'.ownsRow B 5 1 (.slice va' l'.length vc') l'.length (Lib.byteCells l') → GR B W W' → wpList Tryz.prog ops Q rest (a.put o.dst (.slice va' l'.length vc')) W') : wpList Tryz.prog ops Q (o :: rest) a W := by
  obtain ⟨i0, hi, hz0, hz1, hz2⟩ := info_parts Tryz.info5
  have ht : t.data.toList.length = t.size := by rw [Array.length_toList]; rfl
  refine Lib.wpList_append_own_string W hgd s x 131 9 ho B 5 i0 Tryz.underlying131 Tryz.underlying9 hi hz0 hz1 hz2 _ l.length _ hs hown t hx (by unfold maxLen; omega) (by omega) hB ?_
  intro v' W' hown' hg _
  obtain ⟨va', vc', rfl⟩ := ownsRow_slice hown'
  have e : l.length + t.size = (l ++ t.data.toList).length := by rw [List.length_append, ht]
  rw [strCells_byte, ← byteCells_app, e] at hown'
  have := h (l ++ t.data.toList) va' vc' W' (Lib.hid rfl) hown' (GR.of hown hg hB)
  rw [e]
  exact this
theorem newAt {W : World} {o : Obj} {q : Nat} (h : q = W.heap.size) : (W.alloc o).heap[q]? = some o := by subst h; exact heap_alloc_new W o
theorem six_cells (n m : Nat) (h : n < 4294967296) (hm : m < 256) : (Lib.byteCells ([83] ++ leB n 4 ++ leB m 1)).toArray = #[.int .u8 83, .int .u8 ((n : Int) % 256), .int .u8 ((n : Int) / 256 % 256), .int .u8 ((n : Int) / 65536 % 256), .int .u8 ((n : Int) / 16777216), .int .u8 (m : Int)] := by
  have h4 := quad_cells n h
  rw [byteCells_app, byteCells_app]
  have h4' : Lib.byteCells (leB n 4) = [.int .u8 ((n : Int) % 256), .int .u8 ((n : Int) / 256 % 256), .int .u8 ((n : Int) / 65536 % 256), .int .u8 ((n : Int) / 16777216)] := by
    have := congrArg Array.toList h4
    simpa using this
  rw [h4']
  simp [leB, Lib.byteCells]
  omega
theorem one_list (m : Nat) (h : m < 256) : Lib.byteCells (leB m 1) = [.int .u8 (m : Int)] := by
  simp [leB, Lib.byteCells]
  omega
theorem two_list (x : Int) (m : Nat) (h0 : 0 ≤ x) (h1 : x < 256) (h : m < 256) : Lib.byteCells (leB x.toNat 1 ++ leB m 1) = [.int .u8 x, .int .u8 (m : Int)] := by
  simp [leB, Lib.byteCells]
  omega
theorem two_listI (x y : Int) (h0 : 0 ≤ x) (h1 : x < 256) (h2 : 0 ≤ y) (h3 : y < 256) : Lib.byteCells (leB x.toNat 1 ++ leB y.toNat 1) = [.int .u8 x, .int .u8 y] := by
  simp [leB, Lib.byteCells]
  omega
set_option maxRecDepth 100000 in
set_option maxHeartbeats 2000000 in
theorem enc08_any {w : World} (n : Nat) (cs : List Cmp) (a : Option Addr) (cap : Nat) (hcs : CompsAt w.heap.size w a cs.length cs) (hn : n < 4294967296) (hfit : scFit cs = true) (hlen : (scBytes (n : Int) cs).length ≤ 100000) :
    Calls Tryz.prog 56 #[.agg #[.int .i64 (n : Int), .slice a cs.length cap]] w fun e w' => e = .returned (.string ⟨(scBytes (n : Int) cs).toArray⟩) ∧ Below w.heap.size w w' := by
  unfold scFit at hfit
  simp only [Bool.and_eq_true, decide_eq_true_eq] at hfit
  obtain ⟨hf0, hf1⟩ := hfit
  have HF := Lib.hid hf1
  have HCS := Lib.hid hcs
  have H0 := Lib.hid (And.intro (keepA (.cells #[.int .u8 83, .int .u8 ((n : Int) % 256), .int .u8 ((n : Int) / 256 % 256), .int .u8 ((n : Int) / 65536 % 256), .int .u8 ((n : Int) / 16777216), .int .u8 (cs.length : Int)] 5) (heap_alloc_new w (.cells #[.int .i64 (n : Int), .slice a cs.length cap] 25))) (And.intro (heap_alloc_new (w.alloc (.cells #[.int .i64 (n : Int), .slice a cs.length cap] 25)) (.cells #[.int .u8 83, .int .u8 ((n : Int) % 256), .int .u8 ((n : Int) / 256 % 256), .int .u8 ((n : Int) / 65536 % 256), .int .u8 ((n : Int) / 16777216), .int .u8 (cs.length : Int)] 5)) (((Below.refl _ w).alloc (Nat.le_refl _) (.cells #[.int .i64 (n : Int), .slice a cs.length cap] 25)).alloc (by simp) (.cells #[.int .u8 83, .int .u8 ((n : Int) % 256), .int .u8 ((n : Int) / 256 % 256), .int .u8 ((n : Int) / 65536 % 256), .int .u8 ((n : Int) / 16777216), .int .u8 (cs.length : Int)] 5))))
  clear hcs hf1
  go_enter Tryz.func56, Tryz.ntmps56
  go_wp2_with fail
  have hown0 := row_lit (B := w.heap.size) ([83] ++ leB n 4 ++ leB cs.length 1) _ (six_cells n cs.length hn hf0) 6 (by simp [leB_len]) (by decide) H0.out.2.1 (by simp)
  have HO0 := Lib.hid hown0
  clear hown0
  have hS0l : ([83] ++ leB n 4 ++ leB cs.length 1 : List UInt8).length = 6 := by simp [leB_len]
  have hSB : scBytes (n : Int) cs = [83] ++ leB n 4 ++ leB cs.length 1 ++ cs.flatMap cmpBytes := rfl
  obtain ⟨S0, hS0⟩ : ∃ S, S = [83] ++ leB n 4 ++ leB cs.length 1 := ⟨_, rfl⟩
  rw [← hS0] at hSB HO0 hS0l
  rw [hSB] at hlen
  have hown0 := HO0.out
  rw [← hS0l] at hown0
  have hz0 := H0.out.1
  have hb0 := H0.out.2.2
  generalize World.alloc (World.alloc w _) _ = W0 at *
  have HI := Lib.hid (And.intro hown0 (And.intro hz0 hb0))
  have HSB := Lib.hid hSB
  clear H0 HO0 hown0 hz0 hb0 hSB hS0
  go_loopw [4, 5] (fun b i wr => ∃ (k : Nat) (va : Option Addr) (vc : Nat), k ≤ cs.length ∧ i = .int .i64 k ∧ b = .slice va (S0 ++ (cs.take k).flatMap cmpBytes).length vc ∧ wr.ownsRow w.heap.size 5 1 (.slice va (S0 ++ (cs.take k).flatMap cmpBytes).length vc) (S0 ++ (cs.take k).flatMap cmpBytes).length (Lib.byteCells (S0 ++ (cs.take k).flatMap cmpBytes)) ∧ wr.heap[w.heap.size]? = some (.cells #[.int .i64 (n : Int), .slice a cs.length cap] 25 (0, 0)) ∧ Below w.heap.size w wr) (fun _ i _ => cs.length - (intOf i).toNat)
  case atStart => exact ⟨0, some ⟨w.heap.size + 1, 0, none⟩, 6, Nat.zero_le _, rfl, by simp [hS0l], by simpa [hS0l] using HI.out.1, HI.out.2.1, HI.out.2.2⟩
  case round =>
    obtain ⟨k, va, vc, hk, rfl, rfl, hown, hq, hbw⟩ := hrel
    have p1 := cell_at hq 1
    simp at p1
    have hlz := lt_some hq
    by_cases hlt : k < cs.length
    · have hx := List.getElem?_eq_getElem hlt
      generalize cs[k] = c at *
      have hfit := all_mem HF.out hx
      have hsn := flat_snoc cmpBytes hx
      have htk := flat_take_len cmpBytes cs (k + 1)
      rw [hsn, List.length_append] at htk
      rw [List.length_append] at hlen
      obtain ⟨L, hL⟩ : ∃ L, L = S0 ++ (cs.take k).flatMap cmpBytes := ⟨_, rfl⟩
      have hLl : L.length + (cmpBytes c).length ≤ 100000 := by rw [hL, List.length_append]; omega
      have HL := Lib.hid (And.intro hL hsn)
      rw [← hL] at hown ⊢
      clear hL hsn htk
      unfold cmpFit at hfit
      simp only [Bool.and_eq_true, decide_eq_true_eq] at hfit
      obtain ⟨⟨⟨⟨g0, g1⟩, g2⟩, g3⟩, g4⟩ := hfit
      obtain ⟨_, hml, hcc⟩ := HCS.out
      rcases hcc with h0 | ⟨cb, off, rfl, hcB, hc⟩
      · omega
      obtain ⟨e0, e1, fa, fl, fc, e2, hFA, _⟩ := hc k c hx
      obtain rfl := hFA.1
      have d := fun o => hbw.cell (p := ⟨cb, o, none⟩) hcB
      have d0 := (d _).trans e0
      have d1 := (d _).trans e1
      have d2 := (d _).trans e2
      have HFA := Lib.hid hFA
      have HG := Lib.hid g4
      have e8a : IntKind.u8.wrap c.id = c.id := by rw [IntKind.wrap_u8]; omega
      have e8b : IntKind.u8.wrap (c.name.size : Int) = (c.name.size : Int) := by rw [IntKind.wrap_u8]; omega
      have e8c : IntKind.u8.wrap (c.fields.length : Int) = (c.fields.length : Int) := by rw [IntKind.wrap_u8]; omega
      have hcl := cmp_len c
      have HOW := Lib.hid hown
      clear hc e0 e1 e2 d hFA g4 hown
      go_wp2_with (at_builtin; go_loud (refine wpList_bytes rfl (.tmp 42) (.tmp 50) rfl w.heap.size L va vc rfl ((HOW.out.alloc _).alloc _) (leB c.id.toNat 1 ++ leB c.name.size 1) 2 _ _ rfl (newAt (by simp)) (by simp [leB_len]) ?c1 ?c2 ?c3 ?_))
      case c1 => first | exact two_list c.id c.name.size g0 g1 (by omega) | exact congrArg List.toArray (two_list c.id c.name.size g0 g1 (by omega))
      case c2 => omega
      case c3 => have := hbw.size; simp; omega
      intro L2 va2 vc2 W2 hL2 hown2 hg2
      have hy2 := hg2.blk _ _ _ _ (keepA _ (heap_alloc_new wr (.cells #[.int .i64 c.id, .string c.name, .slice fa c.fields.length fc] 67))) (by decide)
      have hz2 := hg2.blk _ _ _ _ (keepA _ (keepA _ hq)) (by decide)
      have hb2 := ((hbw.alloc hbw.size _).alloc (by have := hbw.size; simp; omega) _).trans hg2.bel
      clear hg2 p1 hq hbw hlz HOW d0 d1 d2
      generalize wr.heap.size = y at *
      have q1 := cell_at hy2 1
      have hly := lt_some hy2
      simp at q1
      have hl2 : L2.length = L.length + 2 := by rw [hL2.out]; simp [leB_len]
      have HOW2 := Lib.hid hown2
      clear hown2
      go_wp2_with (at_builtin; go_loud (refine wpList_text rfl (.tmp 52) (.tmp 54) rfl w.heap.size _ va2 vc2 rfl HOW2.out c.name rfl ?c1 ?c2 ?_))
      case c1 => omega
      case c2 => have := hb2.size; omega
      intro L3 va3 vc3 W3 hL3 hown3 hg3
      have hy3 := hg3.blk _ _ _ _ hy2 (by decide)
      have hz3 := hg3.blk _ _ _ _ hz2 (by decide)
      have hb3 := hb2.trans hg3.bel
      have q2 := cell_at hy3 2
      have hly3 := lt_some hy3
      simp at q2
      clear hg3 hy2 hz2 hb2 q1 hly HOW2
      have hl3 : L3.length = L.length + 2 + c.name.size := by rw [hL3.out, List.length_append, hl2, Array.length_toList]; rfl
      have HOW3 := Lib.hid hown3
      clear hown3
      go_wp2_with (at_builtin; go_loud (refine wpList_bytes rfl (.tmp 56) (.tmp 61) rfl w.heap.size _ va3 vc3 rfl (HOW3.out.alloc _) (leB c.fields.length 1) 1 _ _ rfl (newAt (by simp)) (by simp [leB_len]) ?c1 ?c2 ?c3 ?_))
      case c1 => first | exact one_list c.fields.length g3 | exact congrArg List.toArray (one_list c.fields.length g3)
      case c2 => omega
      case c3 => have := hb3.size; simp; omega
      intro L4 va4 vc4 W4 hL4 hown4 hg4
      have hy4 := hg4.blk _ _ _ _ (keepA _ hy3) (by decide)
      have hz4 := hg4.blk _ _ _ _ (keepA _ hz3) (by decide)
      have hb4 := (hb3.alloc hb3.size _).trans hg4.bel
      clear hg4 hy3 hz3 hb3 q2 hly3 HOW3
      obtain ⟨M, hM⟩ : ∃ M, M = L ++ (leB c.id.toNat 1 ++ leB c.name.size 1) ++ c.name.data.toList ++ leB c.fields.length 1 := ⟨_, rfl⟩
      obtain rfl : M = L4 := by rw [hL4.out, hL3.out, hL2.out, hM]
      have hMl : M.length + (c.fields.flatMap fldBytes).length ≤ 100000 := by
        have : c.name.data.toList.length = c.name.size := by rw [Array.length_toList]; rfl
        rw [hM]
        simp only [List.length_append, leB_len, this]
        omega
      have HM := Lib.hid hM
      clear hM
      go_wp2_with fail
      go_loopw [4, 7] (fun b i wi => ∃ (m : Nat) (ta : Option Addr) (tc : Nat), m ≤ c.fields.length ∧ i = .int .i64 m ∧ b = .slice ta (M ++ (c.fields.take m).flatMap fldBytes).length tc ∧ wi.ownsRow w.heap.size 5 1 (.slice ta (M ++ (c.fields.take m).flatMap fldBytes).length tc) (M ++ (c.fields.take m).flatMap fldBytes).length (Lib.byteCells (M ++ (c.fields.take m).flatMap fldBytes)) ∧ wi.heap[w.heap.size]? = some (.cells #[.int .i64 (n : Int), .slice (some ⟨cb, off, none⟩) cs.length cap] 25 (0, 0)) ∧ wi.heap[y]? = some (.cells #[.int .i64 c.id, .string c.name, .slice fa c.fields.length fc] 67 (0, 0)) ∧ Below w.heap.size w wi) (fun _ i _ => c.fields.length - (intOf i).toNat)
      case atStart => exact ⟨0, va4, vc4, Nat.zero_le _, rfl, by simp, by simpa using hown4, hz4, hy4, hb4⟩
      case round =>
        obtain ⟨m, ta, tc, hm, rfl, rfl, hown, hq, hy, hbw⟩ := hrel
        clear hown4 hz4 hy4 hb4
        have q2 := cell_at hy 2
        have hly := lt_some hy
        simp at q2
        by_cases hmt : m < c.fields.length
        · have hxf := List.getElem?_eq_getElem hmt
          generalize c.fields[m] = f at *
          have hff := all_mem HG.out hxf
          have hsf := flat_snoc fldBytes hxf
          have htf := flat_take_len fldBytes c.fields (m + 1)
          rw [hsf, List.length_append] at htf
          have hfl := fld_len f
          obtain ⟨N, hN⟩ : ∃ N, N = M ++ (c.fields.take m).flatMap fldBytes := ⟨_, rfl⟩
          have hNl : N.length + (fldBytes f).length ≤ 100000 := by rw [hN, List.length_append]; omega
          have HN := Lib.hid (And.intro hN hsf)
          rw [← hN] at hown ⊢
          clear hN hsf htf
          unfold fldFit at hff
          simp only [Bool.and_eq_true, decide_eq_true_eq] at hff
          obtain ⟨⟨⟨⟨k0, k1⟩, k2⟩, k3⟩, k4⟩ := hff
          obtain ⟨_, _, hfc⟩ := HFA.out
          rcases hfc with h0 | ⟨fb, foff, rfl, hfB, hc⟩
          · omega
          obtain ⟨e0, e1, e2⟩ := hc m f hxf
          have d := fun o => hbw.cell (p := ⟨fb, o, none⟩) hfB
          have d0 := (d _).trans e0
          have d1 := (d _).trans e1
          have d2 := (d _).trans e2
          have e9a : IntKind.u8.wrap (f.name.size : Int) = (f.name.size : Int) := by rw [IntKind.wrap_u8]; omega
          have e9b : IntKind.u8.wrap f.kind = f.kind := by rw [IntKind.wrap_u8]; omega
          have e9c : IntKind.u8.wrap f.count = f.count := by rw [IntKind.wrap_u8]; omega
          have HOW := Lib.hid hown
          clear hc e0 e1 e2 d hown
          go_wp2_with (at_builtin; go_loud (refine wpList_bytes rfl (.tmp 75) (.tmp 80) rfl w.heap.size N ta tc rfl ((HOW.out.alloc _).alloc _) (leB f.name.size 1) 1 _ _ rfl (newAt (by simp)) (by simp [leB_len]) ?c1 ?c2 ?c3 ?_))
          case c1 => first | exact one_list f.name.size (by omega) | exact congrArg List.toArray (one_list f.name.size (by omega))
          case c2 => omega
          case c3 => have := hbw.size; simp; omega
          intro L5 va5 vc5 W5 hL5 hown5 hg5
          have hf5 := hg5.blk _ _ _ _ (keepA _ (heap_alloc_new wr (.cells #[.string f.name, .int .i64 f.kind, .int .i64 f.count] 64))) (by decide)
          have hz5 := hg5.blk _ _ _ _ (keepA _ (keepA _ hq)) (by decide)
          have hy5 := hg5.blk _ _ _ _ (keepA _ (keepA _ hy)) (by decide)
          have hb5 := ((hbw.alloc hbw.size _).alloc (by have := hbw.size; simp; omega) _).trans hg5.bel
          clear hg5 q2 hq hy hbw hly HOW d0 d1 d2
          generalize wr.heap.size = z at *
          have r0 := cell_at hf5 0
          have hlf := lt_some hf5
          simp at r0
          have hl5 : L5.length = N.length + 1 := by rw [hL5.out]; simp [leB_len]
          have HOW5 := Lib.hid hown5
          clear hown5
          go_wp2_with (at_builtin; go_loud (refine wpList_text rfl (.tmp 82) (.tmp 84) rfl w.heap.size _ va5 vc5 rfl HOW5.out f.name rfl ?c1 ?c2 ?_))
          case c1 => omega
          case c2 => have := hb5.size; omega
          intro L6 va6 vc6 W6 hL6 hown6 hg6
          have hf6 := hg6.blk _ _ _ _ hf5 (by decide)
          have hz6 := hg6.blk _ _ _ _ hz5 (by decide)
          have hy6 := hg6.blk _ _ _ _ hy5 (by decide)
          have hb6 := hb5.trans hg6.bel
          have r1 := cell_at hf6 1
          have r2 := cell_at hf6 2
          have hlf6 := lt_some hf6
          simp at r1 r2
          clear hg6 hf5 hz5 hy5 hb5 r0 hlf HOW5
          have hl6 : L6.length = N.length + 1 + f.name.size := by rw [hL6.out, List.length_append, hl5, Array.length_toList]; rfl
          have HOW6 := Lib.hid hown6
          clear hown6
          go_wp2_with (at_builtin; go_loud (refine wpList_bytes rfl (.tmp 86) (.tmp 93) rfl w.heap.size _ va6 vc6 rfl (HOW6.out.alloc _) (leB f.kind.toNat 1 ++ leB f.count.toNat 1) 2 _ _ rfl (newAt (by simp)) (by simp [leB_len]) ?c1 ?c2 ?c3 ?_))
          case c1 => first | exact two_listI f.kind f.count k1 k2 k3 k4 | exact congrArg List.toArray (two_listI f.kind f.count k1 k2 k3 k4)
          case c2 => omega
          case c3 => have := hb6.size; simp; omega
          intro L7 va7 vc7 W7 hL7 hown7 hg7
          have hz7 := hg7.blk _ _ _ _ (keepA _ hz6) (by decide)
          have hy7 := hg7.blk _ _ _ _ (keepA _ hy6) (by decide)
          have hb7 := (hb6.alloc hb6.size _).trans hg7.bel
          clear hg7 hf6 hz6 hy6 hb6 r1 r2 hlf6 HOW6
          have eN : N ++ leB f.name.size 1 ++ f.name.data.toList ++ (leB f.kind.toNat 1 ++ leB f.count.toNat 1) = M ++ (c.fields.take (m + 1)).flatMap fldBytes := by
            rw [HN.out.2, ← List.append_assoc M, ← HN.out.1]
            unfold fldBytes nameB
            simp
          have eL7 : L7 = M ++ (c.fields.take (m + 1)).flatMap fldBytes := by rw [hL7.out, hL6.out, hL5.out, eN]
          subst eL7
          go_wp2
          go_roundw
          case rel => exact ⟨m + 1, va7, vc7, by omega, by go_num, rfl, hown7, hz7, hy7, hb7⟩
          case measure => simp [intOf]; omega
        · obtain rfl : m = c.fields.length := by omega
          rw [List.take_length] at hown ⊢
          have eM : M ++ c.fields.flatMap fldBytes = S0 ++ (cs.take (k + 1)).flatMap cmpBytes := by
            rw [HL.out.2, ← List.append_assoc S0, ← HL.out.1, HM.out]
            unfold cmpBytes nameB
            simp
          rw [eM] at hown ⊢
          go_wp2
          go_roundw
          case rel => exact ⟨k + 1, ta, tc, by omega, by go_num, rfl, hown, hq, hbw⟩
          case measure => simp [intOf]; omega
    · obtain rfl : k = cs.length := by omega
      rw [List.take_length] at hown ⊢
      obtain ⟨L, hL⟩ : ∃ L, L = S0 ++ cs.flatMap cmpBytes := ⟨_, rfl⟩
      rw [← hL] at hown ⊢
      have hcv := conv_row hown
      have HL := Lib.hid hL
      clear hown hL
      go_wp2
      go_ret
      exact ⟨by rw [HSB.out, ← HL.out]; rfl, hbw⟩
end Go.Proofs.YtgnilkjdpfbjgaaGreat
