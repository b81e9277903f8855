/- Contracts of octet.Reader. · Contracts of wide.Add and wide.Sub where the signs differ. · Contracts of wide.Sub where the difference is not above 0. -/
import Derived.Test.YtoadihebdaooaaaGreatE10
import Derived.Laws.Externs
namespace Go.Proofs.YtoadihebdaooaaaGreat
open Go.RowKit
set_option linter.unusedVariables false
/-- The number of bytes, little end first. -/
def leV : List UInt8 → Nat
  | [] => 0
  | b :: r => b.toNat + 256 * leV r
theorem leV_lt : ∀ l : List UInt8, leV l < 256 ^ l.length
  | [] => by simp [leV]
  | b :: r => by
    have h1 := leV_lt r
    have h2 := b.toNat_lt
    simp only [leV, List.length_cons, Nat.pow_succ]
    omega
theorem or_byte {m b : Nat} (hm : m < 72057594037927936) (hb : b < 256) : bits BinOp.or .u64 ((m * 256 : Nat) : Int) (b : Int) = ((b + 256 * m : Nat) : Int) := by
  rw [u64_or_nat _ _ (by omega) (by omega)]
  congr 1
  have : m * 256 ||| b = 2 ^ 8 * m + b := by rw [Nat.mul_comm, show 256 = 2 ^ 8 from rfl, ← Nat.two_pow_add_eq_or_of_lt (by omega)]
  rw [this]; omega
set_option maxRecDepth 100000 in
theorem read_any (s : ByteArray) (w : World) : Calls Tryz.prog 148 #[.string s] w fun e w' => e = .returned (.pointer (some ⟨w.heap.size, 0, none⟩)) ∧ w.alloc (.cells #[.string s, .bool false] 261) = w' := by
  go_enter Tryz.func148, Tryz.ntmps148
  go_wp2_with fail
  go_returns
  exact ⟨rfl, rfl⟩
theorem rBad_any (rb : Nat) (s : ByteArray) (b : Bool) (w : World) (h : w.heap[rb]? = some (.cells #[.string s, .bool b] 261 (0, 0))) : Calls Tryz.prog 174 #[.pointer (some ⟨rb, 0, none⟩)] w fun e w' => e = .returned (.bool b) ∧ w = w' := by
  have c1 := cell_at h 1
  simp at c1
  clear h
  go_enter Tryz.func174, Tryz.ntmps174
  go_wp2_with fail
  go_returns
  exact ⟨rfl, rfl⟩
theorem rLeft_any (rb : Nat) (s : ByteArray) (w : World) (h : w.heap[rb]? = some (.cells #[.string s, .bool false] 261 (0, 0))) : Calls Tryz.prog 178 #[.pointer (some ⟨rb, 0, none⟩)] w fun e w' => e = .returned (.int .i64 (s.size : Int)) ∧ w = w' := by
  have c0 := cell_at h 0
  simp at c0
  have HB := Lib.hid (rBad_any rb s false w h)
  clear h
  go_enter Tryz.func178, Tryz.ntmps178
  go_wp2_with fail
  refine HB.out.mono ?_
  rintro e w1 ⟨rfl, rfl⟩
  go_wp2_with fail
  go_returns
  exact ⟨rfl, rfl⟩
theorem rDone_any (rb : Nat) (s : ByteArray) (w : World) (h : w.heap[rb]? = some (.cells #[.string s, .bool false] 261 (0, 0))) (hs : s = ⟨#[]⟩) : Calls Tryz.prog 153 #[.pointer (some ⟨rb, 0, none⟩)] w fun e w' => e = .returned (.bool true) ∧ w = w' := by
  have c0 := cell_at h 0
  subst hs
  simp at c0
  have HB := Lib.hid (rBad_any rb _ false w h)
  clear h
  go_enter Tryz.func153, Tryz.ntmps153
  go_wp2_with fail
  refine HB.out.mono ?_
  rintro e w1 ⟨rfl, rfl⟩
  go_wp2_with fail
  go_returns
  exact ⟨rfl, rfl⟩
set_option maxRecDepth 100000 in
set_option maxHeartbeats 1000000 in
theorem rSee_any (rb : Nat) (s : ByteArray) (k : Nat) (w : World) (h : w.heap[rb]? = some (.cells #[.string s, .bool false] 261 (0, 0))) (hk : k = 1 ∨ k = 2 ∨ k = 4 ∨ k = 8) (hs : k ≤ s.size) (hm : s.size ≤ maxLen) :
    Calls Tryz.prog 168 #[.pointer (some ⟨rb, 0, none⟩), .int .i64 (k : Int)] w fun e w' => e = .returned (.tuple #[.int .u64 (leV (s.data.toList.take k) : Int), .bool true]) ∧ w = w' := by
  have c0 := cell_at h 0
  simp at c0
  unfold maxLen at hm
  have HL := Lib.hid (rLeft_any rb s w h)
  have hk8 : k ≤ 8 := by omega
  have HK := Lib.hid hk
  have e1 : decide ((s.size : Int) < (k : Int)) = false := by simp; omega
  have hw1 : IntKind.i64.wrap ((k : Int) - 1) = (k : Int) - 1 := IntWalk.i64_in _ (by omega)
  clear h hk
  go_enter Tryz.func168, Tryz.ntmps168
  go_wp2_with fail
  refine (iswide_any _ _ (by have := HK.out; omega)).mono ?_
  rintro e w1 ⟨rfl, rfl⟩
  go_wp2_with fail
  refine HL.out.mono ?_
  rintro e w1 ⟨rfl, rfl⟩
  go_wp2_with fail
  go_loop [6, 7] (fun n i => ∃ j : Nat, j ≤ k ∧ i = .int .i64 ((j : Int) - 1) ∧ n = .int .u64 (leV ((s.data.toList.take k).drop j) : Int)) (fun _ i => ((intOf i) + 1).toNat)
  case atStart => exact ⟨k, Nat.le_refl _, rfl, by rw [List.drop_eq_nil_of_le (List.length_take_le _ _)]; rfl⟩
  case round =>
    obtain ⟨j, hj, rfl, rfl⟩ := hrel
    rcases Nat.eq_zero_or_pos j with rfl | hpos
    · go_wp2_with fail
      go_ret2
      exact ⟨by simp, rfl⟩
    · obtain ⟨m, rfl⟩ : ∃ m, j = m + 1 := ⟨j - 1, by omega⟩
      have hms : m < s.size := by omega
      have hd : (s.data.toList.take k).drop m = s[m] :: (s.data.toList.take k).drop (m + 1) := by
        have : (s.data.toList.take k)[m]? = some s[m] := by rw [List.getElem?_take, if_pos (by omega)]; exact data_get? hms
        exact drop_get this
      have hlen : ((s.data.toList.take k).drop (m + 1)).length ≤ 7 := by rw [List.length_drop, List.length_take]; omega
      have hlt := leV_lt ((s.data.toList.take k).drop (m + 1))
      have hlt7 : 256 ^ ((s.data.toList.take k).drop (m + 1)).length ≤ 256 ^ 7 := Nat.pow_le_pow_right (by decide) hlen
      have hb := s[m].toNat_lt
      have hnew : leV ((s.data.toList.take k).drop m) = s[m].toNat + 256 * leV ((s.data.toList.take k).drop (m + 1)) := by rw [hd]; rfl
      generalize leV ((s.data.toList.take k).drop (m + 1)) = n at *
      have hn : n < 72057594037927936 := by have : 256 ^ 7 = 72057594037927936 := by decide
                                            omega
      have HNEW := Lib.hid hnew
      have hor := or_byte hn hb
      have hsh : ((n * 256 : Nat) : Int) = (n : Int) * 256 := by omega
      have e0 : ((m + 1 : Nat) : Int) - 1 = (m : Int) := by omega
      rw [hsh] at hor
      rw [e0]
      go_wp2_with fail
      go_round
      case rel => exact ⟨m, by omega, rfl, by rw [HNEW.out, Int.natCast_add, Int.natCast_mul]; rfl⟩
      case measure => simp only [intOf]; omega
set_option maxRecDepth 100000 in
set_option maxHeartbeats 1000000 in
theorem rTake_any (rb : Nat) (s : ByteArray) (k : Nat) (w : World) (h : w.heap[rb]? = some (.cells #[.string s, .bool false] 261 (0, 0))) (hk : k ≤ s.size) (hm : s.size ≤ maxLen) :
    Calls Tryz.prog 169 #[.pointer (some ⟨rb, 0, none⟩), .int .i64 0, .int .i64 (k : Int), .bool true] w fun e w' => e = .returned (.string (s.extract 0 k)) ∧ w'.heap[rb]? = some (.cells #[.string (s.extract k s.size), .bool false] 261 (0, 0)) ∧ Only rb w w' := by
  have c0 := cell_at h 0
  have f0 := free_at h 0
  simp at c0
  unfold maxLen at hm
  have HB := Lib.hid (rBad_any rb s false w h)
  have HH := Lib.hid h
  have e1 : decide ((k : Int) < 0) = false := by simp
  have e2 : decide ((s.size : Int) < (k : Int)) = false := by simp; omega
  have hw1 : IntKind.i64.wrap (0 + (k : Int)) = (k : Int) := by rw [Int.zero_add]; exact IntWalk.i64_in _ (by omega)
  have hw2 : IntKind.i64.wrap ((s.size : Int) - 0) = (s.size : Int) := by rw [Int.sub_zero]; exact IntWalk.i64_in _ (by omega)
  clear h
  go_enter Tryz.func169, Tryz.ntmps169
  go_wp2_with fail
  refine HB.out.mono ?_
  rintro e w1 ⟨rfl, rfl⟩
  go_wp2_with fail
  go_returns
  exact ⟨rfl, by rw [hset _ _ _ _ _ _ _ HH.out]; rfl, Only.at _ _ _ _⟩
/-- Num reads the number of the first k bytes. -/
theorem rNum_any (rb : Nat) (s : ByteArray) (k : Nat) (w : World) (h : w.heap[rb]? = some (.cells #[.string s, .bool false] 261 (0, 0))) (hk : k = 1 ∨ k = 2 ∨ k = 4 ∨ k = 8) (hs : k ≤ s.size) (hm : s.size ≤ maxLen) :
    Calls Tryz.prog 149 #[.pointer (some ⟨rb, 0, none⟩), .int .i64 (k : Int)] w fun e w' => e = .returned (.int .u64 (leV (s.data.toList.take k) : Int)) ∧ w'.heap[rb]? = some (.cells #[.string (s.extract k s.size), .bool false] 261 (0, 0)) ∧ Only rb w w' := by
  have HS := Lib.hid (rSee_any rb s k w h hk hs hm)
  have HT := Lib.hid (rTake_any rb s k w h hs hm)
  clear h hk
  go_enter Tryz.func149, Tryz.ntmps149
  go_wp2_with fail
  refine HS.out.mono ?_
  rintro e w1 ⟨rfl, rfl⟩
  go_wp2_with fail
  refine HT.out.mono ?_
  rintro e w1 ⟨rfl, ht⟩
  go_wp2_with fail
  go_returns
  exact ⟨rfl, ht⟩
end Go.Proofs.YtoadihebdaooaaaGreat
namespace Go.Proofs.YtoadihebdaooaaaGreat
open Go.RowKit
set_option linter.unusedVariables false
def sub64E : Array Value → Sem Value := fun args => do
  let (x, y, b) ← Extern.MathBitsCarry.three "Sub64" args
  pure (Extern.MathBitsCarry.pair ((x + Extern.MathBitsCarry.m64 - y - b) % Extern.MathBitsCarry.m64) (if x < y + b then 1 else 0))
theorem run_sub64E {P : Program} (x y : Int) (h0 : 0 ≤ y) (h1 : y ≤ x) (h2 : x ≤ 18446744073709551615) (w : World) :
    (sub64E #[.int .u64 x, .int .u64 y, .int .u64 0]).run P w = .ok (.tuple #[.int .u64 (x - y), .int .u64 0]) w := by
  have key : (sub64E #[.int .u64 x, .int .u64 y, .int .u64 0]).run P w =
      .ok (Extern.MathBitsCarry.pair ((x.toNat + Extern.MathBitsCarry.m64 - y.toNat - 0) % Extern.MathBitsCarry.m64) (if x.toNat < y.toNat + 0 then 1 else 0)) w := rfl
  rw [key]
  obtain ⟨X, rfl⟩ := Int.eq_ofNat_of_zero_le (show 0 ≤ x by omega)
  obtain ⟨Y, rfl⟩ := Int.eq_ofNat_of_zero_le h0
  have e : (X + 18446744073709551616 - Y - 0) % 18446744073709551616 = X - Y := by omega
  have e2 : ¬ X < Y + 0 := by omega
  have e3 : ((X - Y : Nat) : Int) = (X : Int) - Y := by omega
  simp only [Extern.MathBitsCarry.pair, Extern.MathBitsCarry.m64, Int.toNat_natCast]
  rw [show (2 ^ 64 : Nat) = 18446744073709551616 from rfl, e, if_neg e2, Int.ofNat_eq_natCast, e3]
  rfl
theorem made_zero {n : Bool} : WI.made n 0 0 = ⟨false, 0, 0⟩ := by unfold WI.made; simp
theorem sizeF_lt {n m : Bool} {p q : Int} (h : p < q) : sizeF ⟨n, 0, p⟩ ⟨m, 0, q⟩ = -1 := by
  unfold sizeF; simp; omega
theorem sizeF_eq {n m : Bool} {p : Int} : sizeF ⟨n, 0, p⟩ ⟨m, 0, p⟩ = 0 := by
  unfold sizeF; simp
theorem swap_world (w : World) (a b r : Nat) (x0 x1 x2 y0 y1 y2 : Value) (T : TypeId) (o : Obj) (ha : w.heap[a]? = some (.cells #[x0, x1, x2] T (0, 0))) (hb : w.heap[b]? = some (.cells #[y0, y1, y2] T (0, 0))) (hr : w.heap[r]? = some o) (hab : a ≠ b) (hra : r ≠ a) (hrb : r ≠ b) :
    ∃ w3, w3 = (((((w.setCell ⟨a, 0, none⟩ y0).setCell ⟨a, 1, none⟩ y1).setCell ⟨a, 2, none⟩ y2).setCell ⟨b, 0, none⟩ x0).setCell ⟨b, 1, none⟩ x1).setCell ⟨b, 2, none⟩ x2 ∧
      w3.heap[a]? = some (.cells #[y0, y1, y2] T (0, 0)) ∧ w3.heap[b]? = some (.cells #[x0, x1, x2] T (0, 0)) ∧ w3.heap[r]? = some o ∧ ∀ B, B ≤ a → B ≤ b → Below B w w3 := by
  refine ⟨_, rfl, ?_, ?_, ?_, ?_⟩
  · rw [hset_ne _ _ _ _ hab, hset_ne _ _ _ _ hab, hset_ne _ _ _ _ hab, hset _ _ _ _ _ _ _ (hset _ _ _ _ _ _ _ (hset _ _ _ _ _ _ _ ha))]; rfl
  · have h1 : (((w.setCell ⟨a, 0, none⟩ y0).setCell ⟨a, 1, none⟩ y1).setCell ⟨a, 2, none⟩ y2).heap[b]? = some (.cells #[y0, y1, y2] T (0, 0)) := by
      rw [hset_ne _ _ _ _ (Ne.symm hab), hset_ne _ _ _ _ (Ne.symm hab), hset_ne _ _ _ _ (Ne.symm hab)]; exact hb
    rw [hset _ _ _ _ _ _ _ (hset _ _ _ _ _ _ _ (hset _ _ _ _ _ _ _ h1))]; rfl
  · rw [hset_ne _ _ _ _ hrb, hset_ne _ _ _ _ hrb, hset_ne _ _ _ _ hrb, hset_ne _ _ _ _ hra, hset_ne _ _ _ _ hra, hset_ne _ _ _ _ hra]; exact hr
  · intro B h1 h2
    exact ((((((Below.refl B w).setCell h1 _).setCell h1 _).setCell h1 _).setCell h2 _).setCell h2 _).setCell h2 _
set_option maxRecDepth 100000 in
set_option maxHeartbeats 2000000 in
theorem wadd_lt (p q : Int) (w : World) (h0 : 0 ≤ p) (h1 : p < q) (h2 : q ≤ 18446744073709551615) : Calls Tryz.prog 172 #[WI.v ⟨false, 0, p⟩, WI.v ⟨true, 0, q⟩] w fun e w' => e = .returned (.tuple #[WI.v ⟨true, 0, q - p⟩, .int .i64 0]) ∧ Below w.heap.size w w' := by
  have hb : Below w.heap.size w (((w.alloc (.cells #[.bool false, .int .u64 0, .int .u64 p] 148)).alloc (.cells #[.bool true, .int .u64 0, .int .u64 q] 148)).alloc (.cells #[.bool false, .int .u64 0, .int .u64 0] 148)) := by go_grown
  have kx := keepA (.cells #[.bool false, .int .u64 0, .int .u64 0] 148) (keepA (.cells #[.bool true, .int .u64 0, .int .u64 q] 148) (heap_alloc_new w (.cells #[.bool false, .int .u64 0, .int .u64 p] 148)))
  have ky := keepA (.cells #[.bool false, .int .u64 0, .int .u64 0] 148) (heap_alloc_new (w.alloc (.cells #[.bool false, .int .u64 0, .int .u64 p] 148)) (.cells #[.bool true, .int .u64 0, .int .u64 q] 148))
  have kr := heap_alloc_new ((w.alloc (.cells #[.bool false, .int .u64 0, .int .u64 p] 148)).alloc (.cells #[.bool true, .int .u64 0, .int .u64 q] 148)) (.cells #[.bool false, .int .u64 0, .int .u64 0] 148)
  rw [World.size_alloc] at ky
  rw [World.size_alloc, World.size_alloc] at kr
  have KX := Lib.hid kx
  have KY := Lib.hid ky
  have KR := Lib.hid kr
  have HB := Lib.hid hb
  clear kx ky kr hb
  dsimp only [WI.v]
  go_enter Tryz.func172, Tryz.ntmps172
  go_wp2_with fail
  refine (wcheck_any ⟨false, 0, p⟩ ⟨true, 0, q⟩ _ ⟨⟨by simp, by simp⟩, h0, by show p ≤ _; omega⟩ (wf_lo (by omega) (by omega)) (by simp [WI.form]) (form_lo (by omega))).mono ?_
  rintro e w1 ⟨rfl, hb1⟩
  have hx1 := keep hb1 KX.out
  have hy1 := keep hb1 KY.out
  have hr1 := keep hb1 KR.out
  have x0 := cell_at hx1 0
  have x1 := cell_at hx1 1
  have x2 := cell_at hx1 2
  have y0 := cell_at hy1 0
  have y1 := cell_at hy1 1
  have y2 := cell_at hy1 2
  simp at x0 x1 x2 y0 y1 y2
  have HB1 := Lib.hid (HB.out.trans (hb1.mono HB.out.size))
  have HR1 := Lib.hid hr1
  have HX1 := Lib.hid hx1
  have HY1 := Lib.hid hy1
  clear hb1 hx1 hy1 hr1
  go_wp2_with fail
  refine (wsize_any ⟨false, 0, p⟩ ⟨true, 0, q⟩ _).mono ?_
  rintro e w2 ⟨rfl, hb2⟩
  rw [sizeF_lt h1]
  have hx2 := keep hb2 HX1.out
  have hy2 := keep hb2 HY1.out
  have hr2 := keep hb2 HR1.out
  have u0 := cell_at hx2 0
  have u1 := cell_at hx2 1
  have u2 := cell_at hx2 2
  have v0 := cell_at hy2 0
  have v1 := cell_at hy2 1
  have v2 := cell_at hy2 2
  have fu0 := free_at hx2 0
  have fu1 := free_at hx2 1
  have fu2 := free_at hx2 2
  have fv0 := free_at hy2 0
  have fv1 := free_at hy2 1
  have fv2 := free_at hy2 2
  simp at u0 u1 u2 v0 v1 v2
  have HB2 := Lib.hid (HB1.out.trans (hb2.mono HB1.out.size))
  have HX2 := Lib.hid hx2
  have HY2 := Lib.hid hy2
  have HR2 := Lib.hid hr2
  clear hb2 hx2 hy2 hr2 x0 x1 x2 y0 y1 y2
  go_wp2_with fail
  obtain ⟨w3, hw3, hx3, hy3, hr3, hb3⟩ := swap_world w2 _ _ _ _ _ _ _ _ _ _ _ HX2.out HY2.out HR2.out (by omega) (by omega) (by omega)
  rw [← hw3]
  clear hw3 u0 u1 u2 v0 v1 v2 fu0 fu1 fu2 fv0 fv1 fv2
  have u0 := cell_at hx3 0
  have u1 := cell_at hx3 1
  have u2 := cell_at hx3 2
  have v0 := cell_at hy3 0
  have v1 := cell_at hy3 1
  have v2 := cell_at hy3 2
  simp at u0 u1 u2 v0 v1 v2
  have HB3 := Lib.hid (HB2.out.trans (hb3 w.heap.size (by omega) (by omega)))
  have HR3 := Lib.hid hr3
  clear hb3 hx3 hy3 hr3
  rw [run_callFunc_extern Tryz.func181 (by kernel_rfl) (by kernel_rfl) (by kernel_rfl) (e := sub64E) (by kernel_rfl), run_sub64E q p (by omega) (by omega) (by omega)]
  simp only [Result.andThen]
  rw [Oper.upon_value]
  go_wp2
  rw [run_callFunc_extern Tryz.func181 (by kernel_rfl) (by kernel_rfl) (by kernel_rfl) (e := sub64E) (by kernel_rfl), run_sub64E 0 0 (by omega) (by omega) (by omega)]
  simp only [Result.andThen]
  rw [Oper.upon_value]
  go_wp2_with fail
  refine (wfit_any true 0 (q - p) _ (by omega) (by omega) (by omega) (by omega)).mono ?_
  rintro e w4 ⟨rfl, hb4⟩
  rw [one_made (by omega)]
  have hr4 := keep hb4 HR3.out
  have q0 := cell_at hr4 0
  have q1 := cell_at hr4 1
  have q2 := cell_at hr4 2
  have g0 := free_at hr4 0
  have g1 := free_at hr4 1
  have g2 := free_at hr4 2
  simp at q0 q1 q2
  have HB4 := Lib.hid (HB3.out.trans (hb4.mono HB3.out.size))
  clear hb4 u0 u1 u2 v0 v1 v2
  dsimp only [WI.v]
  go_wp2_with fail
  refine bodyPost_ret (v := .tuple #[.agg #[.bool true, .int .u64 0, .int .u64 (q - p)], .int .i64 0]) (by simp [results, Tryz.results172, go_sem, q0, q1, q2]) rfl ?_
  exact ⟨rfl, ((HB4.out.setCell (by show w.heap.size ≤ w.heap.size + 1 + 1; omega) _).setCell (by show w.heap.size ≤ w.heap.size + 1 + 1; omega) _).setCell (by show w.heap.size ≤ w.heap.size + 1 + 1; omega) _⟩
set_option maxRecDepth 100000 in
set_option maxHeartbeats 2000000 in
theorem wadd_eq (q : Int) (w : World) (h0 : 1 ≤ q) (h2 : q ≤ 18446744073709551615) : Calls Tryz.prog 172 #[WI.v ⟨false, 0, q⟩, WI.v ⟨true, 0, q⟩] w fun e w' => e = .returned (.tuple #[WI.v ⟨false, 0, 0⟩, .int .i64 0]) ∧ Below w.heap.size w w' := by
  have hb : Below w.heap.size w (((w.alloc (.cells #[.bool false, .int .u64 0, .int .u64 q] 148)).alloc (.cells #[.bool true, .int .u64 0, .int .u64 q] 148)).alloc (.cells #[.bool false, .int .u64 0, .int .u64 0] 148)) := by go_grown
  have kx := keepA (.cells #[.bool false, .int .u64 0, .int .u64 0] 148) (keepA (.cells #[.bool true, .int .u64 0, .int .u64 q] 148) (heap_alloc_new w (.cells #[.bool false, .int .u64 0, .int .u64 q] 148)))
  have ky := keepA (.cells #[.bool false, .int .u64 0, .int .u64 0] 148) (heap_alloc_new (w.alloc (.cells #[.bool false, .int .u64 0, .int .u64 q] 148)) (.cells #[.bool true, .int .u64 0, .int .u64 q] 148))
  have kr := heap_alloc_new ((w.alloc (.cells #[.bool false, .int .u64 0, .int .u64 q] 148)).alloc (.cells #[.bool true, .int .u64 0, .int .u64 q] 148)) (.cells #[.bool false, .int .u64 0, .int .u64 0] 148)
  rw [World.size_alloc] at ky
  rw [World.size_alloc, World.size_alloc] at kr
  have KX := Lib.hid kx
  have KY := Lib.hid ky
  have KR := Lib.hid kr
  have HB := Lib.hid hb
  clear kx ky kr hb
  dsimp only [WI.v]
  go_enter Tryz.func172, Tryz.ntmps172
  go_wp2_with fail
  refine (wcheck_any ⟨false, 0, q⟩ ⟨true, 0, q⟩ _ (wf_lo (by omega) (by omega)) (wf_lo (by omega) (by omega)) (by simp [WI.form]) (form_lo (by omega))).mono ?_
  rintro e w1 ⟨rfl, hb1⟩
  have hx1 := keep hb1 KX.out
  have hy1 := keep hb1 KY.out
  have hr1 := keep hb1 KR.out
  have x0 := cell_at hx1 0
  have x1 := cell_at hx1 1
  have x2 := cell_at hx1 2
  have y0 := cell_at hy1 0
  have y1 := cell_at hy1 1
  have y2 := cell_at hy1 2
  simp at x0 x1 x2 y0 y1 y2
  have HB1 := Lib.hid (HB.out.trans (hb1.mono HB.out.size))
  have HR1 := Lib.hid hr1
  have HX1 := Lib.hid hx1
  have HY1 := Lib.hid hy1
  clear hb1 hx1 hy1 hr1
  go_wp2_with fail
  refine (wsize_any ⟨false, 0, q⟩ ⟨true, 0, q⟩ _).mono ?_
  rintro e w2 ⟨rfl, hb2⟩
  rw [sizeF_eq]
  have hx2 := keep hb2 HX1.out
  have hy2 := keep hb2 HY1.out
  have hr2 := keep hb2 HR1.out
  have u0 := cell_at hx2 0
  have u1 := cell_at hx2 1
  have u2 := cell_at hx2 2
  have v0 := cell_at hy2 0
  have v1 := cell_at hy2 1
  have v2 := cell_at hy2 2
  have fu0 := free_at hx2 0
  have fu1 := free_at hx2 1
  have fu2 := free_at hx2 2
  have fv0 := free_at hy2 0
  have fv1 := free_at hy2 1
  have fv2 := free_at hy2 2
  simp at u0 u1 u2 v0 v1 v2
  have HB2 := Lib.hid (HB1.out.trans (hb2.mono HB1.out.size))
  have HX2 := Lib.hid hx2
  have HY2 := Lib.hid hy2
  have HR2 := Lib.hid hr2
  clear hb2 hx2 hy2 hr2 x0 x1 x2 y0 y1 y2
  have HB3 := HB2
  have HR3 := HR2
  go_wp2_with fail
  rw [run_callFunc_extern Tryz.func181 (by kernel_rfl) (by kernel_rfl) (by kernel_rfl) (e := sub64E) (by kernel_rfl), run_sub64E q q (by omega) (by omega) (by omega), Int.sub_self]
  simp only [Result.andThen]
  rw [Oper.upon_value]
  go_wp2
  rw [run_callFunc_extern Tryz.func181 (by kernel_rfl) (by kernel_rfl) (by kernel_rfl) (e := sub64E) (by kernel_rfl), run_sub64E 0 0 (by omega) (by omega) (by omega)]
  simp only [Result.andThen]
  rw [Oper.upon_value]
  go_wp2_with fail
  refine (wfit_any false 0 0 _ (by omega) (by omega) (by omega) (by omega)).mono ?_
  rintro e w4 ⟨rfl, hb4⟩
  rw [made_zero]
  have hr4 := keep hb4 HR3.out
  have q0 := cell_at hr4 0
  have q1 := cell_at hr4 1
  have q2 := cell_at hr4 2
  have g0 := free_at hr4 0
  have g1 := free_at hr4 1
  have g2 := free_at hr4 2
  simp at q0 q1 q2
  have HB4 := Lib.hid (HB3.out.trans (hb4.mono HB3.out.size))
  clear hb4 u0 u1 u2 v0 v1 v2
  dsimp only [WI.v]
  go_wp2_with fail
  refine bodyPost_ret (v := .tuple #[.agg #[.bool false, .int .u64 0, .int .u64 0], .int .i64 0]) (by simp [results, Tryz.results172, go_sem, q0, q1, q2]) rfl ?_
  exact ⟨rfl, ((HB4.out.setCell (by show w.heap.size ≤ w.heap.size + 1 + 1; omega) _).setCell (by show w.heap.size ≤ w.heap.size + 1 + 1; omega) _).setCell (by show w.heap.size ≤ w.heap.size + 1 + 1; omega) _⟩
end Go.Proofs.YtoadihebdaooaaaGreat
namespace Go.Proofs.YtoadihebdaooaaaGreat
open Go.RowKit
set_option linter.unusedVariables false
theorem wadd_mix (p q : Int) (w : World) (h0 : 0 ≤ p) (h1 : p ≤ q) (h2 : 1 ≤ q) (h3 : q ≤ 18446744073709551615) : Calls Tryz.prog 172 #[WI.v ⟨false, 0, p⟩, WI.v ⟨true, 0, q⟩] w fun e w' => e = .returned (.tuple #[WI.v (WI.made true 0 (q - p)), .int .i64 0]) ∧ Below w.heap.size w w' := by
  by_cases he : p = q
  · subst he
    rw [Int.sub_self, made_zero]
    exact wadd_eq p w h2 h3
  · rw [one_made (by omega)]
    exact wadd_lt p q w h0 (by omega) h3
set_option maxRecDepth 100000 in
set_option maxHeartbeats 8000000 in
theorem wsub_pos (p q : Int) (w : World) (h0 : 0 ≤ p) (h1 : p ≤ q) (h2 : 1 ≤ q) (h3 : q ≤ 18446744073709551615) : Calls Tryz.prog 152 #[WI.v ⟨false, 0, p⟩, WI.v ⟨false, 0, q⟩] w fun e w' => e = .returned (.tuple #[WI.v (WI.made true 0 (q - p)), .int .i64 0]) ∧ Below w.heap.size w w' := by
  have hb : Below w.heap.size w (((w.alloc (.cells #[.bool false, .int .u64 0, .int .u64 p] 148)).alloc (.cells #[.bool false, .int .u64 0, .int .u64 q] 148)).alloc (.cells #[.bool false, .int .u64 0, .int .u64 0] 148)) := by go_grown
  have kx := keepA (.cells #[.bool false, .int .u64 0, .int .u64 0] 148) (keepA (.cells #[.bool false, .int .u64 0, .int .u64 q] 148) (heap_alloc_new w (.cells #[.bool false, .int .u64 0, .int .u64 p] 148)))
  have ky := keepA (.cells #[.bool false, .int .u64 0, .int .u64 0] 148) (heap_alloc_new (w.alloc (.cells #[.bool false, .int .u64 0, .int .u64 p] 148)) (.cells #[.bool false, .int .u64 0, .int .u64 q] 148))
  have kr := heap_alloc_new ((w.alloc (.cells #[.bool false, .int .u64 0, .int .u64 p] 148)).alloc (.cells #[.bool false, .int .u64 0, .int .u64 q] 148)) (.cells #[.bool false, .int .u64 0, .int .u64 0] 148)
  rw [World.size_alloc] at ky
  rw [World.size_alloc, World.size_alloc] at kr
  have KX := Lib.hid kx
  have KY := Lib.hid ky
  have KR := Lib.hid kr
  have HB := Lib.hid hb
  clear kx ky kr hb
  have HA : Hid (∀ w, Calls Tryz.prog 172 #[WI.v ⟨false, 0, p⟩, WI.v ⟨true, 0, q⟩] w fun e w' => e = .returned (.tuple #[WI.v (WI.made true 0 (q - p)), .int .i64 0]) ∧ Below w.heap.size w w') := Lib.hid (fun w => wadd_mix p q w h0 h1 h2 h3)
  obtain ⟨⟨rn, rh, rl⟩, hr⟩ : ∃ r, r = WI.made true 0 (q - p) := ⟨_, rfl⟩
  rw [← hr] at HA ⊢
  clear hr
  dsimp only [WI.v] at *
  have HN : Hid (WI.made (!(⟨false, 0, q⟩ : WI).neg) (⟨false, 0, q⟩ : WI).hi (⟨false, 0, q⟩ : WI).lo = ⟨true, 0, q⟩) := Lib.hid (by show WI.made true 0 q = _; exact one_made (by omega))
  have H0 := Lib.hid (show WI.wf ⟨false, 0, p⟩ from ⟨⟨by simp, by simp⟩, h0, by show p ≤ _; omega⟩)
  go_enter Tryz.func152, Tryz.ntmps152
  go_wp2_with fail
  refine (wcheck_any ⟨false, 0, p⟩ ⟨false, 0, q⟩ _ H0.out (wf_lo (by omega) (by omega)) (by simp [WI.form]) (form_lo (by omega))).mono ?_
  rintro e w1 ⟨rfl, hb1⟩
  have hx1 := keep hb1 KX.out
  have hy1 := keep hb1 KY.out
  have hr1 := keep hb1 KR.out
  have x0 := cell_at hx1 0
  have x1 := cell_at hx1 1
  have x2 := cell_at hx1 2
  have y0 := cell_at hy1 0
  have y1 := cell_at hy1 1
  have y2 := cell_at hy1 2
  simp at x0 x1 x2 y0 y1 y2
  have HB1 := Lib.hid (HB.out.trans (hb1.mono HB.out.size))
  have HR1 := Lib.hid hr1
  have HX1 := Lib.hid hx1
  clear hb1 hx1 hy1 hr1
  have fin : ∀ w3, Below w1.heap.size w1 w3 → w3.heap[w.heap.size + 1 + 1]? = some (.cells #[.bool false, .int .u64 0, .int .u64 0] 148 (0, 0)) := fun w3 h => keep h HR1.out
  have FIN := Lib.hid fin
  clear fin
  go_upto_region 4 with (fail)
  go_region_with (first
    | (go_at_call 173; refine (wneg_any ⟨false, 0, q⟩ _ (wf_lo (by omega) (by omega)) (form_lo (by omega))).mono ?_; rintro e w2 ⟨rfl, hb2⟩; rw [HN.out]; dsimp only [WI.v]; have HB2 := Lib.hid (show Below w1.heap.size w1 w2 from ((Below.refl w1.heap.size w1).drew).trans (hb2.mono (by simp))); clear hb2; have z0 := cell_at (keep HB2.out HX1.out) 0; have z1 := cell_at (keep HB2.out HX1.out) 1; have z2 := cell_at (keep HB2.out HX1.out) 2; simp at z0 z1 z2)
    | (go_at_call 172; refine (HA.out _).mono ?_; rintro e w3 ⟨rfl, hb3⟩; dsimp only [WI.v]; have HB3 := Lib.hid (HB2.out.trans (hb3.mono HB2.out.size)); clear hb3; have hr2 := FIN.out _ HB3.out; have q0 := cell_at hr2 0; have q1 := cell_at hr2 1; have q2 := cell_at hr2 2; have g0 := free_at hr2 0; have g1 := free_at hr2 1; have g2 := free_at hr2 2; simp at q0 q1 q2; have HB4 := Lib.hid (HB1.out.trans (HB3.out.mono HB1.out.size)))
    )
  all_goals
    go_wp2_with fail
    refine bodyPost_ret (v := .tuple #[.agg #[.bool rn, .int .u64 rh, .int .u64 rl], .int .i64 0]) (by simp [results, Tryz.results152, go_sem, q0, q1, q2]) rfl ?_
    exact ⟨rfl, ((HB4.out.setCell (by show w.heap.size ≤ w.heap.size + 1 + 1; omega) _).setCell (by show w.heap.size ≤ w.heap.size + 1 + 1; omega) _).setCell (by show w.heap.size ≤ w.heap.size + 1 + 1; omega) _⟩
end Go.Proofs.YtoadihebdaooaaaGreat
