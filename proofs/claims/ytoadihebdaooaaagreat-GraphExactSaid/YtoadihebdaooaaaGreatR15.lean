/- GraphExact, the plain part: the graph does what the document's graph does. -/
import Derived.Test.YtoadihebdaooaaaGreatR14
import Derived.Test.YtoadihebdaooaaaGreatD0
namespace Go.Proofs.YtoadihebdaooaaaGreat
open Go.RowKit
set_option linter.unusedVariables false
theorem bitAt_nat (s i : Nat) : bitAt (s : Int) i = s.testBit i := by
  unfold bitAt
  have e : ((s : Int) / 2 ^ i % 2) = ((s / 2 ^ i % 2 : Nat) : Int) := by simp
  rw [e, Nat.testBit_eq_decide_div_mod_eq]
  by_cases hh : s / 2 ^ i % 2 = 1
  · rw [hh]; rfl
  · simp [hh]; omega
theorem hasB_at {s c : Int} (h0 : 0 ≤ s) (h1 : s ≤ 4294967295) (hc : idB c = true) : hasB s c = bitAt s c.toNat := by
  obtain ⟨n, rfl, g1, g2⟩ := id_nat hc
  obtain ⟨s, rfl⟩ := Int.eq_ofNat_of_zero_le h0
  rw [hasB_bit (by omega) g1 g2, Int.toNat_natCast, bitAt_nat]
theorem ids_same {s : Int} (h0 : 0 ≤ s) (h1 : s ≤ 4294967295) : idsTo s 24 = ids10 s 24 := by
  unfold idsTo ids10
  apply List.filter_congr
  intro x hx
  obtain ⟨j, hj, rfl⟩ := List.mem_map.1 hx
  have := List.mem_range.1 hj
  exact hasB_at h0 h1 (idB_true (by omega) (by omega))
theorem mask_bit : ∀ i, i < 32 → (4261412865 : Nat).testBit i = !decide (1 ≤ i ∧ i ≤ 24) := by decide
theorem mask_bit2 : ∀ i, i < 32 → (33554430 : Nat).testBit i = decide (1 ≤ i ∧ i ≤ 24) := by decide
theorem sIs_nat {s : Nat} (hs : s < 4294967296) : sIs (s : Int) = (s &&& 4261412865 == 0) := by
  unfold sIs
  rw [show (33554430 : Int) = ((33554430 : Nat) : Int) from rfl, u32_andNot_nat _ _ hs (by omega)]
  show (((s &&& 4261412865 : Nat) : Int) == 0) = _
  by_cases h : s &&& 4261412865 = 0
  · rw [h]; rfl
  · rw [beq_false_of_ne h, beq_false_of_ne (by omega)]
theorem sIs_same {s : Int} (h0 : 0 ≤ s) (h1 : s ≤ 4294967295) : sIs s = is10 s := by
  obtain ⟨s, rfl⟩ := Int.eq_ofNat_of_zero_le h0
  have hs : s < 4294967296 := by omega
  rw [sIs_nat hs]
  apply Bool.eq_iff_iff.2
  unfold is10
  rw [List.all_eq_true, beq_iff_eq]
  constructor
  · intro h i hi
    have hi := List.mem_range.1 hi
    have hb : (s &&& 4261412865).testBit i = false := by rw [h]; simp
    rw [Nat.testBit_and, mask_bit i hi] at hb
    rw [bitAt_nat]
    cases hx : s.testBit i
    · rfl
    · rw [hx] at hb; simp at hb; simp; omega
  · intro h
    apply Nat.eq_of_testBit_eq
    intro i
    rw [Nat.testBit_and, Nat.zero_testBit]
    by_cases hi : i < 32
    · have := h i (List.mem_range.2 hi)
      rw [bitAt_nat] at this
      rw [mask_bit i hi]
      cases hx : s.testBit i
      · rfl
      · rw [hx] at this; simp at this; simp; omega
    · rw [bit_high hs (by omega)]; rfl
theorem sIs_bd {s : Int} (h0 : 0 ≤ s) (h1 : s ≤ 4294967295) (h : sIs s = true) : s ≤ 33554430 := by
  obtain ⟨s, rfl⟩ := Int.eq_ofNat_of_zero_le h0
  have hs : s < 4294967296 := by omega
  rw [sIs_nat hs, beq_iff_eq] at h
  have e : s = s &&& 33554430 := by
    apply Nat.eq_of_testBit_eq
    intro i
    rw [Nat.testBit_and]
    by_cases hi : i < 32
    · have hb : (s &&& 4261412865).testBit i = false := by rw [h]; simp
      rw [Nat.testBit_and, mask_bit i hi] at hb
      rw [mask_bit2 i hi]
      cases hx : s.testBit i
      · rfl
      · rw [hx] at hb; simp at hb; simp; omega
    · rw [bit_high hs (by omega)]; rfl
  have : s &&& 33554430 ≤ 33554430 := Nat.and_le_right
  omega
theorem findC_idx (i : Int) (cs : List Cmp) : (findC i cs).isSome = decide (0 ≤ idxF i 0 cs) := by
  unfold findC
  cases hf : cs.find? (fun c => decide (c.id = i)) with
  | none => rw [idxF_none cs 0 hf]; rfl
  | some c =>
    obtain ⟨j, hj, _⟩ := idxF_some cs 0 hf
    rw [hj]; simp
theorem tableOk_same {ver most s : Int} {cs : List Cmp} (hk : schemaCheck ver cs = 0) (m1 : 1 ≤ most) (m2 : most ≤ 256) (h0 : 0 ≤ s) (h1 : s ≤ 4294967295) : tableOk ver cs s most = (is10 s && idsOk cs (ids10 s 24)) := by
  unfold tableOk idsOk
  rw [hk, sIs_same h0 h1, ids_same h0 h1, decide_eq_true m1, decide_eq_true m2]
  have e : (fun i => (findC i cs).isSome) = fun i => decide (0 ≤ idxF i 0 cs) := by funext i; exact findC_idx i cs
  rw [e]
  simp
theorem or_add {t n : Nat} (hn : n < 32) (ht : t + 2 ^ n < 4294967296) (hb : t.testBit n = false) : t ||| 2 ^ n = t + 2 ^ n := by
  have hp : 2 ^ n < 2 ^ 32 := Nat.pow_lt_pow_right (by omega) hn
  have g1 : t < 2 ^ 32 := Nat.lt_of_le_of_lt (Nat.le_add_right _ _) ht
  have g2 : t + 2 ^ n < 2 ^ 32 := ht
  have h : (BitVec.ofNat 32 t) &&& (BitVec.ofNat 32 (2 ^ n)) = 0#32 := by
    apply BitVec.eq_of_getLsbD_eq
    intro i hi
    simp only [BitVec.getLsbD_and, BitVec.getLsbD_ofNat, Nat.testBit_two_pow]
    by_cases e : n = i
    · subst e; simp [hb]
    · simp [e]
  have h2 := congrArg BitVec.toNat (BitVec.add_eq_or_of_and_eq_zero _ _ h)
  rw [BitVec.toNat_add, BitVec.toNat_or, BitVec.toNat_ofNat, BitVec.toNat_ofNat, Nat.mod_eq_of_lt g1, Nat.mod_eq_of_lt hp, Nat.mod_eq_of_lt g2] at h2
  exact h2.symm
theorem nextR_upd {s c : Int} {b : Bool} (h0 : 0 ≤ s) (h1 : s ≤ 33554430) (hc : idB c = true) (hb : bitAt s c.toNat = !b) : nextR s c = upd s c b := by
  obtain ⟨n, rfl, g1, g2⟩ := id_nat hc
  obtain ⟨s, rfl⟩ := Int.eq_ofNat_of_zero_le h0
  have hs : s < 4294967296 := by omega
  have hp : 2 ^ n ≤ 2 ^ 24 := Nat.pow_le_pow_right (by omega) g2
  rw [Int.toNat_natCast] at hb
  have hbn := hb
  rw [bitAt_nat] at hbn
  have e2 : ((2 : Int) ^ n) = ((2 ^ n : Nat) : Int) := by simp
  unfold nextR
  rw [Int.toNat_natCast, hb]
  cases b
  · simp only [Bool.not_false, if_true, upd, Bool.false_eq_true, if_false]
    rw [sWithout_nat hs g1 g2, e2]
    have ho : s = (s &&& (4294967295 - 2 ^ n)) ||| 2 ^ n := by
      apply Nat.eq_of_testBit_eq
      intro i
      rw [Nat.testBit_or, Nat.testBit_and, bit_not n i g2, Nat.testBit_two_pow]
      by_cases e : n = i
      · subst e; rw [hbn]; simp
      · by_cases hi : i < 32
        · simp [e, hi]
        · rw [bit_high hs (by omega)]; simp [e]
    have ha : (s &&& (4294967295 - 2 ^ n)) ||| 2 ^ n = (s &&& (4294967295 - 2 ^ n)) + 2 ^ n :=
      or_add (by omega) (by have : s &&& (4294967295 - 2 ^ n) ≤ s := Nat.and_le_left; omega) (by rw [Nat.testBit_and, bit_not n n g2]; simp)
    have : s = (s &&& (4294967295 - 2 ^ n)) + 2 ^ n := ho.trans ha
    omega
  · simp only [Bool.not_true, Bool.false_eq_true, if_false, upd, if_true]
    rw [sWith_nat hs g1 g2, e2, or_add (by omega) (by omega) (by simpa using hbn)]
    simp
/-- The graph and the document's graph. -/
structure Eqv (g : GS) (r : RG) : Prop where
  ver : r.ver = g.ver
  cs : r.cs = g.cs
  archs : r.archs = g.archs
  L : r.L = g.sigs
  W : ∀ x, knowsB r.W x = (g.ways x).isSome
  n : r.W.length = g.nw
  inv : Inv g
  bd : ∀ s ∈ g.sigs, 0 ≤ s ∧ s ≤ 33554430
  ok : schemaCheck g.ver g.cs = 0 ∧ 1 ≤ g.rows ∧ g.rows ≤ 256
theorem Eqv.make {g : GS} {r : RG} (h : Eqv g r) (hl : (g.ts.length : Int) ≤ g.archs) {s : Int} (h0 : 0 ≤ s) (h1 : s ≤ 4294967295) (tb : Nat) :
    (makeG g s tb).2 = (makeR r s).2 ∧ Eqv (makeG g s tb).1 (makeR r s).1 := by
  have hlen : g.sigs.length = g.ts.length := sigs_len g
  have hinv := (h.inv.made h0 h1 tb).1
  cases hp : posOf s g.sigs with
  | some i =>
    have e : makeR r s = (r, (i : Int), 0) := by unfold makeR; rw [h.L, hp]
    rw [makeG_has hp, e]; exact ⟨rfl, h⟩
  | none =>
    have hT := tableOk_same h.ok.1 h.ok.2.1 h.ok.2.2 h0 h1
    by_cases hk : tableOk g.ver g.cs s g.rows = true
    · have hk' : is10 s = true ∧ idsOk r.cs (ids10 s 24) = true := by rw [hT] at hk; rw [h.cs]; simpa using hk
      by_cases hf : g.archs = g.ts.length
      · have e : makeR r s = (r, 0, 5) := by unfold makeR; rw [h.L, hp]; simp only; rw [if_pos hk', if_pos (by rw [h.archs]; omega)]
        rw [makeG_full hp hk hf, e]; exact ⟨rfl, h⟩
      · have e : makeR r s = ({ r with L := r.L ++ [s] }, (r.L.length : Int), 0) := by unfold makeR; rw [h.L, hp]; simp only; rw [if_pos hk', if_neg (by rw [h.archs]; omega), ← h.L]
        rw [makeG_new hp hk hf] at hinv ⊢
        rw [e]
        refine ⟨by rw [h.L, hlen], ⟨h.ver, h.cs, h.archs, ?_, h.W, h.n, hinv, ?_, h.ok⟩⟩
        · show r.L ++ [s] = (g.ts ++ [(tb, s)]).map (·.2)
          rw [h.L]; simp [GS.sigs]
        · intro x hx
          have hx' : x ∈ g.sigs ++ [s] := by simpa [GS.sigs] using hx
          rcases List.mem_append.1 hx' with hx' | hx'
          · exact h.bd x hx'
          · obtain rfl : x = s := by simpa using hx'
            refine ⟨h0, sIs_bd h0 h1 ?_⟩
            rw [sIs_same h0 h1]; exact hk'.1
    · have hk' : ¬ (is10 s = true ∧ idsOk r.cs (ids10 s 24) = true) := by rw [hT] at hk; rw [h.cs]; simpa using hk
      have e : makeR r s = (r, 0, 6) := by unfold makeR; rw [h.L, hp]; simp only; rw [if_neg hk']
      rw [makeG_no hp (by simpa using hk), e]; exact ⟨rfl, h⟩
theorem knows_add (W : List (Int × Int × Bool)) (y x : Int × Int × Bool) : knowsB (addW W y) x = (knowsB W x || decide (y = x)) := by
  unfold addW
  split
  · rename_i hy
    by_cases e : y = x
    · subst e; rw [hy]; rfl
    · simp [e]
  · simp [knowsB, List.any_append]
theorem add_len (W : List (Int × Int × Bool)) (y : Int × Int × Bool) : (addW W y).length = W.length + if knowsB W y then 0 else 1 := by
  unfold addW
  split <;> simp
theorem Eqv.step {g : GS} {r : RG} (h : Eqv g r) (hl : (g.ts.length : Int) ≤ g.archs) (i c : Int) (b : Bool) (tb : Nat) :
    (stepG g i c b tb).2 = (stepR r (i, c, b)).2 ∧ Eqv (stepG g i c b tb).1 (stepR r (i, c, b)).1 := by
  have hlen : g.sigs.length = g.ts.length := sigs_len g
  have hinv := (h.inv.step i c b tb).1
  have hLl : (r.L.length : Int) = g.ts.length := by rw [h.L, hlen]
  by_cases h3 : i < 0 ∨ (g.ts.length : Int) ≤ i
  · have e1 : chkF g i c b = 3 := by unfold chkF; rw [if_pos h3]
    have e2 : stepR r (i, c, b) = (r, 0, 3) := by unfold stepR; rw [if_pos (by simpa [hLl] using h3)]
    rw [stepG_chk (by rw [e1]; decide), e1, e2]; exact ⟨rfl, h⟩
  · have n3 : ¬ ((i, c, b).1 < 0 ∨ (r.L.length : Int) ≤ (i, c, b).1) := by rw [hLl]; exact h3
    by_cases h6 : (findC c g.cs).isSome = false
    · have e1 : chkF g i c b = 6 := by unfold chkF; rw [if_neg h3, if_pos h6]
      have hix : idxF c 0 r.cs < 0 := by rw [findC_idx] at h6; rw [h.cs]; simpa using h6
      have e2 : stepR r (i, c, b) = (r, 0, 6) := by unfold stepR; rw [if_neg n3, if_pos hix]
      rw [stepG_chk (by rw [e1]; decide), e1, e2]; exact ⟨rfl, h⟩
    · have hfs : (findC c g.cs).isSome = true := by cases hx : (findC c g.cs).isSome <;> simp_all
      have n6 : ¬ idxF c 0 r.cs < 0 := by rw [findC_idx] at hfs; rw [h.cs]; simpa using hfs
      have hid := h.inv.ids c hfs
      have hil : i.toNat < g.sigs.length := by omega
      have hmem : g.sigs.getD i.toNat 0 ∈ g.sigs := by simp [List.getD, List.getElem?_eq_getElem hil]
      have hsb := h.bd _ hmem
      have hbit := hasB_at (c := c) hsb.1 (by omega) hid
      by_cases h7 : hasB (g.sigs.getD i.toNat 0) c = b
      · have e1 : chkF g i c b = 7 := by unfold chkF; rw [if_neg h3, if_neg h6, if_pos h7]
        have e2 : stepR r (i, c, b) = (r, 0, 7) := by unfold stepR; rw [if_neg n3, if_neg n6, if_pos (by rw [h.L]; simp only; rw [← hbit]; exact h7)]
        rw [stepG_chk (by rw [e1]; decide), e1, e2]; exact ⟨rfl, h⟩
      · have hck : chkF g i c b = 0 := by unfold chkF; rw [if_neg h3, if_neg h6, if_neg h7]
        have n7 : ¬ bitAt (r.L.getD (i, c, b).1.toNat 0) (i, c, b).2.1.toNat = (i, c, b).2.2 := by rw [h.L]; simp only; rw [← hbit]; exact h7
        have hb' : bitAt (g.sigs.getD i.toNat 0) c.toNat = !b := by rw [← hbit]; cases hx : hasB (g.sigs.getD i.toNat 0) c <;> cases b <;> simp_all
        have hnx : nextR (r.L.getD i.toNat 0) c = upd (g.sigs.getD i.toNat 0) c b := by rw [h.L]; exact nextR_upd hsb.1 hsb.2 hid hb'
        have hset : stepSet g i c b = upd (g.sigs.getD i.toNat 0) c b := by unfold stepSet; exact upd_set hsb.1 (by omega) hid (by rw [hbit]; exact hb')
        have hub := upd_bd (c := c) (b := b) hsb.1 (by omega : g.sigs.getD i.toNat 0 ≤ 4294967295)
        obtain ⟨m1, m2⟩ := h.make hl hub.1 hub.2 tb
        cases hw : g.ways (i, c, b) with
        | some n =>
          obtain ⟨a1, a2, ⟨s, a3, a4, a5⟩, a6⟩ := h.inv.wy i c b n hw
          have hgs : g.sigs.getD i.toNat 0 = s := by simp [List.getD, a3]
          have hpn := h.inv.nd n _ a5
          rw [hgs] at hnx
          have hM : makeR r (nextR (r.L.getD i.toNat 0) c) = (r, (n : Int), 0) := by unfold makeR; rw [hnx, h.L, hpn]
          have hk1 : knowsB r.W (i, c, b) = true := by rw [h.W, hw]; rfl
          have hk2 : knowsB r.W ((n : Int), c, !b) = true := by rw [h.W, a6]; rfl
          have e2 : stepR r (i, c, b) = (r, (n : Int), 0) := by
            unfold stepR; rw [if_neg n3, if_neg n6, if_neg n7]
            simp only
            rw [hM]
            simp only [ne_eq, not_true, if_false]
            unfold addW
            rw [if_pos hk1, if_pos hk2]
          rw [stepG_has hck hw, e2]; exact ⟨rfl, h⟩
        | none =>
          by_cases he : (makeG g (stepSet g i c b) tb).2.2 = 0
          · have heR : ¬ (makeR r (nextR (r.L.getD i.toNat 0) c)).2.2 ≠ 0 := by rw [hnx, ← m1, ← hset]; simpa using he
            have e2 : stepR r (i, c, b) = ({ (makeR r (upd (g.sigs.getD i.toNat 0) c b)).1 with W := addW (addW r.W (i, c, b)) ((makeR r (upd (g.sigs.getD i.toNat 0) c b)).2.1, c, !b) }, (makeR r (upd (g.sigs.getD i.toNat 0) c b)).2.1, 0) := by
              unfold stepR; rw [if_neg n3, if_neg n6, if_neg n7]
              simp only
              rw [if_neg heR, hnx]
            rw [stepG_new hck hw tb he] at hinv ⊢
            rw [hset] at hinv he ⊢
            rw [e2]
            obtain ⟨n, p1, p2, p3, p4, p5, p6, p7⟩ := makeG_ok he
            have hW := makeR_W r (upd (g.sigs.getD i.toNat 0) c b)
            rw [← m1]
            generalize makeG g (upd (g.sigs.getD i.toNat 0) c b) tb = M at *
            refine ⟨rfl, ⟨m2.ver, m2.cs, m2.archs, m2.L, ?_, ?_, hinv, m2.bd, m2.ok⟩⟩
            · intro x
              show knowsB (addW (addW r.W (i, c, b)) (M.2.1, c, !b)) x = (putW (putW g.ways (i, c, b) M.2.1.toNat) (M.2.1, c, !b) i.toNat x).isSome
              rw [knows_add, knows_add, h.W]
              unfold putW
              by_cases q1 : x = (M.2.1, c, !b)
              · subst q1; simp
              · rw [if_neg q1]
                by_cases q2 : x = (i, c, b)
                · subst q2; simp
                · rw [if_neg q2]; simp [Ne.symm q1, Ne.symm q2]
            · show (addW (addW r.W (i, c, b)) (M.2.1, c, !b)).length = g.nw + 1 + if (g.ways (M.2.1, c, !b)).isSome then 0 else 1
              have q : ((i, c, b) : Int × Int × Bool) ≠ (M.2.1, c, !b) := by intro e; simp at e
              rw [add_len, add_len, knows_add, h.W, h.W, hw, h.n]
              simp [q]
          · have heR : (makeR r (nextR (r.L.getD i.toNat 0) c)).2.2 ≠ 0 := by rw [hnx, ← m1, ← hset]; exact he
            have e2 : stepR r (i, c, b) = ((makeR r (nextR (r.L.getD i.toNat 0) c)).1, 0, (makeR r (nextR (r.L.getD i.toNat 0) c)).2.2) := by
              unfold stepR; rw [if_neg n3, if_neg n6, if_neg n7]
              simp only
              rw [if_pos heR]
            rw [hset] at he
            have m2' := m2
            rw [makeG_err he] at m2'
            rw [stepG_err hck hw tb (by rw [hset]; exact he), e2, hnx, hset, ← m1]
            exact ⟨rfl, m2'⟩
theorem Eqv.clone {g : GS} {r : RG} (h : Eqv g r) {ts' : List (Nat × Int)} (hs : ts'.map (·.2) = g.ts.map (·.2)) : Eqv { g with ts := ts' } r := by
  have e : ({ g with ts := ts' } : GS).sigs = g.sigs := hs
  exact ⟨h.ver, h.cs, h.archs, by rw [e]; exact h.L, h.W, h.n, ⟨by rw [e]; exact h.inv.nd, h.inv.ids, by rw [e]; exact h.inv.bd, by rw [e]; exact h.inv.wy⟩, by rw [e]; exact h.bd, h.ok⟩
end Go.Proofs.YtoadihebdaooaaaGreat
