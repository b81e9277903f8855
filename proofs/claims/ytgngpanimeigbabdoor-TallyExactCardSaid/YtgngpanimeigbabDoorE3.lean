/- Contract of retrofitref09.Digits. -/
import Derived.Test.YtgngpanimeigbabDoorT5
import Derived.Laws.BytesString
namespace Go.Proofs.YtgngpanimeigbabDoor
open Go.RowKit
set_option linter.unusedVariables false
/-- The digits of what is left: none of nothing. -/
def dg0 (u : Nat) : List UInt8 := if u = 0 then [] else Lib.decDigits u
theorem dg0_step (u : Nat) (h : u ≠ 0) : dg0 u = dg0 (u / 10) ++ [UInt8.ofNat (48 + u % 10)] := by
  unfold dg0
  rw [if_neg h]
  by_cases h10 : u < 10
  · rw [if_pos (by omega), Lib.decDigits_one h10]
    simp [Nat.mod_eq_of_lt h10]
  · rw [if_neg (by omega), Lib.decDigits, dif_neg h10]
theorem dig_step (u : Nat) : Lib.decDigits u = dg0 (u / 10) ++ [UInt8.ofNat (48 + u % 10)] := by
  by_cases h : u = 0
  · subst h; rw [Lib.decDigits_one (by omega)]; rfl
  · rw [← dg0_step u h]; unfold dg0; rw [if_neg h]
theorem cv_one (w : World) (x : Int) : Sem.run Tryd.prog (convert 86 9 (.slice (some ⟨w.heap.size, 0, none⟩) 1 1)) (w.alloc (.cells #[.int .u8 x] 5)) = .ok (.string ⟨[UInt8.ofNat x.toNat].toArray⟩) (w.alloc (.cells #[.int .u8 x] 5)) := by
  rw [run_convert_bytes_string (e := 5) _ _ _ _ _ _ Tryd.underlying86 Tryd.underlying5 Tryd.underlying9]
  have h := run_loadCells_list (P := Tryd.prog) (w := w.alloc (.cells #[.int .u8 x] 5)) ⟨w.heap.size, 0, none⟩ [.int .u8 x] (World.news_of_block (cs := #[.int .u8 x]) (t := 5) (fr := (0, 0)) (heap_alloc_new w _))
  exact (run_bytesToString _ _ 1 1 [x] h).trans rfl
def mz : Value → Nat
  | .string b => if b.data.size = 0 then 1 else 0
  | _ => 0
theorem mz_cons (b : UInt8) (l : List UInt8) : mz (.string ⟨(b :: l).toArray⟩) = 0 := by simp [mz]
theorem mz_nil : mz (.string ⟨([] : List UInt8).toArray⟩) = 1 := rfl
theorem sapp (q : Nat) (l : List UInt8) : (⟨#[48 + UInt8.ofNat q]⟩ ++ ⟨l.toArray⟩ : ByteArray) = ⟨(UInt8.ofNat (48 + q) :: l).toArray⟩ := by
  apply ByteArray.ext
  simp [UInt8.ofNat_add]
theorem sapp0 (l : List UInt8) : (⟨#[48]⟩ ++ ⟨l.toArray⟩ : ByteArray) = ⟨(UInt8.ofNat (48 + 0) :: l).toArray⟩ := by
  apply ByteArray.ext
  simp
theorem sapp1 (l : List UInt8) : (⟨#[45]⟩ ++ ⟨l.toArray⟩ : ByteArray) = ⟨(45 :: l).toArray⟩ := by
  apply ByteArray.ext
  simp
def DInv (n m : Int) (l : List UInt8) : Prop := (l = [] ∧ m = n) ∨ (l ≠ [] ∧ Lib.decDigits n.natAbs = dg0 m.natAbs ++ l)
theorem DInv.step {n m : Int} {l : List UInt8} (h : DInv n m l) (hne : l = [] ∨ m ≠ 0) {m2 : Int} (h2 : m2.natAbs = m.natAbs / 10) : DInv n m2 (UInt8.ofNat (48 + m.natAbs % 10) :: l) := by
  refine .inr ⟨by simp, ?_⟩
  rw [h2]
  rcases h with ⟨rfl, rfl⟩ | ⟨hl, hd⟩
  · exact dig_step _
  · have hm : m.natAbs ≠ 0 := by rcases hne with h | h; exact absurd h hl; omega
    rw [hd, dg0_step _ hm]
    simp
theorem DInv.len {n m : Int} {l : List UInt8} (h : DInv n m l) (hn : I64 n) : l.length ≤ 20 := by
  rcases h with ⟨rfl, _⟩ | ⟨_, hd⟩
  · simp
  · have h1 := congrArg List.length hd
    rw [Lib.decDigits_length, List.length_append] at h1
    have h2 := Lib.nDigits_le20 n.natAbs (by unfold I64 at hn; omega)
    omega
set_option maxRecDepth 100000 in
set_option maxHeartbeats 1000000 in
theorem digits_any (n : Int) (w : World) (hn : I64 n) : Calls Tryd.prog 17 #[.int .i64 n] w fun e w' => e = .returned (.string ⟨(Lib.itoa n).toArray⟩) ∧ Below w.heap.size w w' := by
  have HN := Lib.hid hn
  obtain ⟨h0, h1⟩ := hn
  go_enter Tryd.func17, Tryd.ntmps17
  go_wp2_with fail
  go_loopw [0, 3] (fun v s wr => ∃ (m : Int) (l : List UInt8), v = .int .i64 m ∧ s = .string ⟨l.toArray⟩ ∧ I64 m ∧ DInv n m l ∧ Below w.heap.size w wr) (fun v s _ => mz s + (intOf v).natAbs)
  case atStart => exact ⟨n, [], rfl, rfl, ⟨h0, h1⟩, .inl ⟨rfl, rfl⟩, Below.refl _ _⟩
  case round =>
    obtain ⟨m, l, rfl, rfl, ⟨hm0, hm1⟩, hml, hbw⟩ := hrel
    have hz := hbw.size
    have hl20 := hml.len HN.out
    have HB := Lib.hid hbw
    have HI := Lib.hid hml
    have hcv := fun x => cv_one wr x
    clear hml hbw
    by_cases hgo : l = [] ∨ m ≠ 0
    · have hbu : Below w.heap.size w (wr.alloc (.cells #[.int .u8 (48 + (m.natAbs % 10 : Nat) : Int)] 5)) := HB.out.alloc hz _
      have HBU := Lib.hid hbu
      clear hbu
      have st : ∀ m2 : Int, m2.natAbs = m.natAbs / 10 → DInv n m2 (UInt8.ofNat (48 + m.natAbs % 10) :: l) := fun m2 h2 => HI.out.step hgo h2
      have HST := Lib.hid st
      have hdec : (m = 0 → mz (.string ⟨l.toArray⟩) = 1) ∧ (m ≠ 0 → m.natAbs / 10 < m.natAbs) := ⟨fun h => by
        rcases hgo with rfl | h'
        · rfl
        · exact absurd h h', fun h => by omega⟩
      have HDEC := Lib.hid hdec
      have hq : (m.natAbs % 10 : Nat) < 10 := by omega
      clear st hdec
      rcases (by omega : m < 0 ∨ 0 ≤ m) with hs | hs
      · have t1 : m.tmod 10 = -((m.natAbs % 10 : Nat) : Int) := by
          rw [show m = -(m.natAbs : Int) by omega, Int.neg_tmod, Int.tmod_eq_emod_of_nonneg (by omega)]; omega
        have t2 : m.tdiv 10 = -((m.natAbs / 10 : Nat) : Int) := by
          rw [show m = -(m.natAbs : Int) by omega, Int.neg_tdiv, Int.tdiv_eq_ediv_of_nonneg (by omega)]; omega
        generalize hQ : m.natAbs % 10 = q at *
        generalize hP : m.natAbs / 10 = p at *
        have hp : (p : Int) ≤ 922337203685477581 := by omega
        have HQ := Lib.hid hQ
        have HP := Lib.hid hP
        clear hQ hP
        rcases (by omega : q = 0 ∨ 1 ≤ q) with rfl | hq1
        · replace t1 : m.tmod 10 = 0 := by simpa using t1
          by_cases hl : l = []
          · subst hl
            clear hgo
            go_wp2_with fail
            go_roundw
            case rel =>
              refine ⟨_, UInt8.ofNat (48 + 0) :: [], rfl, congrArg Value.string (sapp0 []), ?_, HST.out _ ?_, by simpa using HBU.out⟩
              · constructor <;> omega
              · omega
            case measure =>
              rw [show (⟨#[48]⟩ ++ ⟨([] : List UInt8).toArray⟩ : ByteArray) = (⟨(UInt8.ofNat (48 + 0) :: []).toArray⟩ : ByteArray) from (sapp0 []), mz_cons]
              have h1 := HDEC.out.1
              have h2 := HDEC.out.2
              simp only [intOf]
              rw [mz_nil]; omega
          · have hm : m ≠ 0 := by rcases hgo with h | h; exact absurd h hl; exact h
            have e1 : l.isEmpty = false := by cases l <;> simp_all
            have e2 : (m != 0) = true := by simp [hm]
            have HM := Lib.hid hm
            clear hgo hl hm
            go_wp2_with fail
            go_roundw
            case rel =>
              refine ⟨_, UInt8.ofNat (48 + 0) :: l, rfl, congrArg Value.string (sapp0 l), ?_, HST.out _ ?_, by simpa using HBU.out⟩
              · constructor <;> omega
              · omega
            case measure =>
              rw [show (⟨#[48]⟩ ++ ⟨(l : List UInt8).toArray⟩ : ByteArray) = (⟨(UInt8.ofNat (48 + 0) :: l).toArray⟩ : ByteArray) from (sapp0 l), mz_cons]
              have h1 := HDEC.out.1
              have h2 := HDEC.out.2
              simp only [intOf]
              have h3 := h2 HM.out; omega
        · by_cases hl : l = []
          · subst hl
            clear hgo
            go_wp2_with fail
            go_roundw
            case rel =>
              refine ⟨_, UInt8.ofNat (48 + q) :: [], rfl, congrArg Value.string (sapp q []), ?_, HST.out _ ?_, by simpa using HBU.out⟩
              · constructor <;> omega
              · omega
            case measure =>
              rw [show (⟨#[48 + UInt8.ofNat q]⟩ ++ ⟨([] : List UInt8).toArray⟩ : ByteArray) = (⟨(UInt8.ofNat (48 + q) :: []).toArray⟩ : ByteArray) from (sapp q []), mz_cons]
              have h1 := HDEC.out.1
              have h2 := HDEC.out.2
              simp only [intOf]
              rw [mz_nil]; omega
          · have hm : m ≠ 0 := by rcases hgo with h | h; exact absurd h hl; exact h
            have e1 : l.isEmpty = false := by cases l <;> simp_all
            have e2 : (m != 0) = true := by simp [hm]
            have HM := Lib.hid hm
            clear hgo hl hm
            go_wp2_with fail
            go_roundw
            case rel =>
              refine ⟨_, UInt8.ofNat (48 + q) :: l, rfl, congrArg Value.string (sapp q l), ?_, HST.out _ ?_, by simpa using HBU.out⟩
              · constructor <;> omega
              · omega
            case measure =>
              rw [show (⟨#[48 + UInt8.ofNat q]⟩ ++ ⟨(l : List UInt8).toArray⟩ : ByteArray) = (⟨(UInt8.ofNat (48 + q) :: l).toArray⟩ : ByteArray) from (sapp q l), mz_cons]
              have h1 := HDEC.out.1
              have h2 := HDEC.out.2
              simp only [intOf]
              have h3 := h2 HM.out; omega
      · have t1 : m % 10 = ((m.natAbs % 10 : Nat) : Int) := by omega
        have t2 : m / 10 = ((m.natAbs / 10 : Nat) : Int) := by omega
        generalize hQ : m.natAbs % 10 = q at *
        generalize hP : m.natAbs / 10 = p at *
        have hp : (p : Int) ≤ 922337203685477581 := by omega
        have HQ := Lib.hid hQ
        have HP := Lib.hid hP
        clear hQ hP
        by_cases hl : l = []
        · subst hl
          clear hgo
          go_wp2_with fail
          go_roundw
          case rel =>
            refine ⟨_, UInt8.ofNat (48 + q) :: [], rfl, congrArg Value.string (sapp q []), ?_, HST.out _ ?_, by simpa using HBU.out⟩
            · constructor <;> omega
            · omega
          case measure =>
            rw [show (⟨#[48 + UInt8.ofNat q]⟩ ++ ⟨([] : List UInt8).toArray⟩ : ByteArray) = (⟨(UInt8.ofNat (48 + q) :: []).toArray⟩ : ByteArray) from (sapp q []), mz_cons]
            have h1 := HDEC.out.1
            have h2 := HDEC.out.2
            simp only [intOf]
            rw [mz_nil]; omega
        · have hm : m ≠ 0 := by rcases hgo with h | h; exact absurd h hl; exact h
          have e1 : l.isEmpty = false := by cases l <;> simp_all
          have e2 : (m != 0) = true := by simp [hm]
          have HM := Lib.hid hm
          clear hgo hl hm
          go_wp2_with fail
          go_roundw
          case rel =>
            refine ⟨_, UInt8.ofNat (48 + q) :: l, rfl, congrArg Value.string (sapp q l), ?_, HST.out _ ?_, by simpa using HBU.out⟩
            · constructor <;> omega
            · omega
          case measure =>
            rw [show (⟨#[48 + UInt8.ofNat q]⟩ ++ ⟨(l : List UInt8).toArray⟩ : ByteArray) = (⟨(UInt8.ofNat (48 + q) :: l).toArray⟩ : ByteArray) from (sapp q l), mz_cons]
            have h1 := HDEC.out.1
            have h2 := HDEC.out.2
            simp only [intOf]
            have h3 := h2 HM.out; omega
    · have hl : l ≠ [] := fun h => hgo (.inl h)
      obtain rfl : m = 0 := by
        rcases (by omega : m = 0 ∨ m ≠ 0) with h | h
        · exact h
        · exact absurd (.inr h) hgo
      have e1 : l.isEmpty = false := by cases l <;> simp_all
      have hd : Lib.decDigits n.natAbs = l := by
        rcases HI.out with ⟨h, _⟩ | ⟨_, h⟩
        · exact absurd h hl
        · simpa [dg0] using h
      have hi : (n < 0 → Lib.itoa n = 45 :: l) ∧ (0 ≤ n → Lib.itoa n = l) := by
        unfold Lib.itoa
        refine ⟨fun h => by rw [if_pos h, hd], fun h => by rw [if_neg (by omega), ← hd]; congr 1; omega⟩
      have HIT := Lib.hid hi
      clear hgo hl hd hi
      rcases (by omega : n < 0 ∨ 0 ≤ n) with hs | hs
      · go_wp2_with fail
        go_ret
        exact ⟨by rw [HIT.out.1 hs, ← sapp1]; rfl, HB.out⟩
      · go_wp2_with fail
        go_ret
        exact ⟨by rw [HIT.out.2 hs]; rfl, HB.out⟩
end Go.Proofs.YtgngpanimeigbabDoor
