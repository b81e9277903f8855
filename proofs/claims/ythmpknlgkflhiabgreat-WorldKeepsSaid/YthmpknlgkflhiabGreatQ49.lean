/- WorldKeeps: the walk of the law. Printed by mkL9.py. -/
import Derived.Test.YthmpknlgkflhiabGreatQ48
import Derived.Test.YthmpknlgkflhiabGreatQ4
namespace Go.Proofs.YthmpknlgkflhiabGreat
open Go.RowKit
set_option linter.unusedVariables false
def mskL : List Bool := [false, false, false, false, false, false, true, false, true, true, true, true, true, true, true, true, true, true, true, true, true, true, true, true, true, true, true, true, false, false, false, false, false, false, false, false, false, false, false, false, false, false, true, true, true, true, true, true, true, true, true, true, true, true, true, true, true, true, true, true, true, true, true, true, true, true, true, true, true, true, true, true, true, true, true, true, true, true, true, true, true, true, true, true, true, true, true, true, true, true, true, true, true, true, true, true, true, true, true, true, true, true, true, true, true, true, true, true, true, true, true, true, true, true, true, true, true, true, true, true, true, true, true, true, true, true, true, true, true, true, true, true, true, true, true, true, true, true, true, true, true, true, true, true, true, true, true, true, true, true, true, true, true, true, true, true, true, true, true, true, true, true, true, true, true, true, true, true, true, true, true, true, true, true, true, true, true, true, true, true, true, true, true, true, true, true, true, true, true, true, true, true, true, true, true, true, true, true, true, true, true, true, true, true, true, true, true, true, true, true, true, true, true, true, true, true, true, true, true, true, true, true, true, true, true, true, true, true, true, true, true, true, true, true, true, true, true, true, true, true, true, true, true, true, true, true]
def msk14 : List Bool := [false, false, false, false, false, false, false, false, false, false, false, false, false, false, false, false, false, false, false, false, false, false, false, false, false, false, false, false, false, false, false, false, false, false, false, false, false, false, false, false, false, false, false, false, false, false, false, false, false, false, false, false, false, false, true, true, true, true, true, true, true, true, false, false, false, false, false, false, false, false, false, false, false, false, false, false, false, false, false, false, false, false, false, false, false, false, false, false, false, false, false, false, false, false, false, false, false, false, false, false, false, false, false, false, false, false, false, false, false, false, false, false, false, false, false, false, false, false, false, false, false, false, false, false, false, false, false, false, false, false, false, false, false, false, false, false, false, false, false, false, false, false, false, false, false, false, false, false, false, false, false, false, false, false, false, false, false, false, false, false, false, false, false, false, false, false, false, false, false, false, false, false, false, false, false, false, false, false, false, false, false, false, false, false, false, false, false, false, false, false, false, false, false, false, false, false, false, false, false, false, false, false, false, false, false, false, false, false, false, false, false, false, false, false, false, false, false, false, false, false, false, false, false, false, false, false, false, false, false, false, false, false, false, false, false, false, false, false, false, false, false, false, false, false, false, false]
def msk15 : List Bool := [false, false, false, false, false, false, false, false, false, false, false, true, false, false, false, false, false, false, false, false, false, false, false, false, false, false, false, false, false, false, false, false, false, false, false, false, false, false, false, false, false, false, false, false, false, false, false, false, false, false, false, false, false, false, false, false, false, false, false, false, false, false, true, true, true, true, true, true, true, true, false, false, false, false, false, false, false, false, false, false, false, false, false, false, false, false, false, false, false, false, false, false, false, false, false, false, false, false, false, false, false, false, false, false, false, false, false, false, false, false, false, false, false, false, false, false, false, false, false, false, false, false, false, false, false, false, false, false, false, false, false, false, false, false, false, false, false, false, false, false, false, false, false, false, false, false, false, false, false, false, false, false, false, false, false, false, false, false, false, false, false, false, false, false, false, false, false, false, false, false, false, false, false, false, false, false, false, false, false, false, false, false, false, false, false, false, false, false, false, false, false, false, false, false, false, false, false, false, false, false, false, false, false, false, false, false, false, false, false, false, false, false, false, false, false, false, false, false, false, false, false, false, false, false, false, false, false, false, false, false, false, false, false, false, false, false, false, false, false, false, false, false, false, false, false, false]
def mskP : List Bool := [false, false, false, false, false, false, false, false, false, false, false, false, false, true, true, true, true, false, false, false, false, false, false, false, false, false, false, false, false, false, false, false, false, false, false, false, false, false, false, false, false, false, false, false, false, false, false, false, false, false, false, false, false, false, false, false, false, false, false, false, false, false, false, false, false, false, false, false, false, false, false, false, false, true, true, true, true, true, true, true, true, true, true, true, true, true, true, true, true, true, true, true, false, false, false, false, false, false, false, false, false, false, false, false, false, false, false, false, false, false, false, false, false, false, false, false, false, false, false, false, false, false, false, false, false, false, false, false, false, false, false, false, false, false, false, false, false, false, false, false, false, false, false, false, false, false, false, false, false, false, false, false, false, false, false, false, false, false, false, false, false, false, false, false, false, false, false, false, false, false, false, false, false, false, false, false, false, false, false, false, false, false, false, false, false, false, false, false, false, false, false, false, false, false, false, false, false, false, false, false, false, false, false, false, false, false, false, false, false, false, false, false, false, false, false, false, false, false, false, false, false, false, false, false, false, false, false, false, false, false, false, false, false, false, false, false, false, false, false, false, false, false, false, false, false, false]
def mskF : List Bool := [false, false, false, false, false, false, false, false, false, false, false, false, false, false, false, false, false, false, false, false, false, false, false, false, false, false, false, false, false, false, false, false, false, false, false, false, false, false, false, false, false, false, false, false, false, false, false, false, false, false, false, false, false, false, false, false, false, false, false, false, false, false, false, false, false, false, false, false, false, false, false, false, false, false, false, false, false, false, false, false, false, false, false, false, false, false, false, false, false, false, false, false, false, false, false, false, false, false, false, false, true, true, true, true, false, false, false, false, false, false, false, false, false, false, false, false, false, false, false, false, false, false, false, false, false, false, false, false, false, false, false, false, false, false, false, false, false, false, false, false, false, false, false, false, false, false, false, false, false, false, false, false, false, false, false, false, false, false, false, false, false, false, false, false, false, false, false, false, false, false, false, false, false, false, false, false, false, false, false, false, false, false, false, false, false, false, false, false, false, false, false, false, false, false, false, false, false, false, false, false, false, false, false, false, false, false, false, false, false, false, false, false, false, false, false, false, false, false, false, false, false, false, false, false, false, false, false, false, false, false, false, false, false, false, false, false, false, false, false, false, false, false, false, false, false, false]
def mskS : List Bool := [false, false, false, false, false, false, false, false, true, false, false, false, false, false, false, false, false, false, false, true, true, false, false, false, false, false, false, false, false, false, false, false, false, false, false, false, false, false, false, false, false, false, false, false, false, false, false, false, false, false, false, false, false, false, false, false, false, false, false, false, false, false, false, false, false, false, false, false, false, false, false, false, false, false, false, false, false, false, false, false, false, false, false, false, false, false, false, false, false, false, false, false, false, false, false, false, false, false, false, false, false, false, false, false, false, false, true, true, true, true, true, true, true, true, true, true, true, true, true, true, true, true, true, true, true, true, true, true, true, true, true, true, true, true, true, true, true, true, true, true, true, true, true, true, true, true, false, false, false, false, false, false, false, false, false, false, false, false, false, false, false, false, false, false, false, false, false, false, false, false, false, false, false, false, false, false, false, false, false, false, false, false, false, false, false, false, false, false, false, false, false, false, false, false, false, false, false, false, false, false, false, false, false, false, false, false, false, false, false, false, false, false, false, false, false, false, false, false, false, false, false, false, false, false, false, false, false, false, false, false, false, false, false, false, false, false, false, false, false, false, false, false, false, false, false, false]
def msk46 : List Bool := [false, false, false, false, false, false, false, false, false, false, false, false, false, false, false, false, false, false, false, false, false, false, true, false, false, false, false, false, false, false, false, false, false, false, false, false, false, false, false, false, false, false, false, false, false, false, false, false, false, false, false, false, false, false, false, false, false, false, false, false, false, false, false, false, false, false, false, false, false, false, false, false, false, false, false, false, false, false, false, false, false, false, false, false, false, false, false, false, false, false, false, false, false, false, false, false, false, false, false, false, false, false, false, false, false, false, false, false, false, false, false, false, false, false, false, false, false, false, false, false, false, false, false, false, false, false, false, false, false, false, false, false, false, false, false, false, false, false, false, false, false, false, false, false, false, false, false, false, false, false, false, false, true, true, false, false, false, false, false, false, false, false, false, false, false, false, false, false, false, false, false, false, false, false, false, false, false, false, false, false, false, false, false, false, false, false, false, false, false, false, false, false, false, false, false, false, false, false, false, false, false, false, false, false, false, false, false, false, false, false, false, false, false, false, false, false, false, false, false, false, false, false, false, false, false, false, false, false, false, false, false, false, false, false, false, false, false, false, false, false, false, false, false, false, false, false]
def msk47 : List Bool := [false, false, false, false, false, false, false, false, false, false, false, false, false, false, false, false, false, false, false, false, false, false, false, false, false, false, false, false, false, false, false, false, false, false, false, false, false, false, false, false, false, false, false, false, false, false, false, false, false, false, false, false, false, false, false, false, false, false, false, false, false, false, false, false, false, false, false, false, false, false, false, false, false, false, false, false, false, false, false, false, false, false, false, false, false, false, false, false, false, false, false, false, false, false, false, false, false, false, false, false, false, false, false, false, false, false, false, false, false, false, false, false, false, false, false, false, false, false, false, false, false, false, false, false, false, false, false, false, false, false, false, false, false, false, false, false, false, false, false, false, false, false, false, false, false, false, false, false, false, false, false, false, false, false, true, true, true, true, true, true, true, false, false, false, false, false, false, false, false, false, false, false, false, false, false, false, false, false, false, false, false, false, false, false, false, false, false, false, false, false, false, false, false, false, false, false, false, false, false, false, false, false, false, false, false, false, false, false, false, false, false, false, false, false, false, false, false, false, false, false, false, false, false, false, false, false, false, false, false, false, false, false, false, false, false, false, false, false, false, false, false, false, false, false, false, false]
def msk48 : List Bool := [false, false, false, false, false, false, false, false, false, false, false, false, false, false, false, false, false, false, false, false, false, false, true, false, false, false, false, false, false, false, false, false, false, false, false, false, false, false, false, false, false, false, false, false, false, false, false, false, false, false, false, false, false, false, false, false, false, false, false, false, false, false, false, false, false, false, false, false, false, false, false, false, false, false, false, false, false, false, false, false, false, false, false, false, false, false, false, false, false, false, false, false, false, false, false, false, false, false, false, false, false, false, false, false, false, false, false, false, false, false, false, false, false, false, false, false, false, false, false, false, false, false, false, false, false, false, false, false, false, false, false, false, false, false, false, false, false, false, false, false, false, false, false, false, false, false, false, false, false, false, false, false, false, false, false, false, false, false, false, false, true, true, true, false, false, false, false, false, false, false, false, false, false, false, false, false, false, false, false, false, false, false, false, false, false, false, false, false, false, false, false, false, false, false, false, false, false, false, false, false, false, false, false, false, false, false, false, false, false, false, false, false, false, false, false, false, false, false, false, false, false, false, false, false, false, false, false, false, false, false, false, false, false, false, false, false, false, false, false, false, false, false, false, false, false, false]
def mskQ : List Bool := [false, false, false, false, false, false, false, false, false, false, false, false, false, false, false, false, false, false, false, false, false, false, false, false, false, false, false, false, false, false, false, false, false, false, false, false, false, false, false, false, false, false, false, false, false, false, false, false, false, false, false, false, false, false, false, false, false, false, false, false, false, false, false, false, false, false, false, false, false, false, false, false, false, false, false, false, false, false, false, false, false, false, false, false, false, false, false, false, false, false, false, false, false, false, false, false, false, false, false, false, false, false, false, false, false, false, false, false, false, false, false, false, false, false, false, false, false, false, false, false, false, false, false, false, false, false, false, false, false, false, false, false, false, false, false, false, false, false, false, false, false, false, false, false, false, false, false, false, false, false, false, false, false, false, false, false, false, false, false, false, false, false, false, true, true, true, true, true, true, true, true, true, true, true, true, true, true, true, true, true, true, true, true, true, true, true, true, true, true, true, true, true, true, false, false, false, false, false, false, false, false, false, false, false, false, false, false, false, false, false, false, false, false, false, false, false, false, false, false, false, false, false, false, false, false, false, false, false, false, false, false, false, false, false, false, false, false, false, false, false, false, false, false, false, false, false]
def mskT : List Bool := [false, false, false, false, false, false, true, false, false, false, false, false, false, false, false, false, false, false, false, false, false, false, false, true, true, true, false, false, false, false, false, false, false, false, false, false, false, false, false, false, false, false, false, false, false, false, false, false, false, false, false, false, false, false, false, false, false, false, false, false, false, false, false, false, false, false, false, false, false, false, false, false, false, false, false, false, false, false, false, false, false, false, false, false, false, false, false, false, false, false, false, false, false, false, false, false, false, false, false, false, false, false, false, false, false, false, false, false, false, false, false, false, false, false, false, false, false, false, false, false, false, false, false, false, false, false, false, false, false, false, false, false, false, false, false, false, false, false, false, false, false, false, false, false, false, false, false, false, false, false, false, false, false, false, false, false, false, false, false, false, false, false, false, false, false, false, false, false, false, false, false, false, false, false, false, false, false, false, false, false, false, false, false, false, false, false, false, false, false, false, false, false, false, true, true, true, true, true, true, true, true, true, true, true, true, true, true, true, true, true, true, true, true, true, true, true, true, true, true, true, true, true, true, true, true, true, true, true, true, false, false, false, false, false, false, false, false, false, false, false, false, false, false, false, false, false]
def mskU : List Bool := [false, false, false, false, false, false, true, false, false, false, false, false, false, false, false, false, false, false, false, false, false, false, false, false, false, false, false, true, false, false, false, false, false, false, false, false, false, false, false, false, false, false, false, false, false, false, false, false, false, false, false, false, false, false, false, false, false, false, false, false, false, false, false, false, false, false, false, false, false, false, false, false, false, false, false, false, false, false, false, false, false, false, false, false, false, false, false, false, false, false, false, false, false, false, false, false, false, false, false, false, false, false, false, false, false, false, false, false, false, false, false, false, false, false, false, false, false, false, false, false, false, false, false, false, false, false, false, false, false, false, false, false, false, false, false, false, false, false, false, false, false, false, false, false, false, false, false, false, false, false, false, false, false, false, false, false, false, false, false, false, false, false, false, false, false, false, false, false, false, false, false, false, false, false, false, false, false, false, false, false, false, false, false, false, false, false, false, false, false, false, false, false, false, false, false, false, false, false, false, false, false, false, false, false, false, false, false, false, false, false, false, false, false, false, false, false, false, false, false, false, false, false, false, false, false, false, false, false, false, false, false, true, true, true, true, true, true, true, true, true, true, true, true, true, true, true]
def IsSlN (n : Nat) : Value → World → Prop := fun v _ => ∃ a c, v = .slice a n c
theorem lasts_slN (n : Nat) : Lasts (IsSlN n) := fun _ _ _ h _ => h
def k_list0 (na : Option Addr) (MN nc SM SN WB SB : Nat) (c1 c3 err : Int) : List (Value → World → Prop) :=
 [IsV (.slice na MN nc),
  IsV (.int .i64 (MN : Int)),
  IsV (.int .i64 (MN : Int)),
  IsV (.bool false),
  IsV (.bool false),
  IsV (.int .i64 0),
  IsV (.bool false),
  IsV (.bool false),
  IsV undef,
  IsV undef,
  IsV undef,
  IsV undef,
  IsV undef,
  IsV (.bool false),
  IsV (.bool false),
  IsV (.bool false),
  IsV (.pointer (some ⟨WB, 0, none⟩)),
  IsSlN SM,
  IsV (.int .i64 (SM : Int)),
  IsV (.pointer (some ⟨SB + 1, 2, none⟩)),
  IsV (.int .i64 c3),
  IsV (.bool false),
  IsV (.bool false),
  IsV (.bool false),
  IsV (.slice na MN nc),
  IsV (.int .i64 (MN : Int)),
  IsV (.pointer (some ⟨SB + 1, 0, none⟩)),
  IsV (.int .i64 c1),
  IsV (.bool false),
  IsV (.bool false)]
theorem k_list0_lasts (na : Option Addr) (MN nc SM SN WB SB : Nat) (c1 c3 err : Int) : ∀ p ∈ k_list0 na MN nc SM SN WB SB c1 c3 err, Lasts p := by
 simp only [k_list0, List.mem_cons, List.not_mem_nil, or_false]
 rintro p hp
 repeat (rcases hp with rfl | hp; first | exact lasts_v _ | exact lasts_slN _)
def k_list1 (na : Option Addr) (MN nc SM SN WB SB : Nat) (c1 c3 err : Int) : List (Value → World → Prop) :=
 [IsV (.slice na MN nc),
  IsV (.int .i64 (MN : Int)),
  IsV (.int .i64 (MN : Int)),
  IsV (.bool false),
  IsV (.bool false),
  IsV (.int .i64 err),
  IsV (.bool true),
  IsV (.bool true),
  IsV (.pointer (some ⟨WB, 0, none⟩)),
  IsSlN SM,
  IsV (.int .i64 (SM : Int)),
  IsV (.int .i64 (SN : Int)),
  IsV (.bool false),
  IsV (.bool false),
  IsV (.bool false),
  IsV (.bool false),
  IsV (.pointer (some ⟨WB, 0, none⟩)),
  IsSlN SM,
  IsV (.int .i64 (SM : Int)),
  IsV (.pointer (some ⟨SB + 1, 2, none⟩)),
  IsV (.int .i64 c3),
  IsV (.bool false),
  IsV (.bool false),
  IsV (.bool false),
  IsV (.slice na MN nc),
  IsV (.int .i64 (MN : Int)),
  IsV (.pointer (some ⟨SB + 1, 0, none⟩)),
  IsV (.int .i64 c1),
  IsV (.bool false),
  IsV (.bool false)]
theorem k_list1_lasts (na : Option Addr) (MN nc SM SN WB SB : Nat) (c1 c3 err : Int) : ∀ p ∈ k_list1 na MN nc SM SN WB SB c1 c3 err, Lasts p := by
 simp only [k_list1, List.mem_cons, List.not_mem_nil, or_false]
 rintro p hp
 repeat (rcases hp with rfl | hp; first | exact lasts_v _ | exact lasts_slN _)
structure KS (CR CA CE : Int) (w2 : World) (WB k : Nat) (ha : Option Addr) (hn hc : Nat) (H : List Int) (d : WD) (w : World) : Prop where
 lw : LW w2 d (2 * k) w
 wb : d.wb = WB
 row : w.ownsRow w2.heap.size 38 1 (.slice ha hn hc) hn (H.map (.int .u64))
 ap : ∀ b, (Value.slice ha hn hc).ownBlock = some b → ¬ d.foot b
 bd : ∀ e ∈ H, 0 ≤ e ∧ e < 18446744073709551616
 hk : hn ≤ k
 len : H.length = hn
 caps : d.caps.rows = CR ∧ d.caps.archs = CA ∧ d.caps.ents = CE
theorem KS.below {CR CA CE : Int} {w2 : World} {WB k : Nat} {ha : Option Addr} {hn hc : Nat} {H : List Int} {d : WD} {w w' : World} (h : KS CR CA CE w2 WB k ha hn hc H d w) (hb : Below w.heap.size w w') : KS CR CA CE w2 WB k ha hn hc H d w' :=
 ⟨h.lw.below hb, h.wb, ownsRow_below h.row hb, h.ap, h.bd, h.hk, h.len, h.caps⟩
structure PRow where
 a : Option Addr
 n : Nat
 c : Nat
 ps : List PW
def PRow.v (r : PRow) : Value := .slice r.a r.n r.c
structure PRows (B : Nat) (S : WS) (L : List Int) (m : Nat) (pra : Option Addr) (prc : Nat) (Ls : List PRow) (w : World) : Prop where
 row : w.ownsRow B 35 1 (.slice pra m prc) m (Ls.map PRow.v)
 len : Ls.length = m
 at_ : ∀ (j : Nat) (r : PRow) (e : Int), Ls[j]? = some r → L[j]? = some e → PO B w r.a r.n r.c r.ps ∧ cv r.ps = S.partsV e
theorem PRows.kp {B m prc : Nat} {S : WS} {L : List Int} {pra : Option Addr} {Ls : List PRow} {w w' : World} (h : PRows B S L m pra prc Ls w) (hk : Kp w w') : PRows B S L m pra prc Ls w' :=
 ⟨ownsRow_kp h.row hk (by decide), h.len, fun j r e hr he => ⟨(h.at_ j r e hr he).1.kp hk, (h.at_ j r e hr he).2⟩⟩
theorem PO.grown {B B' m n c : Nat} {e : TypeId} {s : Nat} {v : Value} {xs : List Value} {a : Option Addr} {ps : List PW} {w w' : World} (h : PO B w a n c ps) (ho : w.ownsRow B' e s v m xs) (hg : w.grownBy w' v.ownBlock) (h1 : 48 ≠ e) (h2 : 67 ≠ e) : PO B w' a n c ps :=
 ⟨h.row.kept hg (ownsRow_ne h.row ho h1), fun p hp => ⟨(h.vals p hp).1.kept hg (ownsRow_ne (h.vals p hp).1 ho h2), (h.vals p hp).2⟩, h.len⟩
theorem PRows.snoc {B m prc prc' : Nat} {S : WS} {L : List Int} {pra pra' : Option Addr} {Ls : List PRow} {w w' : World} {r : PRow} {e : Int} (h : PRows B S L m pra prc Ls w) (hg : w.grownBy w' (Value.slice pra m prc).ownBlock) (hn : w'.ownsRow B 35 1 (.slice pra' (m + 1) prc') (m + 1) (Ls.map PRow.v ++ [r.v])) (hr : PO B w r.a r.n r.c r.ps) (hc : cv r.ps = S.partsV e) (he : L[m]? = some e) : PRows B S L (m + 1) pra' prc' (Ls ++ [r]) w' := by
 refine ⟨by rw [List.map_append]; exact hn, by rw [List.length_append, h.len]; rfl, fun j x e' hx he' => ?_⟩
 rcases Nat.lt_or_ge j m with hj | hj
 ·rw [List.getElem?_append_left (by rw [h.len]; exact hj)] at hx
  obtain ⟨k1, k2⟩ := h.at_ j x e' hx he'
  exact ⟨k1.grown h.row hg (by decide) (by decide), k2⟩
 ·have hl := (List.getElem?_eq_some_iff.1 hx).1
  rw [List.length_append, h.len] at hl
  have hl : j < m + 1 := hl
  obtain rfl : j = m := by omega
  rw [List.getElem?_append_right (by rw [h.len]; exact Nat.le_refl _), h.len, Nat.sub_self] at hx
  simp at hx
  subst hx
  rw [he] at he'
  cases he'
  exact ⟨hr.grown h.row hg (by decide) (by decide), hc⟩
theorem Tryz.infoPs : (Tryz.prog.info? 35).map (fun i => (i.zero, i.size, i.bytes)) = some (some (.slice none 0 0), 1, 24) := by kernel_rfl
def PRI (B : Nat) (S : WS) (L : List Int) (w5 : World) (LN n : Nat) (v13 v14 : Value) (w : World) : Prop := ∃ (m : Nat) (pra : Option Addr) (prc : Nat) (Ls : List PRow), n + m = LN ∧ v14 = .int .i64 (m : Int) ∧ v13 = .slice pra m prc ∧ PRows B S L m pra prc Ls w ∧ Below B w5 w
structure KB (CR CA CE : Int) (w2 : World) (WB k : Nat) (ha : Option Addr) (hn hc : Nat) (H : List Int) (d : WD) (S0 : WS) (PX : Nat) (x : WA) (la : Option Addr) (LN lc B : Nat) (pra : Option Addr) (prc : Nat) (Ls : List PRow) (w : World) : Prop where
 ks : KS CR CA CE w2 WB k ha hn hc H d w
 px : w.heap[PX]? = some (.cells #[.int .i64 x.kind, .int .i64 x.i, .int .u64 x.e, .int .i64 x.comp, .slice x.pa x.pl x.pc] 37 (0, 0))
 lo : w.ownsRow 0 38 1 (.slice la LN lc) LN (S0.ix.liveL.map (.int .u64))
 ln : S0.ix.liveL.length = LN
 lap : ∀ b, (Value.slice la LN lc).ownBlock = some b → ¬ d.foot b
 ne : ∀ b, (Value.slice la LN lc).ownBlock = some b → (Value.slice ha hn hc).ownBlock ≠ some b
 pr : PRows B S0 S0.ix.liveL LN pra prc Ls w
section
variable {CR CA CE : Int} {w2 w w' : World} {WB k : Nat} {ha : Option Addr} {hn hc : Nat} {H : List Int} {d : WD} {S0 : WS} {PX : Nat} {x : WA} {la : Option Addr} {LN lc B : Nat} {pra : Option Addr} {prc : Nat} {Ls : List PRow}
theorem KB.below (h : KB CR CA CE w2 WB k ha hn hc H d S0 PX x la LN lc B pra prc Ls w) (hb : Below w.heap.size w w') : KB CR CA CE w2 WB k ha hn hc H d S0 PX x la LN lc B pra prc Ls w' :=
 ⟨h.ks.below hb, keep hb h.px, ownsRow_below h.lo hb, h.ln, h.lap, h.ne, h.pr.kp (Kp.of_below hb)⟩
theorem KB.cells (h : KB CR CA CE w2 WB k ha hn hc H d S0 PX x la LN lc B pra prc Ls w) : w.cell? ⟨PX, 0, none⟩ = some (.int .i64 x.kind) ∧ w.cell? ⟨PX, 3, none⟩ = some (.int .i64 x.comp) ∧ w.cell? ⟨PX, 4, none⟩ = some (.slice x.pa x.pl x.pc) := by
 have x0 := cell_at h.px 0
 have x3 := cell_at h.px 3
 have x4 := cell_at h.px 4
 simp at x0 x3 x4
 exact ⟨x0, x3, x4⟩
theorem LDeed.mono {M M' : Nat} {hh err dn : Int} (h : LDeed w2 d M hh err dn w w') (hM : M ≤ M') : LDeed w2 d M' hh err dn w w' := by
 obtain ⟨d', k1, k2, k3⟩ := h
 exact ⟨d', k1.mono hM, k2, k3⟩
theorem KB.deed (h : KB CR CA CE w2 WB k ha hn hc H d S0 PX x la LN lc B pra prc Ls w) {hh err dn : Int} (hd : LDeed w2 d (2 * (k + 1)) hh err dn w w') : ∃ d', KB CR CA CE w2 WB (k + 1) ha hn hc H d' S0 PX x la LN lc B pra prc Ls w' ∧ Deed d.S d'.S hh err dn := by
 obtain ⟨d', k1, k2, k3⟩ := hd
 have hap : ∀ {v : Value} {e : TypeId} {n b s : Nat} {xs : List Value}, w.ownsRow b e s v n xs → (∀ b, v.ownBlock = some b → ¬ d.foot b) → ∀ b, v.ownBlock = some b → ¬ d'.foot b := by
  intro v e n b s xs ho ha b hb hf
  rcases k2.foot b hf with hf | hf
  ·exact ha b hb hf
  ·have := (ho.lt b hb).2
   omega
 have hcp : d'.caps = d.caps := k3.caps
 refine ⟨d', ⟨⟨k1, k2.wb.trans h.ks.wb, ownsRow_out h.ks.row k2.out h.ks.ap, hap h.ks.row h.ks.ap, h.ks.bd, Nat.le_succ_of_le h.ks.hk, h.ks.len, by rw [hcp]; exact h.ks.caps⟩, k2.keep h.px (h.ks.lw.inn.raw.not_foot h.px (by decide)), ownsRow_out h.lo k2.out h.lap, h.ln, hap h.lo h.lap, h.ne, h.pr.kp (h.ks.lw.kp k2)⟩, k3⟩
theorem KB.push (h : KB CR CA CE w2 WB (k + 1) ha hn hc H d S0 PX x la LN lc B pra prc Ls w) (hk : hn ≤ k) {g cap : Nat} {n : Int} (n0 : 0 ≤ n) (n1 : n < 18446744073709551616) (hg : w.grownBy w' (Value.slice ha hn hc).ownBlock) (ho : w'.ownsRow w2.heap.size 38 1 (.slice (some ⟨g, 0, none⟩) (hn + 1) cap) (hn + 1) (H.map (.int .u64) ++ [.int .u64 n])) (hat : (Value.slice ha hn hc).ownBlock = some g ∨ g = w.heap.size) :
  KB CR CA CE w2 WB (k + 1) (some ⟨g, 0, none⟩) (hn + 1) cap (H ++ [n]) d S0 PX x la LN lc B pra prc Ls w' := by
 have hout : Out (fun b => (Value.slice ha hn hc).ownBlock = some b) w w' := ⟨hg.os, hg.tape, hg.output, hg.size, fun i hi hn => hg.block i hi (fun e => hn (by rw [← e]))⟩
 have hM : ∀ b, (Value.slice ha hn hc).ownBlock = some b → Mut w b := fun b hb => by
  obtain ⟨cur, hh⟩ := row_type h.ks.row hb
  exact mut_of hh (by decide) (by decide) (by decide)
 have hgb : ∀ b, (Value.slice (some ⟨g, 0, none⟩) (hn + 1) cap).ownBlock = some b → b = g := fun b hb => by simp [Value.ownBlock] at hb; exact hb.symm
 have hty : ∀ {b : Nat} {cs : Array Value} {ty : TypeId} {fr : Nat × Nat}, w.heap[b]? = some (.cells cs ty fr) → ty ≠ 38 → w'.heap[b]? = some (.cells cs ty fr) := by
  intro b cs ty fr hb ht
  refine hout.keep hb (fun hf => ?_)
  obtain ⟨cur, hh⟩ := row_type h.ks.row hf
  rw [hb] at hh
  cases hh
  exact ht rfl
 refine ⟨⟨⟨WMid.out h.ks.lw.inn hout (fun b hf hb => h.ks.ap b hb hf) hM, ⟨h.ks.lw.bel.trans (hout.below (fun b hb => (h.ks.row.lt b hb).1) h.ks.lw.bel.size), h.ks.lw.fr.foot⟩, h.ks.lw.all⟩, h.ks.wb, by rw [List.map_append]; exact ho, fun b hb hf => ?_, ?_, by omega, by rw [List.length_append, h.ks.len]; rfl, h.ks.caps⟩, hty h.px (by decide), ownsRow_out h.lo hout (fun b hb hf => h.ne b hb hf), h.ln, h.lap, fun b hb hb2 => ?_, ?_⟩
 ·rcases hat with hat | hat
  ·exact h.ks.ap b (by rw [hgb b hb]; exact hat) hf
  ·have := h.ks.lw.inn.raw.lt hf
   rw [hgb b hb, hat] at this
   omega
 ·intro e he
  rcases List.mem_append.1 he with he | he
  ·exact h.ks.bd e he
  ·obtain rfl : e = n := by simpa using he
   exact ⟨n0, n1⟩
 ·rcases hat with hat | hat
  ·exact h.ne b hb (by rw [hgb b hb2]; exact hat)
  ·have h1 := (h.lo.lt b hb).2
   rw [hgb b hb2, hat] at h1
   omega
 ·have hkp : ∀ {v : Value} {e : TypeId} {n b s : Nat} {xs : List Value}, w.ownsRow b e s v n xs → e ≠ 38 → w'.ownsRow b e s v n xs := by
   intro v e n b s xs ho he
   refine ownsRow_out ho hout (fun c hc hf => ?_)
   obtain ⟨cur, hh⟩ := row_type ho hc
   obtain ⟨cur2, hh2⟩ := row_type h.ks.row hf
   rw [hh] at hh2
   cases hh2
   exact he rfl
  exact ⟨hkp h.pr.row (by decide), h.pr.len, fun j r e hr he => ⟨⟨hkp (h.pr.at_ j r e hr he).1.row (by decide), fun p hp => ⟨hkp ((h.pr.at_ j r e hr he).1.vals p hp).1 (by decide), ((h.pr.at_ j r e hr he).1.vals p hp).2⟩, (h.pr.at_ j r e hr he).1.len⟩, (h.pr.at_ j r e hr he).2⟩⟩
end
def KSw (CR CA CE : Int) (w2 : World) (WB k : Nat) (d : WD) (S0 : WS) (PX : Nat) (x : WA) (la : Option Addr) (LN lc B : Nat) (pra : Option Addr) (prc : Nat) (Ls : List PRow) (hh : Int) (v8 v19 v20 : Value) (w : World) : Prop :=
 ∃ (err nn : Int) (ha : Option Addr) (hn hc : Nat) (H : List Int) (d' : WD), v19 = .int .i64 err ∧ v20 = .int .u64 nn ∧ v8 = .slice ha hn hc ∧ KB CR CA CE w2 WB (k + 1) ha hn hc H d' S0 PX x la LN lc B pra prc Ls w ∧ Deed d.S d'.S hh err ((if nn = 0 then 0 else 1) + if x.kind = 3 ∧ err = 0 then -1 else 0)
def KI (CR CA CE : Int) (w2 : World) (WB len2 n : Nat) (v8 v9 : Value) (w : World) : Prop := ∃ (k : Nat) (ha : Option Addr) (hn hc : Nat) (H : List Int) (d : WD), n + k = len2 ∧ v9 = .int .i64 (k : Int) ∧ v8 = .slice ha hn hc ∧ KS CR CA CE w2 WB k ha hn hc H d w
set_option maxRecDepth 100000 in
set_option maxHeartbeats 8000000 in
theorem keeps_walk (ver : Int) (cs : List Cmp) (a : Option Addr) (len cap : Nat) (c : CapsD) (l : List WA) (a2 : Option Addr) (len2 cap2 : Nat) (w : World) (hcs : CompsAt w.heap.size w a len cs) (hwf : CompsWf cs) (hna : a = none → len = 0 ∧ cap = 0) (hl : WActsAt w.heap.size w a2 len2 l) :
  Calls Tryz.prog 3 #[.agg #[.int .i64 ver, .slice a len cap], .agg #[.int .i64 c.ents, .int .i64 c.rows, .int .i64 c.archs, .int .i64 c.cmds, .int .i64 c.fuel, .int .i64 c.gens], .slice a2 len2 cap2] w fun e w' => e = .returned (.bool true) ∧ Below w.heap.size w w' := by
 have hm2 : len2 ≤ maxLen := hl.2.1
 unfold maxLen at hm2
 obtain ⟨C, hC⟩ : ∃ C : CapsD, C = c := ⟨_, rfl⟩
 have hb0 : Below w.heap.size w ((w.alloc (.cells #[.int .i64 ver, .slice a len cap] 24)).alloc (.cells #[.int .i64 c.ents, .int .i64 c.rows, .int .i64 c.archs, .int .i64 c.cmds, .int .i64 c.fuel, .int .i64 c.gens] 26)) := by go_grown
 have k1 := keepA (.cells #[.int .i64 c.ents, .int .i64 c.rows, .int .i64 c.archs, .int .i64 c.cmds, .int .i64 c.fuel, .int .i64 c.gens] 26) (heap_alloc_new w (.cells #[.int .i64 ver, .slice a len cap] 24))
 have k2 := heap_alloc_new (w.alloc (.cells #[.int .i64 ver, .slice a len cap] 24)) (.cells #[.int .i64 c.ents, .int .i64 c.rows, .int .i64 c.archs, .int .i64 c.cmds, .int .i64 c.fuel, .int .i64 c.gens] 26)
 rw [World.size_alloc] at k2
 have HCS := Lib.hid (And.intro hcs (And.intro hwf hna))
 have HL := Lib.hid hl
 have HCE := Lib.hid hC
 clear hcs hwf hna hl hC
 obtain ⟨c1, c2, c3, c4, c5, c6⟩ := c
 dsimp only at *
 go_enter Tryz.func3, Tryz.ntmps3
 go_wp2_with fail
 have HK := Lib.hid (And.intro hb0 (And.intro k1 k2))
 clear hb0 k1 k2
 generalize (w.alloc (.cells #[.int .i64 ver, .slice a len cap] 24)).alloc (.cells #[.int .i64 c1, .int .i64 c2, .int .i64 c3, .int .i64 c4, .int .i64 c5, .int .i64 c6] 26) = W at HK ⊢
 obtain ⟨SB, hSB⟩ : ∃ SB, w.heap.size = SB := ⟨_, rfl⟩
 have HSB := Lib.hid hSB
 rw [hSB] at HK ⊢
 clear hSB
 refine (awake18_any W).mono ?_
 rintro e w1 ⟨rfl, hb⟩
 have HB1 : Hid (Below SB w w1) := Lib.hid (HK.out.1.trans (hb.mono (HSB.out ▸ HK.out.1.size)))
 have HK1 := Lib.hid (And.intro (keep hb HK.out.2.1) (keep hb HK.out.2.2))
 clear hb HK
 have hbW : Below w.heap.size w w1 := HSB.out ▸ HB1.out
 have HBW := Lib.hid hbW
 clear hbW
 have s0 := cell_at HK1.out.1 0
 have s1 := cell_at HK1.out.1 1
 simp at s0 s1
 go_wp2_with fail
 refine (great18_any ver cs _ _ _ _ ((HCS.out.1.below HBW.out).mono HBW.out.size)).mono ?_
 rintro e w2 ⟨rfl, hb⟩
 have HB2 := Lib.hid (HBW.out.trans (hb.mono HBW.out.size))
 have HK2 := Lib.hid (And.intro (keep hb HK1.out.1) (keep hb HK1.out.2))
 clear hb s0 s1 HB1 HK1 HBW
 cases hg : great18B cs
 ·have HG := Lib.hid (great18_f hg)
  have HG30 := Lib.hid (great18_len hg)
  clear hg
  go_wp2_with fail
  refine (wild18_any l _ _ _ _ ((HL.out.below HB2.out).mono HB2.out.size)).mono ?_
  rintro e w3 ⟨r, rfl, hr, rfl⟩
  have HR := Lib.hid hr
  clear hr
  cases r
  ·have s0 := cell_at HK2.out.1 0
   have s1 := cell_at HK2.out.1 1
   have y0 := cell_at HK2.out.2 0
   have y1 := cell_at HK2.out.2 1
   have y2 := cell_at HK2.out.2 2
   have y3 := cell_at HK2.out.2 3
   have y4 := cell_at HK2.out.2 4
   have y5 := cell_at HK2.out.2 5
   simp at s0 s1 y0 y1 y2 y3 y4 y5
   by_cases hgood : schemaCheck ver cs = 0 ∧ CapsOk ⟨c1, c2, c3, c4, c5, c6⟩
   ·obtain ⟨hs, hco⟩ := hgood
    obtain ⟨nE, hnE⟩ : ∃ nE : Nat, c1 = (nE : Int) := ⟨c1.toNat, by have := hco.ents; simp at this; omega⟩
    have HN := Lib.hid (wNew_any ⟨c1, c2, c3, c4, c5, c6⟩ hco ver cs a len cap nE hnE w2 ((HCS.out.1.below HB2.out).mono HB2.out.size) HCS.out.2.1 (by have := HCS.out.1.1; have := HG30.out; omega) HG.out HCS.out.2.2 hs)
    have HNX : Hid ((newIX nE c6).liveL = []) := Lib.hid (by
     have he := hco.ents
     have hg := hco.gens
     simp only at he hg
     exact newIX_live (by omega) (by omega) hg.1 hg.2)
    clear hs hco hnE
    go_wp2_with fail
    refine HN.out.mono ?_
    rintro e w3 ⟨d0, rfl, hW, hS, hF, hb⟩
    obtain ⟨WB, hWB⟩ : ∃ WB, d0.wb = WB := ⟨_, rfl⟩
    rw [hWB]
    have hall : d0.S.AllRow := by
     intro e he
     have h1 : d0.S.ix.liveL = [] := by
      rw [hS]
      exact HNX.out
     rw [h1] at he; cases he
    have HD0 : Hid (LW w2 d0 0 w3) := Lib.hid ⟨hW, ⟨hb, hF⟩, hall⟩
    have HWB := Lib.hid hWB
    have HCAP : Hid (d0.caps = ⟨c1, c2, c3, c4, c5, c6⟩) := Lib.hid (congrArg WS.caps hS)
    clear hW hS hF hb hWB hall HN s0 s1 y0 y1 y2 y3 y4 y5
    have hl2 := (HL.out.below HB2.out).mono HB2.out.size
    have HL2 := Lib.hid hl2
    clear hl2
    obtain ⟨hr80, hrt⟩ := HR.out (by trivial)
    have HRT := Lib.hid hrt
    clear hrt HR
    have HCP : Hid (d0.caps.rows = c2 ∧ d0.caps.archs = c3 ∧ d0.caps.ents = c1) := Lib.hid ⟨congrArg CapsD.rows HCAP.out, congrArg CapsD.archs HCAP.out, congrArg CapsD.ents HCAP.out⟩
    have HKS : Hid (KS c2 c3 c1 w2 WB 0 (some ⟨w3.heap.size, 0, none⟩) 0 0 [] d0 (w3.alloc (.cells #[] 38))) := Lib.hid (by
     have hb3 : Below w3.heap.size w3 (w3.alloc (.cells #[] 38)) := (Below.refl _ _).alloc (Nat.le_refl _) _
     refine ⟨HD0.out.below hb3, HWB.out, World.ownsRow_lit w3 #[] 0 HD0.out.bel.size (by unfold maxLen; omega) rfl, fun b hb hf => ?_, by simp, Nat.le_refl _, rfl, HCP.out⟩
     have := HD0.out.inn.raw.lt hf
     simp [Value.ownBlock] at hb
     omega)
    clear HD0 HCP HWB HCAP
    go_wp2_with fail
    generalize w3.alloc (.cells #[] 38) = w4 at *
    refine wp_loop_f mskL (fun n f wr => KI c2 c3 c1 w2 WB len2 n (f 8) (f 9) wr) len2 ⟨0, _, _, _, _, d0, rfl, rfl, rfl, HKS.out⟩ (by kernel_rfl) ?_
    intro n f wr hrel J K hJ hK
    dsimp only [mixF, mskL]
    generalize f 9 = f9 at hrel ⊢
    generalize f 8 = f8 at hrel ⊢
    obtain ⟨k, ha, hn, hc, H, d, hnk, rfl, rfl, hks⟩ := hrel
    have HN := Lib.hid hnk
    have HKK := Lib.hid hks
    clear hnk hks HKS
    have hkl : k ≤ len2 := by have := HN.out; omega
    by_cases hlt : k < len2
    ·obtain ⟨b, off, x, rfl, hB, hx, hp, x0, x1, x2, x3, x4⟩ := (HL2.out.below HKK.out.lw.bel).get hlt
     have i1 : (0 : Int) ≤ (k : Int) := by omega
     have i2 : (k : Int) < (len2 : Int) := by omega
     have HXE := Lib.hid (HL2.out.2.2.1 x (List.mem_of_getElem? hx))
     have HXT := Lib.hid (HRT.out x (List.mem_of_getElem? hx))
     have hbX : Below wr.heap.size wr (wr.alloc (.cells #[.int .i64 x.kind, .int .i64 x.i, .int .u64 x.e, .int .i64 x.comp, .slice x.pa x.pl x.pc] 37)) := (Below.refl _ _).alloc (Nat.le_refl _) _
     have hX := heap_alloc_new wr (.cells #[.int .i64 x.kind, .int .i64 x.i, .int .u64 x.e, .int .i64 x.comp, .slice x.pa x.pl x.pc] 37)
     have HKX := Lib.hid (And.intro (HKK.out.below hbX) hX)
     clear hbX hX hx hp
     go_upto_region 14 with (fail)
     generalize wr.alloc (.cells #[.int .i64 x.kind, .int .i64 x.i, .int .u64 x.e, .int .i64 x.comp, .slice x.pa x.pl x.pc] 37) = V at *
     generalize wr.heap.size = PX at *
     clear x0 x1 x2 x3 x4
     have x0 := cell_at HKX.out.2 0
     have x1 := cell_at HKX.out.2 1
     have x2 := cell_at HKX.out.2 2
     have x3 := cell_at HKX.out.2 3
     have x4 := cell_at HKX.out.2 4
     simp at x0 x1 x2 x3 x4
     refine wp_cut_f msk14 (fun f wx => ∃ bb : Bool, f 61 = .bool bb ∧ (bb = true → 0 < hn ∧ 0 ≤ x.i) ∧ wx = V) ?_ ?_
     ·intro f wc hcut
      dsimp only [mixF, msk14]
      generalize f 61 = f61 at hcut ⊢
      obtain ⟨bb, rfl, hbb, rfl⟩ := hcut
      have HBB := Lib.hid hbb
      clear hbb
      go_upto_if 61 with (fail)
      refine wp_cut_f msk15 (fun f wx => ∃ hh : Int, f 11 = .int .u64 hh ∧ 0 ≤ hh ∧ hh < 18446744073709551616 ∧ wx = wc) ?_ ?_
      ·intro f wc2 hcut
       dsimp only [mixF, msk15]
       generalize f 11 = f11 at hcut ⊢
       obtain ⟨hh, rfl, hh0, hh1, rfl⟩ := hcut
       have HC := wLive_any HKX.out.1.lw.inn
       rw [HKX.out.1.wb] at HC
       have HC := Lib.hid HC
       clear x0 x1 x2 x3 x4
       go_wp2_with fail
       refine HC.out.mono ?_
       rintro en w5 ⟨la, lc, rfl, hown, hb5⟩
       have HK5 := Lib.hid (HKX.out.1.below hb5)
       have HX5 := Lib.hid (keep hb5 HKX.out.2)
       have hl257 : d.S.ix.liveL.length ≤ 257 := WMid.lbd HK5.out.lw.inn
       have hla : ∀ b, (Value.slice la d.S.ix.liveL.length lc).ownBlock = some b → ¬ d.foot b := fun b hb hf => by
        have h1 := (hown.lt b hb).1
        have h2 := HKX.out.1.lw.inn.raw.lt hf
        omega
       have hne : ∀ b, (Value.slice la d.S.ix.liveL.length lc).ownBlock = some b → (Value.slice ha hn hc).ownBlock ≠ some b := fun b hb hf => by
        have h1 := (hown.lt b hb).1
        have h2 := (HKX.out.1.row.lt b hf).2
        omega
       obtain ⟨LN, hLN⟩ : ∃ LN, d.S.ix.liveL.length = LN := ⟨_, rfl⟩
       rw [hLN] at hown hl257 hla hne ⊢
       have HLA := Lib.hid hla
       have HNE := Lib.hid hne
       have HLO := Lib.hid (ownsRow_mono hown (Nat.zero_le _))
       have HLN := Lib.hid hLN
       clear hown hb5 hla hne hLN HC HKX
       go_wp2_with fail
       have hb6 : Below w5.heap.size w5 (w5.alloc (.cells #[] 35)) := (Below.refl _ _).alloc (Nat.le_refl _) _
       have HP0 : Hid (PRI w5.heap.size d.S d.S.ix.liveL w5 LN LN (.slice (some ⟨w5.heap.size, 0, none⟩) 0 0) (.int .i64 0) (w5.alloc (.cells #[] 35))) := Lib.hid ⟨0, _, _, [], rfl, rfl, rfl, ⟨World.ownsRow_lit w5 #[] 0 (Nat.le_refl _) (by unfold maxLen; omega) rfl, rfl, fun j r e hj => by simp at hj⟩, hb6⟩
       clear hb6
       generalize w5.alloc (.cells #[] 35) = w6 at HP0 ⊢
       refine wp_loop_f mskP (fun n f wr => PRI w5.heap.size d.S d.S.ix.liveL w5 LN n (f 13) (f 14) wr) LN HP0.out (by kernel_rfl) ?_
       intro n2 f wq hrel2 J3 K3 hJ3 hK3
       dsimp only [mixF, mskP]
       generalize f 13 = f13 at hrel2 ⊢
       generalize f 14 = f14 at hrel2 ⊢
       obtain ⟨m, pra, prc, Ls, hnm, rfl, rfl, hpr, hbq⟩ := hrel2
       have HNM := Lib.hid hnm
       have HPR := Lib.hid hpr
       have HBQ := Lib.hid hbq
       have hml : m ≤ LN := by omega
       clear hnm hpr hbq
       by_cases hmt : m < LN
       ·obtain ⟨i0, hi, hz0, hz1, hz2⟩ := info_parts Tryz.infoPs
        obtain ⟨lb, loff, e, rfl, hlb, hle, hl0⟩ := ((ERow.of HLO.out HLN.out (by omega)).below HBQ.out).get hmt
        have j1 : (0 : Int) ≤ (m : Int) := by omega
        have j2 : (m : Int) < (LN : Int) := by omega
        have HP := l_parts (HK5.out.lw.below HBQ.out) (List.mem_of_getElem? hle)
        rw [HK5.out.wb] at HP
        have HP := Lib.hid HP
        have HLE := Lib.hid hle
        clear hle
        go_wp2_with fail
        refine HP.out.mono ?_
        rintro en w7 ⟨pa, pc, ps, rfl, hpo, hcv, hb7⟩
        obtain ⟨PN, hPN⟩ : ∃ PN, (d.S.partsV e).length = PN := ⟨_, rfl⟩
        rw [hPN] at hpo ⊢
        have hbq7 := HBQ.out.trans (hb7.mono HBQ.out.size)
        have hprA := (HPR.out.kp ((Kp.of_below hb7).trans (Kp.of_below ((Below.refl _ w7).alloc (Nat.le_refl _) (.cells #[.slice pa PN pc] 35)))))
        have hpoA := (hpo.kp (Kp.of_below ((Below.refl _ w7).alloc (Nat.le_refl _) (.cells #[.slice pa PN pc] 35)))).mono HBQ.out.size
        have hzq := hbq7.size
        have HPA := Lib.hid hprA
        have HPOA := Lib.hid hpoA
        have HCV := Lib.hid hcv
        have HB7 := Lib.hid (hbq7.alloc hzq (.cells #[.slice pa PN pc] 35))
        have hrowA := hprA.row
        clear hpo hcv hb7 hPN hprA hpoA hbq7
        go_wp2_with (at_builtin; refine wpList_append_own _ rfl (.tmp 88) (.tmp 90) 40 rfl w5.heap.size 35 i0 (.slice none 0 0) 1 24 Tryz.underlying40 hi hz0 hz1 hz2 rfl (by decide) (.slice pra m prc) m (Ls.map PRow.v) rfl hrowA ⟨w7.heap.size, 0, none⟩ 1 1 [.slice pa PN pc] rfl rfl (cell_one_new _ _ _) (by intro v hv; simp at hv; subst hv; rfl) (by unfold maxLen; omega) (by omega) (by simp; omega) ?_)
        intro v' w8 hown2 hg2 _
        obtain ⟨va', vc', hv'⟩ := ownsRow_slice hown2
        rw [hv'] at hown2 ⊢
        clear hv'
        have HN2 : Hid (PRI w5.heap.size d.S d.S.ix.liveL w5 LN (n2 - 1) (.slice va' (m + 1) vc') (.int .i64 ((m + 1 : Nat) : Int)) w8) := Lib.hid ⟨m + 1, va', vc', Ls ++ [⟨pa, PN, pc, ps⟩], by have := HNM.out; omega, rfl, rfl, HPA.out.snoc (r := ⟨pa, PN, pc, ps⟩) hg2 hown2 HPOA.out HCV.out HLE.out, HB7.out.grown hg2 (by simp; omega) (fun x hx => (hrowA.lt x hx).1)⟩
        clear hown2 hrowA hg2 hi hz0 hz1 hz2
        go_wp2_with fail
        refine Handed.intro (n2 - 1) (by have := HNM.out; omega) (hJ3 _ _ _ ?_ (by kernel_rfl))
        exact HN2.out
       ·obtain rfl : m = LN := by omega
        have hkb : KB c2 c3 c1 w2 WB k ha hn hc H d d.S PX x la m lc w5.heap.size pra prc Ls wq := ⟨HK5.out.below HBQ.out, keep HBQ.out HX5.out, ownsRow_below HLO.out HBQ.out, HLN.out, HLA.out, HNE.out, HPR.out⟩
        have HKB := Lib.hid hkb
        clear hkb HBQ HX5 HLO HLA HPR HK5
        have HC := wSigs_any HKB.out.ks.lw.inn.raw
        rw [HKB.out.ks.wb] at HC
        have HC := Lib.hid HC
        go_wp2_with fail
        refine HC.out.mono ?_
        rintro en w8 ⟨sa, sc, rfl, _, hb8⟩
        obtain ⟨SN, hSN⟩ : ∃ SN, d.g.ts.length = SN := ⟨_, rfl⟩
        rw [hSN]
        have HSN : Hid (d.S.sets.length = SN) := Lib.hid (by rw [← hSN]; exact sigs_len d.g)
        have HK8 := Lib.hid (HKB.out.below hb8)
        clear hb8 hSN HC HKB
        have HB9 := Lib.hid ((Below.refl w8.heap.size w8).alloc (Nat.le_refl _) (.cells #[.int .i64 0, .slice none 0 0] 48))
        obtain ⟨x0, x3, x4⟩ := (HK8.out.below HB9.out).cells
        go_upto_if 99 with (fail)
        have hFB := heap_alloc_new w8 (.cells #[.int .i64 0, .slice none 0 0] 48)
        clear x0 x3 x4
        generalize w8.alloc (.cells #[.int .i64 0, .slice none 0 0] 48) = w9 at *
        obtain ⟨FB, hFBe⟩ : ∃ FB, w8.heap.size = FB := ⟨_, rfl⟩
        rw [hFBe] at hFB ⊢
        have HFB := Lib.hid hFB
        have HFE := Lib.hid hFBe
        clear hFB hFBe
        refine wp_cut_f mskF (fun f wx => ∃ (fc : Int) (fva : Option Addr) (fvl fvc : Nat) (fv : List WI), wx.heap[FB]? = some (.cells #[.int .i64 fc, .slice fva fvl fvc] 48 (0, 0)) ∧ IntsAt w2.heap.size w2 fva fvl fvc fv ∧ Below w8.heap.size w8 wx) ?_ ?_
        ·intro f wc hcut
         dsimp only [mixF, mskF]
         obtain ⟨fc, fva, fvl, fvc, fv, hfb, hfi, hbc⟩ := hcut
         have HKC := Lib.hid (HK8.out.below hbc)
         have HFI := Lib.hid (HKC.out.ks.lw.fr.ints hfi)
         have f0 := cell_at hfb 0
         have f1 := cell_at hfb 1
         simp at f0 f1
         have hk999 : 2 * k ≤ 999990 := by omega
         clear hfb hfi hbc HFB HFE HB9 HK8
         obtain ⟨x0, x3, x4⟩ := HKC.out.cells
         go_upto_block 4 with (fail)
         refine wp_cut_f mskS (fun f wx => KSw c2 c3 c1 w2 WB k d d.S PX x la m lc w5.heap.size pra prc Ls hh (f 8) (f 19) (f 20) wx) ?_ ?_
         ·intro f wc3 hcut
          dsimp only [mixF, mskS]
          generalize f 8 = f8 at hcut ⊢
          generalize f 19 = f19 at hcut ⊢
          generalize f 20 = f20 at hcut ⊢
          obtain ⟨err, nn, ha', hn', hc', H', d', rfl, rfl, rfl, hkb, hdd⟩ := hcut
          have HKD := Lib.hid hkb
          have HDD := Lib.hid hdd
          clear hkb hdd f0 f1 x0 x3 x4 HKC HFI
          have HC := wLive_any HKD.out.ks.lw.inn
          rw [HKD.out.ks.wb] at HC
          have HC := Lib.hid HC
          go_wp2_with fail
          refine HC.out.mono ?_
          rintro en w7 ⟨na, nc, rfl, _, hb7⟩
          have HK7 := Lib.hid (HKD.out.below hb7)
          obtain ⟨MN, hMN⟩ : ∃ MN, d'.S.ix.liveL.length = MN := ⟨_, rfl⟩
          rw [hMN]
          have HCN : Hid ((MN : Int) = (m : Int) + ((if nn = 0 then 0 else 1) + if x.kind = 3 ∧ err = 0 then -1 else 0)) := Lib.hid (by
           have h1 := HDD.out.count
           rw [hMN, HLN.out] at h1
           exact h1)
          have HBN := Lib.hid HK7.out.ks.lw.bounds
          have HMN := Lib.hid hMN
          obtain ⟨x0, x3, x4⟩ := HK7.out.cells
          have hM257 : MN ≤ 257 := by
           have h1 := WMid.lbd HK7.out.ks.lw.inn
           have h1 : d'.S.ix.liveL.length ≤ 257 := h1
           omega
          clear hb7 hMN HC HKD
          go_upto_if 151 with (fail)
          refine wp_cut_f msk46 (fun f wx => f 22 = .int .i64 ((m : Int) + if nn = 0 then 0 else 1) ∧ wx = w7) ?_ ?_
          ·intro f wc4 hcut
           dsimp only [mixF, msk46]
           generalize f 22 = f22 at hcut ⊢
           obtain ⟨rfl, rfl⟩ := hcut
           obtain ⟨cn, hcn⟩ : ∃ cn : Int, (m : Int) + (if nn = 0 then 0 else 1) = cn := ⟨_, rfl⟩
           rw [hcn]
           have hcb : 0 ≤ cn ∧ cn ≤ 300 := by rw [← hcn]; split <;> omega
           have HCNE := Lib.hid hcn
           clear hcn
           go_upto_region 47 with (fail)
           refine wp_cut_f msk47 (fun f wx => f 160 = .bool (decide (x.kind = 3 ∧ err = 0)) ∧ wx = wc4) ?_ ?_
           ·intro f wc5 hcut
            dsimp only [mixF, msk47]
            generalize f 160 = f160 at hcut ⊢
            obtain ⟨rfl, rfl⟩ := hcut
            clear x0 x3 x4
            go_upto_if 160 with (fail)
            refine wp_cut_f msk48 (fun f wx => f 22 = .int .i64 (MN : Int) ∧ wx = wc5) ?_ ?_
            ·intro f wc6 hcut
             dsimp only [mixF, msk48]
             generalize f 22 = f22 at hcut ⊢
             obtain ⟨rfl, rfl⟩ := hcut
             obtain ⟨SM, hSM⟩ : ∃ SM, d'.S.sets.length = SM := ⟨_, rfl⟩
             have HSG : Hid (∀ W, Below wc6.heap.size wc6 W → Calls Tryz.prog 11 #[.pointer (some ⟨WB, 0, none⟩)] W fun e w' => ∃ va vc, e = .returned (.slice va SM vc) ∧ w'.ownsRow W.heap.size 57 1 (.slice va SM vc) SM (d'.S.sets.map (.int .u32)) ∧ Below W.heap.size W w') := Lib.hid (fun W hb => by
              have hl : d'.g.ts.length = SM := by rw [← hSM]; exact (sigs_len d'.g).symm
              have := wSigs_any (HK7.out.below hb).ks.lw.inn.raw
              rw [HK7.out.ks.wb] at this
              refine this.mono ?_
              rintro e w' ⟨va, vc, rfl, ho, hb2⟩
              rw [hl] at ho ⊢
              exact ⟨va, vc, rfl, ho, hb2⟩)
             have HCAPB : Hid (∀ W, Below wc6.heap.size wc6 W → W.heap[SB + 1]? = some (.cells #[.int .i64 c1, .int .i64 c2, .int .i64 c3, .int .i64 c4, .int .i64 c5, .int .i64 c6] 26 (0, 0))) := Lib.hid (fun W hb => keep ((HK7.out.below hb).ks.lw.bel) HK2.out.2)
             have g1 : decide (c3 < (SM : Int)) = false := by
              have h1 := HBN.out.1
              rw [hSM] at h1
              have h2 : d'.S.caps.archs = c3 := HK7.out.ks.caps.2.1
              rw [h2] at h1
              simp; omega
             have g2 : decide (c1 < (MN : Int)) = false := by
              have h1 := HBN.out.2.1
              rw [HMN.out] at h1
              have h2 : d'.S.caps.ents = c1 := HK7.out.ks.caps.2.2
              rw [h2] at h1
              simp; omega
             have hse : err ≠ 0 → SM = SN := fun he => by
              rw [← hSM, ← HSN.out, HDD.out.sets he]
             have HSE := Lib.hid hse
             have HSM := Lib.hid hSM
             clear hse hSM
             go_upto_region 49 with (fail)
             refine wp_cut_f mskQ (fun f wx => f 192 = .bool false ∧ Below wc6.heap.size wc6 wx) ?_ ?_
             ·intro f wc7 hcut
              dsimp only [mixF, mskQ]
              generalize f 192 = f192 at hcut ⊢
              obtain ⟨rfl, hbq⟩ := hcut
              have HBQ := Lib.hid hbq
              clear hbq g1 g2
              have HK9 := Lib.hid (HK7.out.below HBQ.out)
              go_wp2_with fail
              refine wp_loop_f mskT (fun n f wr => ∃ j : Nat, n + j = m ∧ f 23 = .int .i64 (j : Int) ∧ Below wc7.heap.size wc7 wr) m ⟨0, rfl, rfl, Below.refl _ _⟩ (by kernel_rfl) ?_
              intro n3 f wt hrel3 J4 K4 hJ4 hK4
              dsimp only [mixF, mskT]
              generalize f 23 = f23 at hrel3 ⊢
              obtain ⟨j, hnj, rfl, hbt⟩ := hrel3
              have HNJ := Lib.hid hnj
              have HBT := Lib.hid hbt
              have hjm : j ≤ m := by omega
              clear hnj hbt
              by_cases hjt : j < m
              ·have HKT := Lib.hid (HK9.out.below HBT.out)
               obtain ⟨lb, loff, e, rfl, hlb, hle, hl0⟩ := (ERow.of HKT.out.lo HLN.out (by omega)).get hjt
               obtain ⟨q, rfl, _, hql, hqc⟩ := row_block HKT.out.pr.row (by omega)
               have hjl : j < Ls.length := by rw [HKT.out.pr.len]; exact hjt
               have hr : Ls[j]? = some Ls[j] := List.getElem?_eq_getElem hjl
               generalize Ls[j] = r at hr
               have q0 := hqc j r.v (by rw [List.getElem?_map, hr]; rfl)
               obtain ⟨hpo, hcv⟩ := HKT.out.pr.at_ j r e hr hle
               have j1 : (0 : Int) ≤ (j : Int) := by omega
               have j2 : (j : Int) < (m : Int) := by omega
               unfold PRow.v at q0
               by_cases hskip : e = hh ∧ err = 0
               ·have e1 : (e == hh) = true := by simp [hskip.1]
                have e2 : (err == 0) = true := by simp [hskip.2]
                clear hskip hr hqc hpo hcv hle q0
                go_wp2_with fail
                refine Handed.intro (n3 - 1) (by have := HNJ.out; omega) (hJ4 _ _ _ ?_ (by kernel_rfl))
                exact ⟨j + 1, by have := HNJ.out; omega, by go_num, HBT.out⟩
               ·obtain ⟨hin, hw⟩ := HDD.out.keep e (List.mem_of_getElem? hle) hskip
                have hpv : d'.S.partsV e = d.S.partsV e := by unfold WS.partsV WS.rowAt; rw [hw]
                have hC := l_parts HKT.out.ks.lw hin
                rw [HKT.out.ks.wb, hpv] at hC
                have HC := Lib.hid hC
                have HPO := Lib.hid hpo
                have HCV := Lib.hid hcv
                have hq2 : ((e == hh) = true ∧ (err == 0) = false) ∨ (e == hh) = false := by
                 by_cases h1 : e = hh
                 ·exact .inl ⟨by simp [h1], by simp; exact fun h2 => hskip ⟨h1, h2⟩⟩
                 ·exact .inr (by simp [h1])
                clear hskip hr hqc hpo hcv hle hin hw hpv hC
                rcases hq2 with ⟨e1, e2⟩ | e1
                all_goals
                 go_wp2_with fail
                 refine HC.out.mono ?_
                 rintro en w8 ⟨pa, pc, ps, rfl, hpo2, hcv2, hb8⟩
                 obtain ⟨PN, hPN⟩ : ∃ PN, (d.S.partsV e).length = PN := ⟨_, rfl⟩
                 rw [hPN] at hpo2 ⊢
                 have HSM2 := Lib.hid (same18_is ps r.ps pa PN pc r.a r.n r.c w8 hpo2.at (HPO.out.kp (Kp.of_below hb8)).at true ⟨fun _ => hcv2.trans HCV.out.symm, fun _ => rfl⟩)
                 have q1 := (hb8.cell (p := ⟨q, j, none⟩) hql).trans q0
                 have HB8 := Lib.hid (HBT.out.trans (hb8.mono HBT.out.size))
                 clear hpo2 hcv2 hPN q0 hl0
                 have hq8 : q < w8.heap.size := by have := hb8.size; omega
                 clear hb8
                 go_wp2_with fail
                 refine HSM2.out.mono ?_
                 rintro en w9 ⟨rfl, m9, rfl⟩
                 go_wp2_with fail
                 refine Handed.intro (n3 - 1) (by have := HNJ.out; omega) (hJ4 _ _ _ ?_ (by kernel_rfl))
                 exact ⟨j + 1, by have := HNJ.out; omega, by go_num, below_drewN HB8.out _⟩
              ·obtain rfl : j = m := by omega
               have hb67 := HBQ.out.trans (HBT.out.mono HBQ.out.size)
               have HSC := Lib.hid (HSG.out wt hb67)
               have HB67 := Lib.hid hb67
               clear hb67
               go_wp2_with fail
               refine HSC.out.mono ?_
               rintro en w9 ⟨sa2, sc2, rfl, hso, hb9⟩
               have HSO := Lib.hid hso
               have HB69 := Lib.hid (HB67.out.trans (hb9.mono HB67.out.size))
               have hs64 : SM ≤ 64 := by
                have h1 := HBN.out.1
                have h2 := (WMid.caps HK7.out.ks.lw.inn).archs
                rw [HSM.out] at h1
                have h1 : (SM : Int) ≤ d'.caps.archs := h1
                omega
               clear hso hb9 HSC
               go_wp2_with fail
               refine wp_loop_f mskU (fun n f wr => ∃ i : Nat, n + i = SM ∧ f 27 = .int .i64 (i : Int) ∧ Below w9.heap.size w9 wr) SM ⟨0, rfl, rfl, Below.refl _ _⟩ (by kernel_rfl) ?_
               intro n4 f wu hrel4 J5 K5 hJ5 hK5
               dsimp only [mixF, mskU]
               generalize f 27 = f27 at hrel4 ⊢
               obtain ⟨i, hni, rfl, hbu⟩ := hrel4
               have HNI := Lib.hid hni
               have HB6U := Lib.hid (HB69.out.trans (hbu.mono HB69.out.size))
               have HBU := Lib.hid hbu
               have him : i ≤ SM := by omega
               clear hni hbu
               by_cases hit : i < SM
               ·obtain ⟨q, s, rfl, hq, his, q0⟩ := sigs_at (ownsRow_below HSO.out HBU.out) HSM.out hit
                have hsb : 0 ≤ s ∧ s ≤ 4294967295 := by
                 obtain ⟨t, ht, hts⟩ := WMid.of_pos HK7.out.ks.lw.inn (HK7.out.ks.lw.inn.inv.nd i s his)
                 rw [← hts]
                 exact WMid.bd HK7.out.ks.lw.inn ht
                have hcn := HBN.out.2.2 s (List.mem_of_getElem? his)
                rw [show d'.S.caps.rows = c2 from HK7.out.ks.caps.1] at hcn
                obtain ⟨CN, hCN⟩ : ∃ CN, d'.S.cnt s = CN := ⟨_, rfl⟩
                rw [hCN] at hcn
                have hct : ∀ n, Calls Tryz.prog 18 #[.pointer (some ⟨WB, 0, none⟩), .int .u32 s] (wu.drewN n) fun e w' => e = .returned (.int .i64 (CN : Int)) ∧ wu.drewN n = w' := fun n => by
                 have := wCount_any (HK7.out.below (below_drewN HB6U.out n)).ks.lw.inn s hsb.1 hsb.2
                 rw [HK7.out.ks.wb, hCN] at this
                 exact this
                have HCT := Lib.hid hct
                have hcb := HCAPB.out wu HB6U.out
                have y1 := cell_at hcb 1
                simp at y1
                have g3 : decide (c2 < (CN : Int)) = false := by simp; omega
                have j1 : (0 : Int) ≤ (i : Int) := by omega
                have j2 : (i : Int) < (SM : Int) := by omega
                clear his hsb hcn hCN hct hcb
                go_wp2_with fail
                go_quiet ((go_at_call 18; exact quiet_sm (HCT.out _)))
                go_wp2_with fail
                refine Handed.intro (n4 - 1) (by have := HNI.out; omega) (hJ5 _ _ _ ?_ (by kernel_rfl))
                exact ⟨i + 1, by have := HNI.out; omega, by go_num, below_drewN HBU.out _⟩
               ·obtain rfl : i = SM := by omega
                go_wp2_with fail
                refine Handed.intro (n - 1) (by have := HN.out; omega) (hJ _ _ _ ?_ (by kernel_rfl))
                exact ⟨k + 1, ha', hn', hc', H', d', by have := HN.out; omega, by go_num, rfl, (HK7.out.below HB6U.out).ks⟩
             ·intro J3 K3 hJ3 hK3
              by_cases he : err = 0
              ·subst he
               refine wp_region_frame (by kernel_rfl) (by kernel_rfl) (by kernel_rfl) (byList (k_list0 na MN nc SM SN WB SB c1 c3 0)) (lasts_list (k_list0_lasts na MN nc SM SN WB SB c1 c3 0)) ?_ ?_
               ·intro vs w' iq o A F hb ho hd
                have m21 : A.tmps[21]?.getD undef = (.slice na MN nc) := F.m (by kernel_rfl) rfl
                have m22 : A.tmps[22]?.getD undef = (.int .i64 (MN : Int)) := F.m (by kernel_rfl) rfl
                have m19 : A.tmps[19]?.getD undef = (.int .i64 0) := F.m (by kernel_rfl) rfl
                have m7 : A.tmps[7]?.getD undef = (.pointer (some ⟨WB, 0, none⟩)) := F.m (by kernel_rfl) rfl
                have m17 : A.tmps[17]?.getD undef = (.int .i64 (SN : Int)) := F.m (by kernel_rfl) rfl
                have m4 : A.tmps[4]?.getD undef = (.pointer (some ⟨SB + 1, 0, none⟩)) := F.m (by kernel_rfl) rfl
                have G := F.light (n := 246) (by kernel_rfl)
                clear F
                have hcb := HCAPB.out w' hb
                have y0 := cell_at hcb 0
                have y2 := cell_at hcb 2
                simp at y0 y2
                have HB9 := Lib.hid hb
                clear hcb hb
                revert ho hd
                match iq with
                | 0 => intro ho hd; obtain rfl := (Option.some.inj ho).symm; clear hd ho; refine step_open rfl ?_; clear G; exact step_run (v := (.slice na MN nc)) (by go_simp) rfl
                | 1 => intro ho hd; obtain rfl := (Option.some.inj ho).symm; have d0 : vs 0 = (.slice na MN nc) := hd ⟨0, .data⟩ (by simp) rfl; clear hd ho; have h163 := G.h (j := 0) (d := 163) rfl (by decide) d0; refine step_open rfl ?_; clear G; exact step_run (v := (.int .i64 (MN : Int))) (by go_simp) rfl
                | 2 => intro ho hd; obtain rfl := (Option.some.inj ho).symm; clear hd ho; refine step_open rfl ?_; clear G; exact step_run (v := (.int .i64 (MN : Int))) (by go_simp) rfl
                | 3 => intro ho hd; obtain rfl := (Option.some.inj ho).symm; have d1 : vs 1 = (.int .i64 (MN : Int)) := hd ⟨1, .data⟩ (by simp) rfl; have d2 : vs 2 = (.int .i64 (MN : Int)) := hd ⟨2, .data⟩ (by simp) rfl; clear hd ho; have h164 := G.h (j := 1) (d := 164) rfl (by decide) d1; have h165 := G.h (j := 2) (d := 165) rfl (by decide) d2; refine step_open rfl ?_; clear G; exact step_run (v := (.bool false)) (by go_simp) rfl
                | 4 => intro ho hd; obtain rfl := (Option.some.inj ho).symm; have d3 : vs 3 = (.bool false) := hd ⟨3, .data⟩ (by simp) rfl; clear hd ho; have h166 := G.h (j := 3) (d := 166) rfl (by decide) d3; refine step_open rfl ?_; clear G; exact step_run (v := (.bool false)) (by go_simp) rfl
                | 5 => intro ho hd; obtain rfl := (Option.some.inj ho).symm; have d4 : vs 4 = (.bool false) := hd ⟨4, .guard⟩ (by simp) rfl; clear hd ho; refine step_yes G rfl rfl (by decide) d4 ?_; clear G; exact step_run (v := (.int .i64 0)) (by go_simp) rfl
                | 6 => intro ho hd; obtain rfl := (Option.some.inj ho).symm; have d5 : vs 5 = (.int .i64 0) := hd ⟨5, .data⟩ (by simp) rfl; have d4 : vs 4 = (.bool false) := hd ⟨4, .guard⟩ (by simp) rfl; clear hd ho; have h168 := G.h (j := 5) (d := 168) rfl (by decide) d5; refine step_yes G rfl rfl (by decide) d4 ?_; clear G; exact step_run (v := (.bool false)) (by go_simp) rfl
                | 7 => intro ho hd; obtain rfl := (Option.some.inj ho).symm; have d6 : vs 6 = (.bool false) := hd ⟨6, .data⟩ (by simp) rfl; have d4 : vs 4 = (.bool false) := hd ⟨4, .guard⟩ (by simp) rfl; clear hd ho; have h169 := G.h (j := 6) (d := 169) rfl (by decide) d6; refine step_yes G rfl rfl (by decide) d4 ?_; clear G; exact step_run (v := (.bool false)) (by go_simp) rfl
                | 8 => intro ho hd; obtain rfl := (Option.some.inj ho).symm; have d7 : vs 7 = (.bool false) := hd ⟨7, .guard⟩ (by simp) rfl; clear hd ho; exact step_not G rfl rfl (by decide) d7 rfl
                | 9 => intro ho hd; obtain rfl := (Option.some.inj ho).symm; have d7 : vs 7 = (.bool false) := hd ⟨7, .guard⟩ (by simp) rfl; clear hd ho; exact step_not G rfl rfl (by decide) d7 rfl
                | 10 => intro ho hd; obtain rfl := (Option.some.inj ho).symm; have d7 : vs 7 = (.bool false) := hd ⟨7, .guard⟩ (by simp) rfl; clear hd ho; exact step_not G rfl rfl (by decide) d7 rfl
                | 11 => intro ho hd; obtain rfl := (Option.some.inj ho).symm; have d7 : vs 7 = (.bool false) := hd ⟨7, .guard⟩ (by simp) rfl; clear hd ho; exact step_not G rfl rfl (by decide) d7 rfl
                | 12 => intro ho hd; obtain rfl := (Option.some.inj ho).symm; have d7 : vs 7 = (.bool false) := hd ⟨7, .guard⟩ (by simp) rfl; clear hd ho; exact step_not G rfl rfl (by decide) d7 rfl
                | 13 => intro ho hd; obtain rfl := (Option.some.inj ho).symm; have d7 : vs 7 = (.bool false) := hd ⟨7, .data⟩ (by simp) rfl; have d12 : vs 12 = undef := hd ⟨12, .data⟩ (by simp) rfl; have d4 : vs 4 = (.bool false) := hd ⟨4, .guard⟩ (by simp) rfl; clear hd ho; have h170 := G.h (j := 7) (d := 170) rfl (by decide) d7; have h175 := G.h (j := 12) (d := 175) rfl (by decide) d12; refine step_yes G rfl rfl (by decide) d4 ?_; clear G; exact step_run (v := (.bool false)) (by go_simp) rfl
                | 14 => intro ho hd; obtain rfl := (Option.some.inj ho).symm; have d4 : vs 4 = (.bool false) := hd ⟨4, .data⟩ (by simp) rfl; have d13 : vs 13 = (.bool false) := hd ⟨13, .data⟩ (by simp) rfl; clear hd ho; have h167 := G.h (j := 4) (d := 167) rfl (by decide) d4; have h176 := G.h (j := 13) (d := 176) rfl (by decide) d13; refine step_open rfl ?_; clear G; exact step_run (v := (.bool false)) (by go_simp) rfl
                | 15 => intro ho hd; obtain rfl := (Option.some.inj ho).symm; have d14 : vs 14 = (.bool false) := hd ⟨14, .data⟩ (by simp) rfl; clear hd ho; have h177 := G.h (j := 14) (d := 177) rfl (by decide) d14; refine step_open rfl ?_; clear G; exact step_run (v := (.bool false)) (by go_simp) rfl
                | 16 => intro ho hd; obtain rfl := (Option.some.inj ho).symm; have d15 : vs 15 = (.bool false) := hd ⟨15, .guard⟩ (by simp) rfl; clear hd ho; refine step_yes G rfl rfl (by decide) d15 ?_; clear G; exact step_run (v := (.pointer (some ⟨WB, 0, none⟩))) (by go_simp) rfl
                | 17 => intro ho hd; obtain rfl := (Option.some.inj ho).symm; have d16 : vs 16 = (.pointer (some ⟨WB, 0, none⟩)) := hd ⟨16, .data⟩ (by simp) rfl; have d15 : vs 15 = (.bool false) := hd ⟨15, .guard⟩ (by simp) rfl; clear hd ho; have h179 := G.h (j := 16) (d := 179) rfl (by decide) d16; refine step_yes G rfl rfl (by decide) d15 ?_; clear G; go_simp; refine (HSG.out _ HB9.out).mono ?_; rintro e w9 ⟨va, vc, rfl, _, hb9⟩; exact ⟨_, rfl, ⟨va, vc, rfl⟩, hb9⟩
                | 18 => intro ho hd; obtain rfl := (Option.some.inj ho).symm; obtain ⟨sa, sc, d17⟩ : IsSlN SM (vs 17) w' := hd ⟨17, .data⟩ (by simp) rfl; have d15 : vs 15 = (.bool false) := hd ⟨15, .guard⟩ (by simp) rfl; clear hd ho; have h180 := G.h (j := 17) (d := 180) rfl (by decide) d17; refine step_yes G rfl rfl (by decide) d15 ?_; clear G; exact step_run (v := (.int .i64 (SM : Int))) (by go_simp) rfl
                | 19 => intro ho hd; obtain rfl := (Option.some.inj ho).symm; have d15 : vs 15 = (.bool false) := hd ⟨15, .guard⟩ (by simp) rfl; clear hd ho; refine step_yes G rfl rfl (by decide) d15 ?_; clear G; exact step_run (v := (.pointer (some ⟨SB + 1, 2, none⟩))) (by go_simp) rfl
                | 20 => intro ho hd; obtain rfl := (Option.some.inj ho).symm; have d19 : vs 19 = (.pointer (some ⟨SB + 1, 2, none⟩)) := hd ⟨19, .data⟩ (by simp) rfl; have d15 : vs 15 = (.bool false) := hd ⟨15, .guard⟩ (by simp) rfl; clear hd ho; have h182 := G.h (j := 19) (d := 182) rfl (by decide) d19; refine step_yes G rfl rfl (by decide) d15 ?_; clear G; exact step_run (v := (.int .i64 c3)) (by go_simp) rfl
                | 21 => intro ho hd; obtain rfl := (Option.some.inj ho).symm; have d18 : vs 18 = (.int .i64 (SM : Int)) := hd ⟨18, .data⟩ (by simp) rfl; have d20 : vs 20 = (.int .i64 c3) := hd ⟨20, .data⟩ (by simp) rfl; have d15 : vs 15 = (.bool false) := hd ⟨15, .guard⟩ (by simp) rfl; clear hd ho; have h181 := G.h (j := 18) (d := 181) rfl (by decide) d18; have h183 := G.h (j := 20) (d := 183) rfl (by decide) d20; refine step_yes G rfl rfl (by decide) d15 ?_; clear G; exact step_run (v := (.bool false)) (by go_simp) rfl
                | 22 => intro ho hd; obtain rfl := (Option.some.inj ho).symm; have d15 : vs 15 = (.bool false) := hd ⟨15, .data⟩ (by simp) rfl; have d21 : vs 21 = (.bool false) := hd ⟨21, .data⟩ (by simp) rfl; clear hd ho; have h178 := G.h (j := 15) (d := 178) rfl (by decide) d15; have h184 := G.h (j := 21) (d := 184) rfl (by decide) d21; refine step_open rfl ?_; clear G; exact step_run (v := (.bool false)) (by go_simp) rfl
                | 23 => intro ho hd; obtain rfl := (Option.some.inj ho).symm; have d22 : vs 22 = (.bool false) := hd ⟨22, .data⟩ (by simp) rfl; clear hd ho; have h185 := G.h (j := 22) (d := 185) rfl (by decide) d22; refine step_open rfl ?_; clear G; exact step_run (v := (.bool false)) (by go_simp) rfl
                | 24 => intro ho hd; obtain rfl := (Option.some.inj ho).symm; have d23 : vs 23 = (.bool false) := hd ⟨23, .guard⟩ (by simp) rfl; clear hd ho; refine step_yes G rfl rfl (by decide) d23 ?_; clear G; exact step_run (v := (.slice na MN nc)) (by go_simp) rfl
                | 25 => intro ho hd; obtain rfl := (Option.some.inj ho).symm; have d24 : vs 24 = (.slice na MN nc) := hd ⟨24, .data⟩ (by simp) rfl; have d23 : vs 23 = (.bool false) := hd ⟨23, .guard⟩ (by simp) rfl; clear hd ho; have h187 := G.h (j := 24) (d := 187) rfl (by decide) d24; refine step_yes G rfl rfl (by decide) d23 ?_; clear G; exact step_run (v := (.int .i64 (MN : Int))) (by go_simp) rfl
                | 26 => intro ho hd; obtain rfl := (Option.some.inj ho).symm; have d23 : vs 23 = (.bool false) := hd ⟨23, .guard⟩ (by simp) rfl; clear hd ho; refine step_yes G rfl rfl (by decide) d23 ?_; clear G; exact step_run (v := (.pointer (some ⟨SB + 1, 0, none⟩))) (by go_simp) rfl
                | 27 => intro ho hd; obtain rfl := (Option.some.inj ho).symm; have d26 : vs 26 = (.pointer (some ⟨SB + 1, 0, none⟩)) := hd ⟨26, .data⟩ (by simp) rfl; have d23 : vs 23 = (.bool false) := hd ⟨23, .guard⟩ (by simp) rfl; clear hd ho; have h189 := G.h (j := 26) (d := 189) rfl (by decide) d26; refine step_yes G rfl rfl (by decide) d23 ?_; clear G; exact step_run (v := (.int .i64 c1)) (by go_simp) rfl
                | 28 => intro ho hd; obtain rfl := (Option.some.inj ho).symm; have d25 : vs 25 = (.int .i64 (MN : Int)) := hd ⟨25, .data⟩ (by simp) rfl; have d27 : vs 27 = (.int .i64 c1) := hd ⟨27, .data⟩ (by simp) rfl; have d23 : vs 23 = (.bool false) := hd ⟨23, .guard⟩ (by simp) rfl; clear hd ho; have h188 := G.h (j := 25) (d := 188) rfl (by decide) d25; have h190 := G.h (j := 27) (d := 190) rfl (by decide) d27; refine step_yes G rfl rfl (by decide) d23 ?_; clear G; exact step_run (v := (.bool false)) (by go_simp) rfl
                | 29 => intro ho hd; obtain rfl := (Option.some.inj ho).symm; have d23 : vs 23 = (.bool false) := hd ⟨23, .data⟩ (by simp) rfl; have d28 : vs 28 = (.bool false) := hd ⟨28, .data⟩ (by simp) rfl; clear hd ho; have h186 := G.h (j := 23) (d := 186) rfl (by decide) d23; have h191 := G.h (j := 28) (d := 191) rfl (by decide) d28; refine step_open rfl ?_; clear G; exact step_run (v := (.bool false)) (by go_simp) rfl
                | n + 30 => intro ho hd; simp at ho
               ·intro vs w' hb hR
                have hv : vs 29 = .bool false := hR 29 (by simp)
                refine hK3 _ _ (Met.intro ?_)
                exact cut_done (bs := mskQ) (R := fun f wx => f 192 = .bool false ∧ Below wc6.heap.size wc6 wx) hJ3 _ _ (by kernel_rfl) ⟨Eq.trans (by kernel_rfl) hv, hb⟩ (by kernel_rfl)
              ·have e3 : (err != 0) = true := by simp [he]
               have e4 : ((SM : Int) != (SN : Int)) = false := by rw [HSE.out he]; simp
               clear he
               refine wp_region_frame (by kernel_rfl) (by kernel_rfl) (by kernel_rfl) (byList (k_list1 na MN nc SM SN WB SB c1 c3 err)) (lasts_list (k_list1_lasts na MN nc SM SN WB SB c1 c3 err)) ?_ ?_
               ·intro vs w' iq o A F hb ho hd
                have m21 : A.tmps[21]?.getD undef = (.slice na MN nc) := F.m (by kernel_rfl) rfl
                have m22 : A.tmps[22]?.getD undef = (.int .i64 (MN : Int)) := F.m (by kernel_rfl) rfl
                have m19 : A.tmps[19]?.getD undef = (.int .i64 err) := F.m (by kernel_rfl) rfl
                have m7 : A.tmps[7]?.getD undef = (.pointer (some ⟨WB, 0, none⟩)) := F.m (by kernel_rfl) rfl
                have m17 : A.tmps[17]?.getD undef = (.int .i64 (SN : Int)) := F.m (by kernel_rfl) rfl
                have m4 : A.tmps[4]?.getD undef = (.pointer (some ⟨SB + 1, 0, none⟩)) := F.m (by kernel_rfl) rfl
                have G := F.light (n := 246) (by kernel_rfl)
                clear F
                have hcb := HCAPB.out w' hb
                have y0 := cell_at hcb 0
                have y2 := cell_at hcb 2
                simp at y0 y2
                have HB9 := Lib.hid hb
                clear hcb hb
                revert ho hd
                match iq with
                | 0 => intro ho hd; obtain rfl := (Option.some.inj ho).symm; clear hd ho; refine step_open rfl ?_; clear G; exact step_run (v := (.slice na MN nc)) (by go_simp) rfl
                | 1 => intro ho hd; obtain rfl := (Option.some.inj ho).symm; have d0 : vs 0 = (.slice na MN nc) := hd ⟨0, .data⟩ (by simp) rfl; clear hd ho; have h163 := G.h (j := 0) (d := 163) rfl (by decide) d0; refine step_open rfl ?_; clear G; exact step_run (v := (.int .i64 (MN : Int))) (by go_simp) rfl
                | 2 => intro ho hd; obtain rfl := (Option.some.inj ho).symm; clear hd ho; refine step_open rfl ?_; clear G; exact step_run (v := (.int .i64 (MN : Int))) (by go_simp) rfl
                | 3 => intro ho hd; obtain rfl := (Option.some.inj ho).symm; have d1 : vs 1 = (.int .i64 (MN : Int)) := hd ⟨1, .data⟩ (by simp) rfl; have d2 : vs 2 = (.int .i64 (MN : Int)) := hd ⟨2, .data⟩ (by simp) rfl; clear hd ho; have h164 := G.h (j := 1) (d := 164) rfl (by decide) d1; have h165 := G.h (j := 2) (d := 165) rfl (by decide) d2; refine step_open rfl ?_; clear G; exact step_run (v := (.bool false)) (by go_simp) rfl
                | 4 => intro ho hd; obtain rfl := (Option.some.inj ho).symm; have d3 : vs 3 = (.bool false) := hd ⟨3, .data⟩ (by simp) rfl; clear hd ho; have h166 := G.h (j := 3) (d := 166) rfl (by decide) d3; refine step_open rfl ?_; clear G; exact step_run (v := (.bool false)) (by go_simp) rfl
                | 5 => intro ho hd; obtain rfl := (Option.some.inj ho).symm; have d4 : vs 4 = (.bool false) := hd ⟨4, .guard⟩ (by simp) rfl; clear hd ho; refine step_yes G rfl rfl (by decide) d4 ?_; clear G; exact step_run (v := (.int .i64 err)) (by go_simp) rfl
                | 6 => intro ho hd; obtain rfl := (Option.some.inj ho).symm; have d5 : vs 5 = (.int .i64 err) := hd ⟨5, .data⟩ (by simp) rfl; have d4 : vs 4 = (.bool false) := hd ⟨4, .guard⟩ (by simp) rfl; clear hd ho; have h168 := G.h (j := 5) (d := 168) rfl (by decide) d5; refine step_yes G rfl rfl (by decide) d4 ?_; clear G; exact step_run (v := (.bool true)) (by go_simp) rfl
                | 7 => intro ho hd; obtain rfl := (Option.some.inj ho).symm; have d6 : vs 6 = (.bool true) := hd ⟨6, .data⟩ (by simp) rfl; have d4 : vs 4 = (.bool false) := hd ⟨4, .guard⟩ (by simp) rfl; clear hd ho; have h169 := G.h (j := 6) (d := 169) rfl (by decide) d6; refine step_yes G rfl rfl (by decide) d4 ?_; clear G; exact step_run (v := (.bool true)) (by go_simp) rfl
                | 8 => intro ho hd; obtain rfl := (Option.some.inj ho).symm; have d7 : vs 7 = (.bool true) := hd ⟨7, .guard⟩ (by simp) rfl; clear hd ho; refine step_yes G rfl rfl (by decide) d7 ?_; clear G; exact step_run (v := (.pointer (some ⟨WB, 0, none⟩))) (by go_simp) rfl
                | 9 => intro ho hd; obtain rfl := (Option.some.inj ho).symm; have d8 : vs 8 = (.pointer (some ⟨WB, 0, none⟩)) := hd ⟨8, .data⟩ (by simp) rfl; have d7 : vs 7 = (.bool true) := hd ⟨7, .guard⟩ (by simp) rfl; clear hd ho; have h171 := G.h (j := 8) (d := 171) rfl (by decide) d8; refine step_yes G rfl rfl (by decide) d7 ?_; clear G; go_simp; refine (HSG.out _ HB9.out).mono ?_; rintro e w9 ⟨va, vc, rfl, _, hb9⟩; exact ⟨_, rfl, ⟨va, vc, rfl⟩, hb9⟩
                | 10 => intro ho hd; obtain rfl := (Option.some.inj ho).symm; obtain ⟨sa, sc, d9⟩ : IsSlN SM (vs 9) w' := hd ⟨9, .data⟩ (by simp) rfl; have d7 : vs 7 = (.bool true) := hd ⟨7, .guard⟩ (by simp) rfl; clear hd ho; have h172 := G.h (j := 9) (d := 172) rfl (by decide) d9; refine step_yes G rfl rfl (by decide) d7 ?_; clear G; exact step_run (v := (.int .i64 (SM : Int))) (by go_simp) rfl
                | 11 => intro ho hd; obtain rfl := (Option.some.inj ho).symm; have d7 : vs 7 = (.bool true) := hd ⟨7, .guard⟩ (by simp) rfl; clear hd ho; refine step_yes G rfl rfl (by decide) d7 ?_; clear G; exact step_run (v := (.int .i64 (SN : Int))) (by go_simp) rfl
                | 12 => intro ho hd; obtain rfl := (Option.some.inj ho).symm; have d10 : vs 10 = (.int .i64 (SM : Int)) := hd ⟨10, .data⟩ (by simp) rfl; have d11 : vs 11 = (.int .i64 (SN : Int)) := hd ⟨11, .data⟩ (by simp) rfl; have d7 : vs 7 = (.bool true) := hd ⟨7, .guard⟩ (by simp) rfl; clear hd ho; have h173 := G.h (j := 10) (d := 173) rfl (by decide) d10; have h174 := G.h (j := 11) (d := 174) rfl (by decide) d11; refine step_yes G rfl rfl (by decide) d7 ?_; clear G; exact step_run (v := (.bool false)) (by go_simp) rfl
                | 13 => intro ho hd; obtain rfl := (Option.some.inj ho).symm; have d7 : vs 7 = (.bool true) := hd ⟨7, .data⟩ (by simp) rfl; have d12 : vs 12 = (.bool false) := hd ⟨12, .data⟩ (by simp) rfl; have d4 : vs 4 = (.bool false) := hd ⟨4, .guard⟩ (by simp) rfl; clear hd ho; have h170 := G.h (j := 7) (d := 170) rfl (by decide) d7; have h175 := G.h (j := 12) (d := 175) rfl (by decide) d12; refine step_yes G rfl rfl (by decide) d4 ?_; clear G; exact step_run (v := (.bool false)) (by go_simp) rfl
                | 14 => intro ho hd; obtain rfl := (Option.some.inj ho).symm; have d4 : vs 4 = (.bool false) := hd ⟨4, .data⟩ (by simp) rfl; have d13 : vs 13 = (.bool false) := hd ⟨13, .data⟩ (by simp) rfl; clear hd ho; have h167 := G.h (j := 4) (d := 167) rfl (by decide) d4; have h176 := G.h (j := 13) (d := 176) rfl (by decide) d13; refine step_open rfl ?_; clear G; exact step_run (v := (.bool false)) (by go_simp) rfl
                | 15 => intro ho hd; obtain rfl := (Option.some.inj ho).symm; have d14 : vs 14 = (.bool false) := hd ⟨14, .data⟩ (by simp) rfl; clear hd ho; have h177 := G.h (j := 14) (d := 177) rfl (by decide) d14; refine step_open rfl ?_; clear G; exact step_run (v := (.bool false)) (by go_simp) rfl
                | 16 => intro ho hd; obtain rfl := (Option.some.inj ho).symm; have d15 : vs 15 = (.bool false) := hd ⟨15, .guard⟩ (by simp) rfl; clear hd ho; refine step_yes G rfl rfl (by decide) d15 ?_; clear G; exact step_run (v := (.pointer (some ⟨WB, 0, none⟩))) (by go_simp) rfl
                | 17 => intro ho hd; obtain rfl := (Option.some.inj ho).symm; have d16 : vs 16 = (.pointer (some ⟨WB, 0, none⟩)) := hd ⟨16, .data⟩ (by simp) rfl; have d15 : vs 15 = (.bool false) := hd ⟨15, .guard⟩ (by simp) rfl; clear hd ho; have h179 := G.h (j := 16) (d := 179) rfl (by decide) d16; refine step_yes G rfl rfl (by decide) d15 ?_; clear G; go_simp; refine (HSG.out _ HB9.out).mono ?_; rintro e w9 ⟨va, vc, rfl, _, hb9⟩; exact ⟨_, rfl, ⟨va, vc, rfl⟩, hb9⟩
                | 18 => intro ho hd; obtain rfl := (Option.some.inj ho).symm; obtain ⟨sa, sc, d17⟩ : IsSlN SM (vs 17) w' := hd ⟨17, .data⟩ (by simp) rfl; have d15 : vs 15 = (.bool false) := hd ⟨15, .guard⟩ (by simp) rfl; clear hd ho; have h180 := G.h (j := 17) (d := 180) rfl (by decide) d17; refine step_yes G rfl rfl (by decide) d15 ?_; clear G; exact step_run (v := (.int .i64 (SM : Int))) (by go_simp) rfl
                | 19 => intro ho hd; obtain rfl := (Option.some.inj ho).symm; have d15 : vs 15 = (.bool false) := hd ⟨15, .guard⟩ (by simp) rfl; clear hd ho; refine step_yes G rfl rfl (by decide) d15 ?_; clear G; exact step_run (v := (.pointer (some ⟨SB + 1, 2, none⟩))) (by go_simp) rfl
                | 20 => intro ho hd; obtain rfl := (Option.some.inj ho).symm; have d19 : vs 19 = (.pointer (some ⟨SB + 1, 2, none⟩)) := hd ⟨19, .data⟩ (by simp) rfl; have d15 : vs 15 = (.bool false) := hd ⟨15, .guard⟩ (by simp) rfl; clear hd ho; have h182 := G.h (j := 19) (d := 182) rfl (by decide) d19; refine step_yes G rfl rfl (by decide) d15 ?_; clear G; exact step_run (v := (.int .i64 c3)) (by go_simp) rfl
                | 21 => intro ho hd; obtain rfl := (Option.some.inj ho).symm; have d18 : vs 18 = (.int .i64 (SM : Int)) := hd ⟨18, .data⟩ (by simp) rfl; have d20 : vs 20 = (.int .i64 c3) := hd ⟨20, .data⟩ (by simp) rfl; have d15 : vs 15 = (.bool false) := hd ⟨15, .guard⟩ (by simp) rfl; clear hd ho; have h181 := G.h (j := 18) (d := 181) rfl (by decide) d18; have h183 := G.h (j := 20) (d := 183) rfl (by decide) d20; refine step_yes G rfl rfl (by decide) d15 ?_; clear G; exact step_run (v := (.bool false)) (by go_simp) rfl
                | 22 => intro ho hd; obtain rfl := (Option.some.inj ho).symm; have d15 : vs 15 = (.bool false) := hd ⟨15, .data⟩ (by simp) rfl; have d21 : vs 21 = (.bool false) := hd ⟨21, .data⟩ (by simp) rfl; clear hd ho; have h178 := G.h (j := 15) (d := 178) rfl (by decide) d15; have h184 := G.h (j := 21) (d := 184) rfl (by decide) d21; refine step_open rfl ?_; clear G; exact step_run (v := (.bool false)) (by go_simp) rfl
                | 23 => intro ho hd; obtain rfl := (Option.some.inj ho).symm; have d22 : vs 22 = (.bool false) := hd ⟨22, .data⟩ (by simp) rfl; clear hd ho; have h185 := G.h (j := 22) (d := 185) rfl (by decide) d22; refine step_open rfl ?_; clear G; exact step_run (v := (.bool false)) (by go_simp) rfl
                | 24 => intro ho hd; obtain rfl := (Option.some.inj ho).symm; have d23 : vs 23 = (.bool false) := hd ⟨23, .guard⟩ (by simp) rfl; clear hd ho; refine step_yes G rfl rfl (by decide) d23 ?_; clear G; exact step_run (v := (.slice na MN nc)) (by go_simp) rfl
                | 25 => intro ho hd; obtain rfl := (Option.some.inj ho).symm; have d24 : vs 24 = (.slice na MN nc) := hd ⟨24, .data⟩ (by simp) rfl; have d23 : vs 23 = (.bool false) := hd ⟨23, .guard⟩ (by simp) rfl; clear hd ho; have h187 := G.h (j := 24) (d := 187) rfl (by decide) d24; refine step_yes G rfl rfl (by decide) d23 ?_; clear G; exact step_run (v := (.int .i64 (MN : Int))) (by go_simp) rfl
                | 26 => intro ho hd; obtain rfl := (Option.some.inj ho).symm; have d23 : vs 23 = (.bool false) := hd ⟨23, .guard⟩ (by simp) rfl; clear hd ho; refine step_yes G rfl rfl (by decide) d23 ?_; clear G; exact step_run (v := (.pointer (some ⟨SB + 1, 0, none⟩))) (by go_simp) rfl
                | 27 => intro ho hd; obtain rfl := (Option.some.inj ho).symm; have d26 : vs 26 = (.pointer (some ⟨SB + 1, 0, none⟩)) := hd ⟨26, .data⟩ (by simp) rfl; have d23 : vs 23 = (.bool false) := hd ⟨23, .guard⟩ (by simp) rfl; clear hd ho; have h189 := G.h (j := 26) (d := 189) rfl (by decide) d26; refine step_yes G rfl rfl (by decide) d23 ?_; clear G; exact step_run (v := (.int .i64 c1)) (by go_simp) rfl
                | 28 => intro ho hd; obtain rfl := (Option.some.inj ho).symm; have d25 : vs 25 = (.int .i64 (MN : Int)) := hd ⟨25, .data⟩ (by simp) rfl; have d27 : vs 27 = (.int .i64 c1) := hd ⟨27, .data⟩ (by simp) rfl; have d23 : vs 23 = (.bool false) := hd ⟨23, .guard⟩ (by simp) rfl; clear hd ho; have h188 := G.h (j := 25) (d := 188) rfl (by decide) d25; have h190 := G.h (j := 27) (d := 190) rfl (by decide) d27; refine step_yes G rfl rfl (by decide) d23 ?_; clear G; exact step_run (v := (.bool false)) (by go_simp) rfl
                | 29 => intro ho hd; obtain rfl := (Option.some.inj ho).symm; have d23 : vs 23 = (.bool false) := hd ⟨23, .data⟩ (by simp) rfl; have d28 : vs 28 = (.bool false) := hd ⟨28, .data⟩ (by simp) rfl; clear hd ho; have h186 := G.h (j := 23) (d := 186) rfl (by decide) d23; have h191 := G.h (j := 28) (d := 191) rfl (by decide) d28; refine step_open rfl ?_; clear G; exact step_run (v := (.bool false)) (by go_simp) rfl
                | n + 30 => intro ho hd; simp at ho
               ·intro vs w' hb hR
                have hv : vs 29 = .bool false := hR 29 (by simp)
                refine hK3 _ _ (Met.intro ?_)
                exact cut_done (bs := mskQ) (R := fun f wx => f 192 = .bool false ∧ Below wc6.heap.size wc6 wx) hJ3 _ _ (by kernel_rfl) ⟨Eq.trans (by kernel_rfl) hv, hb⟩ (by kernel_rfl)
            ·intro J3 K3 hJ3 hK3
             have hcnt := HCN.out
             have hce := HCNE.out
             by_cases hq : x.kind = 3 ∧ err = 0
             ·have e1 : decide (x.kind = 3 ∧ err = 0) = true := by simp [hq]
              rw [if_pos hq] at hcnt
              have HE : Hid (cn - 1 = (MN : Int)) := Lib.hid (by omega)
              clear hcnt hce hq
              rw [e1]
              go_wp2_with fail
              refine Met.intro (hJ3 _ _ ?_ (by kernel_rfl))
              exact ⟨by show Value.int .i64 (cn - 1) = _; rw [HE.out], rfl⟩
             ·have e1 : decide (x.kind = 3 ∧ err = 0) = false := by simp; omega
              rw [if_neg hq] at hcnt
              have HE : Hid (cn = (MN : Int)) := Lib.hid (by omega)
              clear hcnt hce hq
              rw [e1]
              go_wp2_with fail
              refine Met.intro (hJ3 _ _ ?_ (by kernel_rfl))
              exact ⟨by show Value.int .i64 cn = _; rw [HE.out], rfl⟩
           ·intro J3 K3 hJ3 hK3
            by_cases hq : x.kind = 3
            ·by_cases hq2 : err = 0
             ·have e1 : (x.kind == 3) = true := by simp [hq]
              have e2 : (err == 0) = true := by simp [hq2]
              have HE : Hid (decide (x.kind = 3 ∧ err = 0) = true) := Lib.hid (by simp [hq, hq2])
              clear hq hq2
              go_wp2_with fail
              refine Met.intro (hJ3 _ _ ?_ (by kernel_rfl))
              exact ⟨by rw [HE.out]; rfl, rfl⟩
             ·have e1 : (x.kind == 3) = true := by simp [hq]
              have e2 : (err == 0) = false := by simp [hq2]
              have HE : Hid (decide (x.kind = 3 ∧ err = 0) = false) := Lib.hid (by simp [hq2])
              clear hq hq2
              go_wp2_with fail
              refine Met.intro (hJ3 _ _ ?_ (by kernel_rfl))
              exact ⟨by rw [HE.out]; rfl, rfl⟩
            ·have e1 : (x.kind == 3) = false := by simp [hq]
             have HE : Hid (decide (x.kind = 3 ∧ err = 0) = false) := Lib.hid (by simp [hq])
             clear hq
             go_wp2_with fail
             refine Met.intro (hJ3 _ _ ?_ (by kernel_rfl))
             exact ⟨by rw [HE.out]; rfl, rfl⟩
          ·intro J3 K3 hJ3 hK3
           by_cases hq : nn = 0
           ·have e1 : (nn != 0) = false := by simp [hq]
            have HE : Hid ((m : Int) = (m : Int) + if nn = 0 then 0 else 1) := Lib.hid (by rw [if_pos hq]; omega)
            clear hq
            go_wp2_with fail
            refine Met.intro (hJ3 _ _ ?_ (by kernel_rfl))
            exact ⟨by rw [← HE.out]; rfl, rfl⟩
           ·have e1 : (nn != 0) = true := by simp [hq]
            have HE : Hid (((m : Int) + 1) = (m : Int) + if nn = 0 then 0 else 1) := Lib.hid (by rw [if_neg hq])
            clear hq
            go_wp2_with fail
            refine Met.intro (hJ3 _ _ ?_ (by kernel_rfl))
            exact ⟨by rw [← HE.out]; rfl, rfl⟩
         ·intro J2 K2 hJ2 hK2
          rcases (by omega : x.kind = 1 ∨ x.kind = 2 ∨ x.kind = 3 ∨ x.kind = 4 ∨ x.kind = 5 ∨ x.kind = 6 ∨ (x.kind ≠ 1 ∧ x.kind ≠ 2 ∧ x.kind ≠ 3 ∧ x.kind ≠ 4 ∧ x.kind ≠ 5 ∧ x.kind ≠ 6)) with h | h | h | h | h | h | h
          rotate_left 2
          ·have q1 : (x.kind == 1) = false := by simp [h]
           have q2 : (x.kind == 2) = false := by simp [h]
           have q3 : (x.kind == 3) = true := by simp [h]
           have HX3 : Hid (x.kind = 3) := Lib.hid h
           have HC := l_despawn HKC.out.ks.lw hh hh0 hh1
           rw [HKC.out.ks.wb] at HC
           have HC := Lib.hid HC
           clear h
           go_wp2_with fail
           refine HC.out.mono ?_
           rintro en w6 ⟨err, rfl, hld⟩
           have HF : Hid (KSw c2 c3 c1 w2 WB k d d.S PX x la m lc w5.heap.size pra prc Ls hh (.slice ha hn hc) (.int .i64 err) (.int .u64 0) w6) := Lib.hid (by
            obtain ⟨d', k1, k2⟩ := HKC.out.deed (hld.mono (by omega))
            refine ⟨err, 0, ha, hn, hc, H, d', rfl, rfl, rfl, k1, ?_⟩
            rw [if_pos rfl, Int.zero_add]
            by_cases he : err = 0
            ·rw [if_pos ⟨HX3.out, he⟩]; rw [if_pos he] at k2; exact k2
            ·rw [if_neg (fun hh => he hh.2)]; rw [if_neg he] at k2; exact k2)
           clear hld HC f0 f1 x0 x3 x4 q1 q2 q3
           go_wp2_with fail
           refine Met.intro (hJ2 _ _ ?_ (by kernel_rfl))
           exact HF.out
          ·have q1 : (x.kind == 1) = false := by simp [h]
           have q2 : (x.kind == 2) = false := by simp [h]
           have q3 : (x.kind == 3) = false := by simp [h]
           have q4 : (x.kind == 4) = true := by simp [h]
           have HX3 : Hid (x.kind ≠ 3) := Lib.hid (by omega)
           have HC := l_add HKC.out.ks.lw hk999 hh hh0 hh1 HFI.out fc
           rw [HKC.out.ks.wb] at HC
           have HC := Lib.hid HC
           clear h
           go_wp2_with fail
           refine HC.out.mono ?_
           rintro en w6 ⟨err, rfl, hld⟩
           have HF : Hid (KSw c2 c3 c1 w2 WB k d d.S PX x la m lc w5.heap.size pra prc Ls hh (.slice ha hn hc) (.int .i64 err) (.int .u64 0) w6) := Lib.hid (by
            obtain ⟨d', k1, k2⟩ := HKC.out.deed (hld.mono (by omega))
            refine ⟨err, 0, ha, hn, hc, H, d', rfl, rfl, rfl, k1, ?_⟩
            rw [if_pos rfl, Int.zero_add, if_neg (fun hh => HX3.out hh.1)]
            exact k2)
           clear hld HC f0 f1 x0 x3 x4 q1 q2 q3 q4
           go_wp2_with fail
           refine Met.intro (hJ2 _ _ ?_ (by kernel_rfl))
           exact HF.out
          ·have q1 : (x.kind == 1) = false := by simp [h]
           have q2 : (x.kind == 2) = false := by simp [h]
           have q3 : (x.kind == 3) = false := by simp [h]
           have q4 : (x.kind == 4) = false := by simp [h]
           have q5 : (x.kind == 5) = true := by simp [h]
           have HX3 : Hid (x.kind ≠ 3) := Lib.hid (by omega)
           have HC := l_remove HKC.out.ks.lw hk999 hh hh0 hh1 x.comp
           rw [HKC.out.ks.wb] at HC
           have HC := Lib.hid HC
           clear h
           go_wp2_with fail
           refine HC.out.mono ?_
           rintro en w6 ⟨err, rfl, hld⟩
           have HF : Hid (KSw c2 c3 c1 w2 WB k d d.S PX x la m lc w5.heap.size pra prc Ls hh (.slice ha hn hc) (.int .i64 err) (.int .u64 0) w6) := Lib.hid (by
            obtain ⟨d', k1, k2⟩ := HKC.out.deed (hld.mono (by omega))
            refine ⟨err, 0, ha, hn, hc, H, d', rfl, rfl, rfl, k1, ?_⟩
            rw [if_pos rfl, Int.zero_add, if_neg (fun hh => HX3.out hh.1)]
            exact k2)
           clear hld HC f0 f1 x0 x3 x4 q1 q2 q3 q4 q5
           go_wp2_with fail
           refine Met.intro (hJ2 _ _ ?_ (by kernel_rfl))
           exact HF.out
          ·have q1 : (x.kind == 1) = false := by simp [h]
           have q2 : (x.kind == 2) = false := by simp [h]
           have q3 : (x.kind == 3) = false := by simp [h]
           have q4 : (x.kind == 4) = false := by simp [h]
           have q5 : (x.kind == 5) = false := by simp [h]
           have q6 : (x.kind == 6) = true := by simp [h]
           have HX3 : Hid (x.kind ≠ 3) := Lib.hid (by omega)
           have HC := l_set HKC.out.ks.lw hh hh0 hh1 HFI.out fc
           rw [HKC.out.ks.wb] at HC
           have HC := Lib.hid HC
           clear h
           go_wp2_with fail
           refine HC.out.mono ?_
           rintro en w6 ⟨err, rfl, hld⟩
           have HF : Hid (KSw c2 c3 c1 w2 WB k d d.S PX x la m lc w5.heap.size pra prc Ls hh (.slice ha hn hc) (.int .i64 err) (.int .u64 0) w6) := Lib.hid (by
            obtain ⟨d', k1, k2⟩ := HKC.out.deed (hld.mono (by omega))
            refine ⟨err, 0, ha, hn, hc, H, d', rfl, rfl, rfl, k1, ?_⟩
            rw [if_pos rfl, Int.zero_add, if_neg (fun hh => HX3.out hh.1)]
            exact k2)
           clear hld HC f0 f1 x0 x3 x4 q1 q2 q3 q4 q5 q6
           go_wp2_with fail
           refine Met.intro (hJ2 _ _ ?_ (by kernel_rfl))
           exact HF.out
          ·have q1 : (x.kind == 1) = false := by simp; omega
           have q2 : (x.kind == 2) = false := by simp; omega
           have q3 : (x.kind == 3) = false := by simp; omega
           have q4 : (x.kind == 4) = false := by simp; omega
           have q5 : (x.kind == 5) = false := by simp; omega
           have q6 : (x.kind == 6) = false := by simp; omega
           have HX3 : Hid (x.kind ≠ 3) := Lib.hid (by omega)
           have HF : Hid (KSw c2 c3 c1 w2 WB k d d.S PX x la m lc w5.heap.size pra prc Ls hh (.slice ha hn hc) (.int .i64 0) (.int .u64 0) _) := Lib.hid (by
            obtain ⟨d', k1, k2⟩ := HKC.out.deed (HKC.out.ks.lw.same (Below.refl _ _) (show 2 * k ≤ 2 * (k + 1) by omega) hh 0)
            refine ⟨0, 0, ha, hn, hc, H, d', rfl, rfl, rfl, k1, ?_⟩
            rw [if_pos rfl, Int.zero_add, if_neg (fun hh => HX3.out hh.1)]
            exact k2)
           clear h f0 f1 x3 x4
           go_wp2_with fail
           refine Met.intro (hJ2 _ _ ?_ (by kernel_rfl))
           exact HF.out
          ·have q1 : (x.kind == 1) = true := by simp [h]
           have HX3 : Hid (x.kind ≠ 3) := Lib.hid (by omega)
           have HC := l_spawn HKC.out.ks.lw (HKC.out.ks.lw.fr.parts HXE.out.1 (by have := HXT.out.1; omega)) hh
           rw [HKC.out.ks.wb] at HC
           have HC := Lib.hid HC
           clear h
           go_wp2_with fail
           refine HC.out.mono ?_
           rintro en w6 ⟨nn, err, rfl, hor⟩
           rcases hor with ⟨he, rfl, hld⟩ | ⟨rfl, hn0, hn64, hld⟩
           ·have e3 : (err == 0) = false := by simp [he]
            have HF : Hid (KSw c2 c3 c1 w2 WB k d d.S PX x la m lc w5.heap.size pra prc Ls hh (.slice ha hn hc) (.int .i64 err) (.int .u64 0) w6) := Lib.hid (by
             obtain ⟨d', k1, k2⟩ := HKC.out.deed (hld.mono (by omega))
             refine ⟨err, 0, ha, hn, hc, H, d', rfl, rfl, rfl, k1, ?_⟩
             rw [if_pos rfl, Int.zero_add, if_neg (fun hh => HX3.out hh.1)]
             exact k2)
            clear hld HC f0 f1 x0 x3 x4 he q1
            go_wp2_with fail
            refine Met.intro (hJ2 _ _ ?_ (by kernel_rfl))
            exact HF.out
           ·obtain ⟨d6, hkb6, hdd6⟩ := HKC.out.deed (hld.mono (show 2 * k ≤ 2 * (k + 1) by omega))
            obtain ⟨i0, hi, hz0, hz1, hz2⟩ := info_parts Tryz.infoE
            have hbA : Below w6.heap.size w6 (w6.alloc (.cells #[.int .u64 nn] 38)) := (Below.refl _ _).alloc (Nat.le_refl _) _
            have hkA := hkb6.below hbA
            have hrowA := hkA.ks.row
            have hhk := HKC.out.ks.hk
            have hsz := hkb6.ks.lw.bel.size
            have HKA := Lib.hid hkA
            have HDD := Lib.hid hdd6
            clear hkb6 hdd6 hkA hbA hld HC f0 f1 x0 x3 x4
            go_wp2_with (at_builtin; refine wpList_append_lies _ rfl (.tmp 118) (.tmp 120) 33 rfl w2.heap.size 38 i0 (.int .u64 0) 1 8 Tryz.underlying33 hi hz0 hz1 hz2 rfl (by decide) (.slice ha hn hc) hn (H.map (.int .u64)) rfl hrowA ⟨w6.heap.size, 0, none⟩ 1 1 [.int .u64 nn] rfl rfl (cell_one_new _ _ _) (ints_oneCell .u64 [nn]) (by decide) (by unfold maxLen; omega) (by omega) (by simp; omega) (w6.heap.size + 1) (by simp) ?_)
            intro gq gc w7 hown7 hg7 hat7 _
            have HF : Hid (KSw c2 c3 c1 w2 WB k d d.S PX x la m lc w5.heap.size pra prc Ls hh (.slice (some ⟨gq, 0, none⟩) (hn + 1) gc) (.int .i64 0) (.int .u64 nn) w7) := Lib.hid (by
             refine ⟨0, nn, _, _, _, _, d6, rfl, rfl, rfl, HKA.out.push hhk (Int.le_of_lt hn0) hn64 hg7 hown7 (by rw [World.size_alloc]; exact hat7), ?_⟩
             rw [if_neg (by omega), if_neg (fun hh => HX3.out hh.1)]
             exact HDD.out)
            clear hown7 hg7 hat7 hrowA hi hz0 hz1 hz2 q1
            go_wp2_with fail
            refine Met.intro (hJ2 _ _ ?_ (by kernel_rfl))
            exact HF.out
          ·have q1 : (x.kind == 1) = false := by simp [h]
           have q2 : (x.kind == 2) = true := by simp [h]
           have HX3 : Hid (x.kind ≠ 3) := Lib.hid (by omega)
           have HC := l_spawn HKC.out.ks.lw (HKC.out.ks.lw.fr.parts HXE.out.1 (by have := HXT.out.1; omega)) hh
           rw [HKC.out.ks.wb] at HC
           have HC := Lib.hid HC
           clear h
           go_wp2_with fail
           refine HC.out.mono ?_
           rintro en w6 ⟨nn, err, rfl, hor⟩
           rcases hor with ⟨he, rfl, hld⟩ | ⟨rfl, hn0, hn64, hld⟩
           ·have e3 : (err == 0) = false := by simp [he]
            have HF : Hid (KSw c2 c3 c1 w2 WB k d d.S PX x la m lc w5.heap.size pra prc Ls hh (.slice ha hn hc) (.int .i64 err) (.int .u64 0) w6) := Lib.hid (by
             obtain ⟨d', k1, k2⟩ := HKC.out.deed (hld.mono (by omega))
             refine ⟨err, 0, ha, hn, hc, H, d', rfl, rfl, rfl, k1, ?_⟩
             rw [if_pos rfl, Int.zero_add, if_neg (fun hh => HX3.out hh.1)]
             exact k2)
            clear hld HC f0 f1 x0 x3 x4 he q1 q2
            go_wp2_with fail
            refine Met.intro (hJ2 _ _ ?_ (by kernel_rfl))
            exact HF.out
           ·obtain ⟨d6, hkb6, hdd6⟩ := HKC.out.deed (hld.mono (show 2 * k ≤ 2 * (k + 1) by omega))
            obtain ⟨i0, hi, hz0, hz1, hz2⟩ := info_parts Tryz.infoE
            have hbA : Below w6.heap.size w6 (w6.alloc (.cells #[.int .u64 nn] 38)) := (Below.refl _ _).alloc (Nat.le_refl _) _
            have hkA := hkb6.below hbA
            have hrowA := hkA.ks.row
            have hhk := HKC.out.ks.hk
            have hsz := hkb6.ks.lw.bel.size
            have HKA := Lib.hid hkA
            have HDD := Lib.hid hdd6
            clear hkb6 hdd6 hkA hbA hld HC f0 f1 x0 x3 x4
            go_wp2_with (at_builtin; refine wpList_append_lies _ rfl (.tmp 118) (.tmp 120) 33 rfl w2.heap.size 38 i0 (.int .u64 0) 1 8 Tryz.underlying33 hi hz0 hz1 hz2 rfl (by decide) (.slice ha hn hc) hn (H.map (.int .u64)) rfl hrowA ⟨w6.heap.size, 0, none⟩ 1 1 [.int .u64 nn] rfl rfl (cell_one_new _ _ _) (ints_oneCell .u64 [nn]) (by decide) (by unfold maxLen; omega) (by omega) (by simp; omega) (w6.heap.size + 1) (by simp) ?_)
            intro gq gc w7 hown7 hg7 hat7 _
            have HF : Hid (KSw c2 c3 c1 w2 WB k d d.S PX x la m lc w5.heap.size pra prc Ls hh (.slice (some ⟨gq, 0, none⟩) (hn + 1) gc) (.int .i64 0) (.int .u64 nn) w7) := Lib.hid (by
             refine ⟨0, nn, _, _, _, _, d6, rfl, rfl, rfl, HKA.out.push hhk (Int.le_of_lt hn0) hn64 hg7 hown7 (by rw [World.size_alloc]; exact hat7), ?_⟩
             rw [if_neg (by omega), if_neg (fun hh => HX3.out hh.1)]
             exact HDD.out)
            clear hown7 hg7 hat7 hrowA hi hz0 hz1 hz2 q1 q2
            go_wp2_with fail
            refine Met.intro (hJ2 _ _ ?_ (by kernel_rfl))
            exact HF.out
        ·intro J2 K2 hJ2 hK2
         by_cases hpl : 0 < x.pl
         ·have e1 : decide (0 < x.pl) = true := by simp [hpl]
          obtain ⟨pb, po, p, hpa, hpB, hp0, hpi, p0, p1⟩ := HXE.out.1.get (w' := w9) (((HK8.out.below HB9.out).ks.lw.bel)) hpl
          obtain ⟨x0, x3, x4⟩ := (HK8.out.below HB9.out).cells
          have f0 := cell_at HFB.out 0
          have f1 := cell_at HFB.out 1
          have g0 := free_at HFB.out 0
          have g1 := free_at HFB.out 1
          simp at f0 f1 p0 p1
          rw [hpa] at x4
          have k2 := hset _ _ 1 (.slice p.va p.vl p.vc) _ _ _ (hset _ _ 0 (.int .i64 p.comp) _ _ _ HFB.out)
          simp at k2
          have HF : Hid (∃ (fc : Int) (fva : Option Addr) (fvl fvc : Nat) (fv : List WI), ((w9.setCell ⟨FB, 0, none⟩ (.int .i64 p.comp)).setCell ⟨FB, 1, none⟩ (.slice p.va p.vl p.vc)).heap[FB]? = some (.cells #[.int .i64 fc, .slice fva fvl fvc] 48 (0, 0)) ∧ IntsAt w2.heap.size w2 fva fvl fvc fv ∧ Below w8.heap.size w8 ((w9.setCell ⟨FB, 0, none⟩ (.int .i64 p.comp)).setCell ⟨FB, 1, none⟩ (.slice p.va p.vl p.vc))) := Lib.hid ⟨_, _, _, _, _, k2, HXE.out.1.2.2.2.1 p (List.mem_of_getElem? hp0), (HB9.out.setCell (Nat.le_of_eq HFE.out) _).setCell (Nat.le_of_eq HFE.out) _⟩
          clear k2 hp0 hpi hpa x0 x3
          go_wp2_with fail
          refine Met.intro (hJ2 _ _ ?_ (by kernel_rfl))
          exact HF.out
         ·have e1 : decide (0 < x.pl) = false := by simp; omega
          go_wp2_with fail
          refine Met.intro (hJ2 _ _ ?_ (by kernel_rfl))
          exact ⟨0, none, 0, 0, [], HFB.out, ⟨rfl, Nat.le_refl _, by unfold maxLen; omega, by simp, .inl rfl⟩, HB9.out⟩
      ·intro J2 K2 hJ2 hK2
       cases bb
       ·have HXE2 := HXE.out.2
        go_wp2_with fail
        refine Met.intro (hJ2 _ _ ?_ (by kernel_rfl))
        exact ⟨_, rfl, HXE2.1, HXE2.2, rfl⟩
       ·obtain ⟨hn0, hi0⟩ := HBB.out rfl
        obtain ⟨q, hq⟩ : ∃ q : Nat, x.i % (hn : Int) = (q : Int) := ⟨(x.i % (hn : Int)).toNat, by have := Int.emod_nonneg x.i (show (hn : Int) ≠ 0 by omega); omega⟩
        have hql : q < hn := by have := Int.emod_lt_of_pos x.i (show (0 : Int) < (hn : Int) by omega); omega
        have hq2 : x.i.tmod (hn : Int) = (q : Int) := by rw [Int.tmod_eq_emod_of_nonneg hi0]; exact hq
        obtain ⟨hb2, hoff, hE, rfl, hB2, hHe, he0⟩ := (ERow.of HKX.out.1.row HKX.out.1.len (by have := HKX.out.1.hk; omega)).get hql
        have hbd := HKX.out.1.bd hE (List.mem_of_getElem? hHe)
        have j1 : (0 : Int) ≤ (q : Int) := by omega
        have j2 : (q : Int) < (hn : Int) := by omega
        have HBD := Lib.hid hbd
        clear hHe hbd
        go_wp2_with fail
        refine Met.intro (hJ2 _ _ ?_ (by kernel_rfl))
        exact ⟨_, rfl, HBD.out.1, HBD.out.2, rfl⟩
     ·intro J2 K2 hJ2 hK2
      by_cases hn0 : 0 < hn
      ·by_cases hi0 : 0 ≤ x.i
       ·have e1 : decide (0 ≤ x.i) = true := by simp [hi0]
        have e2 : decide (0 < hn) = true := by simp [hn0]
        go_wp2_with fail
        refine Met.intro (hJ2 _ _ ?_ (by kernel_rfl))
        exact ⟨true, rfl, fun _ => ⟨hn0, hi0⟩, rfl⟩
       ·have e1 : decide (0 ≤ x.i) = false := by simp; omega
        have e2 : decide (0 < hn) = true := by simp [hn0]
        go_wp2_with fail
        refine Met.intro (hJ2 _ _ ?_ (by kernel_rfl))
        exact ⟨false, rfl, fun h => (by cases h), rfl⟩
      ·have e2 : decide (0 < hn) = false := by simp; omega
       go_wp2_with fail
       refine Met.intro (hJ2 _ _ ?_ (by kernel_rfl))
       exact ⟨false, rfl, fun h => (by cases h), rfl⟩
    ·obtain rfl : k = len2 := by omega
     go_wp2_with fail
     go_returns
     exact ⟨rfl, HB2.out.trans (HKK.out.lw.bel.mono HB2.out.size)⟩
   ·have HN := Lib.hid (wNew_nil ⟨c1, c2, c3, c4, c5, c6⟩ ver cs a len cap w2 ((HCS.out.1.below HB2.out).mono HB2.out.size) HCS.out.2.1 hgood)
    clear hgood
    go_wp2_with fail
    refine HN.out.mono ?_
    rintro e w3 ⟨rfl, hb⟩
    have HB3 := Lib.hid (HB2.out.trans (hb.mono HB2.out.size))
    clear hb HN s0 s1 y0 y1 y2 y3 y4 y5
    go_wp2_with fail
    go_returns
    exact ⟨rfl, HB3.out⟩
  ·go_wp2_with fail
   go_returns
   exact ⟨rfl, HB2.out⟩
 ·clear hg
  go_wp2_with fail
  go_returns
  exact ⟨rfl, HB2.out⟩
end Go.Proofs.YthmpknlgkflhiabGreat
