/- Plain laws of layouts: sizes of fields that can be are small; a schema that can be has such fields. · Plain: bytes of numbers, rows of values, what fits. · Mint, plain: what is told of schemas, programs, systems; their bytes. -/
import Derived.Test.YtgnilkjdpfbjgaaGreatQ4
import Derived.Test.YtgnilkjdpfbjgaaGreatQ3
import Derived.Deep.RegionHeld3
import Derived.Test.YtgnilkjdpfbjgaaGreatQ2
namespace Go.Proofs.YtgnilkjdpfbjgaaGreat
open Go.RowKit
set_option linter.unusedVariables false
theorem w64_id {n : Int} (h0 : -9223372036854775808 ≤ n) (h1 : n ≤ 9223372036854775807) : wrap64 n = n := by
  unfold wrap64; omega
theorem upF_eq {a s : Int} (h0 : 0 ≤ a) (h1 : a ≤ 100000) (h2 : 1 ≤ s) (h3 : s ≤ 8) : upF a s = (a + s - 1) / s * s ∧ a ≤ upF a s ∧ upF a s ≤ a + 7 := by
  have e : upF a s = (a + s - 1) / s * s := by
    unfold upF
    rw [w64_id (n := a + s) (by omega) (by omega), w64_id (n := a + s - 1) (by omega) (by omega), Int.tdiv_eq_ediv_of_nonneg (by omega)]
    rcases (by omega : s = 1 ∨ s = 2 ∨ s = 3 ∨ s = 4 ∨ s = 5 ∨ s = 6 ∨ s = 7 ∨ s = 8) with rfl | rfl | rfl | rfl | rfl | rfl | rfl | rfl <;> (rw [w64_id (n := _ / _) (by omega) (by omega), w64_id (by omega) (by omega)])
  rw [e]
  refine ⟨rfl, ?_⟩
  rcases (by omega : s = 1 ∨ s = 2 ∨ s = 3 ∨ s = 4 ∨ s = 5 ∨ s = 6 ∨ s = 7 ∨ s = 8) with rfl | rfl | rfl | rfl | rfl | rfl | rfl | rfl <;> omega
theorem fldOk_bd {f : Fld} (h : fldOk f = true) : 1 ≤ kSize f.kind ∧ kSize f.kind ≤ 8 ∧ 1 ≤ f.count ∧ f.count ≤ 8 := by
  have := (kSize_bd f.kind).2
  simp [fldOk] at h
  omega
theorem planStep_bd {p : List Int × Int × Int} {f : Fld} (h : fldOk f = true) (h0 : 0 ≤ p.2.1) (h1 : p.2.1 ≤ 10000) (h2 : 1 ≤ p.2.2) (h3 : p.2.2 ≤ 8) :
    (planStep p f).2.1 = upF p.2.1 (kSize f.kind) + kSize f.kind * f.count ∧ 0 ≤ (planStep p f).2.1 ∧ (planStep p f).2.1 ≤ p.2.1 + 71 ∧ 1 ≤ (planStep p f).2.2 ∧ (planStep p f).2.2 ≤ 8 := by
  obtain ⟨k1, k2, c1, c2⟩ := fldOk_bd h
  have hu := upF_eq h0 (by omega) k1 k2
  have hm : 1 ≤ kSize f.kind * f.count ∧ kSize f.kind * f.count ≤ 64 := by
    generalize kSize f.kind = s at *
    rcases (by omega : s = 1 ∨ s = 2 ∨ s = 3 ∨ s = 4 ∨ s = 5 ∨ s = 6 ∨ s = 7 ∨ s = 8) with rfl | rfl | rfl | rfl | rfl | rfl | rfl | rfl <;> omega
  have e : (planStep p f).2.1 = upF p.2.1 (kSize f.kind) + kSize f.kind * f.count := by
    unfold planStep
    simp only
    rw [w64_id (n := kSize f.kind * f.count) (by omega) (by omega), w64_id (by omega) (by omega)]
  have e2 : (planStep p f).2.2 = max p.2.2 (kSize f.kind) := rfl
  rw [e, e2]
  refine ⟨rfl, by omega, by omega, by omega, by omega⟩
theorem planF_bd : ∀ (fs : List Fld), fs.all fldOk = true → ∀ p : List Int × Int × Int, 0 ≤ p.2.1 → p.2.1 + 71 * fs.length ≤ 10000 → 1 ≤ p.2.2 → p.2.2 ≤ 8 →
    0 ≤ (fs.foldl planStep p).2.1 ∧ (fs.foldl planStep p).2.1 ≤ p.2.1 + 71 * fs.length ∧ 1 ≤ (fs.foldl planStep p).2.2 ∧ (fs.foldl planStep p).2.2 ≤ 8
  | [], _, p, h0, h1, h2, h3 => ⟨h0, by simp, h2, h3⟩
  | f :: r, h, p, h0, h1, h2, h3 => by
    rw [List.all_cons, Bool.and_eq_true] at h
    rw [List.length_cons] at h1 ⊢
    obtain ⟨_, b1, b2, b3, b4⟩ := planStep_bd h.1 h0 (by omega) h2 h3
    have := planF_bd r h.2 (planStep p f) b1 (by omega) b3 b4
    rw [List.foldl_cons]
    omega
theorem plan_bd {fs : List Fld} (h8 : fs.length ≤ 8) (h : fs.all fldOk = true) : 0 ≤ (planF fs).2.1 ∧ (planF fs).2.1 ≤ 568 ∧ 1 ≤ (planF fs).2.2 ∧ (planF fs).2.2 ≤ 8 := by
  have := planF_bd fs h ([], 0, 1) (by simp) (by simp; omega) (by simp) (by simp)
  unfold planF
  simp only at this
  omega
end Go.Proofs.YtgnilkjdpfbjgaaGreat
namespace Go.Proofs.YtgnilkjdpfbjgaaGreat
open Go.RowKit
set_option linter.unusedVariables false
/-- Bytes of a number, little end first. -/
def leB (n : Nat) : Nat → List UInt8
  | 0 => []
  | k + 1 => leB n k ++ [UInt8.ofNat (n / 256 ^ k)]
theorem leB_len (n k : Nat) : (leB n k).length = k := by
  induction k with
  | zero => rfl
  | succ k ih => simp [leB, ih]
def cnt (fs : List Fld) : Nat := (fs.map (·.count.toNat)).sum
end Go.Proofs.YtgnilkjdpfbjgaaGreat
namespace Go.Proofs.YtgnilkjdpfbjgaaGreat
open Go.RowKit
set_option linter.unusedVariables false
def sHp : ByteArray := ⟨#[104, 112]⟩
def sPos : ByteArray := ⟨#[112, 111, 115]⟩
def sN : ByteArray := ⟨#[110]⟩
def sX : ByteArray := ⟨#[120]⟩
def sY : ByteArray := ⟨#[121]⟩
def sTag : ByteArray := ⟨#[116, 97, 103]⟩
def sAge : ByteArray := ⟨#[97, 103, 101]⟩
def sMove : ByteArray := ⟨#[109, 111, 118, 101]⟩
def hpKind (v : Int) : Int := if v % 3 = 1 then 6 else if v % 3 = 2 then 4 else 3
def cHp (k : Int) : Cmp := ⟨1, sHp, [⟨sN, k, 1⟩]⟩
def cPos : Cmp := ⟨2, sPos, [⟨sX, 3, 1⟩, ⟨sY, 3, 1⟩]⟩
def cTag : Cmp := ⟨3, sTag, []⟩
/-- Whether there is such a version. -/
def verB (v : Int) : Bool := decide (1 ≤ v) && decide (v ≤ 1073741824)
def mintC (v : Int) : List Cmp := if v % 2 = 0 then [cHp (hpKind v), cPos, cTag] else [cHp (hpKind v), cPos]
theorem hpKind_is (v : Int) : hpKind v = 3 ∨ hpKind v = 6 ∨ hpKind v = 4 := by
  unfold hpKind
  split
  · simp
  · split <;> simp
theorem schema_mint {v : Int} (h : verB v = true) : schemaCheck v (mintC v) = 0 := by
  unfold verB at h
  simp only [Bool.and_eq_true, decide_eq_true_eq] at h
  unfold schemaCheck mintC
  rw [if_neg (by omega)]
  rcases hpKind_is v with e | e | e <;> rw [e] <;> split <;> decide +kernel
/-- Bytes of a short text. -/
def nameB (s : ByteArray) : List UInt8 := leB s.size 1 ++ s.data.toList
def fldBytes (f : Fld) : List UInt8 := nameB f.name ++ leB f.kind.toNat 1 ++ leB f.count.toNat 1
def cmpBytes (c : Cmp) : List UInt8 := leB c.id.toNat 1 ++ nameB c.name ++ leB c.fields.length 1 ++ c.fields.flatMap fldBytes
def scBytes (ver : Int) (cs : List Cmp) : List UInt8 := [83] ++ leB ver.toNat 4 ++ leB cs.length 1 ++ cs.flatMap cmpBytes
/-- A schema whose bytes are right. -/
def fldFit (f : Fld) : Bool := decide (f.name.size ≤ 255) && decide (0 ≤ f.kind) && decide (f.kind < 256) && decide (0 ≤ f.count) && decide (f.count < 256)
def cmpFit (c : Cmp) : Bool := decide (0 ≤ c.id) && decide (c.id < 256) && decide (c.name.size ≤ 255) && decide (c.fields.length < 256) && c.fields.all fldFit
def scFit (cs : List Cmp) : Bool := decide (cs.length < 256) && cs.all cmpFit
theorem scFit_mint (v : Int) : scFit (mintC v) = true := by
  unfold mintC
  rcases hpKind_is v with e | e | e <;> rw [e] <;> split <;> decide +kernel
/-- A formula of one instruction: 3 (here) of a field, or 1 (the number 0). -/
structure InsT where
  op : Int
  a : Int
structure RuT where
  nw : Int
  old : Int
  ex : List InsT
def insOk (x : InsT) : Bool := decide (x.op = 3) && decide (0 ≤ x.a) && decide (x.a < 8)
def insBytes (x : InsT) : List UInt8 := leB x.op.toNat 1 ++ leB x.a.toNat 1
def codeBytes (x : InsT) : List UInt8 := leB 1 1 ++ insBytes x
def partB (l : List UInt8) : List UInt8 := leB l.length 4 ++ l
def ruBytes (r : RuT) : List UInt8 := leB r.nw.toNat 1 ++ leB r.old.toNat 1 ++ leB r.ex.length 1 ++ r.ex.flatMap fun x => partB (codeBytes x)
def prBytes (a b : Int) (rs : List RuT) : List UInt8 := [77] ++ leB a.toNat 4 ++ leB b.toNat 4 ++ leB rs.length 1 ++ rs.flatMap ruBytes
/-- Rules that rise, whose formulas are good. -/
def rusOk : Int → List RuT → Bool
  | _, [] => true
  | l, r :: rs => decide (l < r.nw) && decide (r.nw ≤ 24) && decide (0 ≤ r.old) && decide (r.old ≤ 24) && (decide (r.old ≠ 0) || r.ex.isEmpty) && decide (r.ex.length ≤ 8) && r.ex.all insOk && rusOk r.nw rs
/-- What keeps each name, from a version to the next one. -/
def mintR (v : Int) : List RuT := if v % 2 = 0 then [⟨1, 1, [⟨3, 0⟩]⟩, ⟨2, 2, [⟨3, 0⟩, ⟨3, 1⟩]⟩] else [⟨1, 1, [⟨3, 0⟩]⟩, ⟨2, 2, [⟨3, 0⟩, ⟨3, 1⟩]⟩, ⟨3, 0, []⟩]
theorem rusOk_mint (v : Int) : rusOk 0 (mintR v) = true := by
  unfold mintR
  split <;> decide +kernel
structure OpT where
  code : Int
  a : Int
  b : Int
  c : Int
  k : Int
structure SysT where
  name : ByteArray
  stage : Int
  after : List ByteArray
  al : Int
  no : Int
  code : List OpT
def opBytes (x : OpT) : List UInt8 := leB x.code.toNat 1 ++ leB x.a.toNat 1 ++ leB x.b.toNat 1 ++ leB x.c.toNat 1 ++ leB x.k.toNat 8
def sysBytes (s : SysT) : List UInt8 := [89] ++ nameB s.name ++ leB s.stage.toNat 1 ++ leB s.after.length 1 ++ s.after.flatMap nameB ++ leB s.al.toNat 4 ++ leB s.no.toNat 4 ++ leB s.code.length 1 ++ s.code.flatMap opBytes
/-- The systems of a version. -/
def sysAge (v : Int) : SysT := ⟨sAge, 0, [], 2, 0, [⟨2, 1, 0, 0, 0⟩, ⟨1, 0, 0, 0, v % 7⟩, ⟨4, 0, 0, 0, 0⟩, ⟨3, 1, 0, 0, 0⟩]⟩
def sysMove : SysT := ⟨sMove, 0, [sAge], 4, 0, [⟨2, 2, 0, 0, 0⟩, ⟨2, 2, 1, 0, 0⟩, ⟨4, 0, 0, 0, 0⟩, ⟨3, 2, 0, 0, 0⟩]⟩
def mintS (v : Int) : List SysT := [sysAge v, sysMove]
/-- A sum of bytes: both halves. -/
def sumGo : Int × Int → List UInt8 → Int × Int
  | p, [] => p
  | (a, b), x :: r => sumGo ((a + x.toNat) % 65521, (b + (a + x.toNat) % 65521) % 65521) r
def sumF (l : List UInt8) : Int := (sumGo (1, 0) l).2 * 65536 + (sumGo (1, 0) l).1
def stampB (l : List UInt8) : List UInt8 := l ++ leB (sumF l).toNat 4
theorem sumGo_app : ∀ (l r : List UInt8) (p : Int × Int), sumGo p (l ++ r) = sumGo (sumGo p l) r
  | [], _, _ => rfl
  | x :: l, r, (a, b) => by
    show sumGo _ (l ++ r) = _
    rw [sumGo_app l r]
    rfl
theorem sumGo_bd : ∀ (l : List UInt8) (p : Int × Int), (0 ≤ p.1 ∧ p.1 < 65521 ∧ 0 ≤ p.2 ∧ p.2 < 65521) → 0 ≤ (sumGo p l).1 ∧ (sumGo p l).1 < 65521 ∧ 0 ≤ (sumGo p l).2 ∧ (sumGo p l).2 < 65521
  | [], _, h => h
  | x :: l, (a, b), h => by
    refine sumGo_bd l _ ⟨?_, ?_, ?_, ?_⟩
    · exact Int.emod_nonneg _ (by decide)
    · exact Int.emod_lt_of_pos _ (by decide)
    · exact Int.emod_nonneg _ (by decide)
    · exact Int.emod_lt_of_pos _ (by decide)
theorem sumF_bd (l : List UInt8) : 0 ≤ sumF l ∧ sumF l < 4294967296 := by
  have := sumGo_bd l (1, 0) (by decide)
  unfold sumF
  omega
/-- A bundle's bytes. -/
def bodyB (ver a b : Int) (cs : List Cmp) (rs : List RuT) (ss : List SysT) : List UInt8 := [82] ++ partB (scBytes ver cs) ++ partB (prBytes a b rs) ++ leB ss.length 1 ++ ss.flatMap fun s => partB (sysBytes s)
def mintB (v : Int) : List UInt8 := if verB v = true ∧ verB (v + 1) = true then stampB (bodyB (v + 1) v (v + 1) (mintC (v + 1)) (mintR v) (mintS (v + 1))) else []
/-- A draw: the state behind it. -/
def drawX (x : Nat) : Nat := (x * 6364136223846793005 + 1442695040888963407) % 18446744073709551616
def drawN (x n : Nat) : Nat := drawX x / 8589934592 % n
end Go.Proofs.YtgnilkjdpfbjgaaGreat
