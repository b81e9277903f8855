/- Contracts of tally.kind, (*Tally).upgrade, tally.one. -/
import Derived.Laws.CopyOwn
import Derived.Test.YtgngpanimeigbabDoorG0
namespace Go.Proofs.YtgngpanimeigbabDoor
open Go.RowKit
set_option linter.unusedVariables false

def kindF (k : Int) : Int := if k < 1 ∨ 11 < k then 0 else k
def opArr (k ent comp : Int) (pa : Option Addr) (pn pc : Nat) (all no ck ce cc : Int) (qa : Option Addr) (qn qc : Nat) (units : Int) (bytes : ByteArray) : Array Value :=
  #[.int .i64 k, .int .u64 ent, .int .i64 comp, .slice pa pn pc, .int .u32 all, .int .u32 no, .int .i64 ck, .int .u64 ce, .int .i64 cc, .slice qa qn qc, .int .i64 units, .string bytes]
set_option maxRecDepth 100000 in
theorem kind_any (k ent comp : Int) (pa : Option Addr) (pn pc : Nat) (all no ck ce cc : Int) (qa : Option Addr) (qn qc : Nat) (units : Int) (bytes : ByteArray) (w : World) :
    Calls Tryd.prog 18 #[.agg (opArr k ent comp pa pn pc all no ck ce cc qa qn qc units bytes)] w fun e w' => e = .returned (.int .i64 (kindF k)) ∧ Below w.heap.size w w' := by
  unfold opArr
  rcases (by omega : k < 1 ∨ (1 ≤ k ∧ 11 < k) ∨ (1 ≤ k ∧ k ≤ 11)) with h | ⟨h, h'⟩ | ⟨h, h'⟩
  · have H : Hid (kindF k = 0) := Lib.hid (by unfold kindF; rw [if_pos (by omega)])
    go_enter Tryd.func18, Tryd.ntmps18
    go_wp2
    go_ret
    exact ⟨by rw [H.out]; rfl, by go_grown⟩
  · have H : Hid (kindF k = 0) := Lib.hid (by unfold kindF; rw [if_pos (by omega)])
    go_enter Tryd.func18, Tryd.ntmps18
    go_wp2
    go_ret
    exact ⟨by rw [H.out]; rfl, by go_grown⟩
  · have H : Hid (kindF k = k) := Lib.hid (by unfold kindF; rw [if_neg (by omega)])
    go_enter Tryd.func18, Tryd.ntmps18
    go_wp2
    go_ret
    exact ⟨by rw [H.out]; rfl, by go_grown⟩
theorem kindF_bd (k : Int) : 0 ≤ kindF k ∧ kindF k ≤ 11 := by unfold kindF; split <;> omega

def tv (t : List Int) : Array Value := (t.map (Value.int .i64)).toArray
theorem tv_get {t : List Int} {i : Nat} {x : Int} (h : t[i]? = some x) : (tv t)[i]? = some (.int .i64 x) := by
  unfold tv; simp [h]
theorem tv_set (t : List Int) (i : Nat) (x : Int) : (tv t).setIfInBounds i (.int .i64 x) = tv (t.set i x) := by
  unfold tv; apply Array.ext'; simp
/-- The number at a place. -/
def gt (t : List Int) (i : Nat) : Int := t.getD i 0
theorem i64_wrap_eq (n : Int) : IntKind.i64.wrap n = wrap64 n := by rw [IntKind.wrap_i64]; unfold wrap64; rfl
/-- One more at a place. -/
def bump (t : List Int) (i : Nat) : List Int := t.set i (wrap64 (gt t i + 1))
def upF (t : List Int) (k : Int) (ok : Bool) : List Int :=
  if k = 10 then (if ok then bump t 17 else bump t 18) else if k = 11 ∧ ok = true then bump t 19 else t
theorem getD_some {t : List Int} {i : Nat} (h : i < t.length) : t[i]? = some (gt t i) := by simp [gt, List.getD, h]
theorem upgrade_set (t : List Int) (tb i : Nat) (w : World) (h : w.heap[tb]? = some (.cells (tv t) 25 (0, 0))) :
    (w.setCell ⟨tb, i, none⟩ (.int .i64 (wrap64 (gt t i + 1)))).heap[tb]? = some (.cells (tv (bump t i)) 25 (0, 0)) ∧ Only tb w (w.setCell ⟨tb, i, none⟩ (.int .i64 (wrap64 (gt t i + 1)))) := by
  refine ⟨?_, Only.setCell w ⟨tb, i, none⟩ _⟩
  rw [hset _ _ _ _ _ _ _ h, tv_set]; rfl
theorem upgrade_any (t : List Int) (tb : Nat) (k : Int) (ok : Bool) (w : World) (h : w.heap[tb]? = some (.cells (tv t) 25 (0, 0))) (hl : t.length = 22) :
    Calls Tryd.prog 19 #[.pointer (some ⟨tb, 0, none⟩), .int .i64 k, .bool ok] w fun e w' => e = .returned (.tuple #[]) ∧ w'.heap[tb]? = some (.cells (tv (upF t k ok)) 25 (0, 0)) ∧ Only tb w w' := by
  have c17 := (cell_at h 17).trans (tv_get (getD_some (by omega)))
  have c18 := (cell_at h 18).trans (tv_get (getD_some (by omega)))
  have c19 := (cell_at h 19).trans (tv_get (getD_some (by omega)))
  have f17 := free_at h 17
  have f18 := free_at h 18
  have f19 := free_at h 19
  have u17 := Lib.hid (upgrade_set t tb 17 w h)
  have u18 := Lib.hid (upgrade_set t tb 18 w h)
  have u19 := Lib.hid (upgrade_set t tb 19 w h)
  have HH := Lib.hid h
  clear h hl
  by_cases h10 : k = 10
  · subst h10
    cases ok
    · go_enter Tryd.func19, Tryd.ntmps19
      go_wp2
      go_returns
      exact ⟨rfl, u18.out⟩
    · go_enter Tryd.func19, Tryd.ntmps19
      go_wp2
      go_returns
      exact ⟨rfl, u17.out⟩
  · have e1 : (k == 10) = false := by simp [h10]
    by_cases h11 : k = 11
    · subst h11
      cases ok
      · go_enter Tryd.func19, Tryd.ntmps19
        go_wp2
        go_returns
        exact ⟨rfl, HH.out, Only.refl _ _⟩
      · go_enter Tryd.func19, Tryd.ntmps19
        go_wp2
        go_returns
        exact ⟨rfl, u19.out⟩
    · have e2 : (k == 11) = false := by simp [h11]
      have HU : Hid (upF t k ok = t) := Lib.hid (by unfold upF; rw [if_neg h10, if_neg (fun h => h11 h.1)])
      clear h10 h11
      go_enter Tryd.func19, Tryd.ntmps19
      go_wp2
      go_returns
      exact ⟨rfl, by rw [HU.out]; exact HH.out, Only.refl _ _⟩

def recArr (code ent : Int) (va : Option Addr) (vn vc : Nat) (ra : Option Addr) (rn rc : Nat) (done failed : Int) (sa : Option Addr) (sn sc : Nat) (sum ver : Int) (upg : Bool) (rows tabs jour : Int) : Array Value :=
  #[.int .i64 code, .int .u64 ent, .slice va vn vc, .slice ra rn rc, .int .i64 done, .int .i64 failed, .slice sa sn sc, .int .u32 sum, .int .i64 ver, .bool upg, .int .i64 rows, .int .i64 tabs, .int .i64 jour]
def zeros : List Int := [0, 0, 0, 0, 0, 0, 0, 0, 0, 0, 0, 0, 0, 0, 0, 0, 0, 0, 0, 0, 0, 0]
def oneA (k code : Int) : List Int := upF (((zeros.set (kindF k).toNat 1)).set (if code = 0 then 12 else 13) 1) k (code == 0)
def oneB (k code done failed : Int) (sn : Nat) : List Int := if k = 9 then (((oneA k code).set 14 done).set 15 failed).set 16 sn else oneA k code
def oneF (k code done failed : Int) (sn : Nat) (rows ver : Int) : List Int := ((oneB k code done failed sn).set 20 (max 0 rows)).set 21 ver
theorem upF_len (t : List Int) (k : Int) (ok : Bool) : (upF t k ok).length = t.length := by
  unfold upF bump; split
  · split <;> simp
  · split <;> simp
theorem oneA_len (k code : Int) : (oneA k code).length = 22 := by unfold oneA; rw [upF_len]; simp [zeros]
theorem oneB_len (k code done failed : Int) (sn : Nat) : (oneB k code done failed sn).length = 22 := by unfold oneB; split <;> simp [oneA_len]
theorem oneF_len (k code done failed : Int) (sn : Nat) (rows ver : Int) : (oneF k code done failed sn rows ver).length = 22 := by simp [oneF, oneB_len]

theorem zerosV : (#[.int .i64 0, .int .i64 0, .int .i64 0, .int .i64 0, .int .i64 0, .int .i64 0, .int .i64 0, .int .i64 0, .int .i64 0, .int .i64 0, .int .i64 0, .int .i64 0, .int .i64 0, .int .i64 0, .int .i64 0, .int .i64 0, .int .i64 0, .int .i64 0, .int .i64 0, .int .i64 0, .int .i64 0, .int .i64 0] : Array Value) = tv zeros := rfl
theorem Tryd.size25 : (Tryd.prog.info? 25).map (·.size) = some 22 := by kernel_rfl
theorem tv_one (t : List Int) : (tv t).all (·.oneCell') = true := by
  rw [Array.all_eq_true_iff_forall_mem]; intro v hv; simp [tv] at hv; obtain ⟨x, _, rfl⟩ := hv; rfl
/-- What a run of stores into a tally leaves. -/
theorem put_at {t : List Int} {ub i : Nat} {x : Int} {w : World} (h : w.heap[ub]? = some (.cells (tv t) 25 (0, 0))) : (w.setCell ⟨ub, i, none⟩ (.int .i64 x)).heap[ub]? = some (.cells (tv (t.set i x)) 25 (0, 0)) := by
  rw [hset _ _ _ _ _ _ _ h, tv_set]
theorem sets3 (t : List Int) (x y z : Int) : ((t.set 14 x).set 16 z).set 15 y = ((t.set 14 x).set 15 y).set 16 z ∧ ((t.set 15 y).set 14 x).set 16 z = ((t.set 14 x).set 15 y).set 16 z ∧
    ((t.set 15 y).set 16 z).set 14 x = ((t.set 14 x).set 15 y).set 16 z ∧ ((t.set 16 z).set 14 x).set 15 y = ((t.set 14 x).set 15 y).set 16 z ∧ ((t.set 16 z).set 15 y).set 14 x = ((t.set 14 x).set 15 y).set 16 z := by
  refine ⟨?_, ?_, ?_, ?_, ?_⟩ <;> (apply List.ext_getElem?; intro i; simp only [List.getElem?_set, List.length_set]; repeat' split) <;> simp_all <;> omega
theorem sets2 (t : List Int) (x y : Int) : (t.set 21 y).set 20 x = (t.set 20 x).set 21 y := List.set_comm _ _ (by decide)
end Go.Proofs.YtgngpanimeigbabDoor
