/- QueryExact, proved and its card closed: for every schema, query, set and text the law returns true, and each argument reads behind the call as it read before. No condition but the row's own: the library's listed variables hold what the program's text lays; the given tie ties them. -/
import Derived.Test.YtgebbmfoamkfnaaGreatDoorT46
import Derived.Test.YtgebbmfoamkfnaaGreatDoorT47
import Derived.ShutString
import Derived.ChangeMaps5
import Derived.Test.YtgebbmfoamkfnaaGreatDoorCards
import Derived.Test.YtgebbmfoamkfnaaGreatDoorTie
import Derived.Lay
namespace Go.Proofs.YtgebbmfoamkfnaaGreatDoor.qexact
open Go.ChangeShapes Go.WideShapes Go.ChangeAt Go.RowKit Go.Joins
set_option linter.unusedVariables false
theorem own : ownKnob Tryz.prog.godebug = none := by kernel_rfl
theorem laidOut : laidOutB Tryz.prog = true := by kernel_rfl
set_option maxRecDepth 100000 in
theorem lifted (os : Os) (started : os.Started) (H : Type) (enc : TypeId × Value → H) :
    ReturnsInHanded {} Tryz.checked os 3 .any (fun w args => (Rows.queryExactSpec.pre enc Tryz.prog Tryz.f3 [] false w args ∧ laidMetH Tryz.prog Rows.queryExactRow.laid w) ∧ sizedMet enc Tryz.prog Tryz.f3 (OpenSpec.ofChange Rows.queryExactSpec) false w args)
      (Rows.queryExactSpec.post enc Tryz.prog Tryz.f3 false true false false) := by
  refine wrap_open (C := Tryz.checked) (X := fun w _ => laidMetH Tryz.prog Rows.queryExactRow.laid w) (fun _ _ _ hh h => h.of_heap hh) own started (by kernel_rfl) Tryz.func3
    (ChangeSpec.witness_shaped (enc := enc) (C := Tryz.checked) (os := os) (X := fun w _ => laidMetH Tryz.prog Rows.queryExactRow.laid w) false (World.laidAll Tryz.prog os Rows.queryExactRow.laid) #[.agg #[.int .i64 0, .slice none 0 0], .int .u32 0, .int .u32 0, .int .u32 0, .string ByteArray.empty] 8 (World.laidAll_os _ _ _)
      (World.shaped_of_ZipB (by kernel_rfl) (by kernel_rfl)) (by kernel_rfl) (by kernel_rfl) (by kernel_rfl)
      (by rw [MakeChecks.laidMetH_plain _ _ _ (by kernel_rfl)]; exact laidMet_laidAll _ (by kernel_rfl) (by kernel_rfl))) ?_
  intro W base args ds gs before hval0 hW hL hsh
  have hval : ∀ (j : Nat) t v, Tryz.f3.params[j]? = some t → args[j]? = some v → Value.okWide Tryz.prog W .any base t v := hval0
  have hW' := hW
  obtain ⟨p, q, hA0, hV, rfl, hfz, hnd⟩ := hW
  have hA : DataW.TrodAll enc Tryz.prog W 0 (fun _ => true) true Tryz.f3.params.toList args.toList ds p := hA0
  rw [Tryz.params3] at hA hval
  obtain ⟨v0, vs0, d0, ds0, p0, q0, hargs, rfl, rfl, h0, r0⟩ := trodAll_cons hA
  obtain ⟨v1, vs1, d1, ds1, p1, q1, rfl, rfl, rfl, h1, r1⟩ := trodAll_cons r0
  obtain ⟨v2, vs2, d2, ds2, p2, q2, rfl, rfl, rfl, h2, r2⟩ := trodAll_cons r1
  obtain ⟨v3, vs3, d3, ds3, p3, q3, rfl, rfl, rfl, h3, r3⟩ := trodAll_cons r2
  obtain ⟨v4, vs4, d4, ds4, p4, q4, rfl, rfl, rfl, h4, r4⟩ := trodAll_cons r3
  obtain ⟨rfl, rfl, rfl⟩ := trodAll_nil r4
  obtain rfl : args = #[v0, v1, v2, v3, v4] := by cases args; simp_all
  obtain ⟨rfl, rfl⟩ := trodVars_none hV
  have k0 := h0
  have lt0 : ∀ x ∈ p0, x.block < W.heap.size := by obtain ⟨m, hm⟩ := k0; exact DataW.trod_lt m _ _ _ hm
  obtain ⟨u0, u1, y0, y1, n, rfl, rfl, rfl, t0, t1⟩ := open_agg2 Tryz.underlying24 (by kernel_rfl) (by kernel_rfl) (hval 0 24 v0 rfl rfl) h0
  obtain ⟨ver, e0, _, wv⟩ := DataW.trod_int Tryz.underlying3 t0
  obtain ⟨a, len, cap, cs, rfl, hcs, hn, hwf⟩ := open_comps t1
  cases e0
  obtain ⟨al, rfl, rfl, rfl, w1⟩ := open_int Tryz.underlying25 (hval 1 25 v1 rfl rfl) h1
  obtain ⟨no, rfl, rfl, rfl, w2⟩ := open_int Tryz.underlying25 (hval 2 25 v2 rfl rfl) h2
  obtain ⟨st, rfl, rfl, rfl, w3⟩ := open_int Tryz.underlying25 (hval 3 25 v3 rfl rfl) h3
  obtain ⟨s, rfl, rfl, rfl, ws⟩ := Go.ChangeMaps.open_string Tryz.underlying9 (hval 4 9 v4 rfl rfl) h4
  clear hA0 hval0
  refine (exact20_walk ver cs a len cap al no st s W hcs hwf (u32_of w1) (u32_of w2) (u32_of w3) (qv_of hL hsh)).mono fun e W' ⟨he, bel⟩ => ?_
  subst he
  exact ⟨_, rfl, _, _, _, [], _, [], hW', trodAll_mk1 (shut_bool Tryz.underlying4 _), trodAll_cons_mk (Below.trod laidOut (by kernel_rfl) (of_decide_eq_true (by kernel_rfl)) k0 bel lt0) (trodAll_cons_mk (shut_int Tryz.underlying25 w1) (trodAll_cons_mk (shut_int Tryz.underlying25 w2) (trodAll_cons_mk (shut_int Tryz.underlying25 w3) (trodAll_cons_mk (Go.ChangeMaps.shut_string Tryz.underlying9 ws) trodAll_mk0)))), rfl, bel.frame _, fun h => by cases h⟩
theorem over : Rows.QueryExactSaid :=
  OpenClaim.holds_of_wide 3 Tryz.f3 rfl rfl rfl rfl rfl rfl rfl ⟨rfl, rfl, rfl, rfl, rfl⟩ rfl rfl rfl rfl rfl (by kernel_rfl) Tryz.func3 (by kernel_rfl)
    (of_decide_eq_true (by kernel_rfl)) (by unfold Func.isWrapper; first | (rw [if_pos (by decide +kernel)]; kernel_rfl) | (rw [if_neg (by decide +kernel)]; exact ⟨rfl, rfl⟩))
    (fun os started H enc _ => lifted os started H enc)
theorem proved : Rows.QueryExactCardSaid :=
  Claim7.holds_tied_plain_at .later [] [.data, .data, .data, .data, .sentinel, .sentinel, .pinned] true _ true
    over (fun _ h => by cases h) (by kernel_rfl) (fun _ h => by cases h) queryExact_row_tie rfl ⟨rfl, rfl⟩ (by kernel_rfl) rfl
    (fun f fn hf hfn => by
      obtain rfl : f = 3 := Option.some.inj ((show Tryz.prog.funcNamed Rows.queryExactRow.func = some 3 by kernel_rfl).symm.trans hf) |>.symm
      obtain rfl : fn = Tryz.f3 := (Option.some.inj (Tryz.func3.symm.trans hfn)).symm
      exact ⟨by kernel_rfl, fun j t ht => by
        rw [Tryz.params3] at ht
        have hm : t ∈ [24, 25, 25, 25, 9] := by simpa using Array.mem_of_getElem? ht
        have hall : ([24, 25, 25, 25, 9].all fun u => !Tryz.prog.wantsStandIn u) = true := by kernel_rfl
        exact (show Tryz.prog.wantsStandIn t = false by simpa using List.all_eq_true.1 hall t hm)⟩)
    (by kernel_rfl)
#print axioms proved
end Go.Proofs.YtgebbmfoamkfnaaGreatDoor.qexact
