/-
  The row of CmdStores.
-/
import Derived.Test.YtggmapokmlbgbaaDoorN2
import Derived.Test.YtggmapokmlbgbaaDoorV1
import Derived.Test.YtggmapokmlbgbaaDoorT1
import Derived.Test.YtggmapokmlbgbaaDoorCards
import Derived.Test.YtggmapokmlbgbaaDoorTie
import Derived.SevenTiedAt
import Derived.LaidMore
import Derived.Stop.Joined
import Derived.Test.YtggmapokmlbgbaaDoorL6
import Derived.Test.YtggmapokmlbgbaaDoorRows
import Derived.ProofKit
import Derived.Lib.SmallJoins
import Derived.OpenShut
import Derived.ChangeOld
namespace Go.Proofs.YtggmapokmlbgbaaDoor.R7
open Go Go.RowKit Go.ChangeShapes Go.WideShapes Go.ChangeAt Go.Joins
set_option linter.unusedVariables false
theorem own : ownKnob Tryd.prog.godebug = none := by kernel_rfl
theorem laidOut : laidOutB Tryd.prog = true := by kernel_rfl
set_option maxRecDepth 100000 in
theorem lifted (os : Os) (started : os.Started) (H : Type) (enc : TypeId × Value → H) :
    ReturnsInHanded {} Tryd.checked os 7 .any (fun w args => (Rows.cmdStoresSpec.pre enc Tryd.prog Tryd.f7 [] false w args ∧ laidMetH Tryd.prog laidT w) ∧ sizedMet enc Tryd.prog Tryd.f7 (OpenSpec.ofChange Rows.cmdStoresSpec) false w args) (Rows.cmdStoresSpec.post enc Tryd.prog Tryd.f7 false true false false) := by
  refine returnsInHanded_of_change_and (C := Tryd.checked) (X := fun w _ => laidMetH Tryd.prog laidT w) (fun _ _ _ hh h => h.of_heap hh) own started (by kernel_rfl) Tryd.func7
    (ChangeSpec.witness_shaped (enc := enc) (C := Tryd.checked) (os := os) (X := fun w _ => laidMetH Tryd.prog laidT w) false (World.doorLaid Tryd.prog 14 os) #[.int .i64 0, .slice none 0 0, .agg #[.int .i64 0, .int .i64 0], .int .i64 0, .agg #[.int .i64 0, .int .i64 0, .int .i64 0, .int .i64 0, .int .i64 0, .int .i64 0, .int .i64 0, .int .i64 0, .bool false], .int .i64 0] 8 rfl (World.shaped_of_RefB (by kernel_rfl) (by kernel_rfl)) (by kernel_rfl) (by kernel_rfl) (by kernel_rfl) (door_met os _)) ?_
  intro W base args ds gs before hval0 hW hcnd hsz0 hL _
  have hval : ∀ (j : Nat) t v, Tryd.f7.params[j]? = some t → args[j]? = some v → Value.okWide Tryd.prog W .any base t v := hval0
  have hW' := hW
  obtain ⟨p, q, hA0, hV, rfl, hfz, hnd⟩ := hW
  have hA : DataW.TrodAll enc Tryd.prog W 0 (fun _ => true) true Tryd.f7.params.toList args.toList ds p := hA0
  rw [Tryd.params7] at hA hval
  obtain ⟨v0, vs0, d0, ds0, p0, q0, hargs, rfl, rfl, h0, r0⟩ := trodAll_cons hA
  obtain ⟨v1, vs1, d1, ds1, p1, q1, rfl, rfl, rfl, h1, r1⟩ := trodAll_cons r0
  obtain ⟨v2, vs2, d2, ds2, p2, q2, rfl, rfl, rfl, h2, r2⟩ := trodAll_cons r1
  obtain ⟨v3, vs3, d3, ds3, p3, q3, rfl, rfl, rfl, h3, r3⟩ := trodAll_cons r2
  obtain ⟨v4, vs4, d4, ds4, p4, q4, rfl, rfl, rfl, h4, r4⟩ := trodAll_cons r3
  obtain ⟨v5, vs5, d5, ds5, p5, q5, rfl, rfl, rfl, h5, r5⟩ := trodAll_cons r4
  obtain ⟨rfl, rfl, rfl⟩ := trodAll_nil r5
  obtain rfl : args = #[v0, v1, v2, v3, v4, v5] := by cases args; simp_all
  obtain ⟨rfl, rfl⟩ := trodVars_none hV
  have hsz : (DataW.weightsEach Tryd.prog (Tryd.f7.params.toList ++ Rows.cmdStoresSpec.plain.varTypes Tryd.prog) ([d0, d1, d2, d3, d4, d5] ++ [])).all (· ≤ reachBytes) = true := hsz0
  rw [Tryd.params7] at hsz
  obtain ⟨x0, rfl, rfl, rfl, w0⟩ := open_int Tryd.underlying3 (hval 0 3 v0 rfl rfl) h0
  obtain ⟨a1, l1, c1, rfl⟩ := okWide_slice Tryd.underlying44 (hval 1 44 v1 rfl rfl)
  have k1 := h1
  have lt1 : ∀ x ∈ p1, x.block < W.heap.size := by obtain ⟨m, hm⟩ := k1; exact DataW.trod_lt m _ _ _ hm
  have wt1 : ∀ n ∈ d1.weights Tryd.prog 44, n ≤ reachBytes := fun n hn => of_decide_eq_true (List.all_eq_true.1 hsz n (DataW.weights_mem_each (j := 1) rfl rfl n hn))
  obtain ⟨fu1, hf1⟩ := h1
  have sh1 := X.sh_of_trod fu1 _ _ _ hf1 wt1
  obtain ⟨c2_0, c2_1, y2_0, y2_1, m2, rfl, rfl, rfl, hy2_0, hy2_1⟩ := open_agg2 Tryd.underlying46 (by kernel_rfl) (by kernel_rfl) (hval 2 46 v2 rfl rfl) h2
  obtain ⟨x2_0, e2_0, rfl, w2_0⟩ := DataW.trod_int Tryd.underlying3 hy2_0
  obtain ⟨x2_1, e2_1, rfl, w2_1⟩ := DataW.trod_int Tryd.underlying3 hy2_1
  simp at e2_0 e2_1
  subst e2_0 e2_1
  obtain ⟨x3, rfl, rfl, rfl, w3⟩ := open_int Tryd.underlying3 (hval 3 3 v3 rfl rfl) h3
  obtain ⟨cs4, rfl, sz4⟩ := okWide_struct Tryd.underlying24 (hval 4 24 v4 rfl rfl)
  have k4 := h4
  have lt4 : ∀ x ∈ p4, x.block < W.heap.size := by obtain ⟨m, hm⟩ := k4; exact DataW.trod_lt m _ _ _ hm
  have wt4 : ∀ n ∈ d4.weights Tryd.prog 24, n ≤ reachBytes := fun n hn => of_decide_eq_true (List.all_eq_true.1 hsz n (DataW.weights_mem_each (j := 4) rfl rfl n hn))
  obtain ⟨fu4, hf4⟩ := h4
  have sh4 : X.Sh Tryd.prog W 0 fu4 24 cs4.toList := X.sh_of_trod fu4 _ _ _ hf4 wt4
  obtain ⟨x5, rfl, rfl, rfl, w5⟩ := open_int Tryd.underlying3 (hval 5 3 v5 rfl rfl) h5
  clear hA0 hval0
  have g0 : -9223372036854775808 ≤ x0 ∧ x0 ≤ 9223372036854775807 := by
    simp [Lit.wf, IntKind.min, IntKind.max, IntKind.signed, IntKind.bits] at w0; omega
  have g2_0 : -9223372036854775808 ≤ x2_0 ∧ x2_0 ≤ 9223372036854775807 := by
    simp [Lit.wf, IntKind.min, IntKind.max, IntKind.signed, IntKind.bits] at w2_0; omega
  have g2_1 : -9223372036854775808 ≤ x2_1 ∧ x2_1 ≤ 9223372036854775807 := by
    simp [Lit.wf, IntKind.min, IntKind.max, IntKind.signed, IntKind.bits] at w2_1; omega
  have g3 : -9223372036854775808 ≤ x3 ∧ x3 ≤ 9223372036854775807 := by
    simp [Lit.wf, IntKind.min, IntKind.max, IntKind.signed, IntKind.bits] at w3; omega
  have g5 : -9223372036854775808 ≤ x5 ∧ x5 ≤ 9223372036854775807 := by
    simp [Lit.wf, IntKind.min, IntKind.max, IntKind.signed, IntKind.bits] at w5; omega
  have hT := pow_of_laid hL
  obtain ⟨p1', m1', c1', e1', hm1', hacts⟩ := acts_of_sh sh1
  cases e1'
  obtain ⟨c4, e4', hc4⟩ := sh_cm _ _ sh4
  obtain rfl : cs4 = c4.cells.toArray := by rw [← e4']
  refine (callsIn_wide.1 (cmdStores_cv hT hacts hm1' x0 x2_0 x2_1 x3 c4 hc4.2.2.2.2.2.2.2 x5)).mono fun e W' hh => ?_
  obtain ⟨v, rfl, rfl, bel⟩ := hh
  exact ⟨_, rfl, _, _, _, [], _, [], hW', trodAll_mk1 (shut_bool (by kernel_rfl) _), (trodAll_cons_mk (shut_int Tryd.underlying3 w0) (trodAll_cons_mk (Below.trod laidOut (by kernel_rfl) (of_decide_eq_true (by kernel_rfl)) k1 bel lt1) (trodAll_cons_mk (shut_agg2 Tryd.underlying46 (by kernel_rfl) (by kernel_rfl) (shut_int Tryd.underlying3 w2_0) (shut_int Tryd.underlying3 w2_1)) (trodAll_cons_mk (shut_int Tryd.underlying3 w3) (trodAll_cons_mk (Below.trod laidOut (by kernel_rfl) (of_decide_eq_true (by kernel_rfl)) k4 bel lt4) (trodAll_cons_mk (shut_int Tryd.underlying3 w5) trodAll_mk0)))))), rfl, bel.frame _, fun h => by cases h⟩
theorem over : Rows.cmdStoresRow.holds Tryd.pinned (OpenSpec.ofChange Rows.cmdStoresSpec) :=
  OpenClaim.holds_of_wide 7 Tryd.f7 rfl rfl rfl rfl rfl rfl rfl ⟨rfl, rfl, rfl, rfl, rfl⟩ rfl rfl rfl rfl rfl (by kernel_rfl) Tryd.func7 (by kernel_rfl)
    (of_decide_eq_true (by kernel_rfl)) (by unfold Func.isWrapper; first | (rw [if_pos (by decide +kernel)]; kernel_rfl) | (rw [if_neg (by decide +kernel)]; exact ⟨rfl, rfl⟩))
    (fun os started H enc _ => lifted os started H enc)
theorem card : Rows.CmdStoresCardSaid :=
  Claim7.holds_tied_plain_at .later [] [.data, .data, .data] true Rows.cmdStoresCard.stood.harness Rows.cmdStoresCard.stood.looks
    over (fun _ h => by cases h) (by kernel_rfl) (fun _ h => by cases h) cmdStores_row_tie rfl ⟨rfl, rfl⟩ (by kernel_rfl) rfl
    (fun f fn hf hfn => by
      obtain rfl : f = 7 := Option.some.inj ((show Tryd.prog.funcNamed Rows.cmdStoresRow.func = some 7 by kernel_rfl).symm.trans hf) |>.symm
      obtain rfl : fn = Tryd.f7 := (Option.some.inj (Tryd.func7.symm.trans hfn)).symm
      refine ⟨by kernel_rfl, fun j t ht => ?_⟩
      have hall : (Tryd.f7.params.toList.all fun u => !Tryd.prog.wantsStandIn u) = true := by kernel_rfl
      have hm : t ∈ Tryd.f7.params.toList := Array.mem_toList_iff.2 (Array.mem_of_getElem? ht)
      exact (show Tryd.prog.wantsStandIn t = false by simpa using List.all_eq_true.1 hall t hm))
    (by kernel_rfl)
end Go.Proofs.YtggmapokmlbgbaaDoor.R7
namespace Go.Proofs.YtggmapokmlbgbaaDoor
/-- The card, under a short name, for the claim. -/
theorem cmdStores_holds : Rows.CmdStoresCardSaid := R7.card
end Go.Proofs.YtggmapokmlbgbaaDoor
