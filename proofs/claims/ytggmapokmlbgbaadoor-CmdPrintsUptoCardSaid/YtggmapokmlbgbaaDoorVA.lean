/-
  cmd: the library's table of powers of ten, out of the row's condition on it.
-/
import Derived.Test.YtggmapokmlbgbaaDoorU2
import Derived.Test.YtggmapokmlbgbaaDoorRows
import Derived.Lib.LaidTab
import Derived.ProofKit
import Derived.LaidMore
import Derived.OpenShut
import Derived.Stop.Joined
import Derived.Test.YtggmapokmlbgbaaDoorL1
import Derived.Test.YtggmapokmlbgbaaDoorA6
import Derived.Test.YtggmapokmlbgbaaDoorS7
import Derived.Test.YtggmapokmlbgbaaDoorU5
import Derived.Stop.LaidErr
import Derived.LaidSub
import Derived.Handed
import Derived.Shelf.Vars
import Derived.Lay
namespace Go.Proofs.YtggmapokmlbgbaaDoor
open Go Go.ChangeShapes Go.WideShapes Go.ChangeAt Go.WideElems Go.RowKit
set_option linter.unusedVariables false
abbrev laidT {H : Type} : List (String × DataW H) := [("math/bits.deBruijn32tab", Rows.laid_math_bits_deBruijn32tab), ("math/bits.deBruijn64tab", Rows.laid_math_bits_deBruijn64tab), ("internal/strconv.uint64pow10", Rows.laid_internal_strconv_uint64pow10)]
theorem gPow : Tryd.prog.globalNamed "internal/strconv.uint64pow10" = some 2 := by kernel_rfl
theorem tPow : (Tryd.prog.globals[2]?).map (·.type) = some 150 := by kernel_rfl
theorem door_met (os : Os) (args : Array Value) : laidMetH Tryd.prog laidT ((World.doorLaid Tryd.prog 14 os).forCall (fun _ _ => 0) ⟨#[], args, []⟩).memory := by
  rw [MakeChecks.laidMetH_plain _ _ _ (by kernel_rfl)]
  exact laidMet_of_run' 8 (by kernel_rfl) (by kernel_rfl)
theorem pow_of_laid {W : World} (h : laidMetH Tryd.prog laidT W) : PowAt W := by
  rw [MakeChecks.laidMetH_plain _ _ _ (by kernel_rfl)] at h
  obtain ⟨ps, ⟨g0, t0, cs0, f0, p0, q0, hg0, ht0, hv0, hd0, ⟨g1, t1, cs1, f1, p1, q1, hg1, ht1, hv1, hd1, ⟨g2, t2, cs2, f2, p2, q2, hg2, ht2, hv2, hd2, _, _⟩, _⟩, _⟩, _⟩ := h
  obtain rfl := Option.some.inj (gPow.symm.trans hg2)
  obtain rfl := Option.some.inj (tPow.symm.trans ht2)
  have hdat : (Rows.laid_internal_strconv_uint64pow10 : DataW Unit) = Lib.tabData .u64 Lib.pow10Tab := by kernel_rfl
  rw [hdat] at hd2
  have := Lib.cells_of_tab Tryd.underlying150 Tryd.underlying25 (by kernel_rfl) (by kernel_rfl) hd2
  show W.var? Tryd.prog "internal/strconv.uint64pow10" = _
  rw [hv2, ← this]
end Go.Proofs.YtggmapokmlbgbaaDoor
/-
  cmd: commands and words, as a law's row reads them.
-/
namespace Go.Proofs.YtggmapokmlbgbaaDoor
open Go Go.RowKit X Go.ChangeShapes Go.WideShapes Go.ChangeAt
set_option maxRecDepth 100000
set_option linter.unusedVariables false
/-- a number of 64 bits -/
def I64 (x : Int) : Prop := -9223372036854775808 ≤ x ∧ x ≤ 9223372036854775807
def Cm.Fit (c : Cm) : Prop := I64 c.op ∧ I64 c.dev ∧ I64 c.ev ∧ I64 c.num ∧ I64 c.coll ∧ I64 c.tgt ∧ I64 c.bits ∧ I64 c.addr
theorem sh_cm {w : World} (f : Nat) (cs : List Value) (h : Sh P w 0 f 24 cs) : ∃ x : Cm, cs = x.cells ∧ x.Fit := by
  cases f with
  | zero => exact h.elim
  | succ f =>
    unfold Sh at h
    rw [Tryd.underlying24] at h
    obtain ⟨hl, h⟩ := h
    have hc : P.cellsOf 24 = 9 := by kernel_rfl
    have hc3 : P.cellsOf 3 = 1 := by kernel_rfl
    have hc4 : P.cellsOf 4 = 1 := by kernel_rfl
    have hc38 : P.cellsOf 22 = 1 := by kernel_rfl
    rw [hc] at hl
    match cs, hl with
    | [y0, y1, y2, y3, y4, y5, y6, y7, y8], _ =>
      obtain ⟨a0, h0, g0⟩ := sh_num Tryd.underlying22 _ _ (h 0 _ rfl)
      obtain ⟨a1, h1, g1⟩ := sh_num Tryd.underlying3 _ _ (h 1 _ rfl)
      obtain ⟨a2, h2, g2⟩ := sh_num Tryd.underlying3 _ _ (h 2 _ rfl)
      obtain ⟨a3, h3, g3⟩ := sh_num Tryd.underlying3 _ _ (h 3 _ rfl)
      obtain ⟨a4, h4, g4⟩ := sh_num Tryd.underlying3 _ _ (h 4 _ rfl)
      obtain ⟨a5, h5, g5⟩ := sh_num Tryd.underlying3 _ _ (h 5 _ rfl)
      obtain ⟨a6, h6, g6⟩ := sh_num Tryd.underlying3 _ _ (h 6 _ rfl)
      obtain ⟨a7, h7, g7⟩ := sh_num Tryd.underlying3 _ _ (h 7 _ rfl)
      obtain ⟨a8, h8, _⟩ := sh_bool Tryd.underlying4 _ _ (h 8 _ rfl)
      simp [hc3, hc4, hc38] at h0 h1 h2 h3 h4 h5 h6 h7 h8
      exact ⟨⟨a0, a1, a2, a3, a4, a5, a6, a7, a8⟩, by rw [h0, h1, h2, h3, h4, h5, h6, h7, h8]; rfl, wf_i64 g0, wf_i64 g1, wf_i64 g2, wf_i64 g3, wf_i64 g4, wf_i64 g5, wf_i64 g6, wf_i64 g7⟩
theorem okWide_w4 {w : World} {r : Reach} {base : Nat} {v : Value} (h : Value.okWide Tryd.prog w r base 26 v) : ∃ cs, v = .agg cs := by
  simp only [Value.okWide, Tryd.underlying26] at h
  obtain ⟨cs, h1, _⟩ := h
  exact ⟨cs, h1⟩
theorem w4_of_trod {H : Type} {enc : TypeId × Value → H} {w : World} {sp : Nat → Bool} {held : Bool} {fuel : Nat} {cs : List Value} {x : DataW H × List MemPlace} (h : DataW.trod enc Tryd.prog w 0 sp held fuel 26 cs = some x) :
    ∃ a0 a1 a2 a3 : Int, cs = wI [a0, a1, a2, a3] ∧ ∀ x ∈ [a0, a1, a2, a3], 0 ≤ x ∧ x < 2 ^ 64 := by
  obtain ⟨xs, m, rfl, hx, hlen, hn, hel⟩ := DataW.trod_array Tryd.underlying26 h
  have c25 : Tryd.prog.cellsOf 25 = 1 := by kernel_rfl
  have c26 : Tryd.prog.cellsOf 26 = 4 := by kernel_rfl
  rw [c26] at hlen
  have key : ∀ i, i < 4 → ∃ n : Int, cs[i]? = some (.int .u64 n) ∧ 0 ≤ n ∧ n < 2 ^ 64 := by
    intro i hi
    have h1 := hel i hi
    rw [c25, Nat.mul_one, List.getElem?_eq_getElem (by omega)] at h1
    obtain ⟨k, e1, _, e2⟩ := DataW.trod_int Tryd.underlying25 h1
    refine ⟨k, ?_, ?_⟩
    · have hh := congrArg (fun l => l[0]?) e1
      simp only [List.getElem?_take, List.getElem?_drop, Nat.add_zero] at hh
      simpa using hh
    · simp [Lit.wf, IntKind.min, IntKind.max, IntKind.signed, IntKind.bits] at e2
      omega
  clear hel hx hn h
  match cs, hlen, key with
  | [y0, y1, y2, y3], _, key =>
    obtain ⟨n0, h0, g0⟩ := key 0 (by omega)
    obtain ⟨n1, h1, g1⟩ := key 1 (by omega)
    obtain ⟨n2, h2, g2⟩ := key 2 (by omega)
    obtain ⟨n3, h3, g3⟩ := key 3 (by omega)
    have h0 : y0 = .int .u64 n0 := by simpa using h0
    have h1 : y1 = .int .u64 n1 := by simpa using h1
    have h2 : y2 = .int .u64 n2 := by simpa using h2
    have h3 : y3 = .int .u64 n3 := by simpa using h3
    refine ⟨n0, n1, n2, n3, by rw [h0, h1, h2, h3]; rfl, fun x hx => ?_⟩
    simp only [List.mem_cons, List.not_mem_nil, or_false] at hx
    rcases hx with rfl | rfl | rfl | rfl <;> assumption
end Go.Proofs.YtggmapokmlbgbaaDoor
/-
  cmd: what the library's variables hold, out of the row's condition on them and the world's shape.
-/
namespace Go.Proofs.YtggmapokmlbgbaaDoor
open Go Go.ChangeShapes Go.WideShapes Go.ChangeAt Go.WideElems Go.RowKit
set_option linter.unusedVariables false
set_option maxRecDepth 100000
/-- THE WRAP, with the row's list and the world's shape. -/
theorem handed_and_shaped {H : Type} {enc : TypeId × Value → H} {a : Assume} {C : Checked} {os : Os} {f : FuncId} {fn : Func} {s : ChangeSpec} {conds : List PathCond} {apart fresh handsOn again : Bool} {X : World → Array Value → Prop}
    (hX : ∀ (w w' : World) (args : Array Value), w.heap = w'.heap → X w args → X w' args)
    (own : ownKnob C.prog.godebug = none) (started : os.Started) (noInit : C.prog.inits.idxOf? f = none) (hfn : C.prog.funcs[f]? = some fn)
    (witness : ∃ (w : World) (tape : Tape) (i : Input), w.os = os ∧ (w.forCall tape i).Shaped C.prog ∧ i.vars = [] ∧ Input.okWide C.prog (w.forCall tape i) .any w.heap.size f i ∧
      ((s.pre enc C.prog fn conds apart (w.forCall tape i).memory i.args ∧ X (w.forCall tape i).memory i.args) ∧ sizedMet enc C.prog fn (OpenSpec.ofChange s) apart (w.forCall tape i).memory i.args) ∧ a.holds C.prog (lone (Frame.enter C.prog f i.args .normal) [] (w.forCall tape i)))
    (contract : ∀ (W : World) (base : Nat) (args : Array Value) (ds gs : List (DataW H)) (before : List MemPlace),
      (∀ (j : Nat) t v, fn.params[j]? = some t → args[j]? = some v → Value.okWide C.prog W .any base t v) →
      DataW.Whole enc C.prog fn.params.toList s.vars apart W args.toList ds gs before →
      conds.all (PathCond.test C.prog ⟨fn.params.toList, ds, s.plain.varTypes C.prog, gs⟩) = true →
      (DataW.weightsEach C.prog (fn.params.toList ++ s.plain.varTypes C.prog) (ds ++ gs)).all (· ≤ reachBytes) = true → (X W args ∧ W.ShapedOpen C.prog) →
      a.holds C.prog (lone (Frame.enter C.prog f args .normal) [] W) →
      Calls C.prog f args W fun e W' => ∃ v, e = .returned v ∧ s.post enc C.prog fn apart fresh handsOn again W args v W') :
    ReturnsInHanded a C os f .any (fun w args => (s.pre enc C.prog fn conds apart w args ∧ X w args) ∧ sizedMet enc C.prog fn (OpenSpec.ofChange s) apart w args) (s.post enc C.prog fn apart fresh handsOn again) := by
  refine returnsInHanded_of_calls own started noInit witness ?_
  intro w tape i _ hsh _ hok hpre hholds
  obtain ⟨_, _, _, fn', hfn', _, _, _, _, hval⟩ := hok
  have e : fn' = fn := Option.some.inj (hfn'.symm.trans hfn)
  subst e
  obtain ⟨⟨⟨ds, gs, before, hw, hc⟩, hx⟩, hz⟩ := hpre
  have hw' := DataW.Whole.of_heap (w' := w.forCall tape i) (by rfl) hw
  refine (contract (w.forCall tape i) w.heap.size i.args ds gs before hval hw' hc (hz.weights hw) ⟨hX _ _ _ (by rfl) hx, hsh⟩ hholds).mono fun e W' ⟨v, he, hp⟩ => ?_
  subst he
  exact ChangeSpec.post_blind hp
/-- the row's list -/
abbrev laidU : List (String × DataW Unit) := [("math/bits.deBruijn32tab", Rows.laid_math_bits_deBruijn32tab), ("math/bits.deBruijn64tab", Rows.laid_math_bits_deBruijn64tab), ("internal/strconv.uint64pow10", Rows.laid_internal_strconv_uint64pow10), ("unicode/utf8.acceptRanges", Rows.laid_unicode_utf8_acceptRanges), ("strconv.ErrRange", Rows.laid_strconv_ErrRange), ("strconv.ErrSyntax", Rows.laid_strconv_ErrSyntax), ("unicode/utf8.first", Rows.laid_unicode_utf8_first)]
theorem gSyn : Tryd.prog.globalNamed "strconv.ErrSyntax" = some 0 := by kernel_rfl
theorem gRng : Tryd.prog.globalNamed "strconv.ErrRange" = some 1 := by kernel_rfl
theorem tSyn : (Tryd.prog.globals[0]?).map (·.type) = some 108 := by kernel_rfl
theorem tRng : (Tryd.prog.globals[1]?).map (·.type) = some 108 := by kernel_rfl
theorem starErr : "*" ++ "errors.errorString" = "*errors.errorString" := by decide
theorem row157 (u : TypeId) (h : Tryd.prog.typeName? 3 u = some "*errors.errorString") : u = 157 :=
  typeName_ptr_named (nm := "errors.errorString") (by rw [starErr]; kernel_rfl) (by kernel_rfl) (by decide) u (by rw [starErr]; exact h)
theorem lib_of_laid {W : World} (h : laidMetH Tryd.prog laidU W) (hs : W.ShapedOpen Tryd.prog) : LibAt W := by
  have hp : PowAt W := by
    have := h.filter fun x => x.1 == "math/bits.deBruijn32tab" || x.1 == "math/bits.deBruijn64tab" || x.1 == "internal/strconv.uint64pow10"
    exact pow_of_laid this
  have h' := h
  rw [MakeChecks.laidMetH_plain _ _ _ (by kernel_rfl)] at h'
  have h5 := h'.tail.tail.tail.tail
  obtain ⟨a0, s0, hv0, -, -, -⟩ := laid_sentinel h5 gRng tRng Tryd.underlying108 row157 Tryd.underlying157 Tryd.underlying159 rfl rfl Tryd.underlying9 (by kernel_rfl) (by kernel_rfl)
  obtain ⟨a1, s1, hv1, -, -, -⟩ := laid_sentinel h5.tail gSyn tSyn Tryd.underlying108 row157 Tryd.underlying157 Tryd.underlying159 rfl rfl Tryd.underlying9 (by kernel_rfl) (by kernel_rfl)
  refine ⟨hp, ⟨.iface 157 (.pointer (some a1)), by show W.cell? ⟨0, 0, none⟩ = _; have h0 := World.var?_cell gSyn hv1 0; simpa using h0, .inr ⟨_, _, rfl⟩⟩, ⟨.iface 157 (.pointer (some a0)), by show W.cell? ⟨1, 0, none⟩ = _; have h0 := World.var?_cell gRng hv0 0; simpa using h0, .inr ⟨_, _, rfl⟩⟩, Tryd.laysM146.s1_3 W hs⟩
theorem door_metU (os : Os) (args : Array Value) : laidMetH Tryd.prog laidU ((World.laidAll Tryd.prog os laidU).forCall (fun _ _ => 0) ⟨#[], args, []⟩).memory := by
  rw [MakeChecks.laidMetH_plain _ _ _ (by kernel_rfl)]
  exact laidMet_laidAll _ (by kernel_rfl) (by kernel_rfl)
end Go.Proofs.YtggmapokmlbgbaaDoor
