/-
  mem: parts of windows, and windows that meet, as the document says: MemParts.
-/
import Derived.Test.YtbincfjaahjbiaaL2
import Derived.Laws.StructEq
namespace Go.Proofs.Ytbincfjaahjbiaa
open Go Go.RowKit X
set_option maxRecDepth 100000
set_option linter.unusedVariables false
theorem eqWin {w : World} {a s b t : Int} {K : Bool → Prop} (h : K (decide (a = b ∧ s = t))) : eqA P .eql T.t23 (winV a s) (winV b t) w K := by
  refine ⟨run_eqGuard_agg w .eql _ _ _ _ _ (by kernel_rfl), decide (a = b ∧ s = t), ?_, h⟩
  unfold winV
  rw [run_eql_struct]
  have h1 := run_equalIn_struct (P := P) w 9999 T.t23 [.int .i64 a, .int .i64 s].toArray [.int .i64 b, .int .i64 t].toArray (by kernel_rfl) (by kernel_rfl)
  rw [show (10000 : Nat) = 9999 + 1 from rfl, h1]
  have hf : (P.fieldsOf T.t23).toList = [{ name := "At", type := 3, offset := 0, embedded := false, tag := "", pkgPath := "", byteOffset := 0 }, { name := "Size", type := 3, offset := 1, embedded := false, tag := "", pkgPath := "", byteOffset := 8 }] := by kernel_rfl
  rw [hf]
  have hu : P.underlying 3 = some (.int .i64) := by kernel_rfl
  have p0 : ∀ (x y : Int), (part 3 [.int .i64 x, .int .i64 y].toArray 0).run P w = .ok (.int .i64 x) w := by intro x y; kernel_rfl
  have p1 : ∀ (x y : Int), (part 3 [.int .i64 x, .int .i64 y].toArray 1).run P w = .ok (.int .i64 y) w := by intro x y; kernel_rfl
  have q : ∀ x y : Int, (Op.equalIn 9999 3 (.int .i64 x) (.int .i64 y)).run P w = .ok (x == y) w := fun x y => run_equalIn_int w 9998 3 .i64 .i64 x y hu
  simp only [Op.eqFields, Sem.run_bind, p0, p1, q, Result.andThen_ok, Sem.run_ite, Sem.run_pure, ne_eq, String.reduceEq, not_false_eq_true, if_true]
  by_cases e1 : a = b
  · by_cases e2 : s = t <;> simp [e1, e2]
  · simp [e1]
def partW (a s x n : Int) : Value := if fairB a s && (decide (0 ≤ x) && (decide (0 ≤ n) && (decide (n ≤ s) && decide (x ≤ s - n)))) then .tuple [winV (a + x) n, .int .i64 0].toArray else .tuple [winV 0 0, .int .i64 42].toArray
theorem cond_false {a s x n : Int} (h : ¬ (fairB a s = true ∧ 0 ≤ x ∧ 0 ≤ n ∧ n ≤ s ∧ x ≤ s - n)) : partW a s x n = .tuple [winV 0 0, .int .i64 42].toArray := by
  unfold partW; rw [if_neg]; simpa using h
theorem cond_true {a s x n : Int} (h : fairB a s = true ∧ 0 ≤ x ∧ 0 ≤ n ∧ n ≤ s ∧ x ≤ s - n) : partW a s x n = .tuple [winV (a + x) n, .int .i64 0].toArray := by
  unfold partW; rw [if_pos]; simpa using h
theorem Part_plain (a s x n : Int) : Plain F.mem_Part [winV a s, .int .i64 x, .int .i64 n] (partW a s x n) := by
  intro w
  refine mem_Part_cv ?_
  refine alc_i fun w1 hB1 h1 hs1 => alc_i fun w2 hB2 h2 hs2 => ?_
  have h1 := h1.below (hB2 w1.heap.size (Nat.le_refl _)) (by omega)
  have hb2 := (hB1 _ (Nat.le_refl _)).trans (hB2 w.heap.size (by omega))
  unfold JoinT
  refine ldI_i h1 rfl (ldI_i h1 rfl ?_)
  refine (fair_plain a s w2).mono ?_
  rintro _ w3 ⟨rfl, hB3⟩
  have h1 := h1.ext hB3
  have h2 := h2.ext hB3
  have hb3 := hb2.trans (hB3.mono hb2.size)
  have no : ¬ (fairB a s = true ∧ 0 ≤ x ∧ 0 ≤ n ∧ n ≤ s ∧ x ≤ s - n) → mem_Part_j0 x n (fun v' w' => v' = partW a s x n ∧ Below w.heap.size w w') w.heap.size w1.heap.size true w3 := by
    intro h
    unfold mem_Part_j0
    refine cnd_i (fun _ => ?_) fun h => by cases h
    refine st1_i h2 (by simp) fun w4 hB4 _ _ h4 => st1_i h4 (by simp) fun w5 hB5 _ _ h5 => ?_
    have h5 : Row w5 w1.heap.size [.int .i64 0, .int .i64 0] T.t23 := h5
    exact ldI_i h5 rfl (ldI_i h5 rfl ⟨by rw [cond_false h]; rfl, (hb3.trans (hB4 _ (by omega))).trans (hB5 _ (by omega))⟩)
  refine ⟨_, rfl, cnd_i (fun h => no (by simp only [Bool.not_eq_true'] at h; simp [h])) fun hf => ?_⟩
  simp only [Bool.not_eq_false'] at hf
  have hf' := fairB_iff.1 hf
  refine cnd_i (fun h => no (by have h := of_decide_eq_true h; omega)) fun hx => cnd_i (fun h => no (by have h := of_decide_eq_true h; omega)) fun hn => ldI_i h1 rfl (cnd_i (fun h => no (by have h := of_decide_eq_true h; omega)) fun hns => ldI_i h1 rfl ?_)
  have hx := of_decide_eq_false hx
  have hn := of_decide_eq_false hn
  have hns := of_decide_eq_false hns
  rw [W_id (n := s - n) (by omega) (by omega)]
  cases hg : decide (x > s - n)
  · have hg := of_decide_eq_false hg
    unfold mem_Part_j0
    refine cnd_i (fun h => by cases h) fun _ => ldI_i h1 rfl ?_
    refine st1_i h2 (by simp) fun w4 hB4 _ _ h4 => st1_i h4 (by simp) fun w5 hB5 _ _ h5 => ?_
    have h5 : Row w5 w1.heap.size [.int .i64 (IntKind.i64.wrap (a + x)), .int .i64 n] T.t23 := h5
    refine ldI_i h5 rfl (ldI_i h5 rfl ⟨?_, (hb3.trans (hB4 _ (by omega))).trans (hB5 _ (by omega))⟩)
    rw [cond_true ⟨hf, by omega, by omega, by omega, by omega⟩, W_id (by omega) (by omega)]; rfl
  · exact no (by have hg := of_decide_eq_true hg; omega)
theorem fairR_plain (a s : Int) : Plain F.crierref04_fair [winV a s] (.bool (fairB a s)) := by
  intro w
  refine crierref04_fair_cv ?_
  refine alc_i fun w1 hB1 h1 hs1 => ?_
  have hb1 := hB1 _ (Nat.le_refl _)
  unfold JoinT
  have no : ∀ x, x = false → fairB a s = x → crierref04_fair_j0 (fun v' w' => v' = .bool (fairB a s) ∧ Below w.heap.size w w') x w1 := fun x hx h => ⟨by rw [h], hb1⟩
  refine ldI_i h1 rfl (cnd_i (fun ha => ?_) fun ha => no _ rfl (by simp only [fairB, ha, Bool.false_and]))
  refine ldI_i h1 rfl (cnd_i (fun ha' => ?_) fun ha' => no _ rfl (by simp only [fairB, ha', Bool.false_and, Bool.and_false]))
  refine ldI_i h1 rfl (cnd_i (fun hs => ?_) fun hs => no _ rfl (by simp only [fairB, hs, Bool.false_and, Bool.and_false]))
  exact ldI_i h1 rfl ⟨by simp only [fairB, ha, ha', hs, Bool.true_and], hb1⟩
theorem PartR_plain (a s x n : Int) : Plain F.crierref04_Part [winV a s, .int .i64 x, .int .i64 n] (partW a s x n) := by
  intro w
  refine crierref04_Part_cv ?_
  refine alc_i fun w1 hB1 h1 hs1 => alc_i fun w2 hB2 h2 hs2 => ?_
  have h1 := h1.below (hB2 w1.heap.size (Nat.le_refl _)) (by omega)
  have hb2 := (hB1 _ (Nat.le_refl _)).trans (hB2 w.heap.size (by omega))
  unfold JoinT
  refine ldI_i h1 rfl (ldI_i h1 rfl ?_)
  refine (fairR_plain a s w2).mono ?_
  rintro _ w3 ⟨rfl, hB3⟩
  have h1 := h1.ext hB3
  have h2 := h2.ext hB3
  have hb3 := hb2.trans (hB3.mono hb2.size)
  have no : ¬ (fairB a s = true ∧ 0 ≤ x ∧ 0 ≤ n ∧ n ≤ s ∧ x ≤ s - n) → crierref04_Part_j0 x n (fun v' w' => v' = partW a s x n ∧ Below w.heap.size w w') w.heap.size w1.heap.size true w3 := by
    intro h
    unfold crierref04_Part_j0
    refine cnd_i (fun _ => ?_) fun h => by cases h
    refine st1_i h2 (by simp) fun w4 hB4 _ _ h4 => st1_i h4 (by simp) fun w5 hB5 _ _ h5 => ?_
    have h5 : Row w5 w1.heap.size [.int .i64 0, .int .i64 0] T.t23 := h5
    exact ldI_i h5 rfl (ldI_i h5 rfl ⟨by rw [cond_false h]; rfl, (hb3.trans (hB4 _ (by omega))).trans (hB5 _ (by omega))⟩)
  refine ⟨_, rfl, cnd_i (fun h => no (by simp only [Bool.not_eq_true'] at h; simp [h])) fun hf => ?_⟩
  simp only [Bool.not_eq_false'] at hf
  have hf' := fairB_iff.1 hf
  refine cnd_i (fun h => no (by have h := of_decide_eq_true h; omega)) fun hx => cnd_i (fun h => no (by have h := of_decide_eq_true h; omega)) fun hn => ldI_i h1 rfl (cnd_i (fun h => no (by have h := of_decide_eq_true h; omega)) fun hns => ldI_i h1 rfl ?_)
  have hx := of_decide_eq_false hx
  have hn := of_decide_eq_false hn
  have hns := of_decide_eq_false hns
  rw [W_id (n := s - x) (by omega) (by omega)]
  cases hg : decide (n > s - x)
  · have hg := of_decide_eq_false hg
    unfold crierref04_Part_j0
    refine cnd_i (fun h => by cases h) fun _ => ldI_i h1 rfl ?_
    refine st1_i h2 (by simp) fun w4 hB4 _ _ h4 => st1_i h4 (by simp) fun w5 hB5 _ _ h5 => ?_
    have h5 : Row w5 w1.heap.size [.int .i64 (IntKind.i64.wrap (a + x)), .int .i64 n] T.t23 := h5
    refine ldI_i h5 rfl (ldI_i h5 rfl ⟨?_, (hb3.trans (hB4 _ (by omega))).trans (hB5 _ (by omega))⟩)
    rw [cond_true ⟨hf, by omega, by omega, by omega, by omega⟩, W_id (by omega) (by omega)]; rfl
  · exact no (by have hg := of_decide_eq_true hg; omega)
theorem meetB_ref {a s b t : Int} : meetB a s b t = (fairB a s && (fairB b t && (!(s == 0) && (!(t == 0) && (decide (a < b + t) && decide (b < a + s)))))) := by
  cases h1 : fairB a s
  · simp [meetB, h1]
  cases h2 : fairB b t
  · simp [meetB, h2]
  have h1' := fairB_iff.1 h1
  have h2' := fairB_iff.1 h2
  rw [Bool.eq_iff_iff]
  simp only [meetB, h1, h2, Bool.true_and, Bool.and_eq_true, decide_eq_true_eq, Bool.not_eq_true', beq_eq_false_iff_ne]
  split
  · rw [decide_eq_true_eq]; omega
  · rw [decide_eq_true_eq]; omega
theorem MeetR_plain (a s b t : Int) : Plain F.crierref04_Meet [winV a s, winV b t] (.bool (meetB a s b t)) := by
  intro w
  rw [meetB_ref]
  refine crierref04_Meet_cv ?_
  refine alc_i fun w1 hB1 h1 hs1 => alc_i fun w2 hB2 h2 hs2 => ?_
  have h1 := h1.below (hB2 w1.heap.size (Nat.le_refl _)) (by omega)
  have hb2 := (hB1 _ (Nat.le_refl _)).trans (hB2 w.heap.size (by omega))
  unfold JoinT
  generalize hr : (fairB a s && (fairB b t && (!(s == 0) && (!(t == 0) && (decide (a < b + t) && decide (b < a + s)))))) = r
  have no : ∀ w', Below w.heap.size w w' → r = false → crierref04_Meet_j1 (fun v' w' => v' = .bool r ∧ Below w.heap.size w w') w.heap.size w1.heap.size true w' := by
    intro w' hb h
    unfold crierref04_Meet_j1
    exact cnd_i (fun _ => ⟨by rw [h], hb⟩) fun h => by cases h
  refine ldI_i h1 rfl (ldI_i h1 rfl ?_)
  refine (fairR_plain a s w2).mono ?_
  rintro _ w3 ⟨rfl, hB3⟩
  have h1 := h1.ext hB3
  have h2 := h2.ext hB3
  have hb3 := hb2.trans (hB3.mono hb2.size)
  refine ⟨_, rfl, cnd_i (fun h => no _ hb3 (by simp only [Bool.not_eq_true'] at h; rw [← hr, h]; rfl)) fun hfa => ?_⟩
  refine ldI_i h2 rfl (ldI_i h2 rfl ?_)
  refine (fairR_plain b t w3).mono ?_
  rintro _ w4 ⟨rfl, hB4⟩
  have h1 := h1.ext hB4
  have h2 := h2.ext hB4
  have hb4 := hb3.trans (hB4.mono hb3.size)
  refine ⟨_, rfl, cnd_i (fun h => no _ hb4 (by simp only [Bool.not_eq_true'] at h; rw [← hr, h]; simp)) fun hfb => ?_⟩
  simp only [Bool.not_eq_false'] at hfa hfb
  have ha' := fairB_iff.1 hfa
  have hb' := fairB_iff.1 hfb
  rw [hfa, hfb] at hr
  simp only [Bool.true_and] at hr
  refine ldI_i h1 rfl (cnd_i (fun h => no _ hb4 (by rw [← hr, h]; rfl)) fun hs => ldI_i h2 rfl ?_)
  cases ht : (t == 0)
  · rw [hs, ht] at hr
    simp only [Bool.not_false, Bool.true_and] at hr
    unfold crierref04_Meet_j1 JoinT
    refine cnd_i (fun h => by cases h) fun _ => ldI_i h1 rfl (ldI_i h2 rfl (ldI_i h2 rfl ?_))
    rw [W_id (n := b + t) (by omega) (by omega)]
    refine cnd_i (fun h => ldI_i h2 rfl (ldI_i h1 rfl (ldI_i h1 rfl ?_))) fun h => ?_
    · rw [W_id (n := a + s) (by omega) (by omega)]
      exact ⟨by rw [← hr, h, Bool.true_and], hb4⟩
    · exact ⟨by rw [← hr, h, Bool.false_and], hb4⟩
  · exact no _ hb4 (by rw [← hr, ht]; simp)
theorem meetB_comm (a s b t : Int) : meetB a s b t = meetB b t a s := by
  rw [meetB_ref, meetB_ref, Bool.eq_iff_iff]
  simp only [Bool.and_eq_true]
  constructor <;> (rintro ⟨h1, h2, h3, h4, h5, h6⟩; exact ⟨h2, h1, h4, h3, h6, h5⟩)
theorem memParts_plain (a s b t x n : Int) : Plain F.crierlaw04_MemParts [winV a s, winV b t, .int .i64 x, .int .i64 n] (.bool true) := by
  intro w
  refine crierlaw04_MemParts_cv ?_
  refine alc_i fun w1 hB1 h1 hs1 => alc_i fun w2 hB2 h2 hs2 => ?_
  have h1 := h1.below (hB2 w1.heap.size (Nat.le_refl _)) (by omega)
  have hb2 := (hB1 _ (Nat.le_refl _)).trans (hB2 w.heap.size (by omega))
  refine (awake_plain w2).mono ?_
  rintro _ w3 ⟨rfl, hB3⟩
  have h1 := h1.ext hB3
  have h2 := h2.ext hB3
  have hb3 := hb2.trans (hB3.mono hb2.size)
  refine ⟨true, rfl, cnd_i (fun h => by cases h) fun _ => ?_⟩
  obtain ⟨pa, ps, pe, hpw⟩ : ∃ pa ps pe, partW a s x n = .tuple [winV pa ps, .int .i64 pe].toArray := by
    unfold partW; split <;> exact ⟨_, _, _, rfl⟩
  refine ldI_i h1 rfl (ldI_i h1 rfl ?_)
  refine (Part_plain a s x n w3).mono ?_
  rintro _ w4 ⟨rfl, hB4⟩
  have h1 := h1.ext hB4
  have h2 := h2.ext hB4
  have hb4 := hb3.trans (hB4.mono hb3.size)
  have hs4 := hb4.size
  refine ⟨pa, ps, pe, hpw, ?_⟩
  refine alc_i fun w5 hB5 h5 hs5 => st1_i h5 (by simp) fun w6 hB6 _ hs6 h6 => st1_i h6 (by simp) fun w7 hB7 _ hs7 h7 => ?_
  have h7 : Row w7 w4.heap.size [.int .i64 pa, .int .i64 ps] T.t23 := h7
  have hb47 : Below w4.heap.size w4 w7 := ((hB5 _ (Nat.le_refl _)).trans (hB6 _ (Nat.le_refl _))).trans (hB7 _ (Nat.le_refl _))
  have h1 := h1.ext hb47
  have h2 := h2.ext hb47
  have hb7 := hb4.trans (hb47.mono hs4)
  refine ldI_i h1 rfl (ldI_i h1 rfl ?_)
  refine (PartR_plain a s x n w7).mono ?_
  rintro _ w8 ⟨rfl, hB8⟩
  have h1 := h1.ext hB8
  have h2 := h2.ext hB8
  have h7 := h7.ext hB8
  have hb8 := hb7.trans (hB8.mono hb7.size)
  have hs8 := hb8.size
  refine ⟨pa, ps, pe, hpw, ?_⟩
  refine alc_i fun w9 hB9 h9 hs9 => st1_i h9 (by simp) fun w10 hB10 _ hs10 h10 => st1_i h10 (by simp) fun w11 hB11 _ hs11 h11 => ?_
  have h11 : Row w11 w8.heap.size [.int .i64 pa, .int .i64 ps] T.t23 := h11
  have hb811 : Below w8.heap.size w8 w11 := ((hB9 _ (Nat.le_refl _)).trans (hB10 _ (Nat.le_refl _))).trans (hB11 _ (Nat.le_refl _))
  have h1 := h1.ext hb811
  have h2 := h2.ext hb811
  have h7 := h7.ext hb811
  have hb11 := hb8.trans (hb811.mono hs8)
  unfold JoinT drw
  refine cnd_i (fun _ => ldI_i h7.drew rfl (ldI_i h7.drew rfl (ldI_i h11.drew rfl (ldI_i h11.drew rfl ?_)))) fun h => by cases h
  refine eqWin ?_
  refine cnd_i (fun _ => cnd_i (fun _ => ?_) fun h => by simp at h) fun h => by simp at h
  refine ldI_i h1.drew rfl (ldI_i h1.drew rfl (ldI_i h2.drew rfl (ldI_i h2.drew rfl (ldI_i h1.drew rfl (ldI_i h1.drew rfl (ldI_i h2.drew rfl (ldI_i h2.drew rfl ?_)))))))
  refine (meet_plain a s b t w11.drew).mono ?_
  rintro _ w12 ⟨rfl, hB12⟩
  have h1 : Row w12 w.heap.size _ _ := h1.drew.ext hB12
  have h2 : Row w12 w1.heap.size _ _ := h2.drew.ext hB12
  have hb12 := hb11.drew.trans (hB12.mono hb11.size)
  refine ⟨_, rfl, ldI_i h2 rfl (ldI_i h2 rfl rfl), ldI_i h1 rfl (ldI_i h1 rfl rfl), ?_⟩
  refine (MeetR_plain a s b t w12).mono ?_
  rintro _ w13 ⟨rfl, hB13⟩
  have h1 := h1.ext hB13
  have h2 := h2.ext hB13
  have hb13 := hb12.trans (hB13.mono hb12.size)
  refine ⟨_, rfl, cnd_i (fun _ => ?_) fun h => by simp at h⟩
  refine ldI_i h2 rfl (ldI_i h2 rfl (ldI_i h1 rfl (ldI_i h1 rfl (ldI_i h1 rfl (ldI_i h1 rfl (ldI_i h2 rfl (ldI_i h2 rfl ?_)))))))
  refine (meet_plain b t a s w13).mono ?_
  rintro _ w14 ⟨rfl, hB14⟩
  have h1 := h1.ext hB14
  have h2 := h2.ext hB14
  have hb14 := hb13.trans (hB14.mono hb13.size)
  refine ⟨_, rfl, ldI_i h2 rfl (ldI_i h2 rfl rfl), ldI_i h1 rfl (ldI_i h1 rfl rfl), ?_⟩
  refine (meet_plain a s b t w14).mono ?_
  rintro _ w15 ⟨rfl, hB15⟩
  exact ⟨_, rfl, by rw [meetB_comm b t a s]; simp, hb14.trans (hB15.mono hb14.size)⟩
end Go.Proofs.Ytbincfjaahjbiaa
