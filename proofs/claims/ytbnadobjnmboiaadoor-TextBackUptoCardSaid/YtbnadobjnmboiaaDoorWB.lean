/-
  text: the document's answers: a step's line, the plain step.
-/
import Derived.Test.YtbnadobjnmboiaaDoorWA
import Derived.Test.YtbnadobjnmboiaaDoorTy
import Derived.Lib.Strings
import Derived.Lib.Bytealg
import Derived.Test.YtbnadobjnmboiaaDoorU5
import Derived.Test.YtbnadobjnmboiaaDoorA10
import Derived.Test.YtbnadobjnmboiaaDoorA5
import Derived.Test.YtbnadobjnmboiaaDoorA11
import Derived.Test.YtbnadobjnmboiaaDoorA4
namespace Go.Proofs.YtbnadobjnmboiaaDoor
open Go Go.RowKit X
set_option maxRecDepth 100000
set_option linter.unusedVariables false
set_option linter.unusedSimpArgs false
set_option maxHeartbeats 1000000
theorem kind_none {kd : Int} (h : findM ⟨#[]⟩ kd = none) : kd < 1 ∨ 12 < kd := by
  by_cases h2 : kd < 1
  · exact .inl h2
  by_cases h3 : 12 < kd
  · exact .inr h3
  obtain ⟨k, rfl⟩ : ∃ k : Nat, kd = (k : Int) + 1 := ⟨(kd - 1).toNat, by omega⟩
  rw [kind_find (by omega)] at h
  cases h
theorem Known_t (b : Bool) (e : Int) : Tri P F.crierref29_Known [.bool b, .int .i64 e] [] fun v L' => v = .int .i64 (if b then 0 else e) ∧ L' = [] := by
  intro w S hS
  refine crierref29_Known_cv ?_
  unfold crierref29_Known
  have H := Own.start hS
  refine cnd_i (fun h => ?_) fun h => ?_
  · exact ⟨_, ⟨by rw [h]; rfl, rfl⟩, H⟩
  · exact ⟨_, ⟨by rw [h]; rfl, rfl⟩, H⟩
def namesC : List Value := (List.range 12).map fun k => .string (nameW k)
def fldsC : List Value := (List.range 12).map fun k => .string (fldW k)
theorem namesC_at {k : Nat} (h : k < 12) : namesC[k]? = some (.string (nameW k)) := by
  unfold namesC; rw [List.getElem?_map, List.getElem?_range h]; rfl
theorem fldsC_at {k : Nat} (h : k < 12) : fldsC[k]? = some (.string (fldW k)) := by
  unfold fldsC; rw [List.getElem?_map, List.getElem?_range h]; rfl
theorem Names_t : Tri P F.crierref29_Names [] [] fun v L' => ∃ b, v = .slice (some ⟨b, 0, none⟩) 12 12 ∧ L' = [row b namesC tStr] := by
  intro w S hS
  refine crierref29_Names_cv ?_
  unfold crierref29_Names
  have H := Own.start hS
  refine alc_o H fun b1 wx H => ?_
  exact ⟨_, ⟨b1, rfl, rfl⟩, H⟩
theorem Fields_t : Tri P F.crierref29_Fields [] [] fun v L' => ∃ b, v = .slice (some ⟨b, 0, none⟩) 12 12 ∧ L' = [row b fldsC tStr] := by
  intro w S hS
  refine crierref29_Fields_cv ?_
  unfold crierref29_Fields
  have H := Own.start hS
  refine alc_o H fun b1 wx H => ?_
  exact ⟨_, ⟨b1, rfl, rfl⟩, H⟩
def St.num (s : St) (f : Int) : Int :=
  if f = 103 then s.g else if f = 118 then s.v else if f = 99 then s.c else if f = 100 then s.d else if f = 101 then s.e else if f = 110 then s.n else if f = 114 then s.r else if f = 116 then s.t else if f = 97 then s.a else if f = 119 then s.w else if f = 104 then (if s.h then 1 else 0) else 0
theorem num_fit {s : St} (hs : s.Fit) (f : Int) : I64 (s.num f) := by
  obtain ⟨f0, f1, f2, f3, f4, f5, f6, f7, f8, f9, f10, f11, f12⟩ := hs
  have it : ∀ {p : Prop} [Decidable p] {x y : Int}, I64 x → I64 y → I64 (if p then x else y) := by
    intro p _ x y h1 h2
    by_cases h : p
    · rw [if_pos h]; exact h1
    · rw [if_neg h]; exact h2
  have z : I64 0 := ⟨by decide, by decide⟩
  have o : I64 1 := ⟨by decide, by decide⟩
  unfold St.num
  exact it f1 (it f2 (it f3 (it f4 (it f5 (it f6 (it f7 (it f8 (it f9 (it f10 (it (it o z) z))))))))))
theorem num_txt (s : St) {f : Int} (hf : f ∈ letters) (h : f ≠ 120) : s.txt f = Lib.itoa (s.num f) := by
  simp only [letters, List.mem_cons, List.not_mem_nil, or_false] at hf
  have i1 : Lib.itoa 1 = [49] := by kernel_rfl
  have i0 : Lib.itoa 0 = [48] := by kernel_rfl
  rcases hf with rfl | rfl | rfl | rfl | rfl | rfl | rfl | rfl | rfl | rfl | rfl | rfl
  all_goals first | rfl | exact absurd rfl h | skip
  show (if s.h then [49] else [48]) = Lib.itoa (if s.h then 1 else 0)
  cases s.h with
  | true => exact i1.symm
  | false => exact i0.symm
theorem number_t (s : St) (f : Int) : Tri P F.crierref29_number [stV s, .int .u8 f] [] fun v L' => v = .int .i64 (s.num f) ∧ L' = [] := by
  intro w S hS
  refine crierref29_number_cv ?_
  unfold crierref29_number
  have H := Own.start hS
  refine alc_o H fun b15 wx H => ?_
  have H : X.Own w S [row b15 s.cells tStep] wx := H
  unfold St.cells at H
  refine join_o ?_
  refine cnd_i (fun h => ?_) fun h0 => ?_
  · have h : f = 103 := by simpa using h
    subst h
    repeat (first | refine ldI_a H ?_ | refine ldL_a H ?_ | refine ldB_a H ?_ | refine ldP_a H ?_ | refine ldS_a H ?_)
    exact ⟨_, ⟨rfl, rfl⟩, H.dp⟩
  have h0 : f ≠ 103 := by simpa using h0
  refine cnd_i (fun h => ?_) fun h1 => ?_
  · have h : f = 118 := by simpa using h
    subst h
    repeat (first | refine ldI_a H ?_ | refine ldL_a H ?_ | refine ldB_a H ?_ | refine ldP_a H ?_ | refine ldS_a H ?_)
    exact ⟨_, ⟨rfl, rfl⟩, H.dp⟩
  have h1 : f ≠ 118 := by simpa using h1
  refine cnd_i (fun h => ?_) fun h2 => ?_
  · have h : f = 99 := by simpa using h
    subst h
    repeat (first | refine ldI_a H ?_ | refine ldL_a H ?_ | refine ldB_a H ?_ | refine ldP_a H ?_ | refine ldS_a H ?_)
    exact ⟨_, ⟨rfl, rfl⟩, H.dp⟩
  have h2 : f ≠ 99 := by simpa using h2
  refine cnd_i (fun h => ?_) fun h3 => ?_
  · have h : f = 100 := by simpa using h
    subst h
    repeat (first | refine ldI_a H ?_ | refine ldL_a H ?_ | refine ldB_a H ?_ | refine ldP_a H ?_ | refine ldS_a H ?_)
    exact ⟨_, ⟨rfl, rfl⟩, H.dp⟩
  have h3 : f ≠ 100 := by simpa using h3
  refine cnd_i (fun h => ?_) fun h4 => ?_
  · have h : f = 101 := by simpa using h
    subst h
    repeat (first | refine ldI_a H ?_ | refine ldL_a H ?_ | refine ldB_a H ?_ | refine ldP_a H ?_ | refine ldS_a H ?_)
    exact ⟨_, ⟨rfl, rfl⟩, H.dp⟩
  have h4 : f ≠ 101 := by simpa using h4
  refine cnd_i (fun h => ?_) fun h5 => ?_
  · have h : f = 110 := by simpa using h
    subst h
    repeat (first | refine ldI_a H ?_ | refine ldL_a H ?_ | refine ldB_a H ?_ | refine ldP_a H ?_ | refine ldS_a H ?_)
    exact ⟨_, ⟨rfl, rfl⟩, H.dp⟩
  have h5 : f ≠ 110 := by simpa using h5
  refine cnd_i (fun h => ?_) fun h6 => ?_
  · have h : f = 114 := by simpa using h
    subst h
    repeat (first | refine ldI_a H ?_ | refine ldL_a H ?_ | refine ldB_a H ?_ | refine ldP_a H ?_ | refine ldS_a H ?_)
    exact ⟨_, ⟨rfl, rfl⟩, H.dp⟩
  have h6 : f ≠ 114 := by simpa using h6
  refine cnd_i (fun h => ?_) fun h7 => ?_
  · have h : f = 116 := by simpa using h
    subst h
    repeat (first | refine ldI_a H ?_ | refine ldL_a H ?_ | refine ldB_a H ?_ | refine ldP_a H ?_ | refine ldS_a H ?_)
    exact ⟨_, ⟨rfl, rfl⟩, H.dp⟩
  have h7 : f ≠ 116 := by simpa using h7
  refine cnd_i (fun h => ?_) fun h8 => ?_
  · have h : f = 97 := by simpa using h
    subst h
    repeat (first | refine ldI_a H ?_ | refine ldL_a H ?_ | refine ldB_a H ?_ | refine ldP_a H ?_ | refine ldS_a H ?_)
    exact ⟨_, ⟨rfl, rfl⟩, H.dp⟩
  have h8 : f ≠ 97 := by simpa using h8
  refine cnd_i (fun h => ?_) fun h9 => ?_
  · have h : f = 119 := by simpa using h
    subst h
    repeat (first | refine ldI_a H ?_ | refine ldL_a H ?_ | refine ldB_a H ?_ | refine ldP_a H ?_ | refine ldS_a H ?_)
    exact ⟨_, ⟨rfl, rfl⟩, H.dp⟩
  have h9 : f ≠ 119 := by simpa using h9
  refine cnd_i (fun h => ?_) fun h10 => ?_
  · have h : f = 104 := by simpa using h
    subst h
    have e : s.num 104 = if s.h then 1 else 0 := rfl
    rw [e]
    repeat (first | refine ldI_a H ?_ | refine ldL_a H ?_ | refine ldB_a H ?_ | refine ldP_a H ?_ | refine ldS_a H ?_)
    refine cnd_i (fun hh => ?_) fun hh => ?_
    · exact ⟨_, ⟨by rw [hh]; rfl, rfl⟩, H.dp⟩
    · unfold crierref29_number_j0
      exact ⟨_, ⟨by rw [hh]; rfl, rfl⟩, H.dp⟩
  have h10 : f ≠ 104 := by simpa using h10
  unfold crierref29_number_j0
  exact ⟨_, ⟨by unfold St.num; simp only [h0, h1, h2, h3, h4, h5, h6, h7, h8, h9, h10, if_false], rfl⟩, H.dp⟩
/-- the words joined, the first j fields -/
def joinJ (s : St) (k j : Nat) : List UInt8 := Lib.join ((wordsT s k j).map (·.data.toList)) [32]
theorem joinTail_snoc (xs : List (List UInt8)) (y sep : List UInt8) : Lib.joinTail sep (xs ++ [y]) = Lib.joinTail sep xs ++ (sep ++ y) := by
  unfold Lib.joinTail; simp
theorem joinJ_next (s : St) (k j : Nat) {b : UInt8} (h : (fldW k).data.toList[j]? = some b) : joinJ s k (j + 1) = joinJ s k j ++ [32] ++ s.txt b.toNat := by
  unfold joinJ
  rw [wordsT_next s k j h]
  unfold wordsT
  rw [List.cons_append, List.map_cons, List.map_cons, Lib.join_cons, Lib.join_cons, List.map_append, List.map_cons, List.map_nil, joinTail_snoc]
  simp
theorem joinJ_zero (s : St) (k : Nat) : joinJ s k 0 = (nameW k).data.toList := by
  unfold joinJ wordsT
  rw [List.take_zero]
  exact Lib.join_one _ _
theorem joinJ_len {s : St} (hs : s.Fit) (k : Nat) : ∀ j, j ≤ (fldW k).data.toList.length → (joinJ s k j).length ≤ 7 + 22 * j
  | 0, _ => by rw [joinJ_zero]; exact nameW_len k
  | j + 1, h => by
    have ih := joinJ_len hs k j (by omega)
    rw [joinJ_next s k j (List.getElem?_eq_getElem (show j < (fldW k).data.toList.length by omega))]
    have := txt_len hs (((fldW k).data.toList[j]).toNat : Int)
    simp only [List.length_append, List.length_cons, List.length_nil]
    omega
theorem app_bytes (l m : List UInt8) : (⟨l.toArray⟩ : ByteArray) ++ ⟨m.toArray⟩ = ⟨(l ++ m).toArray⟩ := by
  apply ByteArray.ext
  simp
theorem size_bytes (l : List UInt8) : (⟨l.toArray⟩ : ByteArray).size = l.length := by
  show l.toArray.size = _
  simp
def refPrintV (s : St) : Value := match findM ⟨#[]⟩ s.kind with
  | some k => .tuple [strV (printL s k), .bool true].toArray
  | none => .tuple [.string ⟨#[]⟩, .bool false].toArray
theorem RefPrint_t {W : World} (hT : PowAt W) (s : St) (hs : s.Fit) : Tri P F.crierref29_Print [stV s] [keep W] fun v L' => v = refPrintV s ∧ L' = [keep W] := by
  intro w S hS
  refine crierref29_Print_cv ?_
  unfold crierref29_Print
  have H := Own.start hS
  refine alc_o H fun b14 wx H => ?_
  have H : X.Own w S [row b14 s.cells tStep, keep W] wx := H
  refine join_o ?_
  have bad : findM ⟨#[]⟩ s.kind = none → ∀ wx, X.Own w S [row b14 s.cells tStep, keep W] wx → crierref29_Print_j2 (fun v w' => ∃ L', (v = refPrintV s ∧ L' = [keep W]) ∧ X.Own w S L' w') b14 true wx := by
    intro hn wx H
    unfold crierref29_Print_j2
    refine cnd_i (fun _ => ?_) (fun h => by cases h)
    exact ⟨_, ⟨by unfold refPrintV; rw [hn], rfl⟩, H.dp⟩
  cases hk : findM ⟨#[]⟩ s.kind with
  | none =>
    have hb := bad hk
    unfold St.cells at H hb
    repeat (first | refine ldI_a H ?_ | refine ldL_a H ?_ | refine ldB_a H ?_ | refine ldP_a H ?_ | refine ldS_a H ?_)
    rcases kind_none hk with h | h
    · exact cnd_i (fun _ => hb _ H) fun hc => absurd h (of_decide_eq_false hc)
    · refine cnd_i (fun _ => hb _ H) fun hc => ?_
      repeat (first | refine ldI_a H ?_ | refine ldL_a H ?_ | refine ldB_a H ?_ | refine ldP_a H ?_ | refine ldS_a H ?_)
      rw [decide_eq_true (show s.kind > 12 from h)]
      exact hb _ H
  | some k =>
    obtain ⟨hk12, hkk⟩ := find_kind hk
    have hgo : ∀ wx, X.Own w S [row b14 s.cells tStep, keep W] wx → crierref29_Print_j2 (fun v w' => ∃ L', (v = refPrintV s ∧ L' = [keep W]) ∧ X.Own w S L' w') b14 false wx := by
      clear bad
      clear H
      intro wx H
      unfold crierref29_Print_j2
      refine cnd_i (fun h => by cases h) fun _ => ?_
      refine drw_o H fun wx H => ?_
      unfold St.cells at H
      repeat (first | refine ldI_a H ?_ | refine ldL_a H ?_ | refine ldB_a H ?_ | refine ldP_a H ?_ | refine ldS_a H ?_)
      refine call_oa H (Names_t) fun vx L' wx hq H => ?_
      obtain ⟨bn, rfl, rfl⟩ := hq
      simp only [List.cons_append, List.nil_append] at H
      refine ⟨_, _, _, rfl, ?_⟩
      refine ⟨by (repeat (first | refine ldI_a H ?_ | refine ldL_a H ?_ | refine ldB_a H ?_ | refine ldP_a H ?_ | refine ldS_a H ?_)); rfl, ?_⟩
      have e1 : IntKind.i64.wrap (s.kind - 1) = (k : Int) := by rw [hkk, W_id (by omega) (by omega)]; omega
      rw [e1]
      refine ix_i hk12 ?_
      dsimp only [nn]
      rw [add_lit, Nat.mul_one, Nat.zero_add]
      refine ldS_o H (b := bn) (i := k) (by repeat (first | exact Pick.here | apply Pick.there)) (namesC_at hk12) ?_
      refine drw_o H fun wx H => ?_
      repeat (first | refine ldI_a H ?_ | refine ldL_a H ?_ | refine ldB_a H ?_ | refine ldP_a H ?_ | refine ldS_a H ?_)
      refine call_oa H (Fields_t) fun vx L' wx hq H => ?_
      obtain ⟨bf, rfl, rfl⟩ := hq
      simp only [List.cons_append, List.nil_append] at H
      refine ⟨_, _, _, rfl, ?_⟩
      refine ⟨by (repeat (first | refine ldI_a H ?_ | refine ldL_a H ?_ | refine ldB_a H ?_ | refine ldP_a H ?_ | refine ldS_a H ?_)); rfl, ?_⟩
      rw [e1]
      refine ix_i hk12 ?_
      dsimp only [nn]
      rw [add_lit, Nat.mul_one, Nat.zero_add]
      refine ldS_o H (b := bf) (i := k) (by repeat (first | exact Pick.here | apply Pick.there)) (fldsC_at hk12) ?_
      have hsz : (fldW k).size = (fldW k).data.toList.length := rfl
      have h5 := fldW_len k
      refine loop_o (fun (st : ByteArray × Int) L => ∃ j : Nat, j ≤ (fldW k).data.toList.length ∧ (⟨⟨(joinJ s k j).toArray⟩, (j : Int)⟩ : ByteArray × Int) = st ∧ L = [row b14 s.cells tStep, keep W])
        (fun (st : ByteArray × Int) => (((fldW k).data.toList.length : Int) - st.2).toNat) (H.drop (L1 := [row b14 s.cells tStep, keep W]) (by unfold St.cells; exact (by repeat (first | exact Cut.nil | (apply Cut.cons; (repeat (first | exact Pick.here | apply Pick.there))))))) ⟨0, by omega, Prod.ext (by rw [joinJ_zero]) rfl, rfl⟩ ?_
      clear H
      rintro _ _ wx ⟨j, hj, rfl, rfl⟩ H
      unfold crierref29_Print_l1
      dsimp only
      have hle := joinJ_len hs k j hj
      refine cnd_i (fun hc => ?_) fun hc => ?_
      · have hc := of_decide_eq_true hc
        rw [hsz] at hc
        have hjj : j < (fldW k).data.toList.length := by omega
        have e2 : IntKind.i64.wrap ((j : Int) + 1) = ((j + 1 : Nat) : Int) := by rw [W_id (by omega) (by omega)]; omega
        obtain ⟨c, hx⟩ : ∃ c, (fldW k).data.toList[j]? = some c := ⟨_, List.getElem?_eq_getElem hjj⟩
        have hnx := joinJ_next s k j hx
        have htl := txt_len hs ((c.toNat : Nat) : Int)
        have hlet := letters_of k c (List.mem_of_getElem? hx)
        have fin : ∀ (u : ByteArray) wx, u = ⟨(joinJ s k (j + 1)).toArray⟩ → X.Own w S [row b14 s.cells tStep, keep W] wx → crierref29_Print_j0 (j : Int) (fun (s' : ByteArray × Int) w' => (∃ L', (∃ j : Nat, j ≤ (fldW k).data.toList.length ∧ (⟨⟨(joinJ s k j).toArray⟩, (j : Int)⟩ : ByteArray × Int) = s' ∧ L' = [row b14 s.cells tStep, keep W]) ∧ X.Own w S L' w') ∧ (((fldW k).data.toList.length : Int) - s'.2).toNat < (((fldW k).data.toList.length : Int) - (j : Int)).toNat) u wx := by
          rintro _ wx rfl H
          unfold crierref29_Print_j0
          rw [e2]
          exact ⟨⟨_, ⟨j + 1, by omega, rfl, rfl⟩, H⟩, by show (((fldW k).data.toList.length : Int) - ((j + 1 : Nat) : Int)).toNat < _; omega⟩
        refine join_o (sx_i hx ?_)
        have z1 : (⟨(joinJ s k j).toArray⟩ : ByteArray).size = (joinJ s k j).length := size_bytes _
        have z2 : (⟨#[32]⟩ : ByteArray).size = 1 := rfl
        have z3 : (⟨(joinJ s k j).toArray⟩ ++ ⟨#[32]⟩ : ByteArray) = ⟨(joinJ s k j ++ [32]).toArray⟩ := app_bytes _ [32]
        have zm : IntKind.i64.max = 9223372036854775807 := rfl
        refine cnd_i (fun hh => ?_) fun hh => ?_
        · have hh : ((c.toNat : Nat) : Int) = 120 := by simpa using hh
          have ht : s.txt ((c.toNat : Nat) : Int) = Lib.decDigits s.x.toNat := by rw [hh]; rfl
          have hx1 := hs.2.2.2.2.2.2.2.2.2.2.2.1
          have hx2 := hs.2.2.2.2.2.2.2.2.2.2.2.2
          rw [ht] at hnx htl
          refine ⟨by rw [z1, z2, zm]; omega, ?_⟩
          unfold St.cells at H fin
          repeat (first | refine ldI_a H ?_ | refine ldL_a H ?_ | refine ldB_a H ?_ | refine ldP_a H ?_ | refine ldS_a H ?_)
          obtain ⟨u, hu⟩ : ∃ u : Nat, s.x = u := ⟨s.x.toNat, by omega⟩
          have hut : s.x.toNat = u := by omega
          rw [hut] at hnx htl
          rw [hu]
          refine call_pa H (FormatUint_t hT u (by omega)) fun wx H => ?_
          refine ⟨_, rfl, ⟨by rw [z3, size_bytes, size_bytes, zm, List.length_append]; simp only [List.length_cons, List.length_nil]; omega, ?_⟩⟩
          refine fin _ _ ?_ (H.dp)
          rw [z3, app_bytes, hnx]
        · have hh : ((c.toNat : Nat) : Int) ≠ 120 := by simpa using hh
          rw [num_txt s hlet hh] at hnx htl
          refine drw_o H fun wx H => ?_
          refine ⟨by rw [z1, z2, zm]; omega, ?_⟩
          unfold St.cells at H fin
          repeat (first | refine ldI_a H ?_ | refine ldL_a H ?_ | refine ldB_a H ?_ | refine ldP_a H ?_ | refine ldS_a H ?_)
          refine sx_i hx ?_
          refine call_pa H (number_t s ((c.toNat : Nat) : Int)) fun wx H => ?_
          refine ⟨_, rfl, ?_⟩
          refine call_pa H (Itoa_t hT (s.num ((c.toNat : Nat) : Int)) (num_fit hs _)) fun wx H => ?_
          refine ⟨_, rfl, ⟨by rw [z3, size_bytes, size_bytes, zm, List.length_append]; simp only [List.length_cons, List.length_nil]; omega, ?_⟩⟩
          refine fin _ _ ?_ (H.dp)
          rw [z3, app_bytes, hnx]
      · have hc := of_decide_eq_false hc
        rw [hsz] at hc
        obtain rfl : j = (fldW k).data.toList.length := by omega
        exact ⟨_, ⟨by unfold refPrintV; rw [hk]; rfl, rfl⟩, H.dp⟩
    unfold St.cells at H hgo
    repeat (first | refine ldI_a H ?_ | refine ldL_a H ?_ | refine ldB_a H ?_ | refine ldP_a H ?_ | refine ldS_a H ?_)
    refine cnd_i (fun hc => absurd (of_decide_eq_true hc) (by omega)) fun hc => ?_
    repeat (first | refine ldI_a H ?_ | refine ldL_a H ?_ | refine ldB_a H ?_ | refine ldP_a H ?_ | refine ldS_a H ?_)
    rw [decide_eq_false (show ¬ s.kind > 12 by omega)]
    exact hgo _ H
def refPlainV (s : St) : Value := match findM ⟨#[]⟩ s.kind with
  | some k => .tuple [stV (plainS s k), .bool true].toArray
  | none => .tuple [stV st0, .bool false].toArray
theorem RefPlain_t {W : World} (s : St) : Tri P F.crierref29_Plain [stV s] [keep W] fun v L' => v = refPlainV s ∧ L' = [keep W] := by
  intro w S hS
  refine crierref29_Plain_cv ?_
  unfold crierref29_Plain
  have H := Own.start hS
  refine alc_o H fun b14 wx H => alc_o H fun b16 wx H => ?_
  have H : X.Own w S [row b16 st0.cells tStep, row b14 s.cells tStep, keep W] wx := H
  refine join_o ?_
  have bad : findM ⟨#[]⟩ s.kind = none → ∀ wx, X.Own w S [row b16 st0.cells tStep, row b14 s.cells tStep, keep W] wx → crierref29_Plain_j2 (fun v w' => ∃ L', (v = refPlainV s ∧ L' = [keep W]) ∧ X.Own w S L' w') b14 b16 true wx := by
    intro hn wx H
    unfold crierref29_Plain_j2
    refine cnd_i (fun _ => ?_) (fun h => by cases h)
    unfold St.cells at H
    refine st1_a H fun wx H => ?_
    refine st1_a H fun wx H => ?_
    refine st1_a H fun wx H => ?_
    refine st1_a H fun wx H => ?_
    refine st1_a H fun wx H => ?_
    refine st1_a H fun wx H => ?_
    refine st1_a H fun wx H => ?_
    refine st1_a H fun wx H => ?_
    refine st1_a H fun wx H => ?_
    refine st1_a H fun wx H => ?_
    refine st1_a H fun wx H => ?_
    refine st1_a H fun wx H => ?_
    refine st1_a H fun wx H => ?_
    repeat (first | refine ldI_a H ?_ | refine ldL_a H ?_ | refine ldB_a H ?_ | refine ldP_a H ?_ | refine ldS_a H ?_)
    exact ⟨_, ⟨by unfold refPlainV; rw [hn]; rfl, rfl⟩, H.dp⟩
  cases hk : findM ⟨#[]⟩ s.kind with
  | none =>
    have hb := bad hk
    unfold St.cells at H hb
    repeat (first | refine ldI_a H ?_ | refine ldL_a H ?_ | refine ldB_a H ?_ | refine ldP_a H ?_ | refine ldS_a H ?_)
    rcases kind_none hk with h | h
    · exact cnd_i (fun _ => hb _ H) fun hc => absurd h (of_decide_eq_false hc)
    · refine cnd_i (fun _ => hb _ H) fun hc => ?_
      repeat (first | refine ldI_a H ?_ | refine ldL_a H ?_ | refine ldB_a H ?_ | refine ldP_a H ?_ | refine ldS_a H ?_)
      rw [decide_eq_true (show s.kind > 12 from h)]
      exact hb _ H
  | some k =>
    obtain ⟨hk12, hkk⟩ := find_kind hk
    have hgo : ∀ wx, X.Own w S [row b16 st0.cells tStep, row b14 s.cells tStep, keep W] wx → crierref29_Plain_j2 (fun v w' => ∃ L', (v = refPlainV s ∧ L' = [keep W]) ∧ X.Own w S L' w') b14 b16 false wx := by
      clear bad
      clear H
      intro wx H
      unfold crierref29_Plain_j2
      refine cnd_i (fun h => by cases h) fun _ => ?_
      unfold St.cells at H
      repeat (first | refine ldI_a H ?_ | refine ldL_a H ?_ | refine ldB_a H ?_ | refine ldP_a H ?_ | refine ldS_a H ?_)
      refine alc_o H fun b48 wx H => ?_
      refine st1_a H fun wx H => ?_
      refine st1_a H fun wx H => ?_
      refine st1_a H fun wx H => ?_
      refine st1_a H fun wx H => ?_
      refine st1_a H fun wx H => ?_
      refine st1_a H fun wx H => ?_
      refine st1_a H fun wx H => ?_
      refine st1_a H fun wx H => ?_
      refine st1_a H fun wx H => ?_
      refine st1_a H fun wx H => ?_
      refine st1_a H fun wx H => ?_
      refine st1_a H fun wx H => ?_
      refine st1_a H fun wx H => ?_
      simp only [List.set_cons_zero, List.set_cons_succ] at H
      refine drw_o H fun wx H => ?_
      repeat (first | refine ldI_a H ?_ | refine ldL_a H ?_ | refine ldB_a H ?_ | refine ldP_a H ?_ | refine ldS_a H ?_)
      refine call_oa H (Fields_t) fun vx L' wx hq H => ?_
      obtain ⟨bf, rfl, rfl⟩ := hq
      simp only [List.cons_append, List.nil_append] at H
      refine ⟨_, _, _, rfl, ?_⟩
      refine ⟨by (repeat (first | refine ldI_a H ?_ | refine ldL_a H ?_ | refine ldB_a H ?_ | refine ldP_a H ?_ | refine ldS_a H ?_)); rfl, ?_⟩
      have e1 : IntKind.i64.wrap (s.kind - 1) = (k : Int) := by rw [hkk, W_id (by omega) (by omega)]; omega
      rw [e1]
      refine ix_i hk12 ?_
      dsimp only [nn]
      rw [add_lit, Nat.mul_one, Nat.zero_add]
      refine ldS_o H (b := bf) (i := k) (by repeat (first | exact Pick.here | apply Pick.there)) (fldsC_at hk12) ?_
      have hsz : (fldW k).size = (fldW k).data.toList.length := rfl
      have h5 := fldW_len k
      refine loop_o (fun (st : Int) L => ∃ j : Nat, j ≤ (fldW k).data.toList.length ∧ (j : Int) = st ∧ L = [row b48 (plainJ s k j).cells tStep, row b16 st0.cells tStep, row b14 s.cells tStep, keep W])
        (fun (st : Int) => (((fldW k).data.toList.length : Int) - st).toNat) (H.drop (L1 := [row b48 (plainJ s k 0).cells tStep, row b16 st0.cells tStep, row b14 s.cells tStep, keep W]) (by unfold St.cells; exact (by repeat (first | exact Cut.nil | (apply Cut.cons; (repeat (first | exact Pick.here | apply Pick.there))))))) ⟨0, by omega, rfl, rfl⟩ ?_
      clear H
      rintro _ _ wx ⟨j, hj, rfl, rfl⟩ H
      unfold crierref29_Plain_l1
      refine cnd_i (fun hc => ?_) fun hc => ?_
      · have hc := of_decide_eq_true hc
        rw [hsz] at hc
        have hjj : j < (fldW k).data.toList.length := by omega
        have e2 : IntKind.i64.wrap ((j : Int) + 1) = ((j + 1 : Nat) : Int) := by rw [W_id (by omega) (by omega)]; omega
        obtain ⟨c, hx⟩ : ∃ c, (fldW k).data.toList[j]? = some c := ⟨_, List.getElem?_eq_getElem hjj⟩
        have hnx := plainJ_next s k j hx
        have hlet := letters_of k c (List.mem_of_getElem? hx)
        have fin : ∀ (d : St) wx, d = plainJ s k (j + 1) → X.Own w S [row b48 d.cells tStep, row b16 st0.cells tStep, row b14 s.cells tStep, keep W] wx → crierref29_Plain_j0 (j : Int) (fun (s' : Int) w' => (∃ L', (∃ j : Nat, j ≤ (fldW k).data.toList.length ∧ (j : Int) = s' ∧ L' = [row b48 (plainJ s k j).cells tStep, row b16 st0.cells tStep, row b14 s.cells tStep, keep W]) ∧ X.Own w S L' w') ∧ (((fldW k).data.toList.length : Int) - s').toNat < (((fldW k).data.toList.length : Int) - (j : Int)).toNat) wx := by
          rintro _ wx rfl H
          unfold crierref29_Plain_j0
          rw [e2]
          exact ⟨⟨_, ⟨j + 1, by omega, rfl, rfl⟩, H⟩, by show (((fldW k).data.toList.length : Int) - ((j + 1 : Nat) : Int)).toNat < _; omega⟩
        refine sx_i hx (join_o ?_)
        generalize plainJ s k j = p at *
        generalize plainJ s k (j + 1) = p2 at *
        generalize ((c.toNat : Nat) : Int) = f at *
        unfold St.cells at H
        refine cnd_i (fun h => ?_) fun h0 => ?_
        · have h : f = 103 := by simpa using h
          subst h
          repeat (first | refine ldI_a H ?_ | refine ldL_a H ?_ | refine ldB_a H ?_ | refine ldP_a H ?_ | refine ldS_a H ?_)
          refine st1_a H fun wx H => ?_
          simp only [List.set_cons_zero, List.set_cons_succ] at H
          exact fin { p with g := s.g } _ (by rw [hnx]; rfl) H
        have h0 : f ≠ 103 := by simpa using h0
        refine cnd_i (fun h => ?_) fun h1 => ?_
        · have h : f = 118 := by simpa using h
          subst h
          repeat (first | refine ldI_a H ?_ | refine ldL_a H ?_ | refine ldB_a H ?_ | refine ldP_a H ?_ | refine ldS_a H ?_)
          refine st1_a H fun wx H => ?_
          simp only [List.set_cons_zero, List.set_cons_succ] at H
          exact fin { p with v := s.v } _ (by rw [hnx]; rfl) H
        have h1 : f ≠ 118 := by simpa using h1
        refine cnd_i (fun h => ?_) fun h2 => ?_
        · have h : f = 99 := by simpa using h
          subst h
          repeat (first | refine ldI_a H ?_ | refine ldL_a H ?_ | refine ldB_a H ?_ | refine ldP_a H ?_ | refine ldS_a H ?_)
          refine st1_a H fun wx H => ?_
          simp only [List.set_cons_zero, List.set_cons_succ] at H
          exact fin { p with c := s.c } _ (by rw [hnx]; rfl) H
        have h2 : f ≠ 99 := by simpa using h2
        refine cnd_i (fun h => ?_) fun h3 => ?_
        · have h : f = 100 := by simpa using h
          subst h
          repeat (first | refine ldI_a H ?_ | refine ldL_a H ?_ | refine ldB_a H ?_ | refine ldP_a H ?_ | refine ldS_a H ?_)
          refine st1_a H fun wx H => ?_
          simp only [List.set_cons_zero, List.set_cons_succ] at H
          exact fin { p with d := s.d } _ (by rw [hnx]; rfl) H
        have h3 : f ≠ 100 := by simpa using h3
        refine cnd_i (fun h => ?_) fun h4 => ?_
        · have h : f = 101 := by simpa using h
          subst h
          repeat (first | refine ldI_a H ?_ | refine ldL_a H ?_ | refine ldB_a H ?_ | refine ldP_a H ?_ | refine ldS_a H ?_)
          refine st1_a H fun wx H => ?_
          simp only [List.set_cons_zero, List.set_cons_succ] at H
          exact fin { p with e := s.e } _ (by rw [hnx]; rfl) H
        have h4 : f ≠ 101 := by simpa using h4
        refine cnd_i (fun h => ?_) fun h5 => ?_
        · have h : f = 110 := by simpa using h
          subst h
          repeat (first | refine ldI_a H ?_ | refine ldL_a H ?_ | refine ldB_a H ?_ | refine ldP_a H ?_ | refine ldS_a H ?_)
          refine st1_a H fun wx H => ?_
          simp only [List.set_cons_zero, List.set_cons_succ] at H
          exact fin { p with n := s.n } _ (by rw [hnx]; rfl) H
        have h5 : f ≠ 110 := by simpa using h5
        refine cnd_i (fun h => ?_) fun h6 => ?_
        · have h : f = 114 := by simpa using h
          subst h
          repeat (first | refine ldI_a H ?_ | refine ldL_a H ?_ | refine ldB_a H ?_ | refine ldP_a H ?_ | refine ldS_a H ?_)
          refine st1_a H fun wx H => ?_
          simp only [List.set_cons_zero, List.set_cons_succ] at H
          exact fin { p with r := s.r } _ (by rw [hnx]; rfl) H
        have h6 : f ≠ 114 := by simpa using h6
        refine cnd_i (fun h => ?_) fun h7 => ?_
        · have h : f = 116 := by simpa using h
          subst h
          repeat (first | refine ldI_a H ?_ | refine ldL_a H ?_ | refine ldB_a H ?_ | refine ldP_a H ?_ | refine ldS_a H ?_)
          refine st1_a H fun wx H => ?_
          simp only [List.set_cons_zero, List.set_cons_succ] at H
          exact fin { p with t := s.t } _ (by rw [hnx]; rfl) H
        have h7 : f ≠ 116 := by simpa using h7
        refine cnd_i (fun h => ?_) fun h8 => ?_
        · have h : f = 97 := by simpa using h
          subst h
          repeat (first | refine ldI_a H ?_ | refine ldL_a H ?_ | refine ldB_a H ?_ | refine ldP_a H ?_ | refine ldS_a H ?_)
          refine st1_a H fun wx H => ?_
          simp only [List.set_cons_zero, List.set_cons_succ] at H
          exact fin { p with a := s.a } _ (by rw [hnx]; rfl) H
        have h8 : f ≠ 97 := by simpa using h8
        refine cnd_i (fun h => ?_) fun h9 => ?_
        · have h : f = 119 := by simpa using h
          subst h
          repeat (first | refine ldI_a H ?_ | refine ldL_a H ?_ | refine ldB_a H ?_ | refine ldP_a H ?_ | refine ldS_a H ?_)
          refine st1_a H fun wx H => ?_
          simp only [List.set_cons_zero, List.set_cons_succ] at H
          exact fin { p with w := s.w } _ (by rw [hnx]; rfl) H
        have h9 : f ≠ 119 := by simpa using h9
        refine cnd_i (fun h => ?_) fun h10 => ?_
        · have h : f = 120 := by simpa using h
          subst h
          repeat (first | refine ldI_a H ?_ | refine ldL_a H ?_ | refine ldB_a H ?_ | refine ldP_a H ?_ | refine ldS_a H ?_)
          refine st1_a H fun wx H => ?_
          simp only [List.set_cons_zero, List.set_cons_succ] at H
          exact fin { p with x := s.x } _ (by rw [hnx]; rfl) H
        have h10 : f ≠ 120 := by simpa using h10
        refine cnd_i (fun h => ?_) fun h11 => ?_
        · have h : f = 104 := by simpa using h
          subst h
          repeat (first | refine ldI_a H ?_ | refine ldL_a H ?_ | refine ldB_a H ?_ | refine ldP_a H ?_ | refine ldS_a H ?_)
          refine st1_a H fun wx H => ?_
          simp only [List.set_cons_zero, List.set_cons_succ] at H
          exact fin { p with h := s.h } _ (by rw [hnx]; rfl) H
        have h11 : f ≠ 104 := by simpa using h11
        simp only [letters, List.mem_cons, List.not_mem_nil, or_false] at hlet
        omega
      · have hc := of_decide_eq_false hc
        rw [hsz] at hc
        obtain rfl : j = (fldW k).data.toList.length := by omega
        have hp : refPlainV s = .tuple [stV (plainJ s k (fldW k).data.toList.length), .bool true].toArray := by unfold refPlainV plainS; rw [hk]
        rw [hp]
        generalize plainJ s k (fldW k).data.toList.length = p at *
        unfold St.cells at H
        repeat (first | refine ldI_a H ?_ | refine ldL_a H ?_ | refine ldB_a H ?_ | refine ldP_a H ?_ | refine ldS_a H ?_)
        refine st1_a H fun wx H => ?_
        refine st1_a H fun wx H => ?_
        refine st1_a H fun wx H => ?_
        refine st1_a H fun wx H => ?_
        refine st1_a H fun wx H => ?_
        refine st1_a H fun wx H => ?_
        refine st1_a H fun wx H => ?_
        refine st1_a H fun wx H => ?_
        refine st1_a H fun wx H => ?_
        refine st1_a H fun wx H => ?_
        refine st1_a H fun wx H => ?_
        refine st1_a H fun wx H => ?_
        refine st1_a H fun wx H => ?_
        simp only [List.set_cons_zero, List.set_cons_succ] at H
        repeat (first | refine ldI_a H ?_ | refine ldL_a H ?_ | refine ldB_a H ?_ | refine ldP_a H ?_ | refine ldS_a H ?_)
        exact ⟨_, ⟨rfl, rfl⟩, H.dp⟩
    unfold St.cells at H hgo
    repeat (first | refine ldI_a H ?_ | refine ldL_a H ?_ | refine ldB_a H ?_ | refine ldP_a H ?_ | refine ldS_a H ?_)
    refine cnd_i (fun hc => absurd (of_decide_eq_true hc) (by omega)) fun hc => ?_
    repeat (first | refine ldI_a H ?_ | refine ldL_a H ?_ | refine ldB_a H ?_ | refine ldP_a H ?_ | refine ldS_a H ?_)
    rw [decide_eq_false (show ¬ s.kind > 12 by omega)]
    exact hgo _ H
end Go.Proofs.YtbnadobjnmboiaaDoor
/-
  text: lines, plainly.
-/
namespace Go.Proofs.YtbnadobjnmboiaaDoor
open Go
set_option linter.unusedVariables false
set_option linter.unusedSimpArgs false
/-- the first line; what is left from its end on -/
def lineOf (s : List UInt8) : List UInt8 := s.takeWhile (· != 10)
def restOf (s : List UInt8) : List UInt8 := s.dropWhile (· != 10)
theorem line_rest (s : List UInt8) : lineOf s ++ restOf s = s := List.takeWhile_append_dropWhile
theorem rest_cases : ∀ s : List UInt8, restOf s = [] ∨ ∃ r, restOf s = 10 :: r
  | [] => .inl rfl
  | x :: l => by
    unfold restOf
    rw [List.dropWhile_cons]
    by_cases h : x = 10
    · subst h; exact .inr ⟨l, rfl⟩
    · rw [if_pos (by simpa using h)]; exact rest_cases l
theorem line_no : ∀ s : List UInt8, (10 : UInt8) ∉ lineOf s
  | [] => by simp [lineOf]
  | x :: l => by
    have ih := line_no l
    unfold lineOf at *
    rw [List.takeWhile_cons]
    by_cases h : x = 10
    · subst h; simp
    · rw [if_pos (by simpa using h)]
      intro hm
      rcases List.mem_cons.1 hm with hm | hm
      · exact h hm.symm
      · exact ih hm
theorem index_line : ∀ s : List UInt8, Lib.indexByte s 10 = if restOf s = [] then -1 else ((lineOf s).length : Int)
  | [] => rfl
  | x :: l => by
    have ih := index_line l
    have hc := rest_cases l
    unfold Lib.indexByte
    unfold restOf lineOf at *
    rw [List.dropWhile_cons, List.takeWhile_cons]
    by_cases h : x = 10
    · subst h; rfl
    · have e1 : (x == (10 : UInt8)) = false := by simpa using h
      have e2 : (x != (10 : UInt8)) = true := by simpa using h
      rw [if_neg (by rw [e1]; simp), if_pos e2, if_pos e2, ih]
      by_cases hr : l.dropWhile (· != 10) = []
      · rw [if_pos hr, if_pos hr]; rfl
      · rw [if_neg hr, if_neg hr, List.length_cons]
        have : ((((l.takeWhile (· != 10)).length : Int)) == -1) = false := by
          rw [beq_eq_false_iff_ne]; omega
        rw [if_neg (by rw [this]; simp)]
        push_cast; rfl
/-- the pieces: lines with what ends them -/
def pieceF : Nat → List UInt8 → List (List UInt8)
  | 0, _ => []
  | n + 1, s => if s = [] then [] else (lineOf s ++ (restOf s).take 1) :: pieceF n ((restOf s).drop 1)
theorem rest_lt {s : List UInt8} (h : s ≠ []) : ((restOf s).drop 1).length < s.length := by
  have h1 := congrArg List.length (line_rest s)
  rw [List.length_append] at h1
  rw [List.length_drop]
  rcases rest_cases s with h2 | ⟨r, h2⟩
  · rw [h2]; simp; cases s with
    | nil => exact absurd rfl h
    | cons x l => simp
  · rw [h2] at h1 ⊢; simp at h1 ⊢; omega
theorem pieceF_eq : ∀ (n : Nat) (s : List UInt8), s.length ≤ n → pieceF n s = pieceF s.length s := by
  intro n
  induction n using Nat.strongRecOn with
  | _ n ih =>
    intro s hs
    cases n with
    | zero => have : s = [] := List.eq_nil_of_length_eq_zero (by omega); subst this; rfl
    | succ n =>
      by_cases h : s = []
      · subst h; rfl
      · have hlt := rest_lt h
        obtain ⟨m, hm⟩ : ∃ m, s.length = m + 1 := ⟨s.length - 1, by omega⟩
        rw [hm]
        unfold pieceF
        rw [if_neg h, if_neg h, ih n (by omega) _ (by omega)]
        by_cases hmn : m < n
        · rw [ih m (by omega) _ (by omega)]
        · obtain rfl : m = n := by omega
          rw [ih m (by omega) _ (by omega)]
def pieceL (s : List UInt8) : List (List UInt8) := pieceF s.length s
theorem pieceL_cons {s : List UInt8} (h : s ≠ []) : pieceL s = (lineOf s ++ (restOf s).take 1) :: pieceL ((restOf s).drop 1) := by
  have hlt := rest_lt h
  obtain ⟨m, hm⟩ : ∃ m, s.length = m + 1 := ⟨s.length - 1, by omega⟩
  unfold pieceL
  rw [hm]
  conv => lhs; unfold pieceF
  rw [if_neg h, pieceF_eq m _ (by omega)]
theorem pieceL_nil : pieceL [] = [] := rfl
theorem pieceL_len : ∀ (n : Nat) (s : List UInt8), s.length ≤ n → (pieceL s).length ≤ s.length := by
  intro n
  induction n with
  | zero => intro s hs; have : s = [] := List.eq_nil_of_length_eq_zero (by omega); subst this; exact Nat.le_refl _
  | succ n ih =>
    intro s hs
    by_cases h : s = []
    · subst h; exact Nat.le_refl _
    · have hlt := rest_lt h
      rw [pieceL_cons h, List.length_cons]
      have := ih ((restOf s).drop 1) (by omega)
      omega
theorem pieceL_mem : ∀ (n : Nat) (s : List UInt8), s.length ≤ n → ∀ p ∈ pieceL s, p.length ≤ s.length := by
  intro n
  induction n with
  | zero => intro s hs; have : s = [] := List.eq_nil_of_length_eq_zero (by omega); subst this; intro p hp; cases hp
  | succ n ih =>
    intro s hs p hp
    by_cases h : s = []
    · subst h; cases hp
    · have hlt := rest_lt h
      rw [pieceL_cons h] at hp
      have h1 := congrArg List.length (line_rest s)
      rw [List.length_append] at h1
      rcases List.mem_cons.1 hp with rfl | hp
      · rw [List.length_append, List.length_take]; omega
      · have := ih _ (by omega) p hp
        omega
/-- a piece's line -/
def strip (p : List UInt8) : List UInt8 := Lib.trimSuffix p [10]
theorem suffix_end (l : List UInt8) : Lib.hasSuffix (l ++ [10]) [10] = true := by
  unfold Lib.hasSuffix
  simp
theorem strip_piece (s : List UInt8) : strip (lineOf s ++ (restOf s).take 1) = lineOf s := by
  unfold strip Lib.trimSuffix
  rcases rest_cases s with h | ⟨r, h⟩
  · rw [h, List.take_nil, List.append_nil]
    have : Lib.hasSuffix (lineOf s) [10] = false := by
      unfold Lib.hasSuffix
      rw [Bool.eq_false_iff]
      intro hh
      obtain ⟨r, hr⟩ := List.isSuffixOf_iff_suffix.1 hh
      exact line_no s (by rw [← hr]; simp)
    rw [if_neg (by rw [this]; simp)]
  · rw [h]
    show (if Lib.hasSuffix (lineOf s ++ [10]) [10] = true then _ else _) = _
    rw [if_pos (suffix_end _)]
    simp
/-- the lines -/
def rawL (s : List UInt8) : List (List UInt8) := (pieceL s).map strip
theorem rawL_nil : rawL [] = [] := rfl
theorem rawL_cons {s : List UInt8} (h : s ≠ []) : rawL s = lineOf s :: rawL ((restOf s).drop 1) := by
  unfold rawL
  rw [pieceL_cons h, List.map_cons, strip_piece]
theorem line_app {l r : List UInt8} (h : (10 : UInt8) ∉ l) : lineOf (l ++ 10 :: r) = l ∧ restOf (l ++ 10 :: r) = 10 :: r := by
  induction l with
  | nil => exact ⟨rfl, rfl⟩
  | cons x l ih =>
    have hx : x ≠ 10 := fun e => h (by rw [e]; simp)
    obtain ⟨h1, h2⟩ := ih fun hh => h (by simp [hh])
    unfold lineOf restOf at *
    have e2 : (x != (10 : UInt8)) = true := by simpa using hx
    rw [List.cons_append, List.takeWhile_cons, List.dropWhile_cons, if_pos e2, if_pos e2, h1, h2]
    exact ⟨rfl, rfl⟩
theorem rawL_app {l r : List UInt8} (h : (10 : UInt8) ∉ l) : rawL (l ++ 10 :: r) = l :: rawL r := by
  obtain ⟨h1, h2⟩ := line_app (r := r) h
  rw [rawL_cons (by simp), h1, h2]; rfl
theorem rawL_no : ∀ (n : Nat) (s : List UInt8), s.length ≤ n → ∀ l ∈ rawL s, (10 : UInt8) ∉ l ∧ l.length ≤ s.length := by
  intro n
  induction n with
  | zero => intro s hs; have : s = [] := List.eq_nil_of_length_eq_zero (by omega); subst this; intro l hl; cases hl
  | succ n ih =>
    intro s hs l hl
    by_cases h : s = []
    · subst h; cases hl
    · have hlt := rest_lt h
      rw [rawL_cons h] at hl
      rcases List.mem_cons.1 hl with rfl | hl
      · refine ⟨line_no s, ?_⟩
        have := congrArg List.length (line_rest s)
        rw [List.length_append] at this; omega
      · obtain ⟨h1, h2⟩ := ih _ (by omega) l hl
        exact ⟨h1, by omega⟩
/-- does a line say something? -/
def says (l : List UInt8) : Bool := match l with
  | [] => false
  | x :: _ => x != 35
def sayF : Nat → List (List UInt8) → List (Nat × List UInt8)
  | _, [] => []
  | k, l :: r => if says l then (k + 1, l) :: sayF (k + 1) r else sayF (k + 1) r
theorem sayF_cons (k : Nat) (l : List UInt8) (r : List (List UInt8)) : sayF k (l :: r) = if says l then (k + 1, l) :: sayF (k + 1) r else sayF (k + 1) r := rfl
theorem sayF_app : ∀ (a b : List (List UInt8)) (k : Nat), sayF k (a ++ b) = sayF k a ++ sayF (k + a.length) b
  | [], b, k => rfl
  | l :: a, b, k => by
    have ih := sayF_app a b (k + 1)
    rw [List.cons_append, sayF_cons, sayF_cons, ih, List.length_cons, show k + (a.length + 1) = k + 1 + a.length by omega]
    by_cases h : says l = true
    · rw [if_pos h, if_pos h]; rfl
    · rw [if_neg h, if_neg h]
def sayL (s : List UInt8) : List (Nat × List UInt8) := sayF 0 (rawL s)
theorem sayF_next (ls : List (List UInt8)) (m : Nat) (hm : m < ls.length) : sayF 0 (ls.take (m + 1)) = sayF 0 (ls.take m) ++ if says ls[m] then [(m + 1, ls[m])] else [] := by
  rw [List.take_succ_eq_append_getElem hm, sayF_app, List.length_take, Nat.min_eq_left (by omega), Nat.zero_add]
  unfold sayF
  by_cases h : says ls[m] = true
  · rw [if_pos h, if_pos h]; rfl
  · rw [if_neg h, if_neg h]; rfl
theorem sayF_at (ls : List (List UInt8)) (m : Nat) (hm : m < ls.length) (h : says ls[m] = true) : (sayF 0 ls)[(sayF 0 (ls.take m)).length]? = some (m + 1, ls[m]) := by
  have h1 := sayF_next ls m hm
  rw [if_pos h] at h1
  have h2 : ls = ls.take (m + 1) ++ ls.drop (m + 1) := (List.take_append_drop _ _).symm
  have h3 : sayF 0 ls = sayF 0 (ls.take (m + 1)) ++ sayF (0 + (ls.take (m + 1)).length) (ls.drop (m + 1)) := by rw [← sayF_app, List.take_append_drop]
  rw [h3, h1, List.append_assoc, List.getElem?_append_right (Nat.le_refl _)]
  simp
theorem sayF_mem : ∀ (ls : List (List UInt8)) (k : Nat) x, x ∈ sayF k ls → k < x.1 ∧ x.1 ≤ k + ls.length ∧ x.2 ∈ ls ∧ says x.2 = true
  | [], k, x, h => by cases h
  | l :: r, k, x, h => by
    unfold sayF at h
    by_cases hs : says l = true
    · rw [if_pos hs] at h
      rcases List.mem_cons.1 h with rfl | h
      · exact ⟨by simp, by simp, by simp, hs⟩
      · obtain ⟨h1, h2, h3, h4⟩ := sayF_mem r (k + 1) x h
        exact ⟨by omega, by rw [List.length_cons]; omega, by simp [h3], h4⟩
    · rw [if_neg hs] at h
      obtain ⟨h1, h2, h3, h4⟩ := sayF_mem r (k + 1) x h
      exact ⟨by omega, by rw [List.length_cons]; omega, by simp [h3], h4⟩
theorem rawL_len (s : List UInt8) : (rawL s).length ≤ s.length := by
  unfold rawL; rw [List.length_map]; exact pieceL_len _ _ (Nat.le_refl _)
theorem sayF_len : ∀ (ls : List (List UInt8)) (k : Nat), (sayF k ls).length ≤ ls.length
  | [], k => Nat.le_refl _
  | l :: r, k => by
    have := sayF_len r (k + 1)
    unfold sayF
    by_cases hs : says l = true
    · rw [if_pos hs, List.length_cons, List.length_cons]; omega
    · rw [if_neg hs, List.length_cons]; omega
end Go.Proofs.YtbnadobjnmboiaaDoor
/-
  text: strings.Lines gone through.
-/
namespace Go.Proofs.YtbnadobjnmboiaaDoor
open Go Go.RowKit X
set_option maxRecDepth 100000
set_option linter.unusedVariables false
set_option linter.unusedSimpArgs false
set_option maxHeartbeats 1000000
theorem ext_bytes (l : List UInt8) (a b : Nat) : (⟨l.toArray⟩ : ByteArray).extract a b = ⟨((l.drop a).take (b - a)).toArray⟩ := by
  apply ByteArray.ext
  have h := Lib.extract_toList ⟨l.toArray⟩ a b
  rw [Lib.toList_data] at h
  apply Array.ext'
  simp
theorem slS_take {l : List UInt8} {n : Nat} {K : ByteArray → Prop} (h : n ≤ l.length) (k : K ⟨(l.take n).toArray⟩) : slS ⟨l.toArray⟩ none (some (n : Int)) K := by
  refine ⟨(by intro x hx; cases hx), ?_, (by intro x hx; cases hx), ?_⟩
  · intro x hx; cases hx
    rw [size_bytes]; simp; omega
  · simp only [Option.map_none, Option.map_some, Option.getD_none, Option.getD_some, Int.toNat_natCast]
    rw [ext_bytes, List.drop_zero, Nat.sub_zero]; exact k
theorem slS_drop {l : List UInt8} {n : Nat} {K : ByteArray → Prop} (h : n ≤ l.length) (k : K ⟨(l.drop n).toArray⟩) : slS ⟨l.toArray⟩ (some (n : Int)) none K := by
  refine ⟨(by intro x hx; cases hx), (by intro x hx; cases hx), ?_, ?_⟩
  · intro x hx; cases hx
    rw [size_bytes]; simp; omega
  · simp only [Option.map_none, Option.map_some, Option.getD_none, Option.getD_some, Int.toNat_natCast]
    rw [ext_bytes, size_bytes, List.take_of_length_le (by rw [List.length_drop]; omega)]; exact k
theorem IndexByte_t (s : List UInt8) : Tri P F.strings_IndexByte [strV s, .int .u8 10] [] fun v L' => v = .int .i64 (Lib.indexByte s 10) ∧ L' = [] := by
  intro w S hS
  refine strings_IndexByte_cv ?_
  unfold strings_IndexByte
  refine (callsIn_wide.2 (Any.stringslite_IndexByte Tryd.lays217 ⟨s.toArray⟩ 10 w)).mono fun e w' hh => ?_
  obtain ⟨rfl, rfl⟩ := hh
  exact ⟨_, rfl, _, rfl, _, ⟨rfl, rfl⟩, Own.start hS⟩
theorem TrimSuffix_t (s : List UInt8) (hs : s.length ≤ 281474976710656) : Tri P F.strings_TrimSuffix [strV s, .string ⟨#[10]⟩] [] fun v L' => v = strV (strip s) ∧ L' = [] := by
  intro w S hS
  refine (callsIn_wide.2 (Any.strings_TrimSuffix Tryd.lays102 ⟨s.toArray⟩ ⟨#[10]⟩ w (by rw [size_bytes]; omega))).mono fun e w' hh => ?_
  obtain ⟨rfl, rfl⟩ := hh
  exact ⟨_, rfl, _, ⟨rfl, rfl⟩, Own.start hS⟩
theorem strLines_enters : enters P F.strings_Lines_1 = true := by kernel_rfl
theorem strLines_t (s : ByteArray) : Tri P F.strings_Lines [.string s] [] fun v L' => ∃ b, v = .func (.func F.strings_Lines_1) [].toArray [.pointer (some ⟨b, 0, none⟩)].toArray ∧ L' = [row b [.string s] tStr] := by
  intro w S hS
  refine strings_Lines_cv ?_
  unfold strings_Lines
  have H := Own.start hS
  refine alc_o H fun b wx H => ?_
  exact ⟨_, ⟨b, rfl, rfl⟩, H⟩
theorem strLines_it (b : Nat) (s : List UInt8) (hs : s.length ≤ 281474976710656) : IterF P F.strings_Lines_1 [.pointer (some ⟨b, 0, none⟩)] [row b [strV s] tStr] ((pieceL s).map fun l => [strV l]) := by
  intro y w0 S0 L0 w Q I D hy H h0 hstep hend hstop
  obtain ⟨fn, fa, fc, rfl⟩ := hy
  refine strings_Lines_1_cv ?_
  unfold strings_Lines_1
  refine loop_g (fun (st : Unit) n L' => ∃ (k : Nat) (Pr : List (List UInt8)) (cur : List UInt8) (L : List It), n = cur.length ∧ cur.length ≤ s.length ∧ pieceL s = Pr ++ pieceL cur ∧ Pr.length = k ∧ I k L ∧ L' = L ++ [row b [strV cur] tStr]) H ⟨0, [], s, L0, rfl, Nat.le_refl _, rfl, rfl, h0, rfl⟩ ?_
  clear H
  rintro ⟨⟩ _ _ wx ⟨_, Pr, cur, L, rfl, hcl, hP, rfl, hI, rfl⟩ H A hA
  unfold strings_Lines_1_l1
  have H := own_comm (A := L) H
  simp only [List.cons_append, List.nil_append] at H
  refine ldS_o H .here (by rfl) ?_
  rw [size_bytes]
  refine cnd_i (fun hc => ?_) fun hc => ?_
  · have hc := of_decide_eq_true hc
    have hne : cur ≠ [] := by rintro rfl; simp at hc
    refine join_o ?_
    have hlt := rest_lt hne
    have hcons := pieceL_cons hne
    have fin : ∀ (p : ByteArray) wx, p = ⟨(lineOf cur ++ (restOf cur).take 1).toArray⟩ → X.Own w0 S0 (row b [strV ((restOf cur).drop 1)] tStr :: L) wx → strings_Lines_1_j0 (.func fn fa fc) Q A p wx := by
      rintro _ wx rfl H
      unfold strings_Lines_1_j0
      have H := own_comm (A := [row b [strV ((restOf cur).drop 1)] tStr]) (B := L) H
      have hx : ((pieceL s).map fun l => [strV l])[Pr.length]? = some [strV (lineOf cur ++ (restOf cur).take 1)] := by
        rw [hP, hcons, List.getElem?_map, List.getElem?_append_right (Nat.le_refl _), Nat.sub_self]; rfl
      refine callVal_mono (hstep Pr.length _ L [row b [strV ((restOf cur).drop 1)] tStr] wx hx hI H) ?_
      rintro _ w' ⟨bo, rfl, L', hL', H'⟩
      refine ⟨_, rfl, ?_⟩
      cases bo
      · exact cnd_i (fun _ => hstop _ _ hL' (own_left H')) (fun h => by cases h)
      · refine cnd_i (fun h => by cases h) fun _ => ?_
        exact hA () _ _ _ (by omega) ⟨Pr.length + 1, Pr ++ [lineOf cur ++ (restOf cur).take 1], _, L', rfl, by omega, by rw [hP, hcons]; simp, by simp, hL', rfl⟩ H'
    have hI1 := index_line cur
    have hlr := line_rest cur
    have hln : (lineOf cur).length + (restOf cur).length = cur.length := by rw [← List.length_append, hlr]
    refine ldS_o H .here (by rfl) ?_
    refine call_pa H (IndexByte_t cur) fun wx H => ?_
    refine ⟨_, rfl, ?_⟩
    rcases rest_cases cur with hr | ⟨r, hr⟩
    · rw [if_pos hr] at hI1
      rw [hI1]
      refine cnd_i (fun h => by cases h) fun _ => ?_
      refine ldS_o H .here (by rfl) ?_
      refine st1_a H fun wx H => ?_
      simp only [List.set_cons_zero] at H
      rw [hr] at fin hlr
      rw [List.append_nil] at hlr
      exact fin _ _ (by rw [hlr]; simp) H
    · rw [if_neg (by rw [hr]; simp)] at hI1
      rw [hI1]
      rw [hr] at fin hln hlr
      simp only [List.length_cons] at hln
      have e1 : IntKind.i64.wrap (((lineOf cur).length : Int) + 1) = (((lineOf cur).length + 1 : Nat) : Int) := by rw [W_id (by omega) (by omega)]; omega
      have et : cur.take ((lineOf cur).length + 1) = lineOf cur ++ [10] := by
        have : ∀ a, a ++ 10 :: r = cur → cur.take (a.length + 1) = a ++ [10] := by rintro a rfl; rw [List.take_append, List.take_of_length_le (by omega)]; simp
        exact this _ hlr
      have ed : cur.drop ((lineOf cur).length + 1) = r := by
        have : ∀ a, a ++ 10 :: r = cur → cur.drop (a.length + 1) = r := by rintro a rfl; rw [List.drop_append, List.drop_of_length_le (by omega)]; simp
        exact this _ hlr
      refine cnd_i (fun _ => ?_) fun h => absurd (of_decide_eq_false h) (by omega)
      refine drw_o H fun wx H => ?_
      refine ldS_o H .here (by rfl) ?_
      rw [e1]
      refine slS_take (by omega) ?_
      refine ldS_o H .here (by rfl) ?_
      refine slS_drop (by omega) ?_
      rw [et, ed]
      refine st1_a H fun wx H => ?_
      simp only [List.set_cons_zero] at H
      exact fin _ _ rfl H
  · have hc := of_decide_eq_false hc
    have hcn : cur = [] := List.eq_nil_of_length_eq_zero (by omega)
    subst hcn
    rw [pieceL_nil, List.append_nil] at hP
    refine hend L wx ?_ (own_left (own_comm (A := [row b [strV []] tStr]) (B := L) H))
    rw [List.length_map, hP]; exact hI
end Go.Proofs.YtbnadobjnmboiaaDoor
/-
  text: text.Lines gone through.
-/
namespace Go.Proofs.YtbnadobjnmboiaaDoor
open Go Go.RowKit X
set_option maxRecDepth 100000
set_option linter.unusedVariables false
set_option linter.unusedSimpArgs false
set_option maxHeartbeats 1000000
theorem lines_enters : enters P F.text_Lines_1 = true := by kernel_rfl
def linesV (b : Nat) : Value := .func (.func F.text_Lines_1) [].toArray [.pointer (some ⟨b, 0, none⟩)].toArray
def sayV (s : List UInt8) : List (List Value) := (sayL s).map fun x => [.int .i64 x.1, strV x.2]
theorem sayV_len (s : List UInt8) : ∀ x ∈ sayV s, x.length = 2 := by
  intro x hx
  obtain ⟨y, _, rfl⟩ := List.mem_map.1 hx
  rfl
theorem Lines_t (s : ByteArray) : Tri P F.text_Lines [.string s] [] fun v L' => ∃ b, v = linesV b ∧ L' = [row b [.string s] tStr] := by
  intro w S hS
  refine text_Lines_cv ?_
  unfold text_Lines
  have H := Own.start hS
  refine alc_o H fun b wx H => ?_
  exact ⟨_, ⟨b, rfl, rfl⟩, H⟩
theorem lines_it (b : Nat) (s : List UInt8) (hs : s.length ≤ 281474976710656) : IterF P F.text_Lines_1 [.pointer (some ⟨b, 0, none⟩)] [row b [strV s] tStr] (sayV s) := by
  intro y w0 S0 L0 w Q I D hy H h0 hstep hend hstop
  obtain ⟨fn, fa, fc, rfl⟩ := hy
  refine text_Lines_1_cv ?_
  unfold text_Lines_1
  dsimp only [oneK]
  refine alc_o H fun b3 wx H => alc_o H fun b5 wx H => ?_
  have H : X.Own w0 S0 ((row b5 [.int .i64 0] T.t3 :: row b3 [.func fn fa fc] T.t57 :: L0) ++ [row b [strV s] tStr]) wx := H
  have H := own_comm H
  simp only [List.cons_append, List.nil_append] at H
  refine st1_a H fun wx H => ?_
  simp only [List.set_cons_zero] at H
  refine ldS_o H .here (by rfl) ?_
  refine call_oa H (strLines_t ⟨s.toArray⟩) fun vx L' wx hq H => ?_
  obtain ⟨b2, rfl, rfl⟩ := hq
  simp only [List.cons_append, List.nil_append] at H
  refine ⟨_, rfl, ?_⟩
  have H : X.Own w0 S0 (row b2 [strV s] tStr :: row b [strV s] tStr :: row b5 [.int .i64 0] T.t3 :: row b3 [.func fn fa fc] T.t57 :: L0) wx := H
  have H := H.rest (L1 := [row b [strV s] tStr]) (.cons (.there .here) .nil)
  have H := own_comm (A := [row b2 [strV s] tStr]) H
  have hpl : (pieceL s).length ≤ s.length := pieceL_len _ _ (Nat.le_refl _)
  have hrl : (rawL s).length = (pieceL s).length := by unfold rawL; rw [List.length_map]
  refine rf_f (fun m L' => ∃ L, I (sayF 0 ((rawL s).take m)).length L ∧ L' = row b5 [.int .i64 (m : Int)] T.t3 :: row b3 [.func fn fa fc] T.t57 :: L) (fun c L' => c = .ret ∧ ∃ L F, D L ∧ L' = L ++ F) strLines_enters (strLines_it b2 s hs) (fun x hx => by obtain ⟨l, _, rfl⟩ := List.mem_map.1 hx; rfl) H ⟨L0, h0, rfl⟩ ?_ ?_ ?_
  · clear H
    rintro m x _ F l r d wx Q2 hx ⟨L, hI, rfl⟩ H hgo hdone
    rw [List.getElem?_map] at hx
    obtain ⟨p, hp, rfl⟩ := Option.map_eq_some_iff.1 hx
    have hml : m < (rawL s).length := by rw [hrl]; exact (List.getElem?_eq_some_iff.1 hp).1
    have hrm : (rawL s)[m]'hml = strip p := by
      have : (rawL s)[m]? = some (strip p) := by unfold rawL; rw [List.getElem?_map, hp]; rfl
      rw [List.getElem?_eq_getElem hml] at this
      exact Option.some.inj this
    have hnx := sayF_next (rawL s) m hml
    have hat := sayF_at (rawL s) m hml
    rw [hrm] at hnx hat
    have hpl2 : p.length ≤ 281474976710656 := by
      have h1 : p ∈ pieceL s := List.mem_of_getElem? hp
      have := pieceL_mem _ _ (Nat.le_refl _) p h1
      omega
    unfold text_Lines_1_r1
    dsimp only [X.b1]
    simp only [List.cons_append] at H
    refine ⟨_, rfl, rec_o H .here fun wx H => ?_⟩
    have e1 : IntKind.i64.wrap ((m : Int) + 1) = ((m + 1 : Nat) : Int) := by rw [W_id (by omega) (by omega)]; omega
    repeat (first | refine ldI_a H ?_ | refine ldL_a H ?_ | refine ldB_a H ?_ | refine ldP_a H ?_ | refine ldS_a H ?_)
    refine st1_a H fun wx H => ?_
    simp only [List.set_cons_zero] at H
    rw [e1] at H
    refine call_pa H (TrimSuffix_t p hpl2) fun wx H => ?_
    refine ⟨_, rfl, join_o ?_⟩
    rw [bytes_beq]
    have skip : says (strip p) = false → ∀ wx, X.Own w0 S0 (recI l r .busy none :: defI d :: row b5 [.int .i64 ((m + 1 : Nat) : Int)] T.t3 :: row b3 [.func fn fa fc] T.t57 :: (L ++ F)) wx → text_Lines_1_j0 l r Q2 false wx := by
      intro hs wx H
      unfold text_Lines_1_j0
      refine cnd_i (fun h => by cases h) fun _ => rec_o H .here fun wx H => ?_
      refine hgo (row b5 [.int .i64 ((m + 1 : Nat) : Int)] T.t3 :: row b3 [.func fn fa fc] T.t57 :: L) wx ⟨L, ?_, rfl⟩ H
      rw [hnx, if_neg (by rw [hs]; simp), List.append_nil]; exact hI
    generalize strip p = q at *
    cases q with
    | nil =>
      refine cnd_i (fun h => by cases h) fun _ => ?_
      exact skip rfl _ H
    | cons c q =>
      refine cnd_i (fun _ => ?_) (fun h => by cases h)
      refine sx_i (i := 0) (b := c) (by simp) ?_
      by_cases hc : c = 35
      · subst hc
        refine cnd_i (fun h => by cases h) fun _ => ?_
        exact skip rfl _ H
      · have hsay : says (c :: q) = true := by unfold says; simpa using hc
        refine cnd_i (fun _ => ?_) fun hh => ?_
        · refine ldV_o H (.there (.there (.there .here))) (by rfl) ?_
          repeat (first | refine ldI_a H ?_ | refine ldL_a H ?_ | refine ldB_a H ?_ | refine ldP_a H ?_ | refine ldS_a H ?_)
          have H : X.Own w0 S0 ([recI l r .busy none, defI d, row b5 [.int .i64 ((m + 1 : Nat) : Int)] T.t3, row b3 [.func fn fa fc] T.t57] ++ (L ++ F)) wx := H
          have H := own_comm H
          rw [List.append_assoc] at H
          refine callVal_mono (hstep (sayF 0 ((rawL s).take m)).length _ L _ wx ?_ hI H) ?_
          · unfold sayV sayL
            rw [List.getElem?_map, hat hsay]; rfl
          · rintro _ w' ⟨bo, rfl, L', hL', H'⟩
            refine ⟨_, rfl, ?_⟩
            rw [← List.append_assoc] at H'
            have H' := own_comm (A := L' ++ F) H'
            simp only [List.cons_append, List.nil_append] at H'
            cases bo with
            | true =>
              show text_Lines_1_j0 l r Q2 false w'
              unfold text_Lines_1_j0
              refine cnd_i (fun h => by cases h) fun _ => rec_o H' .here fun wx H => ?_
              refine hgo (row b5 [.int .i64 ((m + 1 : Nat) : Int)] T.t3 :: row b3 [.func fn fa fc] T.t57 :: L') wx ⟨L', ?_, rfl⟩ H
              rw [hnx, if_pos hsay, List.length_append]; exact hL'
            | false =>
              show text_Lines_1_j0 l r Q2 true w'
              unfold text_Lines_1_j0
              refine cnd_i (fun _ => rec_o H' .here fun wx H => ?_) (fun h => by cases h)
              refine hdone .ret (L' ++ [row b5 [.int .i64 ((m + 1 : Nat) : Int)] T.t3, row b3 [.func fn fa fc] T.t57]) wx ⟨rfl, L', _, hL', rfl⟩ ?_
              refine own_perm H (List.Perm.cons _ (List.Perm.cons _ ?_))
              exact List.Perm.append_right F (List.perm_append_comm (l₁ := [row b5 [.int .i64 ((m + 1 : Nat) : Int)] T.t3, row b3 [.func fn fa fc] T.t57]) (l₂ := L'))
        · have : ((c.toNat : Nat) : Int) = 35 := by simpa using hh
          exact absurd (UInt8.toNat_inj.1 (show c.toNat = (35 : UInt8).toNat by show c.toNat = 35; omega)) hc
  · rintro d _ wx ⟨L, hI, rfl⟩ H
    dsimp only [jmpX]
    refine take_o H .here fun wx H => ?_
    refine hend L wx ?_ (H.rest (L1 := [row b5 _ _, row b3 _ _]) (.cons .here (.cons .here .nil)))
    rw [List.length_map, ← hrl, List.take_length] at hI
    unfold sayV sayL
    rw [List.length_map]; exact hI
  · rintro d c _ wx ⟨rfl, L, F, hD, rfl⟩ H
    dsimp only [jmpX]
    refine take_o H .here fun wx H => ?_
    exact hstop L wx hD (own_left H)
end Go.Proofs.YtbnadobjnmboiaaDoor
/-
  text: a text read as a script.
-/
namespace Go.Proofs.YtbnadobjnmboiaaDoor
open Go Go.RowKit X
set_option maxRecDepth 100000
set_option linter.unusedVariables false
set_option linter.unusedSimpArgs false
set_option maxHeartbeats 1000000
abbrev tSteps : TypeId := T.t31
theorem appSteps : appB P tSteps tStep 13 104 = true := by kernel_rfl
def flatS (xs : List St) : List Value := (xs.map St.cells).flatten
theorem flatS_append (a b : List St) : flatS (a ++ b) = flatS a ++ flatS b := by simp [flatS]
theorem cells_one (s : St) : ∀ u ∈ s.cells, u.oneCell' = true := by
  intro u hu
  simp only [St.cells, List.mem_cons, List.not_mem_nil, or_false] at hu
  rcases hu with rfl | rfl | rfl | rfl | rfl | rfl | rfl | rfl | rfl | rfl | rfl | rfl | rfl <;> rfl
theorem flatS_length : ∀ cs : List St, (flatS cs).length = cs.length * 13
  | [] => rfl
  | c :: cs => by
    have := flatS_length cs
    unfold flatS at *
    rw [List.map_cons, List.flatten_cons, List.length_append, this, List.length_cons]
    show 13 + cs.length * 13 = _
    omega
theorem flat_get {α : Type} {f : α → List Value} {n : Nat} (hf : ∀ x, (f x).length = n) {c : α} {j : Nat} {v : Value} (hv : (f c)[j]? = some v) : ∀ (cs : List α) (k : Nat), cs[k]? = some c → (cs.map f).flatten[k * n + j]? = some v := by
  intro cs
  have hj : j < n := by have := (List.getElem?_eq_some_iff.1 hv).1; rw [hf] at this; exact this
  induction cs with
  | nil => intro k h; simp at h
  | cons c0 cs ih =>
    intro k h
    rw [List.map_cons, List.flatten_cons]
    cases k with
    | zero =>
      rw [List.getElem?_cons_zero] at h
      cases h
      rw [Nat.zero_mul, Nat.zero_add, List.getElem?_append_left (by rw [hf]; exact hj)]
      exact hv
    | succ k =>
      rw [List.getElem?_cons_succ] at h
      rw [List.getElem?_append_right (by rw [hf, Nat.add_mul]; omega), hf, Nat.add_mul]
      have := ih k h
      rw [show k * n + 1 * n + j - n = k * n + j by omega]
      exact this
theorem flatS_get {cs : List St} {k j : Nat} {c : St} {v : Value} (h : cs[k]? = some c) (hv : c.cells[j]? = some v) : (flatS cs)[k * 13 + j]? = some v := flat_get (f := St.cells) (n := 13) (fun _ => rfl) hv cs k h
abbrev ownS (p : Option Addr) (c : Nat) (xs : List St) : It := own tStep 13 (.slice p xs.length c) xs.length (flatS xs)
/-- the first m lines are these steps' -/
def Reads (s : List UInt8) (xs : List St) : Prop := ∀ (k : Nat) (t : St), xs[k]? = some t → ∃ x : Nat × List UInt8, (sayL s)[k]? = some x ∧ t.Fit ∧ IsL ⟨x.2.toArray⟩ t
def ScriptEnd (s : List UInt8) (xs : List St) (n e : Int) : Prop :=
  (e = 0 ∧ n = 0 ∧ xs.length = (sayL s).length ∧ Reads s xs) ∨
  (e = 290 ∧ xs = [] ∧ ∃ ys x, Reads s ys ∧ (sayL s)[ys.length]? = some x ∧ n = ((x.1 : Nat) : Int) ∧ ∀ t, t.Fit → ¬ IsL ⟨x.2.toArray⟩ t)
theorem reads_nil (s : List UInt8) : Reads s [] := fun k t h => by simp at h
theorem reads_snoc {s : List UInt8} {xs : List St} {d : St} {x : Nat × List UInt8} (h : Reads s xs) (hx : (sayL s)[xs.length]? = some x) (hd : d.Fit) (hi : IsL ⟨x.2.toArray⟩ d) : Reads s (xs ++ [d]) := by
  intro k t hk
  by_cases hlt : k < xs.length
  · rw [List.getElem?_append_left hlt] at hk
    exact h k t hk
  · have hl := (List.getElem?_eq_some_iff.1 hk).1
    rw [List.length_append, List.length_cons, List.length_nil] at hl
    have : k = xs.length := by omega
    subst this
    rw [List.getElem?_append_right (Nat.le_refl _), Nat.sub_self] at hk
    cases hk
    exact ⟨x, hx, hd, hi⟩
theorem Script_t {W : World} (hL : LibAt W) (s : List UInt8) (hs : s.length ≤ 281474976710656) (hl : ∀ x ∈ sayL s, x.2.length < 4294967281) (hn : (sayL s).length * 104 ≤ 140737488355328) :
    Tri P F.text_Script [strV s] [keep W] fun v L' => ∃ (xs : List St) (p : Option Addr) (c : Nat) (n e : Int), v = .tuple [.slice p xs.length c, .int .i64 n, .int .i64 e].toArray ∧ ScriptEnd s xs n e ∧ L' = [ownS p c xs, keep W] := by
  intro w S hS
  refine text_Script_cv ?_
  unfold text_Script
  have H := Own.start hS
  refine alc_o H fun b2 wx H => alc_o H fun b4 wx H => alc_o H fun b6 wx H => alc_o H fun b8 wx H => ?_
  refine call_oa H (Lines_t ⟨s.toArray⟩) fun vx L' wx hq H => ?_
  obtain ⟨bL, rfl, rfl⟩ := hq
  simp only [List.cons_append, List.nil_append] at H
  refine ⟨_, rfl, ?_⟩
  have H := own_nil (e := tStep) (size := 13) H
  have H := H.drop (L1 := [row b8 [.slice none 0 0] tSteps, ownS none 0 [], row b2 [.slice none 0 0] tSteps, row b4 [.int .i64 0] T.t3, row b6 [.int .i64 0] T.t32, keep W] ++ [row bL [strV s] tStr]) (by simp only [List.cons_append, List.nil_append]; exact (by repeat (first | exact Cut.nil | (apply Cut.cons; (repeat (first | exact Pick.here | apply Pick.there))))))
  refine rf_f (fun m L' => ∃ (xs : List St) (p : Option Addr) (c : Nat), xs.length = m ∧ Reads s xs ∧ L' = [row b8 [.slice p xs.length c] tSteps, ownS p c xs, row b2 [.slice none 0 0] tSteps, row b4 [.int .i64 0] T.t3, row b6 [.int .i64 0] T.t32, keep W])
    (fun c L' => c = .ret ∧ ∃ (ys : List St) (x : Nat × List UInt8) (F : List It), Reads s ys ∧ (sayL s)[ys.length]? = some x ∧ (∀ t, t.Fit → ¬ IsL ⟨x.2.toArray⟩ t) ∧ L' = [row b2 [.slice none 0 0] tSteps, row b4 [.int .i64 ((x.1 : Nat) : Int)] T.t3, row b6 [.int .i64 290] T.t32, keep W] ++ F)
    lines_enters (lines_it bL s hs) (sayV_len s) H ⟨[], none, 0, rfl, reads_nil s, rfl⟩ ?_ ?_ ?_
  · clear H
    rintro m x _ F l r d wx Q2 hx ⟨xs, p, c, rfl, hR, rfl⟩ H hgo hdone
    unfold sayV at hx
    rw [List.getElem?_map] at hx
    obtain ⟨y, hy, rfl⟩ := Option.map_eq_some_iff.1 hx
    have hml := (List.getElem?_eq_some_iff.1 hy).1
    have hyl := hl y (List.mem_of_getElem? hy)
    unfold text_Script_r0
    dsimp only [X.b2]
    simp only [List.cons_append, List.nil_append] at H
    refine ⟨_, rfl, _, rfl, rec_o H .here fun wx H => ?_⟩
    refine call_oa H (Parse_t hL ⟨y.2.toArray⟩ (by rw [size_bytes]; exact hyl)) fun vx L' wx hq H => ?_
    obtain ⟨⟨d', e, rfl, hend⟩, rfl⟩ := hq
    simp only [List.cons_append, List.nil_append] at H
    refine ⟨_, _, _, _, _, _, _, _, _, _, _, _, _, _, rfl, alc_o H fun b39 wx H => ?_⟩
    refine st1_a H fun wx H => ?_
    refine st1_a H fun wx H => ?_
    refine st1_a H fun wx H => ?_
    refine st1_a H fun wx H => ?_
    refine st1_a H fun wx H => ?_
    refine st1_a H fun wx H => ?_
    refine st1_a H fun wx H => ?_
    refine st1_a H fun wx H => ?_
    refine st1_a H fun wx H => ?_
    refine st1_a H fun wx H => ?_
    refine st1_a H fun wx H => ?_
    refine st1_a H fun wx H => ?_
    refine st1_a H fun wx H => ?_
    simp only [List.set_cons_zero, List.set_cons_succ] at H
    rcases hend with ⟨rfl, hdf, hdi⟩ | ⟨rfl, -, hno⟩
    · refine cnd_i (fun h => by cases h) fun _ => ?_
      repeat (first | refine ldI_a H ?_ | refine ldL_a H ?_ | refine ldB_a H ?_ | refine ldP_a H ?_ | refine ldS_a H ?_)
      refine alc_o H fun b74 wx H => ?_
      have hrow := H.row (b := b74) (by repeat (first | exact Pick.here | apply Pick.there))
      refine app_o appSteps (by omega) H (e := tStep) (size := 13) (p := p) (n := xs.length) (c := c) (xs := flatS xs) (by repeat (first | exact Pick.here | apply Pick.there)) (q := some ⟨b74, 0, none⟩) (m := 1) (news := d'.cells) (fun j u hj => ⟨_, rfl, ?_⟩) rfl (cells_one d') (by unfold maxLen; omega) (by omega) fun p' c' wx H => ?_
      · rw [add_lit, Nat.zero_add, hrow.cell]; exact hj
      have e1 : xs.length + 1 = (xs ++ [d']).length := by simp
      have e2 : flatS xs ++ d'.cells = flatS (xs ++ [d']) := by rw [flatS_append]; simp [flatS]
      rw [e1, e2] at H
      refine st1_a H fun wx H => ?_
      simp only [List.set_cons_zero] at H
      rw [e1] at H
      refine rec_o H (by repeat (first | exact Rep.here | apply Rep.there)) fun wx H => ?_
      have H := H.rest (L1 := [row b39 _ _, row b74 _ _]) (by repeat (first | exact Cut.nil | (apply Cut.cons; (repeat (first | exact Pick.here | apply Pick.there)))))
      refine hgo [row b8 [.slice p' (xs ++ [d']).length c'] tSteps, ownS p' c' (xs ++ [d']), row b2 [.slice none 0 0] tSteps, row b4 [.int .i64 0] T.t3, row b6 [.int .i64 0] T.t32, keep W] wx ⟨xs ++ [d'], p', c', by simp, reads_snoc hR hy hdf hdi, rfl⟩ ?_
      exact H.perm (L1 := [recI l r .ready none, defI d, row b8 [.slice p' (xs ++ [d']).length c'] tSteps, ownS p' c' (xs ++ [d']), row b2 [.slice none 0 0] tSteps, row b4 [.int .i64 0] T.t3, row b6 [.int .i64 0] T.t32, keep W]) (by repeat (first | exact Cut.nil | (apply Cut.cons; (repeat (first | exact Pick.here | apply Pick.there)))))
    · refine cnd_i (fun _ => ?_) (fun h => by cases h)
      refine st1_a H fun wx H => ?_
      refine st1_a H fun wx H => ?_
      refine st1_a H fun wx H => ?_
      simp only [List.set_cons_zero] at H
      refine rec_o H (by repeat (first | exact Rep.here | apply Rep.there)) fun wx H => ?_
      have H := H.rest (L1 := [row b39 _ _]) (by repeat (first | exact Cut.nil | (apply Cut.cons; (repeat (first | exact Pick.here | apply Pick.there)))))
      refine hdone .ret ([row b2 [.slice none 0 0] tSteps, row b4 [.int .i64 ((y.1 : Nat) : Int)] T.t3, row b6 [.int .i64 290] T.t32, keep W] ++ [row b8 [.slice p xs.length c] tSteps, ownS p c xs]) wx ⟨rfl, xs, y, _, hR, hy, hno, rfl⟩ ?_
      exact H.perm (L1 := [recI l r .done (some .ret), defI d, row b2 [.slice none 0 0] tSteps, row b4 [.int .i64 ((y.1 : Nat) : Int)] T.t3, row b6 [.int .i64 290] T.t32, keep W, row b8 [.slice p xs.length c] tSteps, ownS p c xs]) (by repeat (first | exact Cut.nil | (apply Cut.cons; (repeat (first | exact Pick.here | apply Pick.there)))))
  · rintro d _ wx ⟨xs, p, c, hlen, hR, rfl⟩ H
    dsimp only [jmpX]
    unfold sayV at hlen
    rw [List.length_map] at hlen
    repeat (first | refine ldI_a H ?_ | refine ldL_a H ?_ | refine ldB_a H ?_ | refine ldP_a H ?_ | refine ldS_a H ?_)
    refine st1_a H fun wx H => ?_
    refine st1_a H fun wx H => ?_
    refine st1_a H fun wx H => ?_
    simp only [List.set_cons_zero] at H
    refine take_o H (by repeat (first | exact Pick.here | apply Pick.there)) fun wx H => ?_
    repeat (first | refine ldI_a H ?_ | refine ldL_a H ?_ | refine ldB_a H ?_ | refine ldP_a H ?_ | refine ldS_a H ?_)
    exact ⟨_, ⟨xs, p, c, 0, 0, rfl, .inl ⟨rfl, rfl, hlen, hR⟩, rfl⟩, H.dp⟩
  · rintro d c _ wx ⟨rfl, ys, x, F, hR, hx, hno, rfl⟩ H
    dsimp only [jmpX]
    refine take_o H .here fun wx H => ?_
    simp only [List.cons_append, List.nil_append] at H
    repeat (first | refine ldI_a H ?_ | refine ldL_a H ?_ | refine ldB_a H ?_ | refine ldP_a H ?_ | refine ldS_a H ?_)
    have H := own_nil (e := tStep) (size := 13) H
    exact ⟨_, ⟨[], none, 0, _, 290, rfl, .inr ⟨rfl, rfl, ys, x, hR, hx, rfl, hno⟩, rfl⟩, H.dp⟩
end Go.Proofs.YtbnadobjnmboiaaDoor
/-
  text: a builder of strings, written to and read.
-/
namespace Go.Proofs.YtbnadobjnmboiaaDoor
open Go Go.RowKit X
set_option maxRecDepth 100000
set_option linter.unusedVariables false
set_option linter.unusedSimpArgs false
set_option maxHeartbeats 1000000
abbrev tBld : TypeId := T.t83
abbrev bldR (b : Nat) (q p : Option Addr) (c : Nat) (l : List UInt8) : It := row b [.pointer q, .slice p l.length c] tBld
abbrev bldO (p : Option Addr) (c : Nat) (l : List UInt8) : It := own tByte 1 (.slice p l.length c) l.length (Lib.byteCells l)
theorem str_cells (s : ByteArray) : Lib.strCells s = Lib.byteCells s.data.toList := by
  unfold Lib.strCells Lib.byteCells
  rfl
theorem byte_app (l m : List UInt8) : Lib.byteCells l ++ Lib.byteCells m = Lib.byteCells (l ++ m) := by
  unfold Lib.byteCells; simp
theorem copyCheck_t {b : Nat} {q : Option Addr} (hq : q = none ∨ q = some ⟨b, 0, none⟩) (v : Value) : Tri P F.strings_Builder_copyCheck [.pointer (some ⟨b, 0, none⟩)] [row b [.pointer q, v] tBld] fun r L' => r = .tuple [].toArray ∧ L' = [row b [.pointer (some ⟨b, 0, none⟩), v] tBld] := by
  intro w S hS
  have H := Own.start hS
  have hr := H.row (b := b) .here
  rcases hq with rfl | rfl
  · refine (callsIn_wide.2 (Any.Builder_copyCheck_fresh { Tryd.lays156 with } Tryd.Builder_Extra_156.toX72 b w (by rw [hr.cell]; rfl) (by unfold Row at hr; simp [World.shape?, hr]; rfl) (hr.frozen 0))).mono fun e w' hh => ?_
    obtain ⟨rfl, rfl⟩ := hh
    exact ⟨_, rfl, _, ⟨rfl, rfl⟩, (st1_o (v := .pointer (some ⟨b, 0, none⟩)) (i := 0) (L2 := [row b [.pointer (some ⟨b, 0, none⟩), v] tBld]) (K := fun w' => X.Own w S [row b [.pointer (some ⟨b, 0, none⟩), v] tBld] w') H .here (by simp) (fun w' h => h)).2.2⟩
  · refine (callsIn_wide.2 (Any.Builder_copyCheck_used { Tryd.lays156 with } Tryd.Builder_Extra_156.toX72 b w (by rw [hr.cell]; rfl))).mono fun e w' hh => ?_
    obtain ⟨rfl, rfl⟩ := hh
    exact ⟨_, rfl, _, ⟨rfl, rfl⟩, H⟩
theorem WriteString_t {b : Nat} {q : Option Addr} (hq : q = none ∨ q = some ⟨b, 0, none⟩) (p : Option Addr) (c : Nat) (l : List UInt8) (s : ByteArray) (hn : l.length + s.size ≤ 225179981368000) :
    Tri P F.strings_Builder_WriteString [.pointer (some ⟨b, 0, none⟩), .string s] [bldR b q p c l, bldO p c l] fun r L' => r = .tuple [.int .i64 s.size, .nilIface].toArray ∧ ∃ p' c', L' = [bldR b (some ⟨b, 0, none⟩) p' c' (l ++ s.data.toList), bldO p' c' (l ++ s.data.toList)] := by
  intro w S hS
  refine strings_Builder_WriteString_cv ?_
  unfold strings_Builder_WriteString
  have H := Own.start hS
  refine call_oa H (copyCheck_t hq (.slice p l.length c)) fun vx L' wx hq H => ?_
  obtain ⟨rfl, rfl⟩ := hq
  simp only [List.cons_append, List.nil_append] at H
  refine ⟨rfl, ?_⟩
  dsimp only [nn]
  rw [add_lit, Nat.zero_add]
  repeat (first | refine ldI_a H ?_ | refine ldL_a H ?_ | refine ldB_a H ?_ | refine ldP_a H ?_ | refine ldS_a H ?_)
  refine appS_w (e := tByte) appBytes zeroByte Tryd.underlying9 H (by repeat (first | exact Pick.here | apply Pick.there)) s hn fun p' c' wx H => ?_
  refine st1_a H fun wx H => ?_
  simp only [List.set_cons_zero, List.set_cons_succ] at H
  have e1 : l.length + s.size = (l ++ s.data.toList).length := by rw [List.length_append]; rfl
  rw [str_cells, byte_app, e1] at H
  exact ⟨_, ⟨rfl, p', c', rfl⟩, H.dp⟩
theorem WriteByte_t {b : Nat} {q : Option Addr} (hq : q = none ∨ q = some ⟨b, 0, none⟩) (p : Option Addr) (c : Nat) (l : List UInt8) (x : UInt8) (hn : l.length + 1 ≤ 225179981368000) :
    Tri P F.strings_Builder_WriteByte [.pointer (some ⟨b, 0, none⟩), .int .u8 ((x.toNat : Nat) : Int)] [bldR b q p c l, bldO p c l] fun r L' => r = .nilIface ∧ ∃ p' c', L' = [bldR b (some ⟨b, 0, none⟩) p' c' (l ++ [x]), bldO p' c' (l ++ [x])] := by
  intro w S hS
  refine strings_Builder_WriteByte_cv ?_
  unfold strings_Builder_WriteByte
  have H := Own.start hS
  refine call_oa H (copyCheck_t hq (.slice p l.length c)) fun vx L' wx hq H => ?_
  obtain ⟨rfl, rfl⟩ := hq
  simp only [List.cons_append, List.nil_append] at H
  refine ⟨rfl, ?_⟩
  dsimp only [nn]
  rw [add_lit, Nat.zero_add]
  repeat (first | refine ldI_a H ?_ | refine ldL_a H ?_ | refine ldB_a H ?_ | refine ldP_a H ?_ | refine ldS_a H ?_)
  refine alc_o H fun b9 wx H => ?_
  have hrow := H.row (b := b9) (by repeat (first | exact Pick.here | apply Pick.there))
  refine app1_w (e := tByte) appBytes H (by repeat (first | exact Pick.here | apply Pick.there)) (a := ⟨b9, 0, none⟩) (v := .int .u8 ((x.toNat : Nat) : Int)) (by rw [hrow.cell]; rfl) rfl hn fun p' c' wx H => ?_
  refine st1_a H fun wx H => ?_
  simp only [List.set_cons_zero, List.set_cons_succ] at H
  have e1 : l.length + 1 = (l ++ [x]).length := by simp
  have e2 : Lib.byteCells l ++ [.int .u8 ((x.toNat : Nat) : Int)] = Lib.byteCells (l ++ [x]) := by rw [← byte_app]; rfl
  rw [e2, e1] at H
  exact ⟨_, ⟨rfl, p', c', rfl⟩, H.dp⟩
/-- a builder above a world that is kept -/
theorem bld_is {w0 wx : World} {S0 : Nat → Prop} {b : Nat} {q p : Option Addr} {c : Nat} {l : List UInt8} (hq : q = none ∨ q = some ⟨b, 0, none⟩) (H : X.Own w0 S0 [bldR b q p c l, bldO p c l, keep w0] wx) : Lib.IsBuilder T.t83 5 w0.heap.size b (Lib.byteCells l) wx := by
  obtain ⟨S, ⟨S1, S2, ⟨h1, h2⟩, ⟨S3, S4, ⟨h3, h4⟩, ⟨S5, S6, ⟨h5, h6, h7⟩, h8, h9, h10⟩, h11, h12⟩, h13, h14⟩, -⟩ := H
  have hb : w0.heap.size ≤ b := Nat.le_of_not_lt fun hlt => h13 b ((h2 b).2 rfl) ((h12 b).2 (.inr ((h10 b).2 (.inl ((h5 b).2 hlt)))))
  have hlen : (Lib.byteCells l).length = l.length := by unfold Lib.byteCells; simp
  have hO : wx.ownsRow w0.heap.size 5 1 (.slice p l.length c) (Lib.byteCells l).length (Lib.byteCells l) := by
    rw [hlen]
    refine ⟨h3.1, ?_⟩
    rcases h3.2 with h | ⟨g, cap, cur, e1, e2, e3⟩
    · exact .inl h
    · refine .inr ⟨g, cap, cur, e1, Nat.le_of_not_lt fun hlt => ?_, e3⟩
      exact h11 g ((h4 g).2 (by rw [e1]; rfl)) ((h10 g).2 (.inl ((h5 g).2 hlt)))
  have hne : (Value.slice p l.length c).ownBlock ≠ some b := fun e => h13 b ((h2 b).2 rfl) ((h12 b).2 (.inl ((h4 b).2 e)))
  have hat : Lib.BuilderAt T.t83 5 w0.heap.size b (.pointer q) (Lib.byteCells l) wx := ⟨hb, _, h1, hO, hne⟩
  rcases hq with rfl | rfl
  · exact .inl hat
  · exact .inr hat
theorem String_cv {w0 wx : World} {S0 : Nat → Prop} {b : Nat} {q p : Option Addr} {c : Nat} {l : List UInt8} (hq : q = none ∨ q = some ⟨b, 0, none⟩) (H : X.Own w0 S0 [bldR b q p c l, bldO p c l, keep w0] wx) :
    CV P F.strings_Builder_String [.pointer (some ⟨b, 0, none⟩)] wx fun v w' => v = strV l ∧ Below w0.heap.size w0 w' := by
  have hk := keep_done H (.there (.there .here))
  refine (callsIn_wide.2 (Any.Builder_String_any Tryd.layB169 Tryd.Builder_Extra_156 w0.heap.size b l wx (bld_is hq H) hk.size)).mono fun e w' hh => ?_
  obtain ⟨rfl, hB⟩ := hh
  exact ⟨_, rfl, rfl, hk.trans hB⟩
end Go.Proofs.YtbnadobjnmboiaaDoor
/-
  text: a script's text.
-/
namespace Go.Proofs.YtbnadobjnmboiaaDoor
open Go Go.RowKit X
set_option maxRecDepth 100000
set_option linter.unusedVariables false
set_option linter.unusedSimpArgs false
set_option maxHeartbeats 1000000
def lineM (s : St) : Option (List UInt8) := (findM ⟨#[]⟩ s.kind).map (printL s)
theorem lineM_none {s : St} (h : findM ⟨#[]⟩ s.kind = none) : lineM s = none := by unfold lineM; rw [h]; rfl
theorem lineM_some {s : St} {k : Nat} (h : findM ⟨#[]⟩ s.kind = some k) : lineM s = some (printL s k) := by unfold lineM; rw [h]; rfl
theorem printV_eq (s : St) : printV s = match lineM s with
  | some l => .tuple [strV l, .int .i64 0].toArray
  | none => .tuple [.string ⟨#[]⟩, .int .i64 280].toArray := by
  unfold printV lineM
  cases findM ⟨#[]⟩ s.kind <;> rfl
def textL (xs : List St) : List UInt8 := (xs.map fun s => (lineM s).getD [] ++ [10]).flatten
theorem textL_next (xs : List St) (j : Nat) (hj : j < xs.length) : textL (xs.take (j + 1)) = textL (xs.take j) ++ (lineM xs[j]).getD [] ++ [10] := by
  unfold textL
  rw [List.take_succ_eq_append_getElem hj, List.map_append, List.flatten_append]
  simp
theorem line_len {s : St} (hs : s.Fit) : ((lineM s).getD []).length ≤ 117 := by
  unfold lineM
  cases h : findM ⟨#[]⟩ s.kind with
  | none => exact Nat.zero_le _
  | some k =>
    have h1 := joinJ_len hs k _ (Nat.le_refl _)
    have h2 := fldW_len k
    show (printL s k).length ≤ 117
    have : printL s k = joinJ s k (fldW k).data.toList.length := rfl
    rw [this]; omega
theorem textL_len : ∀ {xs : List St}, (∀ x ∈ xs, x.Fit) → (textL xs).length ≤ xs.length * 118
  | [], _ => Nat.zero_le _
  | x :: xs, h => by
    have ih := textL_len (xs := xs) fun y hy => h y (by simp [hy])
    have h1 := line_len (h x (by simp))
    unfold textL at *
    rw [List.map_cons, List.flatten_cons, List.length_append, List.length_append, List.length_cons]
    simp only [List.length_cons, List.length_nil]
    omega
def allLines (xs : List St) : Bool := xs.all fun s => (lineM s).isSome
theorem allLines_iff {xs : List St} : allLines xs = true ↔ ∀ x ∈ xs, lineM x ≠ none := by
  unfold allLines
  rw [List.all_eq_true]
  constructor
  · intro h x hx e
    have := h x hx
    rw [e] at this; cases this
  · intro h x hx
    cases e : lineM x with
    | none => exact absurd e (h x hx)
    | some l => rfl
def textV (xs : List St) : Value := if allLines xs then .tuple [strV (textL xs), .int .i64 0].toArray else .tuple [.string ⟨#[]⟩, .int .i64 280].toArray
theorem Text_cv {w0 : World} (hT : PowAt w0) {p : Option Addr} {c : Nat} {xs : List St} (hx : Slots w0 p 13 (xs.map St.cells)) (hf : ∀ x ∈ xs, x.Fit) (hn : xs.length * 104 ≤ 140737488355328) :
    CV P F.text_Text [.slice p xs.length c] w0 fun v w' => v = textV xs ∧ Below w0.heap.size w0 w' := by
  refine text_Text_cv ?_
  unfold text_Text
  have H := keep_start w0
  refine alc_o H fun b4 wx H => ?_
  have H := own_nil (e := tByte) (size := 1) H
  refine loop_o (fun (st : Int) L => ∃ (j : Nat) (q p' : Option Addr) (c' : Nat), j ≤ xs.length ∧ (j : Int) = st ∧ (q = none ∨ q = some ⟨b4, 0, none⟩) ∧ (∀ x ∈ xs.take j, lineM x ≠ none) ∧ L = [bldR b4 q p' c' (textL (xs.take j)), bldO p' c' (textL (xs.take j)), keep w0])
    (fun (st : Int) => (xs.length - st : Int).toNat) (H.drop (L1 := [bldR b4 none none 0 [], bldO none 0 [], keep w0]) (by repeat (first | exact Cut.nil | (apply Cut.cons; (repeat (first | exact Pick.here | apply Pick.there)))))) ⟨0, none, none, 0, by omega, rfl, .inl rfl, fun x hx => by simp at hx, rfl⟩ ?_
  clear H
  rintro _ _ wx ⟨j, q, p', c', hj, rfl, hq, hall, rfl⟩ H
  unfold text_Text_l0
  have hlen := textL_len (xs := xs.take j) fun x hx => hf x (List.mem_of_mem_take hx)
  rw [List.length_take, Nat.min_eq_left hj] at hlen
  refine cnd_i (fun hc => ?_) fun hc => ?_
  · have hc := of_decide_eq_true hc
    have hjj : j < xs.length := by omega
    have hxj : xs[j]? = some xs[j] := List.getElem?_eq_getElem hjj
    have hfj := hf _ (List.getElem_mem hjj)
    have hnx := textL_next xs j hjj
    have hll := line_len hfj
    refine ix_i hjj ?_
    obtain ⟨a1, rfl, e0, ee⟩ := slot_cells (Own.rdS H (i := keep w0) (by repeat (first | exact Pick.here | apply Pick.there)) (keep_slots hx)) hxj
    dsimp only [nn]
    refine ⟨_, e0 _ rfl, ⟨_, ee 1 _ rfl, ⟨_, ee 2 _ rfl, ⟨_, ee 3 _ rfl, ⟨_, ee 4 _ rfl, ⟨_, ee 5 _ rfl, ⟨_, ee 6 _ rfl, ⟨_, ee 7 _ rfl, ⟨_, ee 8 _ rfl, ⟨_, ee 9 _ rfl, ⟨_, ee 10 _ rfl, ⟨_, ee 11 _ rfl, ⟨_, ee 12 _ rfl, ?_⟩⟩⟩⟩⟩⟩⟩⟩⟩⟩⟩⟩⟩
    have htk : ∀ x ∈ xs.take (j + 1), x = xs[j] ∨ x ∈ xs.take j := by
      intro x hx
      rw [List.take_succ_eq_append_getElem hjj] at hx
      rcases List.mem_append.1 hx with h | h
      · exact .inr h
      · exact .inl (by simpa using h)
    have hmem : xs[j] ∈ xs := List.getElem_mem hjj
    clear e0 ee hx
    generalize xs[j] = s at *
    refine alc_o H fun b25 wx H => ?_
    refine st1_a H fun wx H => ?_
    refine st1_a H fun wx H => ?_
    refine st1_a H fun wx H => ?_
    refine st1_a H fun wx H => ?_
    refine st1_a H fun wx H => ?_
    refine st1_a H fun wx H => ?_
    refine st1_a H fun wx H => ?_
    refine st1_a H fun wx H => ?_
    refine st1_a H fun wx H => ?_
    refine st1_a H fun wx H => ?_
    refine st1_a H fun wx H => ?_
    refine st1_a H fun wx H => ?_
    refine st1_a H fun wx H => ?_
    simp only [List.set_cons_zero, List.set_cons_succ] at H
    repeat (first | refine ldI_a H ?_ | refine ldL_a H ?_ | refine ldB_a H ?_ | refine ldP_a H ?_ | refine ldS_a H ?_)
    refine call_pa H (Print_t hT s hfj) fun wx H => ?_
    rw [printV_eq]
    cases hl : lineM s with
    | none =>
      refine ⟨_, _, rfl, cnd_i (fun _ => ?_) (fun h => by cases h)⟩
      refine ⟨?_, keep_done H (by repeat (first | exact Pick.here | apply Pick.there))⟩
      unfold textV
      rw [if_neg fun h => allLines_iff.1 h s hmem hl]
    | some l =>
      refine ⟨_, _, rfl, cnd_i (fun h => by cases h) fun _ => ?_⟩
      rw [hl] at hnx hll
      simp only [Option.getD_some] at hnx hll
      have z1 : (⟨l.toArray⟩ : ByteArray).size = l.length := size_bytes l
      refine call_oa H (WriteString_t hq p' c' (textL (xs.take j)) ⟨l.toArray⟩ (by rw [z1]; omega)) fun vx L' wx hq H => ?_
      obtain ⟨rfl, p2, c2, rfl⟩ := hq
      simp only [List.cons_append, List.nil_append] at H
      refine ⟨_, _, rfl, ?_⟩
      refine call_oa H (WriteByte_t (.inr rfl) p2 c2 (textL (xs.take j) ++ l) 10 (by rw [List.length_append]; omega)) fun vx L' wx hq H => ?_
      obtain ⟨rfl, p3, c3, rfl⟩ := hq
      simp only [List.cons_append, List.nil_append] at H
      refine ⟨_, rfl, ?_⟩
      rw [show textL (xs.take j) ++ (⟨l.toArray⟩ : ByteArray).data.toList ++ [10] = textL (xs.take (j + 1)) from by rw [hnx]] at H
      rw [W_id (by omega) (by omega)]
      refine ⟨⟨_, ⟨j + 1, some ⟨b4, 0, none⟩, p3, c3, by omega, by push_cast; rfl, .inr rfl, fun x hx => ?_, rfl⟩, H.dp⟩, by omega⟩
      rcases htk x hx with rfl | h
      · rw [hl]; simp
      · exact hall x h
  · have hc := of_decide_eq_false hc
    obtain rfl : j = xs.length := by omega
    rw [List.take_length] at H hall
    refine (String_cv hq H).mono fun v w' hh => ?_
    obtain ⟨rfl, hB⟩ := hh
    refine ⟨_, rfl, ?_, hB⟩
    unfold textV
    rw [if_pos (allLines_iff.2 hall)]
    rfl
theorem Text_t {W : World} (hT : PowAt W) (i : It) {p : Option Addr} {c : Nat} {xs : List St} (hi : ∀ w S, i.h w S → Slots w p 13 (xs.map St.cells)) (hf : ∀ x ∈ xs, x.Fit) (hn : xs.length * 104 ≤ 140737488355328) :
    Tri P F.text_Text [.slice p xs.length c] [i, keep W] fun v L' => v = textV xs ∧ L' = [i, keep W] := by
  refine Tri.of_pure fun w S hS => ?_
  have H := Own.start hS
  obtain ⟨S1, h1, -⟩ := H.pick (i := keep W) (.there .here)
  exact Text_cv (hT.keep h1) (Own.rdS H .here hi) hf hn
end Go.Proofs.YtbnadobjnmboiaaDoor
/-
  text: two steps compared; a line is one step's alone.
-/
namespace Go.Proofs.YtbnadobjnmboiaaDoor
open Go Go.RowKit X
set_option maxRecDepth 100000
set_option linter.unusedVariables false
set_option linter.unusedSimpArgs false
set_option maxHeartbeats 1000000
theorem st_fields (c d : St) (w : World) : (Op.eqFields 9999 c.cells.toArray d.cells.toArray (P.fieldsOf tStep).toList).run P w = .ok (decide (c = d)) w := by
  obtain ⟨c0, c1, c2, c3, c4, c5, c6, c7, c8, c9, c10, c11, c12⟩ := c
  obtain ⟨d0, d1, d2, d3, d4, d5, d6, d7, d8, d9, d10, d11, d12⟩ := d
  simp only [Program.fieldsOf, Tryd.underlying40, St.cells, tStep]
  have u3 := Tryd.underlying3
  have a3 := Tryd.isAgg3
  have z3 := Tryd.sizeOf3
  have u4 := Tryd.underlying4
  have a4 := Tryd.isAgg4
  have z4 := Tryd.sizeOf4
  have u35 := Tryd.underlying35
  have a35 := Tryd.isAgg35
  have z35 := Tryd.sizeOf35
  have u36 := Tryd.underlying36
  have a36 := Tryd.isAgg36
  have z36 := Tryd.sizeOf36
  have u37 := Tryd.underlying37
  have a37 := Tryd.isAgg37
  have z37 := Tryd.sizeOf37
  have u38 := Tryd.underlying38
  have a38 := Tryd.isAgg38
  have z38 := Tryd.sizeOf38
  go_simp
  by_cases h0 : c0 = d0
  case neg => simp [h0]
  subst h0
  by_cases h1 : c1 = d1
  case neg => simp [h1]
  subst h1
  by_cases h2 : c2 = d2
  case neg => simp [h2]
  subst h2
  by_cases h3 : c3 = d3
  case neg => simp [h3]
  subst h3
  by_cases h4 : c4 = d4
  case neg => simp [h4]
  subst h4
  by_cases h5 : c5 = d5
  case neg => simp [h5]
  subst h5
  by_cases h6 : c6 = d6
  case neg => simp [h6]
  subst h6
  by_cases h7 : c7 = d7
  case neg => simp [h7]
  subst h7
  by_cases h8 : c8 = d8
  case neg => simp [h8]
  subst h8
  by_cases h9 : c9 = d9
  case neg => simp [h9]
  subst h9
  by_cases h10 : c10 = d10
  case neg => simp [h10]
  subst h10
  by_cases h11 : c11 = d11
  case neg => simp [h11]
  subst h11
  simp only [beq_self_eq_true, if_true]
  by_cases h12 : c12 = d12
  · subst h12; simp
  · simp [h12]
theorem st_eq {c d : St} {w : World} {K : Bool → Prop} (h : K (decide (c = d))) : eqA P .eql tStep (stV c) (stV d) w K :=
  eqA_eql (by kernel_rfl) (by kernel_rfl) (by kernel_rfl) (st_fields c d w) h
theorem st_ne {c d : St} {w : World} {K : Bool → Prop} (h : K (!decide (c = d))) : eqA P .neq tStep (stV c) (stV d) w K :=
  eqA_neq (by kernel_rfl) (by kernel_rfl) (by kernel_rfl) (st_fields c d w) h
theorem atoi_end (s : ByteArray) : ∃ n e, AtoiEnd s n e := by
  by_cases h : ∃ n, Lib.atoiAll s.data.toList = .ok n
  · obtain ⟨n, h⟩ := h
    exact ⟨n, _, .inl ⟨h, rfl⟩⟩
  · exact ⟨0, .iface 0 (.pointer (some ⟨0, 0, none⟩)), .inr ⟨fun m hm => h ⟨m, hm⟩, _, _, rfl⟩⟩
theorem copy_txt {p d t : St} (hd : d.Fit) (ht : t.Fit) {f : Int} (h : d.txt f = t.txt f) : p.copy d f = p.copy t f := by
  obtain ⟨n, e, hne⟩ := atoi_end ⟨(d.txt f).toArray⟩
  rw [← put_copy hd hne, ← put_copy ht (by rw [← h]; exact hne)]
  by_cases hf : f = 120
  · subst hf
    have h1 : Lib.decDigits d.x.toNat = Lib.decDigits t.x.toNat := h
    have d1 := hd.2.2.2.2.2.2.2.2.2.2.2
    have t1 := ht.2.2.2.2.2.2.2.2.2.2.2
    have h2 := uint_dec (u := d.x.toNat) (by omega)
    rw [h1, uint_dec (u := t.x.toNat) (by omega)] at h2
    injection h2 with h2
    have : d.x = t.x := by omega
    rw [this]
  · exact put_x p n _ _ hf
theorem line_inj {s : ByteArray} {d t : St} (hd : d.Fit) (ht : t.Fit) (h1 : IsL s d) (h2 : IsL s t) : d = t := by
  obtain ⟨k, a1, a2, a3⟩ := h1
  obtain ⟨k', b1, b2, b3⟩ := h2
  have e := (split_line a3).symm.trans (split_line b3)
  have e0 : nameW k = nameW k' := by
    unfold wordsT at e
    exact (List.cons.inj e).1
  obtain ⟨hk, ek⟩ := find_kind a1
  obtain ⟨hk', ek'⟩ := find_kind b1
  have hkk : k = k' := nameW_inj k hk k' hk' (by rw [e0])
  subst hkk
  have key : ∀ j, j ≤ (fldW k).data.toList.length → plainJ d k j = plainJ t k j := by
    intro j
    induction j with
    | zero => intro _; show { st0 with kind := d.kind } = { st0 with kind := t.kind }; rw [ek, ek']
    | succ j ih =>
      intro hj
      obtain ⟨c, hc⟩ : ∃ c, (fldW k).data.toList[j]? = some c := ⟨_, List.getElem?_eq_getElem (show j < _ by omega)⟩
      rw [plainJ_next _ k j hc, plainJ_next _ k j hc, ih (by omega)]
      refine copy_txt hd ht ?_
      have w1 := words_at d hc
      rw [e, words_at t hc] at w1
      have := congrArg (fun b : ByteArray => b.data.toList) (Option.some.inj w1)
      simpa using this.symm
  have := key _ (Nat.le_refl _)
  rw [← a2, ← b2]
  exact this
end Go.Proofs.YtbnadobjnmboiaaDoor
/-
  text: the document's examples.
-/
namespace Go.Proofs.YtbnadobjnmboiaaDoor
open Go Go.RowKit X
set_option maxRecDepth 100000
set_option linter.unusedVariables false
set_option linter.unusedSimpArgs false
set_option maxHeartbeats 1000000
def exA : St := ⟨7, 0, 2, 1, 0, 0, 0, 0, 0, 0, 0, 0, false⟩
def exW : St := ⟨8, 0, -1, 0, 0, 0, 40, 0, 0, 0, 0, 0, true⟩
def exC : St := ⟨6, 0, 0, 0, 0, 0, 0, 0, 0, 0, 0, 0, false⟩
theorem exA_fit : exA.Fit := by unfold exA St.Fit I64; decide
theorem exW_fit : exW.Fit := by unfold exW St.Fit I64; decide
theorem exC_fit : exC.Fit := by unfold exC St.Fit I64; decide
theorem exA_print : printV exA = .tuple [.string ⟨#[115, 99, 104, 101, 100, 32, 49, 32, 48, 32, 50]⟩, .int .i64 0].toArray := by
  have h : findM ⟨#[]⟩ exA.kind = some 6 := kind_find (k := 6) (by omega)
  have h2 : printL exA 6 = [115, 99, 104, 101, 100, 32, 49, 32, 48, 32, 50] := by kernel_rfl
  unfold printV
  rw [h]
  show Value.tuple [strV (printL exA 6), .int .i64 0].toArray = _
  rw [h2]; rfl
def sTick : ByteArray := ⟨#[116, 105, 99, 107, 32, 48, 53]⟩
def sWire : ByteArray := ⟨#[119, 105, 114, 101, 32, 48, 32, 45, 49, 32, 52, 48, 32, 49]⟩
theorem tick_no (t : St) (ht : t.Fit) : ¬ IsL sTick t := by
  rintro ⟨k, h1, h2, h3⟩
  have h4 := split_line h3
  have h5 : splitW sTick = [⟨#[116, 105, 99, 107]⟩, ⟨#[48, 53]⟩] := by
    unfold splitW
    exact splitB_join 32 (by simp) (by decide) (by kernel_rfl)
  rw [h5] at h4
  have h6 : nameW k = ⟨#[116, 105, 99, 107]⟩ := by
    unfold wordsT at h4
    exact (List.cons.inj h4).1.symm
  have hk : k = 10 := nameW_inj k (find_kind h1).1 10 (by omega) (by rw [h6]; rfl)
  subst hk
  have h7 : (⟨#[48, 53]⟩ : ByteArray) = ⟨(t.txt 120).toArray⟩ := by
    have := congrArg (fun l : List ByteArray => l[1]?) h4
    exact Option.some.inj this
  have h8 : Lib.decDigits t.x.toNat = [48, 53] := by
    have := congrArg (fun b : ByteArray => b.data.toList) h7
    exact (by simpa using this.symm : t.txt 120 = [48, 53])
  have hx := ht.2.2.2.2.2.2.2.2.2.2.2
  have h9 := uint_dec (u := t.x.toNat) (by omega)
  rw [h8] at h9
  have h10 : Lib.parseUintB 64 [48, 53] = .ok 5 := by kernel_rfl
  rw [h10] at h9
  injection h9 with h9
  rw [← h9] at h8
  have h11 : Lib.decDigits 5 = [53] := by kernel_rfl
  rw [h11] at h8
  cases h8
theorem wire_is : IsL sWire exW := ⟨7, kind_find (k := 7) (by omega), by kernel_rfl, by kernel_rfl⟩
theorem core_is : IsL ⟨[99, 111, 114, 101, 32, 48].toArray⟩ exC := ⟨5, kind_find (k := 5) (by omega), by kernel_rfl, by kernel_rfl⟩
theorem x_no (t : St) : ¬ IsL ⟨[120].toArray⟩ t := by
  rintro ⟨k, h1, h2, h3⟩
  have h4 := split_line h3
  have h5 : splitW ⟨[120].toArray⟩ = [⟨#[120]⟩] := by
    unfold splitW
    exact splitB_join 32 (by simp) (by decide) (by kernel_rfl)
  rw [h5] at h4
  have h6 : nameW k = ⟨#[120]⟩ := by
    unfold wordsT at h4
    exact (List.cons.inj h4).1.symm
  have : ∀ i, i < 12 → (nameW i).data.toList ≠ [120] := by decide
  exact this k (find_kind h1).1 (by rw [h6])
def sScr : List UInt8 := [35, 32, 97, 10, 99, 111, 114, 101, 32, 48, 10, 10, 120]
theorem scr_say : sayL sScr = [(2, [99, 111, 114, 101, 32, 48]), (4, [120])] := by decide
theorem scr_end {xs : List St} {n e : Int} (h : ScriptEnd sScr xs n e) : xs = [] ∧ n = 4 ∧ e = 290 := by
  rcases h with ⟨rfl, rfl, hl, hR⟩ | ⟨rfl, rfl, ys, x, hR, hx, rfl, hno⟩
  · rw [scr_say] at hl
    have h1 : xs[1]? = some (xs[1]'(by rw [hl]; decide)) := List.getElem?_eq_getElem _
    obtain ⟨x, hx, hf, hi⟩ := hR _ _ h1
    rw [scr_say] at hx
    cases hx
    exact absurd hi (x_no _)
  · rw [scr_say] at hx
    refine ⟨rfl, ?_, rfl⟩
    match hy : ys.length with
    | 0 =>
      rw [hy] at hx
      cases hx
      exact absurd core_is (hno exC exC_fit)
    | 1 =>
      rw [hy] at hx
      cases hx
      rfl
    | n + 2 =>
      rw [hy] at hx
      cases hx
theorem awake_t {W : World} (hL : LibAt W) : Tri P F.crierlaw29_awake [] [keep W] fun v L' => v = .bool true ∧ L' = [keep W] := by
  intro w S hS
  refine crierlaw29_awake_cv ?_
  unfold crierlaw29_awake
  have H := Own.start hS
  refine call_pa H (Print_t hL.pow exA exA_fit) fun wx H => ?_
  rw [exA_print]
  refine ⟨_, _, rfl, ?_⟩
  refine call_oa H (Parse_t hL sTick (by decide)) fun vx L' wx hq H => ?_
  obtain ⟨⟨d1, e1, rfl, hend1⟩, rfl⟩ := hq
  simp only [List.cons_append, List.nil_append] at H
  refine ⟨_, _, _, _, _, _, _, _, _, _, _, _, _, _, rfl, alc_o H fun b21 wx H => ?_⟩
  refine st1_a H fun wx H => ?_
  refine st1_a H fun wx H => ?_
  refine st1_a H fun wx H => ?_
  refine st1_a H fun wx H => ?_
  refine st1_a H fun wx H => ?_
  refine st1_a H fun wx H => ?_
  refine st1_a H fun wx H => ?_
  refine st1_a H fun wx H => ?_
  refine st1_a H fun wx H => ?_
  refine st1_a H fun wx H => ?_
  refine st1_a H fun wx H => ?_
  refine st1_a H fun wx H => ?_
  refine st1_a H fun wx H => ?_
  simp only [List.set_cons_zero, List.set_cons_succ] at H
  refine call_oa H (Parse_t hL sWire (by decide)) fun vx L' wx hq H => ?_
  obtain ⟨⟨d2, e2, rfl, hend2⟩, rfl⟩ := hq
  simp only [List.cons_append, List.nil_append] at H
  refine ⟨_, _, _, _, _, _, _, _, _, _, _, _, _, _, rfl, alc_o H fun b52 wx H => ?_⟩
  refine st1_a H fun wx H => ?_
  refine st1_a H fun wx H => ?_
  refine st1_a H fun wx H => ?_
  refine st1_a H fun wx H => ?_
  refine st1_a H fun wx H => ?_
  refine st1_a H fun wx H => ?_
  refine st1_a H fun wx H => ?_
  refine st1_a H fun wx H => ?_
  refine st1_a H fun wx H => ?_
  refine st1_a H fun wx H => ?_
  refine st1_a H fun wx H => ?_
  refine st1_a H fun wx H => ?_
  refine st1_a H fun wx H => ?_
  simp only [List.set_cons_zero, List.set_cons_succ] at H
  refine call_oa H (Script_t hL sScr (by decide) (by rw [scr_say]; decide) (by rw [scr_say]; decide)) fun vx L' wx hq H => ?_
  obtain ⟨xs, p, c, n, e3, rfl, hend3, rfl⟩ := hq
  simp only [List.cons_append, List.nil_append] at H
  refine ⟨_, _, _, _, _, rfl, join_o ?_⟩
  obtain ⟨rfl, rfl, rfl⟩ := scr_end hend3
  have h1 : e1 = 290 := by
    rcases hend1 with ⟨_, hf, hi⟩ | ⟨h, _⟩
    · exact absurd hi (tick_no _ hf)
    · exact h
  have h2 : e2 = 0 ∧ d2 = exW := by
    rcases hend2 with ⟨h, hf, hi⟩ | ⟨_, _, hno⟩
    · exact ⟨h, line_inj hf exW_fit hi wire_is⟩
    · exact absurd wire_is (hno _ exW_fit)
  obtain ⟨rfl, rfl⟩ := h2
  subst h1
  rw [bytes_beq]
  refine cnd_i (fun _ => ?_) (fun h => by cases h)
  refine cnd_i (fun _ => ?_) (fun h => by cases h)
  refine cnd_i (fun _ => ?_) (fun h => by cases h)
  repeat (first | refine ldI_a H ?_ | refine ldL_a H ?_ | refine ldB_a H ?_ | refine ldP_a H ?_ | refine ldS_a H ?_)
  refine st_eq (c := exW) (d := exW) ?_
  rw [decide_eq_true rfl]
  refine cnd_i (fun _ => ?_) (fun h => by cases h)
  refine cnd_i (fun _ => ?_) (fun h => by cases h)
  refine cnd_i (fun _ => ?_) (fun h => by cases h)
  refine cnd_i (fun _ => ?_) (fun h => by cases h)
  unfold crierlaw29_awake_j0
  exact ⟨_, ⟨rfl, rfl⟩, H.dp⟩
end Go.Proofs.YtbnadobjnmboiaaDoor
/-
  text: plain steps, plainly.
-/
namespace Go.Proofs.YtbnadobjnmboiaaDoor
open Go Go.RowKit X
set_option maxRecDepth 100000
set_option linter.unusedVariables false
set_option linter.unusedSimpArgs false
set_option maxHeartbeats 1000000
theorem copy_fit {p s : St} (hp : p.Fit) (hs : s.Fit) (f : Int) : (p.copy s f).Fit := by
  obtain ⟨f0, f1, f2, f3, f4, f5, f6, f7, f8, f9, f10, f11, f12⟩ := hp
  obtain ⟨g0, g1, g2, g3, g4, g5, g6, g7, g8, g9, g10, g11, g12⟩ := hs
  unfold St.copy
  exact (ite_fit ⟨f0, g1, f2, f3, f4, f5, f6, f7, f8, f9, f10, f11, f12⟩ (ite_fit ⟨f0, f1, g2, f3, f4, f5, f6, f7, f8, f9, f10, f11, f12⟩ (ite_fit ⟨f0, f1, f2, g3, f4, f5, f6, f7, f8, f9, f10, f11, f12⟩ (ite_fit ⟨f0, f1, f2, f3, g4, f5, f6, f7, f8, f9, f10, f11, f12⟩ (ite_fit ⟨f0, f1, f2, f3, f4, g5, f6, f7, f8, f9, f10, f11, f12⟩ (ite_fit ⟨f0, f1, f2, f3, f4, f5, g6, f7, f8, f9, f10, f11, f12⟩ (ite_fit ⟨f0, f1, f2, f3, f4, f5, f6, g7, f8, f9, f10, f11, f12⟩ (ite_fit ⟨f0, f1, f2, f3, f4, f5, f6, f7, g8, f9, f10, f11, f12⟩ (ite_fit ⟨f0, f1, f2, f3, f4, f5, f6, f7, f8, g9, f10, f11, f12⟩ (ite_fit ⟨f0, f1, f2, f3, f4, f5, f6, f7, f8, f9, g10, f11, f12⟩ (ite_fit ⟨f0, f1, f2, f3, f4, f5, f6, f7, f8, f9, f10, g11, g12⟩ (ite_fit ⟨f0, f1, f2, f3, f4, f5, f6, f7, f8, f9, f10, f11, f12⟩ ⟨f0, f1, f2, f3, f4, f5, f6, f7, f8, f9, f10, f11, f12⟩))))))))))))
theorem copy_kind (p s : St) (f : Int) : (p.copy s f).kind = p.kind := by
  simp only [St.copy, apply_ite St.kind]; simp
theorem copy_txt_eq (p s : St) {f : Int} (hf : f ∈ letters) : (p.copy s f).txt f = s.txt f := by
  simp only [letters, List.mem_cons, List.not_mem_nil, or_false] at hf
  rcases hf with rfl | rfl | rfl | rfl | rfl | rfl | rfl | rfl | rfl | rfl | rfl | rfl <;> rfl
theorem copy_txt_ne (p s : St) {f g : Int} (hf : f ∈ letters) (hg : g ∈ letters) (h : f ≠ g) : (p.copy s f).txt g = p.txt g := by
  simp only [letters, List.mem_cons, List.not_mem_nil, or_false] at hf hg
  rcases hf with rfl | rfl | rfl | rfl | rfl | rfl | rfl | rfl | rfl | rfl | rfl | rfl <;>
  rcases hg with rfl | rfl | rfl | rfl | rfl | rfl | rfl | rfl | rfl | rfl | rfl | rfl <;>
  first | rfl | exact absurd rfl h
theorem plainJ_fit {s : St} (hs : s.Fit) (k : Nat) : ∀ j, j ≤ (fldW k).data.toList.length → (plainJ s k j).Fit ∧ (plainJ s k j).kind = s.kind
  | 0, _ => ⟨base_fit hs.1, rfl⟩
  | j + 1, h => by
    obtain ⟨h1, h2⟩ := plainJ_fit hs k j (by omega)
    rw [plainJ_next s k j (List.getElem?_eq_getElem (show j < _ by omega))]
    exact ⟨copy_fit h1 hs _, by rw [copy_kind, h2]⟩
theorem plainJ_txt (s : St) (k : Nat) : ∀ j, j ≤ (fldW k).data.toList.length → ∀ i, i < j → ∀ c, (fldW k).data.toList[i]? = some c → (plainJ s k j).txt c.toNat = s.txt c.toNat
  | 0, _, i, hi, _, _ => absurd hi (by omega)
  | j + 1, h, i, hi, c, hc => by
    have hjl : j < (fldW k).data.toList.length := by omega
    obtain ⟨b, hb⟩ : ∃ b, (fldW k).data.toList[j]? = some b := ⟨_, List.getElem?_eq_getElem hjl⟩
    rw [plainJ_next s k j hb]
    by_cases e : i = j
    · subst e
      rw [hb] at hc
      cases hc
      exact copy_txt_eq _ _ (letters_of k _ (List.mem_of_getElem? hb))
    · rw [copy_txt_ne _ _ (letters_of k b (List.mem_of_getElem? hb)) (letters_of k c (List.mem_of_getElem? hc)) fun e2 => ?_]
      · exact plainJ_txt s k j (by omega) i (by omega) c hc
      · have e3 : b = c := by
          have : b.toNat = c.toNat := by exact_mod_cast e2
          exact UInt8.toNat_inj.1 this
        subst e3
        obtain ⟨q1, q2⟩ := List.getElem?_eq_some_iff.1 hb
        obtain ⟨q3, q4⟩ := List.getElem?_eq_some_iff.1 hc
        have := (List.getElem_inj (fldW_nodup k) (h₀ := q1) (h₁ := q3)).1 (by rw [q2, q4])
        omega
theorem plain_of_txt {d t : St} (hd : d.Fit) (ht : t.Fit) (hk : d.kind = t.kind) {k : Nat} (h : ∀ (i : Nat) c, (fldW k).data.toList[i]? = some c → d.txt c.toNat = t.txt c.toNat) : ∀ j, j ≤ (fldW k).data.toList.length → plainJ d k j = plainJ t k j
  | 0, _ => by show { st0 with kind := d.kind } = { st0 with kind := t.kind }; rw [hk]
  | j + 1, hj => by
    obtain ⟨c, hc⟩ : ∃ c, (fldW k).data.toList[j]? = some c := ⟨_, List.getElem?_eq_getElem (show j < _ by omega)⟩
    rw [plainJ_next _ k j hc, plainJ_next _ k j hc, plain_of_txt hd ht hk h j (by omega)]
    exact copy_txt hd ht (h j c hc)
theorem print_of_txt {d t : St} {k : Nat} (h : ∀ (i : Nat) c, (fldW k).data.toList[i]? = some c → d.txt c.toNat = t.txt c.toNat) : printL d k = printL t k := by
  unfold printL wordsT
  congr 1
  rw [List.take_length, List.map_cons, List.map_cons]
  congr 1
  rw [List.map_map, List.map_map]
  refine List.map_congr_left fun c hc => ?_
  obtain ⟨i, hi⟩ := List.getElem?_of_mem hc
  show (d.txt c.toNat).toArray.toList = (t.txt c.toNat).toArray.toList
  rw [h i c hi]
theorem plain_is {s : St} (hs : s.Fit) {k : Nat} (h : findM ⟨#[]⟩ s.kind = some k) : (plainS s k).Fit ∧ findM ⟨#[]⟩ (plainS s k).kind = some k ∧ printL (plainS s k) k = printL s k ∧ plainS (plainS s k) k = plainS s k := by
  obtain ⟨h1, h2⟩ := plainJ_fit hs k _ (Nat.le_refl _)
  have ht : ∀ (i : Nat) c, (fldW k).data.toList[i]? = some c → (plainS s k).txt c.toNat = s.txt c.toNat := fun i c hc => plainJ_txt s k _ (Nat.le_refl _) i (List.getElem?_eq_some_iff.1 hc).1 c hc
  refine ⟨h1, ?_, print_of_txt ht, ?_⟩
  · show findM ⟨#[]⟩ (plainJ s k _).kind = _
    rw [h2]; exact h
  · exact plain_of_txt h1 hs h2 ht _ (Nat.le_refl _)
theorem plain_isL {s : St} (hs : s.Fit) {k : Nat} (h : findM ⟨#[]⟩ s.kind = some k) : IsL ⟨(printL s k).toArray⟩ (plainS s k) := by
  obtain ⟨h1, h2, h3, h4⟩ := plain_is hs h
  exact ⟨k, h2, h4, by rw [h3]⟩
theorem printV_some {s : St} {k : Nat} (h : findM ⟨#[]⟩ s.kind = some k) : printV s = .tuple [strV (printL s k), .int .i64 0].toArray := by unfold printV; rw [h]
theorem printV_none {s : St} (h : findM ⟨#[]⟩ s.kind = none) : printV s = .tuple [.string ⟨#[]⟩, .int .i64 280].toArray := by unfold printV; rw [h]
theorem plainV_some {s : St} {k : Nat} (h : findM ⟨#[]⟩ s.kind = some k) : plainV s = .tuple [stV (plainS s k), .int .i64 0].toArray := by unfold plainV; rw [h]
theorem plainV_none {s : St} (h : findM ⟨#[]⟩ s.kind = none) : plainV s = .tuple [stV st0, .int .i64 280].toArray := by unfold plainV; rw [h]
end Go.Proofs.YtbnadobjnmboiaaDoor
