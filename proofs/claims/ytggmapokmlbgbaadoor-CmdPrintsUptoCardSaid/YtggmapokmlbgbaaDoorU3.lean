/-
  cmd: a command's text.
-/
import Derived.Test.YtggmapokmlbgbaaDoorU2
import Derived.Test.YtggmapokmlbgbaaDoorE5
import Derived.Lib.ItoaLen
namespace Go.Proofs.YtggmapokmlbgbaaDoor
open Go Go.RowKit X
set_option maxRecDepth 100000
set_option linter.unusedVariables false
set_option linter.unusedSimpArgs false
set_option maxHeartbeats 1000000
theorem row_own {w w0 : World} {S0 : Nat → Prop} {L F : List It} {b n : Nat} {xs : List Value} {t : TypeId} (H : X.Own w0 S0 L w) (hp : Pick L (row b xs t) F) (hn : xs.length = n) (hm : n ≤ maxLen) : X.Own w0 S0 (own t 1 (.slice (some ⟨b, 0, none⟩) n n) n xs :: F) w := by
  have H1 : X.Own w0 S0 (row b xs t :: F) w := let ⟨S, h1, h2⟩ := H; ⟨S, hp.iff.1 h1, h2⟩
  refine H1.rep .here fun S ⟨k1, k2⟩ => ⟨S, ⟨⟨by omega, .inr ⟨b, n, xs.toArray, rfl, Nat.zero_le _, k1, Nat.le_refl _, hm, by simp [hn], by simpa using List.take_of_length_le (Nat.le_of_eq hn)⟩⟩, fun k => ?_⟩, Out.refl _ _, fun _ h => .inl h⟩
  rw [k2]
  simp only [Value.ownBlock, Option.some.injEq]
  exact eq_comm
def nameB (op : Int) : ByteArray := if op = 1 then ⟨#[109, 111, 118, 105]⟩ else if op = 3 then ⟨#[105, 110, 116]⟩ else if op = 4 then ⟨#[99, 108, 101, 97, 114]⟩ else if op = 5 then ⟨#[115, 121, 110, 99]⟩ else if op = 8 then ⟨#[109, 97, 112, 100]⟩ else if op = 9 then ⟨#[109, 97, 112, 99]⟩ else if op = 10 then ⟨#[109, 97, 112, 116, 105]⟩ else if op = 11 then ⟨#[109, 97, 112, 105]⟩ else if op = 12 then ⟨#[105, 110, 118]⟩ else if op = 13 then ⟨#[105, 110, 118, 97, 108, 108]⟩ else if op = 14 then ⟨#[109, 111, 118, 97, 108, 108]⟩ else ⟨#[100, 105, 115, 99, 97, 114, 100]⟩
theorem name_t (op : Int) : Tri P F.cmd_name [.int .i64 op] [] fun v L' => v = .string (nameB op) ∧ L' = [] := by
  intro w S hS
  refine cmd_name_cv ?_
  unfold cmd_name nameB
  have H := Own.start hS
  have st : ∀ (a : Int) (x : ByteArray) (y : ByteArray) (Z : Prop), (op ≠ a → Z) → cnd (op == a) (∃ L', ((Value.string x) = .string (if op = a then x else y) ∧ L' = []) ∧ X.Own w S L' w) Z := by
    intro a x y Z hz
    refine cnd_i (fun h => ?_) fun h => hz (by simpa using h)
    rw [if_pos (by simpa using h)]
    exact ⟨_, ⟨rfl, rfl⟩, H⟩
  refine st 1 _ _ _ fun h => ?_
  rw [if_neg h]
  refine st 3 _ _ _ fun h => ?_
  rw [if_neg h]
  refine st 4 _ _ _ fun h => ?_
  rw [if_neg h]
  refine st 5 _ _ _ fun h => ?_
  rw [if_neg h]
  refine st 8 _ _ _ fun h => ?_
  rw [if_neg h]
  refine st 9 _ _ _ fun h => ?_
  rw [if_neg h]
  refine st 10 _ _ _ fun h => ?_
  rw [if_neg h]
  refine st 11 _ _ _ fun h => ?_
  rw [if_neg h]
  refine st 12 _ _ _ fun h => ?_
  rw [if_neg h]
  refine st 13 _ _ _ fun h => ?_
  rw [if_neg h]
  refine st 14 _ _ _ fun h => ?_
  rw [if_neg h]
  exact ⟨_, ⟨rfl, rfl⟩, H⟩
theorem appStrs : appB P tStrs tStr 1 16 = true := by kernel_rfl
/-- a command's words, as far as the first fields -/
def wordsK (c : Cm) (k : Nat) : List ByteArray := nameB c.op :: ((List.range k).filter (ph c.op)).map fun j => ⟨(Lib.itoa (c.get j)).toArray⟩
theorem wordsK_next (c : Cm) (k : Nat) : wordsK c (k + 1) = if ph c.op k then wordsK c k ++ [⟨(Lib.itoa (c.get k)).toArray⟩] else wordsK c k := by
  unfold wordsK
  rw [List.range_succ, List.filter_append]
  cases h : ph c.op k <;> simp [h]
theorem wordsK_len (c : Cm) (k : Nat) : (wordsK c k).length ≤ k + 1 := by
  unfold wordsK
  rw [List.length_cons, List.length_map]
  have := List.length_filter_le (ph c.op) (List.range k)
  rw [List.length_range] at this
  omega
def printL (c : Cm) : List UInt8 := Lib.join ((wordsK c 8).map (·.data.toList)) [32]
def printV (c : Cm) : Value := match encM c with
  | some _ => .tuple [strV (printL c), .int .i64 0].toArray
  | none => .tuple [.string ⟨#[]⟩, .int .i64 160].toArray
def strs (xs : List ByteArray) : List Value := xs.map Value.string
theorem strs_one (xs : List ByteArray) : ∀ u ∈ strs xs, u.oneCell' = true := by
  intro u hu
  obtain ⟨x, _, rfl⟩ := List.mem_map.1 hu
  rfl
theorem ite7 {p : Prop} [Decidable p] {x y : ByteArray} (h1 : x.data.toList.length ≤ 7) (h2 : y.data.toList.length ≤ 7) : (if p then x else y).data.toList.length ≤ 7 := by
  by_cases h : p
  · rw [if_pos h]; exact h1
  · rw [if_neg h]; exact h2
theorem nameB_len (op : Int) : (nameB op).data.toList.length ≤ 7 :=
  ite7 (by decide) (ite7 (by decide) (ite7 (by decide) (ite7 (by decide) (ite7 (by decide) (ite7 (by decide) (ite7 (by decide) (ite7 (by decide) (ite7 (by decide) (ite7 (by decide) (ite7 (by decide) (by decide)))))))))))
theorem lens_le {xs : List (List UInt8)} {m : Nat} (h : ∀ x ∈ xs, x.length ≤ m) : Lib.lens xs ≤ xs.length * m := by
  induction xs with
  | nil => simp [Lib.lens]
  | cons x r ih =>
    have h1 := h x (by simp)
    have h2 := ih fun y hy => h y (by simp [hy])
    simp only [Lib.lens, List.map_cons, List.sum_cons, List.length_cons] at *
    rw [Nat.add_mul]; omega
theorem get_range {c : Cm} (f : Fld c) {k : Nat} (hk : k < 8) : -9223372036854775808 ≤ c.get k ∧ c.get k ≤ 9223372036854775807 := by
  have h := f k hk
  have hle : (2 : Nat) ^ ps c.op k ≤ 2 ^ 40 := Nat.pow_le_pow_right (by omega) (ps_le _ _)
  have h2 : (2 : Int) ^ ps c.op k = ((2 ^ ps c.op k : Nat) : Int) := by push_cast; rfl
  rw [h2] at h
  generalize (2 : Nat) ^ ps c.op k = y at *
  omega
theorem print_len {c : Cm} (f : Fld c) : (printL c).length ≤ 140737488355328 := by
  have hl := wordsK_len c 8
  have hw : ∀ x ∈ (wordsK c 8).map (·.data.toList), x.length ≤ 21 := by
    intro x hx
    obtain ⟨y, hy, rfl⟩ := List.mem_map.1 hx
    unfold wordsK at hy
    rcases List.mem_cons.1 hy with rfl | hy
    · have := nameB_len c.op
      omega
    · obtain ⟨j, hj, rfl⟩ := List.mem_map.1 hy
      have hj8 := List.mem_range.1 (List.mem_filter.1 hj).1
      have hr := get_range f hj8
      simpa using Lib.itoa_length_le (c.get j) hr.1 hr.2
  have hle := lens_le hw
  unfold printL
  rw [List.length_map] at hle
  cases hx : (wordsK c 8).map (·.data.toList) with
  | nil => simp [Lib.join_nil]
  | cons x r =>
    rw [Lib.join_length]
    rw [hx] at hle
    have : (x :: r).length = (wordsK c 8).length := by rw [← hx, List.length_map]
    simp only [List.length_cons, List.length_nil] at *
    omega
theorem Print_t {W : World} (hT : PowAt W) (c : Cm) : Tri P F.cmd_Print [cmV c] [keep W] fun v L' => v = printV c ∧ L' = [keep W] := by
  intro w S hS
  refine cmd_Print_cv ?_
  unfold cmd_Print
  have H := Own.start hS
  refine alc_o H fun b10 wx H => ?_
  repeat (first | refine ldI_a H ?_ | refine ldL_a H ?_ | refine ldB_a H ?_ | refine ldP_a H ?_ | refine ldS_a H ?_)
  refine call_pa H (Encode_t c) fun wx H => ?_
  cases he : encM c with
  | none =>
    have e : encV c = .tuple [.agg [.int .u64 0, .int .u64 0, .int .u64 0, .int .u64 0].toArray, .int .i64 160].toArray := by unfold encV; rw [he]; rfl
    rw [e]
    refine ⟨_, _, _, _, _, rfl, alc_o H fun b28 wx H => ?_⟩
    refine st1_a H fun wx H => ?_
    refine st1_a H fun wx H => ?_
    refine st1_a H fun wx H => ?_
    refine st1_a H fun wx H => ?_
    exact cnd_i (fun _ => ⟨_, ⟨by unfold printV; rw [he], rfl⟩, H.dp⟩) (fun h => by cases h)
  | some ws =>
    obtain ⟨hk, hf, -, -, -⟩ := encM_some he
    obtain ⟨x0, x1, x2, x3, rfl⟩ := four (enc_range he).1
    have e : encV c = .tuple [.agg [.int .u64 x0, .int .u64 x1, .int .u64 x2, .int .u64 x3].toArray, .int .i64 0].toArray := by unfold encV; rw [he]; rfl
    rw [e]
    refine ⟨_, _, _, _, _, rfl, alc_o H fun b28 wx H => ?_⟩
    refine st1_a H fun wx H => ?_
    refine st1_a H fun wx H => ?_
    refine st1_a H fun wx H => ?_
    refine st1_a H fun wx H => ?_
    refine cnd_i (fun h => by cases h) fun _ => ?_
    repeat (first | refine ldI_a H ?_ | refine ldL_a H ?_ | refine ldB_a H ?_ | refine ldP_a H ?_ | refine ldS_a H ?_)
    refine call_pa H (name_t c.op) fun wx H => ?_
    refine ⟨_, rfl, alc_o H fun b38 wx H => ?_⟩
    have H := row_own (b := b38) (n := 1) H (by repeat (first | exact Pick.here | apply Pick.there)) rfl (by unfold maxLen; omega)
    have H := H.drop (L1 := [own tStr 1 (.slice (some ⟨b38, 0, none⟩) (wordsK c 0).length 1) (wordsK c 0).length (strs (wordsK c 0)), row b10 c.cells tCmd, keep W]) (by unfold Cm.cells; exact (by repeat (first | exact Cut.nil | (apply Cut.cons; (repeat (first | exact Pick.here | apply Pick.there))))))
    refine loop_o (fun (st : (Option Addr × Nat × Nat) × Int) L => ∃ (k : Nat) (p : Option Addr) (cap : Nat), k ≤ 8 ∧ st = ((p, (wordsK c k).length, cap), (k : Int)) ∧ L = [own tStr 1 (.slice p (wordsK c k).length cap) (wordsK c k).length (strs (wordsK c k)), row b10 c.cells tCmd, keep W])
      (fun (st : (Option Addr × Nat × Nat) × Int) => (8 - st.2).toNat) H ⟨0, some ⟨b38, 0, none⟩, 1, by omega, rfl, rfl⟩ ?_
    rintro _ _ wx ⟨k, p, cap, hk8, rfl, rfl⟩ H
    unfold cmd_Print_l1
    dsimp only
    have hlen := wordsK_len c k
    refine cnd_i (fun hc => join_o ?_) fun hc => ?_
    · have hc := of_decide_eq_true hc
      have hkk : k < 8 := by omega
      have e1 : IntKind.i64.wrap ((k : Int) + 1) = ((k + 1 : Nat) : Int) := by rw [W_id (by omega) (by omega)]; push_cast; rfl
      repeat (first | refine ldI_a H ?_ | refine ldL_a H ?_ | refine ldB_a H ?_ | refine ldP_a H ?_ | refine ldS_a H ?_)
      refine call_pa H (parted_t c.op k hkk) fun wx H => ?_
      refine ⟨_, _, _, _, rfl, alc_o H fun b65 wx H => ?_⟩
      refine st1_a H fun wx H => ?_
      refine st1_a H fun wx H => ?_
      refine st1_a H fun wx H => ?_
      unfold cmd_Print_j0
      rw [e1]
      refine cnd_i (fun hh => ?_) fun hh => ?_
      · have e2 : wordsK c (k + 1) = wordsK c k ++ [⟨(Lib.itoa (c.get k)).toArray⟩] := by rw [wordsK_next, if_pos hh]
        repeat (first | refine ldI_a H ?_ | refine ldL_a H ?_ | refine ldB_a H ?_ | refine ldP_a H ?_ | refine ldS_a H ?_)
        refine call_pa H (get_t c k hkk) fun wx H => ?_
        refine ⟨_, rfl, ?_⟩
        refine call_pa H (Itoa_t hT (c.get k) (get_range hf hkk)) fun wx H => ?_
        refine ⟨_, rfl, alc_o H fun b85 wx H => ?_⟩
        have hrow := H.row (b := b85) (by repeat (first | exact Pick.here | apply Pick.there))
        refine app_o appStrs (by omega) H (e := tStr) (size := 1) (p := p) (n := (wordsK c k).length) (c := cap) (xs := strs (wordsK c k)) (by repeat (first | exact Pick.here | apply Pick.there)) (q := some ⟨b85, 0, none⟩) (m := 1) (news := strs [⟨(Lib.itoa (c.get k)).toArray⟩]) (fun j u hj => ⟨_, rfl, ?_⟩) rfl (strs_one _) (by unfold maxLen; omega) (by omega) fun p' c' wx H => ?_
        · rw [add_lit, Nat.zero_add, hrow.cell]; exact hj
        have h2 : (wordsK c (k + 1)).length = (wordsK c k).length + 1 := by rw [e2]; simp
        have h3 : strs (wordsK c (k + 1)) = strs (wordsK c k) ++ strs [⟨(Lib.itoa (c.get k)).toArray⟩] := by rw [e2]; simp [strs]
        rw [← h2, ← h3] at H
        refine ⟨⟨[own tStr 1 (.slice p' (wordsK c (k + 1)).length c') (wordsK c (k + 1)).length (strs (wordsK c (k + 1))), row b10 c.cells tCmd, keep W], ⟨k + 1, p', c', by omega, by rw [h2], rfl⟩, H.dp⟩, by show (8 - ((k + 1 : Nat) : Int)).toNat < (8 - (k : Int)).toNat; omega⟩
      · have e2 : wordsK c (k + 1) = wordsK c k := by rw [wordsK_next, hh]; rfl
        refine ⟨⟨[own tStr 1 (.slice p (wordsK c (k + 1)).length cap) (wordsK c (k + 1)).length (strs (wordsK c (k + 1))), row b10 c.cells tCmd, keep W], ⟨k + 1, p, cap, by omega, by rw [e2], rfl⟩, ?_⟩, by show (8 - ((k + 1 : Nat) : Int)).toNat < (8 - (k : Int)).toNat; omega⟩
        rw [e2]
        exact H.dp
    · have hc := of_decide_eq_false hc
      have : k = 8 := by omega
      subst this
      have hne : wordsK c 8 ≠ [] := by unfold wordsK; simp
      have hpl : 0 < (wordsK c 8).length := List.length_pos_iff.2 hne
      have hcap : (wordsK c 8).length ≤ cap := by
        obtain ⟨S1, ⟨ho, -⟩, -⟩ := H.pick (i := own tStr 1 (.slice p (wordsK c 8).length cap) (wordsK c 8).length (strs (wordsK c 8))) .here
        rcases ho.2 with ⟨e, e'⟩ | ⟨g, cp, cur, e1, _, _, e4, _⟩
        · omega
        · cases e1; exact e4
      refine call_p H (Join_t (own tStr 1 (.slice p (wordsK c 8).length cap) (wordsK c 8).length (strs (wordsK c 8))) (p := p) (c := cap) (wordsK c 8) ⟨#[32]⟩ own_sl (fun w S ⟨ho, _⟩ => ?_) hne (by omega) hcap (print_len hf)) (by repeat (first | exact Cut.nil | (apply Cut.cons; (repeat (first | exact Pick.here | apply Pick.there))))) fun wx H => ?_
      · rcases ho.2 with ⟨e, e'⟩ | ⟨g, cp, cur, e1, _⟩
        · omega
        · cases e1; exact ⟨g, rfl⟩
      exact ⟨_, rfl, _, ⟨by unfold printV; rw [he]; rfl, rfl⟩, H.dp⟩
end Go.Proofs.YtggmapokmlbgbaaDoor
