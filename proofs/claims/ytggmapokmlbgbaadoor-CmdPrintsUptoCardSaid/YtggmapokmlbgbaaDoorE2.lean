/-
  cmd: a command's four words, and the command of four words.
-/
import Derived.Test.YtggmapokmlbgbaaDoorT2
import Derived.Test.YtggmapokmlbgbaaDoorA6

namespace Go.Proofs.YtggmapokmlbgbaaDoor
open Go Go.RowKit X
set_option maxRecDepth 100000
set_option linter.unusedVariables false
set_option linter.unusedSimpArgs false
set_option maxHeartbeats 1000000
/-- cells of words -/
def wI (ws : List Int) : List Value := ws.map fun n => .int .u64 n
theorem wI_length (ws : List Int) : (wI ws).length = ws.length := by simp [wI]
theorem wI_get {ws : List Int} {i : Nat} (h : i < ws.length) : (wI ws)[i]? = some (.int .u64 (ws.getD i 0)) := by simp [wI, h]
theorem wI_set (ws : List Int) (i : Nat) (n : Int) : (wI ws).set i (.int .u64 n) = wI (ws.set i n) := by simp [wI]
/-- a number put in from a bit on -/
def insB (a n : Int) (f : Nat) : Int := bitX .or .u64 a (IntKind.u64.wrap ((IntKind.u64.wrap n) * 2 ^ min (Int.toNat (f : Int)) IntKind.u64.bits))
/-- a number's bits -/
def ext (a : Int) (f s : Nat) : Int := IntKind.i64.wrap (bitX .and .u64 (Int.fdiv a (2 ^ min (Int.toNat (f : Int)) IntKind.u64.bits)) (IntKind.u64.wrap ((IntKind.u64.wrap (1 * 2 ^ min (Int.toNat (s : Int)) IntKind.u64.bits)) - 1)))
def badB (c : Cm) (k : Nat) : Bool := (!ph c.op k && (c.get k != 0)) || (decide (c.get k < 0) || decide (c.get k ≥ IntKind.i64.wrap (1 * 2 ^ min (Int.toNat ((ps c.op k : Nat) : Int)) IntKind.i64.bits)))
/-- the words, as far as the first fields -/
def wd (c : Cm) : Nat → List Int
  | 0 => [IntKind.u64.wrap c.op, 0, 0, 0]
  | k + 1 => if ph c.op k then (wd c k).set (pw c.op k) (insB ((wd c k).getD (pw c.op k) 0) (c.get k) (pf c.op k)) else wd c k
theorem wd_length (c : Cm) : ∀ k, (wd c k).length = 4
  | 0 => rfl
  | k + 1 => by unfold wd; split <;> simp [wd_length c k]
theorem pw_lt (op : Int) (k : Nat) : pw op k < 4 := by unfold pw; split <;> (try split) <;> omega
def badC (c : Cm) : Bool := !knownB c.op || (bitX .and .i64 c.addr 255 != 0)
def encM (c : Cm) : Option (List Int) := if badC c then none else if (List.range 8).any (badB c) then none else some (wd c 8)
def encV (c : Cm) : Value := match encM c with
  | some ws => .tuple [.agg (wI ws).toArray, .int .i64 0].toArray
  | none => .tuple [.agg (wI [0, 0, 0, 0]).toArray, .int .i64 160].toArray
theorem four {ws : List Int} (h : ws.length = 4) : ∃ a b c d, ws = [a, b, c, d] := by
  match ws, h with
  | [a, b, c, d], _ => exact ⟨a, b, c, d, rfl⟩
theorem Encode_t (c : Cm) : Tri P F.cmd_Encode [cmV c] [] fun v L' => v = encV c ∧ L' = [] := by
  intro w S hS
  refine cmd_Encode_cv ?_
  unfold cmd_Encode
  have H := Own.start hS
  refine alc_o H fun b10 wx H => alc_o H fun b12 wx H => ?_
  repeat (first | refine ldI_a H ?_ | refine ldL_a H ?_ | refine ldB_a H ?_ | refine ldP_a H ?_ | refine ldS_a H ?_)
  refine alc_o H fun b15 wx H => ?_
  refine st1_a H fun wx H => ?_
  refine st1_a H fun wx H => ?_
  refine st1_a H fun wx H => ?_
  refine st1_a H fun wx H => ?_
  have badE : encM c = none → ∀ wx, X.Own w S [row b15 (wI (wd c 0)) tW4, row b12 [.int .u64 0, .int .u64 0, .int .u64 0, .int .u64 0] tW4, row b10 c.cells tCmd] wx → ∃ L', (Value.tuple [.agg [.int .u64 0, .int .u64 0, .int .u64 0, .int .u64 0].toArray, .int .i64 160].toArray = encV c ∧ L' = []) ∧ X.Own w S L' wx := by
    intro e wx H
    exact ⟨_, ⟨by unfold encV; rw [e]; rfl, rfl⟩, H.dp⟩
  refine join_o ?_
  repeat (first | refine ldI_a H ?_ | refine ldL_a H ?_ | refine ldB_a H ?_ | refine ldP_a H ?_ | refine ldS_a H ?_)
  refine call_pa H (Known_t c.op) fun wx H => ?_
  refine ⟨_, rfl, ?_⟩
  have bad : badC c = true → cmd_Encode_j3 (fun v w' => ∃ L', (v = encV c ∧ L' = []) ∧ X.Own w S L' w') b10 b12 b15 true wx := by
    intro hb
    unfold cmd_Encode_j3
    refine cnd_i (fun _ => ?_) (fun h => by cases h)
    refine st1_a H fun wx H => ?_
    refine st1_a H fun wx H => ?_
    refine st1_a H fun wx H => ?_
    refine st1_a H fun wx H => ?_
    repeat (first | refine ldI_a H ?_ | refine ldL_a H ?_ | refine ldB_a H ?_ | refine ldP_a H ?_ | refine ldS_a H ?_)
    have e : encM c = none := by unfold encM; rw [if_pos hb]
    exact ⟨_, ⟨by unfold encV; rw [e]; rfl, rfl⟩, H.dp⟩
  refine cnd_i (fun h => bad (by unfold badC; rw [h]; rfl)) fun h => ?_
  repeat (first | refine ldI_a H ?_ | refine ldL_a H ?_ | refine ldB_a H ?_ | refine ldP_a H ?_ | refine ldS_a H ?_)
  cases h2 : (bitX .and .i64 c.addr 255 != 0)
  · refine (?_ : cmd_Encode_j3 _ b10 b12 b15 false wx)
    have hb : badC c = false := by unfold badC; rw [h, h2]; rfl
    unfold cmd_Encode_j3
    refine cnd_i (fun h => by cases h) fun _ => ?_
    refine loop_o (fun (st : Int) L => ∃ k : Nat, k ≤ 8 ∧ (∀ j, j < k → badB c j = false) ∧ st = k ∧ L = [row b15 (wI (wd c k)) tW4, row b12 [.int .u64 0, .int .u64 0, .int .u64 0, .int .u64 0] tW4, row b10 c.cells tCmd])
      (fun (st : Int) => (8 - st).toNat) H ⟨0, by omega, fun _ h => absurd h (by omega), rfl, rfl⟩ ?_
    rintro _ _ wx ⟨k, hk, hg, rfl, rfl⟩ H
    unfold cmd_Encode_l2
    refine cnd_i (fun hc => join_o ?_) fun hc => ?_
    · have hc := of_decide_eq_true hc
      have hk8 : k < 8 := by omega
      repeat (first | refine ldI_a H ?_ | refine ldL_a H ?_ | refine ldB_a H ?_ | refine ldP_a H ?_ | refine ldS_a H ?_)
      refine call_pa H (parted_t c.op k hk8) fun wx H => ?_
      refine ⟨_, _, _, _, rfl, ?_⟩
      refine alc_o H fun b45 wx H => ?_
      refine st1_a H fun wx H => ?_
      refine st1_a H fun wx H => ?_
      refine st1_a H fun wx H => ?_
      repeat (first | refine ldI_a H ?_ | refine ldL_a H ?_ | refine ldB_a H ?_ | refine ldP_a H ?_ | refine ldS_a H ?_)
      refine call_pa H (get_t c k hk8) fun wx H => ?_
      refine ⟨_, rfl, join_o ?_⟩
      have fin : ∀ bb : Bool, bb = badB c k → ∀ wx, X.Own w S [row b45 [.int .i64 ((pw c.op k : Nat) : Int), .int .i64 ((pf c.op k : Nat) : Int), .int .i64 ((ps c.op k : Nat) : Int)] tPart, row b15 (wI (wd c k)) tW4, row b12 [.int .u64 0, .int .u64 0, .int .u64 0, .int .u64 0] tW4, row b10 c.cells tCmd] wx →
          cmd_Encode_j1 (fun v w' => ∃ L', (v = encV c ∧ L' = []) ∧ X.Own w S L' w') b12 b15 (fun s85 w86 => cmd_Encode_j0 (k : Int) (fun (s' : Int) w' => (∃ L', (∃ k : Nat, k ≤ 8 ∧ (∀ j, j < k → badB c j = false) ∧ s' = k ∧ L' = [row b15 (wI (wd c k)) tW4, row b12 [.int .u64 0, .int .u64 0, .int .u64 0, .int .u64 0] tW4, row b10 c.cells tCmd]) ∧ X.Own w S L' w') ∧ (8 - s').toNat < (8 - (k : Int)).toNat) w86) (ph c.op k) b45 (c.get k) bb wx := by
        intro bb hbb wx H
        unfold cmd_Encode_j1
        refine cnd_i (fun h => ?_) fun h => ?_
        · refine st1_a H fun wx H => ?_
          refine st1_a H fun wx H => ?_
          refine st1_a H fun wx H => ?_
          refine st1_a H fun wx H => ?_
          repeat (first | refine ldI_a H ?_ | refine ldL_a H ?_ | refine ldB_a H ?_ | refine ldP_a H ?_ | refine ldS_a H ?_)
          have e : encM c = none := by
            unfold encM
            rw [hb, if_neg (by decide), if_pos (List.any_eq_true.2 ⟨k, List.mem_range.2 hk8, by rw [← hbb, h]⟩)]
          exact ⟨_, ⟨by unfold encV; rw [e]; rfl, rfl⟩, H.dp⟩
        have hg' : ∀ j, j < k + 1 → badB c j = false := by
          intro j hj
          by_cases e : j = k
          · rw [e, ← hbb, h]
          · exact hg j (by omega)
        unfold cmd_Encode_j0
        have e1 : IntKind.i64.wrap ((k : Int) + 1) = ((k + 1 : Nat) : Int) := by rw [W_id (by omega) (by omega)]; push_cast; rfl
        rw [e1]
        refine cnd_i (fun hh => ?_) fun hh => ?_
        · refine drw_o H fun wx H => ?_
          repeat (first | refine ldI_a H ?_ | refine ldL_a H ?_ | refine ldB_a H ?_ | refine ldP_a H ?_ | refine ldS_a H ?_)
          refine ix_i (pw_lt c.op k) ?_
          rw [add_lit, Nat.mul_one, Nat.zero_add]
          refine ldI_o H (by repeat (first | exact Pick.here | apply Pick.there)) (wI_get (by rw [wd_length]; exact pw_lt _ _)) ?_
          repeat (first | refine ldI_a H ?_ | refine ldL_a H ?_ | refine ldB_a H ?_ | refine ldP_a H ?_ | refine ldS_a H ?_)
          refine ⟨by omega, ix_i (pw_lt c.op k) ?_⟩
          rw [add_lit, Nat.mul_one, Nat.zero_add]
          refine st1_o H (by repeat (first | exact Rep.here | apply Rep.there)) (by rw [wI_length, wd_length]; exact pw_lt _ _) fun wx H => ⟨⟨[row b15 (wI (wd c (k + 1))) tW4, row b12 [.int .u64 0, .int .u64 0, .int .u64 0, .int .u64 0] tW4, row b10 c.cells tCmd], ⟨k + 1, by omega, hg', rfl, rfl⟩, ?_⟩, by omega⟩
          have e2 : wd c (k + 1) = (wd c k).set (pw c.op k) (insB ((wd c k).getD (pw c.op k) 0) (c.get k) (pf c.op k)) := by
            conv => lhs; unfold wd
            rw [hh, if_pos rfl]
          rw [e2, ← wI_set]
          exact H.dp
        · refine ⟨⟨[row b15 (wI (wd c (k + 1))) tW4, row b12 [.int .u64 0, .int .u64 0, .int .u64 0, .int .u64 0] tW4, row b10 c.cells tCmd], ⟨k + 1, by omega, hg', rfl, rfl⟩, ?_⟩, by omega⟩
          have e2 : wd c (k + 1) = wd c k := by
            conv => lhs; unfold wd
            rw [hh, if_neg (by decide)]
          rw [e2]
          exact H.dp
      have lt1 : ∀ wx, X.Own w S [row b45 [.int .i64 ((pw c.op k : Nat) : Int), .int .i64 ((pf c.op k : Nat) : Int), .int .i64 ((ps c.op k : Nat) : Int)] tPart, row b15 (wI (wd c k)) tW4, row b12 [.int .u64 0, .int .u64 0, .int .u64 0, .int .u64 0] tW4, row b10 c.cells tCmd] wx → True := fun _ _ => trivial
      refine cnd_i (fun h1 => cnd_i (fun h2 => ?_) fun h2 => cnd_i (fun h3 => ?_) fun h3 => ?_) fun h1 => cnd_i (fun h3 => ?_) fun h3 => ?_
      · exact fin _ (by unfold badB; rw [h1, h2]; rfl) _ H
      · exact fin _ (by unfold badB; rw [h3]; simp) _ H
      · repeat (first | refine ldI_a H ?_ | refine ldL_a H ?_ | refine ldB_a H ?_ | refine ldP_a H ?_ | refine ldS_a H ?_)
        refine ⟨by omega, fin _ ?_ _ H⟩
        unfold badB; rw [h2, h3]; simp
      · exact fin _ (by unfold badB; rw [h3]; simp) _ H
      · repeat (first | refine ldI_a H ?_ | refine ldL_a H ?_ | refine ldB_a H ?_ | refine ldP_a H ?_ | refine ldS_a H ?_)
        refine ⟨by omega, fin _ ?_ _ H⟩
        unfold badB; rw [h1, h3]; simp
    · have hc := of_decide_eq_false hc
      have : k = 8 := by omega
      subst this
      obtain ⟨x0, x1, x2, x3, hx⟩ := four (wd_length c 8)
      have e : encM c = some [x0, x1, x2, x3] := by
        unfold encM
        rw [hb, if_neg (by decide), if_neg, hx]
        intro ha
        obtain ⟨j, hj, hj'⟩ := List.any_eq_true.1 ha
        rw [hg j (List.mem_range.1 hj)] at hj'
        cases hj'
      rw [hx] at H
      repeat (first | refine ldI_a H ?_ | refine ldL_a H ?_ | refine ldB_a H ?_ | refine ldP_a H ?_ | refine ldS_a H ?_)
      refine st1_a H fun wx H => ?_
      refine st1_a H fun wx H => ?_
      refine st1_a H fun wx H => ?_
      refine st1_a H fun wx H => ?_
      repeat (first | refine ldI_a H ?_ | refine ldL_a H ?_ | refine ldB_a H ?_ | refine ldP_a H ?_ | refine ldS_a H ?_)
      exact ⟨_, ⟨by unfold encV; rw [e]; rfl, rfl⟩, H.dp⟩
  · exact bad (by unfold badC; rw [h2]; simp)
/-- the command of the words, as far as the first fields -/
def cd (ws : List Int) : Nat → Cm
  | 0 => { cm0 with op := IntKind.i64.wrap (bitX .and .u64 (ws.getD 0 0) 255) }
  | k + 1 => if ph (cd ws k).op k then (cd ws k).put (ext (ws.getD (pw (cd ws k).op k) 0) (pf (cd ws k).op k) (ps (cd ws k).op k)) k else cd ws k
def decM (ws : List Int) : Option Cm := if encM (cd ws 8) = some ws then some (cd ws 8) else none
def decV (ws : List Int) : Value := match decM ws with
  | some c => .tuple [cmV c, .int .i64 0].toArray
  | none => .tuple [cmV cm0, .int .i64 160].toArray
theorem Decode_t (a0 a1 a2 a3 : Int) : Tri P F.cmd_Decode [.agg (wI [a0, a1, a2, a3]).toArray] [] fun v L' => v = decV [a0, a1, a2, a3] ∧ L' = [] := by
  intro w S hS
  refine cmd_Decode_cv ?_
  unfold cmd_Decode
  have H := Own.start hS
  refine alc_o H fun b5 wx H => alc_o H fun b7 wx H => ix_i (i := 0) (by omega) ?_
  rw [add_lit]
  repeat (first | refine ldI_a H ?_ | refine ldL_a H ?_ | refine ldB_a H ?_ | refine ldP_a H ?_ | refine ldS_a H ?_)
  refine alc_o H fun b11 wx H => ?_
  refine st1_a H fun wx H => ?_
  refine st1_a H fun wx H => ?_
  refine st1_a H fun wx H => ?_
  refine st1_a H fun wx H => ?_
  refine st1_a H fun wx H => ?_
  refine st1_a H fun wx H => ?_
  refine st1_a H fun wx H => ?_
  refine st1_a H fun wx H => ?_
  refine st1_a H fun wx H => ?_
  generalize hws : [a0, a1, a2, a3] = ws at *
  have hl : ws.length = 4 := by rw [← hws]; rfl
  refine loop_o (fun (st : Int) L => ∃ k : Nat, k ≤ 8 ∧ st = k ∧ L = [row b11 (cd ws k).cells tCmd, row b7 [.int .i64 0, .int .i64 0, .int .i64 0, .int .i64 0, .int .i64 0, .int .i64 0, .int .i64 0, .int .i64 0, .bool false] tCmd, row b5 (wI ws) tW4])
    (fun (st : Int) => (8 - st).toNat) H ⟨0, by omega, rfl, by rw [← hws]; rfl⟩ ?_
  rintro _ _ wx ⟨k, hk, rfl, rfl⟩ H
  unfold cmd_Decode_l2
  refine cnd_i (fun hc => join_o ?_) fun hc => ?_
  · have hc := of_decide_eq_true hc
    have hk8 : k < 8 := by omega
    repeat (first | refine ldI_a H ?_ | refine ldL_a H ?_ | refine ldB_a H ?_ | refine ldP_a H ?_ | refine ldS_a H ?_)
    refine call_pa H (parted_t (cd ws k).op k hk8) fun wx H => ?_
    refine ⟨_, _, _, _, rfl, ?_⟩
    refine alc_o H fun b35 wx H => ?_
    refine st1_a H fun wx H => ?_
    refine st1_a H fun wx H => ?_
    refine st1_a H fun wx H => ?_
    unfold cmd_Decode_j0
    have e1 : IntKind.i64.wrap ((k : Int) + 1) = ((k + 1 : Nat) : Int) := by rw [W_id (by omega) (by omega)]; push_cast; rfl
    rw [e1]
    refine cnd_i (fun hh => ?_) fun hh => ?_
    · refine drw_o H fun wx H => ?_
      repeat (first | refine ldI_a H ?_ | refine ldL_a H ?_ | refine ldB_a H ?_ | refine ldP_a H ?_ | refine ldS_a H ?_)
      refine ix_i (pw_lt _ k) ?_
      rw [add_lit, Nat.mul_one, Nat.zero_add]
      refine ldI_o H (by repeat (first | exact Pick.here | apply Pick.there)) (wI_get (by rw [hl]; exact pw_lt _ _)) ?_
      repeat (first | refine ldI_a H ?_ | refine ldL_a H ?_ | refine ldB_a H ?_ | refine ldP_a H ?_ | refine ldS_a H ?_)
      refine ⟨by omega, ?_⟩
      repeat (first | refine ldI_a H ?_ | refine ldL_a H ?_ | refine ldB_a H ?_ | refine ldP_a H ?_ | refine ldS_a H ?_)
      refine ⟨by omega, ?_⟩
      refine call_oa H (put_t' b11 (cd ws k) k hk8 _) fun vx L' wx hq H => ?_
      obtain ⟨rfl, rfl⟩ := hq
      simp only [List.cons_append, List.nil_append] at H
      refine ⟨rfl, ⟨[row b11 (cd ws (k + 1)).cells tCmd, row b7 [.int .i64 0, .int .i64 0, .int .i64 0, .int .i64 0, .int .i64 0, .int .i64 0, .int .i64 0, .int .i64 0, .bool false] tCmd, row b5 (wI ws) tW4], ⟨k + 1, by omega, rfl, rfl⟩, ?_⟩, by omega⟩
      have e2 : cd ws (k + 1) = (cd ws k).put (ext (ws.getD (pw (cd ws k).op k) 0) (pf (cd ws k).op k) (ps (cd ws k).op k)) k := by
        conv => lhs; unfold cd
        rw [hh, if_pos rfl]
      rw [e2]
      exact H.dp
    · refine ⟨⟨[row b11 (cd ws (k + 1)).cells tCmd, row b7 [.int .i64 0, .int .i64 0, .int .i64 0, .int .i64 0, .int .i64 0, .int .i64 0, .int .i64 0, .int .i64 0, .bool false] tCmd, row b5 (wI ws) tW4], ⟨k + 1, by omega, rfl, rfl⟩, ?_⟩, by omega⟩
      have e2 : cd ws (k + 1) = cd ws k := by
        conv => lhs; unfold cd
        rw [hh, if_neg (by decide)]
      rw [e2]
      exact H.dp
  · have hc := of_decide_eq_false hc
    have : k = 8 := by omega
    subst this
    repeat (first | refine ldI_a H ?_ | refine ldL_a H ?_ | refine ldB_a H ?_ | refine ldP_a H ?_ | refine ldS_a H ?_)
    refine call_pa H (Encode_t (cd ws 8)) fun wx H => ?_
    have hd : decV ws = if encM (cd ws 8) = some ws then .tuple [cmV (cd ws 8), .int .i64 0].toArray else .tuple [cmV cm0, .int .i64 160].toArray := by
      unfold decV decM; split <;> split <;> simp_all
    have fin : ∀ bb : Bool, (bb = true ↔ encM (cd ws 8) ≠ some ws) → ∀ wx, ∀ b66 xs, X.Own w S [row b66 xs tW4, row b11 (cd ws 8).cells tCmd, row b7 [.int .i64 0, .int .i64 0, .int .i64 0, .int .i64 0, .int .i64 0, .int .i64 0, .int .i64 0, .int .i64 0, .bool false] tCmd, row b5 (wI ws) tW4] wx →
        cmd_Decode_j1 (fun v w' => ∃ L', (v = decV ws ∧ L' = []) ∧ X.Own w S L' w') b7 b11 bb wx := by
      intro bb hbb wx b66 xs H
      unfold cmd_Decode_j1
      rw [hd]
      refine cnd_i (fun h => ?_) fun h => ?_
      · rw [if_neg (hbb.1 h)]
        refine st1_a H fun wx H => ?_
        refine st1_a H fun wx H => ?_
        refine st1_a H fun wx H => ?_
        refine st1_a H fun wx H => ?_
        refine st1_a H fun wx H => ?_
        refine st1_a H fun wx H => ?_
        refine st1_a H fun wx H => ?_
        refine st1_a H fun wx H => ?_
        refine st1_a H fun wx H => ?_
        repeat (first | refine ldI_a H ?_ | refine ldL_a H ?_ | refine ldB_a H ?_ | refine ldP_a H ?_ | refine ldS_a H ?_)
        exact ⟨_, ⟨rfl, rfl⟩, H.dp⟩
      · rw [if_pos (Classical.not_not.1 fun hn => by rw [hbb.2 hn] at h; cases h)]
        repeat (first | refine ldI_a H ?_ | refine ldL_a H ?_ | refine ldB_a H ?_ | refine ldP_a H ?_ | refine ldS_a H ?_)
        refine st1_a H fun wx H => ?_
        refine st1_a H fun wx H => ?_
        refine st1_a H fun wx H => ?_
        refine st1_a H fun wx H => ?_
        refine st1_a H fun wx H => ?_
        refine st1_a H fun wx H => ?_
        refine st1_a H fun wx H => ?_
        refine st1_a H fun wx H => ?_
        refine st1_a H fun wx H => ?_
        repeat (first | refine ldI_a H ?_ | refine ldL_a H ?_ | refine ldB_a H ?_ | refine ldP_a H ?_ | refine ldS_a H ?_)
        exact ⟨_, ⟨rfl, rfl⟩, H.dp⟩
    cases he : encM (cd ws 8) with
    | none =>
      have e : encV (cd ws 8) = .tuple [.agg [.int .u64 0, .int .u64 0, .int .u64 0, .int .u64 0].toArray, .int .i64 160].toArray := by unfold encV; rw [he]; rfl
      rw [e]
      refine ⟨_, _, _, _, _, rfl, ?_⟩
      refine alc_o H fun b66 wx H => ?_
      refine st1_a H fun wx H => ?_
      refine st1_a H fun wx H => ?_
      refine st1_a H fun wx H => ?_
      refine st1_a H fun wx H => ?_
      refine join_o (cnd_i (fun _ => ?_) (fun h => by cases h))
      exact fin true (by rw [he]; simp) _ _ _ H
    | some xs =>
      have hx4 : xs.length = 4 := by
        unfold encM at he
        split at he
        · cases he
        split at he
        · cases he
        · cases he; exact wd_length _ _
      obtain ⟨x0, x1, x2, x3, rfl⟩ := four hx4
      have e : encV (cd ws 8) = .tuple [.agg [.int .u64 x0, .int .u64 x1, .int .u64 x2, .int .u64 x3].toArray, .int .i64 0].toArray := by unfold encV; rw [he]; rfl
      rw [e]
      refine ⟨_, _, _, _, _, rfl, ?_⟩
      refine alc_o H fun b66 wx H => ?_
      refine st1_a H fun wx H => ?_
      refine st1_a H fun wx H => ?_
      refine st1_a H fun wx H => ?_
      refine st1_a H fun wx H => ?_
      refine join_o (cnd_i (fun h => by cases h) fun _ => ?_)
      subst hws
      repeat (first | refine ldI_a H ?_ | refine ldL_a H ?_ | refine ldB_a H ?_ | refine ldP_a H ?_ | refine ldS_a H ?_)
      refine eq4 ?_
      exact fin _ (by rw [he]; simp only [ne_eq, Option.some.injEq, Bool.not_eq_true', decide_eq_false_iff_not]) _ _ _ H
end Go.Proofs.YtggmapokmlbgbaaDoor
