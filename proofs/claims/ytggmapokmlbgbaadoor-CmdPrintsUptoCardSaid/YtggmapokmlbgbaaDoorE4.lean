/-
  cmd: a command is read from a memory; a command is put into one.
-/
import Derived.Test.YtggmapokmlbgbaaDoorE3
import Derived.Test.YtggmapokmlbgbaaDoorMA
namespace Go.Proofs.YtggmapokmlbgbaaDoor
open Go Go.RowKit X
set_option maxRecDepth 100000
set_option linter.unusedVariables false
set_option linter.unusedSimpArgs false
set_option maxHeartbeats 1000000
variable {w w0 : World} {S0 : Nat → Prop}
theorem mem_bounds {L F : List It} {b : Nat} {bs : List Int} (H : X.Own w0 S0 L w) (hp : Pick L (memI b bs) F) : (∀ x ∈ bs, 0 ≤ x ∧ x < 256) ∧ bs.length ≤ 131072 := by
  obtain ⟨d, c, rest, tb, td, _, _, h1, h2⟩ := mem_open H hp
  exact ⟨h1, h2⟩
def offK (off : Int) (k : Nat) : Int := IntKind.i64.wrap (off + IntKind.i64.wrap (8 * (k : Int)))
def rd8 (bs : List Int) (a off : Int) (k : Nat) : Int := le (cut bs (a + offK off k).toNat 8)
def rds (bs : List Int) (a off : Int) (k : Nat) : List Int := [if 0 < k then rd8 bs a off 0 else 0, if 1 < k then rd8 bs a off 1 else 0, if 2 < k then rd8 bs a off 2 else 0, if 3 < k then rd8 bs a off 3 else 0]
theorem rds_next (bs : List Int) (a off : Int) {k : Nat} (h : k < 4) : (rds bs a off k).set k (rd8 bs a off k) = rds bs a off (k + 1) := by
  have : k = 0 ∨ k = 1 ∨ k = 2 ∨ k = 3 := by omega
  rcases this with rfl | rfl | rfl | rfl <;> rfl
def ldOk (len : Nat) (a s off : Int) : Bool := (List.range 4).all fun k => decide (errE len a s (offK off k) 8 = 0)
def loadM (bs : List Int) (a s off : Int) : Cm × Int := if ldOk bs.length a s off then (match decM (rds bs a off 4) with | some c => (c, 0) | none => (cm0, 160)) else (cm0, 42)
def loadV (bs : List Int) (a s off : Int) : Value := .tuple [cmV (loadM bs a s off).1, .int .i64 (loadM bs a s off).2].toArray
theorem Load_t (b : Nat) (bs : List Int) (a s off : Int) : Tri P F.cmd_Load [ptr b, winV a s, .int .i64 off] [memI b bs] fun v L' => v = loadV bs a s off ∧ L' = [memI b bs] := by
  intro w S hS
  refine cmd_Load_cv ?_
  unfold cmd_Load
  have H := Own.start hS
  refine alc_o H fun b5 wx H => alc_o H fun b7 wx H => alc_o H fun b9 wx H => ?_
  refine loop_o (fun (st : Int) L => ∃ k : Nat, k ≤ 4 ∧ (∀ j, j < k → errE bs.length a s (offK off j) 8 = 0) ∧ st = k ∧ L = [row b9 (wI (rds bs a off k)) tW4, row b7 [.int .i64 0, .int .i64 0, .int .i64 0, .int .i64 0, .int .i64 0, .int .i64 0, .int .i64 0, .int .i64 0, .bool false] tCmd, row b5 [.int .i64 a, .int .i64 s] tWin, memI b bs])
    (fun (st : Int) => (4 - st).toNat) H ⟨0, by omega, fun _ h => absurd h (by omega), rfl, rfl⟩ ?_
  rintro _ _ wx ⟨k, hk, hg, rfl, rfl⟩ H
  unfold cmd_Load_l0
  refine cnd_i (fun hc => ?_) fun hc => ?_
  · have hc := of_decide_eq_true hc
    have hk4 : k < 4 := by omega
    repeat (first | refine ldI_a H ?_ | refine ldL_a H ?_ | refine ldB_a H ?_ | refine ldP_a H ?_ | refine ldS_a H ?_)
    refine call_pa H (read_t b bs a s (offK off k) 8) fun wx H => ?_
    unfold readV
    have e1 : IntKind.i64.wrap ((k : Int) + 1) = ((k + 1 : Nat) : Int) := by rw [W_id (by omega) (by omega)]; push_cast; rfl
    by_cases he : errE bs.length a s (offK off k) 8 = 0
    · rw [if_pos he]
      refine ⟨_, _, rfl, cnd_i (fun h => by cases h) fun _ => ?_⟩
      refine ix_i hk4 ?_
      rw [add_lit, Nat.mul_one, Nat.zero_add, e1]
      refine st1_o H (by repeat (first | exact Rep.here | apply Rep.there)) (by rw [wI_length]; exact hk4) fun wx H => ⟨⟨_, ⟨k + 1, by omega, ?_, rfl, rfl⟩, ?_⟩, by omega⟩
      · intro j hj
        by_cases e : j = k
        · rw [e]; exact he
        · exact hg j (by omega)
      · rw [wI_set] at H
        rw [← rds_next bs a off hk4]
        exact H
    · rw [if_neg he]
      refine ⟨_, _, rfl, cnd_i (fun _ => ?_) (fun h => absurd (by simpa using h) he)⟩
      refine st1_a H fun wx H => ?_
      refine st1_a H fun wx H => ?_
      refine st1_a H fun wx H => ?_
      refine st1_a H fun wx H => ?_
      refine st1_a H fun wx H => ?_
      refine st1_a H fun wx H => ?_
      refine st1_a H fun wx H => ?_
      refine st1_a H fun wx H => ?_
      refine st1_a H fun wx H => ?_
      repeat (first | refine ldI_a H ?_ | refine ldL_a H ?_ | refine ldB_a H ?_ | refine ldP_a H ?_ | refine ldS_a H ?_)
      have hl : ldOk bs.length a s off = false := by
        unfold ldOk
        refine Bool.eq_false_iff.2 fun h => he ?_
        exact of_decide_eq_true (List.all_eq_true.1 h k (List.mem_range.2 hk4))
      have e : loadM bs a s off = (cm0, 42) := by unfold loadM; rw [hl]; rfl
      exact ⟨_, ⟨by unfold loadV; rw [e]; rfl, rfl⟩, H.dp⟩
  · have hc := of_decide_eq_false hc
    have : k = 4 := by omega
    subst this
    have hl : ldOk bs.length a s off = true := by
      unfold ldOk
      exact List.all_eq_true.2 fun k hk => decide_eq_true (hg k (List.mem_range.1 hk))
    repeat (first | refine ldI_a H ?_ | refine ldL_a H ?_ | refine ldB_a H ?_ | refine ldP_a H ?_ | refine ldS_a H ?_)
    refine call_p H (Decode_t (rd8 bs a off 0) (rd8 bs a off 1) (rd8 bs a off 2) (rd8 bs a off 3)) (by repeat (first | exact Cut.nil | (apply Cut.cons; (repeat (first | exact Pick.here | apply Pick.there))))) fun wx H => ?_
    have hd : decV [rd8 bs a off 0, rd8 bs a off 1, rd8 bs a off 2, rd8 bs a off 3] = loadV bs a s off := by
      unfold decV loadV loadM
      rw [hl, if_pos rfl]
      show (match decM (rds bs a off 4) with | some c => _ | none => _) = _
      cases decM (rds bs a off 4) <;> rfl
    rw [hd]
    unfold loadV
    generalize loadM bs a s off = r
    refine ⟨_, _, _, _, _, _, _, _, _, _, rfl, ?_⟩
    refine st1_a H fun wx H => ?_
    refine st1_a H fun wx H => ?_
    refine st1_a H fun wx H => ?_
    refine st1_a H fun wx H => ?_
    refine st1_a H fun wx H => ?_
    refine st1_a H fun wx H => ?_
    refine st1_a H fun wx H => ?_
    refine st1_a H fun wx H => ?_
    refine st1_a H fun wx H => ?_
    repeat (first | refine ldI_a H ?_ | refine ldL_a H ?_ | refine ldB_a H ?_ | refine ldP_a H ?_ | refine ldS_a H ?_)
    exact ⟨_, ⟨rfl, rfl⟩, H.dp⟩
def storeE (len : Nat) (a s off : Int) (c : Cm) : Int := match encM c with
  | none => 160
  | some _ => if mayE s off 8 ≠ 0 ∨ off > IntKind.i64.wrap (s - 32) ∨ holdsB len a s = false then 42 else 0
def stW (bs : List Int) (a s off : Int) (ws : List Int) : Nat → List Int
  | 0 => bs
  | k + 1 => writeM (stW bs a s off ws k) a s (offK off k) 8 (ws.getD k 0)
theorem stW_length (bs : List Int) (a s off : Int) (ws : List Int) : ∀ k, (stW bs a s off ws k).length = bs.length
  | 0 => rfl
  | k + 1 => by rw [stW, writeM_length, stW_length bs a s off ws k]
def storeM (bs : List Int) (a s off : Int) (c : Cm) : List Int := match encM c with
  | none => bs
  | some ws => if mayE s off 8 ≠ 0 ∨ off > IntKind.i64.wrap (s - 32) ∨ holdsB bs.length a s = false then bs else stW bs a s off ws 4
theorem May_t (s o n : Int) : Tri P F.mem_May [.int .i64 s, .int .i64 o, .int .i64 n] [] fun v L' => v = .int .i64 (mayE s o n) ∧ L' = [] :=
  Tri.of_pure fun w S _ => may_plain s o n w
theorem Store_t (b : Nat) (bs : List Int) (a s off : Int) (c : Cm) : Tri P F.cmd_Store [ptr b, winV a s, .int .i64 off, cmV c] [memI b bs] fun v L' => v = .int .i64 (storeE bs.length a s off c) ∧ L' = [memI b (storeM bs a s off c)] := by
  intro w S hS
  refine cmd_Store_cv ?_
  unfold cmd_Store
  have H := Own.start hS
  refine alc_o H fun b14 wx H => alc_o H fun b16 wx H => ?_
  repeat (first | refine ldI_a H ?_ | refine ldL_a H ?_ | refine ldB_a H ?_ | refine ldP_a H ?_ | refine ldS_a H ?_)
  refine call_pa H (Encode_t c) fun wx H => ?_
  cases he : encM c with
  | none =>
    have e : encV c = .tuple [.agg [.int .u64 0, .int .u64 0, .int .u64 0, .int .u64 0].toArray, .int .i64 160].toArray := by unfold encV; rw [he]; rfl
    rw [e]
    refine ⟨_, _, _, _, _, rfl, ?_⟩
    refine alc_o H fun b34 wx H => ?_
    refine st1_a H fun wx H => ?_
    refine st1_a H fun wx H => ?_
    refine st1_a H fun wx H => ?_
    refine st1_a H fun wx H => ?_
    refine cnd_i (fun _ => ⟨[memI b (storeM bs a s off c)], ⟨by unfold storeE; rw [he], rfl⟩, ?_⟩) (fun h => by cases h)
    unfold storeM
    rw [he]
    exact H.dp
  | some ws =>
    obtain ⟨h4, -⟩ := enc_range he
    obtain ⟨x0, x1, x2, x3, rfl⟩ := four h4
    have e : encV c = .tuple [.agg [.int .u64 x0, .int .u64 x1, .int .u64 x2, .int .u64 x3].toArray, .int .i64 0].toArray := by unfold encV; rw [he]; rfl
    rw [e]
    refine ⟨_, _, _, _, _, rfl, ?_⟩
    refine alc_o H fun b34 wx H => ?_
    refine st1_a H fun wx H => ?_
    refine st1_a H fun wx H => ?_
    refine st1_a H fun wx H => ?_
    refine st1_a H fun wx H => ?_
    refine cnd_i (fun h => by cases h) fun _ => ?_
    repeat (first | refine ldI_a H ?_ | refine ldL_a H ?_ | refine ldB_a H ?_ | refine ldP_a H ?_ | refine ldS_a H ?_)
    refine call_pa H (May_t s off 8) fun wx H => ?_
    refine ⟨_, rfl, join_o ?_⟩
    have bad : (mayE s off 8 ≠ 0 ∨ off > IntKind.i64.wrap (s - 32) ∨ holdsB bs.length a s = false) → ∀ wx, X.Own w S [row b34 [.int .u64 x0, .int .u64 x1, .int .u64 x2, .int .u64 x3] tW4, row b16 c.cells tCmd, row b14 [.int .i64 a, .int .i64 s] tWin, memI b bs] wx →
        cmd_Store_j1 (some ⟨b, 0, none⟩) off (fun v w' => ∃ L', (v = .int .i64 (storeE bs.length a s off c) ∧ L' = [memI b (storeM bs a s off c)]) ∧ X.Own w S L' w') b14 b34 true wx := by
      intro hb wx H
      unfold cmd_Store_j1
      refine cnd_i (fun _ => ⟨[memI b (storeM bs a s off c)], ⟨by unfold storeE; rw [he]; dsimp only; rw [if_pos hb], rfl⟩, ?_⟩) (fun h => by cases h)
      unfold storeM
      rw [he]
      dsimp only
      rw [if_pos hb]
      exact H.dp
    refine cnd_i (fun h => bad (.inl (by simpa using h)) _ H) fun h => ?_
    repeat (first | refine ldI_a H ?_ | refine ldL_a H ?_ | refine ldB_a H ?_ | refine ldP_a H ?_ | refine ldS_a H ?_)
    refine cnd_i (fun h2 => bad (.inr (.inl (of_decide_eq_true h2))) _ H) fun h2 => ?_
    repeat (first | refine ldI_a H ?_ | refine ldL_a H ?_ | refine ldB_a H ?_ | refine ldP_a H ?_ | refine ldS_a H ?_)
    refine call_pa H (holds_t b bs a s) fun wx H => ?_
    refine ⟨_, rfl, ?_⟩
    cases hh : holdsB bs.length a s
    · exact bad (.inr (.inr hh)) _ H
    have hn : ¬ (mayE s off 8 ≠ 0 ∨ off > IntKind.i64.wrap (s - 32) ∨ holdsB bs.length a s = false) := by
      rw [hh]
      have h := of_decide_eq_false h2
      rintro (h3 | h3 | h3)
      · exact h3 (by simpa using ‹(mayE s off 8 != 0) = false›)
      · exact h h3
      · cases h3
    unfold cmd_Store_j1
    refine cnd_i (fun h => by cases h) fun _ => ?_
    repeat (first | refine ldI_a H ?_ | refine ldL_a H ?_ | refine ldB_a H ?_ | refine ldP_a H ?_ | refine ldS_a H ?_)
    refine loop_o (fun (st : Int) L => ∃ k : Nat, k ≤ 4 ∧ st = k ∧ L = [row b34 [.int .u64 x0, .int .u64 x1, .int .u64 x2, .int .u64 x3] tW4, row b16 c.cells tCmd, row b14 [.int .i64 a, .int .i64 s] tWin, memI b (stW bs a s off [x0, x1, x2, x3] k)])
      (fun (st : Int) => (4 - st).toNat) H ⟨0, by omega, rfl, rfl⟩ ?_
    rintro _ _ wx ⟨k, hk, rfl, rfl⟩ H
    unfold cmd_Store_l0
    refine cnd_i (fun hc => ?_) fun hc => ?_
    · have hc := of_decide_eq_true hc
      have hk4 : k < 4 := by omega
      have e1 : IntKind.i64.wrap ((k : Int) + 1) = ((k + 1 : Nat) : Int) := by rw [W_id (by omega) (by omega)]; push_cast; rfl
      refine ix_i hk4 ⟨.int .u64 ([x0, x1, x2, x3].getD k 0), by rw [Nat.mul_one]; exact wI_get (ws := [x0, x1, x2, x3]) hk4, _, rfl, ?_⟩
      repeat (first | refine ldI_a H ?_ | refine ldL_a H ?_ | refine ldB_a H ?_ | refine ldP_a H ?_ | refine ldS_a H ?_)
      refine call_oa H (write_t b (stW bs a s off [x0, x1, x2, x3] k) a s (offK off k) 8 ([x0, x1, x2, x3].getD k 0)) fun vx L' wx hq H => ?_
      obtain ⟨rfl, rfl⟩ := hq
      simp only [List.cons_append, List.nil_append] at H
      refine ⟨_, rfl, ?_⟩
      rw [e1]
      exact ⟨⟨_, ⟨k + 1, by omega, rfl, rfl⟩, H.perm (L1 := [row b34 [.int .u64 x0, .int .u64 x1, .int .u64 x2, .int .u64 x3] tW4, row b16 c.cells tCmd, row b14 [.int .i64 a, .int .i64 s] tWin, memI b (stW bs a s off [x0, x1, x2, x3] (k + 1))]) (F := []) (by repeat (first | exact Cut.nil | (apply Cut.cons; (repeat (first | exact Pick.here | apply Pick.there)))))⟩, by omega⟩
    · have hc := of_decide_eq_false hc
      have : k = 4 := by omega
      subst this
      refine ⟨[memI b (storeM bs a s off c)], ⟨by unfold storeE; rw [he]; dsimp only; rw [if_neg hn], rfl⟩, ?_⟩
      unfold storeM
      rw [he]
      dsimp only
      rw [if_neg hn]
      exact H.dp
end Go.Proofs.YtggmapokmlbgbaaDoor
