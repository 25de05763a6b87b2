/-
  lpi: two parts in one memory; behind a script.
-/
import Derived.Test.YtgjddhpblpfneaaDoorL13
namespace Go.Proofs.YtgjddhpblpfneaaDoor
open Go Go.RowKit X
set_option maxRecDepth 100000
set_option linter.unusedVariables false
set_option linter.unusedSimpArgs false
set_option maxHeartbeats 2000000
theorem slL_take {p : Option Addr} {n c : Nat} {m : Nat} {K : Option Addr → Nat → Nat → Prop} (hm : m ≤ c) (h : K p m c) : slL p n c 1 none (some (m : Int)) none K := by
  unfold slL slB
  refine ⟨fun x h => (by cases h), fun x h => ?_, fun x h => (by cases h), ?_⟩
  · cases h; exact ⟨by omega, by show (m : Int) ≤ ((c : Nat) : Int); omega⟩
  · have e : (if c = 0 then p else p.map fun a => a.add (0 * 1)) = p := by
      split
      · rfl
      · cases p with
        | none => rfl
        | some a => simp [Addr.add]
    show K (if c = 0 then p else p.map fun a => a.add (0 * 1)) _ _
    rw [e]; exact h
def begBs (xs : List Int) : List Int := over (List.replicate 200 0) 0 (xs.take 200)
def begS (a b : Int) (xs : List Int) : LS := (newLp (1 + a % 70) 0 70 160 9, newLp (1 + b % 70) 80 70 180 9, begBs xs)
theorem begBs_len (xs : List Int) : (begBs xs).length = 200 := by
  unfold begBs
  rw [over_length (by simp; omega)]; simp
theorem begBs_range {xs : List Int} (h : ∀ x ∈ xs, 0 ≤ x ∧ x < 256) : ∀ x ∈ begBs xs, 0 ≤ x ∧ x < 256 :=
  over_range (fun x hx => by rw [(List.mem_replicate.1 hx).2]; omega) fun x hx => h x (List.mem_of_mem_take hx)
theorem beg_new {m : Int} (hm : 1 ≤ m ∧ m ≤ 70) {pa qa : Int} (hp : 0 ≤ pa ∧ pa ≤ 130) (hq : 0 ≤ qa ∧ qa ≤ 191) : newE 200 m pa 70 qa 9 = 0 := by
  unfold newE
  rw [if_neg (by omega), if_neg]
  simp only [not_or, Bool.not_eq_false]
  exact ⟨holdsB_iff.2 (by omega), holdsB_iff.2 (by omega), by omega, by omega⟩
theorem begS_ok {a b : Int} (ha : 0 ≤ a ∧ a ≤ 255) (hb : 0 ≤ b ∧ b ≤ 255) {xs : List Int} (h : ∀ x ∈ xs, 0 ≤ x ∧ x < 256) : LsOk (begS a b xs) := by
  have h1 := newE_ok (beg_new (m := 1 + a % 70) (by omega) (pa := 0) (qa := 160) (by omega) (by omega))
  have h2 := newE_ok (beg_new (m := 1 + b % 70) (by omega) (pa := 80) (qa := 180) (by omega) (by omega))
  refine ⟨⟨?_, ?_⟩, newLp_ok h1.1 _ _ _ _, newLp_ok h2.1 _ _ _ _, begBs_range h, ?_, ?_⟩
  · show (newLp _ _ _ _ _).Fit (begBs xs).length
    rw [begBs_len]; exact h1.2
  · show (newLp _ _ _ _ _).Fit (begBs xs).length
    rw [begBs_len]; exact h2.2
  · show (begBs xs).length ≤ _
    rw [begBs_len]; omega
  · intro k k' hk hk'
    have hk : (k : Int) < 1 + a % 70 := hk
    have hk' : (k' : Int) < 1 + b % 70 := hk'
    show at8 160 k ≠ at8 180 k'
    unfold at8
    omega
theorem sl_take {w : World} {q : Option Addr} {xs : List Int} (h : Sl w q (u8s xs)) (m : Nat) : Sl w q (u8s (xs.take m)) := by
  intro j u hj
  refine h j u ?_
  unfold u8s at *
  rw [List.getElem?_map] at *
  rw [List.getElem?_take] at hj
  split at hj
  · exact hj
  · cases hj
def Pr.val (p : Pr) : Value := .agg p.cells.toArray
theorem many70 {a : Int} (h : 0 ≤ a ∧ a ≤ 255) : IntKind.i64.wrap (1 + IntKind.i64.wrap (Int.tmod a 70)) = 1 + a % 70 := by
  rw [Int.tmod_eq_emod_of_nonneg h.1, W_id (n := a % 70) (by omega) (by omega), W_id (by omega) (by omega)]
abbrev allL (p : Pr) (S : LS) (W : World) : List It := lsL p.l0 p.l1 p.m S ++ (rsL p.d0 p.d1 p.r S ++ [keep W])
theorem begun_t {W : World} {q : Option Addr} {c : Nat} {xs : List Int} (hq0 : Sl W q (u8s xs)) (hc : xs.length ≤ c) (hx : ∀ x ∈ xs, 0 ≤ x ∧ x < 256) {a b : Int} (ha : 0 ≤ a ∧ a ≤ 255) (hb : 0 ≤ b ∧ b ≤ 255) :
    Tri P F.crierlaw15_begun [.int .u8 a, .int .u8 b, .slice q xs.length c] [keep W] fun v L' => ∃ p : Pr, v = p.val ∧ L' = allL p (begS a b xs) W := by
  intro w S hS
  refine crierlaw15_begun_cv ?_
  unfold crierlaw15_begun
  have H := Own.start hS
  refine alc_o H fun b6 wx H => alc_o H fun b8 wx H => ?_
  refine call_o H (lawNewX_t 200) (by repeat (first | exact Cut.nil | (apply Cut.cons; (repeat (first | exact Pick.here | apply Pick.there))))) fun vx L' wx hq H => ?_
  obtain ⟨m, r, rfl, rfl⟩ := hq
  have eN : lawN 200 = 200 := by decide
  rw [eN] at H
  simp only [List.cons_append, List.nil_append] at H
  refine ⟨_, _, rfl, ?_⟩
  refine st1_o H (by repeat (first | exact Rep.here | apply Rep.there)) (by simp) fun wx H => ?_
  refine st1_o H (by repeat (first | exact Rep.here | apply Rep.there)) (by simp) fun wx H => ?_
  simp only [List.set_cons_zero, List.set_cons_succ] at H
  repeat (first | refine ldI_o H (by repeat (first | exact Pick.here | apply Pick.there)) (by rfl) ?_ | refine ldL_o H (by repeat (first | exact Pick.here | apply Pick.there)) (by rfl) ?_ | refine ldB_o H (by repeat (first | exact Pick.here | apply Pick.there)) (by rfl) ?_ | refine ldP_o H (by repeat (first | exact Pick.here | apply Pick.there)) (by rfl) ?_ | refine ldS_o H (by repeat (first | exact Pick.here | apply Pick.there)) (by rfl) ?_)
  refine cnd_i (fun h => by cases h) fun _ => ?_
  refine join_o ?_
  -- the bytes are put into both
  have go : ∀ (l c' : Nat), l = (xs.take 200).length → crierlaw15_begun_j2 a b (fun v w' => ∃ L', (∃ p : Pr, v = p.val ∧ L' = allL p (begS a b xs) W) ∧ X.Own w S L' w') b6 b8 q l c' wx := by
    rintro _ c' rfl
    unfold crierlaw15_begun_j2
    have hl200 : (xs.take 200).length ≤ 200 := by rw [List.length_take]; omega
    have hh : (holdsB (List.replicate 200 (0 : Int)).length 0 200 && decide (((xs.take 200).length : Int) ≤ 200)) = true := by
      simp only [Bool.and_eq_true]
      exact ⟨holdsB_iff.2 (by simp), decide_eq_true (by omega)⟩
    repeat (first | refine ldI_o H (by repeat (first | exact Pick.here | apply Pick.there)) (by rfl) ?_ | refine ldL_o H (by repeat (first | exact Pick.here | apply Pick.there)) (by rfl) ?_ | refine ldB_o H (by repeat (first | exact Pick.here | apply Pick.there)) (by rfl) ?_ | refine ldP_o H (by repeat (first | exact Pick.here | apply Pick.there)) (by rfl) ?_ | refine ldS_o H (by repeat (first | exact Pick.here | apply Pick.there)) (by rfl) ?_)
    refine call_o H (put_t m (List.replicate 200 0) 0 200 (q := q) (c' := c') (xs := xs.take 200) (keep W) (keep_sl (sl_take hq0 200)) (fun x h => hx x (List.mem_of_mem_take h))) (by repeat (first | exact Cut.nil | (apply Cut.cons; (repeat (first | exact Pick.here | apply Pick.there))))) fun vx L' wx hq H => ?_
    rw [hh, if_pos rfl, if_pos rfl] at hq
    obtain ⟨rfl, rfl⟩ := hq
    simp only [List.cons_append, List.nil_append] at H
    refine ⟨_, rfl, ?_⟩
    repeat (first | refine ldI_o H (by repeat (first | exact Pick.here | apply Pick.there)) (by rfl) ?_ | refine ldL_o H (by repeat (first | exact Pick.here | apply Pick.there)) (by rfl) ?_ | refine ldB_o H (by repeat (first | exact Pick.here | apply Pick.there)) (by rfl) ?_ | refine ldP_o H (by repeat (first | exact Pick.here | apply Pick.there)) (by rfl) ?_ | refine ldS_o H (by repeat (first | exact Pick.here | apply Pick.there)) (by rfl) ?_)
    refine call_o H (memPut_t r (List.replicate 200 0) 0 200 (q := q) (c' := c') (xs := xs.take 200) (keep W) (keep_sl (sl_take hq0 200)) (fun x h => hx x (List.mem_of_mem_take h))) (by repeat (first | exact Cut.nil | (apply Cut.cons; (repeat (first | exact Pick.here | apply Pick.there))))) fun vx L' wx hq H => ?_
    rw [hh, if_pos rfl, if_pos rfl] at hq
    obtain ⟨rfl, rfl⟩ := hq
    simp only [List.cons_append, List.nil_append] at H
    refine ⟨_, rfl, by omega, by omega, alc_o H fun b53 wx H => ?_⟩
    have eB : over (List.replicate 200 0) (Int.toNat 0) (xs.take 200) = begBs xs := rfl
    rw [eB] at H
    refine st1_o H (by repeat (first | exact Rep.here | apply Rep.there)) (by simp) fun wx H => ?_
    refine st1_o H (by repeat (first | exact Rep.here | apply Rep.there)) (by simp) fun wx H => ?_
    simp only [List.set_cons_zero, List.set_cons_succ] at H
    rw [many70 ha, many70 hb] at H
    have hle := begBs_len xs
    let R : List It := [row b53 [.int .i64 (1 + a % 70), .int .i64 (1 + b % 70)] T.t101, memI m (begBs xs), memI r (begBs xs), row b6 [.pointer none, .pointer none, .pointer none, .pointer none, .pointer none, .pointer none, .bool false] T.t51, keep W]
    refine loop_o (fun (st : Int) L => (st = 0 ∧ L = row b8 [ptrV m, ptrV r, .pointer none, .pointer none, .pointer none, .pointer none, .bool false] T.t51 :: R) ∨
      (st = 1 ∧ ∃ l0 d0, L = row b8 [ptrV m, ptrV r, ptrV l0, .pointer none, ptrV d0, .pointer none, .bool false] T.t51 :: lpI l0 (newLp (1 + a % 70) 0 70 160 9) :: rI d0 (newLp (1 + a % 70) 0 70 160 9) :: R) ∨
      (st = 2 ∧ ∃ l0 d0 l1 d1, L = row b8 [ptrV m, ptrV r, ptrV l0, ptrV l1, ptrV d0, ptrV d1, .bool false] T.t51 :: lpI l0 (newLp (1 + a % 70) 0 70 160 9) :: rI d0 (newLp (1 + a % 70) 0 70 160 9) :: lpI l1 (newLp (1 + b % 70) 80 70 180 9) :: rI d1 (newLp (1 + b % 70) 80 70 180 9) :: R))
      (fun (st : Int) => (2 - st).toNat) (H.drop (by repeat (first | exact Cut.nil | (apply Cut.cons; (repeat (first | exact Pick.here | apply Pick.there)))))) (.inl ⟨rfl, rfl⟩) ?_
    rintro _ _ wx (⟨rfl, rfl⟩ | ⟨rfl, l0, d0, rfl⟩ | ⟨rfl, l0, d0, l1, d1, rfl⟩) H
    all_goals (dsimp only [R] at H; unfold crierlaw15_begun_l1)
    · -- round K
      have e1 : IntKind.i64.wrap (80 * 0) = 0 := by decide
      have e2 : IntKind.i64.wrap (160 + IntKind.i64.wrap (20 * 0)) = 160 := by decide
      have e3 : IntKind.i64.wrap (0 + 1) = 1 := by decide
      have eN0 : newE (begBs xs).length (1 + a % 70) 0 70 160 9 = 0 := by rw [begBs_len]; exact beg_new (by omega) (by omega) (by omega)
      refine cnd_i (fun _ => ?_) (fun h => by cases h)
      refine alc_o H fun b61 wx H => alc_o H fun b63 wx H => ?_
      rw [e1, e2, e3]
      refine st1_o H (by repeat (first | exact Rep.here | apply Rep.there)) (by simp) fun wx H => ?_
      refine st1_o H (by repeat (first | exact Rep.here | apply Rep.there)) (by simp) fun wx H => ?_
      refine st1_o H (by repeat (first | exact Rep.here | apply Rep.there)) (by simp) fun wx H => ?_
      refine st1_o H (by repeat (first | exact Rep.here | apply Rep.there)) (by simp) fun wx H => ?_
      simp only [List.set_cons_zero, List.set_cons_succ] at H
      refine drw_o H fun wx H => ?_
      repeat (first | refine ldI_o H (by repeat (first | exact Pick.here | apply Pick.there)) (by rfl) ?_ | refine ldL_o H (by repeat (first | exact Pick.here | apply Pick.there)) (by rfl) ?_ | refine ldB_o H (by repeat (first | exact Pick.here | apply Pick.there)) (by rfl) ?_ | refine ldP_o H (by repeat (first | exact Pick.here | apply Pick.there)) (by rfl) ?_ | refine ldS_o H (by repeat (first | exact Pick.here | apply Pick.there)) (by rfl) ?_)
      refine ix_i (i := 0) (by omega) ?_
      repeat (first | refine ldI_o H (by repeat (first | exact Pick.here | apply Pick.there)) (by rfl) ?_ | refine ldL_o H (by repeat (first | exact Pick.here | apply Pick.there)) (by rfl) ?_ | refine ldB_o H (by repeat (first | exact Pick.here | apply Pick.there)) (by rfl) ?_ | refine ldP_o H (by repeat (first | exact Pick.here | apply Pick.there)) (by rfl) ?_ | refine ldS_o H (by repeat (first | exact Pick.here | apply Pick.there)) (by rfl) ?_)
      refine call_o H (newP_t m (begBs xs) (1 + a % 70) 0 70 160 9 (by unfold I64; omega)) (by repeat (first | exact Cut.nil | (apply Cut.cons; (repeat (first | exact Pick.here | apply Pick.there))))) fun vx L' wx hq H => ?_
      rw [if_pos eN0] at hq
      obtain ⟨l0, rfl, rfl⟩ := hq
      simp only [List.cons_append, List.nil_append] at H
      refine ⟨_, _, rfl, ix_i (i := 0) (by omega) ?_⟩
      refine st1_o H (b := b8) (i := 2) (v := ptrV l0) (by repeat (first | exact Rep.here | apply Rep.there)) (by simp) fun wx H => ?_
      simp only [List.set_cons_zero, List.set_cons_succ] at H
      refine drw_o H fun wx H => ?_
      repeat (first | refine ldI_o H (by repeat (first | exact Pick.here | apply Pick.there)) (by rfl) ?_ | refine ldL_o H (by repeat (first | exact Pick.here | apply Pick.there)) (by rfl) ?_ | refine ldB_o H (by repeat (first | exact Pick.here | apply Pick.there)) (by rfl) ?_ | refine ldP_o H (by repeat (first | exact Pick.here | apply Pick.there)) (by rfl) ?_ | refine ldS_o H (by repeat (first | exact Pick.here | apply Pick.there)) (by rfl) ?_)
      refine ix_i (i := 0) (by omega) ?_
      repeat (first | refine ldI_o H (by repeat (first | exact Pick.here | apply Pick.there)) (by rfl) ?_ | refine ldL_o H (by repeat (first | exact Pick.here | apply Pick.there)) (by rfl) ?_ | refine ldB_o H (by repeat (first | exact Pick.here | apply Pick.there)) (by rfl) ?_ | refine ldP_o H (by repeat (first | exact Pick.here | apply Pick.there)) (by rfl) ?_ | refine ldS_o H (by repeat (first | exact Pick.here | apply Pick.there)) (by rfl) ?_)
      refine call_o H (rNew_t r (begBs xs) (1 + a % 70) 0 70 160 9 (by unfold I64; omega)) (by repeat (first | exact Cut.nil | (apply Cut.cons; (repeat (first | exact Pick.here | apply Pick.there))))) fun vx L' wx hq H => ?_
      rw [if_pos eN0] at hq
      obtain ⟨d0, rfl, rfl⟩ := hq
      simp only [List.cons_append, List.nil_append] at H
      refine ⟨_, _, rfl, ix_i (i := 0) (by omega) ?_⟩
      refine st1_o H (b := b8) (i := 4) (v := ptrV d0) (by repeat (first | exact Rep.here | apply Rep.there)) (by simp) fun wx H => ?_
      simp only [List.set_cons_zero, List.set_cons_succ] at H
      exact ⟨⟨_, .inr (.inl ⟨rfl, l0, d0, rfl⟩), H.drop (by repeat (first | exact Cut.nil | (apply Cut.cons; (repeat (first | exact Pick.here | apply Pick.there)))))⟩, by decide⟩
    · -- round K
      have e1 : IntKind.i64.wrap (80 * 1) = 80 := by decide
      have e2 : IntKind.i64.wrap (160 + IntKind.i64.wrap (20 * 1)) = 180 := by decide
      have e3 : IntKind.i64.wrap (1 + 1) = 2 := by decide
      have eN0 : newE (begBs xs).length (1 + b % 70) 80 70 180 9 = 0 := by rw [begBs_len]; exact beg_new (by omega) (by omega) (by omega)
      refine cnd_i (fun _ => ?_) (fun h => by cases h)
      refine alc_o H fun b61 wx H => alc_o H fun b63 wx H => ?_
      rw [e1, e2, e3]
      refine st1_o H (by repeat (first | exact Rep.here | apply Rep.there)) (by simp) fun wx H => ?_
      refine st1_o H (by repeat (first | exact Rep.here | apply Rep.there)) (by simp) fun wx H => ?_
      refine st1_o H (by repeat (first | exact Rep.here | apply Rep.there)) (by simp) fun wx H => ?_
      refine st1_o H (by repeat (first | exact Rep.here | apply Rep.there)) (by simp) fun wx H => ?_
      simp only [List.set_cons_zero, List.set_cons_succ] at H
      refine drw_o H fun wx H => ?_
      repeat (first | refine ldI_o H (by repeat (first | exact Pick.here | apply Pick.there)) (by rfl) ?_ | refine ldL_o H (by repeat (first | exact Pick.here | apply Pick.there)) (by rfl) ?_ | refine ldB_o H (by repeat (first | exact Pick.here | apply Pick.there)) (by rfl) ?_ | refine ldP_o H (by repeat (first | exact Pick.here | apply Pick.there)) (by rfl) ?_ | refine ldS_o H (by repeat (first | exact Pick.here | apply Pick.there)) (by rfl) ?_)
      refine ix_i (i := 1) (by omega) ?_
      repeat (first | refine ldI_o H (by repeat (first | exact Pick.here | apply Pick.there)) (by rfl) ?_ | refine ldL_o H (by repeat (first | exact Pick.here | apply Pick.there)) (by rfl) ?_ | refine ldB_o H (by repeat (first | exact Pick.here | apply Pick.there)) (by rfl) ?_ | refine ldP_o H (by repeat (first | exact Pick.here | apply Pick.there)) (by rfl) ?_ | refine ldS_o H (by repeat (first | exact Pick.here | apply Pick.there)) (by rfl) ?_)
      refine call_o H (newP_t m (begBs xs) (1 + b % 70) 80 70 180 9 (by unfold I64; omega)) (by repeat (first | exact Cut.nil | (apply Cut.cons; (repeat (first | exact Pick.here | apply Pick.there))))) fun vx L' wx hq H => ?_
      rw [if_pos eN0] at hq
      obtain ⟨l1, rfl, rfl⟩ := hq
      simp only [List.cons_append, List.nil_append] at H
      refine ⟨_, _, rfl, ix_i (i := 1) (by omega) ?_⟩
      refine st1_o H (b := b8) (i := 3) (v := ptrV l1) (by repeat (first | exact Rep.here | apply Rep.there)) (by simp) fun wx H => ?_
      simp only [List.set_cons_zero, List.set_cons_succ] at H
      refine drw_o H fun wx H => ?_
      repeat (first | refine ldI_o H (by repeat (first | exact Pick.here | apply Pick.there)) (by rfl) ?_ | refine ldL_o H (by repeat (first | exact Pick.here | apply Pick.there)) (by rfl) ?_ | refine ldB_o H (by repeat (first | exact Pick.here | apply Pick.there)) (by rfl) ?_ | refine ldP_o H (by repeat (first | exact Pick.here | apply Pick.there)) (by rfl) ?_ | refine ldS_o H (by repeat (first | exact Pick.here | apply Pick.there)) (by rfl) ?_)
      refine ix_i (i := 1) (by omega) ?_
      repeat (first | refine ldI_o H (by repeat (first | exact Pick.here | apply Pick.there)) (by rfl) ?_ | refine ldL_o H (by repeat (first | exact Pick.here | apply Pick.there)) (by rfl) ?_ | refine ldB_o H (by repeat (first | exact Pick.here | apply Pick.there)) (by rfl) ?_ | refine ldP_o H (by repeat (first | exact Pick.here | apply Pick.there)) (by rfl) ?_ | refine ldS_o H (by repeat (first | exact Pick.here | apply Pick.there)) (by rfl) ?_)
      refine call_o H (rNew_t r (begBs xs) (1 + b % 70) 80 70 180 9 (by unfold I64; omega)) (by repeat (first | exact Cut.nil | (apply Cut.cons; (repeat (first | exact Pick.here | apply Pick.there))))) fun vx L' wx hq H => ?_
      rw [if_pos eN0] at hq
      obtain ⟨d1, rfl, rfl⟩ := hq
      simp only [List.cons_append, List.nil_append] at H
      refine ⟨_, _, rfl, ix_i (i := 1) (by omega) ?_⟩
      refine st1_o H (b := b8) (i := 5) (v := ptrV d1) (by repeat (first | exact Rep.here | apply Rep.there)) (by simp) fun wx H => ?_
      simp only [List.set_cons_zero, List.set_cons_succ] at H
      exact ⟨⟨_, .inr (.inr ⟨rfl, l0, d0, l1, d1, rfl⟩), H.drop (by repeat (first | exact Cut.nil | (apply Cut.cons; (repeat (first | exact Pick.here | apply Pick.there)))))⟩, by decide⟩
    · refine cnd_i (fun h => by cases h) fun _ => join_o ?_
      refine ix_i (i := 0) (by omega) ?_
      refine ldP_o H (b := b8) (i := 2) (by repeat (first | exact Pick.here | apply Pick.there)) (by rfl) (cnd_i (fun _ => ?_) (fun h => by cases h))
      refine ix_i (i := 1) (by omega) ?_
      refine ldP_o H (b := b8) (i := 3) (by repeat (first | exact Pick.here | apply Pick.there)) (by rfl) ?_
      refine st1_o H (by repeat (first | exact Rep.here | apply Rep.there)) (by simp) fun wx H => ?_
      simp only [List.set_cons_zero, List.set_cons_succ] at H
      unfold crierlaw15_begun_j0
      repeat (first | refine ldI_o H (by repeat (first | exact Pick.here | apply Pick.there)) (by rfl) ?_ | refine ldL_o H (by repeat (first | exact Pick.here | apply Pick.there)) (by rfl) ?_ | refine ldB_o H (by repeat (first | exact Pick.here | apply Pick.there)) (by rfl) ?_ | refine ldP_o H (by repeat (first | exact Pick.here | apply Pick.there)) (by rfl) ?_ | refine ldS_o H (by repeat (first | exact Pick.here | apply Pick.there)) (by rfl) ?_)
      refine st1_o H (by repeat (first | exact Rep.here | apply Rep.there)) (by simp) fun wx H => ?_
      refine st1_o H (by repeat (first | exact Rep.here | apply Rep.there)) (by simp) fun wx H => ?_
      refine st1_o H (by repeat (first | exact Rep.here | apply Rep.there)) (by simp) fun wx H => ?_
      refine st1_o H (by repeat (first | exact Rep.here | apply Rep.there)) (by simp) fun wx H => ?_
      refine st1_o H (by repeat (first | exact Rep.here | apply Rep.there)) (by simp) fun wx H => ?_
      refine st1_o H (by repeat (first | exact Rep.here | apply Rep.there)) (by simp) fun wx H => ?_
      refine st1_o H (by repeat (first | exact Rep.here | apply Rep.there)) (by simp) fun wx H => ?_
      simp only [List.set_cons_zero, List.set_cons_succ] at H
      repeat (first | refine ldI_o H (by repeat (first | exact Pick.here | apply Pick.there)) (by rfl) ?_ | refine ldL_o H (by repeat (first | exact Pick.here | apply Pick.there)) (by rfl) ?_ | refine ldB_o H (by repeat (first | exact Pick.here | apply Pick.there)) (by rfl) ?_ | refine ldP_o H (by repeat (first | exact Pick.here | apply Pick.there)) (by rfl) ?_ | refine ldS_o H (by repeat (first | exact Pick.here | apply Pick.there)) (by rfl) ?_)
      exact ⟨_, ⟨⟨m, r, l0, l1, d0, d1⟩, rfl, rfl⟩, H.drop (by repeat (first | exact Cut.nil | (apply Cut.cons; (repeat (first | exact Pick.here | apply Pick.there)))))⟩
  refine cnd_i (fun h => ?_) fun h => ?_
  · have h := of_decide_eq_true h
    refine slL_take (m := 200) (by omega) ?_
    exact go 200 _ (by rw [List.length_take]; omega)
  · have h := of_decide_eq_false h
    exact go xs.length _ (by rw [List.length_take]; omega)
theorem mvS_pa (S : LS) (id : Int) : (mvS S id).1.pa = S.1.pa ∧ (mvS S id).2.1.pa = S.2.1.pa := by
  unfold mvS; split
  · exact ⟨(setMs_same _ _ _).2.2.2.2.1, (setMs_same _ _ _).2.2.2.2.1⟩
  · exact ⟨rfl, rfl⟩
theorem mvAll_pa (S : LS) (l : List Nat) : (mvAll S l).1.1.pa = S.1.pa ∧ (mvAll S l).1.2.1.pa = S.2.1.pa := by
  induction l using snoc_ind with
  | h0 => exact ⟨rfl, rfl⟩
  | h1 l u ih =>
    rw [mvAll_snoc]
    show (mvS _ _).1.pa = _ ∧ (mvS _ _).2.1.pa = _
    rw [(mvS_pa _ _).1, (mvS_pa _ _).2]; exact ih
theorem actS_pa (S : LS) (x : Act15) : (actS S x).1.pa = S.1.pa ∧ (actS S x).2.1.pa = S.2.1.pa := by
  unfold actS
  split
  · exact ⟨by show (enM _ _).1.pa = _; unfold enM; split <;> rfl, rfl⟩
  split
  · exact ⟨rfl, rfl⟩
  split
  · exact ⟨(setMs_same _ _ _).2.2.2.2.1, rfl⟩
  split
  · exact ⟨by show (invM _ _ _).pa = _; unfold invM; split <;> rfl, rfl⟩
  split
  · exact ⟨rfl, rfl⟩
  split
  · exact ⟨rfl, rfl⟩
  split
  · exact mvS_pa _ _
  split
  · exact mvAll_pa _ _
  · exact ⟨rfl, rfl⟩
theorem stepS_pa (S : LS) (x : Act15) : (stepS S x).1.pa = S.1.pa := by
  unfold stepS
  split
  · exact (actS_pa (swapS S) x).2
  · exact (actS_pa S x).1
theorem act_at {w : World} {q : Option Addr} {xs : List Act15} (h : Slots w q 5 (xs.map Act15.cells)) {k : Nat} {x : Act15} (hk : xs[k]? = some x) :
    ∃ a, q = some a ∧ w.cell? (a.add (k * 5)) = some (.int .i64 x.k) ∧ w.cell? ((a.add (k * 5)).add 1) = some (.int .i64 x.id) ∧ w.cell? ((a.add (k * 5)).add 2) = some (.bool x.is) ∧ w.cell? ((a.add (k * 5)).add 3) = some (.bool x.two) ∧ w.cell? ((a.add (k * 5)).add 4) = some (.int .u8 x.v) := by
  obtain ⟨a, ha, e0, e⟩ := slot_cells h hk
  exact ⟨a, ha, e0 _ rfl, e 1 _ rfl, e 2 _ rfl, e 3 _ rfl, e 4 _ rfl⟩
theorem played_t {W : World} (hT : TabAt W) {q : Option Addr} {c : Nat} {xs : List Int} (hq0 : Sl W q (u8s xs)) (hc : xs.length ≤ c) (hx : ∀ x ∈ xs, 0 ≤ x ∧ x < 256) {a b : Int} (ha : 0 ≤ a ∧ a ≤ 255) (hb : 0 ≤ b ∧ b ≤ 255)
    {q2 : Option Addr} {c2 : Nat} {ys : List Act15} (hq2 : Slots W q2 5 (ys.map Act15.cells)) (hy : ∀ y ∈ ys, y.Good) (hl : ys.length ≤ 9223372036854775807) :
    Tri P F.crierlaw15_played [.int .u8 a, .int .u8 b, .slice q xs.length c, .slice q2 ys.length c2] [keep W] fun v L' => ∃ (p : Pr) (S : LS), LsOk S ∧ S.2.2.length = 200 ∧ S.1.pa = 0 ∧ v = .tuple [p.val, .bool true].toArray ∧ L' = allL p S W := by
  intro w Sp hS
  refine crierlaw15_played_cv ?_
  unfold crierlaw15_played
  have H := Own.start hS
  refine alc_o H fun b9 wx H => ?_
  refine call_o H (begun_t hq0 hc hx ha hb) (by repeat (first | exact Cut.nil | (apply Cut.cons; (repeat (first | exact Pick.here | apply Pick.there))))) fun vx L' wx hq H => ?_
  obtain ⟨p, rfl, rfl⟩ := hq
  simp only [List.cons_append, List.nil_append] at H
  refine ⟨_, _, _, _, _, _, _, rfl, alc_o H fun b20 wx H => ?_⟩
  refine st1_o H (by repeat (first | exact Rep.here | apply Rep.there)) (by simp) fun wx H => ?_
  refine st1_o H (by repeat (first | exact Rep.here | apply Rep.there)) (by simp) fun wx H => ?_
  refine st1_o H (by repeat (first | exact Rep.here | apply Rep.there)) (by simp) fun wx H => ?_
  refine st1_o H (by repeat (first | exact Rep.here | apply Rep.there)) (by simp) fun wx H => ?_
  refine st1_o H (by repeat (first | exact Rep.here | apply Rep.there)) (by simp) fun wx H => ?_
  refine st1_o H (by repeat (first | exact Rep.here | apply Rep.there)) (by simp) fun wx H => ?_
  refine st1_o H (by repeat (first | exact Rep.here | apply Rep.there)) (by simp) fun wx H => ?_
  simp only [List.set_cons_zero, List.set_cons_succ] at H
  refine loop_o (fun (st : Int) L => ∃ (i : Nat) (S : LS), i ≤ ys.length ∧ st = i ∧ LsOk S ∧ S.2.2.length = 200 ∧ S.1.pa = 0 ∧ L = prL b20 p S W ++ [row b9 [.pointer none, .pointer none, .pointer none, .pointer none, .pointer none, .pointer none, .bool false] T.t51]) (fun (st : Int) => ((ys.length : Int) - st).toNat) (H.drop (by repeat (first | exact Cut.nil | (apply Cut.cons; (repeat (first | exact Pick.here | apply Pick.there))))))
    ⟨0, begS a b xs, by omega, rfl, begS_ok ha hb hx, begBs_len xs, rfl, rfl⟩ ?_
  rintro _ _ wx ⟨i, S, hi, rfl, hS1, hlen, hpa, rfl⟩ H
  simp only [List.cons_append, List.nil_append] at H
  unfold crierlaw15_played_l1
  refine join_o (ldB_o (n := true) (i := 6) (cs := p.cells) (t := T.t51) H (by repeat (first | exact Pick.here | apply Pick.there)) (by rfl) (cnd_i (fun _ => ?_) (fun h => by cases h)))
  unfold crierlaw15_played_j0
  refine cnd_i (fun hcc => ?_) fun hcc => ?_
  · have hcc := of_decide_eq_true hcc
    have hil : i < ys.length := by omega
    have hk : ys[i]? = some ys[i] := List.getElem?_eq_getElem hil
    refine ix_i hil ?_
    obtain ⟨a1, rfl, e0, e1, e2, e3, e4⟩ := act_at (Own.rdS H (i := keep W) (by repeat (first | exact Pick.here | apply Pick.there)) (keep_slots hq2)) hk
    refine ⟨_, e0, _, e1, _, e2, _, e3, _, e4, ?_⟩
    refine call_o H (does_t hT b20 p S hS1 ys[i] (hy _ (List.getElem_mem hil))) (by repeat (first | exact Cut.nil | (apply Cut.cons; (repeat (first | exact Pick.here | apply Pick.there))))) fun vx L' wx hq H => ?_
    obtain ⟨rfl, rfl⟩ := hq
    simp only [List.cons_append, List.nil_append] at H
    have hst := stepS_ok hS1 ys[i]
    rw [W_id (by omega) (by omega)]
    exact ⟨_, rfl, ⟨_, ⟨i + 1, _, by omega, by push_cast; rfl, hst.1, by rw [hst.2]; exact hlen, by rw [stepS_pa]; exact hpa, rfl⟩, H.drop (by repeat (first | exact Cut.nil | (apply Cut.cons; (repeat (first | exact Pick.here | apply Pick.there)))))⟩, by omega⟩
  · unfold Pr.cells at H
    refine drw_o H fun wx H => ?_
    repeat (first | refine ldI_o H (by repeat (first | exact Pick.here | apply Pick.there)) (by rfl) ?_ | refine ldL_o H (by repeat (first | exact Pick.here | apply Pick.there)) (by rfl) ?_ | refine ldB_o H (by repeat (first | exact Pick.here | apply Pick.there)) (by rfl) ?_ | refine ldP_o H (by repeat (first | exact Pick.here | apply Pick.there)) (by rfl) ?_ | refine ldS_o H (by repeat (first | exact Pick.here | apply Pick.there)) (by rfl) ?_)
    refine st1_o H (by repeat (first | exact Rep.here | apply Rep.there)) (by simp) fun wx H => ?_
    refine st1_o H (by repeat (first | exact Rep.here | apply Rep.there)) (by simp) fun wx H => ?_
    refine st1_o H (by repeat (first | exact Rep.here | apply Rep.there)) (by simp) fun wx H => ?_
    refine st1_o H (by repeat (first | exact Rep.here | apply Rep.there)) (by simp) fun wx H => ?_
    refine st1_o H (by repeat (first | exact Rep.here | apply Rep.there)) (by simp) fun wx H => ?_
    refine st1_o H (by repeat (first | exact Rep.here | apply Rep.there)) (by simp) fun wx H => ?_
    refine st1_o H (by repeat (first | exact Rep.here | apply Rep.there)) (by simp) fun wx H => ?_
    simp only [List.set_cons_zero, List.set_cons_succ] at H
    refine ⟨?_, ?_⟩
    · repeat (first | refine ldI_o H (by repeat (first | exact Pick.here | apply Pick.there)) (by rfl) ?_ | refine ldL_o H (by repeat (first | exact Pick.here | apply Pick.there)) (by rfl) ?_ | refine ldB_o H (by repeat (first | exact Pick.here | apply Pick.there)) (by rfl) ?_ | refine ldP_o H (by repeat (first | exact Pick.here | apply Pick.there)) (by rfl) ?_ | refine ldS_o H (by repeat (first | exact Pick.here | apply Pick.there)) (by rfl) ?_)
      rfl
    repeat (first | refine ldI_o H (by repeat (first | exact Pick.here | apply Pick.there)) (by rfl) ?_ | refine ldL_o H (by repeat (first | exact Pick.here | apply Pick.there)) (by rfl) ?_ | refine ldB_o H (by repeat (first | exact Pick.here | apply Pick.there)) (by rfl) ?_ | refine ldP_o H (by repeat (first | exact Pick.here | apply Pick.there)) (by rfl) ?_ | refine ldS_o H (by repeat (first | exact Pick.here | apply Pick.there)) (by rfl) ?_)
    exact ⟨_, ⟨p, S, hS1, hlen, hpa, rfl, rfl⟩, H.drop (by repeat (first | exact Cut.nil | (apply Cut.cons; (repeat (first | exact Pick.here | apply Pick.there)))))⟩
end Go.Proofs.YtgjddhpblpfneaaDoor
