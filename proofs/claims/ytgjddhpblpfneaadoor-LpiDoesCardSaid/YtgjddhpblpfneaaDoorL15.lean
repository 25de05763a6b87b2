/-
  lpi: LpiNews, LpiKnown.
-/
import Derived.Test.YtgjddhpblpfneaaDoorL14
namespace Go.Proofs.YtgjddhpblpfneaaDoor
open Go Go.RowKit X
set_option maxRecDepth 100000
set_option linter.unusedVariables false
set_option linter.unusedSimpArgs false
set_option maxHeartbeats 2000000
theorem bit_zero (n : Nat) (q : Int) (k : Nat) : bitM (List.replicate n 0) q k = false := by
  unfold bitM byteN
  rw [List.getD_eq_getElem?_getD, List.getElem?_replicate]
  split <;> simp
theorem wait_new (many pa ps qa qs : Int) (n : Nat) : waitL (newLp many pa ps qa qs) (List.replicate n 0) = [] := by
  unfold waitL
  rw [List.filter_eq_nil_iff]
  intro k _
  unfold hasM newLp
  dsimp only
  rw [bit_zero]; simp
theorem lpiNews_cv {W : World} (hT : TabAt W) (size many pa ps qa qs : Int) (hm : I64 many) :
    CV P F.crierlaw15_LpiNews [.int .i64 size, .int .i64 many, winV pa ps, winV qa qs] W fun v w' => v = .bool true ∧ Below W.heap.size W w' := by
  refine crierlaw15_LpiNews_cv ?_
  unfold crierlaw15_LpiNews
  have H := keep_start W
  refine alc_o H fun b7 wx H => alc_o H fun b9 wx H => ?_
  refine call_o H (awake_t hT) (by repeat (first | exact Cut.nil | (apply Cut.cons; (repeat (first | exact Pick.here | apply Pick.there))))) fun vx L' wx hq H => ?_
  obtain ⟨rfl, rfl⟩ := hq
  simp only [List.cons_append, List.nil_append] at H
  refine ⟨_, rfl, cnd_i (fun h => by cases h) fun _ => ?_⟩
  refine call_o H (lawNewX_t size) (by repeat (first | exact Cut.nil | (apply Cut.cons; (repeat (first | exact Pick.here | apply Pick.there))))) fun vx L' wx hq H => ?_
  obtain ⟨m, r, rfl, rfl⟩ := hq
  simp only [List.cons_append, List.nil_append] at H
  refine ⟨_, _, rfl, join_o (cnd_i (fun h => by cases h) fun _ => ?_)⟩
  unfold crierlaw15_LpiNews_j2
  refine cnd_i (fun h => by cases h) fun _ => ?_
  generalize lawN size = N at *
  repeat (first | refine ldI_o H (by repeat (first | exact Pick.here | apply Pick.there)) (by rfl) ?_ | refine ldL_o H (by repeat (first | exact Pick.here | apply Pick.there)) (by rfl) ?_ | refine ldB_o H (by repeat (first | exact Pick.here | apply Pick.there)) (by rfl) ?_ | refine ldP_o H (by repeat (first | exact Pick.here | apply Pick.there)) (by rfl) ?_ | refine ldS_o H (by repeat (first | exact Pick.here | apply Pick.there)) (by rfl) ?_)
  refine call_o H (newP_t m (List.replicate N 0) many pa ps qa qs hm) (by repeat (first | exact Cut.nil | (apply Cut.cons; (repeat (first | exact Pick.here | apply Pick.there))))) fun vx L' wx hq H => ?_
  by_cases hn : newE (List.replicate N (0 : Int)).length many pa ps qa qs = 0
  case neg =>
    rw [if_neg hn] at hq
    obtain ⟨rfl, rfl⟩ := hq
    simp only [List.cons_append, List.nil_append] at H
    refine ⟨_, _, rfl, ?_⟩
    repeat (first | refine ldI_o H (by repeat (first | exact Pick.here | apply Pick.there)) (by rfl) ?_ | refine ldL_o H (by repeat (first | exact Pick.here | apply Pick.there)) (by rfl) ?_ | refine ldB_o H (by repeat (first | exact Pick.here | apply Pick.there)) (by rfl) ?_ | refine ldP_o H (by repeat (first | exact Pick.here | apply Pick.there)) (by rfl) ?_ | refine ldS_o H (by repeat (first | exact Pick.here | apply Pick.there)) (by rfl) ?_)
    refine call_o H (rNew_t r (List.replicate N 0) many pa ps qa qs hm) (by repeat (first | exact Cut.nil | (apply Cut.cons; (repeat (first | exact Pick.here | apply Pick.there))))) fun vx L' wx hq H => ?_
    rw [if_neg hn] at hq
    obtain ⟨rfl, rfl⟩ := hq
    simp only [List.cons_append, List.nil_append] at H
    refine ⟨_, _, rfl, join_o (cnd_i (fun h => by simp at h) fun _ => ?_)⟩
    unfold crierlaw15_LpiNews_j1
    refine cnd_i (fun h => by cases h) fun _ => join_o (cnd_i (fun _ => ?_) (fun h => by cases h))
    unfold crierlaw15_LpiNews_j0
    exact ⟨rfl, keep_done H (by repeat (first | exact Pick.here | apply Pick.there))⟩
  rw [if_pos hn] at hq
  obtain ⟨b, rfl, rfl⟩ := hq
  simp only [List.cons_append, List.nil_append] at H
  refine ⟨_, _, rfl, ?_⟩
  have hnew := newE_ok hn
  have hok := newLp_ok hnew.1 pa ps qa qs
  repeat (first | refine ldI_o H (by repeat (first | exact Pick.here | apply Pick.there)) (by rfl) ?_ | refine ldL_o H (by repeat (first | exact Pick.here | apply Pick.there)) (by rfl) ?_ | refine ldB_o H (by repeat (first | exact Pick.here | apply Pick.there)) (by rfl) ?_ | refine ldP_o H (by repeat (first | exact Pick.here | apply Pick.there)) (by rfl) ?_ | refine ldS_o H (by repeat (first | exact Pick.here | apply Pick.there)) (by rfl) ?_)
  refine call_o H (rNew_t r (List.replicate N 0) many pa ps qa qs hm) (by repeat (first | exact Cut.nil | (apply Cut.cons; (repeat (first | exact Pick.here | apply Pick.there))))) fun vx L' wx hq H => ?_
  rw [if_pos hn] at hq
  obtain ⟨d, rfl, rfl⟩ := hq
  simp only [List.cons_append, List.nil_append] at H
  refine ⟨_, _, rfl, join_o (cnd_i (fun h => by simp at h) fun _ => ?_)⟩
  unfold crierlaw15_LpiNews_j1
  refine cnd_i (fun h => by cases h) fun _ => join_o (cnd_i (fun h => by cases h) fun _ => ?_)
  refine call_p H (on_t b (newLp many pa ps qa qs)) (by repeat (first | exact Cut.nil | (apply Cut.cons; (repeat (first | exact Pick.here | apply Pick.there))))) fun wx H => ?_
  refine ⟨_, rfl, cnd_i (fun _ => ?_) (fun h => by cases h)⟩
  refine call_p H (many_t b (newLp many pa ps qa qs)) (by repeat (first | exact Cut.nil | (apply Cut.cons; (repeat (first | exact Pick.here | apply Pick.there))))) fun wx H => ?_
  refine ⟨_, rfl, cnd_i (fun _ => ?_) fun h => by simp [newLp] at h⟩
  refine call_o H (waiting_t b m) (by repeat (first | exact Cut.nil | (apply Cut.cons; (repeat (first | exact Pick.here | apply Pick.there))))) fun vx L' wx hq H => ?_
  obtain ⟨g3, g5, rfl, rfl⟩ := hq
  unfold waitE at H
  simp only [List.cons_append, List.nil_append] at H
  refine ⟨_, rfl, ?_⟩
  refine call_o H (list_t g3 g5 b m (newLp many pa ps qa qs) (List.replicate N 0) hok hnew.2) (by repeat (first | exact Cut.nil | (apply Cut.cons; (repeat (first | exact Pick.here | apply Pick.there))))) fun vx L' wx hq H => ?_
  obtain ⟨p, c, rfl, rfl⟩ := hq
  rw [wait_new] at H ⊢
  simp only [List.cons_append, List.nil_append] at H
  refine ⟨_, _, _, rfl, cnd_i (fun _ => ?_) (fun h => by cases h)⟩
  refine call_p H (best_t hT b (newLp many pa ps qa qs)) (by repeat (first | exact Cut.nil | (apply Cut.cons; (repeat (first | exact Pick.here | apply Pick.there))))) fun wx H => ?_
  refine ⟨_, _, _, _, rfl, ?_⟩
  unfold crierlaw15_LpiNews_j0
  exact ⟨rfl, keep_done H (by repeat (first | exact Pick.here | apply Pick.there))⟩
theorem wr1 {bs : List Int} {k : Nat} {v : Int} (hv : 0 ≤ v ∧ v < 256) : wr bs k v 1 = bs.set k v := by
  have : byteI v 0 = v := by unfold byteI; omega
  simp only [wr, this]; rfl
theorem lpiKnown_cv {W : World} (hT : TabAt W) {q : Option Addr} {c : Nat} {xs : List Int} (hq0 : Sl W q (u8s xs)) (hc : xs.length ≤ c) (hx : ∀ x ∈ xs, 0 ≤ x ∧ x < 256) {a b : Int} (ha : 0 ≤ a ∧ a ≤ 255) (hb : 0 ≤ b ∧ b ≤ 255)
    {q2 : Option Addr} {c2 : Nat} {ys : List Act15} (hq2 : Slots W q2 5 (ys.map Act15.cells)) (hy : ∀ y ∈ ys, y.Good) (hl : ys.length ≤ 9223372036854775807) {k v : Int} (hk : 0 ≤ k ∧ k ≤ 255) (hv : 0 ≤ v ∧ v ≤ 255) :
    CV P F.crierlaw15_LpiKnown [.int .u8 a, .int .u8 b, .slice q xs.length c, .slice q2 ys.length c2, .int .u8 k, .int .u8 v] W fun r w' => r = .bool true ∧ Below W.heap.size W w' := by
  refine crierlaw15_LpiKnown_cv ?_
  unfold crierlaw15_LpiKnown
  have H := keep_start W
  refine call_o H (awake_t hT) (by repeat (first | exact Cut.nil | (apply Cut.cons; (repeat (first | exact Pick.here | apply Pick.there))))) fun vx L' wx hq H => ?_
  obtain ⟨rfl, rfl⟩ := hq
  simp only [List.cons_append, List.nil_append] at H
  refine ⟨_, rfl, cnd_i (fun h => by cases h) fun _ => ?_⟩
  refine call_o H (played_t hT hq0 hc hx ha hb hq2 hy hl) (by repeat (first | exact Cut.nil | (apply Cut.cons; (repeat (first | exact Pick.here | apply Pick.there))))) fun vx L' wx hq H => ?_
  obtain ⟨p, S, hS, hlen, hpa, rfl, rfl⟩ := hq
  simp only [List.cons_append, List.nil_append] at H
  refine ⟨_, _, _, _, _, _, _, _, rfl, alc_o H fun b24 wx H => ?_⟩
  refine st1_o H (by repeat (first | exact Rep.here | apply Rep.there)) (by simp) fun wx H => ?_
  refine st1_o H (by repeat (first | exact Rep.here | apply Rep.there)) (by simp) fun wx H => ?_
  refine st1_o H (by repeat (first | exact Rep.here | apply Rep.there)) (by simp) fun wx H => ?_
  refine st1_o H (by repeat (first | exact Rep.here | apply Rep.there)) (by simp) fun wx H => ?_
  refine st1_o H (by repeat (first | exact Rep.here | apply Rep.there)) (by simp) fun wx H => ?_
  refine st1_o H (by repeat (first | exact Rep.here | apply Rep.there)) (by simp) fun wx H => ?_
  refine st1_o H (by repeat (first | exact Rep.here | apply Rep.there)) (by simp) fun wx H => ?_
  simp only [List.set_cons_zero, List.set_cons_succ] at H
  refine join_o (cnd_i (fun h => by cases h) fun _ => ?_)
  unfold crierlaw15_LpiKnown_j1
  refine cnd_i (fun h => by cases h) fun _ => ?_
  refine ix_i (i := 0) (by omega) ?_
  refine ldP_o H (b := b24) (i := 2) (by repeat (first | exact Pick.here | apply Pick.there)) (by rfl) ?_
  refine call_p H (many_t p.l0 S.1) (by repeat (first | exact Cut.nil | (apply Cut.cons; (repeat (first | exact Pick.here | apply Pick.there))))) fun wx H => ?_
  have hman := hS.ok1.man
  have hf := hS.fit.f
  refine ⟨_, rfl, ?_⟩
  have e1 : (if S.1.many > 1 then S.1.many else 1) = S.1.many := by split <;> omega
  rw [e1, W_id (n := k) (by omega) (by omega), Int.tmod_eq_emod_of_nonneg hk.1]
  have hmod := Int.emod_lt_of_pos k (show 0 < S.1.many by omega)
  have hmod0 := Int.emod_nonneg k (show S.1.many ≠ 0 by omega)
  generalize hj : k % S.1.many = j at *
  rw [W_id (n := 8192 + j) (by omega) (by omega), W_id (n := 8192 + j - 8192) (by omega) (by omega), show 8192 + j - 8192 = j by omega, u64_byte (v := v) (by omega)]
  refine ⟨by omega, ?_⟩
  have hin : inB S.1.many (8192 + j) = true := inB_iff.2 (by omega)
  refine call_p H (setup_t p.l0 S.1 (8192 + j) (by unfold I64; omega)) (by repeat (first | exact Cut.nil | (apply Cut.cons; (repeat (first | exact Pick.here | apply Pick.there))))) fun wx H => ?_
  refine ⟨_, _, rfl, ?_⟩
  repeat (first | refine ldI_o H (by repeat (first | exact Pick.here | apply Pick.there)) (by rfl) ?_ | refine ldL_o H (by repeat (first | exact Pick.here | apply Pick.there)) (by rfl) ?_ | refine ldB_o H (by repeat (first | exact Pick.here | apply Pick.there)) (by rfl) ?_ | refine ldP_o H (by repeat (first | exact Pick.here | apply Pick.there)) (by rfl) ?_ | refine ldS_o H (by repeat (first | exact Pick.here | apply Pick.there)) (by rfl) ?_)
  refine call_o H (write_t p.m S.2.2 0 200 j 1 v) (by repeat (first | exact Cut.nil | (apply Cut.cons; (repeat (first | exact Pick.here | apply Pick.there))))) fun vx L' wx hq H => ?_
  obtain ⟨rfl, rfl⟩ := hq
  have hpw := holdsB_iff.1 hf.hp
  have hmp := hf.mp
  have hE : errE S.2.2.length 0 200 j 1 = 0 := errE1 (by omega) (holdsB_iff.2 (by omega)) (by omega) (by omega)
  have hw : writeM S.2.2 0 200 j 1 v = S.2.2.set (0 + j).toNat v := by
    unfold writeM
    rw [if_pos hE]
    exact wr1 (by omega)
  rw [hw] at H
  simp only [List.cons_append, List.nil_append] at H
  refine ⟨_, rfl, ?_⟩
  refine call_p H (setup_t p.l0 S.1 (8192 + j) (by unfold I64; omega)) (by repeat (first | exact Cut.nil | (apply Cut.cons; (repeat (first | exact Pick.here | apply Pick.there))))) fun wx H => ?_
  refine ⟨_, _, rfl, ?_⟩
  repeat (first | refine ldI_o H (by repeat (first | exact Pick.here | apply Pick.there)) (by rfl) ?_ | refine ldL_o H (by repeat (first | exact Pick.here | apply Pick.there)) (by rfl) ?_ | refine ldB_o H (by repeat (first | exact Pick.here | apply Pick.there)) (by rfl) ?_ | refine ldP_o H (by repeat (first | exact Pick.here | apply Pick.there)) (by rfl) ?_ | refine ldS_o H (by repeat (first | exact Pick.here | apply Pick.there)) (by rfl) ?_)
  have hlj : (0 + j).toNat < S.2.2.length := by omega
  refine call_o H (inv_t p.l0 p.m S.1 (S.2.2.set (0 + j).toNat v) (by rw [List.length_set]; exact hf) (8192 + j) (by unfold I64; omega)) (by repeat (first | exact Cut.nil | (apply Cut.cons; (repeat (first | exact Pick.here | apply Pick.there))))) fun vx L' wx hq H => ?_
  obtain ⟨rfl, rfl⟩ := hq
  rw [hin, if_pos rfl]
  simp only [List.cons_append, List.nil_append] at H
  refine ⟨_, rfl, ?_⟩
  refine call_p H (setup_t p.l0 (invM S.1 (S.2.2.set (0 + j).toNat v) (8192 + j)) (8192 + j) (by unfold I64; omega)) (by repeat (first | exact Cut.nil | (apply Cut.cons; (repeat (first | exact Pick.here | apply Pick.there))))) fun wx H => ?_
  have hset : setupR (invM S.1 (S.2.2.set (0 + j).toNat v) (8192 + j)) (8192 + j) = (decide (v % 2 = 1), v / 8 * 8) := by
    unfold invM setupR
    rw [hin, if_pos rfl]
    dsimp only
    rw [hin, if_pos rfl]
    have hb : byteN (S.2.2.set (0 + j).toNat v) (S.1.pa + (8192 + j - 8192)).toNat = v.toNat := by
      obtain ⟨n, rfl⟩ := Int.eq_ofNat_of_zero_le hv.1
      rw [byteN_set hlj, if_pos (by rw [hpa]; congr 1; omega)]; rfl
    have hcl := hS.ok1.len
    rw [hb, List.getD_eq_getElem?_getD, List.getElem?_set_self (by omega)]
    have : ((v.toNat : Nat) : Int) = v := by omega
    simp [this]
  rw [hset]
  refine ⟨_, _, rfl, join_o ?_⟩
  have e2 : IntKind.i64.wrap (IntKind.i64.wrap (Int.tdiv (IntKind.i64.wrap v) 8) * 8) = v / 8 * 8 := by
    rw [W_id (n := v) (by omega) (by omega), Int.tdiv_eq_ediv_of_nonneg hv.1, W_id (n := v / 8) (by omega) (by omega), W_id (by omega) (by omega)]
  have e3 : (Int.tmod v 2 == 1) = decide (v % 2 = 1) := by
    rw [Int.tmod_eq_emod_of_nonneg hv.1, Bool.eq_iff_iff, beq_iff_eq, decide_eq_true_eq]
  rw [hE, e2, e3]
  unfold crierlaw15_LpiKnown_j0
  refine cnd_i (fun _ => cnd_i (fun _ => cnd_i (fun _ => cnd_i (fun _ => ⟨by omega, cnd_i (fun _ => ⟨by omega, ?_⟩) fun h => by simp at h⟩) (fun h => by cases h)) fun h => by simp at h) fun h => by simp at h) (fun h => by cases h)
  exact ⟨by simp, keep_done H (by repeat (first | exact Pick.here | apply Pick.there))⟩
end Go.Proofs.YtgjddhpblpfneaaDoor
