/-
  queue: QueueLoop.
-/
import Derived.Test.YtggchklafbpgpaaL1
namespace Go.Proofs.Ytggchklafbpgpaa
open Go Go.RowKit X
set_option maxRecDepth 100000
set_option linter.unusedVariables false
set_option linter.unusedSimpArgs false
set_option maxHeartbeats 1000000
theorem wrong_none {q : Qu} {bs : List Int} : ∀ n : Nat, (∀ k, k < n → (loadM bs q.a q.s (nth q.s q.r k)).2 = 0) → wrongN q bs n = 0
  | 0, _ => rfl
  | n + 1, h => by
    rw [wrongN_next, wrong_none n fun k hk => h k (by omega), h n (by omega)]
    rfl
theorem FQ.wrong {A : Int} {T N i : Nat} {q : Qu} {bs : List Int} {cs : List Cm} (h : FQ A T N i q bs cs) : wrongN q bs q.cnt = 0 := by
  refine wrong_none _ fun k hk => ?_
  rw [h.cnt] at hk
  rw [h.load (List.getElem?_eq_getElem hk)]
theorem queueLoop_cv {W0 : World} {q : Option Addr} {c : Nat} {cs : List Cm} (hq0 : Slots W0 q 9 (cs.map Cm.cells)) (hl : cs.length ≤ 9223372036854775807) (e : Int) (he : 0 ≤ e ∧ e ≤ 255) (most : Int) (hm : 0 ≤ most ∧ most ≤ 255) :
    CV P F.crierlaw17_QueueLoop [.int .u8 e, .slice q cs.length c, .int .u8 most] W0 fun v w' => v = .bool true ∧ Below W0.heap.size W0 w' := by
  refine crierlaw17_QueueLoop_cv ?_
  unfold crierlaw17_QueueLoop
  have H := keep_start W0
  refine alc_o H fun b6 wx H => alc_o H fun b8 wx H => alc_o H fun b10 wx H => ?_
  refine call_p H (awake_t) (by repeat (first | exact Cut.nil | (apply Cut.cons; (repeat (first | exact Pick.here | apply Pick.there))))) fun wx H => ?_
  refine ⟨_, rfl, cnd_i (fun h => by cases h) fun _ => ?_⟩
  refine call_o H (fresh_t e he) (by repeat (first | exact Cut.nil | (apply Cut.cons; (repeat (first | exact Pick.here | apply Pick.there))))) fun vx L' wx hq H => ?_
  obtain ⟨m, bs, hlen, rfl, rfl⟩ := hq
  simp only [List.cons_append, List.nil_append] at H
  refine ⟨_, _, _, _, _, rfl, alc_o H fun b24 wx H => ?_⟩
  refine st1_o H (by repeat (first | exact Rep.here | apply Rep.there)) (by simp) fun wx H => ?_
  refine st1_o H (by repeat (first | exact Rep.here | apply Rep.there)) (by simp) fun wx H => ?_
  refine st1_o H (by repeat (first | exact Rep.here | apply Rep.there)) (by simp) fun wx H => ?_
  refine st1_o H (by repeat (first | exact Rep.here | apply Rep.there)) (by simp) fun wx H => ?_
  refine join_o (cnd_i (fun h => by cases h) fun _ => ?_)
  unfold crierlaw17_QueueLoop_j4
  refine cnd_i (fun h => by cases h) fun _ => ?_
  repeat (first | refine ldI_o H (by repeat (first | exact Pick.here | apply Pick.there)) (by rfl) ?_ | refine ldL_o H (by repeat (first | exact Pick.here | apply Pick.there)) (by rfl) ?_ | refine ldB_o H (by repeat (first | exact Pick.here | apply Pick.there)) (by rfl) ?_ | refine ldP_o H (by repeat (first | exact Pick.here | apply Pick.there)) (by rfl) ?_ | refine ldS_o H (by repeat (first | exact Pick.here | apply Pick.there)) (by rfl) ?_)
  have hN := frN_range e
  have F0 : FQ 16 700 (frN e) 0 ⟨16, 32 * ((frN e : Nat) : Int), 0, 0⟩ bs [] := FQ.new hN.1 (by omega) (by omega) hlen
  generalize frN e = N at *
  refine call_o H (Fill_t b24 m ⟨16, 32 * (N : Int), 0, 0⟩ bs (keep W0) (keep_slots hq0) hl) (by repeat (first | exact Cut.nil | (apply Cut.cons; (repeat (first | exact Pick.here | apply Pick.there))))) fun vx L' wx hq H => ?_
  obtain ⟨rfl, rfl⟩ := hq
  simp only [List.cons_append, List.nil_append] at H
  obtain ⟨n, k1, k2, F1, k4⟩ := F0.fill (ds := cs)
  rw [List.nil_append] at F1
  have hlt : (cs.take n).length = n := by rw [List.length_take, Nat.min_eq_left k1]
  have hn : n < N := by have := F1.hn; rw [hlt] at this; exact this
  refine ⟨_, _, rfl, ?_⟩
  rw [k2]
  generalize (fillQ cs ⟨16, 32 * (N : Int), 0, 0⟩ bs).1 = q' at *
  generalize (fillQ cs ⟨16, 32 * (N : Int), 0, 0⟩ bs).2.1 = bs' at *
  refine alc_o H fun b42 wx H => ?_
  refine st1_o H (by repeat (first | exact Rep.here | apply Rep.there)) (by simp) fun wx H => ?_
  refine alc_o H fun b45 wx H => ?_
  refine st1_o H (by repeat (first | exact Rep.here | apply Rep.there)) (by simp) fun wx H => ?_
  repeat (first | refine ldI_o H (by repeat (first | exact Pick.here | apply Pick.there)) (by rfl) ?_ | refine ldL_o H (by repeat (first | exact Pick.here | apply Pick.there)) (by rfl) ?_ | refine ldB_o H (by repeat (first | exact Pick.here | apply Pick.there)) (by rfl) ?_ | refine ldP_o H (by repeat (first | exact Pick.here | apply Pick.there)) (by rfl) ?_ | refine ldS_o H (by repeat (first | exact Pick.here | apply Pick.there)) (by rfl) ?_)
  refine call_o H (Each_t m q' bs') (by repeat (first | exact Cut.nil | (apply Cut.cons; (repeat (first | exact Pick.here | apply Pick.there))))) fun vx L' wx hq H => ?_
  obtain ⟨g, h, rfl, rfl⟩ := hq
  refine ⟨_, rfl, join_o ?_⟩
  let rows : Nat → List It := fun k => [row b45 [.int .i64 (k : Int)] tInt, row b42 [.int .i64 (n : Int)] tInt, row b24 q'.cells tQ, row b10 [.bool false] T.t4, row b8 [.int .u8 most] T.t5, row b6 [.slice q cs.length c] T.t32, keep W0]
  have H := H.drop (L1 := rows 0 ++ eachE g h m q' bs') (by unfold eachE Qu.cells; exact (by repeat (first | exact Cut.nil | (apply Cut.cons; (repeat (first | exact Pick.here | apply Pick.there))))))
  have hcnt : (comsL q' bs').length = n := by simp [comsL, F1.cnt, hlt]
  have fin : ∀ (k : Nat) (d : Nat) wx, (k : Int) = (if most < (n : Int) then most else n) → X.Own W0 (fun k => k < W0.heap.size) (defI d :: (rows k ++ eachE g h m q' bs')) wx →
      crierlaw17_QueueLoop_j1 (fun v w' => v = .bool true ∧ Below W0.heap.size W0 w') b8 b10 (some ⟨m, 0, none⟩) b24 b42 b45 wx ([{ target := .collected d, args := #[] }] ++ []) := by
    intro k d wx hk H
    unfold crierlaw17_QueueLoop_j1
    dsimp only [rows] at H
    unfold eachE Qu.cells at H
    simp only [List.cons_append, List.nil_append] at H
    refine join_o ?_
    repeat (first | refine ldI_o H (by repeat (first | exact Pick.here | apply Pick.there)) (by rfl) ?_ | refine ldL_o H (by repeat (first | exact Pick.here | apply Pick.there)) (by rfl) ?_ | refine ldB_o H (by repeat (first | exact Pick.here | apply Pick.there)) (by rfl) ?_ | refine ldP_o H (by repeat (first | exact Pick.here | apply Pick.there)) (by rfl) ?_ | refine ldS_o H (by repeat (first | exact Pick.here | apply Pick.there)) (by rfl) ?_)
    rw [W_id (n := most) (by omega) (by omega)]
    refine cnd_i (fun _ => ?_) (fun h => by rw [hk] at h; simp at h)
    repeat (first | refine ldI_o H (by repeat (first | exact Pick.here | apply Pick.there)) (by rfl) ?_ | refine ldL_o H (by repeat (first | exact Pick.here | apply Pick.there)) (by rfl) ?_ | refine ldB_o H (by repeat (first | exact Pick.here | apply Pick.there)) (by rfl) ?_ | refine ldP_o H (by repeat (first | exact Pick.here | apply Pick.there)) (by rfl) ?_ | refine ldS_o H (by repeat (first | exact Pick.here | apply Pick.there)) (by rfl) ?_)
    refine call_p H (Wrong_t m q' bs') (by repeat (first | exact Cut.nil | (apply Cut.cons; (repeat (first | exact Pick.here | apply Pick.there))))) fun wx H => ?_
    rw [F1.wrong]
    refine ⟨_, rfl, ?_⟩
    refine st1_o H (by repeat (first | exact Rep.here | apply Rep.there)) (by simp) fun wx H => ?_
    unfold crierlaw17_QueueLoop_j0
    refine take_o H (by repeat (first | exact Pick.here | apply Pick.there)) fun wx H => ?_
    repeat (first | refine ldI_o H (by repeat (first | exact Pick.here | apply Pick.there)) (by rfl) ?_ | refine ldL_o H (by repeat (first | exact Pick.here | apply Pick.there)) (by rfl) ?_ | refine ldB_o H (by repeat (first | exact Pick.here | apply Pick.there)) (by rfl) ?_ | refine ldP_o H (by repeat (first | exact Pick.here | apply Pick.there)) (by rfl) ?_ | refine ldS_o H (by repeat (first | exact Pick.here | apply Pick.there)) (by rfl) ?_)
    exact ⟨rfl, keep_done H (by repeat (first | exact Pick.here | apply Pick.there))⟩
  refine rf_o (fun k Li => (k : Int) ≤ most ∧ Li = rows k) (fun c Li => c = .exit 0 ∧ ∃ k : Nat, (k : Int) = most ∧ k < n ∧ Li = rows k) each_enters (each_it g h m q' bs') (coms_len q' bs') H ⟨by omega, rfl⟩ ?_ ?_ ?_
  · rintro k x _ F l r d wx Q2 hx ⟨hk, rfl⟩ H hgo hdone
    obtain ⟨hkc, rfl⟩ := coms_at hx
    rw [F1.cnt, hlt] at hkc
    obtain ⟨ck, hck⟩ : ∃ ck, cs[k]? = some ck := ⟨_, List.getElem?_eq_getElem (by omega)⟩
    have hld := F1.load (k := k) (c := ck) (by rw [List.getElem?_take_of_lt hkc]; exact hck)
    rw [hld]
    unfold crierlaw17_QueueLoop_r3
    dsimp only [X.b2]
    refine ⟨_, _, _, _, _, _, _, _, _, rfl, _, rfl, alc_o H fun b93 wx H => ?_⟩
    dsimp only [rows] at H
    simp only [List.cons_append, List.nil_append] at H
    refine st1_o H (by repeat (first | exact Rep.here | apply Rep.there)) (by simp) fun wx H => ?_
    refine st1_o H (by repeat (first | exact Rep.here | apply Rep.there)) (by simp) fun wx H => ?_
    refine st1_o H (by repeat (first | exact Rep.here | apply Rep.there)) (by simp) fun wx H => ?_
    refine st1_o H (by repeat (first | exact Rep.here | apply Rep.there)) (by simp) fun wx H => ?_
    refine st1_o H (by repeat (first | exact Rep.here | apply Rep.there)) (by simp) fun wx H => ?_
    refine st1_o H (by repeat (first | exact Rep.here | apply Rep.there)) (by simp) fun wx H => ?_
    refine st1_o H (by repeat (first | exact Rep.here | apply Rep.there)) (by simp) fun wx H => ?_
    refine st1_o H (by repeat (first | exact Rep.here | apply Rep.there)) (by simp) fun wx H => ?_
    refine st1_o H (by repeat (first | exact Rep.here | apply Rep.there)) (by simp) fun wx H => ?_
    refine rec_o H (.there .here) fun wx H => ?_
    repeat (first | refine ldI_o H (by repeat (first | exact Pick.here | apply Pick.there)) (by rfl) ?_ | refine ldL_o H (by repeat (first | exact Pick.here | apply Pick.there)) (by rfl) ?_ | refine ldB_o H (by repeat (first | exact Pick.here | apply Pick.there)) (by rfl) ?_ | refine ldP_o H (by repeat (first | exact Pick.here | apply Pick.there)) (by rfl) ?_ | refine ldS_o H (by repeat (first | exact Pick.here | apply Pick.there)) (by rfl) ?_)
    rw [W_id (n := most) (by omega) (by omega)]
    refine cnd_i (fun hb => ?_) fun hb => ?_
    · have hb : (k : Int) = most := by simpa using hb
      refine rec_o H (.there .here) fun wx H => hdone _ (rows k) wx ⟨rfl, k, hb, hkc, rfl⟩ ?_
      exact H.rest (L1 := [row b93 _ _]) (.cons .here .nil)
    · have hb : (k : Int) ≠ most := by simpa using hb
      refine join_o ?_
      refine drw_o H fun wx H => ?_
      repeat (first | refine ldI_o H (by repeat (first | exact Pick.here | apply Pick.there)) (by rfl) ?_ | refine ldL_o H (by repeat (first | exact Pick.here | apply Pick.there)) (by rfl) ?_ | refine ldB_o H (by repeat (first | exact Pick.here | apply Pick.there)) (by rfl) ?_ | refine ldP_o H (by repeat (first | exact Pick.here | apply Pick.there)) (by rfl) ?_ | refine ldS_o H (by repeat (first | exact Pick.here | apply Pick.there)) (by rfl) ?_)
      refine cnd_i (fun hb2 => by have := of_decide_eq_true hb2; omega) fun _ => cnd_i (fun h => by cases h) fun _ => ?_
      repeat (first | refine ldI_o H (by repeat (first | exact Pick.here | apply Pick.there)) (by rfl) ?_ | refine ldL_o H (by repeat (first | exact Pick.here | apply Pick.there)) (by rfl) ?_ | refine ldB_o H (by repeat (first | exact Pick.here | apply Pick.there)) (by rfl) ?_ | refine ldP_o H (by repeat (first | exact Pick.here | apply Pick.there)) (by rfl) ?_ | refine ldS_o H (by repeat (first | exact Pick.here | apply Pick.there)) (by rfl) ?_)
      refine ix_i (by omega) ?_
      obtain ⟨a1, rfl, e0, ee⟩ := slot_cells (Own.rdS H (i := keep W0) (by repeat (first | exact Pick.here | apply Pick.there)) (keep_slots hq0)) hck
      dsimp only [nn]
      refine ⟨_, e0 _ rfl, ⟨_, ee 1 _ rfl, ⟨_, ee 2 _ rfl, ⟨_, ee 3 _ rfl, ⟨_, ee 4 _ rfl, ⟨_, ee 5 _ rfl, ⟨_, ee 6 _ rfl, ⟨_, ee 7 _ rfl, ⟨_, ee 8 _ rfl, ?_⟩⟩⟩⟩⟩⟩⟩⟩⟩
      refine cm_ne (c := ck) (d := ck) ?_
      unfold crierlaw17_QueueLoop_j2
      refine cnd_i (fun h => by simp at h) fun _ => ?_
      repeat (first | refine ldI_o H (by repeat (first | exact Pick.here | apply Pick.there)) (by rfl) ?_ | refine ldL_o H (by repeat (first | exact Pick.here | apply Pick.there)) (by rfl) ?_ | refine ldB_o H (by repeat (first | exact Pick.here | apply Pick.there)) (by rfl) ?_ | refine ldP_o H (by repeat (first | exact Pick.here | apply Pick.there)) (by rfl) ?_ | refine ldS_o H (by repeat (first | exact Pick.here | apply Pick.there)) (by rfl) ?_)
      have e1 : IntKind.i64.wrap ((k : Int) + 1) = ((k + 1 : Nat) : Int) := by rw [W_id (by omega) (by omega)]; push_cast; rfl
      rw [e1]
      refine st1_o H (.there (.there (.there .here))) (by simp) fun wx H => ?_
      refine rec_o H (.there .here) fun wx H => hgo (rows (k + 1)) wx ⟨by omega, rfl⟩ ?_
      exact H.rest (L1 := [row b93 _ _]) (.cons .here .nil)
  · rintro d _ wx ⟨hk, rfl⟩ H
    dsimp only [jmpX]
    rw [hcnt] at H hk
    exact fin n d wx (by split <;> omega) H
  · rintro d _ _ wx ⟨rfl, k, hk, hkn, rfl⟩ H
    dsimp only [jmpX]
    exact ⟨fun _ => fin k d wx (by split <;> omega) H, fun h => absurd rfl h⟩
end Go.Proofs.Ytggchklafbpgpaa
