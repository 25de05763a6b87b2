/-
  queue: how many of those that wait are none; filling.
-/
import Derived.Test.YtggchklafbpgpaaQ3
namespace Go.Proofs.Ytggchklafbpgpaa
open Go Go.RowKit X
set_option maxRecDepth 100000
set_option linter.unusedVariables false
set_option linter.unusedSimpArgs false
set_option maxHeartbeats 1000000
def wrongN (q : Qu) (bs : List Int) (n : Nat) : Nat := ((List.range n).filter fun k => (loadM bs q.a q.s (nth q.s q.r k)).2 != 0).length
theorem wrongN_le (q : Qu) (bs : List Int) (n : Nat) : wrongN q bs n ≤ n := by
  have := List.length_filter_le (fun k => (loadM bs q.a q.s (nth q.s q.r k)).2 != 0) (List.range n)
  rw [List.length_range] at this; exact this
theorem wrongN_next (q : Qu) (bs : List Int) (n : Nat) : wrongN q bs (n + 1) = wrongN q bs n + (if (loadM bs q.a q.s (nth q.s q.r n)).2 != 0 then 1 else 0) := by
  unfold wrongN
  rw [List.range_succ, List.filter_append, List.length_append]
  congr 1
  cases e : (loadM bs q.a q.s (nth q.s q.r n)).2 != 0 <;> simp [e]
theorem Wrong_t (m : Nat) (q : Qu) (bs : List Int) : Tri P F.queue_Queue_Wrong [quV q, ptr m] [memI m bs] fun v L' => v = .int .i64 (wrongN q bs q.cnt : Nat) ∧ L' = [memI m bs] := by
  intro w S hS
  refine queue_Queue_Wrong_cv ?_
  unfold queue_Queue_Wrong
  have H := Own.start hS
  refine alc_o H fun b6 wx H => alc_o H fun b8 wx H => ?_
  refine st1_o H (by repeat (first | exact Rep.here | apply Rep.there)) (by simp) fun wx H => ?_
  repeat (first | refine ldI_o H (by repeat (first | exact Pick.here | apply Pick.there)) (by rfl) ?_ | refine ldL_o H (by repeat (first | exact Pick.here | apply Pick.there)) (by rfl) ?_ | refine ldB_o H (by repeat (first | exact Pick.here | apply Pick.there)) (by rfl) ?_ | refine ldP_o H (by repeat (first | exact Pick.here | apply Pick.there)) (by rfl) ?_ | refine ldS_o H (by repeat (first | exact Pick.here | apply Pick.there)) (by rfl) ?_)
  refine call_o H (Each_t m q bs) (by repeat (first | exact Cut.nil | (apply Cut.cons; (repeat (first | exact Pick.here | apply Pick.there))))) fun vx L' wx hq H => ?_
  obtain ⟨g, h, rfl, rfl⟩ := hq
  refine ⟨_, rfl, ?_⟩
  have H := H.perm (L1 := [row b8 [.int .i64 0] tInt, row b6 q.cells tQ] ++ eachE g h m q bs) (F := []) (by unfold eachE Qu.cells; exact (by repeat (first | exact Cut.nil | (apply Cut.cons; (repeat (first | exact Pick.here | apply Pick.there))))))
  rw [List.append_nil] at H
  have hlen : (comsL q bs).length = q.cnt := by simp [comsL]
  have hcnt : (q.cnt : Int) ≤ 9223372036854775807 := by have := (left_facts q).1; unfold Qu.cnt; omega
  refine rf_o (fun k Li => Li = [row b8 [.int .i64 (wrongN q bs k : Nat)] tInt, row b6 q.cells tQ]) (fun _ _ => False) each_enters (each_it g h m q bs) (coms_len q bs) H rfl ?_ ?_ ?_
  · rintro k x _ F l r d wx Q2 hx rfl H hgo hdone
    obtain ⟨hk, rfl⟩ := coms_at hx
    unfold queue_Queue_Wrong_r1
    dsimp only [X.b2]
    refine ⟨_, rfl, rec_o H .here fun wx H => join_o ?_⟩
    unfold queue_Queue_Wrong_j0
    have hn := wrongN_next q bs k
    have hle := wrongN_le q bs k
    refine cnd_i (fun hb => ?_) fun hb => ?_
    · rw [hb, if_pos rfl] at hn
      refine ldI_o H (.there (.there .here)) rfl ?_
      refine st1_o H (.there (.there .here)) (by simp) fun wx H => ?_
      rw [W_id (by omega) (by omega)] at H
      refine rec_o H .here fun wx H => hgo [row b8 [.int .i64 (wrongN q bs (k + 1) : Nat)] tInt, row b6 q.cells tQ] wx rfl ?_
      rw [hn]
      push_cast
      exact H
    · rw [hb, if_neg (by decide)] at hn
      exact rec_o H .here fun wx H => hgo _ wx (by rw [hn]; rfl) H
  · rintro d _ wx rfl H
    dsimp only [jmpX]
    rw [hlen] at H
    refine ldI_o H (.there .here) rfl ?_
    refine take_o H .here fun wx H => ?_
    exact ⟨_, ⟨rfl, rfl⟩, H.drop (by unfold eachE; exact (by repeat (first | exact Cut.nil | (apply Cut.cons; (repeat (first | exact Pick.here | apply Pick.there))))))⟩
  · rintro d c L wx h H
    exact h.elim
/-- commands put, as long as it goes: the queue, the memory, how many, why it stopped -/
def fillQ : List Cm → Qu → List Int → Qu × List Int × Nat × Int
  | [], q, bs => (q, bs, 0, 0)
  | c :: cs, q, bs => if (putQ q bs c).2.2 ≠ 0 then ((putQ q bs c).1, (putQ q bs c).2.1, 0, (putQ q bs c).2.2) else
      let r := fillQ cs (putQ q bs c).1 (putQ q bs c).2.1
      (r.1, r.2.1, r.2.2.1 + 1, r.2.2.2)
/-- the queue and the memory, when the first of them were put -/
def fillS (cs : List Cm) (q : Qu) (bs : List Int) : Nat → Qu × List Int
  | 0 => (q, bs)
  | k + 1 => match cs[k]? with
    | some c => ((putQ (fillS cs q bs k).1 (fillS cs q bs k).2 c).1, (putQ (fillS cs q bs k).1 (fillS cs q bs k).2 c).2.1)
    | none => fillS cs q bs k
theorem fillS_cons (c : Cm) (cs : List Cm) (q : Qu) (bs : List Int) : ∀ k, fillS (c :: cs) q bs (k + 1) = fillS cs (putQ q bs c).1 (putQ q bs c).2.1 k
  | 0 => rfl
  | k + 1 => by
    rw [fillS]
    rw [fillS_cons c cs q bs k]
    rfl
theorem fillQ_stop : ∀ {cs : List Cm} {q : Qu} {bs : List Int} {k : Nat} {c : Cm}, cs[k]? = some c → (∀ j c', j < k → cs[j]? = some c' → (putQ (fillS cs q bs j).1 (fillS cs q bs j).2 c').2.2 = 0) → (putQ (fillS cs q bs k).1 (fillS cs q bs k).2 c).2.2 ≠ 0 →
    fillQ cs q bs = ((putQ (fillS cs q bs k).1 (fillS cs q bs k).2 c).1, (putQ (fillS cs q bs k).1 (fillS cs q bs k).2 c).2.1, k, (putQ (fillS cs q bs k).1 (fillS cs q bs k).2 c).2.2)
  | c0 :: cs, q, bs, 0, c, h, _, hb => by
    cases h
    have hb : (putQ q bs c0).2.2 ≠ 0 := hb
    unfold fillQ
    rw [if_pos hb]; rfl
  | c0 :: cs, q, bs, k + 1, c, h, hg, hb => by
    have h0 := hg 0 c0 (by omega) rfl
    unfold fillQ
    rw [if_neg (by rw [Classical.not_not]; exact h0)]
    rw [fillS_cons] at hb ⊢
    have := fillQ_stop (cs := cs) (q := (putQ q bs c0).1) (bs := (putQ q bs c0).2.1) (k := k) (c := c) h (fun j c' hj hc => by
      have := hg (j + 1) c' (by omega) hc
      rw [fillS_cons] at this; exact this) hb
    rw [this]
  | [], _, _, k, c, h, _, _ => by simp at h
theorem fillQ_all : ∀ {cs : List Cm} {q : Qu} {bs : List Int}, (∀ j c', cs[j]? = some c' → (putQ (fillS cs q bs j).1 (fillS cs q bs j).2 c').2.2 = 0) → fillQ cs q bs = ((fillS cs q bs cs.length).1, (fillS cs q bs cs.length).2, cs.length, 0)
  | [], _, _, _ => rfl
  | c0 :: cs, q, bs, hg => by
    have h0 := hg 0 c0 rfl
    unfold fillQ
    rw [if_neg (by rw [Classical.not_not]; exact h0), List.length_cons, fillS_cons]
    rw [fillQ_all (cs := cs) (q := (putQ q bs c0).1) (bs := (putQ q bs c0).2.1) fun j c' hc => by
      have := hg (j + 1) c' hc
      rw [fillS_cons] at this; exact this]
theorem Fill_t (b m : Nat) (q : Qu) (bs : List Int) (i : It) {p : Option Addr} {cc : Nat} {cs : List Cm} (hi : ∀ w S, i.h w S → Slots w p 9 (cs.map Cm.cells)) (hl : cs.length ≤ 9223372036854775807) :
    Tri P F.queue_Queue_Fill [ptr b, ptr m, .slice p cs.length cc] [row b q.cells tQ, memI m bs, i] fun v L' => v = .tuple [.int .i64 ((fillQ cs q bs).2.2.1 : Nat), .int .i64 (fillQ cs q bs).2.2.2].toArray ∧ L' = [row b (fillQ cs q bs).1.cells tQ, memI m (fillQ cs q bs).2.1, i] := by
  intro w S hS
  refine queue_Queue_Fill_cv ?_
  unfold queue_Queue_Fill
  have H := Own.start hS
  refine loop_o (fun (st : Int) L => ∃ k : Nat, k ≤ cs.length ∧ (∀ j c', j < k → cs[j]? = some c' → (putQ (fillS cs q bs j).1 (fillS cs q bs j).2 c').2.2 = 0) ∧ st = k ∧ L = [row b (fillS cs q bs k).1.cells tQ, memI m (fillS cs q bs k).2, i])
    (fun (st : Int) => ((cs.length : Int) - st).toNat) H ⟨0, by omega, fun _ _ h => absurd h (by omega), rfl, rfl⟩ ?_
  rintro _ _ wx ⟨k, hk, hg, rfl, rfl⟩ H
  unfold queue_Queue_Fill_l0
  refine cnd_i (fun hc => ?_) fun hc => ?_
  · have hc := of_decide_eq_true hc
    have hlt : k < cs.length := by omega
    obtain ⟨c, hck⟩ : ∃ c, cs[k]? = some c := ⟨_, List.getElem?_eq_getElem hlt⟩
    refine ix_i hlt ?_
    obtain ⟨a1, rfl, e0, ee⟩ := slot_cells (Own.rdS H (i := i) (by repeat (first | exact Pick.here | apply Pick.there)) hi) hck
    dsimp only [nn]
    refine ⟨_, e0 _ rfl, ⟨_, ee 1 _ rfl, ⟨_, ee 2 _ rfl, ⟨_, ee 3 _ rfl, ⟨_, ee 4 _ rfl, ⟨_, ee 5 _ rfl, ⟨_, ee 6 _ rfl, ⟨_, ee 7 _ rfl, ⟨_, ee 8 _ rfl, ?_⟩⟩⟩⟩⟩⟩⟩⟩⟩
    refine alc_o H fun b21 wx H => ?_
    refine st1_o H (by repeat (first | exact Rep.here | apply Rep.there)) (by simp) fun wx H => ?_
    refine st1_o H (by repeat (first | exact Rep.here | apply Rep.there)) (by simp) fun wx H => ?_
    refine st1_o H (by repeat (first | exact Rep.here | apply Rep.there)) (by simp) fun wx H => ?_
    refine st1_o H (by repeat (first | exact Rep.here | apply Rep.there)) (by simp) fun wx H => ?_
    refine st1_o H (by repeat (first | exact Rep.here | apply Rep.there)) (by simp) fun wx H => ?_
    refine st1_o H (by repeat (first | exact Rep.here | apply Rep.there)) (by simp) fun wx H => ?_
    refine st1_o H (by repeat (first | exact Rep.here | apply Rep.there)) (by simp) fun wx H => ?_
    refine st1_o H (by repeat (first | exact Rep.here | apply Rep.there)) (by simp) fun wx H => ?_
    refine st1_o H (by repeat (first | exact Rep.here | apply Rep.there)) (by simp) fun wx H => ?_
    repeat (first | refine ldI_o H (by repeat (first | exact Pick.here | apply Pick.there)) (by rfl) ?_ | refine ldL_o H (by repeat (first | exact Pick.here | apply Pick.there)) (by rfl) ?_ | refine ldB_o H (by repeat (first | exact Pick.here | apply Pick.there)) (by rfl) ?_ | refine ldP_o H (by repeat (first | exact Pick.here | apply Pick.there)) (by rfl) ?_ | refine ldS_o H (by repeat (first | exact Pick.here | apply Pick.there)) (by rfl) ?_)
    refine call_o H (Put_t b m (fillS cs q bs k).1 (fillS cs q bs k).2 c) (by repeat (first | exact Cut.nil | (apply Cut.cons; (repeat (first | exact Pick.here | apply Pick.there))))) fun vx L' wx hq H => ?_
    obtain ⟨rfl, rfl⟩ := hq
    simp only [List.cons_append, List.nil_append] at H
    refine ⟨_, rfl, cnd_i (fun h => ?_) fun h => ?_⟩
    · rw [fillQ_stop hck hg (by simpa using h)]
      exact ⟨_, ⟨rfl, rfl⟩, H.drop (by repeat (first | exact Cut.nil | (apply Cut.cons; (repeat (first | exact Pick.here | apply Pick.there)))))⟩
    · have h : (putQ (fillS cs q bs k).1 (fillS cs q bs k).2 c).2.2 = 0 := by simpa using h
      have e1 : IntKind.i64.wrap ((k : Int) + 1) = ((k + 1 : Nat) : Int) := by rw [W_id (by omega) (by omega)]; push_cast; rfl
      rw [e1]
      refine ⟨⟨[row b (fillS cs q bs (k + 1)).1.cells tQ, memI m (fillS cs q bs (k + 1)).2, i], ⟨k + 1, by omega, ?_, rfl, rfl⟩, ?_⟩, by omega⟩
      · intro j c' hj hc'
        by_cases e : j = k
        · subst e; rw [hck] at hc'; cases hc'; exact h
        · exact hg j c' (by omega) hc'
      · have e2 : fillS cs q bs (k + 1) = ((putQ (fillS cs q bs k).1 (fillS cs q bs k).2 c).1, (putQ (fillS cs q bs k).1 (fillS cs q bs k).2 c).2.1) := by rw [fillS, hck]
        rw [e2]
        exact H.drop (by repeat (first | exact Cut.nil | (apply Cut.cons; (repeat (first | exact Pick.here | apply Pick.there)))))
  · have hc := of_decide_eq_false hc
    have : k = cs.length := by omega
    subst this
    rw [fillQ_all fun j c' hc' => hg j c' (List.getElem?_eq_some_iff.1 hc').1 hc']
    exact ⟨_, ⟨rfl, rfl⟩, H⟩
end Go.Proofs.Ytggchklafbpgpaa
