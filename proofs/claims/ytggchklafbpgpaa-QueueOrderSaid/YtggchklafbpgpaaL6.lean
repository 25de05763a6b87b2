/-
  queue: QueueOrder.
-/
import Derived.Test.YtggchklafbpgpaaL1
namespace Go.Proofs.Ytggchklafbpgpaa
open Go Go.RowKit X
set_option maxRecDepth 100000
set_option linter.unusedVariables false
set_option linter.unusedSimpArgs false
set_option maxHeartbeats 1000000
theorem appCmds : appB P tCmds tCmd 9 72 = true := by kernel_rfl
def flat (cs : List Cm) : List Value := (cs.map Cm.cells).flatten
theorem flat_append (a b : List Cm) : flat (a ++ b) = flat a ++ flat b := by simp [flat]
theorem flat_length : ∀ cs : List Cm, (flat cs).length = cs.length * 9
  | [] => rfl
  | c :: cs => by
    have := flat_length cs
    unfold flat at *
    rw [List.map_cons, List.flatten_cons, List.length_append, this, List.length_cons]
    show 9 + cs.length * 9 = _
    omega
theorem flat_get : ∀ {cs : List Cm} {k j : Nat} {c : Cm} {v : Value}, cs[k]? = some c → c.cells[j]? = some v → (flat cs)[k * 9 + j]? = some v
  | c0 :: cs, 0, j, c, v, h, hv => by
    cases h
    have hj : j < 9 := (List.getElem?_eq_some_iff.1 hv).1
    unfold flat
    rw [List.map_cons, List.flatten_cons, Nat.zero_mul, Nat.zero_add, List.getElem?_append_left hj]
    exact hv
  | c0 :: cs, k + 1, j, c, v, h, hv => by
    have := flat_get (cs := cs) (k := k) (j := j) h hv
    unfold flat at *
    rw [List.map_cons, List.flatten_cons, List.getElem?_append_right (by show 9 ≤ _; omega)]
    show (List.map Cm.cells cs).flatten[(k + 1) * 9 + j - 9]? = _
    rw [show (k + 1) * 9 + j - 9 = k * 9 + j by omega]
    exact this
theorem flat_one (cs : List Cm) : ∀ u ∈ flat cs, u.oneCell' = true := by
  intro u hu
  obtain ⟨l, hl, hu⟩ := List.mem_flatten.1 hu
  obtain ⟨c, _, rfl⟩ := List.mem_map.1 hl
  simp only [Cm.cells, List.mem_cons, List.not_mem_nil, or_false] at hu
  rcases hu with rfl | rfl | rfl | rfl | rfl | rfl | rfl | rfl | rfl <;> rfl
theorem own_slots {p : Option Addr} {n c : Nat} {cs : List Cm} : ∀ w S, (own tCmd 9 (.slice p n c) n (flat cs)).h w S → Slots w p 9 (cs.map Cm.cells) := by
  rintro w S ⟨hown, -⟩ i l hi
  rw [List.getElem?_map] at hi
  cases hc : cs[i]? with
  | none => rw [hc] at hi; cases hi
  | some x =>
    rw [hc] at hi
    cases hi
    rcases hown.2 with ⟨e1, e2⟩ | ⟨g, cap, cur, e1, _⟩
    · have hl := hown.1
      rw [flat_length] at hl
      have := (List.getElem?_eq_some_iff.1 hc).1
      cases e1
      omega
    · cases e1
      refine ⟨⟨g, 0, none⟩, rfl, fun j v hv => ?_⟩
      have := hown.cells (g := g) rfl _ _ (flat_get hc hv)
      rw [add_lit] at this ⊢
      rw [add_lit]
      simpa using this
/-- what there is behind some commands -/
def oL (b8 b22 b33 m : Nat) (put : List Cm) (p : Option Addr) (cap : Nat) (q : Qu) (bs : List Int) (W0 : World) : List It :=
  [own tCmd 9 (.slice p put.length cap) put.length (flat put), row b33 [.slice p put.length cap] tCmds, row b22 q.cells tQ, memI m bs, row b8 [.bool false] T.t4, keep W0]
theorem bools_get {w : World} {q : Option Addr} {ts : List Bool} (h : Sl w q (ts.map Value.bool)) {k : Nat} (hk : k < ts.length) : ∃ a, q = some a ∧ w.cell? (a.add (k * 1)) = some (.bool (ts[k]'hk)) := by
  obtain ⟨a, ha, hc⟩ := h k (.bool (ts[k]'hk)) (by simp [hk])
  exact ⟨a, ha, by rw [Nat.mul_one]; exact hc⟩
theorem queueOrder_cv {W0 : World} {q : Option Addr} {c : Nat} {cs : List Cm} (hq0 : Slots W0 q 9 (cs.map Cm.cells)) (hl : cs.length * 72 ≤ 140737488355328) {q2 : Option Addr} {c2 : Nat} {ts : List Bool} (hq2 : Sl W0 q2 (ts.map Value.bool)) (e : Int) (he : 0 ≤ e ∧ e ≤ 255) :
    CV P F.crierlaw17_QueueOrder [.int .u8 e, .slice q cs.length c, .slice q2 ts.length c2] W0 fun v w' => v = .bool true ∧ Below W0.heap.size W0 w' := by
  refine crierlaw17_QueueOrder_cv ?_
  unfold crierlaw17_QueueOrder
  have H := keep_start W0
  refine alc_o H fun b8 wx H => ?_
  refine call_p H (awake_t) (by repeat (first | exact Cut.nil | (apply Cut.cons; (repeat (first | exact Pick.here | apply Pick.there))))) fun wx H => ?_
  refine ⟨_, rfl, cnd_i (fun h => by cases h) fun _ => ?_⟩
  refine call_o H (fresh_t e he) (by repeat (first | exact Cut.nil | (apply Cut.cons; (repeat (first | exact Pick.here | apply Pick.there))))) fun vx L' wx hq H => ?_
  obtain ⟨m, bs, hlen, rfl, rfl⟩ := hq
  simp only [List.cons_append, List.nil_append] at H
  refine ⟨_, _, _, _, _, rfl, alc_o H fun b22 wx H => ?_⟩
  refine st1_o H (by repeat (first | exact Rep.here | apply Rep.there)) (by simp) fun wx H => ?_
  refine st1_o H (by repeat (first | exact Rep.here | apply Rep.there)) (by simp) fun wx H => ?_
  refine st1_o H (by repeat (first | exact Rep.here | apply Rep.there)) (by simp) fun wx H => ?_
  refine st1_o H (by repeat (first | exact Rep.here | apply Rep.there)) (by simp) fun wx H => ?_
  refine join_o (cnd_i (fun h => by cases h) fun _ => ?_)
  unfold crierlaw17_QueueOrder_j9
  refine cnd_i (fun h => by cases h) fun _ => alc_o H fun b33 wx H => ?_
  have hN := frN_range e
  have F0 : FQ 16 700 (frN e) 0 ⟨16, 32 * ((frN e : Nat) : Int), 0, 0⟩ bs [] := FQ.new hN.1 (by omega) (by omega) hlen
  generalize frN e = N at *
  have H := own_nil (e := tCmd) (size := 9) H
  have H := H.drop (L1 := oL b8 b22 b33 m [] none 0 ⟨16, 32 * (N : Int), 0, 0⟩ bs W0) (by unfold oL Qu.cells flat; exact (by repeat (first | exact Cut.nil | (apply Cut.cons; (repeat (first | exact Pick.here | apply Pick.there))))))
  refine loop_o (fun (st : Int × Int) L => ∃ (i gone : Nat) (put : List Cm) (r : Nat) (q' : Qu) (bs' : List Int) (p : Option Addr) (cap : Nat), i ≤ cs.length ∧ gone ≤ put.length ∧ put.length ≤ i ∧ st = ((gone : Int), (i : Int)) ∧ FQ 16 700 N r q' bs' (put.drop gone) ∧ L = oL b8 b22 b33 m put p cap q' bs' W0)
    (fun (st : Int × Int) => ((cs.length : Int) - st.2).toNat) H ⟨0, 0, [], 0, _, _, none, 0, by omega, by simp, by simp, rfl, F0, rfl⟩ ?_
  clear H F0 hlen
  rintro _ _ wx ⟨i, gone, put, r, q', bs', p, cap, hi, hgo, hpi, rfl, FA, rfl⟩ H
  unfold crierlaw17_QueueOrder_l8
  dsimp only
  have hdl : (put.drop gone).length = put.length - gone := List.length_drop
  refine cnd_i (fun hc => join_o ?_) fun hc => ?_
  · have hc := of_decide_eq_true hc
    have hlt : i < cs.length := by omega
    obtain ⟨x, hx⟩ : ∃ x, cs[i]? = some x := ⟨_, List.getElem?_eq_getElem hlt⟩
    have e1 : IntKind.i64.wrap ((i : Int) + 1) = ((i + 1 : Nat) : Int) := by rw [W_id (by omega) (by omega)]; push_cast; rfl
    -- the end of a round
    have last : ∀ (gone' : Nat) (put' : List Cm) (r' : Nat) (q'' : Qu) (bs'' : List Int) (p' : Option Addr) (cap' : Nat) wx, gone' ≤ put'.length → put'.length ≤ i + 1 → FQ 16 700 N r' q'' bs'' (put'.drop gone') → X.Own W0 (fun k => k < W0.heap.size) (oL b8 b22 b33 m put' p' cap' q'' bs'' W0) wx →
        crierlaw17_QueueOrder_j0 (i : Int) (fun (s' : Int × Int) w' => (∃ L', (∃ (i gone : Nat) (put : List Cm) (r : Nat) (q' : Qu) (bs' : List Int) (p : Option Addr) (cap : Nat), i ≤ cs.length ∧ gone ≤ put.length ∧ put.length ≤ i ∧ s' = ((gone : Int), (i : Int)) ∧ FQ 16 700 N r q' bs' (put.drop gone) ∧ L' = oL b8 b22 b33 m put p cap q' bs' W0) ∧ X.Own W0 (fun k => k < W0.heap.size) L' w') ∧ ((cs.length : Int) - s'.2).toNat < ((cs.length : Int) - (i : Int)).toNat) (gone' : Int) wx := by
      intro gone' put' r' q'' bs'' p' cap' wx h1 h2 h3 H
      unfold crierlaw17_QueueOrder_j0
      rw [e1]
      exact ⟨⟨_, ⟨i + 1, gone', put', r', q'', bs'', p', cap', by omega, h1, h2, rfl, h3, rfl⟩, H⟩, by show ((cs.length : Int) - ((i + 1 : Nat) : Int)).toNat < _; omega⟩
    -- the taking
    have take : ∀ (put' : List Cm) (q'' : Qu) (bs'' : List Int) (p' : Option Addr) (cap' : Nat) wx, gone ≤ put'.length → put'.length ≤ i + 1 → FQ 16 700 N r q'' bs'' (put'.drop gone) → X.Own W0 (fun k => k < W0.heap.size) (oL b8 b22 b33 m put' p' cap' q'' bs'' W0) wx →
        crierlaw17_QueueOrder_j3 q2 ts.length (fun v w' => v = .bool true ∧ Below W0.heap.size W0 w') b8 (some ⟨m, 0, none⟩) b22 b33 (gone : Int) (i : Int) (fun (s185 : Int) w186 => crierlaw17_QueueOrder_j0 (i : Int) (fun (s' : Int × Int) w' => (∃ L', (∃ (i gone : Nat) (put : List Cm) (r : Nat) (q' : Qu) (bs' : List Int) (p : Option Addr) (cap : Nat), i ≤ cs.length ∧ gone ≤ put.length ∧ put.length ≤ i ∧ s' = ((gone : Int), (i : Int)) ∧ FQ 16 700 N r q' bs' (put.drop gone) ∧ L' = oL b8 b22 b33 m put p cap q' bs' W0) ∧ X.Own W0 (fun k => k < W0.heap.size) L' w') ∧ ((cs.length : Int) - s'.2).toNat < ((cs.length : Int) - (i : Int)).toNat) s185 w186) false wx := by
      intro put' q'' bs'' p' cap' wx h1 h2 FB H
      unfold crierlaw17_QueueOrder_j3
      refine cnd_i (fun h => by cases h) fun _ => join_o ?_
      have no : ∀ wx, X.Own W0 (fun k => k < W0.heap.size) (oL b8 b22 b33 m put' p' cap' q'' bs'' W0) wx →
          crierlaw17_QueueOrder_j2 (fun v w' => v = .bool true ∧ Below W0.heap.size W0 w') b8 (some ⟨m, 0, none⟩) b22 b33 (gone : Int) (fun (s185 : Int) w186 => crierlaw17_QueueOrder_j0 (i : Int) (fun (s' : Int × Int) w' => (∃ L', (∃ (i gone : Nat) (put : List Cm) (r : Nat) (q' : Qu) (bs' : List Int) (p : Option Addr) (cap : Nat), i ≤ cs.length ∧ gone ≤ put.length ∧ put.length ≤ i ∧ s' = ((gone : Int), (i : Int)) ∧ FQ 16 700 N r q' bs' (put.drop gone) ∧ L' = oL b8 b22 b33 m put p cap q' bs' W0) ∧ X.Own W0 (fun k => k < W0.heap.size) L' w') ∧ ((cs.length : Int) - s'.2).toNat < ((cs.length : Int) - (i : Int)).toNat) s185 w186) false wx := by
        intro wx H
        unfold crierlaw17_QueueOrder_j2
        exact cnd_i (fun h => by cases h) fun _ => last gone put' r q'' bs'' p' cap' wx h1 h2 FB H
      refine cnd_i (fun ht => ?_) fun _ => no _ H
      have ht := of_decide_eq_true ht
      have hti : i < ts.length := by omega
      refine ix_i hti ?_
      obtain ⟨a1, rfl, hb⟩ := bools_get (Own.rd H (i := keep W0) (by unfold oL; exact (by repeat (first | exact Pick.here | apply Pick.there))) (keep_sl hq2)) hti
      dsimp only [nn]
      refine ⟨_, hb, ?_⟩
      refine cnd_i (fun _ => ?_) fun _ => no _ H
      unfold oL Qu.cells at H
      repeat (first | refine ldI_o H (by repeat (first | exact Pick.here | apply Pick.there)) (by rfl) ?_ | refine ldL_o H (by repeat (first | exact Pick.here | apply Pick.there)) (by rfl) ?_ | refine ldB_o H (by repeat (first | exact Pick.here | apply Pick.there)) (by rfl) ?_ | refine ldP_o H (by repeat (first | exact Pick.here | apply Pick.there)) (by rfl) ?_ | refine ldS_o H (by repeat (first | exact Pick.here | apply Pick.there)) (by rfl) ?_)
      refine call_p H (Left_t q'') (by repeat (first | exact Cut.nil | (apply Cut.cons; (repeat (first | exact Pick.here | apply Pick.there))))) fun wx H => ?_
      refine ⟨_, rfl, ?_⟩
      have hdl' : (put'.drop gone).length = put'.length - gone := List.length_drop
      rw [FB.left, hdl']
      by_cases hz : put'.length - gone = 0
      · rw [show decide (((put'.length - gone : Nat) : Int) > 0) = false from decide_eq_false (by omega)]
        exact no _ H
      rw [show decide (((put'.length - gone : Nat) : Int) > 0) = true from decide_eq_true (by omega)]
      obtain ⟨y, hy⟩ : ∃ y, put'[gone]? = some y := ⟨_, List.getElem?_eq_getElem (by omega)⟩
      have hdr : put'.drop gone = y :: put'.drop (gone + 1) := by
        obtain ⟨h1, h2⟩ := List.getElem?_eq_some_iff.1 hy
        rw [List.drop_eq_getElem_cons h1, h2]
      rw [hdr] at FB
      unfold crierlaw17_QueueOrder_j2
      refine cnd_i (fun _ => ?_) (fun h => by cases h)
      repeat (first | refine ldI_o H (by repeat (first | exact Pick.here | apply Pick.there)) (by rfl) ?_ | refine ldL_o H (by repeat (first | exact Pick.here | apply Pick.there)) (by rfl) ?_ | refine ldB_o H (by repeat (first | exact Pick.here | apply Pick.there)) (by rfl) ?_ | refine ldP_o H (by repeat (first | exact Pick.here | apply Pick.there)) (by rfl) ?_ | refine ldS_o H (by repeat (first | exact Pick.here | apply Pick.there)) (by rfl) ?_)
      refine call_p H (Head_t m q'' bs'') (by repeat (first | exact Cut.nil | (apply Cut.cons; (repeat (first | exact Pick.here | apply Pick.there))))) fun wx H => ?_
      rw [FB.head]
      refine ⟨_, _, _, _, _, _, _, _, _, _, rfl, alc_o H fun b91 wx H => ?_⟩
      refine st1_o H (by repeat (first | exact Rep.here | apply Rep.there)) (by simp) fun wx H => ?_
      refine st1_o H (by repeat (first | exact Rep.here | apply Rep.there)) (by simp) fun wx H => ?_
      refine st1_o H (by repeat (first | exact Rep.here | apply Rep.there)) (by simp) fun wx H => ?_
      refine st1_o H (by repeat (first | exact Rep.here | apply Rep.there)) (by simp) fun wx H => ?_
      refine st1_o H (by repeat (first | exact Rep.here | apply Rep.there)) (by simp) fun wx H => ?_
      refine st1_o H (by repeat (first | exact Rep.here | apply Rep.there)) (by simp) fun wx H => ?_
      refine st1_o H (by repeat (first | exact Rep.here | apply Rep.there)) (by simp) fun wx H => ?_
      refine st1_o H (by repeat (first | exact Rep.here | apply Rep.there)) (by simp) fun wx H => ?_
      refine st1_o H (by repeat (first | exact Rep.here | apply Rep.there)) (by simp) fun wx H => ?_
      refine join_o ?_
      refine drw_o H fun wx H => ?_
      refine cnd_i (fun h => by cases h) fun _ => ?_
      repeat (first | refine ldI_o H (by repeat (first | exact Pick.here | apply Pick.there)) (by rfl) ?_ | refine ldL_o H (by repeat (first | exact Pick.here | apply Pick.there)) (by rfl) ?_ | refine ldB_o H (by repeat (first | exact Pick.here | apply Pick.there)) (by rfl) ?_ | refine ldP_o H (by repeat (first | exact Pick.here | apply Pick.there)) (by rfl) ?_ | refine ldS_o H (by repeat (first | exact Pick.here | apply Pick.there)) (by rfl) ?_)
      refine cnd_i (fun hb2 => by have := of_decide_eq_true hb2; omega) fun _ => ?_
      repeat (first | refine ldI_o H (by repeat (first | exact Pick.here | apply Pick.there)) (by rfl) ?_ | refine ldL_o H (by repeat (first | exact Pick.here | apply Pick.there)) (by rfl) ?_ | refine ldB_o H (by repeat (first | exact Pick.here | apply Pick.there)) (by rfl) ?_ | refine ldP_o H (by repeat (first | exact Pick.here | apply Pick.there)) (by rfl) ?_ | refine ldS_o H (by repeat (first | exact Pick.here | apply Pick.there)) (by rfl) ?_)
      refine ix_i (by omega) ?_
      obtain ⟨a2, rfl, e0, ee⟩ := slot_cells (Own.rdS H (i := own tCmd 9 (.slice p' put'.length cap') put'.length (flat put')) (by repeat (first | exact Pick.here | apply Pick.there)) own_slots) hy
      dsimp only [nn]
      refine ⟨_, e0 _ rfl, ⟨_, ee 1 _ rfl, ⟨_, ee 2 _ rfl, ⟨_, ee 3 _ rfl, ⟨_, ee 4 _ rfl, ⟨_, ee 5 _ rfl, ⟨_, ee 6 _ rfl, ⟨_, ee 7 _ rfl, ⟨_, ee 8 _ rfl, ?_⟩⟩⟩⟩⟩⟩⟩⟩⟩
      refine cm_ne (c := y) (d := y) (cnd_i (fun h => by simp at h) fun _ => ?_)
      obtain ⟨ep, FC⟩ := FB.pass
      refine call_o H (Pass_t b22 q'') (by repeat (first | exact Cut.nil | (apply Cut.cons; (repeat (first | exact Pick.here | apply Pick.there))))) fun vx L' wx hq H => ?_
      rw [ep] at hq
      obtain ⟨rfl, rfl⟩ := hq
      simp only [List.cons_append, List.nil_append] at H
      refine ⟨_, rfl, ?_⟩
      unfold crierlaw17_QueueOrder_j1
      refine cnd_i (fun h => by cases h) fun _ => ?_
      have e2 : IntKind.i64.wrap ((gone : Int) + 1) = ((gone + 1 : Nat) : Int) := by rw [W_id (by omega) (by omega)]; push_cast; rfl
      rw [e2]
      exact last (gone + 1) put' _ _ _ _ cap' wx (by omega) h2 FC (H.drop (by unfold oL; exact (by repeat (first | exact Cut.nil | (apply Cut.cons; (repeat (first | exact Pick.here | apply Pick.there)))))))
    have H0 := H
    unfold oL Qu.cells at H
    repeat (first | refine ldI_o H (by repeat (first | exact Pick.here | apply Pick.there)) (by rfl) ?_ | refine ldL_o H (by repeat (first | exact Pick.here | apply Pick.there)) (by rfl) ?_ | refine ldB_o H (by repeat (first | exact Pick.here | apply Pick.there)) (by rfl) ?_ | refine ldP_o H (by repeat (first | exact Pick.here | apply Pick.there)) (by rfl) ?_ | refine ldS_o H (by repeat (first | exact Pick.here | apply Pick.there)) (by rfl) ?_)
    refine call_p H (Room_t q') (by repeat (first | exact Cut.nil | (apply Cut.cons; (repeat (first | exact Pick.here | apply Pick.there))))) fun wx H => ?_
    rw [FA.room]
    refine ⟨_, rfl, ix_i hlt ?_⟩
    obtain ⟨a1, ea, e0, ee⟩ := slot_cells (Own.rdS H (i := keep W0) (by repeat (first | exact Pick.here | apply Pick.there)) (keep_slots hq0)) hx
    rw [ea]
    dsimp only [nn]
    refine ⟨_, e0 _ rfl, ⟨_, ee 1 _ rfl, ⟨_, ee 2 _ rfl, ⟨_, ee 3 _ rfl, ⟨_, ee 4 _ rfl, ⟨_, ee 5 _ rfl, ⟨_, ee 6 _ rfl, ⟨_, ee 7 _ rfl, ⟨_, ee 8 _ rfl, ?_⟩⟩⟩⟩⟩⟩⟩⟩⟩
    refine call_o H (Put_t b22 m q' bs' x) (by repeat (first | exact Cut.nil | (apply Cut.cons; (repeat (first | exact Pick.here | apply Pick.there))))) fun vx L' wx hq H => ?_
    have hdn := FA.hn
    by_cases hf : (put.drop gone).length + 1 = N
    · rw [FA.full hf x] at hq
      obtain ⟨rfl, rfl⟩ := hq
      simp only [List.cons_append, List.nil_append] at H
      refine ⟨_, rfl, join_o (cnd_i (fun h => by cases h) fun _ => ?_)⟩
      unfold crierlaw17_QueueOrder_j4
      refine join_o (cnd_i (fun _ => cnd_i (fun h => by cases h) fun _ => cnd_i (fun h => by have := of_decide_eq_true h; omega) fun _ => ?_) fun h => by have := of_decide_eq_false h; omega)
      exact take put q' bs' p cap wx hgo (by omega) FA (H.drop (by unfold oL Qu.cells; exact (by repeat (first | exact Cut.nil | (apply Cut.cons; (repeat (first | exact Pick.here | apply Pick.there)))))))
    · have hf : (put.drop gone).length + 1 < N := by omega
      cases hen : encM x with
      | none =>
        rw [FA.refuse hf hen] at hq
        obtain ⟨rfl, rfl⟩ := hq
        simp only [List.cons_append, List.nil_append] at H
        refine ⟨_, rfl, join_o (cnd_i (fun h => by cases h) fun _ => ?_)⟩
        unfold crierlaw17_QueueOrder_j4
        refine join_o (cnd_i (fun h => by have := of_decide_eq_true h; omega) fun h => cnd_i (fun h => ?_) fun h => ?_)
        · exact take put q' bs' p cap wx hgo (by omega) FA (H.drop (by unfold oL Qu.cells; exact (by repeat (first | exact Cut.nil | (apply Cut.cons; (repeat (first | exact Pick.here | apply Pick.there)))))))
        · exact take put q' bs' p cap wx hgo (by omega) FA (H.drop (by unfold oL Qu.cells; exact (by repeat (first | exact Cut.nil | (apply Cut.cons; (repeat (first | exact Pick.here | apply Pick.there)))))))
      | some ws =>
        obtain ⟨ep, FB⟩ := FA.put hf hen
        rw [ep] at hq
        obtain ⟨rfl, rfl⟩ := hq
        simp only [List.cons_append, List.nil_append] at H
        refine ⟨_, rfl, join_o (cnd_i (fun _ => ?_) (fun h => by cases h))⟩
        refine drw_o H fun wx H => ?_
        repeat (first | refine ldI_o H (by repeat (first | exact Pick.here | apply Pick.there)) (by rfl) ?_ | refine ldL_o H (by repeat (first | exact Pick.here | apply Pick.there)) (by rfl) ?_ | refine ldB_o H (by repeat (first | exact Pick.here | apply Pick.there)) (by rfl) ?_ | refine ldP_o H (by repeat (first | exact Pick.here | apply Pick.there)) (by rfl) ?_ | refine ldS_o H (by repeat (first | exact Pick.here | apply Pick.there)) (by rfl) ?_)
        refine ix_i hlt ?_
        obtain ⟨a1', ea', e0', ee'⟩ := slot_cells (Own.rdS H (i := keep W0) (by repeat (first | exact Pick.here | apply Pick.there)) (keep_slots hq0)) hx
        rw [ea] at ea'
        cases ea'
        refine ⟨_, e0' _ rfl, ⟨_, ee' 1 _ rfl, ⟨_, ee' 2 _ rfl, ⟨_, ee' 3 _ rfl, ⟨_, ee' 4 _ rfl, ⟨_, ee' 5 _ rfl, ⟨_, ee' 6 _ rfl, ⟨_, ee' 7 _ rfl, ⟨_, ee' 8 _ rfl, ?_⟩⟩⟩⟩⟩⟩⟩⟩⟩
        refine alc_o H fun b173 wx H => ?_
        refine ⟨ldL_o H (by repeat (first | exact Pick.here | apply Pick.there)) rfl rfl, ?_⟩
        have hrow := H.row (b := b173) (by repeat (first | exact Pick.here | apply Pick.there))
        refine app_o appCmds (by omega) H (e := tCmd) (size := 9) (p := p) (n := put.length) (c := cap) (xs := flat put) (by repeat (first | exact Pick.here | apply Pick.there)) (q := some ⟨b173, 0, none⟩) (m := 1) (news := x.cells) (fun j u hj => ⟨_, rfl, ?_⟩) rfl (fun u hu => flat_one [x] u (by unfold flat; simpa using hu)) (by unfold maxLen; omega) (by omega) fun p' c' wx H => ?_
        · rw [add_lit, Nat.zero_add, hrow.cell]; exact hj
        refine st1_o H (by repeat (first | exact Rep.here | apply Rep.there)) (by simp) fun wx H => ?_
        have hfl : flat put ++ x.cells = flat (put ++ [x]) := by rw [flat_append]; simp [flat]
        rw [hfl] at H
        unfold crierlaw17_QueueOrder_j4
        have hdr : put.drop gone ++ [x] = (put ++ [x]).drop gone := by rw [List.drop_append_of_le_length hgo]
        rw [hdr] at FB
        have hle : (put ++ [x]).length = put.length + 1 := by simp
        have fin : crierlaw17_QueueOrder_j3 q2 ts.length (fun v w' => v = .bool true ∧ Below W0.heap.size W0 w') b8 (some ⟨m, 0, none⟩) b22 b33 (gone : Int) (i : Int) _ false wx :=
          take (put ++ [x]) _ _ p' c' wx (by omega) (by omega) FB (by unfold oL; rw [hle]; exact H.drop (by repeat (first | exact Cut.nil | (apply Cut.cons; (repeat (first | exact Pick.here | apply Pick.there))))))
        refine join_o (cnd_i (fun h => by have := of_decide_eq_true h; omega) fun h => cnd_i (fun h => ?_) fun h => ?_)
        · exact fin
        · exact fin
  · have hc := of_decide_eq_false hc
    unfold oL Qu.cells at H
    refine alc_o H fun b187 wx H => ?_
    refine st1_o H (by repeat (first | exact Rep.here | apply Rep.there)) (by simp) fun wx H => ?_
    repeat (first | refine ldI_o H (by repeat (first | exact Pick.here | apply Pick.there)) (by rfl) ?_ | refine ldL_o H (by repeat (first | exact Pick.here | apply Pick.there)) (by rfl) ?_ | refine ldB_o H (by repeat (first | exact Pick.here | apply Pick.there)) (by rfl) ?_ | refine ldP_o H (by repeat (first | exact Pick.here | apply Pick.there)) (by rfl) ?_ | refine ldS_o H (by repeat (first | exact Pick.here | apply Pick.there)) (by rfl) ?_)
    refine call_o H (Each_t m q' bs') (by repeat (first | exact Cut.nil | (apply Cut.cons; (repeat (first | exact Pick.here | apply Pick.there))))) fun vx L' wx hq H => ?_
    obtain ⟨g, h, rfl, rfl⟩ := hq
    refine ⟨_, rfl, ?_⟩
    let rows : Nat → List It := fun k => [row b187 [.int .i64 ((gone + k : Nat) : Int)] tInt, own tCmd 9 (.slice p put.length cap) put.length (flat put), row b33 [.slice p put.length cap] tCmds, row b22 q'.cells tQ, row b8 [.bool false] T.t4, keep W0]
    have H := H.drop (L1 := rows 0 ++ eachE g h m q' bs') (by unfold eachE Qu.cells; exact (by repeat (first | exact Cut.nil | (apply Cut.cons; (repeat (first | exact Pick.here | apply Pick.there))))))
    have hcnt : (comsL q' bs').length = put.length - gone := by simp only [comsL, List.length_map, List.length_range, FA.cnt, hdl]
    refine rf_o (fun k Li => Li = rows k) (fun _ _ => False) each_enters (each_it g h m q' bs') (coms_len q' bs') H rfl ?_ ?_ ?_
    · rintro k x _ F l r' d wx Q2 hx rfl H hgo' hdone
      obtain ⟨hkc, rfl⟩ := coms_at hx
      rw [FA.cnt, hdl] at hkc
      obtain ⟨y, hy⟩ : ∃ y, put[gone + k]? = some y := ⟨_, List.getElem?_eq_getElem (by omega)⟩
      have hld := FA.load (k := k) (c := y) (by rw [List.getElem?_drop]; exact hy)
      rw [hld]
      unfold crierlaw17_QueueOrder_r6
      dsimp only [X.b2]
      refine ⟨_, _, _, _, _, _, _, _, _, rfl, _, rfl, alc_o H fun b214 wx H => ?_⟩
      dsimp only [rows] at H
      simp only [List.cons_append, List.nil_append] at H
      refine st1_o H (by repeat (first | exact Rep.here | apply Rep.there)) (by simp) fun wx H => ?_
      refine st1_o H (by repeat (first | exact Rep.here | apply Rep.there)) (by simp) fun wx H => ?_
      refine st1_o H (by repeat (first | exact Rep.here | apply Rep.there)) (by simp) fun wx H => ?_
      refine st1_o H (by repeat (first | exact Rep.here | apply Rep.there)) (by simp) fun wx H => ?_
      refine st1_o H (by repeat (first | exact Rep.here | apply Rep.there)) (by simp) fun wx H => ?_
      refine st1_o H (by repeat (first | exact Rep.here | apply Rep.there)) (by simp) fun wx H => ?_
      refine st1_o H (by repeat (first | exact Rep.here | apply Rep.there)) (by simp) fun wx H => ?_
      refine st1_o H (by repeat (first | exact Rep.here | apply Rep.there)) (by simp) fun wx H => ?_
      refine st1_o H (by repeat (first | exact Rep.here | apply Rep.there)) (by simp) fun wx H => ?_
      refine rec_o H (.there .here) fun wx H => join_o ?_
      refine drw_o H fun wx H => ?_
      repeat (first | refine ldI_o H (by repeat (first | exact Pick.here | apply Pick.there)) (by rfl) ?_ | refine ldL_o H (by repeat (first | exact Pick.here | apply Pick.there)) (by rfl) ?_ | refine ldB_o H (by repeat (first | exact Pick.here | apply Pick.there)) (by rfl) ?_ | refine ldP_o H (by repeat (first | exact Pick.here | apply Pick.there)) (by rfl) ?_ | refine ldS_o H (by repeat (first | exact Pick.here | apply Pick.there)) (by rfl) ?_)
      refine cnd_i (fun hb2 => by have := of_decide_eq_true hb2; omega) fun _ => cnd_i (fun h => by cases h) fun _ => ?_
      repeat (first | refine ldI_o H (by repeat (first | exact Pick.here | apply Pick.there)) (by rfl) ?_ | refine ldL_o H (by repeat (first | exact Pick.here | apply Pick.there)) (by rfl) ?_ | refine ldB_o H (by repeat (first | exact Pick.here | apply Pick.there)) (by rfl) ?_ | refine ldP_o H (by repeat (first | exact Pick.here | apply Pick.there)) (by rfl) ?_ | refine ldS_o H (by repeat (first | exact Pick.here | apply Pick.there)) (by rfl) ?_)
      refine ix_i (by omega) ?_
      obtain ⟨a1, rfl, e0, ee⟩ := slot_cells (Own.rdS H (i := own tCmd 9 (.slice p put.length cap) put.length (flat put)) (by repeat (first | exact Pick.here | apply Pick.there)) own_slots) hy
      dsimp only [nn]
      refine ⟨_, e0 _ rfl, ⟨_, ee 1 _ rfl, ⟨_, ee 2 _ rfl, ⟨_, ee 3 _ rfl, ⟨_, ee 4 _ rfl, ⟨_, ee 5 _ rfl, ⟨_, ee 6 _ rfl, ⟨_, ee 7 _ rfl, ⟨_, ee 8 _ rfl, ?_⟩⟩⟩⟩⟩⟩⟩⟩⟩
      refine cm_ne (c := y) (d := y) ?_
      unfold crierlaw17_QueueOrder_j5
      refine cnd_i (fun h => by simp at h) fun _ => ?_
      repeat (first | refine ldI_o H (by repeat (first | exact Pick.here | apply Pick.there)) (by rfl) ?_ | refine ldL_o H (by repeat (first | exact Pick.here | apply Pick.there)) (by rfl) ?_ | refine ldB_o H (by repeat (first | exact Pick.here | apply Pick.there)) (by rfl) ?_ | refine ldP_o H (by repeat (first | exact Pick.here | apply Pick.there)) (by rfl) ?_ | refine ldS_o H (by repeat (first | exact Pick.here | apply Pick.there)) (by rfl) ?_)
      have e1 : IntKind.i64.wrap (((gone + k : Nat) : Int) + 1) = ((gone + (k + 1) : Nat) : Int) := by rw [W_id (by omega) (by omega)]; push_cast; omega
      rw [e1]
      refine st1_o H (.there (.there (.there .here))) (by simp) fun wx H => ?_
      refine rec_o H (.there .here) fun wx H => hgo' (rows (k + 1)) wx rfl ?_
      exact H.rest (L1 := [row b214 _ _]) (.cons .here .nil)
    · rintro d _ wx rfl H
      dsimp only [jmpX]
      rw [hcnt] at H
      dsimp only [rows] at H
      unfold eachE Qu.cells at H
      simp only [List.cons_append, List.nil_append] at H
      have e3 : gone + (put.length - gone) = put.length := by omega
      rw [e3] at H
      refine join_o ?_
      refine drw_o H fun wx H => ?_
      repeat (first | refine ldI_o H (by repeat (first | exact Pick.here | apply Pick.there)) (by rfl) ?_ | refine ldL_o H (by repeat (first | exact Pick.here | apply Pick.there)) (by rfl) ?_ | refine ldB_o H (by repeat (first | exact Pick.here | apply Pick.there)) (by rfl) ?_ | refine ldP_o H (by repeat (first | exact Pick.here | apply Pick.there)) (by rfl) ?_ | refine ldS_o H (by repeat (first | exact Pick.here | apply Pick.there)) (by rfl) ?_)
      refine cnd_i (fun _ => ?_) (fun h => by simp at h)
      repeat (first | refine ldI_o H (by repeat (first | exact Pick.here | apply Pick.there)) (by rfl) ?_ | refine ldL_o H (by repeat (first | exact Pick.here | apply Pick.there)) (by rfl) ?_ | refine ldB_o H (by repeat (first | exact Pick.here | apply Pick.there)) (by rfl) ?_ | refine ldP_o H (by repeat (first | exact Pick.here | apply Pick.there)) (by rfl) ?_ | refine ldS_o H (by repeat (first | exact Pick.here | apply Pick.there)) (by rfl) ?_)
      refine call_p H (Left_t q') (by repeat (first | exact Cut.nil | (apply Cut.cons; (repeat (first | exact Pick.here | apply Pick.there))))) fun wx H => ?_
      rw [FA.left, hdl]
      refine ⟨_, rfl, rfl, ldL_o H (by repeat (first | exact Pick.here | apply Pick.there)) rfl rfl, ?_⟩
      refine st1_o H (by repeat (first | exact Rep.here | apply Rep.there)) (by simp) fun wx H => ?_
      have e4 : (((put.length - gone : Nat) : Int) == IntKind.i64.wrap (((put.length : Nat) : Int) - (gone : Int))) = true := by
        rw [W_id (by omega) (by omega)]
        simp
        omega
      rw [e4] at H
      unfold crierlaw17_QueueOrder_j7
      refine take_o H (by repeat (first | exact Pick.here | apply Pick.there)) fun wx H => ?_
      repeat (first | refine ldI_o H (by repeat (first | exact Pick.here | apply Pick.there)) (by rfl) ?_ | refine ldL_o H (by repeat (first | exact Pick.here | apply Pick.there)) (by rfl) ?_ | refine ldB_o H (by repeat (first | exact Pick.here | apply Pick.there)) (by rfl) ?_ | refine ldP_o H (by repeat (first | exact Pick.here | apply Pick.there)) (by rfl) ?_ | refine ldS_o H (by repeat (first | exact Pick.here | apply Pick.there)) (by rfl) ?_)
      exact ⟨rfl, keep_done H (by repeat (first | exact Pick.here | apply Pick.there))⟩
    · rintro d c' L wx h H
      exact h.elim
end Go.Proofs.Ytggchklafbpgpaa
