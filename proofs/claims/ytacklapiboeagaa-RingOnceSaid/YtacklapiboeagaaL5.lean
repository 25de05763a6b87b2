/-
  ring: whether a place waits; whether a row has a number; the places of a loop, reckoned; RingOnce.
-/
import Derived.Test.YtacklapiboeagaaL4
namespace Go.Proofs.Ytacklapiboeagaa
open Go Go.RowKit X
set_option maxRecDepth 100000
set_option linter.unusedVariables false
theorem has_cv {w : World} {p : Option Addr} {c : Nat} {xs : List Int} {a : Int} (hx : Sl w p (ints xs)) (hn : xs.length ≤ 9223372036854775807) :
    CV P F.crierref01_Has [.slice p xs.length c, .int .i64 a] w fun v w' => v = .bool (decide (a ∈ xs)) ∧ Below w.heap.size w w' ∧ w'.heap = w.heap := by
  refine crierref01_Has_cv ?_
  unfold crierref01_Has
  refine ⟨fun (i : Int) w' => ∃ k : Nat, i = k ∧ k ≤ xs.length ∧ a ∉ xs.take k ∧ w' = w, fun (i : Int) _ => (xs.length - i).toNat, ⟨0, rfl, by omega, by simp, rfl⟩, ?_⟩
  rintro i _ ⟨k, rfl, hk, ht, rfl⟩
  unfold crierref01_Has_l0
  refine cnd_i (fun h => ?_) fun h => ⟨?_, Below.refl _ _, rfl⟩
  · have h := of_decide_eq_true h
    have hk' : k < xs.length := by omega
    refine ⟨⟨by omega, by omega⟩, ?_⟩
    rw [show ((k : Int)).toNat = k from rfl]
    refine sl_ld hx hk' (cnd_i (fun h' => ⟨?_, Below.refl _ _, rfl⟩) fun h' => ⟨⟨k + 1, ?_, by omega, ?_, rfl⟩, ?_⟩)
    · have e : xs[k] = a := by simpa using h'
      have : a ∈ xs := by rw [← e]; exact List.getElem_mem _
      simp [this]
    · rw [W_id (by omega) (by omega)]; rfl
    · rw [List.take_succ_eq_append_getElem hk']
      have e : xs[k] ≠ a := by simpa using h'
      simp only [List.mem_append, List.mem_singleton, not_or]
      exact ⟨ht, fun h => e h.symm⟩
    · rw [W_id (by omega) (by omega)]
      show ((xs.length : Int) - ((k : Int) + 1)).toNat < ((xs.length : Int) - (k : Int)).toNat
      omega
  · have h := of_decide_eq_false h
    rw [List.take_of_length_le (by omega)] at ht
    simp [ht]
def waitsB (s t rd wr a : Int) : Bool := mayB s t a && (List.range (cnt s t rd wr)).any fun k => nth s t rd k == a
theorem waits_plain (s t rd wr a : Int) : Plain F.ring_Ring_Waits [ringV s t, i64V rd, i64V wr, i64V a] (.bool (waitsB s t rd wr a)) := by
  intro w
  refine ring_Ring_Waits_cv ?_
  refine alc_i fun w1 hB1 h1 hs1 => alc_i fun w2 hB2 h2 hs2 => alc_i fun w3 hB3 h3 hs3 => ?_
  have hb3 := ((hB1 _ (Nat.le_refl _)).trans (hB2 _ (by omega))).trans (hB3 w.heap.size (by omega))
  have h1 := (h1.below (hB2 w1.heap.size (Nat.le_refl _)) (by omega)).below (hB3 w2.heap.size (Nat.le_refl _)) (by omega)
  have h2 := h2.below (hB3 w2.heap.size (Nat.le_refl _)) (by omega)
  refine ldI_i h1 rfl (ldI_i h1 rfl (ldI_i h2 rfl ?_))
  refine (may_plain s t a w3).mono ?_
  rintro _ w4 ⟨rfl, hB4⟩
  have h1 := h1.ext hB4
  have h2 := h2.ext hB4
  have h3 := h3.ext hB4
  have hb4 := hb3.trans (hB4.mono hb3.size)
  have hs4 := hB4.size
  refine ⟨_, rfl, ?_⟩
  cases hm : mayB s t a
  · refine cnd_i (fun _ => ?_) fun h => by cases h
    refine st1_i h3 (by simp) fun w5 hB5 _ _ h5 => ldB_i h5 rfl ⟨by simp [waitsB, hm], hb4.trans (hB5 w.heap.size (by omega))⟩
  refine ldI_i h1 rfl (ldI_i h1 rfl ?_)
  refine (each_cv s t rd wr w4).mono ?_
  rintro _ wa ⟨g0, g1, g2, rfl, hBa, hg0, r0, r1, r2⟩
  refine ⟨_, rfl, ?_⟩
  have h2 := h2.ext hBa
  have h3 := h3.ext hBa
  have hba := hb4.trans (hBa.mono hb4.size)
  have hsa := hBa.size
  unfold RF inLoop
  simp only
  intro r l wE mark hE hYV
  simp only [Entered] at hE
  obtain ⟨rfl, rfl, rfl⟩ := hE
  refine enters_cv (first := []) (cap := [.pointer (some ⟨g0, 0, none⟩), .pointer (some ⟨g1, 0, none⟩), .pointer (some ⟨g2, 0, none⟩)]) (by kernel_rfl) ?_
  generalize hwE : (wa.alloc (.deferred (some []))).alloc (.loop { r with state := .ready, pending := none }) = wE
  have hsE : wE.heap.size = wa.heap.size + 2 := by rw [← hwE]; simp
  have hBE : Below wa.heap.size wa wE := by rw [← hwE]; exact ((Below.refl _ wa).alloc (Nat.le_refl _) _).alloc (by simp) _
  have hrec : recAt wE (wa.heap.size + 1) r .ready none := by
    rw [← hwE]; unfold recAt
    have := World.alloc_heap_new (wa.alloc (.deferred (some []))) (.loop { r with state := .ready, pending := none })
    simpa using this
  have hdef : wE.heap[wa.heap.size]? = some (.deferred (some [])) := by
    rw [← hwE, Below.heap_alloc _ _ _ (by simp)]; exact World.alloc_heap_new _ _
  have hg := r0.lt
  have hl2 := h2.lt
  have hl3 := h3.lt
  refine each1_cv (fun k w' => Below w.heap.size w w' ∧ Row w' g0 [.int .i64 s, .int .i64 t] T.t23 ∧ recAt w' (wa.heap.size + 1) r .ready none ∧ w'.heap[wa.heap.size]? = some (.deferred (some [])) ∧
      Row w' w1.heap.size [.int .i64 a] T.t3 ∧ Row w' w2.heap.size [.bool false] T.t4 ∧ ∀ j, j < k → nth s t rd j ≠ a) (r0.ext hBE) (r1.ext hBE) (r2.ext hBE) (fun k w' h => h.2.1) ?_ ?_ ?_
  · intro w' hB
    exact ⟨hba.trans ((hBE.mono hba.size).trans (hB.mono (by have := hba.size; omega))), (r0.ext hBE).ext hB, recAt_below hrec hB (by omega), by rw [hB.block _ (by omega)]; exact hdef, (h2.ext hBE).ext hB, (h3.ext hBE).ext hB, by omega⟩
  · rintro k w' hk ⟨hb, hr0, hrc, hd, ha, hf, hno⟩
    refine hYV _ _ _ rfl hrc ?_
    unfold ring_Ring_Waits_r0
    refine ⟨_, rfl, hrc, ?_⟩
    show ldI _ _ _ _
    have hl := recAt_lt hrc
    have hba' := hba.size
    refine ldI_i (ha.put (by omega)) rfl (cnd_i (fun h => ?_) fun h => ⟨recAt_put hl, ?_⟩)
    · have hf' := hf.put (l := wa.heap.size + 1) (o := .loop { r with state := .busy, pending := none }) (by omega)
      refine st1_i hf' (by simp) fun w6 hB6 e6 hs6 h6 => ?_
      have hrc6 : recAt w6 (wa.heap.size + 1) r .busy none := by unfold recAt; rw [e6 _ (by omega)]; exact recAt_put hl
      have hl6 := recAt_lt hrc6
      refine ⟨hrc6, false, rfl, ?_⟩
      refine ⟨_, _, recAt_put hl6, by simp, ?_⟩
      unfold setR jmpX
      simp only
      refine ⟨?_, ?_⟩
      · rw [World.putObj_heap_other (by omega), World.putObj_heap_other (by omega), e6 _ (by omega), World.putObj_heap_other (by omega)]; exact hd
      · refine ldB_i (cs := [.bool true]) (((Row.put h6 (by omega)).put (by omega)).put (by omega)) rfl ⟨?_, ?_⟩
        · have e : nth s t rd k = a := by simpa using h
          have : waitsB s t rd wr a = true := by
            simp only [waitsB, hm, Bool.true_and, List.any_eq_true, List.mem_range, beq_iff_eq]
            exact ⟨k, hk, e⟩
          rw [this]
        · exact ((((hb.trans (putObj_below _ (by omega))).trans (hB6 _ (by omega))).trans (putObj_below _ (by omega))).trans (putObj_below _ (by omega))).trans (putObj_below _ (by omega))
    · refine ⟨true, rfl, ?_⟩
      simp only [if_true]
      have e : nth s t rd k ≠ a := by simpa using h
      refine ⟨(hb.trans (putObj_below _ (by omega))).trans (putObj_below _ (by omega)), (hr0.put (by omega)).put (by omega), recAt_put (by simpa using hl), ?_, (ha.put (by omega)).put (by omega), (hf.put (by omega)).put (by omega), ?_⟩
      · rw [World.putObj_heap_other (by omega), World.putObj_heap_other (by omega)]; exact hd
      · intro j hj
        rcases Nat.lt_or_ge j k with h' | h'
        · exact hno j h'
        · rw [show j = k by omega]; exact e
  · rintro w' ⟨hb, hr0, hrc, hd, ha, hf, hno⟩
    have hba' := hba.size
    refine ⟨_, _, hrc, by simp, ?_⟩
    unfold setR jmpX
    simp only
    refine st1_i (hf.put (by omega)) (by simp) fun w6 hB6 e6 hs6 h6 => ⟨?_, ?_⟩
    · rw [e6 _ (by omega), World.putObj_heap_other (by omega)]; exact hd
    · refine ldB_i (cs := [.bool false]) (Row.put h6 (by omega)) rfl ⟨?_, ((hb.trans (putObj_below _ (by omega))).trans (hB6 _ (by omega))).trans (putObj_below _ (by omega))⟩
      have : waitsB s t rd wr a = false := by
        simp only [waitsB, hm, Bool.true_and, List.any_eq_false, List.mem_range, beq_iff_eq]
        exact fun j hj => hno j hj
      rw [this]
end Go.Proofs.Ytacklapiboeagaa
