/-
  ring: the list that the law makes of a loop; rows held against each other; the document's examples.
-/
import Derived.Test.YtacklapiboeagaaL2
namespace Go.Proofs.Ytacklapiboeagaa
open Go Go.RowKit X
set_option maxRecDepth 100000
set_option linter.unusedVariables false
def listR (s t rd : Int) (n : Nat) : List Value := (List.range n).map fun k => .int .i64 (nth s t rd k)
theorem listR_succ (s t rd : Int) (n : Nat) : listR s t rd (n + 1) = listR s t rd n ++ [.int .i64 (nth s t rd n)] := by simp [listR, List.range_succ]
theorem cnt_le {s t a b : Int} (hs : s ≤ 9223372036854775807) : cnt s t a b ≤ 1024 := by
  unfold cnt
  split
  · rename_i h
    simp only [Bool.and_eq_true] at h
    obtain ⟨h1, h2, _, h3⟩ := right_pos (may_right h.1)
    have h4 : 0 ≤ s.tdiv t := Int.tdiv_nonneg (by omega) (by omega)
    have h5 : s.tdiv t ≤ s := by
      rw [Int.tdiv_eq_ediv_of_nonneg (by omega)]; exact Int.ediv_le_self _ (by omega)
    have h6 : s.tdiv t ≤ 1024 := by unfold W at h3; rw [W_id (by omega) (by omega)] at h3; exact h3
    unfold leftV
    generalize W (W (b - a) + s) = x
    have h7 : x.tmod s < s := Int.tmod_lt_of_pos _ (by omega)
    have h8 : (x.tmod s).tdiv t ≤ 1024 := by
      rcases Int.lt_or_le (x.tmod s) 0 with h | h
      · have : (x.tmod s).tdiv t ≤ 0 := by
          have := Int.tdiv_nonneg (a := -(x.tmod s)) (b := t) (by omega) (by omega)
          rw [Int.neg_tdiv] at this; omega
        omega
      · rw [Int.tdiv_eq_ediv_of_nonneg h]
        rw [Int.tdiv_eq_ediv_of_nonneg (by omega)] at h6
        exact Int.le_trans (Int.ediv_le_ediv (by omega) (by omega)) h6
    have h9 : -9223372036854775808 ≤ (x.tmod s).tdiv t := by
      have h10 : -s < x.tmod s := by
        have := Int.lt_tmod_of_pos x (show 0 < s by omega); omega
      rcases Int.lt_or_le (x.tmod s) 0 with h | h
      · have h11 : (-(x.tmod s)).tdiv t ≤ -(x.tmod s) := by
          rw [Int.tdiv_eq_ediv_of_nonneg (by omega)]; exact Int.ediv_le_self _ (by omega)
        rw [Int.neg_tdiv] at h11; omega
      · have := Int.tdiv_nonneg (a := x.tmod s) (b := t) h (by omega); omega
    unfold W; rw [W_id h9 (by omega)]; omega
  · omega
theorem app32 : appB P T.t32 T.t3 1 8 = true := by kernel_rfl
theorem lawEach_cv (s t rd wr : Int) (hs : s ≤ 9223372036854775807) (w : World) : CV P F.crierlaw02_Each [ringV s t, i64V rd, i64V wr] w fun v w' => ∃ p c, v = .slice p (cnt s t rd wr) c ∧ Below w.heap.size w w' ∧
    w'.ownsRow w.heap.size T.t3 1 (.slice p (cnt s t rd wr) c) (cnt s t rd wr) (listR s t rd (cnt s t rd wr)) := by
  refine crierlaw02_Each_cv ?_
  refine alc_i fun w1 hB1 h1 hs1 => alc_i fun w2 hB2 h2 hs2 => ?_
  have h1' := h1.below (hB2 w1.heap.size (Nat.le_refl _)) (by omega)
  refine ldI_i h1' rfl (ldI_i h1' rfl ?_)
  refine (each_cv s t rd wr w2).mono ?_
  rintro _ wa ⟨g0, g1, g2, rfl, hBa, hg0, r0, r1, r2⟩
  refine ⟨_, rfl, ?_⟩
  have h2' := h2.ext hBa
  have hba : Below w.heap.size w wa := ((hB1 _ (Nat.le_refl _)).trans (hB2 _ (by omega))).trans (hBa.mono (by omega))
  have hsa := hBa.size
  unfold JoinT RF inLoop
  simp only
  intro r l wE mark hE hYV
  simp only [Entered] at hE
  obtain ⟨rfl, rfl, rfl⟩ := hE
  refine enters_cv (first := []) (cap := [.pointer (some ⟨g0, 0, none⟩), .pointer (some ⟨g1, 0, none⟩), .pointer (some ⟨g2, 0, none⟩)]) (by kernel_rfl) ?_
  generalize hwE : (wa.alloc (.deferred (some []))).alloc (.loop { r with state := .ready, pending := none }) = wE
  have hsE : wE.heap.size = wa.heap.size + 2 := by rw [← hwE]; simp
  have hBE : Below wa.heap.size wa wE := by rw [← hwE]; exact ((Below.refl _ wa).alloc (Nat.le_refl _) _).alloc (by simp) _
  have hrec : recAt wE (wa.heap.size + 1) r .ready none := by
    rw [← hwE]; unfold recAt
    have := World.alloc_heap_new (wa.alloc (.deferred (some []))) (.loop { r with state := .ready, pending := none })
    simpa using this
  have hdef : wE.heap[wa.heap.size]? = some (.deferred (some [])) := by
    rw [← hwE, Below.heap_alloc _ _ _ (by simp)]; exact World.alloc_heap_new _ _
  refine each1_cv (fun k w' => Below w.heap.size w w' ∧ Row w' g0 [.int .i64 s, .int .i64 t] T.t23 ∧ recAt w' (wa.heap.size + 1) r .ready none ∧ w'.heap[wa.heap.size]? = some (.deferred (some [])) ∧ wE.heap.size ≤ w'.heap.size ∧
      ∃ p c, Row w' w1.heap.size [.slice p k c] T.t32 ∧ w'.ownsRow wE.heap.size T.t3 1 (.slice p k c) k (listR s t rd k)) (r0.ext hBE) (r1.ext hBE) (r2.ext hBE) (fun k w' h => h.2.1) ?_ ?_ ?_
  · intro w' hB
    have hg := r0.lt
    refine ⟨hba.trans ((hBE.mono hba.size).trans (hB.mono (by have := hba.size; omega))), (r0.ext hBE).ext hB, recAt_below hrec hB (by omega), by rw [hB.block _ (by omega)]; exact hdef, hB.size, none, 0, (h2'.ext hBE).ext hB, World.ownsRow_nil _ _ _ _⟩
  · rintro k w' hk ⟨hb, hr0, hrc, hd, hsz, p, c, hrow, hown⟩
    have hlt := (World.ownsRow.lt hown)
    have hg := r0.lt
    refine hYV _ _ _ rfl hrc ?_
    unfold crierlaw02_Each_r1
    refine ⟨_, rfl, hrc, ?_⟩
    show ldL _ _ _
    have hl := recAt_lt hrc
    generalize hwb : w'.putObj (wa.heap.size + 1) (.loop { r with state := .busy, pending := none }) = wb
    have e1 : ∀ x, x ≠ wa.heap.size + 1 → wb.heap[x]? = w'.heap[x]? := fun x hx => by rw [← hwb]; exact World.putObj_heap_other hx
    have hsb : wb.heap.size = w'.heap.size := by rw [← hwb]; simp
    have hrcb : recAt wb (wa.heap.size + 1) r .busy none := by rw [← hwb]; exact recAt_put hl
    have hBb : Below w.heap.size w wb := by rw [← hwb]; exact hb.trans (putObj_below _ (by have := hba.size; omega))
    have hrowb : Row wb w1.heap.size [.slice p k c] T.t32 := by unfold Row; rw [e1 _ (by omega)]; exact hrow
    refine ldL_i hrowb rfl ?_
    refine alc_i fun wc hBc hc hsc => ?_
    have e2 : ∀ x, x < wb.heap.size → wc.heap[x]? = wb.heap[x]? := fun x hx => (hBc _ (Nat.le_refl _)).block x hx
    have hownc : wc.ownsRow wE.heap.size T.t3 1 (.slice p k c) k (listR s t rd k) := own_of hown fun x hx => by
      have := hlt x hx
      rw [e2 _ (by omega), e1 _ (by omega)]
    refine app_i app32 (by omega) hownc hc (by simp) (by intro u hu; rw [List.mem_singleton.1 hu]; rfl) (by have := cnt_le (t := t) (a := rd) (b := wr) hs; unfold maxLen; omega) (by have := cnt_le (t := t) (a := rd) (b := wr) hs; omega) (by omega) ?_
    intro p' c' wd hod hgd
    have e3 : ∀ x, x < wE.heap.size → wd.heap[x]? = wc.heap[x]? := fun x hx => hgd.block x (by omega) fun e => by have := hlt x e.symm; omega
    have hrowd : Row wd w1.heap.size [.slice p k c] T.t32 := by unfold Row; rw [e3 _ (by omega), e2 _ (by omega)]; exact hrowb
    have hltd := World.ownsRow.lt hod
    refine st1_i hrowd (by simp) fun we hBe he1 hse hre => ?_
    have hrowe : Row we w1.heap.size [.slice p' (k + 1) c'] T.t32 := hre
    refine ldL_i hrowe rfl ?_
    have hrce : recAt we (wa.heap.size + 1) r .busy none := by unfold recAt; rw [he1 _ (by omega), e3 _ (by omega), e2 _ (by omega)]; exact hrcb
    refine cnd_i (fun h => ?_) fun _ => ⟨hrce, ?_⟩
    · exfalso
      have h := of_decide_eq_true h
      have := cnt_le (t := t) (a := rd) (b := wr) hs
      omega
    · show ∃ b, Value.bool true = .bool b ∧ _
      refine ⟨true, rfl, ?_⟩
      simp only [if_true]
      have hle : wa.heap.size + 1 < we.heap.size := recAt_lt hrce
      have hsd := hgd.size
      refine ⟨?_, ?_, recAt_put hle, ?_, by simp; omega, p', c', ?_, ?_⟩
      · have hBd : Below w.heap.size w wd := (hBb.trans (hBc _ (by have := hba.size; omega))).grown hgd (by have := hba.size; omega) fun x hx => by have := hlt x hx; have := hba.size; omega
        exact (hBd.trans (hBe _ (by omega))).trans (putObj_below _ (by have := hba.size; omega))
      · refine Row.put ?_ (by omega)
        unfold Row; rw [he1 _ (by omega), e3 _ (by omega), e2 _ (by omega), e1 _ (by omega)]; exact hr0
      · rw [World.putObj_heap_other (by omega), he1 _ (by omega), e3 _ (by omega), e2 _ (by omega), e1 _ (by omega)]; exact hd
      · exact hrowe.put (by omega)
      · rw [listR_succ]
        refine own_of hod fun x hx => ?_
        have := hltd x hx
        rw [World.putObj_heap_other (by omega), he1 _ (by omega)]
  · rintro w' ⟨hb, hr0, hrc, hd, hsz, p, c, hrow, hown⟩
    refine ⟨_, _, hrc, by simp, ?_⟩
    unfold setR jmpX
    simp only
    unfold crierlaw02_Each_j0
    have hl := recAt_lt hrc
    have hlt := (World.ownsRow.lt hown)
    refine ldL_i (hrow.put (by omega)) rfl ?_
    refine ⟨by rw [World.putObj_heap_other (by omega)]; exact hd, ?_⟩
    have hba' := hba.size
    refine ⟨p, c, rfl, (hb.trans (putObj_below _ (by omega))).trans (putObj_below _ (by omega)), ?_⟩
    have := own_of (w' := (w'.putObj (wa.heap.size + 1) (.loop { r with state := .exhausted, pending := none })).putObj wa.heap.size (.deferred none)) hown fun x hx => by
      have := hlt x hx
      rw [World.putObj_heap_other (by omega), World.putObj_heap_other (by omega)]
    refine ⟨this.1, ?_⟩
    rcases this.2 with h | ⟨g, cap, cur, h1, h2, h3⟩
    · exact .inl h
    · exact .inr ⟨g, cap, cur, h1, by omega, h3⟩
end Go.Proofs.Ytacklapiboeagaa
