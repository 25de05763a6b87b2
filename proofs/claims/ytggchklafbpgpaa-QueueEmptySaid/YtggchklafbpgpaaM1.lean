/-
  mem: whether a memory holds a window, whether an access may be, the part of the bytes that it is about.
-/
import Derived.Test.YtggchklafbpgpaaTy
namespace Go.Proofs.Ytggchklafbpgpaa
open Go Go.RowKit X
set_option maxRecDepth 100000
set_option linter.unusedVariables false
def Plain (f : FuncId) (args : List Value) (v : Value) : Prop := ∀ w, CV P f args w fun v' w' => v' = v ∧ Below w.heap.size w w'
def winV (a s : Int) : Value := .agg [.int .i64 a, .int .i64 s].toArray
/-- a memory: its variable b, its bytes' block d; what room there is behind them -/
structure MemAt (w : World) (p : Option Addr) (b d c : Nat) (bs : List Int) (rest : List Value) : Prop where
  hp : p = some ⟨b, 0, none⟩
  hb : ∃ t, Row w b [.slice (some ⟨d, 0, none⟩) bs.length c] t
  hd : ∃ t, Row w d ((u8s bs ++ rest)) t
  hc : c = bs.length + rest.length
  hne : b ≠ d
  hr : ∀ x ∈ bs, 0 ≤ x ∧ x < 256
  hl : bs.length ≤ 131072
theorem mem_get {bs : List Int} {rest : List Value} {k : Nat} (h : k < bs.length) : (u8s bs ++ rest)[k]? = some (.int .u8 bs[k]) := by
  rw [List.getElem?_append_left (by rw [u8s_length]; exact h), u8s_get h]
theorem mem_set {bs : List Int} {rest : List Value} {k : Nat} {n : Int} (h : k < bs.length) : (u8s bs ++ rest).set k (.int .u8 n) = u8s (bs.set k n) ++ rest := by
  rw [List.set_append_left _ _ (by rw [u8s_length]; exact h), u8s_set]
theorem MemAt.ext {w w' : World} {p : Option Addr} {b d c : Nat} {bs : List Int} {rest : List Value} (h : MemAt w p b d c bs rest) (hB : Below w.heap.size w w') : MemAt w' p b d c bs rest :=
  ⟨h.hp, let ⟨t, r⟩ := h.hb; ⟨t, r.ext hB⟩, let ⟨t, r⟩ := h.hd; ⟨t, r.ext hB⟩, h.hc, h.hne, h.hr, h.hl⟩
theorem MemAt.heap {w w' : World} {p : Option Addr} {b d c : Nat} {bs : List Int} {rest : List Value} (h : MemAt w p b d c bs rest) (hb : w'.heap[b]? = w.heap[b]?) (hd : w'.heap[d]? = w.heap[d]?) : MemAt w' p b d c bs rest :=
  ⟨h.hp, let ⟨t, r⟩ := h.hb; ⟨t, by unfold Row; rw [hb]; exact r⟩, let ⟨t, r⟩ := h.hd; ⟨t, by unfold Row; rw [hd]; exact r⟩, h.hc, h.hne, h.hr, h.hl⟩
theorem MemAt.lt {w : World} {p : Option Addr} {b d c : Nat} {bs : List Int} {rest : List Value} (h : MemAt w p b d c bs rest) : b < w.heap.size ∧ d < w.heap.size :=
  ⟨let ⟨t, r⟩ := h.hb; r.lt, let ⟨t, r⟩ := h.hd; r.lt⟩
def holdsB (n : Nat) (a s : Int) : Bool := decide (0 ≤ a) && (decide (0 ≤ s) && (decide (s ≤ n) && decide (a ≤ n - s)))
theorem holdsB_iff {n : Nat} {a s : Int} : holdsB n a s = true ↔ 0 ≤ a ∧ 0 ≤ s ∧ s ≤ n ∧ a ≤ n - s := by simp [holdsB]
theorem holds_cv {w : World} {p : Option Addr} {b d c : Nat} {bs : List Int} {rest : List Value} (hm : MemAt w p b d c bs rest) (a s : Int) :
    CV P F.mem_Mem_Holds [.pointer p, winV a s] w fun v w' => v = .bool (holdsB bs.length a s) ∧ Below w.heap.size w w' := by
  refine mem_Mem_Holds_cv ?_
  unfold mem_Mem_Holds
  refine alc_i fun w1 hB1 h1 hs1 => ?_
  have hb1 := (hB1 _ (Nat.le_refl _)).drew
  have hm1 := hm.ext (hB1 _ (Nat.le_refl _))
  obtain ⟨tb, rb⟩ := hm1.hb
  have hp := hm.hp
  have hl := hm.hl
  subst hp
  unfold JoinT
  refine ldI_i h1.drew rfl (cnd_i (fun h => ?_) fun h => ⟨?_, hb1⟩)
  · refine ldI_i h1.drew rfl (cnd_i (fun h' => ?_) fun h' => ⟨?_, hb1⟩)
    · refine ldI_i h1.drew rfl (ldL_i rb.drew rfl (cnd_i (fun h2 => ?_) fun h2 => ⟨?_, hb1⟩))
      · refine ldI_i h1.drew rfl (ldL_i rb.drew rfl (ldI_i h1.drew rfl ⟨?_, hb1⟩))
        have h := of_decide_eq_true h
        have h' := of_decide_eq_true h'
        have h2 := of_decide_eq_true h2
        rw [W_id (by omega) (by omega)]
        simp [holdsB, show 0 ≤ a by omega, show 0 ≤ s by omega, h2]
      · have h2 := of_decide_eq_false h2
        have : holdsB bs.length a s = false := by
          cases hh : holdsB bs.length a s
          · rfl
          · rw [holdsB_iff] at hh; omega
        rw [this]
    · have h' := of_decide_eq_false h'
      have : holdsB bs.length a s = false := by
        cases hh : holdsB bs.length a s
        · rfl
        · rw [holdsB_iff] at hh; omega
      rw [this]
  · have h := of_decide_eq_false h
    have : holdsB bs.length a s = false := by
      cases hh : holdsB bs.length a s
      · rfl
      · rw [holdsB_iff] at hh; omega
    rw [this]
def mayE (s o n : Int) : Int := if n ≠ 1 ∧ n ≠ 4 ∧ n ≠ 8 then 40 else if Int.tmod o n ≠ 0 then 41 else if o < 0 ∨ o > IntKind.i64.wrap (s - n) then 42 else 0
theorem may_plain (s o n : Int) : Plain F.mem_May [.int .i64 s, .int .i64 o, .int .i64 n] (.int .i64 (mayE s o n)) := by
  intro w
  refine mem_May_cv ?_
  unfold mem_May JoinT
  have hB := Below.refl w.heap.size w
  have good : (n = 1 ∨ n = 4 ∨ n = 8) → mem_May_j1 s o n (fun v' w' => v' = .int .i64 (mayE s o n) ∧ Below w.heap.size w w') false w := by
    intro hn
    unfold mem_May_j1
    refine cnd_i (fun h => by cases h) fun _ => ⟨by omega, ?_⟩
    refine cnd_i (fun h => ⟨?_, hB⟩) fun h => ?_
    · have h : Int.tmod o n ≠ 0 := by simpa using h
      rw [mayE, if_neg (by omega), if_pos h]
    have h : Int.tmod o n = 0 := by simpa using h
    unfold JoinT mem_May_j0
    refine cnd_i (fun h' => cnd_i (fun _ => ⟨?_, hB⟩) fun h => by cases h) fun h' => cnd_i (fun h2 => ⟨?_, hB⟩) fun h2 => ⟨?_, hB⟩
    · have h' := of_decide_eq_true h'
      rw [mayE, if_neg (by omega), if_neg (by omega), if_pos (by omega)]
    · have h2 := of_decide_eq_true h2
      rw [mayE, if_neg (by omega), if_neg (by omega), if_pos (by omega)]
    · have h' := of_decide_eq_false h'
      have h2 := of_decide_eq_false h2
      rw [mayE, if_neg (by omega), if_neg (by omega), if_neg (by omega)]
  refine cnd_i (fun h => cnd_i (fun h' => ?_) fun h' => ?_) fun h => ?_
  · have h : n ≠ 1 := by simpa using h
    have h' : n ≠ 4 := by simpa using h'
    cases h2 : (n != 8)
    · exact good (by have : n = 8 := by simpa using h2
                     omega)
    · have h2 : n ≠ 8 := by simpa using h2
      exact ⟨by rw [mayE, if_pos (by omega)], hB⟩
  · exact good (by have : n = 4 := by simpa using h'
                   omega)
  · exact good (by have : n = 1 := by simpa using h
                   omega)
/-- why an access is refused; 0: it is not -/
def errE (len : Nat) (a s o n : Int) : Int := if holdsB len a s then mayE s o n else 42
theorem errE_ok {len : Nat} {a s o n : Int} (h : errE len a s o n = 0) (hl : len ≤ 131072) : 0 ≤ a ∧ 0 ≤ o ∧ (n = 1 ∨ n = 4 ∨ n = 8) ∧ Int.tmod o n = 0 ∧ a + o + n ≤ len ∧ s ≤ len ∧ o + n ≤ s ∧ a + s ≤ len := by
  unfold errE at h
  split at h
  · rename_i hh
    rw [holdsB_iff] at hh
    unfold mayE at h
    split at h
    · omega
    · split at h
      · omega
      · split at h
        · omega
        · rename_i h1 h2 h3
          have hn : n = 1 ∨ n = 4 ∨ n = 8 := by omega
          rw [W_id (by omega) (by omega)] at h3
          exact ⟨by omega, by omega, hn, by omega, by omega, by omega, by omega, by omega⟩
  · omega
def partV (len c d : Nat) (a s o n : Int) : Value := if errE len a s o n = 0 then .tuple [.slice (some ⟨d, (a + o).toNat, none⟩) n.toNat (c - (a + o).toNat), .int .i64 0].toArray else .tuple [.slice none 0 0, .int .i64 (errE len a s o n)].toArray
theorem part_cv {w : World} {p : Option Addr} {b d c : Nat} {bs : List Int} {rest : List Value} (hm : MemAt w p b d c bs rest) (a s o n : Int) :
    CV P F.mem_Mem_part [.pointer p, winV a s, .int .i64 o, .int .i64 n] w fun v w' => v = partV bs.length c d a s o n ∧ Below w.heap.size w w' := by
  refine mem_Mem_part_cv ?_
  unfold mem_Mem_part
  refine alc_i fun w1 hB1 h1 hs1 => ?_
  have hb1 := hB1 _ (Nat.le_refl _)
  have hm1 := hm.ext hb1
  refine ldI_i h1 rfl (ldI_i h1 rfl ?_)
  refine (holds_cv hm1 a s).mono ?_
  rintro _ w2 ⟨rfl, hB2⟩
  have h2 := h1.ext hB2
  have hm2 := hm1.ext hB2
  have hb2 := hb1.trans (hB2.mono hb1.size)
  refine ⟨_, rfl, ?_⟩
  cases hh : holdsB bs.length a s
  · refine ⟨?_, hb2⟩
    have : errE bs.length a s o n = 42 := by simp [errE, hh]
    simp [partV, this]
  refine cnd_i (fun h => by cases h) fun _ => ldI_i h2 rfl ?_
  refine (may_plain s o n w2).mono ?_
  rintro _ w3 ⟨rfl, hB3⟩
  have h3 := h2.ext hB3
  have hm3 := hm2.ext hB3
  have hb3 := hb2.trans (hB3.mono hb2.size)
  have he : errE bs.length a s o n = mayE s o n := by simp [errE, hh]
  refine ⟨_, rfl, cnd_i (fun h => ⟨?_, hb3⟩) fun h => ?_⟩
  · have h : mayE s o n ≠ 0 := by simpa using h
    simp [partV, he, h]
  have h : mayE s o n = 0 := by simpa using h
  have hz : errE bs.length a s o n = 0 := by rw [he, h]
  obtain ⟨a0, o0, hn, ht, hlen, _, _, _⟩ := errE_ok hz hm.hl
  have hl := hm.hl
  obtain ⟨tb, rb⟩ := hm3.hb
  have hp := hm.hp
  subst hp
  refine ldL_i rb.drew rfl (ldI_i h3.drew rfl (ldI_i h3.drew rfl ?_))
  have hc := hm.hc
  rw [W_id (n := a + o) (by omega) (by omega), W_id (n := a + o + n) (by omega) (by omega)]
  refine ⟨by simp, ?_, ?_, ?_⟩
  · intro x hx; cases hx; exact ⟨by omega, by simp; omega⟩
  · intro x hx; cases hx; exact ⟨by omega, by simp; omega⟩
  · refine ⟨?_, hb3.drew⟩
    have e1 : c ≠ (a + o).toNat := by omega
    have e2 : (a + o + n).toNat - (a + o).toNat = n.toNat := by omega
    simp [partV, hz, e1, e2, add_lit]
end Go.Proofs.Ytggchklafbpgpaa
