/-
  mem: bytes read, put and wiped; copies.
-/
import Derived.Test.YtggchklafbpgpaaM3
import Derived.Test.YtggchklafbpgpaaA1
namespace Go.Proofs.Ytggchklafbpgpaa
open Go Go.RowKit X
set_option maxRecDepth 100000
set_option linter.unusedVariables false
theorem u8s_one (bs : List Int) : ∀ u ∈ u8s bs, u.oneCell' = true := by
  intro u hu
  obtain ⟨x, _, rfl⟩ := List.mem_map.1 hu
  rfl
theorem clone_cv {w : World} {p : Option Addr} {c : Nat} {xs : List Int} (hx : Sl w p (u8s xs)) (hl : xs.length ≤ 140737488355328) :
    CV P F.slices_Clone__byte_byte [.slice p xs.length c] w fun v w' => Below w.heap.size w w' ∧ ∃ p' c', v = .slice p' xs.length c' ∧ w'.ownsRow w.heap.size tByte 1 (.slice p' xs.length c') xs.length (u8s xs) ∧ (p.isSome = true → p'.isSome = true) := by
  refine slices_Clone__byte_byte_cv ?_
  unfold slices_Clone__byte_byte
  refine cnd_i (fun h => ?_) fun h => ?_
  · have : p = none := by cases p <;> simp_all
    subst this
    have := sl_nil hx
    have : xs = [] := by cases xs <;> simp_all [u8s]
    subst this
    exact ⟨Below.refl _ _, none, 0, rfl, World.ownsRow_nil _ _ _ _, id⟩
  · refine alc_i fun w1 hB1 h1 hs1 => ?_
    have hx1 : Sl w1 p (u8s xs) := by
      intro j u hj
      obtain ⟨a, ha, hc⟩ := hx j u hj
      refine ⟨a, ha, ?_⟩
      have hlt := World.block_lt_of_cell? w _ hc
      rw [(hB1 _ (Nat.le_refl _)).cell hlt]; exact hc
    have hown : w1.ownsRow 0 tByte 1 (.slice (some ⟨w.heap.size, 0, none⟩) 0 0) 0 [] :=
      ⟨by simp, .inr ⟨w.heap.size, 0, #[], rfl, Nat.zero_le _, h1, Nat.le_refl _, by simp [maxLen], by simp, by simp⟩⟩
    obtain ⟨p', c', w2, hr, ho, hg, hk, hsome⟩ := app_fresh (P := P) (c2 := c) appBytes (by omega) hown hx1 (m := xs.length) (by rw [u8s_length]; simp) (u8s_one xs) (by unfold maxLen; omega) (by omega) (ty := tBytes)
    refine ⟨p', 0 + xs.length, c', w2, hr, ?_⟩
    refine ⟨(hB1 _ (Nat.le_refl _)).grown hg (by omega) (by intro k hk; simp [Value.ownBlock] at hk; omega), p', c', by simp, ?_, fun _ => hsome rfl⟩
    simp only [Nat.zero_add, List.nil_append] at ho hk
    refine ⟨ho.1, ?_⟩
    rcases ho.2 with h | ⟨g, cap, cur, e1, _, e3⟩
    · exact .inl h
    · refine .inr ⟨g, cap, cur, e1, ?_, e3⟩
      cases e1
      rcases hk g rfl with h | h
      · simp only [Value.ownBlock, Option.some.injEq] at h; omega
      · omega
/-- a part of a memory's bytes, as a slice -/
theorem part_sl {w : World} {p : Option Addr} {b d c : Nat} {bs : List Int} {rest : List Value} (hm : MemAt w p b d c bs rest) {k n : Nat} (h : k + n ≤ bs.length) : Sl w (if c = k then some ⟨d, 0, none⟩ else some ⟨d, k, none⟩) (u8s (cut bs k n)) := by
  intro j u hj
  have hj' : j < n := by
    have := (List.getElem?_eq_some_iff.1 hj).1
    rw [u8s_length, cut_length h] at this; exact this
  have hc := hm.hc
  rw [if_neg (by omega)]
  refine ⟨_, rfl, ?_⟩
  obtain ⟨td, rd⟩ := hm.hd
  rw [add_lit, rd.cell, mem_get (by omega)]
  rw [u8s_get (by rw [cut_length h]; exact hj')] at hj
  rw [← hj]
  congr 2
  simp [cut]
theorem bytes_cv {w : World} {p : Option Addr} {b d c : Nat} {bs : List Int} {rest : List Value} (hm : MemAt w p b d c bs rest) (a s : Int) :
    CV P F.mem_Mem_Bytes [.pointer p, winV a s] w fun v w' => Below w.heap.size w w' ∧
      (if holdsB bs.length a s then ∃ p' c', v = .tuple [.slice p' s.toNat c', .int .i64 0].toArray ∧ w'.ownsRow w.heap.size tByte 1 (.slice p' s.toNat c') s.toNat (u8s (cut bs a.toNat s.toNat))
        else v = .tuple [.slice none 0 0, .int .i64 42].toArray) := by
  refine mem_Mem_Bytes_cv ?_
  unfold mem_Mem_Bytes
  refine alc_i fun w1 hB1 h1 hs1 => ?_
  have hb1 := hB1 _ (Nat.le_refl _)
  have hm1 := hm.ext hb1
  refine ldI_i h1 rfl (ldI_i h1 rfl ?_)
  refine (holds_cv hm1 a s).mono ?_
  rintro _ w2 ⟨rfl, hB2⟩
  have h2 := h1.ext hB2
  have hm2 := hm1.ext hB2
  have hb2 := hb1.trans (hB2.mono hb1.size)
  refine ⟨_, rfl, ?_⟩
  cases hh : holdsB bs.length a s
  · exact ⟨hb2, by simp⟩
  refine cnd_i (fun h => by cases h) fun _ => ?_
  obtain ⟨g1, g2, g3, g4⟩ := holdsB_iff.1 hh
  have hl := hm.hl
  have hc := hm.hc
  obtain ⟨tb, rb⟩ := hm2.hb
  have hp := hm.hp
  subst hp
  unfold drw
  refine ldL_i rb.drew rfl (ldI_i h2.drew rfl (ldI_i h2.drew rfl (ldI_i h2.drew rfl ?_)))
  rw [W_id (n := a + s) (by omega) (by omega)]
  refine ⟨by simp, ?_, ?_, ?_⟩
  · intro x hx; cases hx; exact ⟨by omega, by simp; omega⟩
  · intro x hx; cases hx; exact ⟨by omega, by simp; omega⟩
  have hsl := part_sl (w := w2.drew) (hm2.heap rfl rfl) (k := a.toNat) (n := s.toNat) (by omega)
  have hcl : (cut bs a.toNat s.toNat).length = s.toNat := cut_length (by omega)
  have hcv := clone_cv (c := c - a.toNat) hsl (by rw [hcl]; omega)
  rw [hcl] at hcv
  have e1 : (a + s).toNat - a.toNat = s.toNat := by omega
  simp only [Option.map_some, Option.getD_some, Option.map_none, Option.getD_none, e1, Nat.mul_one, add_lit, Nat.zero_add]
  refine hcv.mono ?_
  rintro _ w3 ⟨hB3, p', c', rfl, ho, _⟩
  refine ⟨p', _, c', rfl, hb2.drew.trans (hB3.mono hb2.size), ?_⟩
  rw [if_pos trivial]
  refine ⟨p', c', rfl, ho.1, ?_⟩
  rcases ho.2 with h | ⟨g, cap, cur, h3, h4, h5⟩
  · exact .inl h
  · exact .inr ⟨g, cap, cur, h3, by have := hb2.size; have : w2.drew.heap.size = w2.heap.size := rfl; omega, h5⟩
/-- bytes put over others from a place on -/
def over (bs : List Int) (k : Nat) (xs : List Int) : List Int := bs.take k ++ xs ++ bs.drop (k + xs.length)
theorem over_length {bs xs : List Int} {k : Nat} (h : k + xs.length ≤ bs.length) : (over bs k xs).length = bs.length := by simp [over]; omega
theorem over_nil {bs : List Int} {k : Nat} : over bs k [] = bs := by simp [over]
theorem splice_u8s {bs xs : List Int} {rest : List Value} {k : Nat} (h : k + xs.length ≤ bs.length) : splice ((u8s bs ++ rest)) k (u8s xs) = u8s (over bs k xs) ++ rest := by
  simp only [splice, over, u8s_append, u8s_length]
  rw [List.take_append_of_le_length (by rw [u8s_length]; omega), List.drop_append_of_le_length (by rw [u8s_length]; omega)]
  simp [u8s]
theorem over_range {bs xs : List Int} {k : Nat} (h : ∀ x ∈ bs, 0 ≤ x ∧ x < 256) (h' : ∀ x ∈ xs, 0 ≤ x ∧ x < 256) : ∀ x ∈ over bs k xs, 0 ≤ x ∧ x < 256 := by
  intro x hx
  simp only [over, List.mem_append] at hx
  rcases hx with (hx | hx) | hx
  · exact h x (List.mem_of_mem_take hx)
  · exact h' x hx
  · exact h x (List.mem_of_mem_drop hx)
/-- a memory whose bytes' row was turned in part -/
theorem MemAt.turned {w w' : World} {p : Option Addr} {b d c : Nat} {bs xs : List Int} {rest : List Value} {k : Nat} {td : TypeId} (hm : MemAt w p b d c bs rest) (h : k + xs.length ≤ bs.length) (hx : ∀ x ∈ xs, 0 ≤ x ∧ x < 256)
    (hd : Row w' d (splice ((u8s bs ++ rest)) k (u8s xs)) td) (ho : ∀ k, k ≠ d → w'.heap[k]? = w.heap[k]?) : MemAt w' p b d c (over bs k xs) rest := by
  obtain ⟨tb, rb⟩ := hm.hb
  refine ⟨hm.hp, ⟨tb, ?_⟩, ⟨td, ?_⟩, by rw [hm.hc, over_length h], hm.hne, over_range hm.hr hx, by rw [over_length h]; exact hm.hl⟩
  · rw [over_length h]; unfold Row; rw [ho _ hm.hne]; exact rb
  · rw [splice_u8s h] at hd; exact hd
end Go.Proofs.Ytggchklafbpgpaa
