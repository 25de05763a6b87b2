/-
  mem: the document's memory: windows, numbers written; a memory's rows; two new memories.
-/
import Derived.Test.YtggchklafbpgpaaM5
import Derived.Test.YtggchklafbpgpaaS6
namespace Go.Proofs.Ytggchklafbpgpaa
open Go Go.RowKit X
set_option maxRecDepth 100000
set_option linter.unusedVariables false
def ptr (b : Nat) : Value := .pointer (some ⟨b, 0, none⟩)
theorem refHolds_cv {w : World} {p : Option Addr} {b d c : Nat} {bs : List Int} {rest : List Value} (hm : MemAt w p b d c bs rest) (a s : Int) :
    CV P F.crierref04_Mem_Holds [.pointer p, winV a s] w fun v w' => v = .bool (holdsB bs.length a s) ∧ Below w.heap.size w w' := by
  refine crierref04_Mem_Holds_cv ?_
  unfold crierref04_Mem_Holds
  refine alc_i fun w1 hB1 h1 hs1 => ?_
  have hb1 := (hB1 _ (Nat.le_refl _)).drew
  have hm1 := hm.ext (hB1 _ (Nat.le_refl _))
  obtain ⟨tb, rb⟩ := hm1.hb
  have hp := hm.hp
  have hl := hm.hl
  subst hp
  unfold JoinT
  refine ldI_i h1.drew rfl (cnd_i (fun h => ?_) fun h => ⟨?_, hb1⟩)
  · refine ldI_i h1.drew rfl (cnd_i (fun h' => ?_) fun h' => ⟨?_, hb1⟩)
    · refine ldI_i h1.drew rfl (ldL_i rb.drew rfl (cnd_i (fun h2 => ?_) fun h2 => ⟨?_, hb1⟩))
      · refine ldI_i h1.drew rfl (ldL_i rb.drew rfl (ldI_i h1.drew rfl ⟨?_, hb1⟩))
        have h := of_decide_eq_true h
        have h' := of_decide_eq_true h'
        have h2 := of_decide_eq_true h2
        rw [W_id (by omega) (by omega)]
        simp [holdsB, show 0 ≤ a by omega, show 0 ≤ s by omega, h2]
      · have h2 := of_decide_eq_false h2
        have : holdsB bs.length a s = false := by
          cases hh : holdsB bs.length a s
          · rfl
          · rw [holdsB_iff] at hh; omega
        rw [this]
    · have h' := of_decide_eq_false h'
      have : holdsB bs.length a s = false := by
        cases hh : holdsB bs.length a s
        · rfl
        · rw [holdsB_iff] at hh; omega
      rw [this]
  · have h := of_decide_eq_false h
    have : holdsB bs.length a s = false := by
      cases hh : holdsB bs.length a s
      · rfl
      · rw [holdsB_iff] at hh; omega
    rw [this]
theorem refMay_plain (s o n : Int) : Plain F.crierref04_May [.int .i64 s, .int .i64 o, .int .i64 n] (.int .i64 (mayE s o n)) := by
  intro w
  refine crierref04_May_cv ?_
  unfold crierref04_May JoinT
  have hB := Below.refl w.heap.size w
  have good : (n = 1 ∨ n = 4 ∨ n = 8) → crierref04_May_j1 s o n (fun v' w' => v' = .int .i64 (mayE s o n) ∧ Below w.heap.size w w') false w := by
    intro hn
    unfold crierref04_May_j1
    refine cnd_i (fun h => by cases h) fun _ => ⟨by omega, ?_⟩
    refine cnd_i (fun h => ⟨?_, hB⟩) fun h => ?_
    · have h : Int.tmod o n ≠ 0 := by simpa using h
      rw [mayE, if_neg (by omega), if_pos h]
    have h : Int.tmod o n = 0 := by simpa using h
    unfold JoinT crierref04_May_j0
    refine cnd_i (fun h' => cnd_i (fun _ => ⟨?_, hB⟩) fun h => by cases h) fun h' => cnd_i (fun h2 => ⟨?_, hB⟩) fun h2 => ⟨?_, hB⟩
    · have h' := of_decide_eq_true h'
      rw [mayE, if_neg (by omega), if_neg (by omega), if_pos (by omega)]
    · have h2 := of_decide_eq_true h2
      rw [mayE, if_neg (by omega), if_neg (by omega), if_pos (by omega)]
    · have h' := of_decide_eq_false h'
      have h2 := of_decide_eq_false h2
      rw [mayE, if_neg (by omega), if_neg (by omega), if_neg (by omega)]
  refine cnd_i (fun h => cnd_i (fun h' => ?_) fun h' => ?_) fun h => ?_
  · have h : n ≠ 1 := by simpa using h
    have h' : n ≠ 4 := by simpa using h'
    cases h2 : (n != 8)
    · exact good (by have : n = 8 := by simpa using h2
                     omega)
    · have h2 : n ≠ 8 := by simpa using h2
      exact ⟨by rw [mayE, if_pos (by omega)], hB⟩
  · exact good (by have : n = 4 := by simpa using h'
                   omega)
  · exact good (by have : n = 1 := by simpa using h
                   omega)
theorem refHolds_t (b : Nat) (bs : List Int) (a s : Int) : Tri P F.crierref04_Mem_Holds [ptr b, winV a s] [memI b bs] fun v L' => v = .bool (holdsB bs.length a s) ∧ L' = [memI b bs] := tri_mem fun w d c rest hm => refHolds_cv hm a s
/-- a memory's rows -/
theorem mem_open {w w0 : World} {S0 : Nat → Prop} {L F : List It} {b : Nat} {bs : List Int} (H : X.Own w0 S0 L w) (hp : Pick L (memI b bs) F) : ∃ (d c : Nat) (rest : List Value) (tb td : TypeId),
    X.Own w0 S0 (row b [.slice (some ⟨d, 0, none⟩) bs.length c] tb :: row d (u8s bs ++ rest) td :: F) w ∧ c = bs.length + rest.length ∧ (∀ x ∈ bs, 0 ≤ x ∧ x < 256) ∧ bs.length ≤ 131072 := by
  obtain ⟨S, h1, h2⟩ := H
  obtain ⟨S1, S2, ⟨d, c, rest, hm, g⟩, g2, g3, g4⟩ := hp.iff.1 h1
  obtain ⟨tb, rb⟩ := hm.hb
  obtain ⟨td, rd⟩ := hm.hd
  refine ⟨d, c, rest, tb, td, ⟨S, ⟨fun k => k = b, fun k => k = d ∨ S2 k, ⟨rb, fun _ => Iff.rfl⟩, ⟨fun k => k = d, S2, ⟨rd, fun _ => Iff.rfl⟩, g2, ?_, fun _ => Iff.rfl⟩, ?_, ?_⟩, h2⟩, hm.hc, hm.hr, hm.hl⟩
  · rintro k rfl; exact g3 k ((g k).2 (.inr rfl))
  · rintro k rfl (h | h)
    · exact hm.hne h
    · exact g3 k ((g k).2 (.inl rfl)) h
  · intro k; rw [g4, g, or_assoc]
theorem mem_shut {w w0 : World} {S0 : Nat → Prop} {F : List It} {b d c n : Nat} {bs : List Int} {rest : List Value} {tb td : TypeId} (H : X.Own w0 S0 (row b [.slice (some ⟨d, 0, none⟩) n c] tb :: row d (u8s bs ++ rest) td :: F) w)
    (hn : n = bs.length) (hc : c = bs.length + rest.length) (hr : ∀ x ∈ bs, 0 ≤ x ∧ x < 256) (hl : bs.length ≤ 131072) : X.Own w0 S0 (memI b bs :: F) w := by
  subst hn
  obtain ⟨S, ⟨S1, S2, ⟨rb, e1⟩, ⟨T1, T2, ⟨rd, e2⟩, g2, g3, g4⟩, g5, g6⟩, h2⟩ := H
  refine ⟨S, ⟨fun k => k = b ∨ k = d, T2, ⟨d, c, rest, ⟨rfl, ⟨_, rb⟩, ⟨_, rd⟩, hc, ?_, hr, hl⟩, fun _ => Iff.rfl⟩, g2, ?_, ?_⟩, h2⟩
  · rintro rfl; exact g5 b ((e1 b).2 rfl) ((g4 b).2 (.inl ((e2 b).2 rfl)))
  · rintro k (rfl | rfl) h
    · exact g5 k ((e1 k).2 rfl) ((g4 k).2 (.inr h))
    · exact g3 k ((e2 k).2 rfl) h
  · intro k; rw [g6, g4, e1, e2, or_assoc]
theorem refWrite_t (b : Nat) (bs : List Int) (a s o n v : Int) (hv : 0 ≤ v ∧ v < 2 ^ 64) : Tri P F.crierref04_Mem_Write [ptr b, winV a s, .int .i64 o, .int .i64 n, .int .u64 v] [memI b bs] fun r L' => r = .int .i64 (errE bs.length a s o n) ∧ L' = [memI b (writeM bs a s o n v)] := by
  intro w S hS
  refine crierref04_Mem_Write_cv ?_
  unfold crierref04_Mem_Write
  have H := Own.start hS
  refine alc_o H fun bx wx H => ?_
  repeat (first | refine ldI_o H (by repeat (first | exact Pick.here | apply Pick.there)) (by rfl) ?_ | refine ldL_o H (by repeat (first | exact Pick.here | apply Pick.there)) (by rfl) ?_ | refine ldB_o H (by repeat (first | exact Pick.here | apply Pick.there)) (by rfl) ?_ | refine ldP_o H (by repeat (first | exact Pick.here | apply Pick.there)) (by rfl) ?_ | refine ldS_o H (by repeat (first | exact Pick.here | apply Pick.there)) (by rfl) ?_)
  refine call_p H (refHolds_t b bs a s) (by repeat (first | exact Cut.nil | (apply Cut.cons; (repeat (first | exact Pick.here | apply Pick.there))))) fun wx H => ?_
  refine ⟨_, rfl, ?_⟩
  cases hh : holdsB bs.length a s
  · have : errE bs.length a s o n = 42 := by simp [errE, hh]
    rw [writeM, this, if_neg (by omega)]
    exact cnd_i (fun _ => ⟨_, ⟨rfl, rfl⟩, H.drop (by repeat (first | exact Cut.nil | (apply Cut.cons; (repeat (first | exact Pick.here | apply Pick.there)))))⟩) (fun h => by cases h)
  refine cnd_i (fun h => by cases h) fun _ => ?_
  repeat (first | refine ldI_o H (by repeat (first | exact Pick.here | apply Pick.there)) (by rfl) ?_ | refine ldL_o H (by repeat (first | exact Pick.here | apply Pick.there)) (by rfl) ?_ | refine ldB_o H (by repeat (first | exact Pick.here | apply Pick.there)) (by rfl) ?_ | refine ldP_o H (by repeat (first | exact Pick.here | apply Pick.there)) (by rfl) ?_ | refine ldS_o H (by repeat (first | exact Pick.here | apply Pick.there)) (by rfl) ?_)
  refine call_p H (tri_plain (refMay_plain s o n)) (by repeat (first | exact Cut.nil | (apply Cut.cons; (repeat (first | exact Pick.here | apply Pick.there))))) fun wx H => ?_
  have he : errE bs.length a s o n = mayE s o n := by simp [errE, hh]
  refine ⟨_, rfl, cnd_i (fun h => ?_) fun h => ?_⟩
  · have h : mayE s o n ≠ 0 := by simpa using h
    rw [writeM, he, if_neg h]
    exact ⟨_, ⟨rfl, rfl⟩, H.drop (by repeat (first | exact Cut.nil | (apply Cut.cons; (repeat (first | exact Pick.here | apply Pick.there)))))⟩
  have h : mayE s o n = 0 := by simpa using h
  have hz : errE bs.length a s o n = 0 := by rw [he, h]
  obtain ⟨d, c, rest, tb, td, H, hc, hr, hl⟩ := mem_open H (b := b) (bs := bs) (by repeat (first | exact Pick.here | apply Pick.there))
  obtain ⟨a0, o0, hn, ht, hlen, _, _, _⟩ := errE_ok hz hl
  refine loop_o (fun (st : Int × Int) L => ∃ i : Nat, i ≤ n.toNat ∧ st.2 = i ∧ st.1 = v / 256 ^ i ∧ L = [row b [.slice (some ⟨d, 0, none⟩) bs.length c] tb, row d (u8s (wr bs (a + o).toNat v i) ++ rest) td, row bx [.int .i64 a, .int .i64 s] _])
    (fun (st : Int × Int) => (n - st.2).toNat) H ⟨0, by omega, rfl, by simp, rfl⟩ ?_
  rintro ⟨v', i'⟩ _ wx ⟨i, hi, hi', hv', rfl⟩ H
  simp only at hi' hv'
  subst hi' hv'
  unfold crierref04_Mem_Write_l0
  dsimp only
  refine cnd_i (fun h => ?_) fun h => ?_
  · have h := of_decide_eq_true h
    refine drw_o H fun wx H => ?_
    repeat (first | refine ldI_o H (by repeat (first | exact Pick.here | apply Pick.there)) (by rfl) ?_ | refine ldL_o H (by repeat (first | exact Pick.here | apply Pick.there)) (by rfl) ?_ | refine ldB_o H (by repeat (first | exact Pick.here | apply Pick.there)) (by rfl) ?_ | refine ldP_o H (by repeat (first | exact Pick.here | apply Pick.there)) (by rfl) ?_ | refine ldS_o H (by repeat (first | exact Pick.here | apply Pick.there)) (by rfl) ?_)
    rw [W_id (n := a + o) (by omega) (by omega), W_id (n := a + o + _) (by omega) (by omega)]
    refine ⟨by omega, ⟨by omega, by omega⟩, ?_⟩
    dsimp only [nn]
    have hk : (a + o + (i : Int)).toNat < (wr bs (a + o).toNat v i).length := by rw [wr_length]; omega
    have e : (a + o + (i : Int)).toNat = (a + o).toNat + i := by omega
    have hq : 0 ≤ v / 256 ^ i ∧ v / 256 ^ i ≤ v := ⟨Int.ediv_nonneg hv.1 (Int.le_of_lt (Int.pow_pos (by omega))), Int.ediv_le_self _ hv.1⟩
    have hb : IntKind.u8.wrap (Int.tmod (v / 256 ^ i) 256) = byteI v i := by
      rw [Int.tmod_eq_emod_of_nonneg hq.1]
      have := byteI_range v i
      unfold byteI at *
      simp [IntKind.wrap, IntKind.signed, IntKind.bits]
    rw [add_lit, Nat.mul_one, Nat.zero_add, hb]
    refine st1_o H (by repeat (first | exact Rep.here | apply Rep.there)) (by rw [List.length_append, u8s_length]; omega) fun wx H => ⟨by omega, ⟨_, ⟨i + 1, by omega, ?_, ?_, ?_⟩, H⟩, ?_⟩
    · rw [W_id (by omega) (by omega)]; rfl
    · show IntKind.u64.wrap _ = _
      rw [Int.tdiv_eq_ediv_of_nonneg hq.1, Int.pow_succ, ← Int.ediv_ediv_of_nonneg (Int.le_of_lt (Int.pow_pos (by omega)))]
      have h1 : 0 ≤ v / 256 ^ i / 256 := Int.ediv_nonneg hq.1 (by omega)
      have h2 : v / 256 ^ i / 256 ≤ v / 256 ^ i := Int.ediv_le_self _ hq.1
      have := hv.2
      simp [IntKind.wrap, IntKind.signed, IntKind.bits]; omega
    · rw [mem_set hk, e]; rfl
    · show (n - IntKind.i64.wrap ((i : Int) + 1)).toNat < (n - (i : Int)).toNat
      rw [W_id (by omega) (by omega)]; omega
  · have h := of_decide_eq_false h
    have : i = n.toNat := by omega
    subst this
    rw [hz, writeM, if_pos hz]
    exact ⟨_, ⟨rfl, rfl⟩, (mem_shut H (by rw [wr_length]) (by rw [wr_length]; exact hc) (wr_range hr _ _ _) (by rw [wr_length]; exact hl)).drop (by repeat (first | exact Cut.nil | (apply Cut.cons; (repeat (first | exact Pick.here | apply Pick.there)))))⟩
theorem lawNew_cv {w : World} (n : Int) : CV P F.crierlaw04_New [.int .i64 n] w fun v w' => Below w.heap.size w w' ∧ ∃ (b d b' d' N : Nat), N ≤ 4096 ∧ v = .tuple [.pointer (some ⟨b, 0, none⟩), .pointer (some ⟨b', 0, none⟩)].toArray ∧
    MemAt w' (some ⟨b, 0, none⟩) b d N (List.replicate N 0) [] ∧ MemAt w' (some ⟨b', 0, none⟩) b' d' N (List.replicate N 0) [] ∧ w.heap.size ≤ b ∧ w.heap.size ≤ d ∧ b < d' ∧ d < d' ∧ b < b' ∧ d < b' := by
  refine crierlaw04_New_cv ?_
  unfold crierlaw04_New JoinT
  have go : ∀ m : Int, 0 ≤ m → m ≤ 4096 → crierlaw04_New_j0 (fun v w' => Below w.heap.size w w' ∧ ∃ (b d b' d' N : Nat), N ≤ 4096 ∧ v = .tuple [.pointer (some ⟨b, 0, none⟩), .pointer (some ⟨b', 0, none⟩)].toArray ∧
    MemAt w' (some ⟨b, 0, none⟩) b d N (List.replicate N 0) [] ∧ MemAt w' (some ⟨b', 0, none⟩) b' d' N (List.replicate N 0) [] ∧ w.heap.size ≤ b ∧ w.heap.size ≤ d ∧ b < d' ∧ d < d' ∧ b < b' ∧ d < b') m w := by
    intro m h0 h1
    unfold crierlaw04_New_j0
    refine (new_cv (w := w) m).mono ?_
    rintro _ w1 ⟨hB1, h⟩
    rw [if_pos (by omega)] at h
    obtain ⟨b, d, rfl, hm, hb, hd⟩ := h
    refine ⟨_, 0, rfl, cnd_i (fun h => by cases h) fun _ => ?_⟩
    unfold drw
    have hlt := hm.lt
    have hs1 := hB1.size
    refine make_i appBytes zeroByte (w := w1.drew) h0 (by omega) (by omega) fun w2 hB2 h2 hs2 => alc_i fun w3 hB3 h3 hs3 => ?_
    have e1 : w1.drew.heap.size = w1.heap.size := rfl
    have hB13 : Below w1.heap.size w1 w3 := ((Below.refl _ w1).drew.trans (hB2 _ (Nat.le_refl _))).trans (hB3 _ (by omega))
    refine ⟨hB1.trans (hB13.mono hs1), b, d, w2.heap.size, w1.heap.size, m.toNat, by omega, rfl, hm.ext hB13, ?_, hb, hd, hlt.1, hlt.2, by omega, by omega⟩
    have hb' : ∃ t, Row w3 w2.heap.size [.slice (some ⟨w1.heap.size, 0, none⟩) (List.replicate m.toNat (0 : Int)).length m.toNat] t := by rw [List.length_replicate]; exact ⟨_, h3⟩
    have hd' : ∃ t, Row w3 w1.heap.size (u8s (List.replicate m.toNat 0) ++ []) t := by
      have := h2.below (hB3 w2.heap.size (Nat.le_refl _)) (by omega)
      exact ⟨_, by simpa [u8s] using this⟩
    exact ⟨rfl, hb', hd', by simp, by omega, by intro x hx; rw [(List.mem_replicate.1 hx).2]; omega, by simp; omega⟩
  unfold crierlaw04_New_j1
  refine cnd_i (fun h => ?_) fun h => ?_
  · exact cnd_i (fun _ => go 200 (by omega) (by omega)) fun h => by cases h
  · have h := of_decide_eq_false h
    refine cnd_i (fun h' => go 200 (by omega) (by omega)) fun h' => ?_
    have h' := of_decide_eq_false h'
    exact go n (by omega) (by omega)
theorem lawNew_t (n : Int) : Tri P F.crierlaw04_New [.int .i64 n] [] fun v L' => ∃ b b' N, N ≤ 4096 ∧ v = .tuple [ptr b, ptr b'].toArray ∧ L' = [memI b (List.replicate N 0), memI b' (List.replicate N 0)] := by
  intro w S hS
  refine (lawNew_cv n).mono fun v w' ⟨hB, b, d, b', d', N, hN, e, hm, hm', g1, g2, g3, g4, g5, g6⟩ => ⟨_, ⟨b, b', N, hN, e, rfl⟩, ?_⟩
  have hs := hm.lt
  have hs' := hm'.lt
  have H0 := (Own.start hS).grow hB
  obtain ⟨T, e1, e2, e3⟩ := H0
  have hT := Sep.lt hS
  refine ⟨fun k => (k = b ∨ k = d) ∨ (k = b' ∨ k = d'), ⟨fun k => k = b ∨ k = d, fun k => k = b' ∨ k = d', ⟨d, _, [], hm, fun _ => Iff.rfl⟩, sep_one.2 ⟨d', _, [], hm', fun _ => Iff.rfl⟩, ?_, fun _ => Iff.rfl⟩, e2, ?_⟩
  · have := hm.hne
    have := hm'.hne
    rintro k (rfl | rfl) (h | h) <;> omega
  · rintro k ((rfl | rfl) | (rfl | rfl)) <;> exact .inr (by omega)
end Go.Proofs.Ytggchklafbpgpaa
