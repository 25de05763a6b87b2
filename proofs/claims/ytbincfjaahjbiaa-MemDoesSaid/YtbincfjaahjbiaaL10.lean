/-
  mem: the document's memory: windows, numbers read and written.
-/
import Derived.Test.YtbincfjaahjbiaaL9
namespace Go.Proofs.Ytbincfjaahjbiaa
open Go Go.RowKit X
set_option maxRecDepth 100000
set_option linter.unusedVariables false
theorem refHolds_cv {w : World} {p : Option Addr} {b d c : Nat} {bs : List Int} {rest : List Value} (hm : MemAt w p b d c bs rest) (a s : Int) :
    CV P F.crierref04_Mem_Holds [.pointer p, winV a s] w fun v w' => v = .bool (holdsB bs.length a s) ∧ Below w.heap.size w w' := by
  refine crierref04_Mem_Holds_cv ?_
  unfold crierref04_Mem_Holds
  refine alc_i fun w1 hB1 h1 hs1 => ?_
  have hb1 := (hB1 _ (Nat.le_refl _)).drew
  have hm1 := hm.ext (hB1 _ (Nat.le_refl _))
  obtain ⟨tb, rb⟩ := hm1.hb
  have hp := hm.hp
  have hl := hm.hl
  subst hp
  unfold JoinT
  refine ldI_i h1.drew rfl (cnd_i (fun h => ?_) fun h => ⟨?_, hb1⟩)
  · refine ldI_i h1.drew rfl (cnd_i (fun h' => ?_) fun h' => ⟨?_, hb1⟩)
    · refine ldI_i h1.drew rfl (ldL_i rb.drew rfl (cnd_i (fun h2 => ?_) fun h2 => ⟨?_, hb1⟩))
      · refine ldI_i h1.drew rfl (ldL_i rb.drew rfl (ldI_i h1.drew rfl ⟨?_, hb1⟩))
        have h := of_decide_eq_true h
        have h' := of_decide_eq_true h'
        have h2 := of_decide_eq_true h2
        rw [W_id (by omega) (by omega)]
        simp [holdsB, show 0 ≤ a by omega, show 0 ≤ s by omega, h2]
      · have h2 := of_decide_eq_false h2
        have : holdsB bs.length a s = false := by
          cases hh : holdsB bs.length a s
          · rfl
          · rw [holdsB_iff] at hh; omega
        rw [this]
    · have h' := of_decide_eq_false h'
      have : holdsB bs.length a s = false := by
        cases hh : holdsB bs.length a s
        · rfl
        · rw [holdsB_iff] at hh; omega
      rw [this]
  · have h := of_decide_eq_false h
    have : holdsB bs.length a s = false := by
      cases hh : holdsB bs.length a s
      · rfl
      · rw [holdsB_iff] at hh; omega
    rw [this]
theorem refMay_plain (s o n : Int) : Plain F.crierref04_May [.int .i64 s, .int .i64 o, .int .i64 n] (.int .i64 (mayE s o n)) := by
  intro w
  refine crierref04_May_cv ?_
  unfold crierref04_May JoinT
  have hB := Below.refl w.heap.size w
  have good : (n = 1 ∨ n = 4 ∨ n = 8) → crierref04_May_j1 s o n (fun v' w' => v' = .int .i64 (mayE s o n) ∧ Below w.heap.size w w') false w := by
    intro hn
    unfold crierref04_May_j1
    refine cnd_i (fun h => by cases h) fun _ => ⟨by omega, ?_⟩
    refine cnd_i (fun h => ⟨?_, hB⟩) fun h => ?_
    · have h : Int.tmod o n ≠ 0 := by simpa using h
      rw [mayE, if_neg (by omega), if_pos h]
    have h : Int.tmod o n = 0 := by simpa using h
    unfold JoinT crierref04_May_j0
    refine cnd_i (fun h' => cnd_i (fun _ => ⟨?_, hB⟩) fun h => by cases h) fun h' => cnd_i (fun h2 => ⟨?_, hB⟩) fun h2 => ⟨?_, hB⟩
    · have h' := of_decide_eq_true h'
      rw [mayE, if_neg (by omega), if_neg (by omega), if_pos (by omega)]
    · have h2 := of_decide_eq_true h2
      rw [mayE, if_neg (by omega), if_neg (by omega), if_pos (by omega)]
    · have h' := of_decide_eq_false h'
      have h2 := of_decide_eq_false h2
      rw [mayE, if_neg (by omega), if_neg (by omega), if_neg (by omega)]
  refine cnd_i (fun h => cnd_i (fun h' => ?_) fun h' => ?_) fun h => ?_
  · have h : n ≠ 1 := by simpa using h
    have h' : n ≠ 4 := by simpa using h'
    cases h2 : (n != 8)
    · exact good (by have : n = 8 := by simpa using h2
                     omega)
    · have h2 : n ≠ 8 := by simpa using h2
      exact ⟨by rw [mayE, if_pos (by omega)], hB⟩
  · exact good (by have : n = 4 := by simpa using h'
                   omega)
  · exact good (by have : n = 1 := by simpa using h
                   omega)
theorem refHolds_t (b : Nat) (bs : List Int) (a s : Int) : Tri P F.crierref04_Mem_Holds [ptr b, winV a s] [memI b bs] fun v L' => v = .bool (holdsB bs.length a s) ∧ L' = [memI b bs] := tri_mem fun w d c rest hm => refHolds_cv hm a s
/-- a memory's rows -/
theorem mem_open {w w0 : World} {S0 : Nat → Prop} {L F : List It} {b : Nat} {bs : List Int} (H : X.Own w0 S0 L w) (hp : Pick L (memI b bs) F) : ∃ (d c : Nat) (rest : List Value) (tb td : TypeId),
    X.Own w0 S0 (row b [.slice (some ⟨d, 0, none⟩) bs.length c] tb :: row d (u8s bs ++ rest) td :: F) w ∧ c = bs.length + rest.length ∧ (∀ x ∈ bs, 0 ≤ x ∧ x < 256) ∧ bs.length ≤ 131072 := by
  obtain ⟨S, h1, h2⟩ := H
  obtain ⟨S1, S2, ⟨d, c, rest, hm, g⟩, g2, g3, g4⟩ := hp.iff.1 h1
  obtain ⟨tb, rb⟩ := hm.hb
  obtain ⟨td, rd⟩ := hm.hd
  refine ⟨d, c, rest, tb, td, ⟨S, ⟨fun k => k = b, fun k => k = d ∨ S2 k, ⟨rb, fun _ => Iff.rfl⟩, ⟨fun k => k = d, S2, ⟨rd, fun _ => Iff.rfl⟩, g2, ?_, fun _ => Iff.rfl⟩, ?_, ?_⟩, h2⟩, hm.hc, hm.hr, hm.hl⟩
  · rintro k rfl; exact g3 k ((g k).2 (.inr rfl))
  · rintro k rfl (h | h)
    · exact hm.hne h
    · exact g3 k ((g k).2 (.inl rfl)) h
  · intro k; rw [g4, g, or_assoc]
theorem mem_shut {w w0 : World} {S0 : Nat → Prop} {F : List It} {b d c n : Nat} {bs : List Int} {rest : List Value} {tb td : TypeId} (H : X.Own w0 S0 (row b [.slice (some ⟨d, 0, none⟩) n c] tb :: row d (u8s bs ++ rest) td :: F) w)
    (hn : n = bs.length) (hc : c = bs.length + rest.length) (hr : ∀ x ∈ bs, 0 ≤ x ∧ x < 256) (hl : bs.length ≤ 131072) : X.Own w0 S0 (memI b bs :: F) w := by
  subst hn
  obtain ⟨S, ⟨S1, S2, ⟨rb, e1⟩, ⟨T1, T2, ⟨rd, e2⟩, g2, g3, g4⟩, g5, g6⟩, h2⟩ := H
  refine ⟨S, ⟨fun k => k = b ∨ k = d, T2, ⟨d, c, rest, ⟨rfl, ⟨_, rb⟩, ⟨_, rd⟩, hc, ?_, hr, hl⟩, fun _ => Iff.rfl⟩, g2, ?_, ?_⟩, h2⟩
  · rintro rfl; exact g5 b ((e1 b).2 rfl) ((g4 b).2 (.inl ((e2 b).2 rfl)))
  · rintro k (rfl | rfl) h
    · exact g5 k ((e1 k).2 rfl) ((g4 k).2 (.inr h))
    · exact g3 k ((e2 k).2 rfl) h
  · intro k; rw [g6, g4, e1, e2, or_assoc]
theorem refRead_t (b : Nat) (bs : List Int) (a s o n : Int) : Tri P F.crierref04_Mem_Read [ptr b, winV a s, .int .i64 o, .int .i64 n] [memI b bs] fun v L' => v = readV bs a s o n ∧ L' = [memI b bs] := by
  intro w S hS
  refine crierref04_Mem_Read_cv ?_
  unfold crierref04_Mem_Read
  have H := Own.start hS
  refine alc_o H fun bx wx H => ?_
  repeat (first | refine ldI_o H (by repeat (first | exact Pick.here | apply Pick.there)) (by rfl) ?_ | refine ldL_o H (by repeat (first | exact Pick.here | apply Pick.there)) (by rfl) ?_ | refine ldB_o H (by repeat (first | exact Pick.here | apply Pick.there)) (by rfl) ?_ | refine ldP_o H (by repeat (first | exact Pick.here | apply Pick.there)) (by rfl) ?_ | refine ldS_o H (by repeat (first | exact Pick.here | apply Pick.there)) (by rfl) ?_)
  refine call_p H (refHolds_t b bs a s) (by repeat (first | exact Cut.nil | (apply Cut.cons; (repeat (first | exact Pick.here | apply Pick.there))))) fun wx H => ?_
  refine ⟨_, rfl, ?_⟩
  cases hh : holdsB bs.length a s
  · refine cnd_i (fun _ => ⟨_, ⟨?_, rfl⟩, H.drop (by repeat (first | exact Cut.nil | (apply Cut.cons; (repeat (first | exact Pick.here | apply Pick.there)))))⟩) (fun h => by cases h)
    have : errE bs.length a s o n = 42 := by simp [errE, hh]
    simp [readV, this]
  refine cnd_i (fun h => by cases h) fun _ => ?_
  repeat (first | refine ldI_o H (by repeat (first | exact Pick.here | apply Pick.there)) (by rfl) ?_ | refine ldL_o H (by repeat (first | exact Pick.here | apply Pick.there)) (by rfl) ?_ | refine ldB_o H (by repeat (first | exact Pick.here | apply Pick.there)) (by rfl) ?_ | refine ldP_o H (by repeat (first | exact Pick.here | apply Pick.there)) (by rfl) ?_ | refine ldS_o H (by repeat (first | exact Pick.here | apply Pick.there)) (by rfl) ?_)
  refine call_p H (tri_plain (refMay_plain s o n)) (by repeat (first | exact Cut.nil | (apply Cut.cons; (repeat (first | exact Pick.here | apply Pick.there))))) fun wx H => ?_
  have he : errE bs.length a s o n = mayE s o n := by simp [errE, hh]
  refine ⟨_, rfl, cnd_i (fun h => ⟨_, ⟨?_, rfl⟩, H.drop (by repeat (first | exact Cut.nil | (apply Cut.cons; (repeat (first | exact Pick.here | apply Pick.there)))))⟩) fun h => ?_⟩
  · have h : mayE s o n ≠ 0 := by simpa using h
    simp [readV, he, h]
  have h : mayE s o n = 0 := by simpa using h
  have hz : errE bs.length a s o n = 0 := by rw [he, h]
  obtain ⟨d, c, rest, tb, td, H, hc, hr, hl⟩ := mem_open H (b := b) (bs := bs) (by repeat (first | exact Pick.here | apply Pick.there))
  obtain ⟨a0, o0, hn, ht, hlen, _, _, _⟩ := errE_ok hz hl
  refine loop_o (fun (st : Int × Int) L => ∃ i : Nat, i ≤ n.toNat ∧ st.2 = n - 1 - i ∧ st.1 = le (cut bs ((a + o).toNat + (n.toNat - i)) i) ∧ L = [row b [.slice (some ⟨d, 0, none⟩) bs.length c] tb, row d (u8s bs ++ rest) td, row bx [.int .i64 a, .int .i64 s] T.t23])
    (fun (st : Int × Int) => (st.2 + 1).toNat) H ⟨0, by omega, by rw [W_id (by omega) (by omega)]; simp, by simp [cut, le], rfl⟩ ?_
  rintro ⟨acc, i'⟩ _ wx ⟨i, hi, hi', hacc, rfl⟩ H
  simp only at hi' hacc
  subst hi' hacc
  unfold crierref04_Mem_Read_l0
  dsimp only
  refine cnd_i (fun h => ?_) fun h => ?_
  · have h := of_decide_eq_true h
    refine drw_o H fun wx H => ?_
    repeat (first | refine ldI_o H (by repeat (first | exact Pick.here | apply Pick.there)) (by rfl) ?_ | refine ldL_o H (by repeat (first | exact Pick.here | apply Pick.there)) (by rfl) ?_ | refine ldB_o H (by repeat (first | exact Pick.here | apply Pick.there)) (by rfl) ?_ | refine ldP_o H (by repeat (first | exact Pick.here | apply Pick.there)) (by rfl) ?_ | refine ldS_o H (by repeat (first | exact Pick.here | apply Pick.there)) (by rfl) ?_)
    rw [W_id (n := a + o) (by omega) (by omega), W_id (n := a + o + _) (by omega) (by omega)]
    refine ⟨by omega, ?_⟩
    show ldI _ _ _ _
    have hk : (a + o + (n - 1 - (i : Int))).toNat < bs.length := by omega
    rw [add_lit, Nat.mul_one, Nat.zero_add]
    refine ldI_o H (by repeat (first | exact Pick.here | apply Pick.there)) (mem_get hk) ?_
    have hcut : cut bs ((a + o).toNat + (n.toNat - (i + 1))) (i + 1) = bs[(a + o + (n - 1 - (i : Int))).toNat] :: cut bs ((a + o).toNat + (n.toNat - i)) i := by
      have e : (a + o + (n - 1 - (i : Int))).toNat = (a + o).toNat + (n.toNat - (i + 1)) := by omega
      simp only [e]
      have hk' : (a + o).toNat + (n.toNat - (i + 1)) < bs.length := by omega
      unfold cut
      rw [List.drop_eq_getElem_cons hk', List.take_succ_cons]
      congr 3
      omega
    have hb := hr _ (List.getElem_mem hk)
    have hle := le_nonneg (bs := cut bs ((a + o).toNat + (n.toNat - i)) i) fun x hx => hr x (cut_mem hx)
    rw [cut_length (by omega)] at hle
    have hp : (256 : Int) ^ i ≤ 256 ^ 7 := by
      have : (256 : Nat) ^ i ≤ 256 ^ 7 := Nat.pow_le_pow_right (by omega) (by omega)
      exact_mod_cast this
    have u : ∀ m : Int, 0 ≤ m → m < 18446744073709551616 → IntKind.u64.wrap m = m := by
      intro m h1 h2
      simp [IntKind.wrap, IntKind.signed, IntKind.bits]; omega
    have h7 : (256 : Int) ^ 7 = 72057594037927936 := by decide
    refine ⟨⟨_, ⟨i + 1, by omega, ?_, ?_, rfl⟩, H⟩, ?_⟩
    · rw [W_id (by omega) (by omega)]; push_cast; omega
    · show IntKind.u64.wrap _ = _
      rw [u (_ * 256) (by omega) (by omega), u (bs[_]) hb.1 (by omega), u _ (by omega) (by omega), hcut]
      simp only [le]
      omega
    · show (IntKind.i64.wrap (n - 1 - (i : Int) - 1) + 1).toNat < (n - 1 - (i : Int) + 1).toNat
      rw [W_id (by omega) (by omega)]; omega
  · have h := of_decide_eq_false h
    have : i = n.toNat := by omega
    subst this
    refine ⟨_, ⟨?_, rfl⟩, (mem_shut H rfl hc hr hl).drop (by repeat (first | exact Cut.nil | (apply Cut.cons; (repeat (first | exact Pick.here | apply Pick.there)))))⟩
    simp [readV, hz]
end Go.Proofs.Ytbincfjaahjbiaa
