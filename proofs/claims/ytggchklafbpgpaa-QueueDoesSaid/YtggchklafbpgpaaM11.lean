/-
  mem: the document's memory: a number is read.
-/
import Derived.Test.YtggchklafbpgpaaMA
namespace Go.Proofs.Ytggchklafbpgpaa
open Go Go.RowKit X
set_option maxRecDepth 100000
set_option linter.unusedVariables false
theorem refRead_t (b : Nat) (bs : List Int) (a s o n : Int) : Tri P F.crierref04_Mem_Read [ptr b, winV a s, .int .i64 o, .int .i64 n] [memI b bs] fun v L' => v = readV bs a s o n ∧ L' = [memI b bs] := by
  intro w S hS
  refine crierref04_Mem_Read_cv ?_
  unfold crierref04_Mem_Read
  have H := Own.start hS
  refine alc_o H fun bx wx H => ?_
  repeat (first | refine ldI_o H (by repeat (first | exact Pick.here | apply Pick.there)) (by rfl) ?_ | refine ldL_o H (by repeat (first | exact Pick.here | apply Pick.there)) (by rfl) ?_ | refine ldB_o H (by repeat (first | exact Pick.here | apply Pick.there)) (by rfl) ?_ | refine ldP_o H (by repeat (first | exact Pick.here | apply Pick.there)) (by rfl) ?_ | refine ldS_o H (by repeat (first | exact Pick.here | apply Pick.there)) (by rfl) ?_)
  refine call_p H (refHolds_t b bs a s) (by repeat (first | exact Cut.nil | (apply Cut.cons; (repeat (first | exact Pick.here | apply Pick.there))))) fun wx H => ?_
  refine ⟨_, rfl, ?_⟩
  cases hh : holdsB bs.length a s
  · refine cnd_i (fun _ => ⟨_, ⟨?_, rfl⟩, H.drop (by repeat (first | exact Cut.nil | (apply Cut.cons; (repeat (first | exact Pick.here | apply Pick.there)))))⟩) (fun h => by cases h)
    have : errE bs.length a s o n = 42 := by simp [errE, hh]
    simp [readV, this]
  refine cnd_i (fun h => by cases h) fun _ => ?_
  repeat (first | refine ldI_o H (by repeat (first | exact Pick.here | apply Pick.there)) (by rfl) ?_ | refine ldL_o H (by repeat (first | exact Pick.here | apply Pick.there)) (by rfl) ?_ | refine ldB_o H (by repeat (first | exact Pick.here | apply Pick.there)) (by rfl) ?_ | refine ldP_o H (by repeat (first | exact Pick.here | apply Pick.there)) (by rfl) ?_ | refine ldS_o H (by repeat (first | exact Pick.here | apply Pick.there)) (by rfl) ?_)
  refine call_p H (tri_plain (refMay_plain s o n)) (by repeat (first | exact Cut.nil | (apply Cut.cons; (repeat (first | exact Pick.here | apply Pick.there))))) fun wx H => ?_
  have he : errE bs.length a s o n = mayE s o n := by simp [errE, hh]
  refine ⟨_, rfl, cnd_i (fun h => ⟨_, ⟨?_, rfl⟩, H.drop (by repeat (first | exact Cut.nil | (apply Cut.cons; (repeat (first | exact Pick.here | apply Pick.there)))))⟩) fun h => ?_⟩
  · have h : mayE s o n ≠ 0 := by simpa using h
    simp [readV, he, h]
  have h : mayE s o n = 0 := by simpa using h
  have hz : errE bs.length a s o n = 0 := by rw [he, h]
  obtain ⟨d, c, rest, tb, td, H, hc, hr, hl⟩ := mem_open H (b := b) (bs := bs) (by repeat (first | exact Pick.here | apply Pick.there))
  obtain ⟨a0, o0, hn, ht, hlen, _, _, _⟩ := errE_ok hz hl
  refine loop_o (fun (st : Int × Int) L => ∃ i : Nat, i ≤ n.toNat ∧ st.2 = n - 1 - i ∧ st.1 = le (cut bs ((a + o).toNat + (n.toNat - i)) i) ∧ L = [row b [.slice (some ⟨d, 0, none⟩) bs.length c] tb, row d (u8s bs ++ rest) td, row bx [.int .i64 a, .int .i64 s] tWin])
    (fun (st : Int × Int) => (st.2 + 1).toNat) H ⟨0, by omega, by rw [W_id (by omega) (by omega)]; simp, by simp [cut, le], rfl⟩ ?_
  rintro ⟨acc, i'⟩ _ wx ⟨i, hi, hi', hacc, rfl⟩ H
  simp only at hi' hacc
  subst hi' hacc
  unfold crierref04_Mem_Read_l0
  dsimp only
  refine cnd_i (fun h => ?_) fun h => ?_
  · have h := of_decide_eq_true h
    refine drw_o H fun wx H => ?_
    repeat (first | refine ldI_o H (by repeat (first | exact Pick.here | apply Pick.there)) (by rfl) ?_ | refine ldL_o H (by repeat (first | exact Pick.here | apply Pick.there)) (by rfl) ?_ | refine ldB_o H (by repeat (first | exact Pick.here | apply Pick.there)) (by rfl) ?_ | refine ldP_o H (by repeat (first | exact Pick.here | apply Pick.there)) (by rfl) ?_ | refine ldS_o H (by repeat (first | exact Pick.here | apply Pick.there)) (by rfl) ?_)
    rw [W_id (n := a + o) (by omega) (by omega), W_id (n := a + o + _) (by omega) (by omega)]
    refine ⟨by omega, ?_⟩
    show ldI _ _ _ _
    have hk : (a + o + (n - 1 - (i : Int))).toNat < bs.length := by omega
    rw [add_lit, Nat.mul_one, Nat.zero_add]
    refine ldI_o H (by repeat (first | exact Pick.here | apply Pick.there)) (mem_get hk) ?_
    have hcut : cut bs ((a + o).toNat + (n.toNat - (i + 1))) (i + 1) = bs[(a + o + (n - 1 - (i : Int))).toNat] :: cut bs ((a + o).toNat + (n.toNat - i)) i := by
      have e : (a + o + (n - 1 - (i : Int))).toNat = (a + o).toNat + (n.toNat - (i + 1)) := by omega
      simp only [e]
      have hk' : (a + o).toNat + (n.toNat - (i + 1)) < bs.length := by omega
      unfold cut
      rw [List.drop_eq_getElem_cons hk', List.take_succ_cons]
      congr 3
      omega
    have hb := hr _ (List.getElem_mem hk)
    have hle := le_nonneg (bs := cut bs ((a + o).toNat + (n.toNat - i)) i) fun x hx => hr x (cut_mem hx)
    rw [cut_length (by omega)] at hle
    have hp : (256 : Int) ^ i ≤ 256 ^ 7 := by
      have : (256 : Nat) ^ i ≤ 256 ^ 7 := Nat.pow_le_pow_right (by omega) (by omega)
      exact_mod_cast this
    have u : ∀ m : Int, 0 ≤ m → m < 18446744073709551616 → IntKind.u64.wrap m = m := by
      intro m h1 h2
      simp [IntKind.wrap, IntKind.signed, IntKind.bits]; omega
    have h7 : (256 : Int) ^ 7 = 72057594037927936 := by decide
    refine ⟨⟨_, ⟨i + 1, by omega, ?_, ?_, rfl⟩, H⟩, ?_⟩
    · rw [W_id (by omega) (by omega)]; push_cast; omega
    · show IntKind.u64.wrap _ = _
      rw [u (_ * 256) (by omega) (by omega), u (bs[_]) hb.1 (by omega), u _ (by omega) (by omega), hcut]
      simp only [le]
      omega
    · show (IntKind.i64.wrap (n - 1 - (i : Int) - 1) + 1).toNat < (n - 1 - (i : Int) + 1).toNat
      rw [W_id (by omega) (by omega)]; omega
  · have h := of_decide_eq_false h
    have : i = n.toNat := by omega
    subst this
    refine ⟨_, ⟨?_, rfl⟩, (mem_shut H rfl hc hr hl).drop (by repeat (first | exact Cut.nil | (apply Cut.cons; (repeat (first | exact Pick.here | apply Pick.there)))))⟩
    simp [readV, hz]
end Go.Proofs.Ytggchklafbpgpaa
