/-
  mem: the document's memory: numbers and bytes written.
-/
import Derived.Test.YtbincfjaahjbiaaL10
namespace Go.Proofs.Ytbincfjaahjbiaa
open Go Go.RowKit X
set_option maxRecDepth 100000
set_option linter.unusedVariables false
theorem refWrite_t (b : Nat) (bs : List Int) (a s o n v : Int) (hv : 0 ≤ v ∧ v < 2 ^ 64) : Tri P F.crierref04_Mem_Write [ptr b, winV a s, .int .i64 o, .int .i64 n, .int .u64 v] [memI b bs] fun r L' => r = .int .i64 (errE bs.length a s o n) ∧ L' = [memI b (writeM bs a s o n v)] := by
  intro w S hS
  refine crierref04_Mem_Write_cv ?_
  unfold crierref04_Mem_Write
  have H := Own.start hS
  refine alc_o H fun bx wx H => ?_
  repeat (first | refine ldI_o H (by repeat (first | exact Pick.here | apply Pick.there)) (by rfl) ?_ | refine ldL_o H (by repeat (first | exact Pick.here | apply Pick.there)) (by rfl) ?_ | refine ldB_o H (by repeat (first | exact Pick.here | apply Pick.there)) (by rfl) ?_ | refine ldP_o H (by repeat (first | exact Pick.here | apply Pick.there)) (by rfl) ?_ | refine ldS_o H (by repeat (first | exact Pick.here | apply Pick.there)) (by rfl) ?_)
  refine call_p H (refHolds_t b bs a s) (by repeat (first | exact Cut.nil | (apply Cut.cons; (repeat (first | exact Pick.here | apply Pick.there))))) fun wx H => ?_
  refine ⟨_, rfl, ?_⟩
  cases hh : holdsB bs.length a s
  · have : errE bs.length a s o n = 42 := by simp [errE, hh]
    rw [writeM, this, if_neg (by omega)]
    exact cnd_i (fun _ => ⟨_, ⟨rfl, rfl⟩, H.drop (by repeat (first | exact Cut.nil | (apply Cut.cons; (repeat (first | exact Pick.here | apply Pick.there)))))⟩) (fun h => by cases h)
  refine cnd_i (fun h => by cases h) fun _ => ?_
  repeat (first | refine ldI_o H (by repeat (first | exact Pick.here | apply Pick.there)) (by rfl) ?_ | refine ldL_o H (by repeat (first | exact Pick.here | apply Pick.there)) (by rfl) ?_ | refine ldB_o H (by repeat (first | exact Pick.here | apply Pick.there)) (by rfl) ?_ | refine ldP_o H (by repeat (first | exact Pick.here | apply Pick.there)) (by rfl) ?_ | refine ldS_o H (by repeat (first | exact Pick.here | apply Pick.there)) (by rfl) ?_)
  refine call_p H (tri_plain (refMay_plain s o n)) (by repeat (first | exact Cut.nil | (apply Cut.cons; (repeat (first | exact Pick.here | apply Pick.there))))) fun wx H => ?_
  have he : errE bs.length a s o n = mayE s o n := by simp [errE, hh]
  refine ⟨_, rfl, cnd_i (fun h => ?_) fun h => ?_⟩
  · have h : mayE s o n ≠ 0 := by simpa using h
    rw [writeM, he, if_neg h]
    exact ⟨_, ⟨rfl, rfl⟩, H.drop (by repeat (first | exact Cut.nil | (apply Cut.cons; (repeat (first | exact Pick.here | apply Pick.there)))))⟩
  have h : mayE s o n = 0 := by simpa using h
  have hz : errE bs.length a s o n = 0 := by rw [he, h]
  obtain ⟨d, c, rest, tb, td, H, hc, hr, hl⟩ := mem_open H (b := b) (bs := bs) (by repeat (first | exact Pick.here | apply Pick.there))
  obtain ⟨a0, o0, hn, ht, hlen, _, _, _⟩ := errE_ok hz hl
  refine loop_o (fun (st : Int × Int) L => ∃ i : Nat, i ≤ n.toNat ∧ st.2 = i ∧ st.1 = v / 256 ^ i ∧ L = [row b [.slice (some ⟨d, 0, none⟩) bs.length c] tb, row d (u8s (wr bs (a + o).toNat v i) ++ rest) td, row bx [.int .i64 a, .int .i64 s] T.t23])
    (fun (st : Int × Int) => (n - st.2).toNat) H ⟨0, by omega, rfl, by simp, rfl⟩ ?_
  rintro ⟨v', i'⟩ _ wx ⟨i, hi, hi', hv', rfl⟩ H
  simp only at hi' hv'
  subst hi' hv'
  unfold crierref04_Mem_Write_l0
  dsimp only
  refine cnd_i (fun h => ?_) fun h => ?_
  · have h := of_decide_eq_true h
    refine drw_o H fun wx H => ?_
    repeat (first | refine ldI_o H (by repeat (first | exact Pick.here | apply Pick.there)) (by rfl) ?_ | refine ldL_o H (by repeat (first | exact Pick.here | apply Pick.there)) (by rfl) ?_ | refine ldB_o H (by repeat (first | exact Pick.here | apply Pick.there)) (by rfl) ?_ | refine ldP_o H (by repeat (first | exact Pick.here | apply Pick.there)) (by rfl) ?_ | refine ldS_o H (by repeat (first | exact Pick.here | apply Pick.there)) (by rfl) ?_)
    rw [W_id (n := a + o) (by omega) (by omega), W_id (n := a + o + _) (by omega) (by omega)]
    refine ⟨by omega, ⟨by omega, by omega⟩, ?_⟩
    dsimp only [nn]
    have hk : (a + o + (i : Int)).toNat < (wr bs (a + o).toNat v i).length := by rw [wr_length]; omega
    have e : (a + o + (i : Int)).toNat = (a + o).toNat + i := by omega
    have hq : 0 ≤ v / 256 ^ i ∧ v / 256 ^ i ≤ v := ⟨Int.ediv_nonneg hv.1 (Int.le_of_lt (Int.pow_pos (by omega))), Int.ediv_le_self _ hv.1⟩
    have hb : IntKind.u8.wrap (Int.tmod (v / 256 ^ i) 256) = byteI v i := by
      rw [Int.tmod_eq_emod_of_nonneg hq.1]
      have := byteI_range v i
      unfold byteI at *
      simp [IntKind.wrap, IntKind.signed, IntKind.bits]
    rw [add_lit, Nat.mul_one, Nat.zero_add, hb]
    refine st1_o H (by repeat (first | exact Rep.here | apply Rep.there)) (by rw [List.length_append, u8s_length]; omega) fun wx H => ⟨by omega, ⟨_, ⟨i + 1, by omega, ?_, ?_, ?_⟩, H⟩, ?_⟩
    · rw [W_id (by omega) (by omega)]; rfl
    · show IntKind.u64.wrap _ = _
      rw [Int.tdiv_eq_ediv_of_nonneg hq.1, Int.pow_succ, ← Int.ediv_ediv_of_nonneg (Int.le_of_lt (Int.pow_pos (by omega)))]
      have h1 : 0 ≤ v / 256 ^ i / 256 := Int.ediv_nonneg hq.1 (by omega)
      have h2 : v / 256 ^ i / 256 ≤ v / 256 ^ i := Int.ediv_le_self _ hq.1
      have := hv.2
      simp [IntKind.wrap, IntKind.signed, IntKind.bits]; omega
    · rw [mem_set hk, e]; rfl
    · show (n - IntKind.i64.wrap ((i : Int) + 1)).toNat < (n - (i : Int)).toNat
      rw [W_id (by omega) (by omega)]; omega
  · have h := of_decide_eq_false h
    have : i = n.toNat := by omega
    subst this
    rw [hz, writeM, if_pos hz]
    exact ⟨_, ⟨rfl, rfl⟩, (mem_shut H (by rw [wr_length]) (by rw [wr_length]; exact hc) (wr_range hr _ _ _) (by rw [wr_length]; exact hl)).drop (by repeat (first | exact Cut.nil | (apply Cut.cons; (repeat (first | exact Pick.here | apply Pick.there)))))⟩
theorem over_succ {bs xs : List Int} {k i : Nat} (h : k + i < bs.length) (hi : i < xs.length) : (over bs k (xs.take i)).set (k + i) xs[i] = over bs k (xs.take (i + 1)) := by
  unfold over
  rw [List.take_succ_eq_append_getElem hi]
  have e : k + (xs.take i).length = k + i := by simp; omega
  rw [e, List.drop_eq_getElem_cons h, List.set_append_right _ _ (by simp; omega)]
  have e2 : k + i - (bs.take k ++ xs.take i).length = 0 := by simp; omega
  rw [e2, List.set_cons_zero]
  have e3 : k + (xs.take i ++ [xs[i]]).length = k + i + 1 := by simp; omega
  rw [e3]
  simp only [List.append_assoc, List.cons_append, List.nil_append]
theorem refPut_t (b : Nat) (bs : List Int) (a s : Int) {q : Option Addr} {c' : Nat} {xs : List Int} (i : It) (hi : ∀ w S, i.h w S → Sl w q (u8s xs)) (hx : ∀ x ∈ xs, 0 ≤ x ∧ x < 256) :
    Tri P F.crierref04_Mem_Put [ptr b, winV a s, .slice q xs.length c'] [memI b bs, i] fun v L' => v = .int .i64 (if holdsB bs.length a s && decide ((xs.length : Int) ≤ s) then 0 else 42) ∧
      L' = [memI b (if holdsB bs.length a s && decide ((xs.length : Int) ≤ s) then over bs a.toNat xs else bs), i] := by
  intro w S hS
  refine crierref04_Mem_Put_cv ?_
  unfold crierref04_Mem_Put
  have H := Own.start hS
  refine alc_o H fun bx wx H => ?_
  refine join_o ?_
  repeat (first | refine ldI_o H (by repeat (first | exact Pick.here | apply Pick.there)) (by rfl) ?_ | refine ldL_o H (by repeat (first | exact Pick.here | apply Pick.there)) (by rfl) ?_ | refine ldB_o H (by repeat (first | exact Pick.here | apply Pick.there)) (by rfl) ?_ | refine ldP_o H (by repeat (first | exact Pick.here | apply Pick.there)) (by rfl) ?_ | refine ldS_o H (by repeat (first | exact Pick.here | apply Pick.there)) (by rfl) ?_)
  refine call_p H (refHolds_t b bs a s) (by repeat (first | exact Cut.nil | (apply Cut.cons; (repeat (first | exact Pick.here | apply Pick.there))))) fun wx H => ?_
  refine ⟨_, rfl, ?_⟩
  cases hh : holdsB bs.length a s
  · refine cnd_i (fun _ => ?_) (fun h => by cases h)
    unfold crierref04_Mem_Put_j1
    exact cnd_i (fun _ => ⟨_, ⟨rfl, rfl⟩, H.drop (by repeat (first | exact Cut.nil | (apply Cut.cons; (repeat (first | exact Pick.here | apply Pick.there)))))⟩) (fun h => by cases h)
  refine cnd_i (fun h => by cases h) fun _ => ?_
  repeat (first | refine ldI_o H (by repeat (first | exact Pick.here | apply Pick.there)) (by rfl) ?_ | refine ldL_o H (by repeat (first | exact Pick.here | apply Pick.there)) (by rfl) ?_ | refine ldB_o H (by repeat (first | exact Pick.here | apply Pick.there)) (by rfl) ?_ | refine ldP_o H (by repeat (first | exact Pick.here | apply Pick.there)) (by rfl) ?_ | refine ldS_o H (by repeat (first | exact Pick.here | apply Pick.there)) (by rfl) ?_)
  unfold crierref04_Mem_Put_j1
  refine cnd_i (fun h => ?_) fun h => ?_
  · have h := of_decide_eq_true h
    rw [show decide ((xs.length : Int) ≤ s) = false from decide_eq_false (by omega)]
    exact ⟨_, ⟨rfl, rfl⟩, H.drop (by repeat (first | exact Cut.nil | (apply Cut.cons; (repeat (first | exact Pick.here | apply Pick.there)))))⟩
  have h := of_decide_eq_false h
  rw [show decide ((xs.length : Int) ≤ s) = true from decide_eq_true (by omega)]
  obtain ⟨g1, g2, g3, g4⟩ := holdsB_iff.1 hh
  obtain ⟨d, c, rest, tb, td, H, hc, hr, hl⟩ := mem_open H (b := b) (bs := bs) (by repeat (first | exact Pick.here | apply Pick.there))
  refine loop_o (fun (st : Int) L => ∃ j : Nat, j ≤ xs.length ∧ st = j ∧ L = [row b [.slice (some ⟨d, 0, none⟩) bs.length c] tb, row d (u8s (over bs a.toNat (xs.take j)) ++ rest) td, row bx [.int .i64 a, .int .i64 s] T.t23, i])
    (fun (st : Int) => ((xs.length : Int) - st).toNat) H ⟨0, by omega, rfl, by simp [over]⟩ ?_
  rintro _ _ wx ⟨j, hj, rfl, rfl⟩ H
  unfold crierref04_Mem_Put_l0
  have hol : (over bs a.toNat (xs.take j)).length = bs.length := over_length (by simp; omega)
  refine cnd_i (fun h => ?_) fun h => ?_
  · have h := of_decide_eq_true h
    refine drw_o H fun wx H => ?_
    repeat (first | refine ldI_o H (by repeat (first | exact Pick.here | apply Pick.there)) (by rfl) ?_ | refine ldL_o H (by repeat (first | exact Pick.here | apply Pick.there)) (by rfl) ?_ | refine ldB_o H (by repeat (first | exact Pick.here | apply Pick.there)) (by rfl) ?_ | refine ldP_o H (by repeat (first | exact Pick.here | apply Pick.there)) (by rfl) ?_ | refine ldS_o H (by repeat (first | exact Pick.here | apply Pick.there)) (by rfl) ?_)
    refine ⟨by omega, ?_⟩
    rw [show ((j : Int)).toNat = j from rfl]
    obtain ⟨ad, rfl, hcell⟩ := H.rd (i := i) (by repeat (first | exact Pick.here | apply Pick.there)) hi j _ (u8s_get (bs := xs) (by omega))
    refine ⟨xs[j], by rw [Nat.mul_one]; exact hcell, ?_⟩
    rw [W_id (n := a + _) (by omega) (by omega)]
    refine ⟨⟨by omega, by omega⟩, ?_⟩
    show st1 _ _ _ _
    rw [add_lit, Nat.mul_one, Nat.zero_add]
    refine st1_o H (by repeat (first | exact Rep.here | apply Rep.there)) (by rw [List.length_append, u8s_length]; omega) fun wx H => ⟨⟨_, ⟨j + 1, by omega, ?_, ?_⟩, H⟩, ?_⟩
    · rw [W_id (by omega) (by omega)]; rfl
    · rw [mem_set (by omega), show (a + (j : Int)).toNat = a.toNat + j by omega, over_succ (by omega) (by omega)]
    · rw [W_id (by omega) (by omega)]
      show ((xs.length : Int) - ((j : Int) + 1)).toNat < ((xs.length : Int) - (j : Int)).toNat
      omega
  · have h := of_decide_eq_false h
    have : j = xs.length := by omega
    subst this
    rw [List.take_length] at H hol
    exact ⟨_, ⟨rfl, rfl⟩, (mem_shut H hol.symm (by rw [hol]; exact hc) (over_range hr hx) (by rw [hol]; exact hl)).drop (by repeat (first | exact Cut.nil | (apply Cut.cons; (repeat (first | exact Pick.here | apply Pick.there)))))⟩
theorem refWipe_t (b : Nat) (bs : List Int) (a s : Int) : Tri P F.crierref04_Mem_Wipe [ptr b, winV a s] [memI b bs] fun r L' => r = .int .i64 (if holdsB bs.length a s then 0 else 42) ∧ L' = [memI b (if holdsB bs.length a s then over bs a.toNat (List.replicate s.toNat 0) else bs)] := by
  intro w S hS
  refine crierref04_Mem_Wipe_cv ?_
  unfold crierref04_Mem_Wipe
  have H := Own.start hS
  refine alc_o H fun bx wx H => ?_
  repeat (first | refine ldI_o H (by repeat (first | exact Pick.here | apply Pick.there)) (by rfl) ?_ | refine ldL_o H (by repeat (first | exact Pick.here | apply Pick.there)) (by rfl) ?_ | refine ldB_o H (by repeat (first | exact Pick.here | apply Pick.there)) (by rfl) ?_ | refine ldP_o H (by repeat (first | exact Pick.here | apply Pick.there)) (by rfl) ?_ | refine ldS_o H (by repeat (first | exact Pick.here | apply Pick.there)) (by rfl) ?_)
  refine call_p H (refHolds_t b bs a s) (by repeat (first | exact Cut.nil | (apply Cut.cons; (repeat (first | exact Pick.here | apply Pick.there))))) fun wx H => ?_
  refine ⟨_, rfl, ?_⟩
  cases hh : holdsB bs.length a s
  · exact cnd_i (fun _ => ⟨_, ⟨rfl, rfl⟩, H.drop (by repeat (first | exact Cut.nil | (apply Cut.cons; (repeat (first | exact Pick.here | apply Pick.there)))))⟩) (fun h => by cases h)
  refine cnd_i (fun h => by cases h) fun _ => ?_
  obtain ⟨g1, g2, g3, g4⟩ := holdsB_iff.1 hh
  obtain ⟨d, c, rest, tb, td, H, hc, hr, hl⟩ := mem_open H (b := b) (bs := bs) (by repeat (first | exact Pick.here | apply Pick.there))
  refine loop_o (fun (st : Int) L => ∃ j : Nat, j ≤ s.toNat ∧ st = j ∧ L = [row b [.slice (some ⟨d, 0, none⟩) bs.length c] tb, row d (u8s (over bs a.toNat (List.replicate j 0)) ++ rest) td, row bx [.int .i64 a, .int .i64 s] T.t23])
    (fun (st : Int) => (s - st).toNat) H ⟨0, by omega, rfl, by simp [over]⟩ ?_
  rintro _ _ wx ⟨j, hj, rfl, rfl⟩ H
  unfold crierref04_Mem_Wipe_l0
  have hol : (over bs a.toNat (List.replicate j 0)).length = bs.length := over_length (by simp; omega)
  repeat (first | refine ldI_o H (by repeat (first | exact Pick.here | apply Pick.there)) (by rfl) ?_ | refine ldL_o H (by repeat (first | exact Pick.here | apply Pick.there)) (by rfl) ?_ | refine ldB_o H (by repeat (first | exact Pick.here | apply Pick.there)) (by rfl) ?_ | refine ldP_o H (by repeat (first | exact Pick.here | apply Pick.there)) (by rfl) ?_ | refine ldS_o H (by repeat (first | exact Pick.here | apply Pick.there)) (by rfl) ?_)
  refine cnd_i (fun h => ?_) fun h => ?_
  · have h := of_decide_eq_true h
    refine drw_o H fun wx H => ?_
    repeat (first | refine ldI_o H (by repeat (first | exact Pick.here | apply Pick.there)) (by rfl) ?_ | refine ldL_o H (by repeat (first | exact Pick.here | apply Pick.there)) (by rfl) ?_ | refine ldB_o H (by repeat (first | exact Pick.here | apply Pick.there)) (by rfl) ?_ | refine ldP_o H (by repeat (first | exact Pick.here | apply Pick.there)) (by rfl) ?_ | refine ldS_o H (by repeat (first | exact Pick.here | apply Pick.there)) (by rfl) ?_)
    rw [W_id (n := a + _) (by omega) (by omega)]
    refine ⟨⟨by omega, by omega⟩, ?_⟩
    show st1 _ _ _ _
    rw [add_lit, Nat.mul_one, Nat.zero_add]
    refine st1_o H (by repeat (first | exact Rep.here | apply Rep.there)) (by rw [List.length_append, u8s_length]; omega) fun wx H => ⟨⟨_, ⟨j + 1, by omega, ?_, ?_⟩, H⟩, ?_⟩
    · rw [W_id (by omega) (by omega)]; rfl
    · rw [mem_set (by omega), show (a + (j : Int)).toNat = a.toNat + j by omega]
      have := over_succ (bs := bs) (xs := List.replicate (j + 1) 0) (k := a.toNat) (i := j) (by omega) (by simp)
      simp only [List.take_replicate, List.getElem_replicate, Nat.min_self] at this
      rw [show min j (j + 1) = j by omega] at this
      rw [this]
    · rw [W_id (by omega) (by omega)]
      show (s - ((j : Int) + 1)).toNat < (s - (j : Int)).toNat
      omega
  · have h := of_decide_eq_false h
    have : j = s.toNat := by omega
    subst this
    exact ⟨_, ⟨rfl, rfl⟩, (mem_shut H hol.symm (by rw [hol]; exact hc) (over_range hr (by intro x hx; rw [(List.mem_replicate.1 hx).2]; omega)) (by rw [hol]; exact hl)).drop (by repeat (first | exact Cut.nil | (apply Cut.cons; (repeat (first | exact Pick.here | apply Pick.there)))))⟩
theorem refBytes_t (b : Nat) (bs : List Int) (a s : Int) : Tri P F.crierref04_Mem_Bytes [ptr b, winV a s] [memI b bs] fun v L' =>
    if holdsB bs.length a s then ∃ p c, v = .tuple [.slice p s.toNat c, .int .i64 0].toArray ∧ L' = [own tByte 1 (.slice p s.toNat c) s.toNat (u8s (cut bs a.toNat s.toNat)), memI b bs] else v = .tuple [.slice none 0 0, .int .i64 42].toArray ∧ L' = [memI b bs] := by
  intro w S hS
  refine crierref04_Mem_Bytes_cv ?_
  unfold crierref04_Mem_Bytes
  have H := Own.start hS
  refine alc_o H fun bx wx H => ?_
  repeat (first | refine ldI_o H (by repeat (first | exact Pick.here | apply Pick.there)) (by rfl) ?_ | refine ldL_o H (by repeat (first | exact Pick.here | apply Pick.there)) (by rfl) ?_ | refine ldB_o H (by repeat (first | exact Pick.here | apply Pick.there)) (by rfl) ?_ | refine ldP_o H (by repeat (first | exact Pick.here | apply Pick.there)) (by rfl) ?_ | refine ldS_o H (by repeat (first | exact Pick.here | apply Pick.there)) (by rfl) ?_)
  refine call_p H (refHolds_t b bs a s) (by repeat (first | exact Cut.nil | (apply Cut.cons; (repeat (first | exact Pick.here | apply Pick.there))))) fun wx H => ?_
  refine ⟨_, rfl, ?_⟩
  cases hh : holdsB bs.length a s
  · exact cnd_i (fun _ => ⟨_, by dsimp only; rw [if_neg (by simp)]; exact ⟨rfl, rfl⟩, H.drop (by repeat (first | exact Cut.nil | (apply Cut.cons; (repeat (first | exact Pick.here | apply Pick.there)))))⟩) (fun h => by cases h)
  refine cnd_i (fun h => by cases h) fun _ => ?_
  obtain ⟨g1, g2, g3, g4⟩ := holdsB_iff.1 hh
  obtain ⟨d, c, rest, tb, td, H, hc, hr, hl⟩ := mem_open H (b := b) (bs := bs) (by repeat (first | exact Pick.here | apply Pick.there))
  refine drw_o H fun wx H => ?_
  repeat (first | refine ldI_o H (by repeat (first | exact Pick.here | apply Pick.there)) (by rfl) ?_ | refine ldL_o H (by repeat (first | exact Pick.here | apply Pick.there)) (by rfl) ?_ | refine ldB_o H (by repeat (first | exact Pick.here | apply Pick.there)) (by rfl) ?_ | refine ldP_o H (by repeat (first | exact Pick.here | apply Pick.there)) (by rfl) ?_ | refine ldS_o H (by repeat (first | exact Pick.here | apply Pick.there)) (by rfl) ?_)
  rw [W_id (n := a + s) (by omega) (by omega)]
  refine ⟨by simp, ?_, ?_, ?_⟩
  · intro x hx; cases hx; exact ⟨by omega, by simp; omega⟩
  · intro x hx; cases hx; exact ⟨by omega, by simp; omega⟩
  have e1 : (a + s).toNat - a.toNat = s.toNat := by omega
  simp only [Option.map_some, Option.getD_some, Option.map_none, Option.getD_none, e1, Nat.mul_one, add_lit, Nat.zero_add]
  have hcl : (cut bs a.toNat s.toNat).length = s.toNat := cut_length (by omega)
  have hsl : Sl wx (if c = a.toNat then some ⟨d, 0, none⟩ else some ⟨d, a.toNat, none⟩) (u8s (cut bs a.toNat s.toNat)) := by
    intro j u hj
    have hj' : j < s.toNat := by
      have := (List.getElem?_eq_some_iff.1 hj).1
      rw [u8s_length, hcl] at this; exact this
    rw [if_neg (by omega)]
    refine ⟨_, rfl, ?_⟩
    rw [add_lit, (H.row (by repeat (first | exact Pick.here | apply Pick.there))).cell, mem_get (by omega), ← hj, u8s_get (by rw [hcl]; exact hj')]
    congr 2
    simp [cut]
  refine app_o appBytes (by omega) (own_nil (e := tByte) (size := 1) H) .here hsl (by rw [u8s_length, hcl]; simp) (u8s_one _) (by unfold maxLen; omega) (by omega) fun p' c' wx H => ?_
  simp only [if_true]
  refine ⟨_, ⟨p', c', by simp, rfl⟩, ?_⟩
  have H1 := mem_shut (F := [own tByte 1 (.slice p' (0 + s.toNat) c') (0 + s.toNat) ([] ++ u8s (cut bs a.toNat s.toNat)), row bx [.int .i64 a, .int .i64 s] T.t23]) (H.drop (by repeat (first | exact Cut.nil | (apply Cut.cons; (repeat (first | exact Pick.here | apply Pick.there)))))) rfl hc hr hl
  simp only [Nat.zero_add, List.nil_append] at H1
  exact H1.drop (by repeat (first | exact Cut.nil | (apply Cut.cons; (repeat (first | exact Pick.here | apply Pick.there)))))
end Go.Proofs.Ytbincfjaahjbiaa
