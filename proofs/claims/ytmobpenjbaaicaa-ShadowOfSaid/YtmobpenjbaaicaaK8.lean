/-
  book: a key put.
-/
import Derived.Test.YtmobpenjbaaicaaK7
namespace Go.Proofs.Ytmobpenjbaaicaa
open Go Go.RowKit X
set_option maxRecDepth 100000
set_option linter.unusedVariables false
set_option maxHeartbeats 1000000
def putK (kv : List (Int × Int)) (k v : Int) : List (Int × Int) := if hasK kv k then kv.set (at' kv k) (k, v) else kv.take (at' kv k) ++ (k, v) :: kv.drop (at' kv k)
theorem putK_new {kv : List (Int × Int)} {k v : Int} (h : hasK kv k = false) : ks (putK kv k v) = ins (ks kv) (at' kv k) k ∧ vs (putK kv k v) = ins (vs kv) (at' kv k) v := by
  unfold putK ks vs ins
  rw [h]
  simp
theorem putK_old {kv : List (Int × Int)} {k v : Int} (h : hasK kv k = true) : ks (putK kv k v) = ks kv ∧ vs (putK kv k v) = (vs kv).set (at' kv k) v := by
  have h1 : (ks kv)[at' kv k]? = some k := of_decide_eq_true h
  unfold putK
  rw [h, if_pos rfl]
  generalize at' kv k = i at *
  constructor
  · have e : ks (kv.set i (k, v)) = (ks kv).set i k := by simp [ks]
    rw [e]
    obtain ⟨hl, he⟩ := List.getElem?_eq_some_iff.1 h1
    have e2 : (ks kv).set i (ks kv)[i] = ks kv := List.set_getElem_self hl
    rw [he] at e2; exact e2
  · simp [vs]
theorem put_book_t (b : Nat) (kv : List (Int × Int)) (k v : Int) (hlen : kv.length + 1 < 800000) : Tri P F.book_Book_int__int_Put [bptr b, .int .i64 k, .int .i64 v] [bookI b kv] fun r L' => r = .bool (!hasK kv k) ∧ L' = [bookI b (putK kv k v)] := by
  intro w S hS
  refine book_Book_int__int_Put_cv ?_
  unfold book_Book_int__int_Put
  have H := Own.start hS
  obtain ⟨p, c, q, c2, h1, h2, H⟩ := book_open H .here
  dsimp only [nn]
  repeat (first | refine ldI_o H (by repeat (first | exact Pick.here | apply Pick.there)) (by rfl) ?_ | refine ldL_o H (by repeat (first | exact Pick.here | apply Pick.there)) (by rfl) ?_ | refine ldB_o H (by repeat (first | exact Pick.here | apply Pick.there)) (by rfl) ?_ | refine ldP_o H (by repeat (first | exact Pick.here | apply Pick.there)) (by rfl) ?_ | refine ldS_o H (by repeat (first | exact Pick.here | apply Pick.there)) (by rfl) ?_)
  refine call_p H (search_t (nums p c (ks kv)) own_sl h1 (by rw [ks_len]; omega) k) (by repeat (first | exact Cut.nil | (apply Cut.cons; (repeat (first | exact Pick.here | apply Pick.there))))) fun wx H => ?_
  have hile : at' kv k ≤ kv.length := by have := lb_le (k := k) (ks kv); rw [ks_len] at this; exact this
  refine ⟨_, _, rfl, cnd_i (fun h => ?_) fun h => join_o ?_⟩
  · have h : hasK kv k = true := h
    obtain ⟨e1, e2⟩ := putK_old (v := v) h
    have hlt : at' kv k < kv.length := by
      have := of_decide_eq_true h
      have := (List.getElem?_eq_some_iff.1 this).1
      rw [ks_len] at this; exact this
    repeat (first | refine ldI_o H (by repeat (first | exact Pick.here | apply Pick.there)) (by rfl) ?_ | refine ldL_o H (by repeat (first | exact Pick.here | apply Pick.there)) (by rfl) ?_ | refine ldB_o H (by repeat (first | exact Pick.here | apply Pick.there)) (by rfl) ?_ | refine ldP_o H (by repeat (first | exact Pick.here | apply Pick.there)) (by rfl) ?_ | refine ldS_o H (by repeat (first | exact Pick.here | apply Pick.there)) (by rfl) ?_)
    refine ⟨⟨by omega, by rw [vs_len]; show ((at' kv k : Nat) : Int) < _; exact_mod_cast hlt⟩, ?_⟩
    rw [Int.toNat_natCast]
    refine ost_o H (.there (.there .here)) (by rw [vs_len]; exact hlt) fun wx H => ?_
    rw [h]
    refine ⟨_, ⟨rfl, rfl⟩, ?_⟩
    have hl : (putK kv k v).length = kv.length := by unfold putK; rw [h, if_pos rfl, List.length_set]
    refine book_shut (p := p) (c := c) (q := q) (c2 := c2) ?_ (by rw [e1]; exact h1) (by omega)
    rw [e1, e2]
    unfold nums
    rw [List.length_set, ← i64s_set]
    exact H
  · have h : hasK kv k = false := h
    obtain ⟨e1, e2⟩ := putK_new (v := v) h
    have hn : (ks kv)[lb (ks kv) k]? ≠ some k := of_decide_eq_false h
    have hl : (putK kv k v).length = kv.length + 1 := by
      rw [← ks_len, e1, ins_len (by rw [ks_len]; exact hile), ks_len]
    have fin : ∀ (p1 q1 : Option Addr) (c3 c4 : Nat) (wx : World), X.Own w S [row b [.slice p1 (ins (ks kv) (at' kv k) k).length c3, .slice q1 (ins (vs kv) (at' kv k) v).length c4] tBook, nums p1 c3 (ins (ks kv) (at' kv k) k), nums q1 c4 (ins (vs kv) (at' kv k) v)] wx →
        book_Book_int__int_Put_j0 (fun r w' => ∃ L', (r = .bool (!hasK kv k) ∧ L' = [bookI b (putK kv k v)]) ∧ X.Own w S L' w') wx := by
      intro p1 q1 c3 c4 wx H
      unfold book_Book_int__int_Put_j0
      rw [h]
      refine ⟨_, ⟨rfl, rfl⟩, ?_⟩
      rw [← e1, ← e2] at H
      exact book_shut H (by rw [e1]; exact ins_up h1 hn) (by omega)
    have hk : at' kv k ≤ (ks kv).length := by rw [ks_len]; exact hile
    have hv : at' kv k ≤ (vs kv).length := by rw [vs_len]; exact hile
    refine drw_o H fun wx H => ?_
    repeat (first | refine ldI_o H (by repeat (first | exact Pick.here | apply Pick.there)) (by rfl) ?_ | refine ldL_o H (by repeat (first | exact Pick.here | apply Pick.there)) (by rfl) ?_ | refine ldB_o H (by repeat (first | exact Pick.here | apply Pick.there)) (by rfl) ?_ | refine ldP_o H (by repeat (first | exact Pick.here | apply Pick.there)) (by rfl) ?_ | refine ldS_o H (by repeat (first | exact Pick.here | apply Pick.there)) (by rfl) ?_)
    refine ⟨alc_o H fun b30 wx H => ⟨?_, ?_, ?_, alc_o H fun b63 wx H => ⟨?_, ?_, ?_⟩⟩, alc_o H fun b88 wx H => ⟨?_, ?_, alc_o H fun b96 wx H => ⟨?_, ?_, ?_⟩⟩⟩
    · repeat (first | refine ldI_o H (by repeat (first | exact Pick.here | apply Pick.there)) (by rfl) ?_ | refine ldL_o H (by repeat (first | exact Pick.here | apply Pick.there)) (by rfl) ?_ | refine ldB_o H (by repeat (first | exact Pick.here | apply Pick.there)) (by rfl) ?_ | refine ldP_o H (by repeat (first | exact Pick.here | apply Pick.there)) (by rfl) ?_ | refine ldS_o H (by repeat (first | exact Pick.here | apply Pick.there)) (by rfl) ?_)
      rfl
    · repeat (first | refine ldI_o H (by repeat (first | exact Pick.here | apply Pick.there)) (by rfl) ?_ | refine ldL_o H (by repeat (first | exact Pick.here | apply Pick.there)) (by rfl) ?_ | refine ldB_o H (by repeat (first | exact Pick.here | apply Pick.there)) (by rfl) ?_ | refine ldP_o H (by repeat (first | exact Pick.here | apply Pick.there)) (by rfl) ?_ | refine ldS_o H (by repeat (first | exact Pick.here | apply Pick.there)) (by rfl) ?_)
      rfl
    · skip
      refine call_o H (insert_t (p := p) (c := c) (vb := b30) (x := k) hk (by rw [ks_len]; omega)) (by repeat (first | exact Cut.nil | (apply Cut.cons; (repeat (first | exact Pick.here | apply Pick.there))))) fun vx L' wx hq H => ?_
      obtain ⟨p1, c3, rfl, rfl⟩ := hq
      simp only [List.cons_append, List.nil_append] at H
      refine ⟨_, _, _, rfl, ?_, alc_o H fun b46 wx H => ⟨?_, ?_, ?_⟩⟩
      · repeat (first | refine ldI_o H (by repeat (first | exact Pick.here | apply Pick.there)) (by rfl) ?_ | refine ldL_o H (by repeat (first | exact Pick.here | apply Pick.there)) (by rfl) ?_ | refine ldB_o H (by repeat (first | exact Pick.here | apply Pick.there)) (by rfl) ?_ | refine ldP_o H (by repeat (first | exact Pick.here | apply Pick.there)) (by rfl) ?_ | refine ldS_o H (by repeat (first | exact Pick.here | apply Pick.there)) (by rfl) ?_)
        rfl
      · repeat (first | refine ldI_o H (by repeat (first | exact Pick.here | apply Pick.there)) (by rfl) ?_ | refine ldL_o H (by repeat (first | exact Pick.here | apply Pick.there)) (by rfl) ?_ | refine ldB_o H (by repeat (first | exact Pick.here | apply Pick.there)) (by rfl) ?_ | refine ldP_o H (by repeat (first | exact Pick.here | apply Pick.there)) (by rfl) ?_ | refine ldS_o H (by repeat (first | exact Pick.here | apply Pick.there)) (by rfl) ?_)
        rfl
      · repeat (first | refine ldI_o H (by repeat (first | exact Pick.here | apply Pick.there)) (by rfl) ?_ | refine ldL_o H (by repeat (first | exact Pick.here | apply Pick.there)) (by rfl) ?_ | refine ldB_o H (by repeat (first | exact Pick.here | apply Pick.there)) (by rfl) ?_ | refine ldP_o H (by repeat (first | exact Pick.here | apply Pick.there)) (by rfl) ?_ | refine ldS_o H (by repeat (first | exact Pick.here | apply Pick.there)) (by rfl) ?_)
        rfl
      refine call_o H (insert_t (p := q) (c := c2) (vb := b46) (x := v) hv (by rw [vs_len]; omega)) (by repeat (first | exact Cut.nil | (apply Cut.cons; (repeat (first | exact Pick.here | apply Pick.there))))) fun vx L' wx hq H => ?_
      obtain ⟨q1, c4, rfl, rfl⟩ := hq
      simp only [List.cons_append, List.nil_append] at H
      refine ⟨_, _, _, rfl, ?_⟩
      dsimp only [nn]
      refine st1_o H (by repeat (first | exact Rep.here | apply Rep.there)) (by simp) fun wx H => ?_
      refine st1_o H (by repeat (first | exact Rep.here | apply Rep.there)) (by simp) fun wx H => ?_
      simp only [List.set_cons_zero, List.set_cons_succ] at H
      exact fin p1 q1 c3 c4 _ (H.drop (by repeat (first | exact Cut.nil | (apply Cut.cons; (repeat (first | exact Pick.here | apply Pick.there))))))
    · repeat (first | refine ldI_o H (by repeat (first | exact Pick.here | apply Pick.there)) (by rfl) ?_ | refine ldL_o H (by repeat (first | exact Pick.here | apply Pick.there)) (by rfl) ?_ | refine ldB_o H (by repeat (first | exact Pick.here | apply Pick.there)) (by rfl) ?_ | refine ldP_o H (by repeat (first | exact Pick.here | apply Pick.there)) (by rfl) ?_ | refine ldS_o H (by repeat (first | exact Pick.here | apply Pick.there)) (by rfl) ?_)
      rfl
    · repeat (first | refine ldI_o H (by repeat (first | exact Pick.here | apply Pick.there)) (by rfl) ?_ | refine ldL_o H (by repeat (first | exact Pick.here | apply Pick.there)) (by rfl) ?_ | refine ldB_o H (by repeat (first | exact Pick.here | apply Pick.there)) (by rfl) ?_ | refine ldP_o H (by repeat (first | exact Pick.here | apply Pick.there)) (by rfl) ?_ | refine ldS_o H (by repeat (first | exact Pick.here | apply Pick.there)) (by rfl) ?_)
      rfl
    · skip
      refine call_o H (insert_t (p := p) (c := c) (vb := b30) (x := k) hk (by rw [ks_len]; omega)) (by repeat (first | exact Cut.nil | (apply Cut.cons; (repeat (first | exact Pick.here | apply Pick.there))))) fun vx L' wx hq H => ?_
      obtain ⟨p1, c3, rfl, rfl⟩ := hq
      simp only [List.cons_append, List.nil_append] at H
      refine ⟨_, _, _, rfl, ?_, ?_⟩
      · repeat (first | refine ldI_o H (by repeat (first | exact Pick.here | apply Pick.there)) (by rfl) ?_ | refine ldL_o H (by repeat (first | exact Pick.here | apply Pick.there)) (by rfl) ?_ | refine ldB_o H (by repeat (first | exact Pick.here | apply Pick.there)) (by rfl) ?_ | refine ldP_o H (by repeat (first | exact Pick.here | apply Pick.there)) (by rfl) ?_ | refine ldS_o H (by repeat (first | exact Pick.here | apply Pick.there)) (by rfl) ?_)
        rfl
      refine call_o H (insert_t (p := q) (c := c2) (vb := b63) (x := v) hv (by rw [vs_len]; omega)) (by repeat (first | exact Cut.nil | (apply Cut.cons; (repeat (first | exact Pick.here | apply Pick.there))))) fun vx L' wx hq H => ?_
      obtain ⟨q1, c4, rfl, rfl⟩ := hq
      simp only [List.cons_append, List.nil_append] at H
      refine ⟨_, _, _, rfl, ?_⟩
      dsimp only [nn]
      refine st1_o H (by repeat (first | exact Rep.here | apply Rep.there)) (by simp) fun wx H => ?_
      refine st1_o H (by repeat (first | exact Rep.here | apply Rep.there)) (by simp) fun wx H => ?_
      simp only [List.set_cons_zero, List.set_cons_succ] at H
      exact fin p1 q1 c3 c4 _ (H.drop (by repeat (first | exact Cut.nil | (apply Cut.cons; (repeat (first | exact Pick.here | apply Pick.there))))))
    · repeat (first | refine ldI_o H (by repeat (first | exact Pick.here | apply Pick.there)) (by rfl) ?_ | refine ldL_o H (by repeat (first | exact Pick.here | apply Pick.there)) (by rfl) ?_ | refine ldB_o H (by repeat (first | exact Pick.here | apply Pick.there)) (by rfl) ?_ | refine ldP_o H (by repeat (first | exact Pick.here | apply Pick.there)) (by rfl) ?_ | refine ldS_o H (by repeat (first | exact Pick.here | apply Pick.there)) (by rfl) ?_)
      rfl
    · repeat (first | refine ldI_o H (by repeat (first | exact Pick.here | apply Pick.there)) (by rfl) ?_ | refine ldL_o H (by repeat (first | exact Pick.here | apply Pick.there)) (by rfl) ?_ | refine ldB_o H (by repeat (first | exact Pick.here | apply Pick.there)) (by rfl) ?_ | refine ldP_o H (by repeat (first | exact Pick.here | apply Pick.there)) (by rfl) ?_ | refine ldS_o H (by repeat (first | exact Pick.here | apply Pick.there)) (by rfl) ?_)
      rfl
    · repeat (first | refine ldI_o H (by repeat (first | exact Pick.here | apply Pick.there)) (by rfl) ?_ | refine ldL_o H (by repeat (first | exact Pick.here | apply Pick.there)) (by rfl) ?_ | refine ldB_o H (by repeat (first | exact Pick.here | apply Pick.there)) (by rfl) ?_ | refine ldP_o H (by repeat (first | exact Pick.here | apply Pick.there)) (by rfl) ?_ | refine ldS_o H (by repeat (first | exact Pick.here | apply Pick.there)) (by rfl) ?_)
      rfl
    · repeat (first | refine ldI_o H (by repeat (first | exact Pick.here | apply Pick.there)) (by rfl) ?_ | refine ldL_o H (by repeat (first | exact Pick.here | apply Pick.there)) (by rfl) ?_ | refine ldB_o H (by repeat (first | exact Pick.here | apply Pick.there)) (by rfl) ?_ | refine ldP_o H (by repeat (first | exact Pick.here | apply Pick.there)) (by rfl) ?_ | refine ldS_o H (by repeat (first | exact Pick.here | apply Pick.there)) (by rfl) ?_)
      rfl
    · skip
      refine call_o H (insert_t (p := p) (c := c) (vb := b96) (x := k) hk (by rw [ks_len]; omega)) (by repeat (first | exact Cut.nil | (apply Cut.cons; (repeat (first | exact Pick.here | apply Pick.there))))) fun vx L' wx hq H => ?_
      obtain ⟨p1, c3, rfl, rfl⟩ := hq
      simp only [List.cons_append, List.nil_append] at H
      refine ⟨_, _, _, rfl, ?_, ?_⟩
      · repeat (first | refine ldI_o H (by repeat (first | exact Pick.here | apply Pick.there)) (by rfl) ?_ | refine ldL_o H (by repeat (first | exact Pick.here | apply Pick.there)) (by rfl) ?_ | refine ldB_o H (by repeat (first | exact Pick.here | apply Pick.there)) (by rfl) ?_ | refine ldP_o H (by repeat (first | exact Pick.here | apply Pick.there)) (by rfl) ?_ | refine ldS_o H (by repeat (first | exact Pick.here | apply Pick.there)) (by rfl) ?_)
        rfl
      refine call_o H (insert_t (p := q) (c := c2) (vb := b88) (x := v) hv (by rw [vs_len]; omega)) (by repeat (first | exact Cut.nil | (apply Cut.cons; (repeat (first | exact Pick.here | apply Pick.there))))) fun vx L' wx hq H => ?_
      obtain ⟨q1, c4, rfl, rfl⟩ := hq
      simp only [List.cons_append, List.nil_append] at H
      refine ⟨_, _, _, rfl, ?_⟩
      dsimp only [nn]
      refine st1_o H (by repeat (first | exact Rep.here | apply Rep.there)) (by simp) fun wx H => ?_
      refine st1_o H (by repeat (first | exact Rep.here | apply Rep.there)) (by simp) fun wx H => ?_
      simp only [List.set_cons_zero, List.set_cons_succ] at H
      exact fin p1 q1 c3 c4 _ (H.drop (by repeat (first | exact Cut.nil | (apply Cut.cons; (repeat (first | exact Pick.here | apply Pick.there))))))
end Go.Proofs.Ytmobpenjbaaicaa
