/-
  book: a key taken; a copy.
-/
import Derived.Test.YtmobpenjbaaicaaK8
namespace Go.Proofs.Ytmobpenjbaaicaa
open Go Go.RowKit X
set_option maxRecDepth 100000
set_option linter.unusedVariables false
set_option maxHeartbeats 1000000
def takeK (kv : List (Int × Int)) (k : Int) : List (Int × Int) := if hasK kv k then kv.eraseIdx (at' kv k) else kv
theorem takeK_old {kv : List (Int × Int)} {k : Int} (h : hasK kv k = true) : ks (takeK kv k) = (ks kv).eraseIdx (at' kv k) ∧ vs (takeK kv k) = (vs kv).eraseIdx (at' kv k) := by
  unfold takeK ks vs
  rw [h, if_pos rfl]
  simp only [List.eraseIdx_eq_take_drop_succ, List.map_append, List.map_take, List.map_drop, and_self]
theorem take_book_t (b : Nat) (kv : List (Int × Int)) (k : Int) : Tri P F.book_Book_int__int_Take [bptr b, .int .i64 k] [bookI b kv] fun r L' => r = .tuple [.int .i64 (getK kv k), .bool (hasK kv k)].toArray ∧ L' = [bookI b (takeK kv k)] := by
  intro w S hS
  refine book_Book_int__int_Take_cv ?_
  unfold book_Book_int__int_Take
  have H := Own.start hS
  refine call_p H (get_book_t b kv k) (by repeat (first | exact Cut.nil | (apply Cut.cons; (repeat (first | exact Pick.here | apply Pick.there))))) fun wx H => ?_
  refine ⟨_, _, rfl, join_o (cnd_i (fun h => ?_) fun h => ?_)⟩
  · obtain ⟨e1, e2⟩ := takeK_old h
    have hlt : at' kv k < kv.length := by
      have := of_decide_eq_true h
      have := (List.getElem?_eq_some_iff.1 this).1
      rw [ks_len] at this; exact this
    obtain ⟨p, c, q, c2, h1, h2, H⟩ := book_open H .here
    dsimp only [nn]
    repeat (first | refine ldI_o H (by repeat (first | exact Pick.here | apply Pick.there)) (by rfl) ?_ | refine ldL_o H (by repeat (first | exact Pick.here | apply Pick.there)) (by rfl) ?_ | refine ldB_o H (by repeat (first | exact Pick.here | apply Pick.there)) (by rfl) ?_ | refine ldP_o H (by repeat (first | exact Pick.here | apply Pick.there)) (by rfl) ?_ | refine ldS_o H (by repeat (first | exact Pick.here | apply Pick.there)) (by rfl) ?_)
    refine call_p H (search_t (nums p c (ks kv)) own_sl h1 (by rw [ks_len]; omega) k) (by repeat (first | exact Cut.nil | (apply Cut.cons; (repeat (first | exact Pick.here | apply Pick.there))))) fun wx H => ?_
    refine ⟨_, _, rfl, ?_⟩
    refine drw_o H fun wx H => ?_
    repeat (first | refine ldI_o H (by repeat (first | exact Pick.here | apply Pick.there)) (by rfl) ?_ | refine ldL_o H (by repeat (first | exact Pick.here | apply Pick.there)) (by rfl) ?_ | refine ldB_o H (by repeat (first | exact Pick.here | apply Pick.there)) (by rfl) ?_ | refine ldP_o H (by repeat (first | exact Pick.here | apply Pick.there)) (by rfl) ?_ | refine ldS_o H (by repeat (first | exact Pick.here | apply Pick.there)) (by rfl) ?_)
    have ew : IntKind.i64.wrap (((lb (ks kv) k : Nat) : Int) + 1) = ((at' kv k : Nat) : Int) + 1 := by
      rw [show lb (ks kv) k = at' kv k from rfl, W_id (by omega) (by omega)]
    rw [ew]
    refine call_o H (delete_t (p := p) (c := c) (xs := ks kv) (i := at' kv k) (by rw [ks_len]; exact hlt)) (by repeat (first | exact Cut.nil | (apply Cut.cons; (repeat (first | exact Pick.here | apply Pick.there))))) fun vx L' wx hq H => ?_
    obtain ⟨c3, rfl, rfl⟩ := hq
    simp only [List.cons_append, List.nil_append] at H
    refine ⟨_, _, _, rfl, ?_, ?_⟩
    · repeat (first | refine ldI_o H (by repeat (first | exact Pick.here | apply Pick.there)) (by rfl) ?_ | refine ldL_o H (by repeat (first | exact Pick.here | apply Pick.there)) (by rfl) ?_ | refine ldB_o H (by repeat (first | exact Pick.here | apply Pick.there)) (by rfl) ?_ | refine ldP_o H (by repeat (first | exact Pick.here | apply Pick.there)) (by rfl) ?_ | refine ldS_o H (by repeat (first | exact Pick.here | apply Pick.there)) (by rfl) ?_)
      rfl
    refine call_o H (delete_t (p := q) (c := c2) (xs := vs kv) (i := at' kv k) (by rw [vs_len]; exact hlt)) (by repeat (first | exact Cut.nil | (apply Cut.cons; (repeat (first | exact Pick.here | apply Pick.there))))) fun vx L' wx hq H => ?_
    obtain ⟨c4, rfl, rfl⟩ := hq
    simp only [List.cons_append, List.nil_append] at H
    refine ⟨_, _, _, rfl, ?_⟩
    refine st1_o H (by repeat (first | exact Rep.here | apply Rep.there)) (by simp) fun wx H => ?_
    refine st1_o H (by repeat (first | exact Rep.here | apply Rep.there)) (by simp) fun wx H => ?_
    simp only [List.set_cons_zero, List.set_cons_succ] at H
    show book_Book_int__int_Take_j0 _ _ _ _
    unfold book_Book_int__int_Take_j0
    refine ⟨_, ⟨rfl, rfl⟩, ?_⟩
    have H := H.drop (L1 := [row b [.slice p ((ks kv).eraseIdx (at' kv k)).length c3, .slice q ((vs kv).eraseIdx (at' kv k)).length c4] tBook, nums p c3 ((ks kv).eraseIdx (at' kv k)), nums q c4 ((vs kv).eraseIdx (at' kv k))]) (by repeat (first | exact Cut.nil | (apply Cut.cons; (repeat (first | exact Pick.here | apply Pick.there)))))
    rw [← e1, ← e2] at H
    have hl : (takeK kv k).length ≤ kv.length := by
      unfold takeK; rw [h, if_pos rfl, List.length_eraseIdx]; split <;> omega
    exact book_shut H (by rw [e1]; exact h1.sublist (List.eraseIdx_sublist _ _)) (by omega)
  · show book_Book_int__int_Take_j0 _ _ _ _
    unfold book_Book_int__int_Take_j0
    refine ⟨_, ⟨rfl, rfl⟩, ?_⟩
    have : takeK kv k = kv := by unfold takeK; rw [h]; rfl
    rw [this]
    exact H.drop (by repeat (first | exact Cut.nil | (apply Cut.cons; (repeat (first | exact Pick.here | apply Pick.there)))))
theorem copy_book_t (b : Nat) (kv : List (Int × Int)) : Tri P F.book_Book_int__int_Copy [bptr b] [bookI b kv] fun r L' => ∃ b', r = bptr b' ∧ L' = [bookI b' kv, bookI b kv] := by
  intro w S hS
  refine book_Book_int__int_Copy_cv ?_
  unfold book_Book_int__int_Copy
  have H := Own.start hS
  obtain ⟨p, c, q, c2, h1, h2, H⟩ := book_open H .here
  refine drw_o H fun wx H => ?_
  dsimp only [nn]
  repeat (first | refine ldI_o H (by repeat (first | exact Pick.here | apply Pick.there)) (by rfl) ?_ | refine ldL_o H (by repeat (first | exact Pick.here | apply Pick.there)) (by rfl) ?_ | refine ldB_o H (by repeat (first | exact Pick.here | apply Pick.there)) (by rfl) ?_ | refine ldP_o H (by repeat (first | exact Pick.here | apply Pick.there)) (by rfl) ?_ | refine ldS_o H (by repeat (first | exact Pick.here | apply Pick.there)) (by rfl) ?_)
  refine call_o H (clone_t (nums p c (ks kv)) own_sl (by rw [ks_len]; omega)) (by repeat (first | exact Cut.nil | (apply Cut.cons; (repeat (first | exact Pick.here | apply Pick.there))))) fun vx L' wx hq H => ?_
  obtain ⟨p1, c3, rfl, rfl⟩ := hq
  simp only [List.cons_append, List.nil_append] at H
  refine ⟨_, _, _, rfl, ?_, ?_⟩
  · repeat (first | refine ldI_o H (by repeat (first | exact Pick.here | apply Pick.there)) (by rfl) ?_ | refine ldL_o H (by repeat (first | exact Pick.here | apply Pick.there)) (by rfl) ?_ | refine ldB_o H (by repeat (first | exact Pick.here | apply Pick.there)) (by rfl) ?_ | refine ldP_o H (by repeat (first | exact Pick.here | apply Pick.there)) (by rfl) ?_ | refine ldS_o H (by repeat (first | exact Pick.here | apply Pick.there)) (by rfl) ?_)
    rfl
  refine call_o H (clone_t (nums q c2 (vs kv)) own_sl (by rw [vs_len]; omega)) (by repeat (first | exact Cut.nil | (apply Cut.cons; (repeat (first | exact Pick.here | apply Pick.there))))) fun vx L' wx hq H => ?_
  obtain ⟨q1, c4, rfl, rfl⟩ := hq
  simp only [List.cons_append, List.nil_append] at H
  refine ⟨_, _, _, rfl, alc_o H fun b24 wx H => ?_⟩
  refine ⟨_, ⟨b24, rfl, rfl⟩, ?_⟩
  have H := H.drop (L1 := [row b24 [.slice p1 (ks kv).length c3, .slice q1 (vs kv).length c4] tBook, nums p1 c3 (ks kv), nums q1 c4 (vs kv), row b [.slice p (ks kv).length c, .slice q (vs kv).length c2] tBook, nums p c (ks kv), nums q c2 (vs kv)]) (by repeat (first | exact Cut.nil | (apply Cut.cons; (repeat (first | exact Pick.here | apply Pick.there)))))
  have H := book_shut H h1 h2
  have H := own_comm (A := [bookI b24 kv]) H
  exact own_comm (A := [bookI b kv]) (B := [bookI b24 kv]) (book_shut H h1 h2)
end Go.Proofs.Ytmobpenjbaaicaa
