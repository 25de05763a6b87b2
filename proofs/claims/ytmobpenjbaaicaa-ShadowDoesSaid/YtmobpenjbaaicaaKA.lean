/-
  book: values by keys, as a list that rises by its keys.
-/
import Derived.Test.YtmobpenjbaaicaaK5
namespace Go.Proofs.Ytmobpenjbaaicaa
open Go Go.RowKit X
set_option maxRecDepth 100000
set_option linter.unusedVariables false
def ks (kv : List (Int × Int)) : List Int := kv.map (·.1)
def vs (kv : List (Int × Int)) : List Int := kv.map (·.2)
theorem ks_len (kv : List (Int × Int)) : (ks kv).length = kv.length := by simp [ks]
theorem vs_len (kv : List (Int × Int)) : (vs kv).length = kv.length := by simp [vs]
abbrev bookRows (b : Nat) (kv : List (Int × Int)) (a : (Option Addr × Nat) × (Option Addr × Nat)) : List It := [row b [.slice a.1.1 (ks kv).length a.1.2, .slice a.2.1 (vs kv).length a.2.2] tBook, nums a.1.1 a.1.2 (ks kv), nums a.2.1 a.2.2 (vs kv)]
def bookI (b : Nat) (kv : List (Int × Int)) : It := exI (fun a : (Option Addr × Nat) × (Option Addr × Nat) => (ks kv).Pairwise (· < ·) ∧ kv.length < 800000) (bookRows b kv)
section
variable {w w0 : World} {S0 : Nat → Prop}
theorem book_open {L F : List It} {b : Nat} {kv : List (Int × Int)} (H : X.Own w0 S0 L w) (hp : Pick L (bookI b kv) F) : ∃ p c q c2, (ks kv).Pairwise (· < ·) ∧ kv.length < 800000 ∧ X.Own w0 S0 (row b [.slice p (ks kv).length c, .slice q (vs kv).length c2] tBook :: nums p c (ks kv) :: nums q c2 (vs kv) :: F) w := by
  obtain ⟨⟨⟨p, c⟩, q, c2⟩, ⟨h1, h2⟩, H⟩ := ex_open H hp
  exact ⟨p, c, q, c2, h1, h2, H⟩
theorem book_shut {F : List It} {b c c2 : Nat} {p q : Option Addr} {kv : List (Int × Int)} (H : X.Own w0 S0 (row b [.slice p (ks kv).length c, .slice q (vs kv).length c2] tBook :: nums p c (ks kv) :: nums q c2 (vs kv) :: F) w) (h1 : (ks kv).Pairwise (· < ·)) (h2 : kv.length < 800000) : X.Own w0 S0 (bookI b kv :: F) w :=
  ex_shut (f := bookRows b kv) ((p, c), (q, c2)) ⟨h1, h2⟩ H
end
def bptr (b : Nat) : Value := .pointer (some ⟨b, 0, none⟩)
/-- where a key stands, or would -/
def at' (kv : List (Int × Int)) (k : Int) : Nat := lb (ks kv) k
def hasK (kv : List (Int × Int)) (k : Int) : Bool := decide ((ks kv)[at' kv k]? = some k)
def getK (kv : List (Int × Int)) (k : Int) : Int := if hasK kv k then (vs kv).getD (at' kv k) 0 else 0
theorem new_book_t : Tri P F.book_New_int_int [] [] fun v L' => ∃ b, v = bptr b ∧ L' = [bookI b []] := by
  intro w S hS
  refine book_New_int_int_cv ?_
  unfold book_New_int_int
  have H := Own.start hS
  refine alc_o H fun b1 wx H => ?_
  have H := own_nil (e := tInt) (size := 1) H
  have H := own_nil (e := tInt) (size := 1) H
  have H := H.perm (L1 := [row b1 [.slice none 0 0, .slice none 0 0] tBook, own tInt 1 (.slice none 0 0) 0 [], own tInt 1 (.slice none 0 0) 0 []]) (F := []) (.cons (.there (.there .here)) (.cons .here (.cons .here .nil)))
  exact ⟨_, ⟨b1, rfl, rfl⟩, book_shut (kv := []) H List.Pairwise.nil (by simp)⟩
theorem len_book_t (b : Nat) (kv : List (Int × Int)) : Tri P F.book_Book_int__int_Len [bptr b] [bookI b kv] fun v L' => v = .int .i64 kv.length ∧ L' = [bookI b kv] := by
  intro w S hS
  refine book_Book_int__int_Len_cv ?_
  unfold book_Book_int__int_Len
  have H := Own.start hS
  obtain ⟨p, c, q, c2, h1, h2, H⟩ := book_open H .here
  dsimp only [nn]
  repeat (first | refine ldI_o H (by repeat (first | exact Pick.here | apply Pick.there)) (by rfl) ?_ | refine ldL_o H (by repeat (first | exact Pick.here | apply Pick.there)) (by rfl) ?_ | refine ldB_o H (by repeat (first | exact Pick.here | apply Pick.there)) (by rfl) ?_ | refine ldP_o H (by repeat (first | exact Pick.here | apply Pick.there)) (by rfl) ?_ | refine ldS_o H (by repeat (first | exact Pick.here | apply Pick.there)) (by rfl) ?_)
  exact ⟨_, ⟨by rw [ks_len], rfl⟩, book_shut H h1 h2⟩
theorem has_book_t (b : Nat) (kv : List (Int × Int)) (k : Int) : Tri P F.book_Book_int__int_Has [bptr b, .int .i64 k] [bookI b kv] fun v L' => v = .bool (hasK kv k) ∧ L' = [bookI b kv] := by
  intro w S hS
  refine book_Book_int__int_Has_cv ?_
  unfold book_Book_int__int_Has
  have H := Own.start hS
  obtain ⟨p, c, q, c2, h1, h2, H⟩ := book_open H .here
  dsimp only [nn]
  repeat (first | refine ldI_o H (by repeat (first | exact Pick.here | apply Pick.there)) (by rfl) ?_ | refine ldL_o H (by repeat (first | exact Pick.here | apply Pick.there)) (by rfl) ?_ | refine ldB_o H (by repeat (first | exact Pick.here | apply Pick.there)) (by rfl) ?_ | refine ldP_o H (by repeat (first | exact Pick.here | apply Pick.there)) (by rfl) ?_ | refine ldS_o H (by repeat (first | exact Pick.here | apply Pick.there)) (by rfl) ?_)
  refine call_p H (search_t (nums p c (ks kv)) own_sl h1 (by rw [ks_len]; omega) k) (by repeat (first | exact Cut.nil | (apply Cut.cons; (repeat (first | exact Pick.here | apply Pick.there))))) fun wx H => ?_
  exact ⟨_, _, rfl, _, ⟨rfl, rfl⟩, book_shut H h1 h2⟩
theorem get_book_t (b : Nat) (kv : List (Int × Int)) (k : Int) : Tri P F.book_Book_int__int_Get [bptr b, .int .i64 k] [bookI b kv] fun v L' => v = .tuple [.int .i64 (getK kv k), .bool (hasK kv k)].toArray ∧ L' = [bookI b kv] := by
  intro w S hS
  refine book_Book_int__int_Get_cv ?_
  unfold book_Book_int__int_Get
  have H := Own.start hS
  obtain ⟨p, c, q, c2, h1, h2, H⟩ := book_open H .here
  dsimp only [nn]
  repeat (first | refine ldI_o H (by repeat (first | exact Pick.here | apply Pick.there)) (by rfl) ?_ | refine ldL_o H (by repeat (first | exact Pick.here | apply Pick.there)) (by rfl) ?_ | refine ldB_o H (by repeat (first | exact Pick.here | apply Pick.there)) (by rfl) ?_ | refine ldP_o H (by repeat (first | exact Pick.here | apply Pick.there)) (by rfl) ?_ | refine ldS_o H (by repeat (first | exact Pick.here | apply Pick.there)) (by rfl) ?_)
  refine call_p H (search_t (nums p c (ks kv)) own_sl h1 (by rw [ks_len]; omega) k) (by repeat (first | exact Cut.nil | (apply Cut.cons; (repeat (first | exact Pick.here | apply Pick.there))))) fun wx H => ?_
  refine ⟨_, _, rfl, cnd_i (fun h => ?_) fun h => ?_⟩
  · have h : hasK kv k = false := by rw [Bool.not_eq_true'] at h; exact h
    exact ⟨_, ⟨by rw [getK, h]; rfl, rfl⟩, book_shut H h1 h2⟩
  · have h : hasK kv k = true := by rw [Bool.not_eq_false'] at h; exact h
    have hlt : at' kv k < kv.length := by
      have := of_decide_eq_true h
      have := (List.getElem?_eq_some_iff.1 this).1
      rw [ks_len] at this; exact this
    have hv : at' kv k < (vs kv).length := by rw [vs_len]; exact hlt
    repeat (first | refine ldI_o H (by repeat (first | exact Pick.here | apply Pick.there)) (by rfl) ?_ | refine ldL_o H (by repeat (first | exact Pick.here | apply Pick.there)) (by rfl) ?_ | refine ldB_o H (by repeat (first | exact Pick.here | apply Pick.there)) (by rfl) ?_ | refine ldP_o H (by repeat (first | exact Pick.here | apply Pick.there)) (by rfl) ?_ | refine ldS_o H (by repeat (first | exact Pick.here | apply Pick.there)) (by rfl) ?_)
    refine ⟨⟨by omega, by show ((lb (ks kv) k : Nat) : Int) < _; exact_mod_cast hv⟩, ?_⟩
    rw [Int.toNat_natCast]
    refine old_o H (.there (.there .here)) (i64s_get hv) ?_
    refine ⟨_, ⟨?_, rfl⟩, book_shut H h1 h2⟩
    rw [getK, h, if_pos rfl, List.getD_eq_getElem?_getD, List.getElem?_eq_getElem hv]; rfl
end Go.Proofs.Ytmobpenjbaaicaa
/-
  book: a key put, a key taken.
-/
namespace Go.Proofs.Ytmobpenjbaaicaa
open Go Go.RowKit X
set_option maxRecDepth 100000
set_option linter.unusedVariables false
theorem lb_cons (y : Int) (r : List Int) (k : Int) : lb (y :: r) k = if y < k then lb r k + 1 else 0 := by
  unfold lb
  rw [List.takeWhile_cons]
  by_cases h : y < k <;> simp [h]
theorem lb_le {k : Int} : ∀ (xs : List Int), lb xs k ≤ xs.length
  | [] => Nat.le_refl _
  | y :: r => by rw [lb_cons]; have := lb_le (k := k) r; split <;> simp only [List.length_cons] <;> omega
theorem lb_lt {k x : Int} : ∀ {xs : List Int} {t : Nat}, t < lb xs k → xs[t]? = some x → x < k
  | [], t, h, hx => by cases hx
  | y :: r, t, h, hx => by
    rw [lb_cons] at h
    split at h
    · rename_i hy
      cases t with
      | zero => cases hx; exact hy
      | succ t => exact lb_lt (xs := r) (t := t) (by omega) (by simpa using hx)
    · omega
theorem lb_ge {k x : Int} : ∀ {xs : List Int} {t : Nat}, xs.Pairwise (· < ·) → lb xs k ≤ t → xs[t]? = some x → ¬ x < k
  | [], t, _, h, hx => by cases hx
  | y :: r, t, hs, h, hx => by
    obtain ⟨h1, h2⟩ := List.pairwise_cons.1 hs
    rw [lb_cons] at h
    split at h
    · cases t with
      | zero => omega
      | succ t => exact lb_ge (xs := r) (t := t) h2 (by omega) (by simpa using hx)
    · rename_i hy
      cases t with
      | zero => cases hx; exact hy
      | succ t =>
        have := h1 x (List.mem_of_getElem? (by simpa using hx))
        omega
theorem lb_gt {k x : Int} {xs : List Int} (hs : xs.Pairwise (· < ·)) (hn : xs[lb xs k]? ≠ some k) (hx : x ∈ xs.drop (lb xs k)) : k < x := by
  obtain ⟨j, hj⟩ := List.mem_iff_getElem?.1 hx
  rw [List.getElem?_drop] at hj
  have h1 := lb_ge (k := k) hs (show lb xs k ≤ lb xs k + j by omega) hj
  have hlt := (List.getElem?_eq_some_iff.1 hj).1
  by_cases e : x = k
  · exfalso
    subst e
    by_cases h0 : j = 0
    · subst h0; exact hn hj
    · have hl : lb xs x < xs.length := by omega
      have h2 := lb_ge hs (Nat.le_refl _) (List.getElem?_eq_getElem hl)
      have h3 := List.pairwise_iff_getElem.1 hs (lb xs x) (lb xs x + j) hl hlt (by omega)
      rw [(List.getElem?_eq_some_iff.1 hj).2] at h3
      exact h2 h3
  · omega
theorem ins_up {k : Int} {xs : List Int} (hs : xs.Pairwise (· < ·)) (hn : xs[lb xs k]? ≠ some k) : (ins xs (lb xs k) k).Pairwise (· < ·) := by
  have ha : ∀ a ∈ xs.take (lb xs k), a < k := by
    intro a h
    obtain ⟨t, ht⟩ := List.mem_iff_getElem?.1 h
    rw [List.getElem?_take] at ht
    split at ht
    · exact lb_lt (by assumption) ht
    · cases ht
  unfold ins
  refine List.pairwise_append.2 ⟨hs.sublist (List.take_sublist _ _), List.pairwise_cons.2 ⟨fun x hx => lb_gt hs hn hx, hs.sublist (List.drop_sublist _ _)⟩, fun a h b hb => ?_⟩
  rcases List.mem_cons.1 hb with rfl | hb
  · exact ha a h
  · have := ha a h
    have := lb_gt hs hn hb
    omega
end Go.Proofs.Ytmobpenjbaaicaa
/-
  book: a key put.
-/
namespace Go.Proofs.Ytmobpenjbaaicaa
open Go Go.RowKit X
set_option maxRecDepth 100000
set_option linter.unusedVariables false
set_option maxHeartbeats 1000000
def putK (kv : List (Int × Int)) (k v : Int) : List (Int × Int) := if hasK kv k then kv.set (at' kv k) (k, v) else kv.take (at' kv k) ++ (k, v) :: kv.drop (at' kv k)
theorem putK_new {kv : List (Int × Int)} {k v : Int} (h : hasK kv k = false) : ks (putK kv k v) = ins (ks kv) (at' kv k) k ∧ vs (putK kv k v) = ins (vs kv) (at' kv k) v := by
  unfold putK ks vs ins
  rw [h]
  simp
theorem putK_old {kv : List (Int × Int)} {k v : Int} (h : hasK kv k = true) : ks (putK kv k v) = ks kv ∧ vs (putK kv k v) = (vs kv).set (at' kv k) v := by
  have h1 : (ks kv)[at' kv k]? = some k := of_decide_eq_true h
  unfold putK
  rw [h, if_pos rfl]
  generalize at' kv k = i at *
  constructor
  · have e : ks (kv.set i (k, v)) = (ks kv).set i k := by simp [ks]
    rw [e]
    obtain ⟨hl, he⟩ := List.getElem?_eq_some_iff.1 h1
    have e2 : (ks kv).set i (ks kv)[i] = ks kv := List.set_getElem_self hl
    rw [he] at e2; exact e2
  · simp [vs]
theorem put_book_t (b : Nat) (kv : List (Int × Int)) (k v : Int) (hlen : kv.length + 1 < 800000) : Tri P F.book_Book_int__int_Put [bptr b, .int .i64 k, .int .i64 v] [bookI b kv] fun r L' => r = .bool (!hasK kv k) ∧ L' = [bookI b (putK kv k v)] := by
  intro w S hS
  refine book_Book_int__int_Put_cv ?_
  unfold book_Book_int__int_Put
  have H := Own.start hS
  obtain ⟨p, c, q, c2, h1, h2, H⟩ := book_open H .here
  dsimp only [nn]
  repeat (first | refine ldI_o H (by repeat (first | exact Pick.here | apply Pick.there)) (by rfl) ?_ | refine ldL_o H (by repeat (first | exact Pick.here | apply Pick.there)) (by rfl) ?_ | refine ldB_o H (by repeat (first | exact Pick.here | apply Pick.there)) (by rfl) ?_ | refine ldP_o H (by repeat (first | exact Pick.here | apply Pick.there)) (by rfl) ?_ | refine ldS_o H (by repeat (first | exact Pick.here | apply Pick.there)) (by rfl) ?_)
  refine call_p H (search_t (nums p c (ks kv)) own_sl h1 (by rw [ks_len]; omega) k) (by repeat (first | exact Cut.nil | (apply Cut.cons; (repeat (first | exact Pick.here | apply Pick.there))))) fun wx H => ?_
  have hile : at' kv k ≤ kv.length := by have := lb_le (k := k) (ks kv); rw [ks_len] at this; exact this
  refine ⟨_, _, rfl, cnd_i (fun h => ?_) fun h => join_o ?_⟩
  · have h : hasK kv k = true := h
    obtain ⟨e1, e2⟩ := putK_old (v := v) h
    have hlt : at' kv k < kv.length := by
      have := of_decide_eq_true h
      have := (List.getElem?_eq_some_iff.1 this).1
      rw [ks_len] at this; exact this
    repeat (first | refine ldI_o H (by repeat (first | exact Pick.here | apply Pick.there)) (by rfl) ?_ | refine ldL_o H (by repeat (first | exact Pick.here | apply Pick.there)) (by rfl) ?_ | refine ldB_o H (by repeat (first | exact Pick.here | apply Pick.there)) (by rfl) ?_ | refine ldP_o H (by repeat (first | exact Pick.here | apply Pick.there)) (by rfl) ?_ | refine ldS_o H (by repeat (first | exact Pick.here | apply Pick.there)) (by rfl) ?_)
    refine ⟨⟨by omega, by rw [vs_len]; show ((at' kv k : Nat) : Int) < _; exact_mod_cast hlt⟩, ?_⟩
    rw [Int.toNat_natCast]
    refine ost_o H (.there (.there .here)) (by rw [vs_len]; exact hlt) fun wx H => ?_
    rw [h]
    refine ⟨_, ⟨rfl, rfl⟩, ?_⟩
    have hl : (putK kv k v).length = kv.length := by unfold putK; rw [h, if_pos rfl, List.length_set]
    refine book_shut (p := p) (c := c) (q := q) (c2 := c2) ?_ (by rw [e1]; exact h1) (by omega)
    rw [e1, e2]
    unfold nums
    rw [List.length_set, ← i64s_set]
    exact H
  · have h : hasK kv k = false := h
    obtain ⟨e1, e2⟩ := putK_new (v := v) h
    have hn : (ks kv)[lb (ks kv) k]? ≠ some k := of_decide_eq_false h
    have hl : (putK kv k v).length = kv.length + 1 := by
      rw [← ks_len, e1, ins_len (by rw [ks_len]; exact hile), ks_len]
    have fin : ∀ (p1 q1 : Option Addr) (c3 c4 : Nat) (wx : World), X.Own w S [row b [.slice p1 (ins (ks kv) (at' kv k) k).length c3, .slice q1 (ins (vs kv) (at' kv k) v).length c4] tBook, nums p1 c3 (ins (ks kv) (at' kv k) k), nums q1 c4 (ins (vs kv) (at' kv k) v)] wx →
        book_Book_int__int_Put_j0 (fun r w' => ∃ L', (r = .bool (!hasK kv k) ∧ L' = [bookI b (putK kv k v)]) ∧ X.Own w S L' w') wx := by
      intro p1 q1 c3 c4 wx H
      unfold book_Book_int__int_Put_j0
      rw [h]
      refine ⟨_, ⟨rfl, rfl⟩, ?_⟩
      rw [← e1, ← e2] at H
      exact book_shut H (by rw [e1]; exact ins_up h1 hn) (by omega)
    have hk : at' kv k ≤ (ks kv).length := by rw [ks_len]; exact hile
    have hv : at' kv k ≤ (vs kv).length := by rw [vs_len]; exact hile
    refine drw_o H fun wx H => ?_
    repeat (first | refine ldI_o H (by repeat (first | exact Pick.here | apply Pick.there)) (by rfl) ?_ | refine ldL_o H (by repeat (first | exact Pick.here | apply Pick.there)) (by rfl) ?_ | refine ldB_o H (by repeat (first | exact Pick.here | apply Pick.there)) (by rfl) ?_ | refine ldP_o H (by repeat (first | exact Pick.here | apply Pick.there)) (by rfl) ?_ | refine ldS_o H (by repeat (first | exact Pick.here | apply Pick.there)) (by rfl) ?_)
    refine ⟨alc_o H fun b30 wx H => ⟨?_, ?_, ?_, alc_o H fun b63 wx H => ⟨?_, ?_, ?_⟩⟩, alc_o H fun b88 wx H => ⟨?_, ?_, alc_o H fun b96 wx H => ⟨?_, ?_, ?_⟩⟩⟩
    · repeat (first | refine ldI_o H (by repeat (first | exact Pick.here | apply Pick.there)) (by rfl) ?_ | refine ldL_o H (by repeat (first | exact Pick.here | apply Pick.there)) (by rfl) ?_ | refine ldB_o H (by repeat (first | exact Pick.here | apply Pick.there)) (by rfl) ?_ | refine ldP_o H (by repeat (first | exact Pick.here | apply Pick.there)) (by rfl) ?_ | refine ldS_o H (by repeat (first | exact Pick.here | apply Pick.there)) (by rfl) ?_)
      rfl
    · repeat (first | refine ldI_o H (by repeat (first | exact Pick.here | apply Pick.there)) (by rfl) ?_ | refine ldL_o H (by repeat (first | exact Pick.here | apply Pick.there)) (by rfl) ?_ | refine ldB_o H (by repeat (first | exact Pick.here | apply Pick.there)) (by rfl) ?_ | refine ldP_o H (by repeat (first | exact Pick.here | apply Pick.there)) (by rfl) ?_ | refine ldS_o H (by repeat (first | exact Pick.here | apply Pick.there)) (by rfl) ?_)
      rfl
    · skip
      refine call_o H (insert_t (p := p) (c := c) (vb := b30) (x := k) hk (by rw [ks_len]; omega)) (by repeat (first | exact Cut.nil | (apply Cut.cons; (repeat (first | exact Pick.here | apply Pick.there))))) fun vx L' wx hq H => ?_
      obtain ⟨p1, c3, rfl, rfl⟩ := hq
      simp only [List.cons_append, List.nil_append] at H
      refine ⟨_, _, _, rfl, ?_, alc_o H fun b46 wx H => ⟨?_, ?_, ?_⟩⟩
      · repeat (first | refine ldI_o H (by repeat (first | exact Pick.here | apply Pick.there)) (by rfl) ?_ | refine ldL_o H (by repeat (first | exact Pick.here | apply Pick.there)) (by rfl) ?_ | refine ldB_o H (by repeat (first | exact Pick.here | apply Pick.there)) (by rfl) ?_ | refine ldP_o H (by repeat (first | exact Pick.here | apply Pick.there)) (by rfl) ?_ | refine ldS_o H (by repeat (first | exact Pick.here | apply Pick.there)) (by rfl) ?_)
        rfl
      · repeat (first | refine ldI_o H (by repeat (first | exact Pick.here | apply Pick.there)) (by rfl) ?_ | refine ldL_o H (by repeat (first | exact Pick.here | apply Pick.there)) (by rfl) ?_ | refine ldB_o H (by repeat (first | exact Pick.here | apply Pick.there)) (by rfl) ?_ | refine ldP_o H (by repeat (first | exact Pick.here | apply Pick.there)) (by rfl) ?_ | refine ldS_o H (by repeat (first | exact Pick.here | apply Pick.there)) (by rfl) ?_)
        rfl
      · repeat (first | refine ldI_o H (by repeat (first | exact Pick.here | apply Pick.there)) (by rfl) ?_ | refine ldL_o H (by repeat (first | exact Pick.here | apply Pick.there)) (by rfl) ?_ | refine ldB_o H (by repeat (first | exact Pick.here | apply Pick.there)) (by rfl) ?_ | refine ldP_o H (by repeat (first | exact Pick.here | apply Pick.there)) (by rfl) ?_ | refine ldS_o H (by repeat (first | exact Pick.here | apply Pick.there)) (by rfl) ?_)
        rfl
      refine call_o H (insert_t (p := q) (c := c2) (vb := b46) (x := v) hv (by rw [vs_len]; omega)) (by repeat (first | exact Cut.nil | (apply Cut.cons; (repeat (first | exact Pick.here | apply Pick.there))))) fun vx L' wx hq H => ?_
      obtain ⟨q1, c4, rfl, rfl⟩ := hq
      simp only [List.cons_append, List.nil_append] at H
      refine ⟨_, _, _, rfl, ?_⟩
      dsimp only [nn]
      refine st1_o H (by repeat (first | exact Rep.here | apply Rep.there)) (by simp) fun wx H => ?_
      refine st1_o H (by repeat (first | exact Rep.here | apply Rep.there)) (by simp) fun wx H => ?_
      simp only [List.set_cons_zero, List.set_cons_succ] at H
      exact fin p1 q1 c3 c4 _ (H.drop (by repeat (first | exact Cut.nil | (apply Cut.cons; (repeat (first | exact Pick.here | apply Pick.there))))))
    · repeat (first | refine ldI_o H (by repeat (first | exact Pick.here | apply Pick.there)) (by rfl) ?_ | refine ldL_o H (by repeat (first | exact Pick.here | apply Pick.there)) (by rfl) ?_ | refine ldB_o H (by repeat (first | exact Pick.here | apply Pick.there)) (by rfl) ?_ | refine ldP_o H (by repeat (first | exact Pick.here | apply Pick.there)) (by rfl) ?_ | refine ldS_o H (by repeat (first | exact Pick.here | apply Pick.there)) (by rfl) ?_)
      rfl
    · repeat (first | refine ldI_o H (by repeat (first | exact Pick.here | apply Pick.there)) (by rfl) ?_ | refine ldL_o H (by repeat (first | exact Pick.here | apply Pick.there)) (by rfl) ?_ | refine ldB_o H (by repeat (first | exact Pick.here | apply Pick.there)) (by rfl) ?_ | refine ldP_o H (by repeat (first | exact Pick.here | apply Pick.there)) (by rfl) ?_ | refine ldS_o H (by repeat (first | exact Pick.here | apply Pick.there)) (by rfl) ?_)
      rfl
    · skip
      refine call_o H (insert_t (p := p) (c := c) (vb := b30) (x := k) hk (by rw [ks_len]; omega)) (by repeat (first | exact Cut.nil | (apply Cut.cons; (repeat (first | exact Pick.here | apply Pick.there))))) fun vx L' wx hq H => ?_
      obtain ⟨p1, c3, rfl, rfl⟩ := hq
      simp only [List.cons_append, List.nil_append] at H
      refine ⟨_, _, _, rfl, ?_, ?_⟩
      · repeat (first | refine ldI_o H (by repeat (first | exact Pick.here | apply Pick.there)) (by rfl) ?_ | refine ldL_o H (by repeat (first | exact Pick.here | apply Pick.there)) (by rfl) ?_ | refine ldB_o H (by repeat (first | exact Pick.here | apply Pick.there)) (by rfl) ?_ | refine ldP_o H (by repeat (first | exact Pick.here | apply Pick.there)) (by rfl) ?_ | refine ldS_o H (by repeat (first | exact Pick.here | apply Pick.there)) (by rfl) ?_)
        rfl
      refine call_o H (insert_t (p := q) (c := c2) (vb := b63) (x := v) hv (by rw [vs_len]; omega)) (by repeat (first | exact Cut.nil | (apply Cut.cons; (repeat (first | exact Pick.here | apply Pick.there))))) fun vx L' wx hq H => ?_
      obtain ⟨q1, c4, rfl, rfl⟩ := hq
      simp only [List.cons_append, List.nil_append] at H
      refine ⟨_, _, _, rfl, ?_⟩
      dsimp only [nn]
      refine st1_o H (by repeat (first | exact Rep.here | apply Rep.there)) (by simp) fun wx H => ?_
      refine st1_o H (by repeat (first | exact Rep.here | apply Rep.there)) (by simp) fun wx H => ?_
      simp only [List.set_cons_zero, List.set_cons_succ] at H
      exact fin p1 q1 c3 c4 _ (H.drop (by repeat (first | exact Cut.nil | (apply Cut.cons; (repeat (first | exact Pick.here | apply Pick.there))))))
    · repeat (first | refine ldI_o H (by repeat (first | exact Pick.here | apply Pick.there)) (by rfl) ?_ | refine ldL_o H (by repeat (first | exact Pick.here | apply Pick.there)) (by rfl) ?_ | refine ldB_o H (by repeat (first | exact Pick.here | apply Pick.there)) (by rfl) ?_ | refine ldP_o H (by repeat (first | exact Pick.here | apply Pick.there)) (by rfl) ?_ | refine ldS_o H (by repeat (first | exact Pick.here | apply Pick.there)) (by rfl) ?_)
      rfl
    · repeat (first | refine ldI_o H (by repeat (first | exact Pick.here | apply Pick.there)) (by rfl) ?_ | refine ldL_o H (by repeat (first | exact Pick.here | apply Pick.there)) (by rfl) ?_ | refine ldB_o H (by repeat (first | exact Pick.here | apply Pick.there)) (by rfl) ?_ | refine ldP_o H (by repeat (first | exact Pick.here | apply Pick.there)) (by rfl) ?_ | refine ldS_o H (by repeat (first | exact Pick.here | apply Pick.there)) (by rfl) ?_)
      rfl
    · repeat (first | refine ldI_o H (by repeat (first | exact Pick.here | apply Pick.there)) (by rfl) ?_ | refine ldL_o H (by repeat (first | exact Pick.here | apply Pick.there)) (by rfl) ?_ | refine ldB_o H (by repeat (first | exact Pick.here | apply Pick.there)) (by rfl) ?_ | refine ldP_o H (by repeat (first | exact Pick.here | apply Pick.there)) (by rfl) ?_ | refine ldS_o H (by repeat (first | exact Pick.here | apply Pick.there)) (by rfl) ?_)
      rfl
    · repeat (first | refine ldI_o H (by repeat (first | exact Pick.here | apply Pick.there)) (by rfl) ?_ | refine ldL_o H (by repeat (first | exact Pick.here | apply Pick.there)) (by rfl) ?_ | refine ldB_o H (by repeat (first | exact Pick.here | apply Pick.there)) (by rfl) ?_ | refine ldP_o H (by repeat (first | exact Pick.here | apply Pick.there)) (by rfl) ?_ | refine ldS_o H (by repeat (first | exact Pick.here | apply Pick.there)) (by rfl) ?_)
      rfl
    · skip
      refine call_o H (insert_t (p := p) (c := c) (vb := b96) (x := k) hk (by rw [ks_len]; omega)) (by repeat (first | exact Cut.nil | (apply Cut.cons; (repeat (first | exact Pick.here | apply Pick.there))))) fun vx L' wx hq H => ?_
      obtain ⟨p1, c3, rfl, rfl⟩ := hq
      simp only [List.cons_append, List.nil_append] at H
      refine ⟨_, _, _, rfl, ?_, ?_⟩
      · repeat (first | refine ldI_o H (by repeat (first | exact Pick.here | apply Pick.there)) (by rfl) ?_ | refine ldL_o H (by repeat (first | exact Pick.here | apply Pick.there)) (by rfl) ?_ | refine ldB_o H (by repeat (first | exact Pick.here | apply Pick.there)) (by rfl) ?_ | refine ldP_o H (by repeat (first | exact Pick.here | apply Pick.there)) (by rfl) ?_ | refine ldS_o H (by repeat (first | exact Pick.here | apply Pick.there)) (by rfl) ?_)
        rfl
      refine call_o H (insert_t (p := q) (c := c2) (vb := b88) (x := v) hv (by rw [vs_len]; omega)) (by repeat (first | exact Cut.nil | (apply Cut.cons; (repeat (first | exact Pick.here | apply Pick.there))))) fun vx L' wx hq H => ?_
      obtain ⟨q1, c4, rfl, rfl⟩ := hq
      simp only [List.cons_append, List.nil_append] at H
      refine ⟨_, _, _, rfl, ?_⟩
      dsimp only [nn]
      refine st1_o H (by repeat (first | exact Rep.here | apply Rep.there)) (by simp) fun wx H => ?_
      refine st1_o H (by repeat (first | exact Rep.here | apply Rep.there)) (by simp) fun wx H => ?_
      simp only [List.set_cons_zero, List.set_cons_succ] at H
      exact fin p1 q1 c3 c4 _ (H.drop (by repeat (first | exact Cut.nil | (apply Cut.cons; (repeat (first | exact Pick.here | apply Pick.there))))))
end Go.Proofs.Ytmobpenjbaaicaa
/-
  book: a key taken; a copy.
-/
namespace Go.Proofs.Ytmobpenjbaaicaa
open Go Go.RowKit X
set_option maxRecDepth 100000
set_option linter.unusedVariables false
set_option maxHeartbeats 1000000
def takeK (kv : List (Int × Int)) (k : Int) : List (Int × Int) := if hasK kv k then kv.eraseIdx (at' kv k) else kv
theorem takeK_old {kv : List (Int × Int)} {k : Int} (h : hasK kv k = true) : ks (takeK kv k) = (ks kv).eraseIdx (at' kv k) ∧ vs (takeK kv k) = (vs kv).eraseIdx (at' kv k) := by
  unfold takeK ks vs
  rw [h, if_pos rfl]
  simp only [List.eraseIdx_eq_take_drop_succ, List.map_append, List.map_take, List.map_drop, and_self]
theorem take_book_t (b : Nat) (kv : List (Int × Int)) (k : Int) : Tri P F.book_Book_int__int_Take [bptr b, .int .i64 k] [bookI b kv] fun r L' => r = .tuple [.int .i64 (getK kv k), .bool (hasK kv k)].toArray ∧ L' = [bookI b (takeK kv k)] := by
  intro w S hS
  refine book_Book_int__int_Take_cv ?_
  unfold book_Book_int__int_Take
  have H := Own.start hS
  refine call_p H (get_book_t b kv k) (by repeat (first | exact Cut.nil | (apply Cut.cons; (repeat (first | exact Pick.here | apply Pick.there))))) fun wx H => ?_
  refine ⟨_, _, rfl, join_o (cnd_i (fun h => ?_) fun h => ?_)⟩
  · obtain ⟨e1, e2⟩ := takeK_old h
    have hlt : at' kv k < kv.length := by
      have := of_decide_eq_true h
      have := (List.getElem?_eq_some_iff.1 this).1
      rw [ks_len] at this; exact this
    obtain ⟨p, c, q, c2, h1, h2, H⟩ := book_open H .here
    dsimp only [nn]
    repeat (first | refine ldI_o H (by repeat (first | exact Pick.here | apply Pick.there)) (by rfl) ?_ | refine ldL_o H (by repeat (first | exact Pick.here | apply Pick.there)) (by rfl) ?_ | refine ldB_o H (by repeat (first | exact Pick.here | apply Pick.there)) (by rfl) ?_ | refine ldP_o H (by repeat (first | exact Pick.here | apply Pick.there)) (by rfl) ?_ | refine ldS_o H (by repeat (first | exact Pick.here | apply Pick.there)) (by rfl) ?_)
    refine call_p H (search_t (nums p c (ks kv)) own_sl h1 (by rw [ks_len]; omega) k) (by repeat (first | exact Cut.nil | (apply Cut.cons; (repeat (first | exact Pick.here | apply Pick.there))))) fun wx H => ?_
    refine ⟨_, _, rfl, ?_⟩
    refine drw_o H fun wx H => ?_
    repeat (first | refine ldI_o H (by repeat (first | exact Pick.here | apply Pick.there)) (by rfl) ?_ | refine ldL_o H (by repeat (first | exact Pick.here | apply Pick.there)) (by rfl) ?_ | refine ldB_o H (by repeat (first | exact Pick.here | apply Pick.there)) (by rfl) ?_ | refine ldP_o H (by repeat (first | exact Pick.here | apply Pick.there)) (by rfl) ?_ | refine ldS_o H (by repeat (first | exact Pick.here | apply Pick.there)) (by rfl) ?_)
    have ew : IntKind.i64.wrap (((lb (ks kv) k : Nat) : Int) + 1) = ((at' kv k : Nat) : Int) + 1 := by
      rw [show lb (ks kv) k = at' kv k from rfl, W_id (by omega) (by omega)]
    rw [ew]
    refine call_o H (delete_t (p := p) (c := c) (xs := ks kv) (i := at' kv k) (by rw [ks_len]; exact hlt)) (by repeat (first | exact Cut.nil | (apply Cut.cons; (repeat (first | exact Pick.here | apply Pick.there))))) fun vx L' wx hq H => ?_
    obtain ⟨c3, rfl, rfl⟩ := hq
    simp only [List.cons_append, List.nil_append] at H
    refine ⟨_, _, _, rfl, ?_, ?_⟩
    · repeat (first | refine ldI_o H (by repeat (first | exact Pick.here | apply Pick.there)) (by rfl) ?_ | refine ldL_o H (by repeat (first | exact Pick.here | apply Pick.there)) (by rfl) ?_ | refine ldB_o H (by repeat (first | exact Pick.here | apply Pick.there)) (by rfl) ?_ | refine ldP_o H (by repeat (first | exact Pick.here | apply Pick.there)) (by rfl) ?_ | refine ldS_o H (by repeat (first | exact Pick.here | apply Pick.there)) (by rfl) ?_)
      rfl
    refine call_o H (delete_t (p := q) (c := c2) (xs := vs kv) (i := at' kv k) (by rw [vs_len]; exact hlt)) (by repeat (first | exact Cut.nil | (apply Cut.cons; (repeat (first | exact Pick.here | apply Pick.there))))) fun vx L' wx hq H => ?_
    obtain ⟨c4, rfl, rfl⟩ := hq
    simp only [List.cons_append, List.nil_append] at H
    refine ⟨_, _, _, rfl, ?_⟩
    refine st1_o H (by repeat (first | exact Rep.here | apply Rep.there)) (by simp) fun wx H => ?_
    refine st1_o H (by repeat (first | exact Rep.here | apply Rep.there)) (by simp) fun wx H => ?_
    simp only [List.set_cons_zero, List.set_cons_succ] at H
    show book_Book_int__int_Take_j0 _ _ _ _
    unfold book_Book_int__int_Take_j0
    refine ⟨_, ⟨rfl, rfl⟩, ?_⟩
    have H := H.drop (L1 := [row b [.slice p ((ks kv).eraseIdx (at' kv k)).length c3, .slice q ((vs kv).eraseIdx (at' kv k)).length c4] tBook, nums p c3 ((ks kv).eraseIdx (at' kv k)), nums q c4 ((vs kv).eraseIdx (at' kv k))]) (by repeat (first | exact Cut.nil | (apply Cut.cons; (repeat (first | exact Pick.here | apply Pick.there)))))
    rw [← e1, ← e2] at H
    have hl : (takeK kv k).length ≤ kv.length := by
      unfold takeK; rw [h, if_pos rfl, List.length_eraseIdx]; split <;> omega
    exact book_shut H (by rw [e1]; exact h1.sublist (List.eraseIdx_sublist _ _)) (by omega)
  · show book_Book_int__int_Take_j0 _ _ _ _
    unfold book_Book_int__int_Take_j0
    refine ⟨_, ⟨rfl, rfl⟩, ?_⟩
    have : takeK kv k = kv := by unfold takeK; rw [h]; rfl
    rw [this]
    exact H.drop (by repeat (first | exact Cut.nil | (apply Cut.cons; (repeat (first | exact Pick.here | apply Pick.there)))))
theorem copy_book_t (b : Nat) (kv : List (Int × Int)) : Tri P F.book_Book_int__int_Copy [bptr b] [bookI b kv] fun r L' => ∃ b', r = bptr b' ∧ L' = [bookI b' kv, bookI b kv] := by
  intro w S hS
  refine book_Book_int__int_Copy_cv ?_
  unfold book_Book_int__int_Copy
  have H := Own.start hS
  obtain ⟨p, c, q, c2, h1, h2, H⟩ := book_open H .here
  refine drw_o H fun wx H => ?_
  dsimp only [nn]
  repeat (first | refine ldI_o H (by repeat (first | exact Pick.here | apply Pick.there)) (by rfl) ?_ | refine ldL_o H (by repeat (first | exact Pick.here | apply Pick.there)) (by rfl) ?_ | refine ldB_o H (by repeat (first | exact Pick.here | apply Pick.there)) (by rfl) ?_ | refine ldP_o H (by repeat (first | exact Pick.here | apply Pick.there)) (by rfl) ?_ | refine ldS_o H (by repeat (first | exact Pick.here | apply Pick.there)) (by rfl) ?_)
  refine call_o H (clone_t (nums p c (ks kv)) own_sl (by rw [ks_len]; omega)) (by repeat (first | exact Cut.nil | (apply Cut.cons; (repeat (first | exact Pick.here | apply Pick.there))))) fun vx L' wx hq H => ?_
  obtain ⟨p1, c3, rfl, rfl⟩ := hq
  simp only [List.cons_append, List.nil_append] at H
  refine ⟨_, _, _, rfl, ?_, ?_⟩
  · repeat (first | refine ldI_o H (by repeat (first | exact Pick.here | apply Pick.there)) (by rfl) ?_ | refine ldL_o H (by repeat (first | exact Pick.here | apply Pick.there)) (by rfl) ?_ | refine ldB_o H (by repeat (first | exact Pick.here | apply Pick.there)) (by rfl) ?_ | refine ldP_o H (by repeat (first | exact Pick.here | apply Pick.there)) (by rfl) ?_ | refine ldS_o H (by repeat (first | exact Pick.here | apply Pick.there)) (by rfl) ?_)
    rfl
  refine call_o H (clone_t (nums q c2 (vs kv)) own_sl (by rw [vs_len]; omega)) (by repeat (first | exact Cut.nil | (apply Cut.cons; (repeat (first | exact Pick.here | apply Pick.there))))) fun vx L' wx hq H => ?_
  obtain ⟨q1, c4, rfl, rfl⟩ := hq
  simp only [List.cons_append, List.nil_append] at H
  refine ⟨_, _, _, rfl, alc_o H fun b24 wx H => ?_⟩
  refine ⟨_, ⟨b24, rfl, rfl⟩, ?_⟩
  have H := H.drop (L1 := [row b24 [.slice p1 (ks kv).length c3, .slice q1 (vs kv).length c4] tBook, nums p1 c3 (ks kv), nums q1 c4 (vs kv), row b [.slice p (ks kv).length c, .slice q (vs kv).length c2] tBook, nums p c (ks kv), nums q c2 (vs kv)]) (by repeat (first | exact Cut.nil | (apply Cut.cons; (repeat (first | exact Pick.here | apply Pick.there)))))
  have H := book_shut H h1 h2
  have H := own_comm (A := [bookI b24 kv]) H
  exact own_comm (A := [bookI b kv]) (B := [bookI b24 kv]) (book_shut H h1 h2)
end Go.Proofs.Ytmobpenjbaaicaa
/-
  book: gone through.
-/
namespace Go.Proofs.Ytmobpenjbaaicaa
open Go Go.RowKit X
set_option maxRecDepth 100000
set_option linter.unusedVariables false
set_option maxHeartbeats 1000000
def thrV (g h : Nat) : Value := .func (.func F.book_through_int_int_1) [].toArray [bptr g, bptr h].toArray
def thrE (g h : Nat) (p : Option Addr) (c : Nat) (q : Option Addr) (c2 : Nat) (kv : List (Int × Int)) : List It := [row g [.slice p (ks kv).length c] tInts, row h [.slice q (vs kv).length c2] tInts, nums p c (ks kv), nums q c2 (vs kv)]
def pairs (kv : List (Int × Int)) : List (List Value) := kv.map fun x => [.int .i64 x.1, .int .i64 x.2]
theorem pairs_len (kv : List (Int × Int)) : ∀ x ∈ pairs kv, x.length = 2 := by
  intro x hx
  obtain ⟨y, _, rfl⟩ := List.mem_map.1 hx
  rfl
theorem thr_enters : enters P F.book_through_int_int_1 = true := by kernel_rfl
theorem all_book_t (b : Nat) (kv : List (Int × Int)) : Tri P F.book_Book_int__int_All [bptr b] [bookI b kv] fun r L' => ∃ g h p c q c2, r = thrV g h ∧ L' = thrE g h p c q c2 kv ++ [bookI b kv] := by
  intro w S hS
  refine book_Book_int__int_All_cv ?_
  unfold book_Book_int__int_All
  have H := Own.start hS
  obtain ⟨p, c, q, c2, h1, h2, H⟩ := book_open H .here
  refine drw_o H fun wx H => ?_
  dsimp only [nn]
  repeat (first | refine ldI_o H (by repeat (first | exact Pick.here | apply Pick.there)) (by rfl) ?_ | refine ldL_o H (by repeat (first | exact Pick.here | apply Pick.there)) (by rfl) ?_ | refine ldB_o H (by repeat (first | exact Pick.here | apply Pick.there)) (by rfl) ?_ | refine ldP_o H (by repeat (first | exact Pick.here | apply Pick.there)) (by rfl) ?_ | refine ldS_o H (by repeat (first | exact Pick.here | apply Pick.there)) (by rfl) ?_)
  refine call_o H (clone_t (nums p c (ks kv)) own_sl (by rw [ks_len]; omega)) (by repeat (first | exact Cut.nil | (apply Cut.cons; (repeat (first | exact Pick.here | apply Pick.there))))) fun vx L' wx hq H => ?_
  obtain ⟨p1, c3, rfl, rfl⟩ := hq
  simp only [List.cons_append, List.nil_append] at H
  refine ⟨_, _, _, rfl, ?_, ?_⟩
  · repeat (first | refine ldI_o H (by repeat (first | exact Pick.here | apply Pick.there)) (by rfl) ?_ | refine ldL_o H (by repeat (first | exact Pick.here | apply Pick.there)) (by rfl) ?_ | refine ldB_o H (by repeat (first | exact Pick.here | apply Pick.there)) (by rfl) ?_ | refine ldP_o H (by repeat (first | exact Pick.here | apply Pick.there)) (by rfl) ?_ | refine ldS_o H (by repeat (first | exact Pick.here | apply Pick.there)) (by rfl) ?_)
    rfl
  refine call_o H (clone_t (nums q c2 (vs kv)) own_sl (by rw [vs_len]; omega)) (by repeat (first | exact Cut.nil | (apply Cut.cons; (repeat (first | exact Pick.here | apply Pick.there))))) fun vx L' wx hq H => ?_
  obtain ⟨q1, c4, rfl, rfl⟩ := hq
  simp only [List.cons_append, List.nil_append] at H
  refine ⟨_, _, _, rfl, ?_⟩
  refine book_through_int_int_cv ?_
  unfold book_through_int_int
  refine alc_o H fun g wx H => alc_o H fun h wx H => ?_
  refine ⟨_, rfl, _, ⟨g, h, p1, c3, q1, c4, rfl, rfl⟩, ?_⟩
  have H := H.perm (L1 := [row b [.slice p (ks kv).length c, .slice q (vs kv).length c2] tBook, nums p c (ks kv), nums q c2 (vs kv)]) (by repeat (first | exact Cut.nil | (apply Cut.cons; (repeat (first | exact Pick.here | apply Pick.there)))))
  have H := book_shut H h1 h2
  exact own_comm (A := [bookI b kv]) (B := thrE g h p1 c3 q1 c4 kv) (H.drop (by unfold thrE; exact (by repeat (first | exact Cut.nil | (apply Cut.cons; (repeat (first | exact Pick.here | apply Pick.there)))))))
theorem thr_it (g h : Nat) (p : Option Addr) (c : Nat) (q : Option Addr) (c2 : Nat) (kv : List (Int × Int)) (hl : kv.length < 800000) :
    Iter P F.book_through_int_int_1 [bptr g, bptr h] (thrE g h p c q c2 kv) (pairs kv) := by
  intro y w0 S0 L0 w Q I D hy H h0 hstep hend hstop
  obtain ⟨fn, fa, fc, rfl⟩ := hy
  refine book_through_int_int_1_cv ?_
  unfold book_through_int_int_1
  have H := own_comm H
  unfold thrE at H
  simp only [List.cons_append, List.nil_append] at H
  refine ldL_o H .here (by rfl) ?_
  refine loop_o (fun (st : Int) L' => ∃ (k : Nat) (L : List It), k ≤ kv.length ∧ st = k ∧ I k L ∧ L' = thrE g h p c q c2 kv ++ L) (fun (st : Int) => ((kv.length : Int) - st).toNat) H
    ⟨0, L0, by omega, rfl, h0, rfl⟩ ?_
  rintro _ _ wx ⟨k, L, hk, rfl, hI, rfl⟩ H
  unfold book_through_int_int_1_l0
  refine cnd_i (fun hc => ?_) fun hc => ?_
  · have hc := of_decide_eq_true hc
    rw [ks_len] at hc
    have hkl : k < kv.length := by omega
    have hk1 : k < (ks kv).length := by rw [ks_len]; exact hkl
    have hk2 : k < (vs kv).length := by rw [vs_len]; exact hkl
    have H1 := H
    unfold thrE at H1
    simp only [List.cons_append, List.nil_append] at H1
    refine ⟨⟨by omega, by exact_mod_cast hk1⟩, ?_⟩
    rw [Int.toNat_natCast]
    refine old_o H1 (.there (.there .here)) (i64s_get hk1) (ldL_o H1 (.there .here) (by rfl) ⟨⟨by omega, by exact_mod_cast hk2⟩, ?_⟩)
    rw [Int.toNat_natCast]
    refine old_o H1 (.there (.there (.there .here))) (i64s_get hk2) ?_
    have hx : (pairs kv)[k]? = some [.int .i64 (ks kv)[k], .int .i64 (vs kv)[k]] := by simp [pairs, ks, vs, hkl]
    refine callVal_mono (hstep k _ L [] wx hx hI (by rw [List.append_nil]; exact own_comm H)) ?_
    rintro _ w' ⟨bo, rfl, L', hL', H'⟩
    rw [List.append_nil] at H'
    refine ⟨_, rfl, ?_⟩
    cases bo
    · exact cnd_i (fun _ => hstop _ _ hL' H') (fun h => by cases h)
    · refine cnd_i (fun h => by cases h) fun _ => ?_
      rw [W_id (by omega) (by omega)]
      exact ⟨⟨_, ⟨k + 1, L', by omega, by push_cast; rfl, hL', rfl⟩, own_comm H'⟩, by omega⟩
  · have hc := of_decide_eq_false hc
    rw [ks_len] at hc
    have : k = (pairs kv).length := by simp [pairs]; omega
    subst this
    exact hend _ _ hI (own_comm H)
end Go.Proofs.Ytmobpenjbaaicaa
