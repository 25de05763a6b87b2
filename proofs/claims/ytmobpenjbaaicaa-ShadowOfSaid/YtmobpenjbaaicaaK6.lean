/-
  book: values by keys, as a list that rises by its keys.
-/
import Derived.Test.YtmobpenjbaaicaaK5
namespace Go.Proofs.Ytmobpenjbaaicaa
open Go Go.RowKit X
set_option maxRecDepth 100000
set_option linter.unusedVariables false
def ks (kv : List (Int × Int)) : List Int := kv.map (·.1)
def vs (kv : List (Int × Int)) : List Int := kv.map (·.2)
theorem ks_len (kv : List (Int × Int)) : (ks kv).length = kv.length := by simp [ks]
theorem vs_len (kv : List (Int × Int)) : (vs kv).length = kv.length := by simp [vs]
abbrev bookRows (b : Nat) (kv : List (Int × Int)) (a : (Option Addr × Nat) × (Option Addr × Nat)) : List It := [row b [.slice a.1.1 (ks kv).length a.1.2, .slice a.2.1 (vs kv).length a.2.2] tBook, nums a.1.1 a.1.2 (ks kv), nums a.2.1 a.2.2 (vs kv)]
def bookI (b : Nat) (kv : List (Int × Int)) : It := exI (fun a : (Option Addr × Nat) × (Option Addr × Nat) => (ks kv).Pairwise (· < ·) ∧ kv.length < 800000) (bookRows b kv)
section
variable {w w0 : World} {S0 : Nat → Prop}
theorem book_open {L F : List It} {b : Nat} {kv : List (Int × Int)} (H : X.Own w0 S0 L w) (hp : Pick L (bookI b kv) F) : ∃ p c q c2, (ks kv).Pairwise (· < ·) ∧ kv.length < 800000 ∧ X.Own w0 S0 (row b [.slice p (ks kv).length c, .slice q (vs kv).length c2] tBook :: nums p c (ks kv) :: nums q c2 (vs kv) :: F) w := by
  obtain ⟨⟨⟨p, c⟩, q, c2⟩, ⟨h1, h2⟩, H⟩ := ex_open H hp
  exact ⟨p, c, q, c2, h1, h2, H⟩
theorem book_shut {F : List It} {b c c2 : Nat} {p q : Option Addr} {kv : List (Int × Int)} (H : X.Own w0 S0 (row b [.slice p (ks kv).length c, .slice q (vs kv).length c2] tBook :: nums p c (ks kv) :: nums q c2 (vs kv) :: F) w) (h1 : (ks kv).Pairwise (· < ·)) (h2 : kv.length < 800000) : X.Own w0 S0 (bookI b kv :: F) w :=
  ex_shut (f := bookRows b kv) ((p, c), (q, c2)) ⟨h1, h2⟩ H
end
def bptr (b : Nat) : Value := .pointer (some ⟨b, 0, none⟩)
/-- where a key stands, or would -/
def at' (kv : List (Int × Int)) (k : Int) : Nat := lb (ks kv) k
def hasK (kv : List (Int × Int)) (k : Int) : Bool := decide ((ks kv)[at' kv k]? = some k)
def getK (kv : List (Int × Int)) (k : Int) : Int := if hasK kv k then (vs kv).getD (at' kv k) 0 else 0
theorem new_book_t : Tri P F.book_New_int_int [] [] fun v L' => ∃ b, v = bptr b ∧ L' = [bookI b []] := by
  intro w S hS
  refine book_New_int_int_cv ?_
  unfold book_New_int_int
  have H := Own.start hS
  refine alc_o H fun b1 wx H => ?_
  have H := own_nil (e := tInt) (size := 1) H
  have H := own_nil (e := tInt) (size := 1) H
  have H := H.perm (L1 := [row b1 [.slice none 0 0, .slice none 0 0] tBook, own tInt 1 (.slice none 0 0) 0 [], own tInt 1 (.slice none 0 0) 0 []]) (F := []) (.cons (.there (.there .here)) (.cons .here (.cons .here .nil)))
  exact ⟨_, ⟨b1, rfl, rfl⟩, book_shut (kv := []) H List.Pairwise.nil (by simp)⟩
theorem len_book_t (b : Nat) (kv : List (Int × Int)) : Tri P F.book_Book_int__int_Len [bptr b] [bookI b kv] fun v L' => v = .int .i64 kv.length ∧ L' = [bookI b kv] := by
  intro w S hS
  refine book_Book_int__int_Len_cv ?_
  unfold book_Book_int__int_Len
  have H := Own.start hS
  obtain ⟨p, c, q, c2, h1, h2, H⟩ := book_open H .here
  dsimp only [nn]
  repeat (first | refine ldI_o H (by repeat (first | exact Pick.here | apply Pick.there)) (by rfl) ?_ | refine ldL_o H (by repeat (first | exact Pick.here | apply Pick.there)) (by rfl) ?_ | refine ldB_o H (by repeat (first | exact Pick.here | apply Pick.there)) (by rfl) ?_ | refine ldP_o H (by repeat (first | exact Pick.here | apply Pick.there)) (by rfl) ?_ | refine ldS_o H (by repeat (first | exact Pick.here | apply Pick.there)) (by rfl) ?_)
  exact ⟨_, ⟨by rw [ks_len], rfl⟩, book_shut H h1 h2⟩
theorem has_book_t (b : Nat) (kv : List (Int × Int)) (k : Int) : Tri P F.book_Book_int__int_Has [bptr b, .int .i64 k] [bookI b kv] fun v L' => v = .bool (hasK kv k) ∧ L' = [bookI b kv] := by
  intro w S hS
  refine book_Book_int__int_Has_cv ?_
  unfold book_Book_int__int_Has
  have H := Own.start hS
  obtain ⟨p, c, q, c2, h1, h2, H⟩ := book_open H .here
  dsimp only [nn]
  repeat (first | refine ldI_o H (by repeat (first | exact Pick.here | apply Pick.there)) (by rfl) ?_ | refine ldL_o H (by repeat (first | exact Pick.here | apply Pick.there)) (by rfl) ?_ | refine ldB_o H (by repeat (first | exact Pick.here | apply Pick.there)) (by rfl) ?_ | refine ldP_o H (by repeat (first | exact Pick.here | apply Pick.there)) (by rfl) ?_ | refine ldS_o H (by repeat (first | exact Pick.here | apply Pick.there)) (by rfl) ?_)
  refine call_p H (search_t (nums p c (ks kv)) own_sl h1 (by rw [ks_len]; omega) k) (by repeat (first | exact Cut.nil | (apply Cut.cons; (repeat (first | exact Pick.here | apply Pick.there))))) fun wx H => ?_
  exact ⟨_, _, rfl, _, ⟨rfl, rfl⟩, book_shut H h1 h2⟩
theorem get_book_t (b : Nat) (kv : List (Int × Int)) (k : Int) : Tri P F.book_Book_int__int_Get [bptr b, .int .i64 k] [bookI b kv] fun v L' => v = .tuple [.int .i64 (getK kv k), .bool (hasK kv k)].toArray ∧ L' = [bookI b kv] := by
  intro w S hS
  refine book_Book_int__int_Get_cv ?_
  unfold book_Book_int__int_Get
  have H := Own.start hS
  obtain ⟨p, c, q, c2, h1, h2, H⟩ := book_open H .here
  dsimp only [nn]
  repeat (first | refine ldI_o H (by repeat (first | exact Pick.here | apply Pick.there)) (by rfl) ?_ | refine ldL_o H (by repeat (first | exact Pick.here | apply Pick.there)) (by rfl) ?_ | refine ldB_o H (by repeat (first | exact Pick.here | apply Pick.there)) (by rfl) ?_ | refine ldP_o H (by repeat (first | exact Pick.here | apply Pick.there)) (by rfl) ?_ | refine ldS_o H (by repeat (first | exact Pick.here | apply Pick.there)) (by rfl) ?_)
  refine call_p H (search_t (nums p c (ks kv)) own_sl h1 (by rw [ks_len]; omega) k) (by repeat (first | exact Cut.nil | (apply Cut.cons; (repeat (first | exact Pick.here | apply Pick.there))))) fun wx H => ?_
  refine ⟨_, _, rfl, cnd_i (fun h => ?_) fun h => ?_⟩
  · have h : hasK kv k = false := by rw [Bool.not_eq_true'] at h; exact h
    exact ⟨_, ⟨by rw [getK, h]; rfl, rfl⟩, book_shut H h1 h2⟩
  · have h : hasK kv k = true := by rw [Bool.not_eq_false'] at h; exact h
    have hlt : at' kv k < kv.length := by
      have := of_decide_eq_true h
      have := (List.getElem?_eq_some_iff.1 this).1
      rw [ks_len] at this; exact this
    have hv : at' kv k < (vs kv).length := by rw [vs_len]; exact hlt
    repeat (first | refine ldI_o H (by repeat (first | exact Pick.here | apply Pick.there)) (by rfl) ?_ | refine ldL_o H (by repeat (first | exact Pick.here | apply Pick.there)) (by rfl) ?_ | refine ldB_o H (by repeat (first | exact Pick.here | apply Pick.there)) (by rfl) ?_ | refine ldP_o H (by repeat (first | exact Pick.here | apply Pick.there)) (by rfl) ?_ | refine ldS_o H (by repeat (first | exact Pick.here | apply Pick.there)) (by rfl) ?_)
    refine ⟨⟨by omega, by show ((lb (ks kv) k : Nat) : Int) < _; exact_mod_cast hv⟩, ?_⟩
    rw [Int.toNat_natCast]
    refine old_o H (.there (.there .here)) (i64s_get hv) ?_
    refine ⟨_, ⟨?_, rfl⟩, book_shut H h1 h2⟩
    rw [getK, h, if_pos rfl, List.getD_eq_getElem?_getD, List.getElem?_eq_getElem hv]; rfl
end Go.Proofs.Ytmobpenjbaaicaa
