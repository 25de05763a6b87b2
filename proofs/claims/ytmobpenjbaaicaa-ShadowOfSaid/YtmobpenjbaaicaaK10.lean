/-
  book: gone through.
-/
import Derived.Test.YtmobpenjbaaicaaK9
namespace Go.Proofs.Ytmobpenjbaaicaa
open Go Go.RowKit X
set_option maxRecDepth 100000
set_option linter.unusedVariables false
set_option maxHeartbeats 1000000
def thrV (g h : Nat) : Value := .func (.func F.book_through_int_int_1) [].toArray [bptr g, bptr h].toArray
def thrE (g h : Nat) (p : Option Addr) (c : Nat) (q : Option Addr) (c2 : Nat) (kv : List (Int × Int)) : List It := [row g [.slice p (ks kv).length c] tInts, row h [.slice q (vs kv).length c2] tInts, nums p c (ks kv), nums q c2 (vs kv)]
def pairs (kv : List (Int × Int)) : List (List Value) := kv.map fun x => [.int .i64 x.1, .int .i64 x.2]
theorem pairs_len (kv : List (Int × Int)) : ∀ x ∈ pairs kv, x.length = 2 := by
  intro x hx
  obtain ⟨y, _, rfl⟩ := List.mem_map.1 hx
  rfl
theorem thr_enters : enters P F.book_through_int_int_1 = true := by kernel_rfl
theorem all_book_t (b : Nat) (kv : List (Int × Int)) : Tri P F.book_Book_int__int_All [bptr b] [bookI b kv] fun r L' => ∃ g h p c q c2, r = thrV g h ∧ L' = thrE g h p c q c2 kv ++ [bookI b kv] := by
  intro w S hS
  refine book_Book_int__int_All_cv ?_
  unfold book_Book_int__int_All
  have H := Own.start hS
  obtain ⟨p, c, q, c2, h1, h2, H⟩ := book_open H .here
  refine drw_o H fun wx H => ?_
  dsimp only [nn]
  repeat (first | refine ldI_o H (by repeat (first | exact Pick.here | apply Pick.there)) (by rfl) ?_ | refine ldL_o H (by repeat (first | exact Pick.here | apply Pick.there)) (by rfl) ?_ | refine ldB_o H (by repeat (first | exact Pick.here | apply Pick.there)) (by rfl) ?_ | refine ldP_o H (by repeat (first | exact Pick.here | apply Pick.there)) (by rfl) ?_ | refine ldS_o H (by repeat (first | exact Pick.here | apply Pick.there)) (by rfl) ?_)
  refine call_o H (clone_t (nums p c (ks kv)) own_sl (by rw [ks_len]; omega)) (by repeat (first | exact Cut.nil | (apply Cut.cons; (repeat (first | exact Pick.here | apply Pick.there))))) fun vx L' wx hq H => ?_
  obtain ⟨p1, c3, rfl, rfl⟩ := hq
  simp only [List.cons_append, List.nil_append] at H
  refine ⟨_, _, _, rfl, ?_, ?_⟩
  · repeat (first | refine ldI_o H (by repeat (first | exact Pick.here | apply Pick.there)) (by rfl) ?_ | refine ldL_o H (by repeat (first | exact Pick.here | apply Pick.there)) (by rfl) ?_ | refine ldB_o H (by repeat (first | exact Pick.here | apply Pick.there)) (by rfl) ?_ | refine ldP_o H (by repeat (first | exact Pick.here | apply Pick.there)) (by rfl) ?_ | refine ldS_o H (by repeat (first | exact Pick.here | apply Pick.there)) (by rfl) ?_)
    rfl
  refine call_o H (clone_t (nums q c2 (vs kv)) own_sl (by rw [vs_len]; omega)) (by repeat (first | exact Cut.nil | (apply Cut.cons; (repeat (first | exact Pick.here | apply Pick.there))))) fun vx L' wx hq H => ?_
  obtain ⟨q1, c4, rfl, rfl⟩ := hq
  simp only [List.cons_append, List.nil_append] at H
  refine ⟨_, _, _, rfl, ?_⟩
  refine book_through_int_int_cv ?_
  unfold book_through_int_int
  refine alc_o H fun g wx H => alc_o H fun h wx H => ?_
  refine ⟨_, rfl, _, ⟨g, h, p1, c3, q1, c4, rfl, rfl⟩, ?_⟩
  have H := H.perm (L1 := [row b [.slice p (ks kv).length c, .slice q (vs kv).length c2] tBook, nums p c (ks kv), nums q c2 (vs kv)]) (by repeat (first | exact Cut.nil | (apply Cut.cons; (repeat (first | exact Pick.here | apply Pick.there)))))
  have H := book_shut H h1 h2
  exact own_comm (A := [bookI b kv]) (B := thrE g h p1 c3 q1 c4 kv) (H.drop (by unfold thrE; exact (by repeat (first | exact Cut.nil | (apply Cut.cons; (repeat (first | exact Pick.here | apply Pick.there)))))))
theorem thr_it (g h : Nat) (p : Option Addr) (c : Nat) (q : Option Addr) (c2 : Nat) (kv : List (Int × Int)) (hl : kv.length < 800000) :
    Iter P F.book_through_int_int_1 [bptr g, bptr h] (thrE g h p c q c2 kv) (pairs kv) := by
  intro y w0 S0 L0 w Q I D hy H h0 hstep hend hstop
  obtain ⟨fn, fa, fc, rfl⟩ := hy
  refine book_through_int_int_1_cv ?_
  unfold book_through_int_int_1
  have H := own_comm H
  unfold thrE at H
  simp only [List.cons_append, List.nil_append] at H
  refine ldL_o H .here (by rfl) ?_
  refine loop_o (fun (st : Int) L' => ∃ (k : Nat) (L : List It), k ≤ kv.length ∧ st = k ∧ I k L ∧ L' = thrE g h p c q c2 kv ++ L) (fun (st : Int) => ((kv.length : Int) - st).toNat) H
    ⟨0, L0, by omega, rfl, h0, rfl⟩ ?_
  rintro _ _ wx ⟨k, L, hk, rfl, hI, rfl⟩ H
  unfold book_through_int_int_1_l0
  refine cnd_i (fun hc => ?_) fun hc => ?_
  · have hc := of_decide_eq_true hc
    rw [ks_len] at hc
    have hkl : k < kv.length := by omega
    have hk1 : k < (ks kv).length := by rw [ks_len]; exact hkl
    have hk2 : k < (vs kv).length := by rw [vs_len]; exact hkl
    have H1 := H
    unfold thrE at H1
    simp only [List.cons_append, List.nil_append] at H1
    refine ⟨⟨by omega, by exact_mod_cast hk1⟩, ?_⟩
    rw [Int.toNat_natCast]
    refine old_o H1 (.there (.there .here)) (i64s_get hk1) (ldL_o H1 (.there .here) (by rfl) ⟨⟨by omega, by exact_mod_cast hk2⟩, ?_⟩)
    rw [Int.toNat_natCast]
    refine old_o H1 (.there (.there (.there .here))) (i64s_get hk2) ?_
    have hx : (pairs kv)[k]? = some [.int .i64 (ks kv)[k], .int .i64 (vs kv)[k]] := by simp [pairs, ks, vs, hkl]
    refine callVal_mono (hstep k _ L [] wx hx hI (by rw [List.append_nil]; exact own_comm H)) ?_
    rintro _ w' ⟨bo, rfl, L', hL', H'⟩
    rw [List.append_nil] at H'
    refine ⟨_, rfl, ?_⟩
    cases bo
    · exact cnd_i (fun _ => hstop _ _ hL' H') (fun h => by cases h)
    · refine cnd_i (fun h => by cases h) fun _ => ?_
      rw [W_id (by omega) (by omega)]
      exact ⟨⟨_, ⟨k + 1, L', by omega, by push_cast; rfl, hL', rfl⟩, own_comm H'⟩, by omega⟩
  · have hc := of_decide_eq_false hc
    rw [ks_len] at hc
    have : k = (pairs kv).length := by simp [pairs]; omega
    subst this
    exact hend _ _ hI (own_comm H)
end Go.Proofs.Ytmobpenjbaaicaa
