/-
  slices: where a number stands, or would stand, in a rising row.
-/
import Derived.Test.YtmobpenjbaaicaaA3
import Derived.Test.YtmobpenjbaaicaaA5
import Derived.Test.YtmobpenjbaaicaaS6
import Derived.Test.YtmobpenjbaaicaaFn
namespace Go.Proofs.Ytmobpenjbaaicaa
open Go Go.RowKit X
set_option maxRecDepth 100000
set_option linter.unusedVariables false
/-- a function of its arguments alone -/
def PureK (f : FuncId) (args : List Value) (v : Value) : Prop := ∀ w, CV P f args w fun v' w' => v' = v ∧ Below w.heap.size w w'
theorem cmpNaN_plain (a : Int) : PureK F.cmp_isNaN_int [.int .i64 a] (.bool false) := by
  intro w
  refine cmp_isNaN_int_cv ?_
  unfold cmp_isNaN_int
  exact ⟨by simp, Below.refl _ _⟩
theorem slNaN_plain (a : Int) : PureK F.slices_isNaN_int [.int .i64 a] (.bool false) := by
  intro w
  refine slices_isNaN_int_cv ?_
  unfold slices_isNaN_int
  exact ⟨by simp, Below.refl _ _⟩
theorem less_plain (a b : Int) : PureK F.cmp_Less_int [.int .i64 a, .int .i64 b] (.bool (decide (a < b))) := by
  intro w
  refine cmp_Less_int_cv ?_
  unfold cmp_Less_int JoinT
  refine (cmpNaN_plain a w).mono ?_
  rintro _ w1 ⟨rfl, hB⟩
  refine ⟨_, rfl, cnd_i (fun h => by cases h) fun _ => ?_⟩
  unfold cmp_Less_int_j0
  exact ⟨rfl, hB⟩
/-- how many come ahead of k -/
def lb (xs : List Int) (k : Int) : Nat := (xs.takeWhile fun x => decide (x < k)).length
theorem lb_eq {k : Int} : ∀ {xs : List Int} {p : Nat}, p ≤ xs.length → (∀ (t : Nat) x, t < p → xs[t]? = some x → x < k) → (∀ x, xs[p]? = some x → ¬ x < k) → lb xs k = p := by
  intro xs
  induction xs with
  | nil => intro p h _ _; simp at h; simp [lb, h]
  | cons y r ih =>
    intro p h h1 h2
    cases p with
    | zero =>
      have := h2 y rfl
      simp [lb, List.takeWhile_cons, this]
    | succ p =>
      have hy := h1 0 y (by omega) rfl
      have := ih (p := p) (by simpa using h) (fun t x ht hx => h1 (t + 1) x (by omega) (by simpa using hx)) (fun x hx => h2 x (by simpa using hx))
      unfold lb at this ⊢
      rw [List.takeWhile_cons, if_pos (by simpa using hy)]
      simp [this]
theorem half {m : Int} (h0 : 0 ≤ m) (h1 : m < 9223372036854775808) : IntKind.i64.wrap (Int.fdiv (IntKind.u64.wrap m) (2 ^ min (Int.toNat 1) IntKind.u64.bits)) = m / 2 := by
  obtain ⟨n, rfl⟩ := Int.eq_ofNat_of_zero_le h0
  rw [u64_id (by omega), show Int.fdiv (n : Int) (2 ^ min (Int.toNat 1) IntKind.u64.bits) = ((n / 2 ^ 1 : Nat) : Int) from shr_u64 n (s := 1) (by omega)]
  rw [W_id (by omega) (by omega)]
  omega
theorem search_t (i : It) {q : Option Addr} {c : Nat} {xs : List Int} (hi : ∀ w S, i.h w S → Sl w q (i64s xs)) (hs : xs.Pairwise (· < ·)) (hl : xs.length < 4611686018427387904) (k : Int) :
    Tri P F.slices_BinarySearch__int_int [.slice q xs.length c, .int .i64 k] [i] fun v L' => v = .tuple [.int .i64 (lb xs k : Nat), .bool (decide (xs[lb xs k]? = some k))].toArray ∧ L' = [i] := by
  intro w S hS
  refine slices_BinarySearch__int_int_cv ?_
  unfold slices_BinarySearch__int_int
  have H := Own.start hS
  refine loop_o (fun (st : Int × Int) L => ∃ a b : Nat, st = ((a : Int), (b : Int)) ∧ a ≤ b ∧ b ≤ xs.length ∧ (∀ (t : Nat) x, t < a → xs[t]? = some x → x < k) ∧ (∀ (t : Nat) x, b ≤ t → xs[t]? = some x → ¬ x < k) ∧ L = [i]) (fun (st : Int × Int) => (st.2 - st.1).toNat) H
    ⟨0, xs.length, rfl, by omega, by omega, fun t x h _ => absurd h (by omega), fun t x h hx => (by rw [List.getElem?_eq_none h] at hx; cases hx), rfl⟩ ?_
  rintro _ _ wx ⟨a, b, rfl, hab, hb, h1, h2, rfl⟩ H
  unfold slices_BinarySearch__int_int_l2
  dsimp only
  refine cnd_i (fun h => join_o ?_) fun h => join_o ?_
  · have h := of_decide_eq_true h
    rw [W_id (n := (a : Int) + b) (by omega) (by omega), half (by omega) (by omega)]
    have hm : ((a : Int) + b) / 2 = ((a + b) / 2 : Nat) := by omega
    rw [hm]
    have hmlt : (a + b) / 2 < xs.length := by omega
    have hma : a ≤ (a + b) / 2 := by omega
    have hmb : (a + b) / 2 < b := by omega
    generalize (a + b) / 2 = m at *
    refine ⟨by omega, ⟨by omega, by omega⟩, ?_⟩
    rw [Int.toNat_natCast]
    obtain ⟨ad, rfl, hcell⟩ := H.rd (i := i) .here hi m _ (i64s_get hmlt)
    refine ⟨_, by rw [Nat.mul_one]; exact hcell, ?_⟩
    refine call_p H (tri_plain (less_plain xs[m] k)) (by repeat (first | exact Cut.nil | (apply Cut.cons; (repeat (first | exact Pick.here | apply Pick.there))))) fun wx H => ?_
    refine ⟨_, rfl, cnd_i (fun hlt => ?_) fun hlt => ?_⟩
    · have hlt := of_decide_eq_true hlt
      unfold slices_BinarySearch__int_int_j0
      rw [W_id (by omega) (by omega)]
      refine ⟨⟨_, ⟨m + 1, b, by push_cast; rfl, by omega, hb, fun t x ht hx => ?_, h2, rfl⟩, H⟩, by show ((b : Int) - ((m : Int) + 1)).toNat < ((b : Int) - (a : Int)).toNat; omega⟩
      by_cases e : t = m
      · subst e; rw [List.getElem?_eq_getElem hmlt] at hx; cases hx; exact hlt
      · have htm : t < xs.length := by omega
        rw [List.getElem?_eq_getElem htm] at hx; cases hx
        have := List.pairwise_iff_getElem.1 hs t m htm hmlt (by omega)
        omega
    · have hlt := of_decide_eq_false hlt
      unfold slices_BinarySearch__int_int_j0
      refine ⟨⟨_, ⟨a, m, rfl, by omega, by omega, h1, fun t x ht hx => ?_, rfl⟩, H⟩, by show ((m : Int) - (a : Int)).toNat < ((b : Int) - (a : Int)).toNat; omega⟩
      by_cases e : t = m
      · subst e; rw [List.getElem?_eq_getElem hmlt] at hx; cases hx; exact hlt
      · have htl : t < xs.length := (List.getElem?_eq_some_iff.1 hx).1
        rw [List.getElem?_eq_getElem htl] at hx; cases hx
        have := List.pairwise_iff_getElem.1 hs m t hmlt htl (by omega)
        omega
  · have h := of_decide_eq_false h
    have hab' : a = b := by omega
    subst hab'
    have hlb := lb_eq (k := k) hb h1 (fun x hx => h2 a x (by omega) hx)
    refine cnd_i (fun h => ?_) fun h => ?_
    · have h := of_decide_eq_true h
      have ha : a < xs.length := by omega
      refine ⟨⟨by omega, by omega⟩, ?_⟩
      rw [Int.toNat_natCast]
      obtain ⟨ad, rfl, hcell⟩ := H.rd (i := i) .here hi a _ (i64s_get ha)
      refine ⟨_, by rw [Nat.mul_one]; exact hcell, cnd_i (fun e => ?_) fun e => ?_⟩
      · have e : xs[a] = k := by simpa using e
        unfold slices_BinarySearch__int_int_j1
        refine ⟨_, ⟨?_, rfl⟩, H⟩
        rw [hlb, List.getElem?_eq_getElem ha, e]; simp
      · have e : xs[a] ≠ k := by simpa using e
        refine ⟨⟨by omega, by omega⟩, ?_⟩
        rw [Int.toNat_natCast]
        refine ⟨_, by rw [Nat.mul_one]; exact hcell, ?_⟩
        refine call_p H (tri_plain (slNaN_plain xs[a])) (by repeat (first | exact Cut.nil | (apply Cut.cons; (repeat (first | exact Pick.here | apply Pick.there))))) fun wx H => ?_
        refine ⟨_, rfl, cnd_i (fun h => by cases h) fun _ => ?_⟩
        unfold slices_BinarySearch__int_int_j1
        refine ⟨_, ⟨?_, rfl⟩, H⟩
        rw [hlb, List.getElem?_eq_getElem ha]; simp [e]
    · have h := of_decide_eq_false h
      have ha : a = xs.length := by omega
      unfold slices_BinarySearch__int_int_j1
      refine ⟨_, ⟨?_, rfl⟩, H⟩
      rw [hlb, List.getElem?_eq_none (by omega)]; simp
end Go.Proofs.Ytmobpenjbaaicaa
