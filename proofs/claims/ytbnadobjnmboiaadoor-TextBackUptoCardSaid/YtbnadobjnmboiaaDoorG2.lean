/-
  words joined by a byte are what the joined text is split into.
-/
import Derived.Test.YtbnadobjnmboiaaDoorS1
import Derived.Lib.SplitLaws
import Derived.Lib.IndexBytes
import Derived.Lib.Join
namespace Go.Proofs.YtbnadobjnmboiaaDoor
open Go Go.Lib
set_option linter.unusedVariables false
theorem index_here (c : UInt8) : ∀ (x t : List UInt8), c ∉ x → index (x ++ c :: t) [c] = x.length
  | [], t, _ => by
    show index (c :: t) [c] = 0
    unfold index
    rw [if_pos (by simp)]
  | b :: x, t, h => by
    rw [List.mem_cons, not_or] at h
    have ih := index_here c x t h.2
    show index (b :: (x ++ c :: t)) [c] = _
    unfold index
    rw [if_neg (by simp; exact h.1), ih, if_neg (by simp)]
    simp
theorem index_no (c : UInt8) : ∀ (x : List UInt8), c ∉ x → index x [c] = -1
  | [], _ => rfl
  | b :: x, h => by
    rw [List.mem_cons, not_or] at h
    unfold index
    rw [if_neg (by simp; exact h.1), index_no c x h.2]; rfl
theorem join_two (c : UInt8) (x y : List UInt8) (r : List (List UInt8)) : join (x :: y :: r) [c] = x ++ c :: join (y :: r) [c] := by
  rw [join_cons, join_cons]
  simp [joinTail]
theorem split_join (c : UInt8) : ∀ (xs : List (List UInt8)), xs ≠ [] → (∀ x ∈ xs, c ∉ x) → splitK [c] 0 (xs.length - 1) (join xs [c]) = xs
  | [], h, _ => absurd rfl h
  | [x], _, _ => by rw [join_one]; rfl
  | x :: y :: r, _, h => by
    have ih := split_join c (y :: r) (by simp) fun z hz => h z (List.mem_cons_of_mem _ hz)
    have hx := h x (by simp)
    rw [join_two]
    show splitK [c] 0 ((y :: r).length - 1 + 1) _ = _
    unfold splitK
    rw [index_here c x _ hx, if_neg (by simp)]
    have e1 : (x ++ c :: join (y :: r) [c]).take ((x.length : Int).toNat + 0) = x := by simp
    have e2 : (x ++ c :: join (y :: r) [c]).drop ((x.length : Int).toNat + [c].length) = join (y :: r) [c] := by
      rw [Int.toNat_natCast]
      have : x ++ c :: join (y :: r) [c] = (x ++ [c]) ++ join (y :: r) [c] := by simp
      rw [this, List.drop_left' (by simp)]
    rw [e1, e2, ih]
theorem count_join (c : UInt8) : ∀ (xs : List (List UInt8)), xs ≠ [] → (∀ x ∈ xs, c ∉ x) → count (join xs [c]) [c] = xs.length - 1
  | [], h, _ => absurd rfl h
  | [x], _, h => by
    rw [join_one, count_one, List.count_eq_zero.2 (h x (by simp))]; rfl
  | x :: y :: r, _, h => by
    have ih := count_join c (y :: r) (by simp) fun z hz => h z (List.mem_cons_of_mem _ hz)
    rw [count_one] at ih ⊢
    rw [join_two, List.count_append, List.count_cons_self, ih, List.count_eq_zero.2 (h x (by simp))]
    simp
theorem bytes_ext {a b : ByteArray} (h : a.data.toList = b.data.toList) : a = b := by
  cases a; cases b
  simp at h
  rw [h]
theorem map_inj : ∀ {a b : List ByteArray}, a.map (·.data.toList) = b.map (·.data.toList) → a = b
  | [], [], _ => rfl
  | [], _ :: _, h => by cases h
  | _ :: _, [], h => by cases h
  | x :: a, y :: b, h => by
    rw [List.map_cons, List.map_cons, List.cons.injEq] at h
    rw [bytes_ext h.1, map_inj h.2]
/-- a text that is words joined by the byte -/
theorem splitB_join (c : UInt8) {s : ByteArray} {ws : List ByteArray} (hne : ws ≠ []) (h : ∀ x ∈ ws, c ∉ x.data.toList) (hs : s.data.toList = join (ws.map (·.data.toList)) [c]) : splitB ⟨#[c]⟩ 0 (countB s ⟨#[c]⟩) s = ws := by
  have hne2 : ws.map (·.data.toList) ≠ [] := by simpa using hne
  have h2 : ∀ x ∈ ws.map (·.data.toList), c ∉ x := by
    intro x hx
    obtain ⟨y, hy, rfl⟩ := List.mem_map.1 hx
    exact h y hy
  have hc : countB s ⟨#[c]⟩ = (ws.map (·.data.toList)).length - 1 := by
    have := count_join c _ hne2 h2
    rw [← hs] at this
    exact this
  have hd := splitB_data ⟨#[c]⟩ 0 (countB s ⟨#[c]⟩) s
  rw [hc, hs] at hd
  have e : (⟨#[c]⟩ : ByteArray).data.toList = [c] := rfl
  rw [e, split_join c _ hne2 h2] at hd
  rw [hc]
  exact map_inj hd
end Go.Proofs.YtbnadobjnmboiaaDoor
