/-
  text: the library's functions as contracts among things: a number's text; texts joined.
-/
import Derived.Test.YtbnadobjnmboiaaDoorU1
import Derived.Test.YtbnadobjnmboiaaDoorTy
import Derived.Test.YtbnadobjnmboiaaDoorA6
namespace Go.Proofs.YtbnadobjnmboiaaDoor
open Go Go.RowKit X
set_option maxRecDepth 100000
set_option linter.unusedVariables false
def PowAt (W : World) : Prop := Lib.TabIs P W "internal/strconv.uint64pow10" .u64 Lib.pow10Tab
theorem PowAt.keep {W w : World} {S : Nat → Prop} (hT : PowAt W) (h : (X.keep W).h w S) : PowAt w := by
  obtain ⟨_, _, h3⟩ := h
  unfold PowAt Lib.TabIs World.var? at *
  cases hg : P.globalNamed "internal/strconv.uint64pow10" with
  | none => rw [hg] at hT; exact hT
  | some g =>
    rw [hg] at hT
    simp only [Option.bind_some] at hT ⊢
    have hlt : g < W.heap.size := by
      rcases Nat.lt_or_ge g W.heap.size with h | h
      · exact h
      · rw [Array.getElem?_eq_none h] at hT; cases hT
    rw [h3 g hlt]
    exact hT
def strV (l : List UInt8) : Value := .string ⟨l.toArray⟩
theorem Itoa_t {W : World} (hT : PowAt W) (n : Int) (hn : -9223372036854775808 ≤ n ∧ n ≤ 9223372036854775807) : Tri P F.strconv_Itoa [.int .i64 n] [keep W] fun v L' => v = strV (Lib.itoa n) ∧ L' = [keep W] := by
  refine Tri.of_pure fun w S hS => ?_
  refine (callsIn_wide.2 (Any.strconv_Itoa Tryd.laysM171 n hn.1 hn.2 w (hT.keep (sep_one.1 hS)))).mono fun e w' h => ?_
  obtain ⟨rfl, k, os, rfl⟩ := h
  have hd : ∀ (k : Nat) (w : World), (w.drewN k).heap = w.heap ∧ (w.drewN k).os = w.os ∧ (w.drewN k).tape = w.tape ∧ (w.drewN k).output = w.output := by
    intro k
    induction k with
    | zero => intro w; exact ⟨rfl, rfl, rfl, rfl⟩
    | succ k ih => intro w; simp [World.drewN]
  obtain ⟨h1, h2, h3, h4⟩ := hd k w
  refine ⟨_, rfl, rfl, h2, h3, h4, ?_, fun j hj => ?_⟩
  · show w.heap.size ≤ ((w.drewN k).heap ++ os).size
    rw [h1]; simp
  · show ((w.drewN k).heap ++ os)[j]? = _
    rw [h1, Array.getElem?_append_left hj]
theorem Join_t (i : It) {p : Option Addr} {c : Nat} (xs : List ByteArray) (sep : ByteArray) (hi : ∀ w S, i.h w S → Sl w p (xs.map Value.string)) (hp : ∀ w S, i.h w S → ∃ b, p = some ⟨b, 0, none⟩) (hne : xs ≠ []) (hN : xs.length ≤ 140737488355328) (hc : xs.length ≤ c)
    (hlen : (Lib.join (xs.map (·.data.toList)) sep.data.toList).length ≤ 140737488355328) :
    Tri P F.strings_Join [.slice p xs.length c, .string sep] [i] fun v L' => v = strV (Lib.join (xs.map (·.data.toList)) sep.data.toList) ∧ L' = [i] := by
  refine Tri.of_pure fun w S hS => ?_
  have hS := sep_one.1 hS
  obtain ⟨b, rfl⟩ := hp w S hS
  have hsl := hi w S hS
  have hcells : ∀ (j : Nat) x, xs[j]? = some x → w.cell? ⟨b, 0 + j, none⟩ = some (.string x) := by
    intro j x hj
    obtain ⟨a, ha, hcl⟩ := hsl j (.string x) (by rw [List.getElem?_map, hj]; rfl)
    cases ha
    rw [add_lit] at hcl
    exact hcl
  have hbk : b < w.heap.size := by
    cases xs with
    | nil => exact absurd rfl hne
    | cons x r => exact World.block_lt_of_cell? _ _ (hcells 0 x rfl)
  refine (callsIn_wide.2 (Any.strings_Join Tryd.lays156 Tryd.Builder_Extra_156 b 0 c xs sep w hcells hbk hN hc hlen)).mono fun e w' h => ?_
  obtain ⟨rfl, hB⟩ := h
  exact ⟨_, rfl, rfl, hB⟩
end Go.Proofs.YtbnadobjnmboiaaDoor
