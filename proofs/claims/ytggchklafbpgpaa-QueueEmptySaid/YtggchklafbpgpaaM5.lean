/-
  mem: a memory as a thing among things.
-/
import Derived.Test.YtggchklafbpgpaaM4
import Derived.Test.YtggchklafbpgpaaA1
namespace Go.Proofs.Ytggchklafbpgpaa
open Go Go.RowKit X
set_option maxRecDepth 100000
set_option linter.unusedVariables false
def memI (b : Nat) (bs : List Int) : It where
  h := fun w S => ∃ d c rest, MemAt w (some ⟨b, 0, none⟩) b d c bs rest ∧ ∀ k, S k ↔ k = b ∨ k = d
  loc := fun ⟨d, c, rest, h1, h2⟩ hw _ => ⟨d, c, rest, h1.heap (hw _ ((h2 _).2 (.inl rfl))) (hw _ ((h2 _).2 (.inr rfl))), h2⟩
  lt := fun ⟨d, c, rest, h1, h2⟩ k hk => by rcases (h2 k).1 hk with rfl | rfl; exact h1.lt.1; exact h1.lt.2
theorem tri_mem {f : FuncId} {args : List Value} {b : Nat} {bs : List Int} {V : Value} (h : ∀ w d c rest, MemAt w (some ⟨b, 0, none⟩) b d c bs rest → CV P f args w fun v w' => v = V ∧ Below w.heap.size w w') :
    Tri P f args [memI b bs] fun v L' => v = V ∧ L' = [memI b bs] :=
  Tri.of_pure fun w S hS => let ⟨d, c, rest, h1, _⟩ := sep_one.1 hS; h w d c rest h1
theorem tri_mem_w {f : FuncId} {args : List Value} {b : Nat} {bs bs' : List Int} {V : Value}
    (h : ∀ w d c rest, MemAt w (some ⟨b, 0, none⟩) b d c bs rest → CV P f args w fun v w' => v = V ∧ Out (fun k => k = d) w w' ∧ MemAt w' (some ⟨b, 0, none⟩) b d c bs' rest) :
    Tri P f args [memI b bs] fun v L' => v = V ∧ L' = [memI b bs'] := by
  intro w S hS
  obtain ⟨d, c, rest, h1, h2⟩ := sep_one.1 hS
  exact (h w d c rest h1).mono fun v w' ⟨e, hO, hm⟩ => ⟨_, ⟨e, rfl⟩, own_one ⟨d, c, rest, hm, h2⟩ (hO.mono fun k _ hk => (h2 k).2 (.inr hk)) fun k hk => .inl hk⟩
theorem holds_t (b : Nat) (bs : List Int) (a s : Int) : Tri P F.mem_Mem_Holds [.pointer (some ⟨b, 0, none⟩), winV a s] [memI b bs] fun v L' => v = .bool (holdsB bs.length a s) ∧ L' = [memI b bs] := tri_mem fun w d c rest hm => holds_cv hm a s
theorem read_t (b : Nat) (bs : List Int) (a s o n : Int) : Tri P F.mem_Mem_Read [.pointer (some ⟨b, 0, none⟩), winV a s, .int .i64 o, .int .i64 n] [memI b bs] fun v L' => v = readV bs a s o n ∧ L' = [memI b bs] := tri_mem fun w d c rest hm => read_cv hm a s o n
theorem write_t (b : Nat) (bs : List Int) (a s o n v : Int) : Tri P F.mem_Mem_Write [.pointer (some ⟨b, 0, none⟩), winV a s, .int .i64 o, .int .i64 n, .int .u64 v] [memI b bs] fun r L' => r = .int .i64 (errE bs.length a s o n) ∧ L' = [memI b (writeM bs a s o n v)] :=
  tri_mem_w fun w d c rest hm => write_cv hm a s o n v
theorem new_t (n : Int) : Tri P F.mem_New [.int .i64 n] [] fun v L' => if 0 ≤ n ∧ n ≤ 131072 then ∃ b, v = .tuple [.pointer (some ⟨b, 0, none⟩), .int .i64 0].toArray ∧ L' = [memI b (List.replicate n.toNat 0)] else v = .tuple [.pointer none, .int .i64 1].toArray ∧ L' = [] := by
  intro w S hS
  refine (new_cv n).mono fun v w' ⟨hB, h⟩ => ?_
  split at h
  · rename_i hn
    obtain ⟨b, d, rfl, hm, hb, hd⟩ := h
    refine ⟨_, by dsimp only; rw [if_pos hn]; exact ⟨b, rfl, rfl⟩, (Own.start hS).add (i := memI b _) (S := fun k => k = b ∨ k = d) hB ⟨d, _, [], hm, fun _ => Iff.rfl⟩ ?_⟩
    rintro k (rfl | rfl) <;> assumption
  · rename_i hn
    exact ⟨[], by dsimp only; rw [if_neg hn]; exact ⟨h, rfl⟩, (Own.start hS).grow hB⟩
theorem bytes_t (b : Nat) (bs : List Int) (a s : Int) : Tri P F.mem_Mem_Bytes [.pointer (some ⟨b, 0, none⟩), winV a s] [memI b bs] fun v L' =>
    if holdsB bs.length a s then ∃ p c, v = .tuple [.slice p s.toNat c, .int .i64 0].toArray ∧ L' = [own tByte 1 (.slice p s.toNat c) s.toNat (u8s (cut bs a.toNat s.toNat)), memI b bs] else v = .tuple [.slice none 0 0, .int .i64 42].toArray ∧ L' = [memI b bs] := by
  intro w S hS
  obtain ⟨d, c, rest, hm, h2⟩ := sep_one.1 hS
  refine (bytes_cv hm a s).mono fun v w' ⟨hB, h⟩ => ?_
  split at h
  · rename_i hh
    obtain ⟨p, c', rfl, ho⟩ := h
    exact ⟨_, by dsimp only; rw [if_pos hh]; exact ⟨p, c', rfl, rfl⟩, own_add (Own.start hS) hB ho (Nat.le_refl _)⟩
  · rename_i hh
    exact ⟨_, by dsimp only; rw [if_neg hh]; exact ⟨h, rfl⟩, (Own.start hS).grow hB⟩
end Go.Proofs.Ytggchklafbpgpaa
