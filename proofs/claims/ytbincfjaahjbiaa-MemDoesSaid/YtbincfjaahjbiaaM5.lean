/-
  mem: a memory as a thing among things.
-/
import Derived.Test.YtbincfjaahjbiaaM4
import Derived.Test.YtbincfjaahjbiaaA1
namespace Go.Proofs.Ytbincfjaahjbiaa
open Go Go.RowKit X
set_option maxRecDepth 100000
set_option linter.unusedVariables false
def memI (b : Nat) (bs : List Int) : It where
  h := fun w S => ∃ d c rest, MemAt w (some ⟨b, 0, none⟩) b d c bs rest ∧ ∀ k, S k ↔ k = b ∨ k = d
  loc := fun ⟨d, c, rest, h1, h2⟩ hw _ => ⟨d, c, rest, h1.heap (hw _ ((h2 _).2 (.inl rfl))) (hw _ ((h2 _).2 (.inr rfl))), h2⟩
  lt := fun ⟨d, c, rest, h1, h2⟩ k hk => by rcases (h2 k).1 hk with rfl | rfl; exact h1.lt.1; exact h1.lt.2
theorem tri_mem {f : FuncId} {args : List Value} {b : Nat} {bs : List Int} {V : Value} (h : ∀ w d c rest, MemAt w (some ⟨b, 0, none⟩) b d c bs rest → CV P f args w fun v w' => v = V ∧ Below w.heap.size w w') :
    Tri P f args [memI b bs] fun v L' => v = V ∧ L' = [memI b bs] :=
  Tri.of_pure fun w S hS => let ⟨d, c, rest, h1, _⟩ := sep_one.1 hS; h w d c rest h1
theorem tri_mem_w {f : FuncId} {args : List Value} {b : Nat} {bs bs' : List Int} {V : Value}
    (h : ∀ w d c rest, MemAt w (some ⟨b, 0, none⟩) b d c bs rest → CV P f args w fun v w' => v = V ∧ Out (fun k => k = d) w w' ∧ MemAt w' (some ⟨b, 0, none⟩) b d c bs' rest) :
    Tri P f args [memI b bs] fun v L' => v = V ∧ L' = [memI b bs'] := by
  intro w S hS
  obtain ⟨d, c, rest, h1, h2⟩ := sep_one.1 hS
  exact (h w d c rest h1).mono fun v w' ⟨e, hO, hm⟩ => ⟨_, ⟨e, rfl⟩, own_one ⟨d, c, rest, hm, h2⟩ (hO.mono fun k _ hk => (h2 k).2 (.inr hk)) fun k hk => .inl hk⟩
theorem holds_t (b : Nat) (bs : List Int) (a s : Int) : Tri P F.mem_Mem_Holds [.pointer (some ⟨b, 0, none⟩), winV a s] [memI b bs] fun v L' => v = .bool (holdsB bs.length a s) ∧ L' = [memI b bs] := tri_mem fun w d c rest hm => holds_cv hm a s
theorem read_t (b : Nat) (bs : List Int) (a s o n : Int) : Tri P F.mem_Mem_Read [.pointer (some ⟨b, 0, none⟩), winV a s, .int .i64 o, .int .i64 n] [memI b bs] fun v L' => v = readV bs a s o n ∧ L' = [memI b bs] := tri_mem fun w d c rest hm => read_cv hm a s o n
theorem write_t (b : Nat) (bs : List Int) (a s o n v : Int) : Tri P F.mem_Mem_Write [.pointer (some ⟨b, 0, none⟩), winV a s, .int .i64 o, .int .i64 n, .int .u64 v] [memI b bs] fun r L' => r = .int .i64 (errE bs.length a s o n) ∧ L' = [memI b (writeM bs a s o n v)] :=
  tri_mem_w fun w d c rest hm => write_cv hm a s o n v
theorem wipe_t (b : Nat) (bs : List Int) (a s : Int) : Tri P F.mem_Mem_Wipe [.pointer (some ⟨b, 0, none⟩), winV a s] [memI b bs] fun r L' => r = .int .i64 (if holdsB bs.length a s then 0 else 42) ∧ L' = [memI b (if holdsB bs.length a s then over bs a.toNat (List.replicate s.toNat 0) else bs)] :=
  tri_mem_w fun w d c rest hm => wipe_cv hm a s
theorem new_t (n : Int) : Tri P F.mem_New [.int .i64 n] [] fun v L' => if 0 ≤ n ∧ n ≤ 131072 then ∃ b, v = .tuple [.pointer (some ⟨b, 0, none⟩), .int .i64 0].toArray ∧ L' = [memI b (List.replicate n.toNat 0)] else v = .tuple [.pointer none, .int .i64 1].toArray ∧ L' = [] := by
  intro w S hS
  refine (new_cv n).mono fun v w' ⟨hB, h⟩ => ?_
  split at h
  · rename_i hn
    obtain ⟨b, d, rfl, hm, hb, hd⟩ := h
    refine ⟨_, by dsimp only; rw [if_pos hn]; exact ⟨b, rfl, rfl⟩, (Own.start hS).add (i := memI b _) (S := fun k => k = b ∨ k = d) hB ⟨d, _, [], hm, fun _ => Iff.rfl⟩ ?_⟩
    rintro k (rfl | rfl) <;> assumption
  · rename_i hn
    exact ⟨[], by dsimp only; rw [if_neg hn]; exact ⟨h, rfl⟩, (Own.start hS).grow hB⟩
theorem bytes_t (b : Nat) (bs : List Int) (a s : Int) : Tri P F.mem_Mem_Bytes [.pointer (some ⟨b, 0, none⟩), winV a s] [memI b bs] fun v L' =>
    if holdsB bs.length a s then ∃ p c, v = .tuple [.slice p s.toNat c, .int .i64 0].toArray ∧ L' = [own tByte 1 (.slice p s.toNat c) s.toNat (u8s (cut bs a.toNat s.toNat)), memI b bs] else v = .tuple [.slice none 0 0, .int .i64 42].toArray ∧ L' = [memI b bs] := by
  intro w S hS
  obtain ⟨d, c, rest, hm, h2⟩ := sep_one.1 hS
  refine (bytes_cv hm a s).mono fun v w' ⟨hB, h⟩ => ?_
  split at h
  · rename_i hh
    obtain ⟨p, c', rfl, ho⟩ := h
    exact ⟨_, by dsimp only; rw [if_pos hh]; exact ⟨p, c', rfl, rfl⟩, own_add (Own.start hS) hB ho (Nat.le_refl _)⟩
  · rename_i hh
    exact ⟨_, by dsimp only; rw [if_neg hh]; exact ⟨h, rfl⟩, (Own.start hS).grow hB⟩
theorem put_t (b : Nat) (bs : List Int) (a s : Int) {q : Option Addr} {c' : Nat} {xs : List Int} (i : It) (hi : ∀ w S, i.h w S → Sl w q (u8s xs)) (hr : ∀ x ∈ xs, 0 ≤ x ∧ x < 256) :
    Tri P F.mem_Mem_Put [.pointer (some ⟨b, 0, none⟩), winV a s, .slice q xs.length c'] [memI b bs, i] fun v L' => v = .int .i64 (if holdsB bs.length a s && decide ((xs.length : Int) ≤ s) then 0 else 42) ∧
      L' = [memI b (if holdsB bs.length a s && decide ((xs.length : Int) ≤ s) then over bs a.toNat xs else bs), i] := by
  rintro w S ⟨S1, S2, ⟨d, c, rest, hm, h2⟩, hS2, h3, h4⟩
  refine (put_cv hm a s (hi w S2 (sep_one.1 hS2)) hr).mono fun v w' ⟨e, hO, hm'⟩ => ⟨_, ⟨e, rfl⟩, ?_⟩
  refine own_join (L2 := [memI b _]) hS2 h3 (Out.refl _ _) (fun k hk => .inl ((h4 k).2 hk)) (S' := S1) (sep_one.2 ⟨d, c, rest, hm', h2⟩) (hO.mono fun k _ hk => (h2 k).2 (.inr hk)) fun k hk => .inl hk
/-- copies of bytes that stand in a memory -/
theorem copy_t (b : Nat) (bs : List Int) : Tri P F.mem_Mem_Copy [.pointer (some ⟨b, 0, none⟩)] [memI b bs] fun v L' => ∃ b', v = .pointer (some ⟨b', 0, none⟩) ∧ L' = [memI b' bs, memI b bs] := by
  intro w S hS
  obtain ⟨d, c, rest, hm, h2⟩ := sep_one.1 hS
  refine mem_Mem_Copy_cv ?_
  unfold mem_Mem_Copy
  obtain ⟨t, r⟩ := hm.hb
  refine ldL_i r rfl ?_
  have hl := hm.hl
  have hc := hm.hc
  have hsl : Sl w (some ⟨d, 0, none⟩) (u8s bs) := by
    intro j u hj
    refine ⟨_, rfl, ?_⟩
    obtain ⟨td, rd⟩ := hm.hd
    have hj' : j < bs.length := by have := (List.getElem?_eq_some_iff.1 hj).1; rwa [u8s_length] at this
    rw [add_lit, Nat.zero_add, rd.cell, List.getElem?_append_left (by rw [u8s_length]; exact hj')]; exact hj
  refine (clone_cv hsl (by omega)).mono fun v w1 ⟨hB, p', c', e, ho, hsome⟩ => ?_
  subst e
  refine ⟨p', _, c', rfl, alc_i fun w2 hB2 h2' hs2 => ⟨_, ⟨w1.heap.size, rfl, rfl⟩, ?_⟩⟩
  have hsz := hB.size
  rcases ho.2 with ⟨e1, _⟩ | ⟨g, cap, cur, e1, e2, e3, e4, e5, e6, e7⟩
  · simp only [Value.slice.injEq] at e1
    rw [e1.1] at hsome; cases hsome rfl
  · simp only [Value.slice.injEq, true_and] at e1
    obtain ⟨rfl, rfl⟩ := e1
    have hlt := (Array.getElem?_eq_some_iff.1 e3).1
    have hcur : cur = (u8s bs ++ cur.toList.drop bs.length).toArray := by
      apply Array.toList_inj.1
      simp only [Nat.mul_one] at e7
      rw [← e7]; simp
    have hlen : bs.length ≤ cur.size := by omega
    refine (Own.start hS).add (i := memI w1.heap.size bs) (S := fun k => k = w1.heap.size ∨ k = g) (hB.trans (hB2 _ hsz)) ⟨g, c', cur.toList.drop bs.length, ⟨rfl, ⟨_, h2'⟩, ⟨tByte, ?_⟩, ?_, by omega, hm.hr, hm.hl⟩, fun _ => Iff.rfl⟩ ?_
    · unfold Row
      rw [(hB2 w1.heap.size (Nat.le_refl _)).block g hlt, ← hcur]
      exact e3
    · simp; omega
    · rintro k (rfl | rfl)
      · exact hsz
      · exact e2
end Go.Proofs.Ytbincfjaahjbiaa
