/-
  text: a text split, a number read, among things.
-/
import Derived.Test.YtbnadobjnmboiaaDoorU2
import Derived.Test.YtbnadobjnmboiaaDoorG2
import Derived.Lib.SmallJoins
import Derived.Lib.ParseIntBCases
namespace Go.Proofs.YtbnadobjnmboiaaDoor
open Go Go.RowKit X
set_option maxRecDepth 100000
set_option linter.unusedVariables false
/-- what the library's variables hold -/
structure LibAt (W : World) : Prop where
  pow : PowAt W
  syn : ∃ ev, W.cell? ⟨Tryd.laysC172_ren.g 15, 0, none⟩ = some ev ∧ (ev = .nilIface ∨ ∃ te pe, ev = .iface te pe)
  rng : ∃ ev, W.cell? ⟨Tryd.laysC172_ren.g 16, 0, none⟩ = some ev ∧ (ev = .nilIface ∨ ∃ te pe, ev = .iface te pe)
  max : ∃ m, W.cell? ⟨Tryd.laysM146_ren.g 1, 0, none⟩ = some (.int .i64 m)
theorem keep_cell {W w : World} {S : Nat → Prop} {a : Addr} {v : Value} (h : (X.keep W).h w S) (hc : W.cell? a = some v) : w.cell? a = some v := by
  obtain ⟨_, _, h3⟩ := h
  rw [World.cell?_of_block (h3 _ (World.block_lt_of_cell? _ _ hc))]; exact hc
theorem LibAt.keep {W w : World} {S : Nat → Prop} (hL : LibAt W) (h : (X.keep W).h w S) : LibAt w := by
  obtain ⟨h1, ⟨e, h2, h3⟩, ⟨f, h4, h5⟩, m, h6⟩ := hL
  exact ⟨h1.keep h, ⟨e, keep_cell h h2, h3⟩, ⟨f, keep_cell h h4, h5⟩, m, keep_cell h h6⟩
theorem atoiAll_fit {l : List UInt8} {v : Int} (h : Lib.atoiAll l = .ok v) : -9223372036854775808 ≤ v ∧ v ≤ 9223372036854775807 := by
  unfold Lib.atoiAll at h
  split at h
  · cases h
  · dsimp only at h
    split at h
    · cases h
    · cases h
    · split at h
      · cases h
      · split at h
        · cases h
        · rename_i h1 h2
          injection h with h
          subst h
          split
          · rename_i h3
            have := Nat.le_of_not_lt fun hh => h2 ⟨h3, hh⟩
            omega
          · rename_i h3
            have := Nat.lt_of_not_le fun hh => h1 ⟨h3, hh⟩
            omega
/-- what strconv.Atoi answers -/
def AtoiEnd (s : ByteArray) (n : Int) (e : Value) : Prop := (Lib.atoiAll s.data.toList = .ok n ∧ e = .nilIface) ∨ ((∀ m, Lib.atoiAll s.data.toList ≠ .ok m) ∧ ∃ t a, e = .iface t (.pointer (some a)))
theorem Atoi_t {W : World} (hL : LibAt W) (s : ByteArray) (hs : s.size ≤ 281474976710656) : Tri P F.strconv_Atoi [.string s] [keep W] fun v L' => (∃ n e, v = .tuple [.int .i64 n, e].toArray ∧ AtoiEnd s n e ∧ -9223372036854775808 ≤ n ∧ n ≤ 9223372036854775807) ∧ L' = [keep W] := by
  intro w S hS
  have hL := hL.keep (sep_one.1 hS)
  cases he : Lib.atoiAll s.data.toList with
  | ok v =>
    refine (callsIn_wide.2 (Any.strconv_Atoi_ok Tryd.laysC172 s (by omega) v he w)).mono fun x w' h => ?_
    obtain ⟨rfl, hw⟩ := h
    have hB : Below w.heap.size w w' := by
      rcases hw with rfl | ⟨t, rfl⟩
      · exact Below.refl _ _
      · exact Joins.below_bytesWorld _ _ _ _ (Nat.le_refl _)
    exact ⟨_, rfl, _, ⟨⟨v, _, rfl, .inl ⟨he, rfl⟩, atoiAll_fit he⟩, rfl⟩, (Own.start hS).grow hB⟩
  | «syntax» =>
    obtain ⟨ev, h1, h2⟩ := hL.syn
    refine (callsIn_wide.2 (Any.strconv_Atoi_syntax Tryd.laysC172 s hs he ev w h1 h2)).mono fun x w' h => ?_
    obtain ⟨N, rfl, -, -, hB⟩ := h
    exact ⟨_, rfl, _, ⟨⟨_, _, rfl, .inr ⟨fun m hm => (by rw [he] at hm; cases hm), _, _, rfl⟩, by decide, by decide⟩, rfl⟩, (Own.start hS).grow hB⟩
  | range =>
    obtain ⟨ev, h1, h2⟩ := hL.rng
    refine (callsIn_wide.2 (Any.strconv_Atoi_range Tryd.laysC172 s hs he ev w h1 h2)).mono fun x w' h => ?_
    obtain ⟨N, rfl, -, -, hB⟩ := h
    exact ⟨_, rfl, _, ⟨⟨_, _, rfl, .inr ⟨fun m hm => (by rw [he] at hm; cases hm), _, _, rfl⟩, by unfold Lib.atoiSat; split <;> exact ⟨by decide, by decide⟩⟩, rfl⟩, (Own.start hS).grow hB⟩
def splitW (s : ByteArray) : List ByteArray := Lib.splitB ⟨#[32]⟩ 0 (Lib.countB s ⟨#[32]⟩) s
theorem splitW_len (s : ByteArray) : (splitW s).length = Lib.countB s ⟨#[32]⟩ + 1 := Lib.splitB_all ⟨#[32]⟩ (by decide) 0 _ s rfl
theorem Split_t {W : World} (hL : LibAt W) (s : ByteArray) (hs : s.size < 4294967281) : Tri P F.strings_Split [.string s, .string ⟨#[32]⟩] [keep W] fun v L' => ∃ b, v = .slice (some ⟨b, 0, none⟩) (splitW s).length (splitW s).length ∧ L' = [row b ((splitW s).map Value.string) (Tryd.laysM146_ren.t 9), keep W] := by
  intro w S hS
  obtain ⟨m, hm⟩ := (hL.keep (sep_one.1 hS)).max
  refine (callsIn_wide.2 (Any.strings_Split { Tryd.laysM146 with } Tryd.laysM146.i9 s ⟨#[32]⟩ m w hs hm (by decide))).mono fun x w' h => ?_
  obtain ⟨rfl, rfl⟩ := h
  refine ⟨_, rfl, _, ⟨w.heap.size, by rw [splitW_len], rfl⟩, ?_⟩
  exact (Own.start hS).add (i := row w.heap.size _ _) ((Below.refl _ _).alloc (Nat.le_refl _) _) (S := fun k => k = w.heap.size) ⟨World.alloc_heap_new _ _, fun _ => Iff.rfl⟩ (by rintro k rfl; exact Nat.le_refl _)
theorem ParseUint_t {W : World} (hL : LibAt W) (s : ByteArray) (hs : s.size ≤ 281474976710656) : Tri P F.strconv_ParseUint [.string s, .int .i64 10, .int .i64 64] [keep W] fun v L' => (∃ (n : Int) (e : Value), v = .tuple [.int .u64 n, e].toArray ∧ (0 ≤ n ∧ n < 18446744073709551616) ∧ ∀ u : Nat, Lib.parseUintB 64 s.data.toList = .ok u → n = u) ∧ L' = [keep W] := by
  intro w S hS
  have hL := hL.keep (sep_one.1 hS)
  cases he : Lib.parseUintB 64 s.data.toList with
  | ok u =>
    refine (callsIn_wide.2 (Any.strconv_ParseUint_10_at64_ok Tryd.laysPu14 s (by omega) u he w)).mono fun x w' h => ?_
    obtain ⟨rfl, hw⟩ := h
    have hB : Below w.heap.size w w' := by
      rcases hw with rfl | rfl
      · exact Below.refl _ _
      · exact Joins.below_bytesWorld _ _ _ _ (Nat.le_refl _)
    exact ⟨_, rfl, _, ⟨⟨(u : Int), _, rfl, (by have := Lib.parseUintB_le he; omega), fun u' hu => by cases hu; rfl⟩, rfl⟩, (Own.start hS).grow hB⟩
  | «syntax» =>
    obtain ⟨ev, h1, h2⟩ := hL.syn
    refine (callsIn_wide.2 (Any.strconv_ParseUint_10_at64_syntax Tryd.laysPu14 s hs he ev w h1 h2)).mono fun x w' h => ?_
    obtain ⟨N, rfl, -, -, hB⟩ := h
    exact ⟨_, rfl, _, ⟨⟨_, _, rfl, ⟨by decide, by decide⟩, fun u' hu => by cases hu⟩, rfl⟩, (Own.start hS).grow hB⟩
  | range =>
    obtain ⟨ev, h1, h2⟩ := hL.rng
    refine (callsIn_wide.2 (Any.strconv_ParseUint_10_at64_range Tryd.laysPu14 s hs he ev w h1 h2)).mono fun x w' h => ?_
    obtain ⟨N, rfl, -, -, hB⟩ := h
    exact ⟨_, rfl, _, ⟨⟨_, _, rfl, ⟨by decide, by decide⟩, fun u' hu => by cases hu⟩, rfl⟩, (Own.start hS).grow hB⟩
end Go.Proofs.YtbnadobjnmboiaaDoor
