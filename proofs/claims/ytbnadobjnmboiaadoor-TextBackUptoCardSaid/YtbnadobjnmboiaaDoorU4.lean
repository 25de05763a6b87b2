/-
  text: strconv.FormatUint at base ten.
-/
import Derived.Test.YtbnadobjnmboiaaDoorU3
import Derived.Lib.ItoaMem
import Derived.Test.YtbnadobjnmboiaaDoorS7
import Derived.Test.YtbnadobjnmboiaaDoorS6
import Derived.Shelf.Strconv.Itoa3
namespace Go.Proofs.YtbnadobjnmboiaaDoor
open Go Go.RowKit X Go.Sort
set_option maxRecDepth 100000
set_option linter.unusedVariables false
theorem holds_zero0 (w : World) (T : TypeId) (nd : Nat) (hs : nd ≤ 24) : Holds (fun (b : UInt8) => Value.int .u8 (b.toNat : Int)) (w.alloc (.cells Lib.zeros24 T)) w.heap.size 0 (Array.replicate nd (0 : UInt8)) := fun j hj => by
  have hj' : j < nd := by simpa using hj
  refine ⟨?_, World.frozen?_alloc_new _ _ _ _⟩
  rw [World.cell?_alloc_new, Lib.zeros24_at _ (by omega), getElem!_pos _ j hj]
  simp
theorem fin0 (w : World) (o : Obj) (dk : Array UInt8) (k : Nat) : ∃ os, (putRow (fun (b : UInt8) => Value.int .u8 (b.toNat : Int)) (w.alloc o) w.heap.size 0 dk).drewN k = grow (w.drewN k) os := by
  rw [alloc_eq_grow]
  obtain ⟨os', _, e⟩ := putRow_grow_new (fun (b : UInt8) => Value.int .u8 (b.toNat : Int)) w #[o] w.heap.size 0 dk (Nat.le_refl _)
  exact ⟨os', by rw [e]; rfl⟩
theorem below_grown (w : World) (k : Nat) (os : Array Obj) : Below w.heap.size w (grow (w.drewN k) os) := by
  have hd : ∀ (k : Nat) (w : World), (w.drewN k).heap = w.heap ∧ (w.drewN k).os = w.os ∧ (w.drewN k).tape = w.tape ∧ (w.drewN k).output = w.output := by
    intro k
    induction k with
    | zero => intro w; exact ⟨rfl, rfl, rfl, rfl⟩
    | succ k ih => intro w; simp [World.drewN]
  obtain ⟨h1, h2, h3, h4⟩ := hd k w
  refine ⟨h2, h3, h4, ?_, fun j hj => ?_⟩
  · show w.heap.size ≤ ((w.drewN k).heap ++ os).size
    rw [h1]; simp
  · show ((w.drewN k).heap ++ os)[j]? = _
    rw [h1, Array.getElem?_append_left hj]
theorem strOf_bytes (l : List UInt8) : strOf (l.map fun b => (b.toNat : Int)) = ⟨l.toArray⟩ := by
  unfold strOf
  rw [foldl_push_byteCells]
  have e : ByteArray.empty.data = #[] := rfl
  rw [e, Array.empty_append]
theorem fmtU_cv {W : World} (hT : PowAt W) (u : Nat) (hu : u < 18446744073709551616) : CV P F.internal_strconv_FormatUint [.int .u64 u, .int .i64 10] W fun v w' => v = strV (Lib.decDigits u) ∧ Below W.heap.size W w' := by
  refine internal_strconv_FormatUint_cv ?_
  unfold internal_strconv_FormatUint
  refine cnd_i (fun _ => ?_) (fun h => by cases h)
  refine cnd_i (fun h => ?_) fun h => ?_
  · have h := of_decide_eq_true h
    rw [W_id (by omega) (by omega)]
    refine (callsIn_wide.2 (Any.internal_strconv_small { Tryd.laysM171 with } u (by omega) W)).mono fun e w' hh => ?_
    obtain ⟨rfl, rfl⟩ := hh
    exact ⟨_, rfl, _, rfl, rfl, Below.refl _ _⟩
  · have h := of_decide_eq_false h
    have hu1 : 1 ≤ u := by omega
    have hnd : Lib.nDigits u ≤ 20 := by have := Lib.numDigits_eq u hu1 hu; split at this <;> omega
    unfold alc
    refine (callsIn_wide.2 (Any.internal_strconv_numDigits { Tryd.laysM171 with } u hu1 hu _ (Lib.tabIs_alloc hT _))).mono fun e w' hh => ?_
    obtain ⟨rfl, rfl⟩ := hh
    refine ⟨_, rfl, _, rfl, ?_⟩
    have hsl : ∀ (b : Nat) {K : Option Addr → Nat → Nat → Prop}, K (some ⟨b, 0, none⟩) (Lib.nDigits u) 24 → slL (some ⟨b, 0, none⟩) 24 24 1 none (some (Lib.nDigits u : Int)) none K := by
      intro b K k
      refine ⟨(by intro x hx; cases hx), ?_, (by intro x hx; cases hx), ?_⟩
      · intro x hx; cases hx; simp; omega
      simp only [Option.map_some, Option.map_none, Option.getD_some, Option.getD_none, Int.toNat_natCast, Nat.sub_zero]
      rw [if_neg (by omega)]
      have : (⟨b, 0, none⟩ : Addr).add (0 * 1) = ⟨b, 0, none⟩ := by rw [add_lit]
      simpa [this] using k
    refine hsl _ ?_
    have hH := holds_zero0 W T.t104 (Lib.nDigits u) (by omega)
    have hf := Any.internal_strconv_formatBase10 (P := Tryd.prog) (ρ := Tryd.laysM171_ren) { Tryd.laysM171 with } W.heap.size 0 24 u (Array.replicate (Lib.nDigits u) 0) (W.alloc (.cells Lib.zeros24 T.t104)) hH (by rw [Array.size_replicate]; exact Lib.lt_pow_nDigits u) hu (by rw [Array.size_replicate]; omega)
    rw [Array.size_replicate] at hf
    refine (callsIn_wide.2 hf).mono fun e w' hh => ?_
    obtain ⟨rfl, k, v', dk, rfl, hF⟩ := hh
    refine ⟨_, rfl, rfl, hsl _ ?_⟩
    have hlen : (Lib.decDigits u).length = Lib.nDigits u := Lib.decDigits_length u
    refine bts_i (xs := (Lib.decDigits u).map fun b => (b.toNat : Int)) ?_ (by rw [List.length_map, hlen]) ?_
    · intro j v hj
      refine ⟨_, rfl, ?_⟩
      rw [add_lit]
      have hj2 : j < (Lib.decDigits u).length := by
        have := (List.getElem?_eq_some_iff.1 hj).1
        simpa [u8s] using this
      have e : v = .int .u8 (((Lib.decDigits u)[j]).toNat : Int) := by
        unfold u8s at hj
        rw [List.map_map, List.getElem?_map, List.getElem?_eq_getElem hj2] at hj
        exact (Option.some.inj hj).symm
      rw [e, Lib.row_is_numeral hF j hj2, World.cell?_drewN]
      exact cell?_putRow (fun (b : UInt8) => Value.int .u8 (b.toNat : Int)) _ W.heap.size 0 _ dk hH (by rw [hF.size, Array.size_replicate]) j (by rw [hF.size]; omega)
    · obtain ⟨os, eo⟩ := fin0 W (.cells Lib.zeros24 T.t104) dk k
      rw [strOf_bytes, eo]
      exact ⟨rfl, below_grown _ _ _⟩
theorem FormatUint_t {W : World} (hT : PowAt W) (u : Nat) (hu : u < 18446744073709551616) : Tri P F.strconv_FormatUint [.int .u64 u, .int .i64 10] [keep W] fun v L' => v = strV (Lib.decDigits u) ∧ L' = [keep W] := by
  intro w S hS
  refine strconv_FormatUint_cv ?_
  unfold strconv_FormatUint
  refine (fmtU_cv (hT.keep (sep_one.1 hS)) u hu).mono fun v w' hh => ?_
  obtain ⟨rfl, hB⟩ := hh
  exact ⟨_, rfl, _, ⟨rfl, rfl⟩, (Own.start hS).grow hB⟩
end Go.Proofs.YtbnadobjnmboiaaDoor
