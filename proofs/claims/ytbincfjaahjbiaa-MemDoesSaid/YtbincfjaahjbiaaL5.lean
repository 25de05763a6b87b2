/-
  mem: two new memories, the program's and the document's; the acts of a script.
-/
import Derived.Test.YtbincfjaahjbiaaL4
namespace Go.Proofs.Ytbincfjaahjbiaa
open Go Go.RowKit X
set_option maxRecDepth 100000
set_option linter.unusedVariables false
theorem lawNew_cv {w : World} (n : Int) : CV P F.crierlaw04_New [.int .i64 n] w fun v w' => Below w.heap.size w w' ∧ ∃ (b d b' d' N : Nat), N ≤ 4096 ∧ v = .tuple [.pointer (some ⟨b, 0, none⟩), .pointer (some ⟨b', 0, none⟩)].toArray ∧
    MemAt w' (some ⟨b, 0, none⟩) b d N (List.replicate N 0) [] ∧ MemAt w' (some ⟨b', 0, none⟩) b' d' N (List.replicate N 0) [] ∧ w.heap.size ≤ b ∧ w.heap.size ≤ d ∧ b < d' ∧ d < d' ∧ b < b' ∧ d < b' := by
  refine crierlaw04_New_cv ?_
  unfold crierlaw04_New JoinT
  have go : ∀ m : Int, 0 ≤ m → m ≤ 4096 → crierlaw04_New_j0 (fun v w' => Below w.heap.size w w' ∧ ∃ (b d b' d' N : Nat), N ≤ 4096 ∧ v = .tuple [.pointer (some ⟨b, 0, none⟩), .pointer (some ⟨b', 0, none⟩)].toArray ∧
    MemAt w' (some ⟨b, 0, none⟩) b d N (List.replicate N 0) [] ∧ MemAt w' (some ⟨b', 0, none⟩) b' d' N (List.replicate N 0) [] ∧ w.heap.size ≤ b ∧ w.heap.size ≤ d ∧ b < d' ∧ d < d' ∧ b < b' ∧ d < b') m w := by
    intro m h0 h1
    unfold crierlaw04_New_j0
    refine (new_cv (w := w) m).mono ?_
    rintro _ w1 ⟨hB1, h⟩
    rw [if_pos (by omega)] at h
    obtain ⟨b, d, rfl, hm, hb, hd⟩ := h
    refine ⟨_, 0, rfl, cnd_i (fun h => by cases h) fun _ => ?_⟩
    unfold drw
    have hlt := hm.lt
    have hs1 := hB1.size
    refine make_i appBytes zeroByte (w := w1.drew) h0 (by omega) (by omega) fun w2 hB2 h2 hs2 => alc_i fun w3 hB3 h3 hs3 => ?_
    have e1 : w1.drew.heap.size = w1.heap.size := rfl
    have hB13 : Below w1.heap.size w1 w3 := ((Below.refl _ w1).drew.trans (hB2 _ (Nat.le_refl _))).trans (hB3 _ (by omega))
    refine ⟨hB1.trans (hB13.mono hs1), b, d, w2.heap.size, w1.heap.size, m.toNat, by omega, rfl, hm.ext hB13, ?_, hb, hd, hlt.1, hlt.2, by omega, by omega⟩
    have hb' : ∃ t, Row w3 w2.heap.size [.slice (some ⟨w1.heap.size, 0, none⟩) (List.replicate m.toNat (0 : Int)).length m.toNat] t := by rw [List.length_replicate]; exact ⟨_, h3⟩
    have hd' : ∃ t, Row w3 w1.heap.size (u8s (List.replicate m.toNat 0) ++ []) t := by
      have := h2.below (hB3 w2.heap.size (Nat.le_refl _)) (by omega)
      exact ⟨_, by simpa [u8s] using this⟩
    exact ⟨rfl, hb', hd', by simp, by omega, by intro x hx; rw [(List.mem_replicate.1 hx).2]; omega, by simp; omega⟩
  unfold crierlaw04_New_j1
  refine cnd_i (fun h => ?_) fun h => ?_
  · exact cnd_i (fun _ => go 200 (by omega) (by omega)) fun h => by cases h
  · have h := of_decide_eq_false h
    refine cnd_i (fun h' => go 200 (by omega) (by omega)) fun h' => ?_
    have h' := of_decide_eq_false h'
    exact go n (by omega) (by omega)
/-- an act as it lies in memory from an address on -/
def ActAt (w : World) (a : Addr) (k x s o n v : Int) (q : Option Addr) (c : Nat) (xs : List Int) : Prop :=
  w.cell? a = some (.int .i64 k) ∧ w.cell? (a.add 1) = some (.int .i64 x) ∧ w.cell? (a.add 2) = some (.int .i64 s) ∧ w.cell? (a.add 3) = some (.int .i64 o) ∧ w.cell? (a.add 4) = some (.int .i64 n) ∧ w.cell? (a.add 5) = some (.int .u64 v) ∧
    w.cell? (a.add 6) = some (.slice q xs.length c) ∧ Sl w q (u8s xs) ∧ (∀ y ∈ xs, 0 ≤ y ∧ y < 256) ∧ xs.length ≤ 140737488355328 ∧ 0 ≤ v ∧ v < 2 ^ 64
/-- a script's acts as they lie in memory -/
def Acts (w : World) (p : Option Addr) (m : Nat) : Prop := ∀ j, j < m → ∃ a k x s o n v q c xs, p = some a ∧ ActAt w (a.add (j * 7)) k x s o n v q c xs
theorem ActAt.ext {w w' : World} {a : Addr} {k x s o n v : Int} {q : Option Addr} {c : Nat} {xs : List Int} (h : ActAt w a k x s o n v q c xs) (hB : Below w.heap.size w w') : ActAt w' a k x s o n v q c xs := by
  have f : ∀ {b : Addr} {u : Value}, w.cell? b = some u → w'.cell? b = some u := fun hc => by rw [hB.cell (World.block_lt_of_cell? w _ hc)]; exact hc
  obtain ⟨h0, h1, h2, h3, h4, h5, h6, h7, h8⟩ := h
  exact ⟨f h0, f h1, f h2, f h3, f h4, f h5, f h6, sl_below h7 hB, h8⟩
end Go.Proofs.Ytbincfjaahjbiaa
