/-
  E: small laws for the functions' words: boxes, loads, stores, frames.
-/
import Derived.Test.YtbnadobjnmboiaaDoorX8
import Derived.Below
import Derived.Laws.AppendOwn
namespace Go.Proofs.YtbnadobjnmboiaaDoor.X
open Go Go.RowKit
variable {P : Program} {w : World}

theorem CV.mono {f : FuncId} {args : List Value} {Q Q' : Value → World → Prop} (h : CV P f args w Q) (hq : ∀ v w', Q v w' → Q' v w') : CV P f args w Q' :=
  CallsIn.mono h fun _ _ ⟨v, e, h⟩ => ⟨v, e, hq _ _ h⟩
theorem YV.mono {l : Nat} {args : List Value} {Q Q' : Value → World → Prop} (h : YV P l args w Q) (hq : ∀ v w', Q v w' → Q' v w') : YV P l args w Q' := by
  obtain ⟨r, h1, h2, h3⟩ := h
  exact ⟨r, h1, h2, RoundIn.mono h3 fun _ _ ⟨v, e, h⟩ => ⟨v, e, hq _ _ h⟩⟩
theorem cnd_i {b : Bool} {x y : Prop} (h1 : b = true → x) (h2 : b = false → y) : cnd b x y := by
  cases b
  · exact h2 rfl
  · exact h1 rfl
/-- a row of cells, not shared -/
def Row (w : World) (b : Nat) (cs : List Value) (t : TypeId) : Prop := w.heap[b]? = some (.cells cs.toArray t (0, 0))
theorem Row.lt {b : Nat} {cs : List Value} {t : TypeId} (h : Row w b cs t) : b < w.heap.size := (Array.getElem?_eq_some_iff.1 h).1
theorem Row.below {B : Nat} {w' : World} {b : Nat} {cs : List Value} {t : TypeId} (h : Row w b cs t) (hB : Below B w w') (hb : b < B) : Row w' b cs t := by
  unfold Row; rw [hB.block b hb]; exact h
theorem Row.ext {w' : World} {b : Nat} {cs : List Value} {t : TypeId} (h : Row w b cs t) (hB : Below w.heap.size w w') : Row w' b cs t := h.below hB h.lt
theorem Row.cell {b : Nat} {cs : List Value} {t : TypeId} (h : Row w b cs t) (i : Nat) : w.cell? ⟨b, i, none⟩ = cs[i]? := by
  unfold Row at h; simp [World.cell?, h]
theorem Row.frozen {b : Nat} {cs : List Value} {t : TypeId} (h : Row w b cs t) (i : Nat) : w.frozen? ⟨b, i, none⟩ = false := by
  unfold Row at h; simp [World.frozen?, h]
theorem Row.drew {b : Nat} {cs : List Value} {t : TypeId} (h : Row w b cs t) : Row w.drew b cs t := h
theorem alc_i {cs : List Value} {t : TypeId} {K : Nat → World → Prop} (h : ∀ w1, (∀ B, B ≤ w.heap.size → Below B w w1) → Row w1 w.heap.size cs t → w1.heap.size = w.heap.size + 1 → K w.heap.size w1) : alc cs t w K := by
  unfold alc
  refine h _ (fun B hB => (Below.refl B w).alloc hB _) ?_ (by simp)
  unfold Row; exact World.alloc_heap_new _ _
theorem ldI_i {k : IntKind} {b i : Nat} {cs : List Value} {t : TypeId} {n : Int} {K : Int → Prop} (h : Row w b cs t) (hi : cs[i]? = some (.int k n)) (hK : K n) : ldI k ⟨b, i, none⟩ w K := ⟨n, by rw [h.cell, hi], hK⟩
theorem ldB_i {b i : Nat} {cs : List Value} {t : TypeId} {n : Bool} {K : Bool → Prop} (h : Row w b cs t) (hi : cs[i]? = some (.bool n)) (hK : K n) : ldB ⟨b, i, none⟩ w K := ⟨n, by rw [h.cell, hi], hK⟩
theorem ldL_i {b i : Nat} {cs : List Value} {t : TypeId} {p : Option Addr} {n c : Nat} {K : Option Addr → Nat → Nat → Prop} (h : Row w b cs t) (hi : cs[i]? = some (.slice p n c)) (hK : K p n c) : ldL ⟨b, i, none⟩ w K := ⟨p, n, c, by rw [h.cell, hi], hK⟩
theorem ldP_i {b i : Nat} {cs : List Value} {t : TypeId} {p : Option Addr} {K : Option Addr → Prop} (h : Row w b cs t) (hi : cs[i]? = some (.pointer p)) (hK : K p) : ldP ⟨b, i, none⟩ w K := ⟨p, by rw [h.cell, hi], hK⟩
theorem ldV_i {b i : Nat} {cs : List Value} {t : TypeId} {v : Value} {K : Value → Prop} (h : Row w b cs t) (hi : cs[i]? = some v) (hK : K v) : ldV ⟨b, i, none⟩ w K := ⟨v, by rw [h.cell, hi], hK⟩
theorem st1_i {b i : Nat} {cs : List Value} {t : TypeId} {v : Value} {K : World → Prop} (h : Row w b cs t) (hi : i < cs.length)
    (hK : ∀ w1, (∀ B, B ≤ b → Below B w w1) → (∀ k, k ≠ b → w1.heap[k]? = w.heap[k]?) → w1.heap.size = w.heap.size → Row w1 b (cs.set i v) t → K w1) : st1 v ⟨b, i, none⟩ w K := by
  refine ⟨⟨cs[i], by rw [h.cell]; simp [hi]⟩, h.frozen i, hK _ (fun B hB => (Below.refl B w).setCell hB v) (fun k hk => Below.heap_setCell _ _ _ _ hk) (by simp [World.setCell]) ?_⟩
  unfold Row at *
  have hlt := (Array.getElem?_eq_some_iff.1 h).1
  simp [World.setCell, Array.getElem?_modify, h]
theorem below_drew : ∀ B, Below B w w.drew := fun B => (Below.refl B w).drew
theorem heap_drew : w.drew.heap = w.heap := rfl
end Go.Proofs.YtbnadobjnmboiaaDoor.X
