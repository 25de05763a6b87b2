/-
  E: small laws: append to a row of one's own; a slice read; integers' range; range over a function.
-/
import Derived.Test.YtbnadobjnmboiaaDoorS1
namespace Go.Proofs.YtbnadobjnmboiaaDoor.X
open Go Go.RowKit
variable {P : Program} {w : World}

def appB (P : Program) (t e : TypeId) (size bytes : Nat) : Bool := match P.underlying t with
  | some (.slice e') => e' == e && (match P.info? e with
    | some i => match i.zero with
      | some z => i.size == size && (i.bytes == bytes && z.cells.size == size)
      | none => false
    | none => false)
  | _ => false
theorem appB_out {t e : TypeId} {size bytes : Nat} (h : appB P t e size bytes = true) : P.underlying t = some (.slice e) ∧ ∃ i z, P.info? e = some i ∧ i.zero = some z ∧ i.size = size ∧ i.bytes = bytes ∧ z.cells.size = size := by
  unfold appB at h
  split at h
  · rename_i e' hu
    simp only [Bool.and_eq_true, beq_iff_eq] at h
    obtain ⟨rfl, h⟩ := h
    split at h
    · rename_i i hi
      split at h
      · rename_i z hz
        simp only [Bool.and_eq_true, beq_iff_eq] at h
        exact ⟨hu, i, z, hi, hz, h.1, h.2.1, h.2.2⟩
      · cases h
    · cases h
  · cases h
theorem own_slice {base : Nat} {e : TypeId} {size : Nat} {v : Value} {n : Nat} {xs : List Value} (h : w.ownsRow base e size v n xs) : ∃ p c, v = .slice p n c := by
  rcases h.2 with ⟨rfl, rfl⟩ | ⟨g, cap, cur, rfl, _⟩
  · exact ⟨_, _, rfl⟩
  · exact ⟨_, _, rfl⟩
/-- values are appended that lie in a row of their own -/
theorem app_i {t ty e : TypeId} {size bytes : Nat} (hT : appB P t e size bytes = true) (hsz : 0 < size) {p : Option Addr} {n c base : Nat} {xs : List Value} (hown : w.ownsRow base e size (.slice p n c) n xs) {b m : Nat} {news : List Value} {tt : TypeId} (hb : Row w b news tt)
    (hl : news.length = m * size) (h1 : ∀ u ∈ news, u.oneCell' = true) (hn : n + m ≤ maxLen) (hby : (n + m) * bytes ≤ 140737488355328) (hbase : base ≤ w.heap.size) {K : Option Addr → Nat → Nat → World → Prop}
    (hK : ∀ p' c' w', w'.ownsRow base e size (.slice p' (n + m) c') (n + m) (xs ++ news) → w.grownBy w' (Value.ownBlock (.slice p n c)) → K p' (n + m) c' w') :
    runS P (Builtin.append_ #[t, t] ty [.slice p n c, .slice (some ⟨b, 0, none⟩) m m].toArray) w K := by
  obtain ⟨hu, i, z, hi, hz, h2, h3, h4⟩ := appB_out hT
  obtain ⟨v', w', hr, ho, hg, _⟩ := run_append_own (P := P) w base t ty e i z size bytes hu hi hz h2 h3 h4 hsz (.slice p n c) n xs hown ⟨b, 0, none⟩ m m news hl (by
    intro j u hj
    have : (⟨b, 0, none⟩ : Addr).add j = ⟨b, j, none⟩ := by unfold Addr.add; split <;> simp_all
    rw [this, hb.cell]; exact hj) h1 hn hby hbase
  obtain ⟨p', c', rfl⟩ := own_slice ho
  exact ⟨p', n + m, c', w', hr, hK _ _ _ ho hg⟩
theorem W_range (n : Int) : -9223372036854775808 ≤ IntKind.i64.wrap n ∧ IntKind.i64.wrap n ≤ 9223372036854775807 := by
  simp [IntKind.wrap, IntKind.signed, IntKind.bits]; split <;> omega
theorem W_id {n : Int} (h1 : -9223372036854775808 ≤ n) (h2 : n ≤ 9223372036854775807) : IntKind.i64.wrap n = n := by
  simp [IntKind.wrap, IntKind.signed, IntKind.bits]; split <;> omega
/-- a slice's elements, each of one cell -/
def Sl (w : World) (p : Option Addr) (xs : List Value) : Prop := ∀ j u, xs[j]? = some u → ∃ a, p = some a ∧ w.cell? (a.add j) = some u
theorem Sl.own {base : Nat} {e : TypeId} {p : Option Addr} {n c : Nat} {xs : List Value} (h : w.ownsRow base e 1 (.slice p n c) n xs) : Sl w p xs ∧ xs.length = n := by
  refine ⟨fun j u hj => ?_, by have := h.1; simpa using this⟩
  cases p with
  | none =>
    rcases h.2 with ⟨hh, hn⟩ | ⟨g, cap, cur, hh, _⟩
    · have := h.1; rw [hn] at this
      have : xs = [] := List.eq_nil_of_length_eq_zero (by simpa using this)
      rw [this] at hj; cases hj
    · cases hh
  | some a =>
    refine ⟨a, rfl, ?_⟩
    rcases h.2 with ⟨hh, _⟩ | ⟨g, cap, cur, hh, _⟩
    · cases hh
    · have := h.cells (g := a.block) rfl j u hj
      cases hh
      exact this
theorem Sl.row {b : Nat} {xs : List Value} {t : TypeId} (h : Row w b xs t) : Sl w (some ⟨b, 0, none⟩) xs := by
  intro j u hj
  refine ⟨_, rfl, ?_⟩
  have : (⟨b, 0, none⟩ : Addr).add j = ⟨b, j, none⟩ := by unfold Addr.add; split <;> simp_all
  rw [this, h.cell]; exact hj
theorem Sl.below {B : Nat} {w' : World} {p : Option Addr} {xs : List Value} (h : Sl w p xs) (hB : Below B w w') (hp : ∀ a, p = some a → a.block < B) : Sl w' p xs := by
  intro j u hj
  obtain ⟨a, rfl, hc⟩ := h j u hj
  refine ⟨a, rfl, ?_⟩
  rw [hB.cell (p := a.add j) (by have := hp a rfl; unfold Addr.add; split <;> exact this)]; exact hc
theorem enters_cv {f : FuncId} {first cap vs : List Value} {Q : Value → World → Prop} (hf : enters P f = true) (h : CV P f (first ++ vs ++ cap) w Q) : callFn P (.func (.func f) first.toArray cap.toArray) vs w Q := by
  unfold callFn; simp only [hf]; exact h
theorem enters_cv' {f : FuncId} {first cap vs : List Value} {Q : Value → World → Prop} (hf : enters P f = true) (h : CV P f (first ++ vs ++ cap) w Q) : callVal P (.func (.func f) first.toArray cap.toArray) vs w Q := by
  unfold callVal; simp only [hf]; exact h
theorem putObj_below {l : Nat} {o : Obj} : ∀ B, B ≤ l → Below B w (w.putObj l o) := fun B hB =>
  ⟨rfl, rfl, rfl, by simp, fun k hk => World.putObj_heap_other (by omega)⟩
theorem Row.put {b l : Nat} {cs : List Value} {t : TypeId} {o : Obj} (h : Row w b cs t) (hne : b ≠ l) : Row (w.putObj l o) b cs t := by
  unfold Row; rw [World.putObj_heap_other hne]; exact h
theorem recAt_put {l : Nat} {r : Loop} {st : LoopState} {j : Option Code} (hl : l < w.heap.size) : recAt (w.putObj l (.loop { r with state := st, pending := j })) l r st j := World.putObj_heap_same hl
theorem recAt_lt {l : Nat} {r : Loop} {st : LoopState} {j : Option Code} (h : recAt w l r st j) : l < w.heap.size := (Array.getElem?_eq_some_iff.1 h).1
theorem recAt_below {B l : Nat} {r : Loop} {st : LoopState} {j : Option Code} {w' : World} (h : recAt w l r st j) (hB : Below B w w') (hl : l < B) : recAt w' l r st j := by
  unfold recAt; rw [hB.block l hl]; exact h
theorem own_below {B base : Nat} {e : TypeId} {size : Nat} {v : Value} {n : Nat} {xs : List Value} {w' : World} (h : w.ownsRow base e size v n xs) (hB : Below B w w') (hb : ∀ k, v.ownBlock = some k → k < B) : w'.ownsRow base e size v n xs := by
  refine ⟨h.1, ?_⟩
  rcases h.2 with hn | ⟨g, cap, cur, rfl, hbg, hg, rest⟩
  · exact .inl hn
  · exact .inr ⟨g, cap, cur, rfl, hbg, by rw [hB.block g (hb g rfl)]; exact hg, rest⟩
theorem own_of {base : Nat} {e : TypeId} {size : Nat} {v : Value} {n : Nat} {xs : List Value} {w' : World} (h : w.ownsRow base e size v n xs) (hb : ∀ k, v.ownBlock = some k → w'.heap[k]? = w.heap[k]?) : w'.ownsRow base e size v n xs := by
  refine ⟨h.1, ?_⟩
  rcases h.2 with hn | ⟨g, cap, cur, rfl, hbg, hg, rest⟩
  · exact .inl hn
  · exact .inr ⟨g, cap, cur, rfl, hbg, by rw [hb g rfl]; exact hg, rest⟩
theorem callVal_mono {f : Value} {vs : List Value} {Q Q' : Value → World → Prop} (h : callVal P f vs w Q) (hq : ∀ v w', Q v w' → Q' v w') : callVal P f vs w Q' := by
  unfold callVal at *
  split at h
  · split at h
    · split at h
      · exact h.mono hq
      · obtain ⟨fn, e, v, w', h1, h2, h3, h4, h5, h6, h7⟩ := h
        exact ⟨fn, e, v, w', h1, h2, h3, h4, h5, h6, hq _ _ h7⟩
    · exact YV.mono h hq
    · exact h.elim
  · exact h.elim
end Go.Proofs.YtbnadobjnmboiaaDoor.X
