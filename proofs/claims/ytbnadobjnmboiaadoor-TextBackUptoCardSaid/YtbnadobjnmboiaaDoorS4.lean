/-
  E: small laws: append from any slice; copy into a row; clear a part of a row.
-/
import Derived.Test.YtbnadobjnmboiaaDoorS3
import Derived.Laws.CopyRow
import Derived.Laws.IdiomCopy
namespace Go.Proofs.YtbnadobjnmboiaaDoor.X
open Go Go.RowKit
variable {P : Program} {w : World}

theorem sl_nil {xs : List Value} (h : Sl w none xs) : xs = [] := by
  cases xs with
  | nil => rfl
  | cons x r => obtain ⟨a, ha, _⟩ := h 0 x rfl; cases ha
/-- values are appended that any slice holds -/
theorem appS_i {t ty e : TypeId} {size bytes : Nat} (hT : appB P t e size bytes = true) (hsz : 0 < size) {p : Option Addr} {n c base : Nat} {xs : List Value} (hown : w.ownsRow base e size (.slice p n c) n xs) {q : Option Addr} {m c' : Nat} {news : List Value} (hq : Sl w q news)
    (hl : news.length = m * size) (h1 : ∀ u ∈ news, u.oneCell' = true) (hn : n + m ≤ maxLen) (hby : (n + m) * bytes ≤ 140737488355328) (hbase : base ≤ w.heap.size) {K : Option Addr → Nat → Nat → World → Prop}
    (hK : ∀ p' c' w', w'.ownsRow base e size (.slice p' (n + m) c') (n + m) (xs ++ news) → w.grownBy w' (Value.ownBlock (.slice p n c)) → K p' (n + m) c' w') :
    runS P (Builtin.append_ #[t, t] ty [.slice p n c, .slice q m c'].toArray) w K := by
  obtain ⟨hu, i, z, hi, hz, h2, h3, h4⟩ := appB_out hT
  cases q with
  | some a =>
    obtain ⟨v', w', hr, ho, hg, _⟩ := run_append_own (P := P) w base t ty e i z size bytes hu hi hz h2 h3 h4 hsz (.slice p n c) n xs hown a m c' news hl (by
      intro j u hj
      obtain ⟨a', ha, hc⟩ := hq j u hj
      cases ha; exact hc) h1 hn hby hbase
    obtain ⟨p', c2, rfl⟩ := own_slice ho
    exact ⟨p', n + m, c2, w', hr, hK _ _ _ ho hg⟩
  | none =>
    have := sl_nil hq
    subst this
    have hm : m = 0 := by
      rcases Nat.eq_zero_or_pos m with h | h
      · exact h
      · have := Nat.mul_pos h hsz; simp at hl; omega
    subst hm
    refine ⟨p, n + 0, c, w, ?_, hK p c w (by simpa using hown) ⟨rfl, rfl, rfl, Nat.le_refl _, fun _ _ _ => rfl⟩⟩
    rcases hown.2 with ⟨h, h'⟩ | ⟨g, cap, cur, h, _, _, hnc, _⟩
    · cases h
      simp [Builtin.append_, run_underlying hu, sizeOf, typeInfo, hi, Builtin.lenOf, Builtin.firstCells]
    · cases h
      simp [Builtin.append_, run_underlying hu, sizeOf, typeInfo, hi, Builtin.lenOf, Builtin.firstCells, hnc, storeCells]
/-- the cells of a row from a place on, turned -/
def splice (cur : List Value) (o : Nat) (cs : List Value) : List Value := cur.take o ++ cs ++ cur.drop (o + cs.length)
theorem row_store {d o : Nat} {cur cs : List Value} {tt : TypeId} (hd : Row w d cur tt) (hfit : o + cs.length ≤ cur.length) (h1 : ∀ v ∈ cs, v.oneCell' = true) :
    ∃ w', (storeCells ⟨d, o, none⟩ cs).run P w = .ok () w' ∧ Row w' d (splice cur o cs) tt ∧ (∀ k, k ≠ d → w'.heap[k]? = w.heap[k]?) ∧ w'.heap.size = w.heap.size ∧ w'.os = w.os ∧ w'.tape = w.tape ∧ w'.output = w.output := by
  have := run_storeCells_at P d o tt cs 0 cur.toArray w hd (by simpa using hfit) h1
  simp only [Nat.add_zero] at this
  refine ⟨_, this, ?_, fun k hk => setRow_other w d k _ hk, by simp [World.setRow], rfl, rfl, rfl⟩
  unfold Row
  rw [setRow_heap w d cur.toArray _ tt (0, 0) hd]
  rfl
theorem copy_i {dT ty e : TypeId} {bytes : Nat} (hT : appB P dT e 1 bytes = true) {d o dLen dCap : Nat} {cur : List Value} {tt : TypeId} (hd : Row w d cur tt) {q : Option Addr} {m c' : Nat} {src : List Value} (hq : Sl w q src) (hl : src.length = m) (hm : m ≤ dLen)
    (hfit : o + m ≤ cur.length) (h1 : ∀ v ∈ src, v.oneCell' = true) {K : Int → World → Prop}
    (hK : ∀ w', Row w' d (splice cur o src) tt → (∀ k, k ≠ d → w'.heap[k]? = w.heap[k]?) → w'.heap.size = w.heap.size → w'.os = w.os → w'.tape = w.tape → w'.output = w.output → K m w') :
    runI P (Builtin.copy_ #[dT, dT] ty [.slice (some ⟨d, o, none⟩) dLen dCap, .slice q m c'].toArray) w K := by
  obtain ⟨hu, i, z, hi, hz, h2, h3, h4⟩ := appB_out hT
  subst hl
  cases q with
  | none =>
    have := sl_nil hq
    subst this
    refine ⟨0, w, ?_, hK w (by simpa [splice] using hd) (fun _ _ => rfl) rfl rfl rfl rfl⟩
    exact run_copy_none (P := P) w dT dT ty e (some ⟨d, o, none⟩) none dLen dCap 0 c' hu (by rw [hi]; simp [h2]) (by simp)
  | some a =>
    have hr := run_copy_row (P := P) w dT dT ty e d o dLen dCap a src.length c' cur.toArray tt src hu (by rw [hi]; simp [h2]) hd (by simp [Nat.min_eq_left hm]) (by
      intro j v hj
      obtain ⟨a', ha, hc⟩ := hq j v hj
      cases ha; exact hc) (by simpa using hfit) h1
    refine ⟨src.length, _, hr, hK _ ?_ (fun k hk => setRow_other w d k _ hk) (by simp [World.setRow]) rfl rfl rfl⟩
    unfold Row
    rw [setRow_heap w d cur.toArray _ tt (0, 0) hd]
    rfl
theorem clear_i {t ty e : TypeId} {bytes : Nat} (hT : appB P t e 1 bytes = true) {z : Value} (hz1 : zeroC P e = some [z]) (h1 : z.oneCell' = true) {d o n c : Nat} {cur : List Value} {tt : TypeId} (hd : Row w d cur tt) (hfit : o + n ≤ cur.length) {K : World → Prop}
    (hK : ∀ w', Row w' d (splice cur o (List.replicate n z)) tt → (∀ k, k ≠ d → w'.heap[k]? = w.heap[k]?) → w'.heap.size = w.heap.size → w'.os = w.os → w'.tape = w.tape → w'.output = w.output → K w') :
    runV P (Builtin.clear_ #[t] ty [.slice (some ⟨d, o, none⟩) n c].toArray) w fun v w' => v = undef ∧ K w' := by
  obtain ⟨hu, i, z', hi, hz, h2, h3, h4⟩ := appB_out hT
  have hzc : z'.cells = #[z] := by
    unfold zeroC at hz1
    rw [hi] at hz1
    simp only [hz, Option.map_some, Option.some.injEq] at hz1
    apply Array.toList_inj.1
    rw [← cellsL_eq]; exact hz1
  have hzl : (Builtin.zeroCells z'.cells n).toList = List.replicate n z := by
    rw [hzc]
    simp [Builtin.zeroCells]
    apply List.ext_getElem
    · simp
    · intro i h1 h2; simp [Nat.mod_one]
  obtain ⟨w', hr, h5, h6, h7, h8, h9, h10⟩ := row_store (P := P) (cs := List.replicate n z) hd (by simpa using hfit) (by intro v hv; rw [(List.mem_replicate.1 hv).2]; exact h1)
  cases n with
  | zero =>
    refine ⟨undef, w, ?_, rfl, hK w (by simpa [splice] using hd) (fun _ _ => rfl) rfl rfl rfl rfl⟩
    simp [Builtin.clear_, run_underlying hu, undef]
  | succ m =>
    refine ⟨undef, w', ?_, rfl, hK w' h5 h6 h7 h8 h9 h10⟩
    simp [Builtin.clear_, run_underlying hu, zeroValue, typeInfo, hi, hz, hzl, hr, undef]
end Go.Proofs.YtbnadobjnmboiaaDoor.X
