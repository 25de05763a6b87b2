/-
  E: bytes appended to a row of bytes, under growslice's own bound.
-/
import Derived.Test.YtbnadobjnmboiaaDoorA6
import Derived.Deep.DeepAppendWide
import Derived.Lib.AppendStr
namespace Go.Proofs.YtbnadobjnmboiaaDoor.X
open Go Go.RowKit
set_option maxRecDepth 100000
set_option linter.unusedVariables false
set_option linter.unusedSimpArgs false
variable {P : Program} {w w0 : World} {S0 : Nat → Prop}
theorem grown_own (e : TypeId) {z : Value} (hz1 : z.cells.size = 1) (xs news : List Value) (n m old : Nat) (hx : xs.length = n) (hnw : news.length = m) (ho : old < n + m) (h63 : n + m ≤ maxLen) :
    (w.drew.alloc (.cells (xs.toArray ++ news.toArray ++ Builtin.zeroCells z.cells (grownCap w (n + m) old e - (n + m))) e)).ownsRow 0 e 1 (.slice (some ⟨w.heap.size, 0, none⟩) (n + m) (grownCap w (n + m) old e)) (n + m) (xs ++ news) ∧
    ∀ S : Nat → Prop, Out S w (w.drew.alloc (.cells (xs.toArray ++ news.toArray ++ Builtin.zeroCells z.cells (grownCap w (n + m) old e - (n + m))) e)) := by
  have hlen : (xs ++ news).length = (n + m) * 1 := by rw [List.length_append, hx, hnw, Nat.mul_one]
  have hge := grownCap_ge w (n + m) old e
  have hcm : grownCap w (n + m) old e ≤ maxLen := grownCap_le_maxLen w (n + m) old e h63
  refine ⟨⟨hlen, .inr ⟨w.heap.size, _, _, rfl, Nat.zero_le _, heap_alloc_new w.drew _, hge, hcm, ?_, ?_⟩⟩, fun S => ⟨rfl, rfl, rfl, by simp, fun k hk _ => heap_alloc_old w.drew _ k hk⟩⟩
  · simp only [Array.size_append, List.size_toArray, size_zeroCells, hz1, hx, hnw]
    omega
  · simp only [Array.toList_append, List.append_assoc]
    rw [← List.append_assoc, ← hlen]
    exact List.take_left
/-- a string's bytes are appended to a row of bytes -/
theorem appS_w {L F : List It} {t u ty e : TypeId} (hT : appB P t e 1 1 = true) (hz : zeroC P e = some [.int .u8 0]) (hu : P.underlying u = some .string) {p : Option Addr} {n c : Nat} {xs : List Value} (H : Own w0 S0 L w) (hp : Pick L (own e 1 (.slice p n c) n xs) F) (s : ByteArray)
    (hn : n + s.size ≤ 225179981368000) {K : Option Addr → Nat → Nat → World → Prop} (k : ∀ p' c' w', Own w0 S0 (own e 1 (.slice p' (n + s.size) c') (n + s.size) (xs ++ Lib.strCells s) :: F) w' → K p' (n + s.size) c' w') :
    runS P (Builtin.append_ #[t, u] ty [.slice p n c, .string s].toArray) w K := by
  obtain ⟨hut, i, z, hi, hzz, h2, h3, h4⟩ := appB_out hT
  have hm : n + s.size ≤ maxLen := by unfold maxLen; omega
  obtain ⟨S, ⟨g1, g2⟩, _⟩ := H.pick hp
  have H1 : Own w0 S0 (own e 1 (.slice p n c) n xs :: F) w := let ⟨S, h1, h2⟩ := H; ⟨S, hp.iff.1 h1, h2⟩
  have hxl : xs.length = n := by simpa using g1.1
  have fits : ∀ old, old < n + s.size → Builtin.nextslicecap (n + s.size) old * i.bytes ≤ 281474976710656 := fun old ho => by
    rw [h3]
    exact growslice_fits_wide ho (by omega)
  rcases g1.2 with ⟨e1, e2⟩ | ⟨g, cap, cur, e1, _, hg, hnc, hcm, hcs, htake⟩
  · cases e1
    have hx : xs = [] := List.eq_nil_of_length_eq_zero hxl
    subst hx
    by_cases hs : s.size = 0
    · have hn0 : Lib.strCells s = [] := List.eq_nil_of_length_eq_zero (by rw [Lib.strCells_length]; exact hs)
      have hf := Lib.run_firstCells_string (P := P) w 1 s
      rw [hs] at hf
      refine ⟨none, 0, 0, w, ?_, ?_⟩
      · simp [Builtin.append_, run_underlying hut, run_underlying hu, sizeOf, typeInfo, hi, h2, Builtin.lenOf, hs, hf]
      · have := k none 0 w
        rw [hs, hn0] at this
        exact this H1
    · have hr := run_append_nil_string (P := P) w t u ty e i z hut hu hi hzz s (by omega) (by omega) (by rw [h3]; omega)
      have e1 : (s.data.map fun b => Value.int .u8 b.toNat) = (Lib.strCells s).toArray := by
        apply Array.ext'
        simp [Lib.strCells]
      rw [e1] at hr
      obtain ⟨ho, hO⟩ := grown_own (w := w) e h4 [] (Lib.strCells s) 0 s.size 0 rfl (Lib.strCells_length s) (by omega) hm
      simp only [Nat.zero_add, List.nil_append, Array.empty_append] at ho hO hr k ⊢
      refine ⟨_, _, _, _, hr, k _ _ _ (H1.rep .here fun S ⟨k1, k2⟩ => ⟨fun k => some w.heap.size = some k, ⟨?_, fun _ => Iff.rfl⟩, ?_, fun k h => .inr (by simp at h; omega)⟩)⟩
      · simpa using ho
      · simpa using hO S
  · cases e1
    by_cases hroom : n + s.size ≤ c
    · have hcs' : cur.size = c := by simpa using hcs
      have hr := Lib.run_append_room_string (P := P) w t u ty e i hut hu hi h2 g n c cur hg s hroom (by omega)
      refine ⟨_, _, _, _, hr, k _ _ _ (H1.rep .here fun S ⟨k1, k2⟩ => ⟨S, ⟨⟨?_, .inr ⟨g, c, _, rfl, Nat.zero_le _, setRow_heap w g cur _ e _ hg, hroom, hcm, ?_, ?_⟩⟩, k2⟩, ?_, fun _ h => .inl h⟩)⟩
      · rw [List.length_append, hxl, Lib.strCells_length, Nat.mul_one]
      · simp only [List.size_toArray, List.length_append, List.length_take, List.length_drop, Array.length_toList, Lib.strCells_length]
        omega
      · have ht' : cur.toList.take n = xs := by simpa using htake
        rw [ht']
        have hlen : (xs ++ Lib.strCells s).length = (n + s.size) * 1 := by rw [List.length_append, hxl, Lib.strCells_length, Nat.mul_one]
        rw [← hlen]
        exact List.take_left
      · exact ⟨rfl, rfl, rfl, by simp, fun k _ hk => setRow_other w g k _ (fun e => hk ((k2 k).2 (by rw [e]; rfl)))⟩
    · have holds : ∀ j u, xs[j]? = some u → w.cell? ((⟨g, 0, none⟩ : Addr).add j) = some u := g1.cells (g := g) rfl
      have hr := Lib.run_append_grow_string (P := P) w t u ty e i z hut hu hi hzz ⟨g, 0, none⟩ n c xs (by rw [h2]; simpa using hxl) holds s (by omega) (by omega) (fits c (by omega))
      obtain ⟨ho, hO⟩ := grown_own (w := w) e h4 xs (Lib.strCells s) n s.size c hxl (Lib.strCells_length s) (by omega) hm
      exact ⟨_, _, _, _, hr, k _ _ _ (H1.rep .here fun S ⟨k1, k2⟩ => ⟨fun k => some w.heap.size = some k, ⟨ho, fun _ => Iff.rfl⟩, hO S, fun k h => .inr (by simp at h; omega)⟩)⟩
/-- a byte is appended to a row of bytes -/
theorem app1_w {L F : List It} {t ty e : TypeId} (hT : appB P t e 1 1 = true) {p : Option Addr} {n c c2 : Nat} {xs : List Value} (H : Own w0 S0 L w) (hp : Pick L (own e 1 (.slice p n c) n xs) F) {a : Addr} {v : Value} (hv : w.cell? a = some v) (h1 : v.oneCell' = true)
    (hn : n + 1 ≤ 225179981368000) {K : Option Addr → Nat → Nat → World → Prop} (k : ∀ p' c' w', Own w0 S0 (own e 1 (.slice p' (n + 1) c') (n + 1) (xs ++ [v]) :: F) w' → K p' (n + 1) c' w') :
    runS P (Builtin.append_ #[t, t] ty [.slice p n c, .slice (some a) 1 c2].toArray) w K := by
  obtain ⟨hut, i, z, hi, hzz, h2, h3, h4⟩ := appB_out hT
  have hm : n + 1 ≤ maxLen := by unfold maxLen; omega
  obtain ⟨S, ⟨g1, g2⟩, _⟩ := H.pick hp
  have H1 : Own w0 S0 (own e 1 (.slice p n c) n xs :: F) w := let ⟨S, h1, h2⟩ := H; ⟨S, hp.iff.1 h1, h2⟩
  have hxl : xs.length = n := by simpa using g1.1
  have fits : ∀ old, old < n + 1 → Builtin.nextslicecap (n + 1) old * i.bytes ≤ 281474976710656 := fun old ho => by
    rw [h3]
    exact growslice_fits_wide ho (by omega)
  have hnews : ∀ (j : Nat) u, [v][j]? = some u → w.cell? (a.add j) = some u := by
    intro j u hj
    cases j with
    | zero => cases hj; rw [add_zero']; exact hv
    | succ j => cases hj
  rcases g1.2 with ⟨e1, e2⟩ | ⟨g, cap, cur, e1, _, hg, hnc, hcm, hcs, htake⟩
  · cases e1
    have hx : xs = [] := List.eq_nil_of_length_eq_zero hxl
    subst hx
    have hr := run_append_nil (P := P) w t ty e i z hut hi hzz a 1 c2 [v] (by rw [h2]; rfl) hnews (by omega) (by omega) (by rw [h3]; omega)
    obtain ⟨ho, hO⟩ := grown_own (w := w) e h4 [] [v] 0 1 0 rfl rfl (by omega) hm
    simp only [Nat.zero_add, List.nil_append, Array.empty_append] at ho hO hr k ⊢
    refine ⟨_, _, _, _, hr, k _ _ _ (H1.rep .here fun S ⟨k1, k2⟩ => ⟨fun k => some w.heap.size = some k, ⟨?_, fun _ => Iff.rfl⟩, ?_, fun k h => .inr (by simp at h; omega)⟩)⟩
    · simpa using ho
    · simpa using hO S
  · cases e1
    by_cases hroom : n + 1 ≤ c
    · have hcs' : cur.size = c := by simpa using hcs
      have hr := run_append_room (P := P) w t ty e i hut hi g n c cur hg a 1 c2 [v] (by rw [h2]; rfl) hnews (by intro u hu; rw [List.mem_singleton] at hu; rw [hu]; exact h1) hroom (by rw [h2, hcs', Nat.mul_one]; exact hroom)
      rw [h2, Nat.mul_one] at hr
      refine ⟨_, _, _, _, hr, k _ _ _ (H1.rep .here fun S ⟨k1, k2⟩ => ⟨S, ⟨⟨?_, .inr ⟨g, c, _, rfl, Nat.zero_le _, setRow_heap w g cur _ e _ hg, hroom, hcm, ?_, ?_⟩⟩, k2⟩, ?_, fun _ h => .inl h⟩)⟩
      · rw [List.length_append, hxl]; simp
      · simp only [List.size_toArray, List.length_append, List.length_take, List.length_drop, Array.length_toList, List.length_cons, List.length_nil]
        omega
      · have ht' : cur.toList.take n = xs := by simpa using htake
        rw [ht']
        have hlen : (xs ++ [v]).length = (n + 1) * 1 := by rw [List.length_append, hxl]; simp
        rw [← hlen]
        exact List.take_left
      · exact ⟨rfl, rfl, rfl, by simp, fun k _ hk => setRow_other w g k _ (fun e => hk ((k2 k).2 (by rw [e]; rfl)))⟩
    · have holds : ∀ j u, xs[j]? = some u → w.cell? ((⟨g, 0, none⟩ : Addr).add j) = some u := g1.cells (g := g) rfl
      have hr := run_append_grow (P := P) w t ty e i z hut hi hzz ⟨g, 0, none⟩ n c xs (by rw [h2]; simpa using hxl) holds a 1 c2 [v] (by rw [h2]; rfl) hnews (by omega) (by omega) (fits c (by omega))
      obtain ⟨ho, hO⟩ := grown_own (w := w) e h4 xs [v] n 1 c hxl rfl (by omega) hm
      exact ⟨_, _, _, _, hr, k _ _ _ (H1.rep .here fun S ⟨k1, k2⟩ => ⟨fun k => some w.heap.size = some k, ⟨ho, fun _ => Iff.rfl⟩, hO S, fun k h => .inr (by simp at h; omega)⟩)⟩
end Go.Proofs.YtbnadobjnmboiaaDoor.X
