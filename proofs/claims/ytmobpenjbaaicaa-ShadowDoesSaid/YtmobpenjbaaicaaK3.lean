/-
  slices: what turns a block's cells: append where there is room, copy, clear; Delete.
-/
import Derived.Test.YtmobpenjbaaicaaK2
import Derived.Test.YtmobpenjbaaicaaS4
namespace Go.Proofs.Ytmobpenjbaaicaa
open Go Go.RowKit X
set_option maxRecDepth 100000
set_option linter.unusedVariables false
variable {w w0 : World} {S0 : Nat → Prop}
theorem row_turn {L L2 : List It} {d : Nat} {cur cur' : List Value} {e : TypeId} {w' : World} (H : X.Own w0 S0 L w) (hr : Rep L (row d cur e) (row d cur' e) L2) (h1 : Row w' d cur' e) (h2 : ∀ k, k ≠ d → w'.heap[k]? = w.heap[k]?) (h3 : w'.heap.size = w.heap.size)
    (h4 : w'.os = w.os) (h5 : w'.tape = w.tape) (h6 : w'.output = w.output) : X.Own w0 S0 L2 w' :=
  H.rep hr fun S ⟨_, g2⟩ => ⟨S, ⟨h1, g2⟩, ⟨h4, h5, h6, by omega, fun k _ hn => h2 k fun e => hn (e ▸ (g2 d).2 rfl)⟩, fun _ h => .inl h⟩
theorem room_o {L L2 : List It} {ta ty e : TypeId} {bytes : Nat} (hT : appB P ta e 1 bytes = true) {d n c m c2 : Nat} {cur news : List Value} {a : Addr} (H : X.Own w0 S0 L w) (hr : Rep L (row d cur e) (row d (splice cur n news) e) L2) (hq : Sl w (some a) news) (hl : news.length = m)
    (h1 : ∀ u ∈ news, u.oneCell' = true) (hroom : n + m ≤ c) (hfit : n + m ≤ cur.length) {K : Option Addr → Nat → Nat → World → Prop} (k : ∀ w', X.Own w0 S0 L2 w' → K (some ⟨d, 0, none⟩) (n + m) c w') :
    runS P (Builtin.append_ #[ta, ta] ty [.slice (some ⟨d, 0, none⟩) n c, .slice (some a) m c2].toArray) w K := by
  obtain ⟨hu, i, z, hi, hz, h2, h3, h4⟩ := appB_out hT
  obtain ⟨F, f1, _⟩ := hr.out
  have hrow := H.row f1
  subst hl
  have := run_append_room (P := P) w ta ty e i hu hi d n c cur.toArray hrow a news.length c2 news (by rw [h2]; simp) (fun j u hj => by
    obtain ⟨a', ha, hc⟩ := hq j u hj
    cases ha; exact hc) h1 hroom (by rw [h2]; simpa using hfit)
  refine ⟨_, _, _, _, this, k _ (row_turn H hr ?_ (fun k hk => setRow_other w d k _ hk) (by simp [World.setRow]) rfl rfl rfl)⟩
  unfold Row
  rw [setRow_heap w d cur.toArray _ e (0, 0) hrow, h2]
  simp [splice]
theorem copy_o {L L2 : List It} {dT ty e : TypeId} {bytes : Nat} (hT : appB P dT e 1 bytes = true) {d o dLen dCap m c' : Nat} {cur src : List Value} {q : Option Addr} (H : X.Own w0 S0 L w) (hr : Rep L (row d cur e) (row d (splice cur o src) e) L2) (hq : Sl w q src) (hl : src.length = m) (hm : m ≤ dLen)
    (hfit : o + m ≤ cur.length) (h1 : ∀ v ∈ src, v.oneCell' = true) {K : Int → World → Prop} (k : ∀ w', X.Own w0 S0 L2 w' → K m w') :
    runI P (Builtin.copy_ #[dT, dT] ty [.slice (some ⟨d, o, none⟩) dLen dCap, .slice q m c'].toArray) w K := by
  obtain ⟨F, f1, _⟩ := hr.out
  exact copy_i hT (H.row f1) hq hl hm hfit h1 fun w' g1 g2 g3 g4 g5 g6 => k w' (row_turn H hr g1 g2 g3 g4 g5 g6)
theorem clear_o {L L2 : List It} {t ty e : TypeId} {bytes : Nat} (hT : appB P t e 1 bytes = true) {z : Value} (hz1 : zeroC P e = some [z]) (h1 : z.oneCell' = true) {d o n c : Nat} {cur : List Value} (H : X.Own w0 S0 L w) (hr : Rep L (row d cur e) (row d (splice cur o (List.replicate n z)) e) L2) (hfit : o + n ≤ cur.length)
    {K : World → Prop} (k : ∀ w', X.Own w0 S0 L2 w' → K w') : runV P (Builtin.clear_ #[t] ty [.slice (some ⟨d, o, none⟩) n c].toArray) w fun v w' => v = undef ∧ K w' := by
  obtain ⟨F, f1, _⟩ := hr.out
  exact clear_i hT hz1 h1 (H.row f1) hfit fun w' g1 g2 g3 g4 g5 g6 => k w' (row_turn H hr g1 g2 g3 g4 g5 g6)
theorem row_sl {L F : List It} {d k : Nat} {cur : List Value} {e : TypeId} (H : X.Own w0 S0 L w) (hp : Pick L (row d cur e) F) : Sl w (some ⟨d, k, none⟩) (cur.drop k) := by
  intro j u hj
  refine ⟨_, rfl, ?_⟩
  rw [List.getElem?_drop] at hj
  rw [add_lit, (H.row hp).cell]; exact hj
theorem splice_take {cur cs : List Value} {o k : Nat} (h : k ≤ o) (h2 : o ≤ cur.length) : (splice cur o cs).take k = cur.take k := by
  unfold splice
  rw [List.append_assoc, List.take_append_of_le_length (by rw [List.length_take]; omega), List.take_take, Nat.min_eq_left h]
theorem splice_len {cur cs : List Value} {o : Nat} (h : o + cs.length ≤ cur.length) : (splice cur o cs).length = cur.length := by
  unfold splice
  simp only [List.length_append, List.length_take, List.length_drop]; omega
theorem delete_t {p : Option Addr} {c : Nat} {xs : List Int} {i : Nat} (hi : i < xs.length) : Tri P F.slices_Delete__int_int [.slice p xs.length c, .int .i64 (i : Int), .int .i64 (i + 1 : Int)] [nums p c xs] fun v L' => ∃ c', v = .slice p (xs.eraseIdx i).length c' ∧ L' = [nums p c' (xs.eraseIdx i)] := by
  intro w S hS
  refine slices_Delete__int_int_cv ?_
  unfold slices_Delete__int_int
  have H := Own.start hS
  obtain ⟨d, rest, rfl, hlen, hle, hmx, H⟩ := nums_open H .here (by intro e; subst e; simp at hi)
  have hxl : (i64s xs).length = xs.length := by simp [i64s]
  have hrl : rest.length = c - xs.length := by rw [List.length_append, hxl] at hlen; omega
  refine ⟨?_, ?_, ?_, ?_⟩
  · intro x hx; cases hx; omega
  · intro x hx; cases hx; simp; omega
  · intro x hx; cases hx; simp; omega
  refine cnd_i (fun h => by simp at h; omega) fun _ => ?_
  refine drw_o H fun wx H => ?_
  refine ⟨(by intro x hx; cases hx), ?_, (by intro x hx; cases hx), ?_⟩
  · intro x hx; cases hx; simp; omega
  refine ⟨(by intro x hx; cases hx), (by intro x hx; cases hx), ?_, ?_⟩
  · intro x hx; cases hx; simp; omega
  simp only [Option.map_some, Option.map_none, Option.getD_some, Option.getD_none, Int.toNat_natCast, Nat.sub_zero]
  have e1 : ((i : Int) + 1).toNat = i + 1 := by omega
  rw [e1]
  have e2 : (if c = 0 then some (⟨d, 0, none⟩ : Addr) else some ((⟨d, 0, none⟩ : Addr).add (0 * 1))) = some ⟨d, 0, none⟩ := by
    split
    · rfl
    · simp [add_lit]
  obtain ⟨a2, e3, ha2⟩ : ∃ a2, (if c = i + 1 then some (⟨d, 0, none⟩ : Addr) else some ((⟨d, 0, none⟩ : Addr).add ((i + 1) * 1))) = some a2 ∧ (c ≠ i + 1 → a2 = ⟨d, i + 1, none⟩) := by
    by_cases h : c = i + 1
    · exact ⟨_, by rw [if_pos h], fun h' => absurd h h'⟩
    · exact ⟨⟨d, i + 1, none⟩, by rw [if_neg h]; simp [add_lit], fun _ => rfl⟩
  rw [e2, e3]
  have hsl : Sl wx (some a2) ((i64s xs).drop (i + 1)) := by
    by_cases h : c = i + 1
    · rw [List.drop_eq_nil_of_le (by omega)]
      intro j u hj; cases hj
    · rw [ha2 h]
      have := row_sl (k := i + 1) H .here
      intro j u hj
      refine this j u ?_
      have hj' := (List.getElem?_eq_some_iff.1 hj).1
      rw [List.length_drop, hxl] at hj'
      rw [List.drop_append_of_le_length (by omega), List.getElem?_append_left (by rw [List.length_drop]; omega)]
      exact hj
  refine room_o appInts H .here hsl (by rw [List.length_drop, hxl]) (fun u hu => i64s_one xs u (List.mem_of_mem_drop hu)) (by omega) (by rw [hlen]; omega) fun w1 H => ?_
  have hm : i + (xs.length - (i + 1)) = xs.length - 1 := by omega
  rw [hm]
  refine ⟨(by intro x hx; cases hx), ?_, ?_, ?_⟩
  · intro x hx; cases hx; simp; omega
  · intro x hx; cases hx; simp
  simp only [Option.map_some, Option.map_none, Option.getD_some, Option.getD_none, Int.toNat_natCast]
  rw [if_neg (by omega), add_lit, Nat.mul_one, Nat.zero_add]
  have hl1 : (splice (i64s xs ++ rest) i ((i64s xs).drop (i + 1))).length = c := by
    unfold splice
    simp only [List.length_append, List.length_take, List.length_drop] at hlen ⊢
    omega
  refine clear_o appInts zeroInt rfl H .here (by rw [hl1]; omega) fun w2 H => ?_
  have hel : (xs.eraseIdx i).length = xs.length - 1 := by rw [List.length_eraseIdx, if_pos hi]
  refine ⟨_, ⟨c, by rw [hel], rfl⟩, ?_⟩
  refine nums_shut H rfl ?_ (by omega) hmx ?_
  · rw [hel]
    have e4 : i64s (xs.eraseIdx i) = (i64s xs).take i ++ (i64s xs).drop (i + 1) := by
      unfold i64s
      rw [List.eraseIdx_eq_take_drop_succ, List.map_append, List.map_take, List.map_drop]
    rw [e4, splice_take (by omega) (by rw [hl1]; omega)]
    unfold splice
    rw [List.take_append_of_le_length (l₁ := i64s xs) (by omega)]
    exact List.take_left' (by simp only [List.length_take, List.length_append, List.length_drop, hxl]; omega)
  · rw [splice_len (by rw [hl1, List.length_replicate]; omega), hl1]
end Go.Proofs.Ytmobpenjbaaicaa
