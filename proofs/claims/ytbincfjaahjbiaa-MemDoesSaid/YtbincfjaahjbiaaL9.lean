/-
  mem: a write changes its own bytes alone: MemKeeps.
-/
import Derived.Test.YtbincfjaahjbiaaL7
import Derived.Test.YtbincfjaahjbiaaM5
import Derived.Test.YtbincfjaahjbiaaS6
namespace Go.Proofs.Ytbincfjaahjbiaa
open Go Go.RowKit X
set_option maxRecDepth 100000
set_option linter.unusedVariables false
def ptr (b : Nat) : Value := .pointer (some ⟨b, 0, none⟩)
def actV (k a s o n v : Int) (q : Option Addr) (l c : Nat) : Value := .agg [.int .i64 k, .int .i64 a, .int .i64 s, .int .i64 o, .int .i64 n, .int .u64 v, .slice q l c].toArray
theorem does_t (b : Nat) (bs : List Int) (k a s o n v : Int) {q : Option Addr} {c' : Nat} {xs : List Int} (i : It) (hi : ∀ w S, i.h w S → Sl w q (u8s xs)) (hr : ∀ x ∈ xs, 0 ≤ x ∧ x < 256) (hl : xs.length ≤ 140737488355328) :
    Tri P F.crierlaw04_Does [ptr b, actV k a s o n v q xs.length c'] [memI b bs, i] fun r L' => r = .int .i64 (doM bs k a s o n v xs).2 ∧ L' = [memI b (doM bs k a s o n v xs).1, i] := by
  rintro w S ⟨S1, S2, ⟨d, c, rest, hm, h2⟩, hS2, h3, h4⟩
  refine (does_cv hm k a s o n v (hi w S2 (sep_one.1 hS2)) hr hl).mono fun v w' ⟨e, hO, hm'⟩ => ⟨_, ⟨e, rfl⟩, ?_⟩
  refine own_join (L2 := [memI b _]) hS2 h3 (Out.refl _ _) (fun k hk => .inl ((h4 k).2 hk)) (S' := S1) (sep_one.2 ⟨d, c, rest, hm', h2⟩) (hO.mono fun k _ hk => (h2 k).2 (.inr hk)) fun k hk => .inl hk
theorem lawNew_t (n : Int) : Tri P F.crierlaw04_New [.int .i64 n] [] fun v L' => ∃ b b' N, N ≤ 4096 ∧ v = .tuple [ptr b, ptr b'].toArray ∧ L' = [memI b (List.replicate N 0), memI b' (List.replicate N 0)] := by
  intro w S hS
  refine (lawNew_cv n).mono fun v w' ⟨hB, b, d, b', d', N, hN, e, hm, hm', g1, g2, g3, g4, g5, g6⟩ => ⟨_, ⟨b, b', N, hN, e, rfl⟩, ?_⟩
  have hs := hm.lt
  have hs' := hm'.lt
  have H0 := (Own.start hS).grow hB
  obtain ⟨T, e1, e2, e3⟩ := H0
  have hT := Sep.lt hS
  refine ⟨fun k => (k = b ∨ k = d) ∨ (k = b' ∨ k = d'), ⟨fun k => k = b ∨ k = d, fun k => k = b' ∨ k = d', ⟨d, _, [], hm, fun _ => Iff.rfl⟩, sep_one.2 ⟨d', _, [], hm', fun _ => Iff.rfl⟩, ?_, fun _ => Iff.rfl⟩, e2, ?_⟩
  · have := hm.hne
    have := hm'.hne
    rintro k (rfl | rfl) (h | h) <;> omega
  · rintro k ((rfl | rfl) | (rfl | rfl)) <;> exact .inr (by omega)
theorem ActAt.keep {W w : World} (h : ∀ k, k < W.heap.size → w.heap[k]? = W.heap[k]?) {a : Addr} {k x s o n v : Int} {q : Option Addr} {c : Nat} {xs : List Int} (ha : ActAt W a k x s o n v q c xs) : ActAt w a k x s o n v q c xs := by
  have f : ∀ {b : Addr} {u : Value}, W.cell? b = some u → w.cell? b = some u := fun hc => by rw [World.cell?_of_block (h _ (World.block_lt_of_cell? _ _ hc))]; exact hc
  obtain ⟨h0, h1, h2, h3, h4, h5, h6, h7, h8⟩ := ha
  exact ⟨f h0, f h1, f h2, f h3, f h4, f h5, f h6, fun j u hj => by obtain ⟨a, ha, hc⟩ := h7 j u hj; exact ⟨a, ha, f hc⟩, h8⟩
theorem keeps_law {bs : List Int} {a s o n v t : Int} (hl : bs.length ≤ 131072) (ht : holdsB bs.length t 1 = true)
    (h : ¬ (errE bs.length a s o n = 0 ∧ a + o ≤ t ∧ t < a + o + n)) : cut (writeM bs a s o n v) t.toNat 1 = cut bs t.toNat 1 := by
  unfold writeM
  split
  · rename_i he
    obtain ⟨a0, o0, hn, _, hlen, _⟩ := errE_ok he hl
    rw [holdsB_iff] at ht
    apply List.ext_getElem?
    intro j
    simp only [cut, List.getElem?_take, List.getElem?_drop, wr_get]
    split
    · rw [if_neg]; omega
    · rfl
  · rfl
theorem memKeeps_cv {W : World} {p : Option Addr} {m c : Nat} (hacts : Acts W p m) (hm : m ≤ 9223372036854775807) (n0 k a s o n v t : Int) {q : Option Addr} {xs : List Int} (c' : Nat)
    (hx : Sl W q (u8s xs)) (hr : ∀ x ∈ xs, 0 ≤ x ∧ x < 256) (hl : xs.length ≤ 140737488355328) :
    CV P F.crierlaw04_MemKeeps [.int .i64 n0, .slice p m c, actV k a s o n v q xs.length c', .int .i64 t] W fun r w' => r = .bool true ∧ Below W.heap.size W w' := by
  refine crierlaw04_MemKeeps_cv ?_
  unfold crierlaw04_MemKeeps
  have H := keep_start W
  refine alc_o H fun bx wx H => ?_
  refine call_p H (tri_plain awake_plain) (by repeat (first | exact Cut.nil | (apply Cut.cons; (repeat (first | exact Pick.here | apply Pick.there))))) fun wx H => ?_
  refine ⟨true, rfl, cnd_i (fun h => by cases h) fun _ => ?_⟩
  refine call_o H (lawNew_t n0) (by repeat (first | exact Cut.nil | (apply Cut.cons; (repeat (first | exact Pick.here | apply Pick.there))))) fun vx L' wx hq H => ?_
  obtain ⟨b, b', N, hN, rfl, rfl⟩ := hq
  simp only [List.cons_append, List.nil_append] at H
  refine ⟨_, _, rfl, join_o (cnd_i (fun h => by cases h) fun _ => ?_)⟩
  unfold crierlaw04_MemKeeps_j3
  refine cnd_i (fun h => by cases h) fun _ => ?_
  refine loop_o (fun (i : Int) L => ∃ (j : Nat) (bs : List Int), i = j ∧ j ≤ m ∧ bs.length = N ∧ L = [memI b bs, keep W, row bx [.int .i64 k, .int .i64 a, .int .i64 s, .int .i64 o, .int .i64 n, .int .u64 v, .slice q xs.length c'] T.t36])
    (fun (i : Int) => ((m : Int) - i).toNat) (H.drop (L1 := [memI b _, keep W, row bx _ _]) (by repeat (first | exact Cut.nil | (apply Cut.cons; (repeat (first | exact Pick.here | apply Pick.there)))))) ⟨0, _, rfl, by omega, List.length_replicate .., rfl⟩ ?_
  rintro _ _ wx ⟨j, bs, rfl, hj, hbl, rfl⟩ H
  unfold crierlaw04_MemKeeps_l2
  refine cnd_i (fun h => ?_) fun h => ?_
  · have h := of_decide_eq_true h
    refine ⟨⟨by omega, by omega⟩, ?_⟩
    rw [show ((j : Int)).toNat = j from rfl]
    obtain ⟨ad, k', x', s', o', n', v', q', c2, xs', rfl, hact⟩ := hacts j (by omega)
    obtain ⟨e0, e1, e2, e3, e4, e5, e6, e7, e8, e9⟩ := hact.keep (H.below (by repeat (first | exact Pick.here | apply Pick.there)))
    refine ⟨_, e0, _, e1, _, e2, _, e3, _, e4, _, e5, _, _, _, e6, ?_⟩
    refine call_o H (does_t b bs k' x' s' o' n' v' (keep W) (keep_sl hact.2.2.2.2.2.2.2.1) e8 e9.1) (by repeat (first | exact Cut.nil | (apply Cut.cons; (repeat (first | exact Pick.here | apply Pick.there))))) fun vx L' wx hq H => ?_
    obtain ⟨rfl, rfl⟩ := hq
    refine ⟨_, rfl, ⟨_, ⟨j + 1, _, ?_, by omega, by rw [doM_length]; exact hbl, rfl⟩, H⟩, ?_⟩
    · rw [W_id (by omega) (by omega)]; rfl
    · rw [W_id (by omega) (by omega)]
      show ((m : Int) - ((j : Int) + 1)).toNat < ((m : Int) - (j : Int)).toNat
      omega
  · have hl0 : bs.length ≤ 131072 := by omega
    refine st1_o H (by repeat (first | exact Rep.here | apply Rep.there)) (by simp) fun wx H => ?_
    refine alc_o H fun bx wx H => ?_
    refine st1_o H (by repeat (first | exact Rep.here | apply Rep.there)) (by simp) fun wx H => ?_
    refine st1_o H (by repeat (first | exact Rep.here | apply Rep.there)) (by simp) fun wx H => ?_
    repeat (first | refine ldI_o H (by repeat (first | exact Pick.here | apply Pick.there)) (by rfl) ?_ | refine ldL_o H (by repeat (first | exact Pick.here | apply Pick.there)) (by rfl) ?_ | refine ldB_o H (by repeat (first | exact Pick.here | apply Pick.there)) (by rfl) ?_ | refine ldP_o H (by repeat (first | exact Pick.here | apply Pick.there)) (by rfl) ?_ | refine ldS_o H (by repeat (first | exact Pick.here | apply Pick.there)) (by rfl) ?_)
    refine call_o H (bytes_t b bs t 1) (by repeat (first | exact Cut.nil | (apply Cut.cons; (repeat (first | exact Pick.here | apply Pick.there))))) fun vx L' wx hq H => ?_
    by_cases ht : holdsB bs.length t 1 = true
    · rw [if_pos ht] at hq
      obtain ⟨p1, c1, rfl, rfl⟩ := hq
      simp only [List.cons_append, List.nil_append] at H
      refine ⟨_, _, _, _, rfl, ?_⟩
      repeat (first | refine ldI_o H (by repeat (first | exact Pick.here | apply Pick.there)) (by rfl) ?_ | refine ldL_o H (by repeat (first | exact Pick.here | apply Pick.there)) (by rfl) ?_ | refine ldB_o H (by repeat (first | exact Pick.here | apply Pick.there)) (by rfl) ?_ | refine ldP_o H (by repeat (first | exact Pick.here | apply Pick.there)) (by rfl) ?_ | refine ldS_o H (by repeat (first | exact Pick.here | apply Pick.there)) (by rfl) ?_)
      refine call_o H (does_t b bs 1 a s o n v (keep W) (keep_sl hx) hr hl) (by repeat (first | exact Cut.nil | (apply Cut.cons; (repeat (first | exact Pick.here | apply Pick.there))))) fun vx L' wx hq H => ?_
      obtain ⟨rfl, rfl⟩ := hq
      simp only [List.cons_append, List.nil_append] at H
      refine ⟨_, rfl, ?_⟩
      repeat (first | refine ldI_o H (by repeat (first | exact Pick.here | apply Pick.there)) (by rfl) ?_ | refine ldL_o H (by repeat (first | exact Pick.here | apply Pick.there)) (by rfl) ?_ | refine ldB_o H (by repeat (first | exact Pick.here | apply Pick.there)) (by rfl) ?_ | refine ldP_o H (by repeat (first | exact Pick.here | apply Pick.there)) (by rfl) ?_ | refine ldS_o H (by repeat (first | exact Pick.here | apply Pick.there)) (by rfl) ?_)
      have e1 : doM bs 1 a s o n v xs = (writeM bs a s o n v, errE bs.length a s o n) := by simp [doM]
      simp only [e1] at H ⊢
      refine call_o H (bytes_t b (writeM bs a s o n v) t 1) (by repeat (first | exact Cut.nil | (apply Cut.cons; (repeat (first | exact Pick.here | apply Pick.there))))) fun vx L' wx hq H => ?_
      rw [if_pos (by rw [writeM_length]; exact ht)] at hq
      obtain ⟨p2, c2, rfl, rfl⟩ := hq
      simp only [List.cons_append, List.nil_append] at H
      refine ⟨_, _, _, _, rfl, cnd_i (fun h => by cases h) fun _ => join_o ?_⟩
      have hcl : ∀ l : List Int, l.length = bs.length → (cut l t.toNat (1 : Int).toNat).length = 1 := fun l h => cut_length (by rw [h]; rw [holdsB_iff] at ht; simp only [Int.toNat_one]; omega)
      have fin : ∀ x, (x = false → ¬ (errE bs.length a s o n = 0 ∧ a + o ≤ t ∧ t < a + o + n)) → crierlaw04_MemKeeps_j1 (fun r w' => r = .bool true ∧ Below W.heap.size W w') p1 (1 : Int).toNat c1 p2 (1 : Int).toNat c2 0 x wx := by
        intro x hx'
        unfold crierlaw04_MemKeeps_j1
        refine join_o (cnd_i (fun _ => cnd_i (fun _ => ⟨rfl, keep_done H (by repeat (first | exact Pick.here | apply Pick.there))⟩) fun h => ?_) (fun h => by cases h))
        refine bts_i (H.sl (p := p1) (c := c1) (by repeat (first | exact Pick.here | apply Pick.there))).1 (hcl _ rfl) (bts_i (H.sl (p := p2) (c := c2) (by repeat (first | exact Pick.here | apply Pick.there))).1 (hcl _ writeM_length) ⟨?_, keep_done H (by repeat (first | exact Pick.here | apply Pick.there))⟩)
        have := keeps_law (v := v) hl0 ht (hx' h)
        rw [show (1 : Int).toNat = 1 from rfl, this]
        simp
      refine cnd_i (fun he => ?_) fun he => fin _ fun _ h => by simp [h.1] at he
      have he : errE bs.length a s o n = 0 := by simpa using he
      obtain ⟨a0, o0, hn, _, hlen, _⟩ := errE_ok he hl0
      repeat (first | refine ldI_o H (by repeat (first | exact Pick.here | apply Pick.there)) (by rfl) ?_ | refine ldL_o H (by repeat (first | exact Pick.here | apply Pick.there)) (by rfl) ?_ | refine ldB_o H (by repeat (first | exact Pick.here | apply Pick.there)) (by rfl) ?_ | refine ldP_o H (by repeat (first | exact Pick.here | apply Pick.there)) (by rfl) ?_ | refine ldS_o H (by repeat (first | exact Pick.here | apply Pick.there)) (by rfl) ?_)
      rw [W_id (n := a + o) (by omega) (by omega)]
      refine cnd_i (fun h1 => ?_) fun h1 => fin _ fun _ h => ?_
      · repeat (first | refine ldI_o H (by repeat (first | exact Pick.here | apply Pick.there)) (by rfl) ?_ | refine ldL_o H (by repeat (first | exact Pick.here | apply Pick.there)) (by rfl) ?_ | refine ldB_o H (by repeat (first | exact Pick.here | apply Pick.there)) (by rfl) ?_ | refine ldP_o H (by repeat (first | exact Pick.here | apply Pick.there)) (by rfl) ?_ | refine ldS_o H (by repeat (first | exact Pick.here | apply Pick.there)) (by rfl) ?_)
        rw [W_id (n := a + o) (by omega) (by omega), W_id (n := a + o + n) (by omega) (by omega)]
        exact fin _ fun hh h => by have := of_decide_eq_false hh; omega
      · have := of_decide_eq_false h1; omega
    · rw [if_neg ht] at hq
      obtain ⟨rfl, rfl⟩ := hq
      simp only [List.cons_append, List.nil_append] at H
      refine ⟨_, _, _, _, rfl, ?_⟩
      repeat (first | refine ldI_o H (by repeat (first | exact Pick.here | apply Pick.there)) (by rfl) ?_ | refine ldL_o H (by repeat (first | exact Pick.here | apply Pick.there)) (by rfl) ?_ | refine ldB_o H (by repeat (first | exact Pick.here | apply Pick.there)) (by rfl) ?_ | refine ldP_o H (by repeat (first | exact Pick.here | apply Pick.there)) (by rfl) ?_ | refine ldS_o H (by repeat (first | exact Pick.here | apply Pick.there)) (by rfl) ?_)
      refine call_o H (does_t b bs 1 a s o n v (keep W) (keep_sl hx) hr hl) (by repeat (first | exact Cut.nil | (apply Cut.cons; (repeat (first | exact Pick.here | apply Pick.there))))) fun vx L' wx hq H => ?_
      obtain ⟨rfl, rfl⟩ := hq
      simp only [List.cons_append, List.nil_append] at H
      refine ⟨_, rfl, ?_⟩
      repeat (first | refine ldI_o H (by repeat (first | exact Pick.here | apply Pick.there)) (by rfl) ?_ | refine ldL_o H (by repeat (first | exact Pick.here | apply Pick.there)) (by rfl) ?_ | refine ldB_o H (by repeat (first | exact Pick.here | apply Pick.there)) (by rfl) ?_ | refine ldP_o H (by repeat (first | exact Pick.here | apply Pick.there)) (by rfl) ?_ | refine ldS_o H (by repeat (first | exact Pick.here | apply Pick.there)) (by rfl) ?_)
      refine call_o H (bytes_t b _ t 1) (by repeat (first | exact Cut.nil | (apply Cut.cons; (repeat (first | exact Pick.here | apply Pick.there))))) fun vx L' wx hq H => ?_
      rw [if_neg (by rw [doM_length]; exact ht)] at hq
      obtain ⟨rfl, rfl⟩ := hq
      simp only [List.cons_append, List.nil_append] at H
      exact ⟨_, _, _, _, rfl, cnd_i (fun _ => ⟨rfl, keep_done H (by repeat (first | exact Pick.here | apply Pick.there))⟩) (fun h => by cases h)⟩
end Go.Proofs.Ytbincfjaahjbiaa
