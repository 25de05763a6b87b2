/-
  mem: along any acts the program's memory and the document's are alike: MemDoes.
-/
import Derived.Test.YtbincfjaahjbiaaL12
namespace Go.Proofs.Ytbincfjaahjbiaa
open Go Go.RowKit X
set_option maxRecDepth 100000
set_option linter.unusedVariables false
theorem readV_eq (bs : List Int) (a s o n : Int) : ∃ x y, readV bs a s o n = .tuple [.int .u64 x, .int .i64 y].toArray := by
  unfold readV; split
  · exact ⟨_, _, rfl⟩
  · exact ⟨_, _, rfl⟩
theorem bts_nil {w : World} {K : ByteArray → Prop} (h : K (strOf [])) : X.runT P (Conv.bytesToString (.slice none 0 0)) w K := bts_i (xs := []) (fun j u hj => by cases hj) rfl h
section
variable {W : World} {b' N : Nat} {i1 : Int} {A : crierlaw04_MemDoes_L506.S → World → Prop} {k a s o n v : Int} {q : Option Addr} {c' : Nat} {xs : List Int}
theorem memDoes_l0 {b2 : Nat} {bs : List Int} (hA : ∀ b2 bs wx, bs.length = N → X.Own W (fun k => k < W.heap.size) [memI b2 bs, memI b' bs, keep W] wx → A (some ⟨b2, 0, none⟩, IntKind.i64.wrap (i1 + 1)) wx) (hN : bs.length = N) {wx : World} {p : Option Addr} {l c : Nat} {ys : List Int} (hl : l ≤ 131072)
    (H : X.Own W (fun k => k < W.heap.size) [memI b2 bs, memI b' bs, own tByte 1 (.slice p l c) l (u8s ys), keep W] wx) :
    crierlaw04_MemDoes_j1 (fun r w' => r = .bool true ∧ Below W.heap.size W w') (some ⟨b', 0, none⟩) i1 A (some ⟨b2, 0, none⟩) p l false wx := by
  unfold crierlaw04_MemDoes_j1
  refine cnd_i (fun h => by cases h) fun _ => ?_
  refine loop_o (fun (i : Int) L => ∃ (j : Nat) (zs : List Value), i = j ∧ j ≤ l ∧ L = [memI b2 bs, memI b' bs, own tByte 1 (.slice p l c) l zs, keep W]) (fun (i : Int) => ((l : Int) - i).toNat) H ⟨0, _, rfl, by omega, rfl⟩ ?_
  rintro _ _ wx ⟨j, zs, rfl, hj, rfl⟩ H
  unfold crierlaw04_MemDoes_l0
  refine cnd_i (fun h => ?_) fun h => ?_
  · have h := of_decide_eq_true h
    refine ⟨⟨by omega, by omega⟩, ?_⟩
    rw [show ((j : Int)).toNat = j from rfl]
    refine ost_o H (by repeat (first | exact Rep.here | apply Rep.there)) (by omega) fun wx H => ⟨⟨_, ⟨j + 1, _, ?_, by omega, rfl⟩, H⟩, ?_⟩
    · rw [W_id (by omega) (by omega)]; rfl
    · rw [W_id (by omega) (by omega)]
      show ((l : Int) - ((j : Int) + 1)).toNat < ((l : Int) - (j : Int)).toNat
      omega
  · refine call_p H (same_t b2 b' bs) (by repeat (first | exact Cut.nil | (apply Cut.cons; (repeat (first | exact Pick.here | apply Pick.there))))) fun wx H => ?_
    exact ⟨_, rfl, cnd_i (fun h => by cases h) fun _ => hA b2 bs wx hN (H.drop (by repeat (first | exact Cut.nil | (apply Cut.cons; (repeat (first | exact Pick.here | apply Pick.there))))))⟩
theorem memDoes_j2 {b2 bx : Nat} {bs : List Int} {tb : TypeId} (hA : ∀ b2 bs wx, bs.length = N → X.Own W (fun k => k < W.heap.size) [memI b2 bs, memI b' bs, keep W] wx → A (some ⟨b2, 0, none⟩, IntKind.i64.wrap (i1 + 1)) wx) (hN : bs.length = N) (hN' : N ≤ 4096) {wx : World}
    (H : X.Own W (fun k => k < W.heap.size) [memI b2 bs, memI b' bs, row bx [.int .i64 k, .int .i64 a, .int .i64 s, .int .i64 o, .int .i64 n, .int .u64 v, .slice q xs.length c'] tb, keep W] wx) :
    crierlaw04_MemDoes_j2 (fun r w' => r = .bool true ∧ Below W.heap.size W w') (some ⟨b', 0, none⟩) i1 A bx (some ⟨b2, 0, none⟩) false wx := by
  unfold crierlaw04_MemDoes_j2
  refine cnd_i (fun h => by cases h) fun _ => ?_
  obtain ⟨x, y, hxy⟩ := readV_eq bs a s o n
  repeat (first | refine ldI_o H (by repeat (first | exact Pick.here | apply Pick.there)) (by rfl) ?_ | refine ldL_o H (by repeat (first | exact Pick.here | apply Pick.there)) (by rfl) ?_ | refine ldB_o H (by repeat (first | exact Pick.here | apply Pick.there)) (by rfl) ?_ | refine ldP_o H (by repeat (first | exact Pick.here | apply Pick.there)) (by rfl) ?_ | refine ldS_o H (by repeat (first | exact Pick.here | apply Pick.there)) (by rfl) ?_)
  refine call_p H (read_t b2 bs a s o n) (by repeat (first | exact Cut.nil | (apply Cut.cons; (repeat (first | exact Pick.here | apply Pick.there))))) fun wx H => ?_
  refine ⟨_, _, hxy, ?_⟩
  repeat (first | refine ldI_o H (by repeat (first | exact Pick.here | apply Pick.there)) (by rfl) ?_ | refine ldL_o H (by repeat (first | exact Pick.here | apply Pick.there)) (by rfl) ?_ | refine ldB_o H (by repeat (first | exact Pick.here | apply Pick.there)) (by rfl) ?_ | refine ldP_o H (by repeat (first | exact Pick.here | apply Pick.there)) (by rfl) ?_ | refine ldS_o H (by repeat (first | exact Pick.here | apply Pick.there)) (by rfl) ?_)
  refine call_p H (refRead_t b' bs a s o n) (by repeat (first | exact Cut.nil | (apply Cut.cons; (repeat (first | exact Pick.here | apply Pick.there))))) fun wx H => ?_
  refine ⟨_, _, hxy, ?_⟩
  repeat (first | refine ldI_o H (by repeat (first | exact Pick.here | apply Pick.there)) (by rfl) ?_ | refine ldL_o H (by repeat (first | exact Pick.here | apply Pick.there)) (by rfl) ?_ | refine ldB_o H (by repeat (first | exact Pick.here | apply Pick.there)) (by rfl) ?_ | refine ldP_o H (by repeat (first | exact Pick.here | apply Pick.there)) (by rfl) ?_ | refine ldS_o H (by repeat (first | exact Pick.here | apply Pick.there)) (by rfl) ?_)
  have tail : ∀ wx p l c ys s1, l ≤ 131072 → s1 = false → X.Own W (fun k => k < W.heap.size) [memI b2 bs, memI b' bs, own tByte 1 (.slice p l c) l (u8s ys), keep W] wx → crierlaw04_MemDoes_j1 (fun r w' => r = .bool true ∧ Below W.heap.size W w') (some ⟨b', 0, none⟩) i1 A (some ⟨b2, 0, none⟩) p l s1 wx := by
    rintro wx p l c ys _ hl rfl H
    exact memDoes_l0 hA hN hl H
  by_cases hh : holdsB bs.length a s = true
  · have h4 := holdsB_iff.1 hh
    refine call_o H (bytes_t b2 bs a s) (by repeat (first | exact Cut.nil | (apply Cut.cons; (repeat (first | exact Pick.here | apply Pick.there))))) fun vx L' wx hq H => ?_
    rw [if_pos hh] at hq
    obtain ⟨p1, c1, rfl, rfl⟩ := hq
    simp only [List.cons_append, List.nil_append] at H
    refine ⟨_, _, _, _, rfl, ?_⟩
    repeat (first | refine ldI_o H (by repeat (first | exact Pick.here | apply Pick.there)) (by rfl) ?_ | refine ldL_o H (by repeat (first | exact Pick.here | apply Pick.there)) (by rfl) ?_ | refine ldB_o H (by repeat (first | exact Pick.here | apply Pick.there)) (by rfl) ?_ | refine ldP_o H (by repeat (first | exact Pick.here | apply Pick.there)) (by rfl) ?_ | refine ldS_o H (by repeat (first | exact Pick.here | apply Pick.there)) (by rfl) ?_)
    refine call_o H (refBytes_t b' bs a s) (by repeat (first | exact Cut.nil | (apply Cut.cons; (repeat (first | exact Pick.here | apply Pick.there))))) fun vx L' wx hq H => ?_
    rw [if_pos hh] at hq
    obtain ⟨p2, c2, rfl, rfl⟩ := hq
    simp only [List.cons_append, List.nil_append] at H
    refine ⟨_, _, _, _, rfl, join_o ?_⟩
    have hcl : (cut bs a.toNat s.toNat).length = s.toNat := cut_length (by omega)
    refine drw_o H fun wx H => ?_
    refine cnd_i (fun h => by simp at h) fun _ => cnd_i (fun h => by simp at h) fun _ => bts_i (H.sl (p := p1) (c := c1) (by repeat (first | exact Pick.here | apply Pick.there))).1 hcl (bts_i (H.sl (p := p2) (c := c2) (by repeat (first | exact Pick.here | apply Pick.there))).1 hcl (cnd_i (fun h => by simp at h) fun _ => cnd_i (fun h => by cases h) fun _ => ?_))
    repeat (first | refine ldI_o H (by repeat (first | exact Pick.here | apply Pick.there)) (by rfl) ?_ | refine ldL_o H (by repeat (first | exact Pick.here | apply Pick.there)) (by rfl) ?_ | refine ldB_o H (by repeat (first | exact Pick.here | apply Pick.there)) (by rfl) ?_ | refine ldP_o H (by repeat (first | exact Pick.here | apply Pick.there)) (by rfl) ?_ | refine ldS_o H (by repeat (first | exact Pick.here | apply Pick.there)) (by rfl) ?_)
    refine call_p H (holds_t b2 bs a s) (by repeat (first | exact Cut.nil | (apply Cut.cons; (repeat (first | exact Pick.here | apply Pick.there))))) fun wx H => ?_
    refine ⟨_, rfl, ?_, ?_⟩
    · repeat (first | refine ldI_o H (by repeat (first | exact Pick.here | apply Pick.there)) (by rfl) ?_ | refine ldL_o H (by repeat (first | exact Pick.here | apply Pick.there)) (by rfl) ?_ | refine ldB_o H (by repeat (first | exact Pick.here | apply Pick.there)) (by rfl) ?_ | refine ldP_o H (by repeat (first | exact Pick.here | apply Pick.there)) (by rfl) ?_ | refine ldS_o H (by repeat (first | exact Pick.here | apply Pick.there)) (by rfl) ?_)
      rfl
    refine call_p H (refHolds_t b' bs a s) (by repeat (first | exact Cut.nil | (apply Cut.cons; (repeat (first | exact Pick.here | apply Pick.there))))) fun wx H => ?_
    exact ⟨_, rfl, tail _ _ _ c1 _ _ (by omega) (by simp) (H.drop (by repeat (first | exact Cut.nil | (apply Cut.cons; (repeat (first | exact Pick.here | apply Pick.there))))))⟩
  · refine call_o H (bytes_t b2 bs a s) (by repeat (first | exact Cut.nil | (apply Cut.cons; (repeat (first | exact Pick.here | apply Pick.there))))) fun vx L' wx hq H => ?_
    rw [if_neg hh] at hq
    obtain ⟨rfl, rfl⟩ := hq
    simp only [List.cons_append, List.nil_append] at H
    refine ⟨_, _, _, _, rfl, ?_⟩
    repeat (first | refine ldI_o H (by repeat (first | exact Pick.here | apply Pick.there)) (by rfl) ?_ | refine ldL_o H (by repeat (first | exact Pick.here | apply Pick.there)) (by rfl) ?_ | refine ldB_o H (by repeat (first | exact Pick.here | apply Pick.there)) (by rfl) ?_ | refine ldP_o H (by repeat (first | exact Pick.here | apply Pick.there)) (by rfl) ?_ | refine ldS_o H (by repeat (first | exact Pick.here | apply Pick.there)) (by rfl) ?_)
    refine call_o H (refBytes_t b' bs a s) (by repeat (first | exact Cut.nil | (apply Cut.cons; (repeat (first | exact Pick.here | apply Pick.there))))) fun vx L' wx hq H => ?_
    rw [if_neg hh] at hq
    obtain ⟨rfl, rfl⟩ := hq
    simp only [List.cons_append, List.nil_append] at H
    refine ⟨_, _, _, _, rfl, join_o ?_⟩
    refine drw_o H fun wx H => ?_
    refine cnd_i (fun h => by simp at h) fun _ => cnd_i (fun h => by simp at h) fun _ => bts_nil (bts_nil (cnd_i (fun h => by simp at h) fun _ => cnd_i (fun h => by cases h) fun _ => ?_))
    repeat (first | refine ldI_o H (by repeat (first | exact Pick.here | apply Pick.there)) (by rfl) ?_ | refine ldL_o H (by repeat (first | exact Pick.here | apply Pick.there)) (by rfl) ?_ | refine ldB_o H (by repeat (first | exact Pick.here | apply Pick.there)) (by rfl) ?_ | refine ldP_o H (by repeat (first | exact Pick.here | apply Pick.there)) (by rfl) ?_ | refine ldS_o H (by repeat (first | exact Pick.here | apply Pick.there)) (by rfl) ?_)
    refine call_p H (holds_t b2 bs a s) (by repeat (first | exact Cut.nil | (apply Cut.cons; (repeat (first | exact Pick.here | apply Pick.there))))) fun wx H => ?_
    refine ⟨_, rfl, ?_, ?_⟩
    · repeat (first | refine ldI_o H (by repeat (first | exact Pick.here | apply Pick.there)) (by rfl) ?_ | refine ldL_o H (by repeat (first | exact Pick.here | apply Pick.there)) (by rfl) ?_ | refine ldB_o H (by repeat (first | exact Pick.here | apply Pick.there)) (by rfl) ?_ | refine ldP_o H (by repeat (first | exact Pick.here | apply Pick.there)) (by rfl) ?_ | refine ldS_o H (by repeat (first | exact Pick.here | apply Pick.there)) (by rfl) ?_)
      rfl
    refine call_p H (refHolds_t b' bs a s) (by repeat (first | exact Cut.nil | (apply Cut.cons; (repeat (first | exact Pick.here | apply Pick.there))))) fun wx H => ?_
    have H := own_nil (e := tByte) (size := 1) H
    exact ⟨_, rfl, tail _ _ _ 0 [] _ (by omega) (by simp) (H.drop (by repeat (first | exact Cut.nil | (apply Cut.cons; (repeat (first | exact Pick.here | apply Pick.there))))))⟩
theorem memDoes_j3 {b2 bx : Nat} {bs : List Int} {tb : TypeId} (hA : ∀ b2 bs wx, bs.length = N → X.Own W (fun k => k < W.heap.size) [memI b2 bs, memI b' bs, keep W] wx → A (some ⟨b2, 0, none⟩, IntKind.i64.wrap (i1 + 1)) wx) (hN : bs.length = N) (hN' : N ≤ 4096)
    (hx : Sl W q (u8s xs)) (hr : ∀ x ∈ xs, 0 ≤ x ∧ x < 256) (hl : xs.length ≤ 140737488355328) (hv : 0 ≤ v ∧ v < 2 ^ 64) {wx : World}
    (H : X.Own W (fun k => k < W.heap.size) [memI b2 bs, memI b' bs, row bx [.int .i64 k, .int .i64 a, .int .i64 s, .int .i64 o, .int .i64 n, .int .u64 v, .slice q xs.length c'] tb, keep W] wx) :
    crierlaw04_MemDoes_j3 (fun r w' => r = .bool true ∧ Below W.heap.size W w') (some ⟨b', 0, none⟩) i1 A bx (some ⟨b2, 0, none⟩) wx := by
  unfold crierlaw04_MemDoes_j3
  refine join_o ?_
  refine drw_o H fun wx H => ?_
  repeat (first | refine ldI_o H (by repeat (first | exact Pick.here | apply Pick.there)) (by rfl) ?_ | refine ldL_o H (by repeat (first | exact Pick.here | apply Pick.there)) (by rfl) ?_ | refine ldB_o H (by repeat (first | exact Pick.here | apply Pick.there)) (by rfl) ?_ | refine ldP_o H (by repeat (first | exact Pick.here | apply Pick.there)) (by rfl) ?_ | refine ldS_o H (by repeat (first | exact Pick.here | apply Pick.there)) (by rfl) ?_)
  refine call_o H (does_t b2 bs k a s o n v (keep W) (keep_sl hx) hr hl) (by repeat (first | exact Cut.nil | (apply Cut.cons; (repeat (first | exact Pick.here | apply Pick.there))))) fun vx L' wx hq H => ?_
  obtain ⟨rfl, rfl⟩ := hq
  simp only [List.cons_append, List.nil_append] at H
  refine ⟨_, rfl, ?_, ?_⟩
  · repeat (first | refine ldI_o H (by repeat (first | exact Pick.here | apply Pick.there)) (by rfl) ?_ | refine ldL_o H (by repeat (first | exact Pick.here | apply Pick.there)) (by rfl) ?_ | refine ldB_o H (by repeat (first | exact Pick.here | apply Pick.there)) (by rfl) ?_ | refine ldP_o H (by repeat (first | exact Pick.here | apply Pick.there)) (by rfl) ?_ | refine ldS_o H (by repeat (first | exact Pick.here | apply Pick.there)) (by rfl) ?_)
    rfl
  refine call_o H (model_t b' bs k a s o n v hv (keep W) (keep_sl hx) hr) (by repeat (first | exact Cut.nil | (apply Cut.cons; (repeat (first | exact Pick.here | apply Pick.there))))) fun vx L' wx hq H => ?_
  obtain ⟨rfl, rfl⟩ := hq
  simp only [List.cons_append, List.nil_append] at H
  refine ⟨_, rfl, cnd_i (fun h => by simp at h) fun _ => ?_⟩
  refine call_p H (same_t b2 b' (doM bs k a s o n v xs).1) (by repeat (first | exact Cut.nil | (apply Cut.cons; (repeat (first | exact Pick.here | apply Pick.there))))) fun wx H => ?_
  exact ⟨_, rfl, memDoes_j2 hA ((doM_length bs k a s o n v xs).trans hN) hN' (H.drop (by repeat (first | exact Cut.nil | (apply Cut.cons; (repeat (first | exact Pick.here | apply Pick.there))))))⟩
end
theorem memDoes_cv {W : World} {p : Option Addr} {m c : Nat} (hacts : Acts W p m) (hm : m ≤ 9223372036854775807) (n0 : Int) :
    CV P F.crierlaw04_MemDoes [.int .i64 n0, .slice p m c] W fun r w' => r = .bool true ∧ Below W.heap.size W w' := by
  refine crierlaw04_MemDoes_cv ?_
  unfold crierlaw04_MemDoes
  have H := keep_start W
  refine call_p H (tri_plain awake_plain) (by repeat (first | exact Cut.nil | (apply Cut.cons; (repeat (first | exact Pick.here | apply Pick.there))))) fun wx H => ?_
  refine ⟨true, rfl, cnd_i (fun h => by cases h) fun _ => ?_⟩
  refine call_o H (lawNew_t n0) (by repeat (first | exact Cut.nil | (apply Cut.cons; (repeat (first | exact Pick.here | apply Pick.there))))) fun vx L' wx hq H => ?_
  obtain ⟨b, b', N, hN, rfl, rfl⟩ := hq
  simp only [List.cons_append, List.nil_append] at H
  refine ⟨_, _, rfl, join_o (cnd_i (fun h => by cases h) fun _ => ?_)⟩
  unfold crierlaw04_MemDoes_j5
  refine cnd_i (fun h => by cases h) fun _ => ?_
  refine loop_o (fun (st : Option Addr × Int) L => ∃ (j b : Nat) (bs : List Int), st = (some ⟨b, 0, none⟩, (j : Int)) ∧ j ≤ m ∧ bs.length = N ∧ L = [memI b bs, memI b' bs, keep W])
    (fun (st : Option Addr × Int) => ((m : Int) - st.2).toNat) H ⟨0, b, _, rfl, by omega, List.length_replicate .., rfl⟩ ?_
  rintro _ _ wx ⟨j0, b, bs, rfl, hj, hbl, rfl⟩ H
  dsimp only
  unfold crierlaw04_MemDoes_l4
  refine cnd_i (fun h => ?_) fun h => ?_
  · have h := of_decide_eq_true h
    refine ⟨⟨by omega, by omega⟩, ?_⟩
    rw [show ((j0 : Int)).toNat = j0 from rfl]
    obtain ⟨ad, k, a, s, o, n, v, q, c2, xs, rfl, hact⟩ := hacts j0 (by omega)
    have hsl := hact.2.2.2.2.2.2.2.1
    obtain ⟨e0, e1, e2, e3, e4, e5, e6, e7, e8, e9, ev⟩ := hact.keep (H.below (by repeat (first | exact Pick.here | apply Pick.there)))
    refine ⟨_, e0, _, e1, _, e2, _, e3, _, e4, _, e5, _, _, _, e6, ?_⟩
    refine alc_o H fun bx wx H => ?_
    refine st1_o H (by repeat (first | exact Rep.here | apply Rep.there)) (by simp) fun wx H => ?_
    refine st1_o H (by repeat (first | exact Rep.here | apply Rep.there)) (by simp) fun wx H => ?_
    refine st1_o H (by repeat (first | exact Rep.here | apply Rep.there)) (by simp) fun wx H => ?_
    refine st1_o H (by repeat (first | exact Rep.here | apply Rep.there)) (by simp) fun wx H => ?_
    refine st1_o H (by repeat (first | exact Rep.here | apply Rep.there)) (by simp) fun wx H => ?_
    refine st1_o H (by repeat (first | exact Rep.here | apply Rep.there)) (by simp) fun wx H => ?_
    refine st1_o H (by repeat (first | exact Rep.here | apply Rep.there)) (by simp) fun wx H => ?_
    simp only [List.set_cons_zero, List.set_cons_succ] at H
    have hA : ∀ b2 bs wx, bs.length = N → X.Own W (fun k => k < W.heap.size) [memI b2 bs, memI b' bs, keep W] wx → (∃ L', (∃ (j b : Nat) (bs : List Int), ((some ⟨b2, 0, none⟩, IntKind.i64.wrap ((j0 : Int) + 1)) : Option Addr × Int) = (some ⟨b, 0, none⟩, (j : Int)) ∧ j ≤ m ∧ bs.length = N ∧ L' = [memI b bs, memI b' bs, keep W]) ∧ X.Own W (fun k => k < W.heap.size) L' wx) ∧
        ((m : Int) - IntKind.i64.wrap ((j0 : Int) + 1)).toNat < ((m : Int) - (j0 : Int)).toNat := by
      intro b2 bs wx hl H
      rw [W_id (by omega) (by omega)]
      exact ⟨⟨_, ⟨j0 + 1, b2, bs, by push_cast; rfl, by omega, hl, rfl⟩, H⟩, by omega⟩
    refine join_o ?_
    repeat (first | refine ldI_o H (by repeat (first | exact Pick.here | apply Pick.there)) (by rfl) ?_ | refine ldL_o H (by repeat (first | exact Pick.here | apply Pick.there)) (by rfl) ?_ | refine ldB_o H (by repeat (first | exact Pick.here | apply Pick.there)) (by rfl) ?_ | refine ldP_o H (by repeat (first | exact Pick.here | apply Pick.there)) (by rfl) ?_ | refine ldS_o H (by repeat (first | exact Pick.here | apply Pick.there)) (by rfl) ?_)
    refine cnd_i (fun h4 => ?_) fun h4 => ?_
    · refine call_o H (copy_t b bs) (by repeat (first | exact Cut.nil | (apply Cut.cons; (repeat (first | exact Pick.here | apply Pick.there))))) fun vx L' wx hq H => ?_
      obtain ⟨b2, rfl, rfl⟩ := hq
      simp only [List.cons_append, List.nil_append] at H
      refine ⟨_, rfl, cnd_i (fun h => by cases h) fun _ => ?_⟩
      refine call_p H (size_t b bs) (by repeat (first | exact Cut.nil | (apply Cut.cons; (repeat (first | exact Pick.here | apply Pick.there))))) fun wx H => ?_
      refine ⟨_, rfl, ?_⟩
      refine call_o H (write_t b bs 0 bs.length 0 8 7) (by repeat (first | exact Cut.nil | (apply Cut.cons; (repeat (first | exact Pick.here | apply Pick.there))))) fun vx L' wx hq H => ?_
      obtain ⟨rfl, rfl⟩ := hq
      simp only [List.cons_append, List.nil_append] at H
      refine ⟨_, rfl, ?_⟩
      repeat (first | refine ldI_o H (by repeat (first | exact Pick.here | apply Pick.there)) (by rfl) ?_ | refine ldL_o H (by repeat (first | exact Pick.here | apply Pick.there)) (by rfl) ?_ | refine ldB_o H (by repeat (first | exact Pick.here | apply Pick.there)) (by rfl) ?_ | refine ldP_o H (by repeat (first | exact Pick.here | apply Pick.there)) (by rfl) ?_ | refine ldS_o H (by repeat (first | exact Pick.here | apply Pick.there)) (by rfl) ?_)
      refine call_o H (wipe_t b _ a s) (by repeat (first | exact Cut.nil | (apply Cut.cons; (repeat (first | exact Pick.here | apply Pick.there))))) fun vx L' wx hq H => ?_
      obtain ⟨rfl, rfl⟩ := hq
      simp only [List.cons_append, List.nil_append] at H
      refine ⟨_, rfl, ?_⟩
      exact memDoes_j3 hA hbl hN hsl e8 e9 ev (H.drop (by repeat (first | exact Cut.nil | (apply Cut.cons; (repeat (first | exact Pick.here | apply Pick.there))))))
    · exact memDoes_j3 hA hbl hN hsl e8 e9 ev (H.drop (by repeat (first | exact Cut.nil | (apply Cut.cons; (repeat (first | exact Pick.here | apply Pick.there))))))
  · exact ⟨rfl, keep_done H (by repeat (first | exact Pick.here | apply Pick.there))⟩
end Go.Proofs.Ytbincfjaahjbiaa
