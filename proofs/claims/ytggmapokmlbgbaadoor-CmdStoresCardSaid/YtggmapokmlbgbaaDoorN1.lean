/-
  mem: an act of a script, by the program and by the document; the acts of a script as they lie in memory.
-/
import Derived.Test.YtggmapokmlbgbaaDoorMA
import Derived.Test.YtggmapokmlbgbaaDoorS5
import Derived.Test.YtggmapokmlbgbaaDoorS7
namespace Go.Proofs.YtggmapokmlbgbaaDoor
open Go Go.RowKit X
set_option maxRecDepth 100000
set_option linter.unusedVariables false
/-- an act: what it leaves, what it answers -/
def doM (bs : List Int) (k a s o n v : Int) (xs : List Int) : List Int × Int :=
  if k = 1 then (writeM bs a s o n v, errE bs.length a s o n)
  else if k = 2 then (if holdsB bs.length a s && decide ((xs.length : Int) ≤ s) then (over bs a.toNat xs, 0) else (bs, 42))
  else if k = 3 then (if holdsB bs.length a s then (over bs a.toNat (List.replicate s.toNat 0), 0) else (bs, 42))
  else (bs, 0)
theorem sl_below {w w' : World} {p : Option Addr} {xs : List Value} (h : Sl w p xs) (hB : Below w.heap.size w w') : Sl w' p xs := by
  intro j u hj
  obtain ⟨a, ha, hc⟩ := h j u hj
  refine ⟨a, ha, ?_⟩
  rw [hB.cell (World.block_lt_of_cell? w _ hc)]; exact hc
theorem does_cv {w : World} {p : Option Addr} {b d c : Nat} {bs : List Int} {rest : List Value} (hm : MemAt w p b d c bs rest) (k a s o n v : Int) {q : Option Addr} {c' : Nat} {xs : List Int} (hx : Sl w q (u8s xs)) (hr : ∀ x ∈ xs, 0 ≤ x ∧ x < 256) (hl : xs.length ≤ 140737488355328) :
    CV P F.crierlaw04_Does [.pointer p, .agg [.int .i64 k, .int .i64 a, .int .i64 s, .int .i64 o, .int .i64 n, .int .u64 v, .slice q xs.length c'].toArray] w fun r w' =>
      r = .int .i64 (doM bs k a s o n v xs).2 ∧ Out (fun k => k = d) w w' ∧ MemAt w' p b d c (doM bs k a s o n v xs).1 rest := by
  refine crierlaw04_Does_cv ?_
  unfold crierlaw04_Does
  refine alc_i fun w1 hB1 h1 hs1 => ?_
  have hb1 := hB1 _ (Nat.le_refl _)
  have hm1 := hm.ext hb1
  have hx1 := sl_below hx hb1
  have hlt := hm.lt
  refine ldI_i h1 rfl (cnd_i (fun h => ?_) fun h => ?_)
  · have h : k = 1 := by simpa using h
    refine ldI_i h1 rfl (ldI_i h1 rfl (ldI_i h1 rfl (ldI_i h1 rfl (ldI_i h1 rfl ?_))))
    refine (write_cv hm1 a s o n v).mono ?_
    rintro _ w2 ⟨rfl, hO, hm2⟩
    refine ⟨_, rfl, ?_⟩
    simp only [doM, if_pos h]
    exact ⟨trivial, (Out.pure hb1).trans hO, hm2⟩
  have h : k ≠ 1 := by simpa using h
  refine cnd_i (fun h2 => ?_) fun h2 => ?_
  · have h2 : k = 2 := by simpa using h2
    refine ldL_i h1 rfl ?_
    refine appS_i appBytes (base := w1.heap.size) (by omega) (World.ownsRow_nil w1 w1.heap.size tByte 1) hx1 (by rw [u8s_length]; simp) (u8s_one xs) (by unfold maxLen; omega) (by omega) (Nat.le_refl _) ?_
    intro p' c2 w2 ho hg
    have hb12 : Below w1.heap.size w1 w2 := (Below.refl _ _).grown hg (Nat.le_refl _) (by intro k hk; cases hk)
    have h1' := h1.ext hb12
    have hm2 := hm1.ext hb12
    have hb2 := hb1.trans (hb12.mono hb1.size)
    have hso := Sl.own ho
    rw [List.nil_append] at hso
    rw [show 0 + xs.length = xs.length from by omega] at ho ⊢
    refine ldI_i h1' rfl (ldI_i h1' rfl ?_)
    refine (put_cv hm2 a s hso.1 hr).mono ?_
    rintro _ w3 ⟨rfl, hO, hm3⟩
    refine ⟨_, rfl, ?_⟩
    have hres : (doM bs k a s o n v xs) = if holdsB bs.length a s && decide ((xs.length : Int) ≤ s) then (over bs a.toNat xs, 0) else (bs, 42) := by simp only [doM, if_neg h, if_pos h2]
    have hlto := World.ownsRow.lt ho
    have hs2 := hb12.size
    have hs3 := hO.size
    have done : ∀ w', Out (fun k => k = d) w w' → MemAt w' p b d c (if holdsB bs.length a s && decide ((xs.length : Int) ≤ s) then over bs a.toNat xs else bs) rest →
        (Value.int .i64 (if holdsB bs.length a s && decide ((xs.length : Int) ≤ s) then 0 else 42) = .int .i64 (doM bs k a s o n v xs).2 ∧ Out (fun k => k = d) w w' ∧ MemAt w' p b d c (doM bs k a s o n v xs).1 rest) := by
      intro w' hOw hmw
      rw [hres]
      cases hc : (holdsB bs.length a s && decide ((xs.length : Int) ≤ s))
      · rw [hc] at hmw; exact ⟨rfl, hOw, hmw⟩
      · rw [hc] at hmw; exact ⟨rfl, hOw, hmw⟩
    refine ⟨fun (i' : Int) w' => ∃ i : Nat, i ≤ xs.length ∧ i' = i ∧ Out (fun k => k = d) w w' ∧ MemAt w' p b d c (if holdsB bs.length a s && decide ((xs.length : Int) ≤ s) then over bs a.toNat xs else bs) rest ∧
      (0 < xs.length → ∃ g cur t, p' = some ⟨g, 0, none⟩ ∧ w1.heap.size ≤ g ∧ Row w' g cur t ∧ xs.length ≤ cur.length), fun (i' : Int) _ => ((xs.length : Int) - i').toNat, ⟨0, by omega, rfl, (Out.pure hb2).trans hO, hm3, ?_⟩, ?_⟩
    · intro hpos
      rcases ho.2 with ⟨e1, e2⟩ | ⟨g, cap, cur, e1, e2, e3, e4, e5, e6, e7⟩
      · omega
      · cases e1
        refine ⟨g, cur.toList, tByte, rfl, e2, ?_, by simp; omega⟩
        unfold Row
        rw [hO.block g (Array.getElem?_eq_some_iff.1 e3).1 (by omega)]; exact e3
    · rintro _ w' ⟨i, hi, rfl, hOw, hmw, hg⟩
      unfold crierlaw04_Does_l0
      refine cnd_i (fun h => ?_) fun h => done w' hOw hmw
      have h := of_decide_eq_true h
      obtain ⟨g, cur, t, rfl, hgb, hrow, hcl⟩ := hg (by omega)
      refine ⟨⟨by omega, by omega⟩, ?_⟩
      rw [show ((i : Int)).toNat = i from rfl]
      show st1 _ _ _ _
      rw [add_lit, Nat.zero_add, Nat.mul_one]
      refine st1_i hrow (by omega) fun w4 hB4 e4 hs4 h4 => ⟨⟨i + 1, by omega, ?_, ?_, ?_, fun _ => ⟨g, _, t, rfl, hgb, h4, by simpa using hcl⟩⟩, ?_⟩
      · rw [W_id (by omega) (by omega)]; rfl
      · exact ⟨(hB4 0 (by omega)).os.trans hOw.os, (hB4 0 (by omega)).tape.trans hOw.tape, (hB4 0 (by omega)).output.trans hOw.output, by have := hOw.size; omega, fun x hx hn => (e4 x (by omega)).trans (hOw.block x hx hn)⟩
      · exact hmw.heap (e4 _ (by omega)) (e4 _ (by omega))
      · rw [W_id (by omega) (by omega)]
        show ((xs.length : Int) - ((i : Int) + 1)).toNat < ((xs.length : Int) - (i : Int)).toNat
        omega
  have h2 : k ≠ 2 := by simpa using h2
  refine cnd_i (fun h3 => ?_) fun h3 => ?_
  · have h3 : k = 3 := by simpa using h3
    refine ldI_i h1 rfl (ldI_i h1 rfl ?_)
    refine (wipe_cv hm1 a s).mono ?_
    rintro _ w2 ⟨rfl, hO, hm2⟩
    refine ⟨_, rfl, ?_⟩
    simp only [doM, if_neg h, if_neg h2, if_pos h3]
    cases hc : holdsB bs.length a s
    · rw [hc] at hm2; exact ⟨rfl, (Out.pure hb1).trans hO, hm2⟩
    · rw [hc] at hm2; exact ⟨rfl, (Out.pure hb1).trans hO, hm2⟩
  · have h3 : k ≠ 3 := by simpa using h3
    simp only [doM, if_neg h, if_neg h2, if_neg h3]
    exact ⟨trivial, Out.pure hb1, hm1⟩
/-- an act as it lies in memory from an address on -/
def ActAt (w : World) (a : Addr) (k x s o n v : Int) (q : Option Addr) (c : Nat) (xs : List Int) : Prop :=
  w.cell? a = some (.int .i64 k) ∧ w.cell? (a.add 1) = some (.int .i64 x) ∧ w.cell? (a.add 2) = some (.int .i64 s) ∧ w.cell? (a.add 3) = some (.int .i64 o) ∧ w.cell? (a.add 4) = some (.int .i64 n) ∧ w.cell? (a.add 5) = some (.int .u64 v) ∧
    w.cell? (a.add 6) = some (.slice q xs.length c) ∧ Sl w q (u8s xs) ∧ (∀ y ∈ xs, 0 ≤ y ∧ y < 256) ∧ xs.length ≤ 140737488355328 ∧ 0 ≤ v ∧ v < 2 ^ 64
/-- a script's acts as they lie in memory -/
def Acts (w : World) (p : Option Addr) (m : Nat) : Prop := ∀ j, j < m → ∃ a k x s o n v q c xs, p = some a ∧ ActAt w (a.add (j * 7)) k x s o n v q c xs
theorem ActAt.ext {w w' : World} {a : Addr} {k x s o n v : Int} {q : Option Addr} {c : Nat} {xs : List Int} (h : ActAt w a k x s o n v q c xs) (hB : Below w.heap.size w w') : ActAt w' a k x s o n v q c xs := by
  have f : ∀ {b : Addr} {u : Value}, w.cell? b = some u → w'.cell? b = some u := fun hc => by rw [hB.cell (World.block_lt_of_cell? w _ hc)]; exact hc
  obtain ⟨h0, h1, h2, h3, h4, h5, h6, h7, h8⟩ := h
  exact ⟨f h0, f h1, f h2, f h3, f h4, f h5, f h6, sl_below h7 hB, h8⟩
theorem doM_length (bs : List Int) (k a s o n v : Int) (xs : List Int) : (doM bs k a s o n v xs).1.length = bs.length := by
  unfold doM
  split
  · exact writeM_length
  · split
    · split
      · rename_i h
        simp only [Bool.and_eq_true, decide_eq_true_eq, holdsB_iff] at h
        exact over_length (by omega)
      · rfl
    · split
      · split
        · rename_i h
          rw [holdsB_iff] at h
          exact over_length (by simp; omega)
        · rfl
      · rfl
def actV (k a s o n v : Int) (q : Option Addr) (l c : Nat) : Value := .agg [.int .i64 k, .int .i64 a, .int .i64 s, .int .i64 o, .int .i64 n, .int .u64 v, .slice q l c].toArray
theorem does_t (b : Nat) (bs : List Int) (k a s o n v : Int) {q : Option Addr} {c' : Nat} {xs : List Int} (i : It) (hi : ∀ w S, i.h w S → Sl w q (u8s xs)) (hr : ∀ x ∈ xs, 0 ≤ x ∧ x < 256) (hl : xs.length ≤ 140737488355328) :
    Tri P F.crierlaw04_Does [ptr b, actV k a s o n v q xs.length c'] [memI b bs, i] fun r L' => r = .int .i64 (doM bs k a s o n v xs).2 ∧ L' = [memI b (doM bs k a s o n v xs).1, i] := by
  rintro w S ⟨S1, S2, ⟨d, c, rest, hm, h2⟩, hS2, h3, h4⟩
  refine (does_cv hm k a s o n v (hi w S2 (sep_one.1 hS2)) hr hl).mono fun v w' ⟨e, hO, hm'⟩ => ⟨_, ⟨e, rfl⟩, ?_⟩
  refine own_join (L2 := [memI b _]) hS2 h3 (Out.refl _ _) (fun k hk => .inl ((h4 k).2 hk)) (S' := S1) (sep_one.2 ⟨d, c, rest, hm', h2⟩) (hO.mono fun k _ hk => (h2 k).2 (.inr hk)) fun k hk => .inl hk
theorem ActAt.keep {W w : World} (h : ∀ k, k < W.heap.size → w.heap[k]? = W.heap[k]?) {a : Addr} {k x s o n v : Int} {q : Option Addr} {c : Nat} {xs : List Int} (ha : ActAt W a k x s o n v q c xs) : ActAt w a k x s o n v q c xs := by
  have f : ∀ {b : Addr} {u : Value}, W.cell? b = some u → w.cell? b = some u := fun hc => by rw [World.cell?_of_block (h _ (World.block_lt_of_cell? _ _ hc))]; exact hc
  obtain ⟨h0, h1, h2, h3, h4, h5, h6, h7, h8⟩ := ha
  exact ⟨f h0, f h1, f h2, f h3, f h4, f h5, f h6, fun j u hj => by obtain ⟨a, ha, hc⟩ := h7 j u hj; exact ⟨a, ha, f hc⟩, h8⟩
theorem model_t (b : Nat) (bs : List Int) (k a s o n v : Int) (hv : 0 ≤ v ∧ v < 2 ^ 64) {q : Option Addr} {c' : Nat} {xs : List Int} (i : It) (hi : ∀ w S, i.h w S → Sl w q (u8s xs)) (hr : ∀ x ∈ xs, 0 ≤ x ∧ x < 256) :
    Tri P F.crierlaw04_Model [ptr b, actV k a s o n v q xs.length c'] [memI b bs, i] fun r L' => r = .int .i64 (doM bs k a s o n v xs).2 ∧ L' = [memI b (doM bs k a s o n v xs).1, i] := by
  intro w S hS
  refine crierlaw04_Model_cv ?_
  unfold crierlaw04_Model
  have H := Own.start hS
  refine alc_o H fun bx wx H => ?_
  repeat (first | refine ldI_o H (by repeat (first | exact Pick.here | apply Pick.there)) (by rfl) ?_ | refine ldL_o H (by repeat (first | exact Pick.here | apply Pick.there)) (by rfl) ?_ | refine ldB_o H (by repeat (first | exact Pick.here | apply Pick.there)) (by rfl) ?_ | refine ldP_o H (by repeat (first | exact Pick.here | apply Pick.there)) (by rfl) ?_ | refine ldS_o H (by repeat (first | exact Pick.here | apply Pick.there)) (by rfl) ?_)
  refine cnd_i (fun h => ?_) fun h => ?_
  · have h : k = 1 := by simpa using h
    repeat (first | refine ldI_o H (by repeat (first | exact Pick.here | apply Pick.there)) (by rfl) ?_ | refine ldL_o H (by repeat (first | exact Pick.here | apply Pick.there)) (by rfl) ?_ | refine ldB_o H (by repeat (first | exact Pick.here | apply Pick.there)) (by rfl) ?_ | refine ldP_o H (by repeat (first | exact Pick.here | apply Pick.there)) (by rfl) ?_ | refine ldS_o H (by repeat (first | exact Pick.here | apply Pick.there)) (by rfl) ?_)
    refine call_o H (refWrite_t b bs a s o n v hv) (by repeat (first | exact Cut.nil | (apply Cut.cons; (repeat (first | exact Pick.here | apply Pick.there))))) fun vx L' wx hq H => ?_
    obtain ⟨rfl, rfl⟩ := hq
    simp only [List.cons_append, List.nil_append] at H
    simp only [doM, if_pos h]
    exact ⟨_, rfl, _, ⟨rfl, rfl⟩, H.drop (by repeat (first | exact Cut.nil | (apply Cut.cons; (repeat (first | exact Pick.here | apply Pick.there)))))⟩
  have h : k ≠ 1 := by simpa using h
  refine cnd_i (fun h2 => ?_) fun h2 => ?_
  · have h2 : k = 2 := by simpa using h2
    repeat (first | refine ldI_o H (by repeat (first | exact Pick.here | apply Pick.there)) (by rfl) ?_ | refine ldL_o H (by repeat (first | exact Pick.here | apply Pick.there)) (by rfl) ?_ | refine ldB_o H (by repeat (first | exact Pick.here | apply Pick.there)) (by rfl) ?_ | refine ldP_o H (by repeat (first | exact Pick.here | apply Pick.there)) (by rfl) ?_ | refine ldS_o H (by repeat (first | exact Pick.here | apply Pick.there)) (by rfl) ?_)
    refine call_o H (memPut_t b bs a s i hi hr) (by repeat (first | exact Cut.nil | (apply Cut.cons; (repeat (first | exact Pick.here | apply Pick.there))))) fun vx L' wx hq H => ?_
    obtain ⟨rfl, rfl⟩ := hq
    simp only [List.cons_append, List.nil_append] at H
    simp only [doM, if_neg h, if_pos h2]
    refine ⟨_, rfl, ?_⟩
    cases hc : (holdsB bs.length a s && decide ((xs.length : Int) ≤ s))
    · rw [hc] at H; exact ⟨_, ⟨rfl, rfl⟩, H.drop (by repeat (first | exact Cut.nil | (apply Cut.cons; (repeat (first | exact Pick.here | apply Pick.there)))))⟩
    · rw [hc] at H; exact ⟨_, ⟨rfl, rfl⟩, H.drop (by repeat (first | exact Cut.nil | (apply Cut.cons; (repeat (first | exact Pick.here | apply Pick.there)))))⟩
  have h2 : k ≠ 2 := by simpa using h2
  refine cnd_i (fun h3 => ?_) fun h3 => ?_
  · have h3 : k = 3 := by simpa using h3
    repeat (first | refine ldI_o H (by repeat (first | exact Pick.here | apply Pick.there)) (by rfl) ?_ | refine ldL_o H (by repeat (first | exact Pick.here | apply Pick.there)) (by rfl) ?_ | refine ldB_o H (by repeat (first | exact Pick.here | apply Pick.there)) (by rfl) ?_ | refine ldP_o H (by repeat (first | exact Pick.here | apply Pick.there)) (by rfl) ?_ | refine ldS_o H (by repeat (first | exact Pick.here | apply Pick.there)) (by rfl) ?_)
    refine call_o H (refWipe_t b bs a s) (by repeat (first | exact Cut.nil | (apply Cut.cons; (repeat (first | exact Pick.here | apply Pick.there))))) fun vx L' wx hq H => ?_
    obtain ⟨rfl, rfl⟩ := hq
    simp only [List.cons_append, List.nil_append] at H
    simp only [doM, if_neg h, if_neg h2, if_pos h3]
    refine ⟨_, rfl, ?_⟩
    cases hc : holdsB bs.length a s
    · rw [hc] at H; exact ⟨_, ⟨rfl, rfl⟩, H.drop (by repeat (first | exact Cut.nil | (apply Cut.cons; (repeat (first | exact Pick.here | apply Pick.there)))))⟩
    · rw [hc] at H; exact ⟨_, ⟨rfl, rfl⟩, H.drop (by repeat (first | exact Cut.nil | (apply Cut.cons; (repeat (first | exact Pick.here | apply Pick.there)))))⟩
  · have h3 : k ≠ 3 := by simpa using h3
    simp only [doM, if_neg h, if_neg h2, if_neg h3]
    exact ⟨_, ⟨trivial, rfl⟩, H.drop (by repeat (first | exact Cut.nil | (apply Cut.cons; (repeat (first | exact Pick.here | apply Pick.there)))))⟩
end Go.Proofs.YtggmapokmlbgbaaDoor
