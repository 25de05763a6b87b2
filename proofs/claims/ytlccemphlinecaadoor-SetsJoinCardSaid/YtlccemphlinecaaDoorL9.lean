/-
  sets: along any acts a set is what the document's list is: SetsDoes.
-/
import Derived.Test.YtlccemphlinecaaDoorL8
namespace Go.Proofs.YtlccemphlinecaaDoor
open Go Go.RowKit X
set_option maxRecDepth 100000
set_option linter.unusedVariables false
set_option maxHeartbeats 1000000
/-- a script's acts as they lie in memory -/
def Acts2 (w : World) (p : Option Addr) (m : Nat) : Prop := ∀ j, j < m → ∃ (a : Addr) (k x : Int), p = some a ∧ w.cell? (a.add (j * 2)) = some (.int .i64 k) ∧ w.cell? ((a.add (j * 2)).add 1) = some (.int .i64 x)
theorem loL_len (l : List Nat) (m : Int) : (loL l m).length ≤ l.length := List.length_filter_le _ _
section
variable {W : World} (hT : TabAt W)
variable {Am : crierlaw01_SetsDoes_L16378.S → World → Prop} {i1 : Int} {k x : Int}
def HA (W : World) (A : crierlaw01_SetsDoes_L16378.S → World → Prop) (i1 : Int) : Prop := ∀ b l p c wx, Up l → X.Own W (fun k => k < W.heap.size) [setI b l, keep W, ilI p c (natI l)] wx → A (some ⟨b, 0, none⟩, (p, l.length, c), IntKind.i64.wrap (i1 + 1)) wx
include hT
theorem does_j1 (hA : HA W Am i1) {b bx : Nat} {l : List Nat} {p : Option Addr} {c : Nat} {tb : TypeId} {wx : World} (hup : Up l)
    (H : X.Own W (fun k => k < W.heap.size) [setI b l, keep W, ilI p c (natI l), row bx [.int .i64 k, .int .i64 x] tb] wx) :
    crierlaw01_SetsDoes_j1 (fun r w' => r = .bool true ∧ Below W.heap.size W w') i1 Am bx (some ⟨b, 0, none⟩) p l.length c wx := by
  obtain ⟨_, hbd, hlen⟩ := set_facts H (b := b) (l := l) (by repeat (first | exact Pick.here | apply Pick.there))
  unfold crierlaw01_SetsDoes_j1
  refine join_o ?_
  refine drw_o H fun wx H => ?_
  refine call_p H (alike_t hT b l p c) (by repeat (first | exact Cut.nil | (apply Cut.cons; (repeat (first | exact Pick.here | apply Pick.there))))) fun wx H => ?_
  refine ⟨_, rfl, cnd_i (fun h => by cases h) fun _ => ?_⟩
  repeat (first | refine ldI_o H (by repeat (first | exact Pick.here | apply Pick.there)) (by rfl) ?_ | refine ldL_o H (by repeat (first | exact Pick.here | apply Pick.there)) (by rfl) ?_ | refine ldB_o H (by repeat (first | exact Pick.here | apply Pick.there)) (by rfl) ?_ | refine ldP_o H (by repeat (first | exact Pick.here | apply Pick.there)) (by rfl) ?_ | refine ldS_o H (by repeat (first | exact Pick.here | apply Pick.there)) (by rfl) ?_)
  refine call_p H (has_t b l x) (by repeat (first | exact Cut.nil | (apply Cut.cons; (repeat (first | exact Pick.here | apply Pick.there))))) fun wx H => ?_
  refine ⟨_, rfl, ldI_o H (by repeat (first | exact Pick.here | apply Pick.there)) (by rfl) rfl, ?_⟩
  refine call_p H (refHas_t (ilI p c (natI l)) il_sl (by omega) x) (by repeat (first | exact Cut.nil | (apply Cut.cons; (repeat (first | exact Pick.here | apply Pick.there))))) fun wx H => ?_
  refine ⟨_, rfl, cnd_i (fun h => by simp at h) fun _ => ?_⟩
  repeat (first | refine ldI_o H (by repeat (first | exact Pick.here | apply Pick.there)) (by rfl) ?_ | refine ldL_o H (by repeat (first | exact Pick.here | apply Pick.there)) (by rfl) ?_ | refine ldB_o H (by repeat (first | exact Pick.here | apply Pick.there)) (by rfl) ?_ | refine ldP_o H (by repeat (first | exact Pick.here | apply Pick.there)) (by rfl) ?_ | refine ldS_o H (by repeat (first | exact Pick.here | apply Pick.there)) (by rfl) ?_)
  refine call_o H (lawFrom_t hT b l x 20000) (by repeat (first | exact Cut.nil | (apply Cut.cons; (repeat (first | exact Pick.here | apply Pick.there))))) fun vx L' wx hq H => ?_
  obtain ⟨p1, c1, rfl, rfl⟩ := hq
  rw [show (loL l x).take (20000 : Int).toNat = loL l x from List.take_of_length_le (by have := loL_len l x; simp; omega)] at H ⊢
  simp only [List.cons_append, List.nil_append] at H
  refine ⟨_, _, _, rfl, ldI_o H (by repeat (first | exact Pick.here | apply Pick.there)) (by rfl) rfl, ?_⟩
  refine call_o H (refFrom_t (ilI p c (natI l)) il_sl (by omega) x) (by repeat (first | exact Cut.nil | (apply Cut.cons; (repeat (first | exact Pick.here | apply Pick.there))))) fun vx L' wx hq H => ?_
  obtain ⟨p2, c2, rfl, rfl⟩ := hq
  simp only [List.cons_append, List.nil_append] at H
  refine ⟨_, _, _, rfl, ?_⟩
  refine call_p H (refSame_t' (xs := natI (loL l x)) (ys := natI (loL l x)) (ilI p1 c1 (natI (loL l x))) (natI_length _) rfl il_sl (ilI p2 c2 (natI (l.filter fun y => decide ((y : Int) ≥ x)))) il_sl (by have := loL_len l x; omega)) (by repeat (first | exact Cut.nil | (apply Cut.cons; (repeat (first | exact Pick.here | apply Pick.there))))) fun wx H => ?_
  refine ⟨_, rfl, ?_⟩
  unfold crierlaw01_SetsDoes_j0
  exact cnd_i (fun h => by simp at h) fun _ => hA b l p c wx hup (H.drop (by repeat (first | exact Cut.nil | (apply Cut.cons; (repeat (first | exact Pick.here | apply Pick.there))))))
theorem does_j2 (hA : HA W Am i1) {b bx : Nat} {l l2 : List Nat} {p : Option Addr} {c : Nat} {tb : TypeId} {wx : World} (hup : Up l) (e2 : (k = 2 → l2 = takeL l x) ∧ (k ≠ 2 → l2 = l)) (hlen : l.length ≤ 20000)
    (H : X.Own W (fun k => k < W.heap.size) [setI b l2, keep W, ilI p c (natI l), row bx [.int .i64 k, .int .i64 x] tb] wx) :
    crierlaw01_SetsDoes_j2 (fun r w' => r = .bool true ∧ Below W.heap.size W w') i1 Am bx (some ⟨b, 0, none⟩) p l.length c wx := by
  unfold crierlaw01_SetsDoes_j2
  refine join_o ?_
  refine ldI_o H (by repeat (first | exact Pick.here | apply Pick.there)) (by rfl) (cnd_i (fun h => ?_) fun h => ?_)
  · have e := e2.1 (eq_of_beq h)
    subst e
    refine ldI_o H (by repeat (first | exact Pick.here | apply Pick.there)) (by rfl) ?_
    refine call_o H (refTake_t (ilI p c (natI l)) il_sl hlen x) (by repeat (first | exact Cut.nil | (apply Cut.cons; (repeat (first | exact Pick.here | apply Pick.there))))) fun vx L' wx hq H => ?_
    obtain ⟨p2, c2, rfl, rfl⟩ := hq
    simp only [List.cons_append, List.nil_append] at H
    refine ⟨_, _, _, rfl, ?_⟩
    rw [natI_length]
    exact does_j1 hT hA (takeL_up hup) (k := k) (x := x) (tb := tb) (H.drop (L1 := [setI b (takeL l x), keep W, ilI p2 c2 (natI (takeL l x)), row bx [.int .i64 k, .int .i64 x] tb]) (by repeat (first | exact Cut.nil | (apply Cut.cons; (repeat (first | exact Pick.here | apply Pick.there))))))
  · have e := e2.2 (by simpa using h)
    subst e
    exact does_j1 hT hA hup H
theorem does_j3 (hA : HA W Am i1) {b bx : Nat} {l l2 : List Nat} {p : Option Addr} {c : Nat} {tb : TypeId} {wx : World} (hup : Up l) (e1 : k = 1 → l2 = putL l x) (e2 : (k = 2 → l2 = takeL l x) ∧ (k ≠ 1 → k ≠ 2 → l2 = l)) (hlen : l.length ≤ 16384)
    (H : X.Own W (fun k => k < W.heap.size) [setI b l2, keep W, ilI p c (natI l), row bx [.int .i64 k, .int .i64 x] tb] wx) :
    crierlaw01_SetsDoes_j3 (fun r w' => r = .bool true ∧ Below W.heap.size W w') p l.length c i1 Am bx (some ⟨b, 0, none⟩) false wx := by
  unfold crierlaw01_SetsDoes_j3
  refine cnd_i (fun h => by cases h) fun _ => join_o ?_
  refine ldI_o H (by repeat (first | exact Pick.here | apply Pick.there)) (by rfl) (cnd_i (fun h => ?_) fun h => ?_)
  · have hk := eq_of_beq h
    have e := e1 hk
    subst e
    refine ldI_o H (by repeat (first | exact Pick.here | apply Pick.there)) (by rfl) ?_
    refine call_o H (refPut_t hup (by omega) x) (by repeat (first | exact Cut.nil | (apply Cut.cons; (repeat (first | exact Pick.here | apply Pick.there))))) fun vx L' wx hq H => ?_
    obtain ⟨p2, c2, rfl, rfl⟩ := hq
    simp only [List.cons_append, List.nil_append] at H
    obtain ⟨_, _, hlen2⟩ := set_facts H (b := b) (l := putL l x) (by repeat (first | exact Pick.here | apply Pick.there))
    refine ⟨_, _, _, rfl, ?_⟩
    exact does_j2 hT hA (l2 := putL l x) (putL_up hup) ⟨fun h => by omega, fun _ => rfl⟩ (by omega) (k := k) (x := x) (tb := tb) (H.drop (L1 := [setI b (putL l x), keep W, ilI p2 c2 (natI (putL l x)), row bx [.int .i64 k, .int .i64 x] tb]) (by repeat (first | exact Cut.nil | (apply Cut.cons; (repeat (first | exact Pick.here | apply Pick.there))))))
  · have hk : k ≠ 1 := by simpa using h
    exact does_j2 hT hA hup ⟨e2.1, e2.2 hk⟩ (by omega) H
theorem does_j4 (hA : HA W Am i1) {b bx : Nat} {l : List Nat} {p : Option Addr} {c : Nat} {tb : TypeId} {wx : World} (hup : Up l) (hlen : l.length ≤ 16384)
    (H : X.Own W (fun k => k < W.heap.size) [setI b l, keep W, ilI p c (natI l), row bx [.int .i64 k, .int .i64 x] tb] wx) :
    crierlaw01_SetsDoes_j4 (fun r w' => r = .bool true ∧ Below W.heap.size W w') p l.length c i1 Am bx (hasL l x) (some ⟨b, 0, none⟩) wx := by
  unfold crierlaw01_SetsDoes_j4
  refine join_o ?_
  refine drw_o H fun wx H => ?_
  refine ldI_o H (by repeat (first | exact Pick.here | apply Pick.there)) (by rfl) (cnd_i (fun h => ?_) fun h => ?_)
  · have hk := eq_of_beq h
    refine ldI_o H (by repeat (first | exact Pick.here | apply Pick.there)) (by rfl) (ldI_o H (by repeat (first | exact Pick.here | apply Pick.there)) (by rfl) ?_)
    refine call_o H (put_t b l x) (by repeat (first | exact Cut.nil | (apply Cut.cons; (repeat (first | exact Pick.here | apply Pick.there))))) fun vx L' wx hq H => ?_
    obtain ⟨rfl, rfl⟩ := hq
    simp only [List.cons_append, List.nil_append] at H
    rw [putL_has' _ hup] at H
    refine ⟨_, rfl, ldI_o H (by repeat (first | exact Pick.here | apply Pick.there)) (by rfl) rfl, ?_⟩
    refine call_p H (tri_plain (refMay_plain x)) (by repeat (first | exact Cut.nil | (apply Cut.cons; (repeat (first | exact Pick.here | apply Pick.there))))) fun wx H => ?_
    refine ⟨_, rfl, ?_⟩
    have fin : ∀ s, s = false → crierlaw01_SetsDoes_j3 (fun r w' => r = .bool true ∧ Below W.heap.size W w') p l.length c i1 Am bx (some ⟨b, 0, none⟩) s wx := by
      rintro _ rfl
      exact does_j3 hT hA hup (fun _ => rfl) ⟨fun h => by omega, fun h => absurd hk h⟩ hlen H
    cases hm : mayL x
    · refine cnd_i (fun h => by cases h) fun _ => cnd_i (fun h => by simp at h) fun _ => ldI_o H (by repeat (first | exact Pick.here | apply Pick.there)) (by rfl) (cnd_i (fun h => ?_) fun _ => fin _ rfl)
      have := eq_of_beq h; omega
    · refine cnd_i (fun _ => cnd_i (fun h => by simp at h) fun _ => ldI_o H (by repeat (first | exact Pick.here | apply Pick.there)) (by rfl) (cnd_i (fun h => ?_) fun _ => fin _ rfl)) (fun h => by cases h)
      have := eq_of_beq h; omega
  · have hk : k ≠ 1 := by simpa using h
    refine ldI_o H (by repeat (first | exact Pick.here | apply Pick.there)) (by rfl) (cnd_i (fun h => ?_) fun h => ?_)
    · have hk2 := eq_of_beq h
      refine ldI_o H (by repeat (first | exact Pick.here | apply Pick.there)) (by rfl) ?_
      refine call_o H (take_t b l x) (by repeat (first | exact Cut.nil | (apply Cut.cons; (repeat (first | exact Pick.here | apply Pick.there))))) fun vx L' wx hq H => ?_
      obtain ⟨rfl, rfl⟩ := hq
      simp only [List.cons_append, List.nil_append] at H
      refine ⟨_, rfl, ?_⟩
      rw [show (!(hasL l x == hasL l x)) = false by simp]
      exact does_j3 hT hA hup (fun h => absurd h hk) ⟨fun _ => rfl, fun _ h => absurd hk2 h⟩ hlen H
    · have hk2 : k ≠ 2 := by simpa using h
      exact does_j3 hT hA hup (fun h => absurd h hk) ⟨fun h => absurd h hk2, fun _ _ => rfl⟩ hlen H
theorem setsDoes_cv {p q : Option Addr} {c d n : Nat} {ms : List Int} (hp : Sl W p (i64s ms)) (hpl : ms.length ≤ 9223372036854775807) (hacts : Acts2 W q n) :
    CV P F.crierlaw01_SetsDoes [.slice p ms.length c, .slice q n d] W fun r w' => r = .bool true ∧ Below W.heap.size W w' := by
  refine crierlaw01_SetsDoes_cv ?_
  unfold crierlaw01_SetsDoes
  have H := keep_start W
  refine call_p H (awake_t hT) (by repeat (first | exact Cut.nil | (apply Cut.cons; (repeat (first | exact Pick.here | apply Pick.there))))) fun wx H => ?_
  refine ⟨_, rfl, cnd_i (fun h => by cases h) fun _ => join_o ?_⟩
  have big : crierlaw01_SetsDoes_j8 p ms.length c q n (fun r w' => r = .bool true ∧ Below W.heap.size W w') true true wx := by
    unfold crierlaw01_SetsDoes_j8
    exact cnd_i (fun _ => ⟨rfl, keep_done H (by repeat (first | exact Pick.here | apply Pick.there))⟩) (fun h => by cases h)
  refine cnd_i (fun _ => big) fun h1 => ?_
  cases h2 : decide ((n : Int) > 2000)
  case true => exact big
  clear big
  have h1 := of_decide_eq_false h1
  have h2 := of_decide_eq_false h2
  unfold crierlaw01_SetsDoes_j8
  refine cnd_i (fun h => by cases h) fun _ => ?_
  have H := own_nil (e := tInt) (size := 1) H
  refine app_o appInts (by omega) H .here (H.rd (i := keep W) (by repeat (first | exact Pick.here | apply Pick.there)) (keep_sl hp)) (by rw [i64s_length]; simp) (i64s_one ms) (by unfold maxLen; omega) (by omega) fun p' c' wx H => ?_
  simp only [Nat.zero_add, List.nil_append] at H ⊢
  refine call_o H (of_set_t (c := c') (own tInt 1 (.slice p' ms.length c') ms.length (i64s ms)) own_sl hpl) (by repeat (first | exact Cut.nil | (apply Cut.cons; (repeat (first | exact Pick.here | apply Pick.there))))) fun vx L' wx hq H => ?_
  obtain ⟨b, rfl, rfl⟩ := hq
  simp only [List.cons_append, List.nil_append] at H
  refine ⟨_, rfl, ?_⟩
  refine loop_o (fun (st : Int) L => ∃ (j : Nat) (zs : List Value), st = j ∧ j ≤ ms.length ∧ L = [setI b (ofL ms), own tInt 1 (.slice p' ms.length c') ms.length zs, keep W]) (fun (st : Int) => ((ms.length : Int) - st).toNat) H ⟨0, _, rfl, by omega, rfl⟩ ?_
  rintro _ _ wx ⟨j, zs, rfl, hj, rfl⟩ H
  unfold crierlaw01_SetsDoes_l7
  refine cnd_i (fun h => ?_) fun h => ?_
  · have h := of_decide_eq_true h
    refine ⟨⟨by omega, h⟩, ?_⟩
    rw [Int.toNat_natCast]
    refine ost_o H (by repeat (first | exact Rep.here | apply Rep.there)) (by omega) fun wx H => ⟨⟨_, ⟨j + 1, _, ?_, by omega, rfl⟩, H⟩, ?_⟩
    · rw [W_id (by omega) (by omega)]; rfl
    · rw [W_id (by omega) (by omega)]
      show ((ms.length : Int) - ((j : Int) + 1)).toNat < ((ms.length : Int) - (j : Int)).toNat
      omega
  have hul := ofL_length ms
  refine call_o H (refOf_t (c := c) (keep W) (keep_sl hp) hpl (fun k => Nat.le_trans (ofL_length _) (by omega))) (by repeat (first | exact Cut.nil | (apply Cut.cons; (repeat (first | exact Pick.here | apply Pick.there))))) fun vx L' wx hq H => ?_
  obtain ⟨px, cx, rfl, rfl⟩ := hq
  simp only [List.cons_append, List.nil_append] at H
  refine ⟨_, _, _, rfl, join_o (cnd_i (fun h => by cases h) fun _ => ?_)⟩
  refine call_p H (alike_t hT b (ofL ms) px cx) (by repeat (first | exact Cut.nil | (apply Cut.cons; (repeat (first | exact Pick.here | apply Pick.there))))) fun wx H => ?_
  refine ⟨_, rfl, ?_⟩
  unfold crierlaw01_SetsDoes_j6
  refine cnd_i (fun h => by cases h) fun _ => ?_
  refine loop_o (fun (st : Option Addr × (Option Addr × Nat × Nat) × Int) L => ∃ (j b : Nat) (l : List Nat) (p : Option Addr) (c : Nat), st = (some ⟨b, 0, none⟩, (p, l.length, c), (j : Int)) ∧ j ≤ n ∧ Up l ∧ L = [setI b l, keep W, ilI p c (natI l)])
    (fun (st : Option Addr × (Option Addr × Nat × Nat) × Int) => ((n : Int) - st.2.2).toNat) (H.drop (L1 := [setI b (ofL ms), keep W, ilI px cx (natI (ofL ms))]) (by repeat (first | exact Cut.nil | (apply Cut.cons; (repeat (first | exact Pick.here | apply Pick.there)))))) ⟨0, b, ofL ms, px, cx, rfl, by omega, ofL_up ms, rfl⟩ ?_
  clear hul
  rintro _ _ wx ⟨j, b, l, p2, c2, rfl, hj, hup, rfl⟩ H
  dsimp only
  unfold crierlaw01_SetsDoes_l5
  refine cnd_i (fun h => ?_) fun h => ⟨rfl, keep_done H (by repeat (first | exact Pick.here | apply Pick.there))⟩
  have h := of_decide_eq_true h
  obtain ⟨_, hbd, hlen⟩ := set_facts H (b := b) (l := l) (by repeat (first | exact Pick.here | apply Pick.there))
  refine ⟨⟨by omega, h⟩, ?_⟩
  rw [Int.toNat_natCast]
  obtain ⟨ad, k, x, rfl, e0, e1⟩ := hacts j (by omega)
  have hb := H.below (by repeat (first | exact Pick.here | apply Pick.there))
  have e0 : wx.cell? (ad.add (j * 2)) = _ := (World.cell?_of_block (hb _ (World.block_lt_of_cell? _ _ e0))).trans e0
  have e1 : wx.cell? ((ad.add (j * 2)).add 1) = _ := (World.cell?_of_block (hb _ (World.block_lt_of_cell? _ _ e1))).trans e1
  refine ⟨_, e0, _, e1, alc_o H fun bx wx H => ?_⟩
  refine st1_o H (by repeat (first | exact Rep.here | apply Rep.there)) (by simp) fun wx H => ?_
  refine st1_o H (by repeat (first | exact Rep.here | apply Rep.there)) (by simp) fun wx H => ?_
  simp only [List.set_cons_zero, List.set_cons_succ] at H
  refine ldI_o H (by repeat (first | exact Pick.here | apply Pick.there)) (by rfl) ?_
  refine call_p H (refHas_t (ilI p2 c2 (natI l)) il_sl (by omega) x) (by repeat (first | exact Cut.nil | (apply Cut.cons; (repeat (first | exact Pick.here | apply Pick.there))))) fun wx H => ?_
  refine ⟨_, rfl, join_o (ldI_o H (by repeat (first | exact Pick.here | apply Pick.there)) (by rfl) ?_)⟩
  have hA : HA W (fun (s' : Option Addr × (Option Addr × Nat × Nat) × Int) w' => (∃ L', (∃ (j b : Nat) (l : List Nat) (p : Option Addr) (c : Nat), s' = (some ⟨b, 0, none⟩, (p, l.length, c), (j : Int)) ∧ j ≤ n ∧ Up l ∧ L' = [setI b l, keep W, ilI p c (natI l)]) ∧ X.Own W (fun k => k < W.heap.size) L' w') ∧ ((n : Int) - s'.2.2).toNat < ((n : Int) - (j : Int)).toNat) (j : Int) := by
    intro b l p c wx hu H
    rw [W_id (by omega) (by omega)]
    refine ⟨⟨_, ⟨j + 1, b, l, p, c, by push_cast; rfl, by omega, hu, rfl⟩, H⟩, ?_⟩
    show ((n : Int) - ((j : Int) + 1)).toNat < ((n : Int) - (j : Int)).toNat
    omega
  refine cnd_i (fun h3 => ?_) fun h3 => ?_
  · refine call_o H (copy_set_t b l) (by repeat (first | exact Cut.nil | (apply Cut.cons; (repeat (first | exact Pick.here | apply Pick.there))))) fun vx L' wx hq H => ?_
    obtain ⟨b2, rfl, rfl⟩ := hq
    simp only [List.cons_append, List.nil_append] at H
    refine ⟨_, rfl, cnd_i (fun h => by cases h) fun _ => ldI_o H (by repeat (first | exact Pick.here | apply Pick.there)) (by rfl) ?_⟩
    refine call_o H (put_t b l x) (by repeat (first | exact Cut.nil | (apply Cut.cons; (repeat (first | exact Pick.here | apply Pick.there))))) fun vx L' wx hq H => ?_
    obtain ⟨rfl, rfl⟩ := hq
    simp only [List.cons_append, List.nil_append] at H
    refine ⟨_, rfl, ?_⟩
    refine call_o H (put_t b _ 9) (by repeat (first | exact Cut.nil | (apply Cut.cons; (repeat (first | exact Pick.here | apply Pick.there))))) fun vx L' wx hq H => ?_
    obtain ⟨rfl, rfl⟩ := hq
    simp only [List.cons_append, List.nil_append] at H
    refine ⟨_, rfl, ?_⟩
    refine call_p H (l0_t (ilI p2 c2 (natI l)) il_sl) (by repeat (first | exact Cut.nil | (apply Cut.cons; (repeat (first | exact Pick.here | apply Pick.there))))) fun wx H => ?_
    refine ⟨_, rfl, ?_⟩
    refine call_o H (take_t b _ (l.headD 0 : Nat)) (by repeat (first | exact Cut.nil | (apply Cut.cons; (repeat (first | exact Pick.here | apply Pick.there))))) fun vx L' wx hq H => ?_
    obtain ⟨rfl, rfl⟩ := hq
    simp only [List.cons_append, List.nil_append] at H
    refine ⟨_, rfl, ?_⟩
    exact does_j4 hT hA hup hlen (k := k) (x := x) (tb := T.t45) (H.drop (L1 := [setI b2 l, keep W, ilI p2 c2 (natI l), row bx [.int .i64 k, .int .i64 x] T.t45]) (by repeat (first | exact Cut.nil | (apply Cut.cons; (repeat (first | exact Pick.here | apply Pick.there))))))
  · exact does_j4 hT hA hup hlen (k := k) (x := x) (tb := T.t45) (H.drop (L1 := [setI b l, keep W, ilI p2 c2 (natI l), row bx [.int .i64 k, .int .i64 x] T.t45]) (by repeat (first | exact Cut.nil | (apply Cut.cons; (repeat (first | exact Pick.here | apply Pick.there))))))
end
end Go.Proofs.YtlccemphlinecaaDoor
