/-
  slices: Insert of one number: the walk.
-/
import Derived.Test.YtmobpenjbaaicaaK4
namespace Go.Proofs.Ytmobpenjbaaicaa
open Go Go.RowKit X
set_option maxRecDepth 100000
set_option linter.unusedVariables false
variable {w w0 : World} {S0 : Nat → Prop}
def ins (xs : List Int) (i : Nat) (x : Int) : List Int := xs.take i ++ x :: xs.drop i
theorem ins_len {xs : List Int} {i : Nat} {x : Int} (h : i ≤ xs.length) : (ins xs i x).length = xs.length + 1 := by
  unfold ins; simp; omega
theorem ins_i64 (xs : List Int) (i : Nat) (x : Int) : i64s (ins xs i x) = (i64s xs).take i ++ (.int .i64 x :: (i64s xs).drop i) := by
  unfold ins i64s; simp
theorem row_ne {L F F2 : List It} {a b : Nat} {ca cb : List Value} {ta tb : TypeId} (H : X.Own w0 S0 L w) (h1 : Pick L (row a ca ta) F) (h2 : Pick F (row b cb tb) F2) : a ≠ b := by
  obtain ⟨S, g1, _⟩ := H
  obtain ⟨S1, S2, ⟨_, e1⟩, e2, e3, _⟩ := h1.iff.1 g1
  obtain ⟨S3, S4, ⟨_, e5⟩, _, _, e6⟩ := h2.iff.1 e2
  rintro rfl
  exact e3 a ((e1 a).2 rfl) ((e6 a).2 (.inl ((e5 a).2 rfl)))
theorem overlaps_o {L E1 E2 : List It} {d vb o o' la ca lb cb : Nat} {cur cv : List Value} {tA tB : TypeId} (H : X.Own w0 S0 L w) (h1 : Pick L (row d cur tA) E1) (h2 : Pick E1 (row vb cv tB) E2) (hne : cur ≠ []) {Q : Value → World → Prop} (hQ : Q (.bool false) w) :
    extX P F.slices_overlaps_int [.slice (some ⟨vb, o, none⟩) la ca, .slice (some ⟨d, o', none⟩) lb cb] w Q := by
  have hd := row_ne H h1 h2
  have hrd := H.row h1
  have hrv : Row w vb cv tB := by
    obtain ⟨S, g1, _⟩ := H
    obtain ⟨S1, S2, _, e2, _, _⟩ := h1.iff.1 g1
    obtain ⟨S3, S4, ⟨e5, _⟩, _, _, _⟩ := h2.iff.1 e2
    exact e5
  obtain ⟨hu, i, z, hi, hz, h3, h4, h5⟩ := appB_out appInts
  have hrd' := hrd
  have hrv' := hrv
  unfold Row at hrd' hrv'
  have hr := Lib.run_overlaps_apart (P := P) w tInts T.t4 tInt hu 1 (fun w => by simp [sizeOf, typeInfo, hi, h3]) ⟨vb, o, none⟩ ⟨d, o', none⟩ la ca lb cb (fun e => hd e.symm) tB tA cv.length cur.length
    (by simp [World.shape?, hrv']) (by simp [World.shape?, hrd']) (by intro e; exact hne (List.length_eq_zero_iff.1 e)) (hrv.frozen o) (hrv.frozen cv.length)
  exact ⟨_, _, _, _, funcOverlaps, bodyOverlaps.2, bodyOverlaps.1, nextOverlaps, findOverlaps, hr, hQ⟩
theorem insert_t {p : Option Addr} {c : Nat} {xs : List Int} {i vb : Nat} {x : Int} (hi : i ≤ xs.length) (hl : xs.length < 900000) :
    Tri P F.slices_Insert__int_int [.slice p xs.length c, .int .i64 (i : Int), .slice (some ⟨vb, 0, none⟩) 1 1] [nums p c xs, row vb [.int .i64 x] T.t3] fun v L' => ∃ p' c', v = .slice p' (ins xs i x).length c' ∧ L' = [nums p' c' (ins xs i x)] := by
  intro w S hS
  refine slices_Insert__int_int_cv ?_
  unfold slices_Insert__int_int
  have H := Own.start hS
  have hil := ins_len (x := x) hi
  have hxl : (i64s xs).length = xs.length := by simp [i64s]
  refine ⟨(by intro x hx; cases hx), (by intro x hx; cases hx), ?_, ?_⟩
  · intro x hx; cases hx; simp; omega
  refine cnd_i (fun h => by cases h) fun _ => cnd_i (fun h => ?_) fun h => ?_
  · -- behind all
    have h : i = xs.length := by have : (i : Int) = xs.length := by simpa using h
                                 omega
    have hq : Sl w (some ⟨vb, 0, none⟩) [.int .i64 x] := row_sl (k := 0) H (.there .here)
    refine app_o appInts (by omega) H .here hq rfl (by intro u hu; rw [List.mem_singleton.1 hu]; rfl) (by unfold maxLen; omega) (by omega) fun p' c' w1 H => ?_
    refine ⟨_, ⟨p', c', by rw [hil], rfl⟩, ?_⟩
    have e : nums p' c' (ins xs i x) = own tInt 1 (.slice p' (xs.length + 1) c') (xs.length + 1) (i64s xs ++ [.int .i64 x]) := by
      unfold nums
      rw [hil, ins_i64, h, List.take_of_length_le (by omega), List.drop_eq_nil_of_le (by omega)]
    rw [e]
    exact H.drop (by repeat (first | exact Cut.nil | (apply Cut.cons; (repeat (first | exact Pick.here | apply Pick.there)))))
  have hi' : i < xs.length := by have : ¬ (i : Int) = xs.length := by simpa using h
                                 omega
  obtain ⟨d, rest, rfl, hlen, hle, hmx, H⟩ := nums_open H .here (by intro e; subst e; simp at hi')
  have hrl : rest.length = c - xs.length := by rw [List.length_append, hxl] at hlen; omega
  have e1 : IntKind.i64.wrap (((xs.length : Nat) : Int) + ((1 : Nat) : Int)) = ((xs.length + 1 : Nat) : Int) := by rw [W_id (by omega) (by omega)]; push_cast; rfl
  have e2 : IntKind.i64.wrap ((i : Int) + ((1 : Nat) : Int)) = ((i + 1 : Nat) : Int) := by rw [W_id (by omega) (by omega)]; push_cast; rfl
  rw [e1, e2]
  have hD : ∀ wx L F, X.Own w S L wx → Pick L (row d (i64s xs ++ rest) tInt) F → Sl wx (some ⟨d, i, none⟩) ((i64s xs).drop i) := by
    intro wx L F H hp j u hj
    have := row_sl (k := i) H hp
    refine this j u ?_
    have hj' := (List.getElem?_eq_some_iff.1 hj).1
    rw [List.length_drop, hxl] at hj'
    rw [List.drop_append_of_le_length (by omega), List.getElem?_append_left (by rw [List.length_drop]; omega)]
    exact hj
  have one : ∀ v ∈ [(.int .i64 x : Value)], v.oneCell' = true := by intro u hu; rw [List.mem_singleton.1 hu]; rfl
  have done : ∀ v ∈ (i64s xs).drop i, v.oneCell' = true := fun u hu => i64s_one xs u (List.mem_of_mem_drop hu)
  have hv : ∀ wx L E, X.Own w S L wx → Pick L (row vb [.int .i64 x] T.t3) E → Sl wx (some ⟨vb, 0, none⟩) [.int .i64 x] := fun wx L E H hp => row_sl (k := 0) H hp
  have hdl : ((i64s xs).drop i).length = xs.length - i := by rw [List.length_drop, hxl]
  have htk : (i64s xs ++ rest).take i = (i64s xs).take i := List.take_append_of_le_length (by omega)
  refine cnd_i (fun hc => ?_) fun hc => ?_
  · -- no room
    have hc := of_decide_eq_true hc
    refine ⟨(by intro x hx; cases hx), ?_, (by intro x hx; cases hx), ?_⟩
    · intro x hx; cases hx; simp; omega
    simp only [Option.map_some, Option.map_none, Option.getD_some, Option.getD_none, Int.toNat_natCast, Nat.sub_zero]
    rw [if_neg (by omega), add_lit, Nat.zero_mul, Nat.add_zero]
    have e3 : IntKind.i64.wrap (((xs.length + 1 : Nat) : Int) - (i : Int)) = ((xs.length + 1 - i : Nat) : Int) := by rw [W_id (by omega) (by omega)]; omega
    rw [e3]
    refine zeros_o appInts zeroInt (by kernel_rfl : P.underlying T.t3 = some (.int .i64)) H .here (by rw [hlen]; omega) (by omega) (by omega) (by omega) (by omega) fun b cap w1 h1 h2 H => ?_
    rw [htk] at H
    refine ⟨(by intro x hx; cases hx), (by intro x hx; cases hx), ?_, ?_⟩
    · intro x hx; cases hx; simp; omega
    simp only [Option.map_some, Option.map_none, Option.getD_some, Option.getD_none, Int.toNat_natCast, Nat.sub_zero]
    rw [if_neg (by omega), add_lit, Nat.mul_one, Nat.zero_add]
    have hbl : ((i64s xs).take i ++ List.replicate (cap - i) (.int .i64 0 : Value)).length = cap := by
      rw [List.length_append, List.length_take, List.length_replicate, hxl]; omega
    refine copy_o (m := 1) (src := [.int .i64 x]) appInts H .here (hv _ _ _ H (.there (.there .here))) rfl (by omega) (by rw [hbl]; omega) one fun w2 H => ?_
    have hbl2 : (splice ((i64s xs).take i ++ List.replicate (cap - i) (.int .i64 0 : Value)) i [.int .i64 x]).length = cap := by rw [splice_len (by rw [hbl]; simp; omega), hbl]
    refine drw_o H fun wx H => ?_
    refine ⟨(by intro x hx; cases hx), (by intro x hx; cases hx), ?_, ?_⟩
    · intro x hx; cases hx; simp; omega
    simp only [Option.map_some, Option.map_none, Option.getD_some, Option.getD_none, Int.toNat_natCast, Nat.sub_zero]
    rw [if_neg (by omega), add_lit, Nat.mul_one, Nat.zero_add]
    refine ⟨(by intro x hx; cases hx), (by intro x hx; cases hx), ?_, ?_⟩
    · intro x hx; cases hx; simp; omega
    simp only [Option.map_some, Option.map_none, Option.getD_some, Option.getD_none, Int.toNat_natCast, Nat.sub_zero]
    rw [if_neg (by omega), add_lit, Nat.mul_one, Nat.zero_add]
    refine copy_o appInts H .here (hD _ _ _ H (.there .here)) hdl (by omega) (by rw [hbl2]; omega) done fun w3 H => ?_
    have hx1 : (splice (splice ((i64s xs).take i ++ List.replicate (cap - i) (.int .i64 0 : Value)) i [.int .i64 x]) (i + 1) ((i64s xs).drop i)).take (ins xs i x).length = i64s (ins xs i x) := by
      have e4 : (splice ((i64s xs).take i ++ List.replicate (cap - i) (.int .i64 0 : Value)) i [.int .i64 x]).take (i + 1) = (i64s xs).take i ++ [.int .i64 x] := by
        have e6 : ((i64s xs).take i ++ List.replicate (cap - i) (.int .i64 0 : Value)).take i = (i64s xs).take i := List.take_left' (by rw [List.length_take, hxl]; omega)
        unfold splice
        rw [e6]
        exact List.take_left' (by rw [List.length_append, List.length_take, hxl]; simp; omega)
      have e5 : splice (splice ((i64s xs).take i ++ List.replicate (cap - i) (.int .i64 0 : Value)) i [.int .i64 x]) (i + 1) ((i64s xs).drop i) = i64s (ins xs i x) ++ (splice ((i64s xs).take i ++ List.replicate (cap - i) (.int .i64 0 : Value)) i [.int .i64 x]).drop (i + 1 + ((i64s xs).drop i).length) := by
        generalize splice ((i64s xs).take i ++ List.replicate (cap - i) (.int .i64 0 : Value)) i [.int .i64 x] = M at e4 ⊢
        rw [ins_i64]
        show M.take (i + 1) ++ (i64s xs).drop i ++ M.drop (i + 1 + ((i64s xs).drop i).length) = _
        rw [e4]; simp
      rw [e5]
      exact List.take_left' (by rw [i64s_length])
    have H2 := nums_shut (c := cap) (xs := ins xs i x) H rfl hx1 (by omega) h2 (by rw [splice_len (by rw [hbl2, hdl]; omega), hbl2])
    have e7 : i + (xs.length + 1 - i) = (ins xs i x).length := by omega
    rw [e7]
    exact ⟨_, ⟨_, cap, rfl, rfl⟩, H2.drop (by repeat (first | exact Cut.nil | (apply Cut.cons; (repeat (first | exact Pick.here | apply Pick.there)))))⟩
  · -- room
    have hc := of_decide_eq_false hc
    refine ⟨(by intro x hx; cases hx), ?_, (by intro x hx; cases hx), ?_⟩
    · intro x hx; cases hx; simp; omega
    simp only [Option.map_some, Option.map_none, Option.getD_some, Option.getD_none, Int.toNat_natCast, Nat.sub_zero]
    rw [if_neg (by omega), add_lit, Nat.zero_mul, Nat.add_zero]
    refine ⟨(by intro x hx; cases hx), (by intro x hx; cases hx), ?_, ?_⟩
    · intro x hx; cases hx; simp; omega
    simp only [Option.map_some, Option.map_none, Option.getD_some, Option.getD_none, Int.toNat_natCast, Nat.sub_zero]
    rw [if_neg (by omega), add_lit, Nat.mul_one, Nat.zero_add]
    refine overlaps_o H .here .here (by intro e; rw [e] at hlen; simp at hlen; omega) ⟨_, rfl, cnd_i (fun _ => ?_) (fun h => by cases h)⟩
    refine drw_o H fun wx H => ?_
    refine ⟨(by intro x hx; cases hx), (by intro x hx; cases hx), ?_, ?_⟩
    · intro x hx; cases hx; simp; omega
    simp only [Option.map_some, Option.map_none, Option.getD_some, Option.getD_none, Int.toNat_natCast, Nat.sub_zero]
    rw [if_neg (by omega), add_lit, Nat.mul_one, Nat.zero_add]
    refine ⟨(by intro x hx; cases hx), (by intro x hx; cases hx), ?_, ?_⟩
    · intro x hx; cases hx; simp; omega
    simp only [Option.map_some, Option.map_none, Option.getD_some, Option.getD_none, Int.toNat_natCast, Nat.sub_zero]
    rw [if_neg (by omega), add_lit, Nat.mul_one, Nat.zero_add]
    refine copyS_o appInts H .here (hD _ _ _ H .here) (by rw [hdl]; simp only [Nat.min_def]; split <;> omega) (by rw [hdl, hlen]; omega) done fun w1 H => ?_
    refine ⟨(by intro x hx; cases hx), (by intro x hx; cases hx), ?_, ?_⟩
    · intro x hx; cases hx; simp; omega
    simp only [Option.map_some, Option.map_none, Option.getD_some, Option.getD_none, Int.toNat_natCast, Nat.sub_zero]
    rw [if_neg (by omega), add_lit, Nat.mul_one, Nat.zero_add]
    have hsl1 : (splice (i64s xs ++ rest) (i + 1) ((i64s xs).drop i)).length = c := by rw [splice_len (by rw [hdl, hlen]; omega), hlen]
    refine copy_o (m := 1) (src := [.int .i64 x]) appInts H .here (hv _ _ _ H (.there .here)) rfl (by omega) (by rw [hsl1]; omega) one fun w2 H => ?_
    have hx1 : (splice (splice (i64s xs ++ rest) (i + 1) ((i64s xs).drop i)) i [.int .i64 x]).take (ins xs i x).length = i64s (ins xs i x) := by
      have e5 : splice (splice (i64s xs ++ rest) (i + 1) ((i64s xs).drop i)) i [.int .i64 x] = i64s (ins xs i x) ++ (i64s xs ++ rest).drop (i + 1 + ((i64s xs).drop i).length) := by
        have g1 : (splice (i64s xs ++ rest) (i + 1) ((i64s xs).drop i)).take i = (i64s xs).take i := by rw [splice_take (by omega) (by rw [hlen]; omega), htk]
        have g2 : (splice (i64s xs ++ rest) (i + 1) ((i64s xs).drop i)).drop (i + 1) = (i64s xs).drop i ++ (i64s xs ++ rest).drop (i + 1 + ((i64s xs).drop i).length) := by
          unfold splice
          rw [List.append_assoc]
          exact List.drop_left' (by rw [List.length_take, hlen]; omega)
        generalize splice (i64s xs ++ rest) (i + 1) ((i64s xs).drop i) = M at g1 g2 ⊢
        rw [ins_i64]
        show M.take i ++ [.int .i64 x] ++ M.drop (i + 1) = _
        rw [g1, g2]; simp
      rw [e5]
      exact List.take_left' (by rw [i64s_length])
    have H2 := nums_shut (c := c) (xs := ins xs i x) H rfl hx1 (by omega) hmx (by rw [splice_len (by rw [hsl1]; simp; omega), hsl1])
    exact ⟨_, ⟨_, c, by rw [hil], rfl⟩, H2.drop (by repeat (first | exact Cut.nil | (apply Cut.cons; (repeat (first | exact Pick.here | apply Pick.there)))))⟩
end Go.Proofs.Ytmobpenjbaaicaa
