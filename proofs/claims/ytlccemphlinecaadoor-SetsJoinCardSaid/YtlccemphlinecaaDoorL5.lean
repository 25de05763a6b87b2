/-
  sets: the document's union; whether a set is what the document's list is; the document's examples.
-/
import Derived.Test.YtlccemphlinecaaDoorL4
namespace Go.Proofs.YtlccemphlinecaaDoor
open Go Go.RowKit X
set_option maxRecDepth 100000
set_option linter.unusedVariables false
theorem mem_foldl_putL (ms : List Int) : ∀ {l : List Nat} {x : Nat}, x ∈ ms.foldl putL l ↔ x ∈ l ∨ (mayL (x : Int) = true ∧ (x : Int) ∈ ms) := by
  induction ms with
  | nil => intro l x; simp
  | cons m r ih =>
    intro l x
    simp only [List.foldl_cons, ih, mem_putL, List.mem_cons]
    constructor
    · rintro ((h | ⟨h1, h2⟩) | ⟨h1, h2⟩)
      · exact .inl h
      · exact .inr ⟨h2 ▸ h1, .inl h2⟩
      · exact .inr ⟨h1, .inr h2⟩
    · rintro (h | ⟨h1, h2 | h2⟩)
      · exact .inl (.inl h)
      · exact .inl (.inr ⟨h2 ▸ h1, h2⟩)
      · exact .inr ⟨h1, h2⟩
theorem mem_ofL {ms : List Int} {x : Nat} : x ∈ ofL ms ↔ mayL (x : Int) = true ∧ (x : Int) ∈ ms := by unfold ofL; rw [mem_foldl_putL]; simp
theorem ofL_lt {ms : List Int} : ∀ x ∈ ofL ms, x < 16384 := fun x hx => by have := mayL_iff.1 (mem_ofL.1 hx).1; omega
theorem up_bound : ∀ (l : List Nat) (a M : Nat), Up l → (∀ x ∈ l, a ≤ x ∧ x < M) → l.length ≤ M - a
  | [], _, _, _, _ => by simp
  | y :: r, a, M, hu, h => by
    have hu' := List.pairwise_cons.1 hu
    have hy := h y (by simp)
    have := up_bound r (y + 1) M hu'.2 fun x hx => ⟨hu'.1 x hx, (h x (List.mem_cons_of_mem _ hx)).2⟩
    simp only [List.length_cons]; omega
theorem ofL_length (ms : List Int) : (ofL ms).length ≤ 16384 := up_bound _ 0 16384 (ofL_up ms) fun x hx => ⟨Nat.zero_le _, ofL_lt x hx⟩
theorem mem_natI {l : List Nat} {x : Nat} : (x : Int) ∈ natI l ↔ x ∈ l := by
  simp only [natI, List.mem_map]
  constructor
  · rintro ⟨y, h, e⟩; rw [← Int.ofNat_inj.1 e]; exact h
  · intro h; exact ⟨x, h, rfl⟩
theorem ofL_natI {l : List Nat} (hu : Up l) (hb : ∀ x ∈ l, x < 16384) : ofL (natI l) = l :=
  sext (ofL_up _) hu fun x => by rw [mem_ofL, mem_natI, mayL_iff]; exact ⟨And.right, fun h => ⟨by have := hb x h; omega, h⟩⟩
theorem refSame_t' (i : It) {p q : Option Addr} {c d n1 n2 : Nat} {xs ys : List Int} (e1 : xs.length = n1) (e2 : ys.length = n2) (hx : ∀ w S, i.h w S → Sl w p (i64s xs)) (j : It) (hy : ∀ w S, j.h w S → Sl w q (i64s ys)) (hn : n1 ≤ 1000000000) : Tri P F.crierref01_Same [.slice p n1 c, .slice q n2 d] [i, j] fun v L' => v = .bool (decide (xs = ys)) ∧ L' = [i, j] := by
  subst e1 e2
  exact refSame_t (n := 0) i hx j hy hn
theorem refUnion_t (i j : It) {p q : Option Addr} {c d : Nat} {la lb : List Nat} (hi : ∀ w S, i.h w S → Sl w p (i64s (natI la))) (hj : ∀ w S, j.h w S → Sl w q (i64s (natI lb))) (ha : Up la) (hab : ∀ x ∈ la, x < 16384) (hbb : ∀ x ∈ lb, x < 16384) (hla : la.length ≤ 20000) (hlb : lb.length ≤ 20000) :
    Tri P F.crierref01_Union [.slice p la.length c, .slice q lb.length d] [i, j] fun v L' => ∃ p' c', v = .slice p' (unionL la lb).length c' ∧ L' = [ilI p' c' (natI (unionL la lb)), i, j] := by
  intro w S hS
  refine crierref01_Union_cv ?_
  unfold crierref01_Union
  have H := Own.start hS
  have hof := refOf_t i (c := c) hi (by rw [natI_length]; omega) fun k => Nat.le_trans (ofL_length _) (by omega)
  rw [natI_length, ofL_natI ha hab] at hof
  refine call_o H (hof) (by repeat (first | exact Cut.nil | (apply Cut.cons; (repeat (first | exact Pick.here | apply Pick.there))))) fun vx L' wx hq H => ?_
  obtain ⟨p', c', rfl, rfl⟩ := hq
  simp only [List.cons_append, List.nil_append] at H
  refine ⟨_, _, _, rfl, ?_⟩
  have step : ∀ k, (natI (lb.take k)).foldl putL la = unionL la (lb.take k) := by
    intro k
    refine sext (foldl_putL_up _ ha) (unionL_up _ ha) fun x => ?_
    rw [mem_foldl_putL, mem_unionL, mem_natI, mayL_iff]
    constructor
    · rintro (h | ⟨_, h⟩)
      · exact .inl h
      · exact .inr h
    · rintro (h | h)
      · exact .inl h
      · exact .inr ⟨by have := hbb x (List.mem_of_mem_take h); omega, h⟩
  have hlen : ∀ k, (unionL la (lb.take k)).length ≤ 20000 := by
    intro k
    refine Nat.le_trans (up_bound _ 0 16384 (unionL_up _ ha) fun x hx => ⟨Nat.zero_le _, ?_⟩) (by omega)
    rcases (mem_unionL _).1 hx with h | h
    · exact hab x h
    · exact hbb x (List.mem_of_mem_take h)
  refine loop_o (fun (st : (Option Addr × Nat × Nat) × Int) L => ∃ (k : Nat) (po : Option Addr) (co : Nat), k ≤ lb.length ∧ st = ((po, (unionL la (lb.take k)).length, co), (k : Int)) ∧ L = [ilI po co (natI (unionL la (lb.take k))), i, j])
    (fun (st : (Option Addr × Nat × Nat) × Int) => ((lb.length : Int) - st.2).toNat) H ⟨0, p', c', by omega, by simp [unionL], by simp [unionL]⟩ ?_
  rintro _ _ wx ⟨k, po, co, hk, rfl, rfl⟩ H
  dsimp only
  unfold crierref01_Union_l0
  refine cnd_i (fun h => ?_) fun h => ?_
  · have h := of_decide_eq_true h
    have hk' : k < lb.length := by omega
    refine ⟨⟨by omega, h⟩, ?_⟩
    rw [Int.toNat_natCast]
    obtain ⟨a, rfl, hcell⟩ := H.rd (i := j) (by repeat (first | exact Pick.here | apply Pick.there)) hj k _ (natI_get hk')
    refine ⟨_, by rw [Nat.mul_one]; exact hcell, ?_⟩
    refine call_o H (refPut_t (unionL_up (lb.take k) ha) (hlen k) (lb[k] : Nat)) (by repeat (first | exact Cut.nil | (apply Cut.cons; (repeat (first | exact Pick.here | apply Pick.there))))) fun vx L' wx hq H => ?_
    obtain ⟨p2, c2, rfl, rfl⟩ := hq
    have e : putL (unionL la (lb.take k)) ((lb[k] : Nat) : Int) = unionL la (lb.take (k + 1)) := by
      rw [← step, ← step, ← take_snoc hk', List.foldl_append]; rfl
    rw [e] at H ⊢
    refine ⟨_, _, _, rfl, ⟨_, ⟨k + 1, p2, c2, by omega, ?_, rfl⟩, H⟩, ?_⟩
    · rw [W_id (by omega) (by omega)]; rfl
    · show ((lb.length : Int) - IntKind.i64.wrap ((k : Int) + 1)).toNat < ((lb.length : Int) - (k : Int)).toNat
      rw [W_id (by omega) (by omega)]; omega
  · have h := of_decide_eq_false h
    have : k = lb.length := by omega
    subst this
    rw [List.take_length] at H ⊢
    exact ⟨_, ⟨po, co, rfl, rfl⟩, H⟩
section
variable {W : World} (hT : TabAt W)
include hT in
theorem alike_t (b : Nat) (l : List Nat) (p : Option Addr) (c : Nat) : Tri P F.crierlaw01_Alike [ptrV b, .slice p l.length c] [setI b l, keep W, ilI p c (natI l)] fun v L' => v = .bool true ∧ L' = [setI b l, keep W, ilI p c (natI l)] := by
  intro w S hS
  refine crierlaw01_Alike_cv ?_
  unfold crierlaw01_Alike
  have H := Own.start hS
  obtain ⟨hup, hbd, hlen⟩ := set_facts H (b := b) (l := l) (by repeat (first | exact Pick.here | apply Pick.there))
  have hcnt := runsL_count hup hbd
  refine join_o (cnd_i (fun h => by cases h) fun _ => ?_)
  refine call_p H (len_set_t b l) (by repeat (first | exact Cut.nil | (apply Cut.cons; (repeat (first | exact Pick.here | apply Pick.there))))) fun wx H => ?_
  refine ⟨_, rfl, cnd_i (fun h => by simp at h) fun _ => ?_⟩
  refine call_o H (list_t hT b l) (by repeat (first | exact Cut.nil | (apply Cut.cons; (repeat (first | exact Pick.here | apply Pick.there))))) fun vx L' wx hq H => ?_
  obtain ⟨p1, c1, rfl, rfl⟩ := hq
  simp only [List.cons_append, List.nil_append] at H
  refine ⟨_, _, _, rfl, ?_⟩
  refine call_p H (refSame_t' (ilI p1 c1 (natI l)) (natI_length l) (natI_length l) il_sl (ilI p c (natI l)) il_sl (by omega)) (by repeat (first | exact Cut.nil | (apply Cut.cons; (repeat (first | exact Pick.here | apply Pick.there))))) fun wx H => ?_
  refine ⟨_, rfl, cnd_i (fun h => by simp at h) fun _ => ?_⟩
  have H := H.drop (L1 := [setI b l, keep W, ilI p c (natI l)]) (by repeat (first | exact Cut.nil | (apply Cut.cons; (repeat (first | exact Pick.here | apply Pick.there)))))
  refine call_o H (lawRuns_t hT b l) (by repeat (first | exact Cut.nil | (apply Cut.cons; (repeat (first | exact Pick.here | apply Pick.there))))) fun vx L' wx hq H => ?_
  obtain ⟨p2, c2, rfl, rfl⟩ := hq
  simp only [List.cons_append, List.nil_append] at H
  refine ⟨_, _, _, rfl, ?_⟩
  refine call_o H (refRuns_t (ilI p c (natI l)) il_sl (by omega) hbd) (by repeat (first | exact Cut.nil | (apply Cut.cons; (repeat (first | exact Pick.here | apply Pick.there))))) fun vx L' wx hq H => ?_
  obtain ⟨p3, c3, rfl, rfl⟩ := hq
  simp only [List.cons_append, List.nil_append] at H
  refine ⟨_, _, _, rfl, ?_⟩
  refine call_p H (refSame_t' (ilI p2 c2 (natI (flat2 (runsL l)))) rfl rfl il_sl (ilI p3 c3 (natI (flat2 (runsL l)))) il_sl (by rw [natI_length, flat2_length]; omega)) (by repeat (first | exact Cut.nil | (apply Cut.cons; (repeat (first | exact Pick.here | apply Pick.there))))) fun wx H => ?_
  refine ⟨_, rfl, ?_⟩
  unfold crierlaw01_Alike_j2
  refine cnd_i (fun h => by simp at h) fun _ => ?_
  have H := H.drop (L1 := [setI b l, keep W, ilI p c (natI l)]) (by repeat (first | exact Cut.nil | (apply Cut.cons; (repeat (first | exact Pick.here | apply Pick.there)))))
  refine call_p H (least_t hT b l) (by repeat (first | exact Cut.nil | (apply Cut.cons; (repeat (first | exact Pick.here | apply Pick.there))))) fun wx H => ?_
  refine ⟨_, _, rfl, ?_⟩
  refine call_p H (most_t b l) (by repeat (first | exact Cut.nil | (apply Cut.cons; (repeat (first | exact Pick.here | apply Pick.there))))) fun wx H => ?_
  refine ⟨_, _, rfl, ?_⟩
  cases l with
  | nil =>
    refine cnd_i (fun _ => join_o (cnd_i (fun _ => cnd_i (fun _ => cnd_i (fun _ => ?_) fun h => by simp at h) (fun h => by cases h)) (fun h => by cases h))) fun h => by simp at h
    unfold crierlaw01_Alike_j0
    exact ⟨_, ⟨by simp, rfl⟩, H⟩
  | cons x r =>
    refine cnd_i (fun h => by simp at h <;> omega) fun _ => join_o (cnd_i (fun _ => cnd_i (fun _ => ?_) (fun h => by cases h)) (fun h => by cases h))
    refine ⟨⟨by omega, by simp <;> omega⟩, ?_⟩
    obtain ⟨a, rfl, hcell⟩ := H.rd (i := ilI p c (natI (x :: r))) (by repeat (first | exact Pick.here | apply Pick.there)) il_sl 0 _ (natI_get (l := x :: r) (by simp))
    refine ⟨_, by rw [Nat.mul_one]; exact hcell, ?_⟩
    dsimp only
    refine cnd_i (fun _ => ?_) fun h => by simp at h
    have e1 : IntKind.i64.wrap ((((x :: r).length : Nat) : Int) - 1) = (r.length : Int) := by rw [W_id (by simp <;> omega) (by omega)]; simp
    rw [e1]
    refine ⟨⟨by omega, by simp <;> omega⟩, ?_⟩
    rw [Int.toNat_natCast]
    obtain ⟨a, ha, hcell⟩ := H.rd (i := ilI (some a) c (natI (x :: r))) (by repeat (first | exact Pick.here | apply Pick.there)) il_sl r.length _ (natI_get (l := x :: r) (by simp))
    cases ha
    refine ⟨_, by rw [Nat.mul_one]; exact hcell, ?_⟩
    unfold crierlaw01_Alike_j1
    refine ⟨_, ⟨?_, rfl⟩, H⟩
    congr 1
    rw [beq_iff_eq]
    congr 1
    rw [List.getLastD_eq_getLast?, List.getLast?_eq_getElem?]
    simp
include hT in
theorem awake_t : Tri P F.crierlaw01_awake [] [keep W] fun v L' => v = .bool true ∧ L' = [keep W] := by
  intro w S hS
  refine crierlaw01_awake_cv ?_
  unfold crierlaw01_awake
  have H := Own.start hS
  refine alc_o H fun bx wx H => ?_
  refine call_o H (of_set_t (ms := [5, 3, 5, -1, 16384]) (c := 5) (row bx [.int .i64 5, .int .i64 3, .int .i64 5, .int .i64 (-1), .int .i64 16384] T.t3) (fun w S h => Sl.row h.1) (by simp)) (by repeat (first | exact Cut.nil | (apply Cut.cons; (repeat (first | exact Pick.here | apply Pick.there))))) fun vx L' wx hq H => ?_
  obtain ⟨b, rfl, rfl⟩ := hq
  rw [show ofL [5, 3, 5, -1, 16384] = [3, 5] by decide] at H
  simp only [List.cons_append, List.nil_append] at H
  refine ⟨_, rfl, join_o (cnd_i (fun h => by cases h) fun _ => ?_)⟩
  refine call_p H (len_set_t b [3, 5]) (by repeat (first | exact Cut.nil | (apply Cut.cons; (repeat (first | exact Pick.here | apply Pick.there))))) fun wx H => ?_
  refine ⟨_, rfl, cnd_i (fun h => by simp at h) fun _ => ?_⟩
  refine call_o H (put_t b [3, 5] 3) (by repeat (first | exact Cut.nil | (apply Cut.cons; (repeat (first | exact Pick.here | apply Pick.there))))) fun vx L' wx hq H => ?_
  obtain ⟨rfl, rfl⟩ := hq
  rw [show (if hasL [3, 5] 3 then [3, 5] else putL [3, 5] 3) = [3, 5] by decide] at H
  refine ⟨_, rfl, cnd_i (fun h => absurd h (by decide)) fun _ => ?_⟩
  refine call_o H (take_t b [3, 5] 3) (by repeat (first | exact Cut.nil | (apply Cut.cons; (repeat (first | exact Pick.here | apply Pick.there))))) fun vx L' wx hq H => ?_
  obtain ⟨rfl, rfl⟩ := hq
  rw [show takeL [3, 5] 3 = [5] by decide] at H
  simp only [List.cons_append, List.nil_append] at H
  refine ⟨_, rfl, ?_⟩
  unfold crierlaw01_awake_j1
  refine cnd_i (fun h => absurd h (by decide)) fun _ => ?_
  refine call_p H (least_t hT b [5]) (by repeat (first | exact Cut.nil | (apply Cut.cons; (repeat (first | exact Pick.here | apply Pick.there))))) fun wx H => ?_
  refine ⟨_, _, rfl, join_o (cnd_i (fun _ => cnd_i (fun _ => ?_) fun h => absurd h (by decide)) fun h => absurd h (by decide))⟩
  refine call_o H (list_t hT b [5]) (by repeat (first | exact Cut.nil | (apply Cut.cons; (repeat (first | exact Pick.here | apply Pick.there))))) fun vx L' wx hq H => ?_
  obtain ⟨p1, c1, rfl, rfl⟩ := hq
  simp only [List.cons_append, List.nil_append] at H
  refine ⟨_, _, _, rfl, alc_o H fun bz wx H => ?_⟩
  refine call_p H (refSame_t' (xs := [5]) (ys := [5]) (ilI p1 c1 (natI [5])) rfl rfl il_sl (row bz [.int .i64 5] T.t3) (fun w S h => Sl.row h.1) (by simp)) (by repeat (first | exact Cut.nil | (apply Cut.cons; (repeat (first | exact Pick.here | apply Pick.there))))) fun wx H => ?_
  refine ⟨_, rfl, ?_⟩
  unfold crierlaw01_awake_j0
  exact ⟨_, ⟨by simp, rfl⟩, H.drop (by repeat (first | exact Cut.nil | (apply Cut.cons; (repeat (first | exact Pick.here | apply Pick.there)))))⟩
end
theorem l0_t (i : It) {p : Option Addr} {c : Nat} {l : List Nat} (hi : ∀ w S, i.h w S → Sl w p (i64s (natI l))) : Tri P F.crierlaw01_l0 [.slice p l.length c] [i] fun v L' => v = .int .i64 (l.headD 0 : Nat) ∧ L' = [i] := by
  refine Tri.of_pure fun w S hS => crierlaw01_l0_cv ?_
  unfold crierlaw01_l0
  cases l with
  | nil => exact cnd_i (fun h => by simp at h) fun _ => ⟨rfl, Below.refl _ _⟩
  | cons x r =>
    refine cnd_i (fun _ => ⟨⟨by omega, by simp <;> omega⟩, ?_⟩) fun h => by simp at h <;> omega
    obtain ⟨a, rfl, hcell⟩ := hi w S (sep_one.1 hS) 0 _ (natI_get (l := x :: r) (by simp))
    exact ⟨_, by rw [Nat.mul_one]; exact hcell, rfl, Below.refl _ _⟩
end Go.Proofs.YtlccemphlinecaaDoor
