/-
  lpi: LpiMoves.
-/
import Derived.Test.YtgjddhpblpfneaaDoorL17
namespace Go.Proofs.YtgjddhpblpfneaaDoor
open Go Go.RowKit X
set_option maxRecDepth 100000
set_option linter.unusedVariables false
set_option linter.unusedSimpArgs false
set_option maxHeartbeats 2000000
abbrev idsI (p : Option Addr) (c : Nat) (l : List Nat) : It := own tInt 1 (.slice p (ids l).length c) (ids l).length (i64s (ids l))
theorem ids_nat (l : List Nat) : ids l = natI (l.map (8192 + ·)) := by simp [ids, natI]
theorem hasIds_t (p : Option Addr) (c : Nat) (l : List Nat) (hl : l.length ≤ 20000) (u : Nat) : Tri P F.crierref01_Has [.slice p (ids l).length c, .int .i64 (8192 + (u : Int))] [idsI p c l] fun v L' => v = .bool (l.contains u) ∧ L' = [idsI p c l] := by
  have := refHas_t (idsI p c l) (p := p) (c := c) (l := l.map (8192 + ·)) (by rw [← ids_nat]; exact own_sl) (by simpa using hl) (8192 + (u : Int))
  rw [List.length_map] at this
  rw [ids_len]
  have e : hasL (l.map (8192 + ·)) (8192 + (u : Int)) = l.contains u := by
    rw [show (8192 : Int) + (u : Int) = ((8192 + u : Nat) : Int) by omega, hasL_nat, Bool.eq_iff_iff, List.contains_iff_mem, List.contains_iff_mem, List.mem_map]
    constructor
    · rintro ⟨x, hx, e⟩
      have : x = u := by omega
      subst this; exact hx
    · exact fun h => ⟨u, h, rfl⟩
  rw [e] at this
  exact this
theorem ids_at {l : List Nat} {k u : Nat} (h : l[k]? = some u) : (ids l)[k]? = some (8192 + (u : Int)) := by simp [ids, h]
theorem lpiMoves_cv {W : World} (hT : TabAt W) {q : Option Addr} {c : Nat} {xs : List Int} (hq0 : Sl W q (u8s xs)) (hc : xs.length ≤ c) (hx : ∀ x ∈ xs, 0 ≤ x ∧ x < 256) {a b : Int} (ha : 0 ≤ a ∧ a ≤ 255) (hb : 0 ≤ b ∧ b ≤ 255)
    {q2 : Option Addr} {c2 : Nat} {ys : List Act15} (hq2 : Slots W q2 5 (ys.map Act15.cells)) (hy : ∀ y ∈ ys, y.Good) (hl : ys.length ≤ 9223372036854775807) (id : Int) (hid : I64 id) (all : Bool) :
    CV P F.crierlaw15_LpiMoves [.int .u8 a, .int .u8 b, .slice q xs.length c, .slice q2 ys.length c2, .int .i64 id, .bool all] W fun r w' => r = .bool true ∧ Below W.heap.size W w' := by
  refine crierlaw15_LpiMoves_cv ?_
  unfold crierlaw15_LpiMoves
  have H := keep_start W
  refine call_o H (awake_t hT) (by repeat (first | exact Cut.nil | (apply Cut.cons; (repeat (first | exact Pick.here | apply Pick.there))))) fun vx L' wx hq H => ?_
  obtain ⟨rfl, rfl⟩ := hq
  simp only [List.cons_append, List.nil_append] at H
  refine ⟨_, rfl, cnd_i (fun h => by cases h) fun _ => ?_⟩
  refine call_o H (played_t hT hq0 hc hx ha hb hq2 hy hl) (by repeat (first | exact Cut.nil | (apply Cut.cons; (repeat (first | exact Pick.here | apply Pick.there))))) fun vx L' wx hq H => ?_
  obtain ⟨p, S, hS, hlen, hpa, rfl, rfl⟩ := hq
  simp only [List.cons_append, List.nil_append] at H
  refine ⟨_, _, _, _, _, _, _, _, rfl, alc_o H fun b24 wx H => ?_⟩
  refine st1_o H (by repeat (first | exact Rep.here | apply Rep.there)) (by simp) fun wx H => ?_
  refine st1_o H (by repeat (first | exact Rep.here | apply Rep.there)) (by simp) fun wx H => ?_
  refine st1_o H (by repeat (first | exact Rep.here | apply Rep.there)) (by simp) fun wx H => ?_
  refine st1_o H (by repeat (first | exact Rep.here | apply Rep.there)) (by simp) fun wx H => ?_
  refine st1_o H (by repeat (first | exact Rep.here | apply Rep.there)) (by simp) fun wx H => ?_
  refine st1_o H (by repeat (first | exact Rep.here | apply Rep.there)) (by simp) fun wx H => ?_
  refine st1_o H (by repeat (first | exact Rep.here | apply Rep.there)) (by simp) fun wx H => ?_
  simp only [List.set_cons_zero, List.set_cons_succ] at H
  refine join_o (cnd_i (fun h => by cases h) fun _ => ?_)
  unfold crierlaw15_LpiMoves_j6
  refine cnd_i (fun h => by cases h) fun _ => ?_
  refine drw_o H fun wx H => ?_
  refine ix_i (i := 0) (by omega) ?_
  refine ldP_o H (b := b24) (i := 2) (by repeat (first | exact Pick.here | apply Pick.there)) (by rfl) ?_
  repeat (first | refine ldI_o H (by repeat (first | exact Pick.here | apply Pick.there)) (by rfl) ?_ | refine ldL_o H (by repeat (first | exact Pick.here | apply Pick.there)) (by rfl) ?_ | refine ldB_o H (by repeat (first | exact Pick.here | apply Pick.there)) (by rfl) ?_ | refine ldP_o H (by repeat (first | exact Pick.here | apply Pick.there)) (by rfl) ?_ | refine ldS_o H (by repeat (first | exact Pick.here | apply Pick.there)) (by rfl) ?_)
  refine ix_i (i := 1) (by omega) ?_
  refine ldP_o H (b := b24) (i := 3) (by repeat (first | exact Pick.here | apply Pick.there)) (by rfl) ?_
  repeat (first | refine ldI_o H (by repeat (first | exact Pick.here | apply Pick.there)) (by rfl) ?_ | refine ldL_o H (by repeat (first | exact Pick.here | apply Pick.there)) (by rfl) ?_ | refine ldB_o H (by repeat (first | exact Pick.here | apply Pick.there)) (by rfl) ?_ | refine ldP_o H (by repeat (first | exact Pick.here | apply Pick.there)) (by rfl) ?_ | refine ldS_o H (by repeat (first | exact Pick.here | apply Pick.there)) (by rfl) ?_)
  refine call_o H (waiting_t p.l0 p.m) (by repeat (first | exact Cut.nil | (apply Cut.cons; (repeat (first | exact Pick.here | apply Pick.there))))) fun vx L' wx hq H => ?_
  obtain ⟨g3, g5, rfl, rfl⟩ := hq
  unfold waitE at H
  simp only [List.cons_append, List.nil_append] at H
  refine ⟨_, rfl, ldP_o H (b := b24) (i := 0) (by repeat (first | exact Pick.here | apply Pick.there)) (by rfl) rfl, ldP_o H (b := b24) (i := 3) (by repeat (first | exact Pick.here | apply Pick.there)) (by rfl) rfl, ?_⟩
  refine call_o H (list_t g3 g5 p.l0 p.m S.1 S.2.2 hS.ok1 hS.fit.f) (by repeat (first | exact Cut.nil | (apply Cut.cons; (repeat (first | exact Pick.here | apply Pick.there))))) fun vx L' wx hq H => ?_
  obtain ⟨p50, c52, rfl, rfl⟩ := hq
  simp only [List.cons_append, List.nil_append] at H
  refine ⟨_, _, _, rfl, ldP_o H (b := b24) (i := 0) (by repeat (first | exact Pick.here | apply Pick.there)) (by rfl) rfl, ldP_o H (b := b24) (i := 3) (by repeat (first | exact Pick.here | apply Pick.there)) (by rfl) rfl, ?_⟩
  refine call_o H (waiting_t p.l1 p.m) (by repeat (first | exact Cut.nil | (apply Cut.cons; (repeat (first | exact Pick.here | apply Pick.there))))) fun vx L' wx hq H => ?_
  obtain ⟨g3, g5, rfl, rfl⟩ := hq
  unfold waitE at H
  simp only [List.cons_append, List.nil_append] at H
  refine ⟨_, rfl, ?_⟩
  refine call_o H (list_t g3 g5 p.l1 p.m S.2.1 S.2.2 hS.ok2 hS.fit.g) (by repeat (first | exact Cut.nil | (apply Cut.cons; (repeat (first | exact Pick.here | apply Pick.there))))) fun vx L' wx hq H => ?_
  obtain ⟨p60, c62, rfl, rfl⟩ := hq
  simp only [List.cons_append, List.nil_append] at H
  refine ⟨_, _, _, rfl, ?_⟩
  have law := moves_law hS all id
  have hok := mvAll_ok hS (mvSel all id (waitL S.1 S.2.2))
  have hlx := waitL_len S.1 S.2.2 hS.ok1
  have hly := waitL_len S.2.1 S.2.2 hS.ok2
  have hman1 := hS.ok2.man
  have hxm : ∀ k ∈ waitL S.1 S.2.2, (k : Int) < 512 := fun k hk => by
    have := List.mem_range.1 (List.mem_filter.1 hk).1
    have := hS.ok1.man
    omega
  -- behind the moves
  have go : ∀ (S' : LS) (n : Nat) wx, mvAll S (mvSel all id (waitL S.1 S.2.2)) = (S', n) → X.Own W (fun k => k < W.heap.size) (lsL p.l0 p.l1 p.m S' ++ [idsI p60 c62 (waitL S.2.1 S.2.2), idsI p50 c52 (waitL S.1 S.2.2), row b24 [ptrV p.m, ptrV p.r, ptrV p.l0, ptrV p.l1, ptrV p.d0, ptrV p.d1, .bool true] T.t51, keep W]) wx →
      crierlaw15_LpiMoves_j5 id all (fun r w' => r = .bool true ∧ Below W.heap.size W w') b24 p50 (ids (waitL S.1 S.2.2)).length p60 (ids (waitL S.2.1 S.2.2)).length (n : Int) wx := by
    intro S' n wx he H
    rw [he] at law hok
    dsimp only at law hok
    obtain ⟨hok, hm0, hm1, hn⟩ := hok
    obtain ⟨law1, law2, law3, law4⟩ := law
    simp only [List.cons_append, List.nil_append] at H
    unfold crierlaw15_LpiMoves_j5
    refine drw_o H fun wx H => ?_
    refine ix_i (i := 0) (by omega) ?_
    refine ldP_o H (b := b24) (i := 2) (by repeat (first | exact Pick.here | apply Pick.there)) (by rfl) ?_
    repeat (first | refine ldI_o H (by repeat (first | exact Pick.here | apply Pick.there)) (by rfl) ?_ | refine ldL_o H (by repeat (first | exact Pick.here | apply Pick.there)) (by rfl) ?_ | refine ldB_o H (by repeat (first | exact Pick.here | apply Pick.there)) (by rfl) ?_ | refine ldP_o H (by repeat (first | exact Pick.here | apply Pick.there)) (by rfl) ?_ | refine ldS_o H (by repeat (first | exact Pick.here | apply Pick.there)) (by rfl) ?_)
    refine ix_i (i := 1) (by omega) ?_
    refine ldP_o H (b := b24) (i := 3) (by repeat (first | exact Pick.here | apply Pick.there)) (by rfl) ?_
    repeat (first | refine ldI_o H (by repeat (first | exact Pick.here | apply Pick.there)) (by rfl) ?_ | refine ldL_o H (by repeat (first | exact Pick.here | apply Pick.there)) (by rfl) ?_ | refine ldB_o H (by repeat (first | exact Pick.here | apply Pick.there)) (by rfl) ?_ | refine ldP_o H (by repeat (first | exact Pick.here | apply Pick.there)) (by rfl) ?_ | refine ldS_o H (by repeat (first | exact Pick.here | apply Pick.there)) (by rfl) ?_)
    refine call_o H (waiting_t p.l0 p.m) (by repeat (first | exact Cut.nil | (apply Cut.cons; (repeat (first | exact Pick.here | apply Pick.there))))) fun vx L' wx hq H => ?_
    obtain ⟨g3, g5, rfl, rfl⟩ := hq
    unfold waitE at H
    simp only [List.cons_append, List.nil_append] at H
    refine ⟨_, rfl, ldP_o H (b := b24) (i := 0) (by repeat (first | exact Pick.here | apply Pick.there)) (by rfl) rfl, ldP_o H (b := b24) (i := 3) (by repeat (first | exact Pick.here | apply Pick.there)) (by rfl) rfl, ?_⟩
    refine call_o H (list_t g3 g5 p.l0 p.m S'.1 S'.2.2 hok.ok1 hok.fit.f) (by repeat (first | exact Cut.nil | (apply Cut.cons; (repeat (first | exact Pick.here | apply Pick.there))))) fun vx L' wx hq H => ?_
    obtain ⟨p80, c82, rfl, rfl⟩ := hq
    simp only [List.cons_append, List.nil_append] at H
    refine ⟨_, _, _, rfl, ldP_o H (b := b24) (i := 0) (by repeat (first | exact Pick.here | apply Pick.there)) (by rfl) rfl, ldP_o H (b := b24) (i := 3) (by repeat (first | exact Pick.here | apply Pick.there)) (by rfl) rfl, ?_⟩
    refine call_o H (waiting_t p.l1 p.m) (by repeat (first | exact Cut.nil | (apply Cut.cons; (repeat (first | exact Pick.here | apply Pick.there))))) fun vx L' wx hq H => ?_
    obtain ⟨g3, g5, rfl, rfl⟩ := hq
    unfold waitE at H
    simp only [List.cons_append, List.nil_append] at H
    refine ⟨_, rfl, ?_⟩
    refine call_o H (list_t g3 g5 p.l1 p.m S'.2.1 S'.2.2 hok.ok2 hok.fit.g) (by repeat (first | exact Cut.nil | (apply Cut.cons; (repeat (first | exact Pick.here | apply Pick.there))))) fun vx L' wx hq H => ?_
    obtain ⟨p90, c92, rfl, rfl⟩ := hq
    simp only [List.cons_append, List.nil_append] at H
    refine ⟨_, _, _, rfl, ?_⟩
    have hlv := waitL_len S'.1 S'.2.2 hok.ok1
    have hlw := waitL_len S'.2.1 S'.2.2 hok.ok2
    let R : List It := [idsI p90 c92 (waitL S'.2.1 S'.2.2), idsI p80 c82 (waitL S'.1 S'.2.2), idsI p60 c62 (waitL S.2.1 S.2.2), idsI p50 c52 (waitL S.1 S.2.2), lpI p.l1 S'.2.1, row b24 [ptrV p.m, ptrV p.r, ptrV p.l0, ptrV p.l1, ptrV p.d0, ptrV p.d1, .bool true] T.t51, keep W]
    refine loop_o (fun (st : Int) L => ∃ i : Nat, i ≤ (waitL S.1 S.2.2).length ∧ st = i ∧ L = R) (fun (st : Int) => (((waitL S.1 S.2.2).length : Int) - st).toNat) (H.drop (by repeat (first | exact Cut.nil | (apply Cut.cons; (repeat (first | exact Pick.here | apply Pick.there)))))) ⟨0, by omega, rfl, rfl⟩ ?_
    rintro _ _ wx ⟨i, hi, rfl, rfl⟩ H
    dsimp only [R] at H
    unfold crierlaw15_LpiMoves_l4
    refine cnd_i (fun hcc => join_o ?_) fun hcc => ?_
    · have hcc := of_decide_eq_true hcc
      rw [ids_len] at hcc
      have hlt : i < (waitL S.1 S.2.2).length := by omega
      obtain ⟨u, hu⟩ : ∃ u, (waitL S.1 S.2.2)[i]? = some u := ⟨_, List.getElem?_eq_getElem hlt⟩
      have humem := List.mem_of_getElem? hu
      have hu512 := hxm u humem
      have hx1 := ids_at hu
      obtain ⟨la, lb⟩ := law1 u humem
      have e1 : IntKind.i64.wrap (8192 + (u : Int) - 8192) = (u : Int) := by rw [W_id (by omega) (by omega)]; omega
      -- what is reckoned as moved
      have test : ∀ wx, X.Own W (fun k => k < W.heap.size) R wx → crierlaw15_LpiMoves_j1 (fun r w' => r = .bool true ∧ Below W.heap.size W w') p50 (ids (waitL S.1 S.2.2)).length p80 (ids (waitL S'.1 S'.2.2)).length c82 p90 (ids (waitL S'.2.1 S'.2.2)).length c92 (i : Int)
          (fun (s' : Int) w' => (∃ L', (∃ i : Nat, i ≤ (waitL S.1 S.2.2).length ∧ s' = i ∧ L' = R) ∧ X.Own W (fun k => k < W.heap.size) L' w') ∧ (((waitL S.1 S.2.2).length : Int) - s').toNat < (((waitL S.1 S.2.2).length : Int) - (i : Int)).toNat) (mvdB all id S.2.1.many u) wx := by
        intro wx H
        dsimp only [R] at H
        unfold crierlaw15_LpiMoves_j1
        refine join_o ?_
        refine rd_n H (by repeat (first | exact Pick.here | apply Pick.there)) (hx1) ?_
        refine call_p H (hasIds_t p80 c82 (waitL S'.1 S'.2.2) (by omega) u) (by repeat (first | exact Cut.nil | (apply Cut.cons; (repeat (first | exact Pick.here | apply Pick.there))))) fun wx H => ?_
        have hin : (waitL S'.1 S'.2.2).contains u = !mvdB all id S.2.1.many u := by
          rw [Bool.eq_iff_iff, List.contains_iff_mem, la, Bool.not_eq_true']
        rw [hin]
        have next : ∀ wx, X.Own W (fun k => k < W.heap.size) R wx → crierlaw15_LpiMoves_j0 (fun r w' => r = .bool true ∧ Below W.heap.size W w') (i : Int) (fun (s' : Int) w' => (∃ L', (∃ i : Nat, i ≤ (waitL S.1 S.2.2).length ∧ s' = i ∧ L' = R) ∧ X.Own W (fun k => k < W.heap.size) L' w') ∧ (((waitL S.1 S.2.2).length : Int) - s').toNat < (((waitL S.1 S.2.2).length : Int) - (i : Int)).toNat) false wx := by
          intro wx H
          unfold crierlaw15_LpiMoves_j0
          refine cnd_i (fun h => by cases h) fun _ => ?_
          rw [W_id (by omega) (by omega)]
          exact ⟨⟨_, ⟨i + 1, by omega, by push_cast; rfl, rfl⟩, H⟩, by omega⟩
        refine ⟨_, rfl, cnd_i (fun hh => by simp at hh) fun _ => ?_⟩
        cases hmv : mvdB all id S.2.1.many u
        · exact cnd_i (fun h => by cases h) fun _ => next _ H
        · refine cnd_i (fun _ => ?_) (fun h => by cases h)
          refine rd_n H (by repeat (first | exact Pick.here | apply Pick.there)) (hx1) ?_
          refine call_p H (hasIds_t p90 c92 (waitL S'.2.1 S'.2.2) (by omega) u) (by repeat (first | exact Cut.nil | (apply Cut.cons; (repeat (first | exact Pick.here | apply Pick.there))))) fun wx H => ?_
          have hin2 : (waitL S'.2.1 S'.2.2).contains u = true := by rw [List.contains_iff_mem]; exact lb hmv
          rw [hin2]
          exact ⟨_, rfl, next _ H⟩
      refine drw_o H fun wx H => ?_
      refine cnd_i (fun hall => ?_) fun hall => ?_
      · subst hall
        obtain ⟨ad, hp, hcell⟩ := (H.sl (e := tInt) (p := p50) (n := (ids (waitL S.1 S.2.2)).length) (c := c52) (xs := i64s (ids (waitL S.1 S.2.2))) (by repeat (first | exact Pick.here | apply Pick.there))).1 i (.int .i64 (8192 + (u : Int))) (by simp [i64s, hx1])
        subst hp
        refine ix_i (by rw [ids_len]; exact hlt) ⟨_, by rw [Nat.mul_one]; exact hcell, ?_⟩
        refine ix_i (i := 1) (by omega) ?_
        refine ldP_o H (b := b24) (i := 3) (by repeat (first | exact Pick.here | apply Pick.there)) (by rfl) ?_
        refine call_p H (many_t p.l1 S'.2.1) (by repeat (first | exact Cut.nil | (apply Cut.cons; (repeat (first | exact Pick.here | apply Pick.there))))) fun wx H => ?_
        refine ⟨_, rfl, ?_, ?_⟩
        · obtain ⟨ad', hp, hcell⟩ := (H.sl (e := tInt) (p := some ad) (n := (ids (waitL S.1 S.2.2)).length) (c := c52) (xs := i64s (ids (waitL S.1 S.2.2))) (by repeat (first | exact Pick.here | apply Pick.there))).1 i (.int .i64 (8192 + (u : Int))) (by simp [i64s, hx1])
          cases hp
          exact ⟨_, by rw [Nat.mul_one]; exact hcell, rfl⟩
        rw [hm1, e1, show decide ((u : Int) < S.2.1.many) = mvdB true id S.2.1.many u by simp [mvdB]]
        exact test _ H
      · have hall : all = false := hall
        subst hall
        refine rd_n H (by repeat (first | exact Pick.here | apply Pick.there)) (hx1) ?_
        refine cnd_i (fun heq => ?_) fun hne => ?_
        · obtain ⟨ad, hp, hcell⟩ := (H.sl (e := tInt) (p := p50) (n := (ids (waitL S.1 S.2.2)).length) (c := c52) (xs := i64s (ids (waitL S.1 S.2.2))) (by repeat (first | exact Pick.here | apply Pick.there))).1 i (.int .i64 (8192 + (u : Int))) (by simp [i64s, hx1])
          subst hp
          refine ix_i (by rw [ids_len]; exact hlt) ⟨_, by rw [Nat.mul_one]; exact hcell, ?_⟩
          refine ix_i (i := 1) (by omega) ?_
          refine ldP_o H (b := b24) (i := 3) (by repeat (first | exact Pick.here | apply Pick.there)) (by rfl) ?_
          refine call_p H (many_t p.l1 S'.2.1) (by repeat (first | exact Cut.nil | (apply Cut.cons; (repeat (first | exact Pick.here | apply Pick.there))))) fun wx H => ?_
          refine ⟨_, rfl, ?_, ?_⟩
          · obtain ⟨ad', hp, hcell⟩ := (H.sl (e := tInt) (p := some ad) (n := (ids (waitL S.1 S.2.2)).length) (c := c52) (xs := i64s (ids (waitL S.1 S.2.2))) (by repeat (first | exact Pick.here | apply Pick.there))).1 i (.int .i64 (8192 + (u : Int))) (by simp [i64s, hx1])
            cases hp
            exact ⟨_, by rw [Nat.mul_one]; exact hcell, rfl⟩
          rw [hm1, e1, show decide ((u : Int) < S.2.1.many) = mvdB false id S.2.1.many u by unfold mvdB; rw [heq]; simp]
          exact test _ H
        · rw [show false = mvdB false id S.2.1.many u by unfold mvdB; rw [hne]; simp]
          exact test _ H
    · refine loop_o (fun (st : Int) L => ∃ j : Nat, j ≤ (waitL S.2.1 S.2.2).length ∧ st = j ∧ L = R) (fun (st : Int) => (((waitL S.2.1 S.2.2).length : Int) - st).toNat) H ⟨0, by omega, rfl, rfl⟩ ?_
      rintro _ _ wx ⟨j, hj, rfl, rfl⟩ H
      dsimp only [R] at H
      unfold crierlaw15_LpiMoves_l3
      refine cnd_i (fun hcc => ?_) fun hcc => ?_
      · have hcc := of_decide_eq_true hcc
        rw [ids_len] at hcc
        have hlt : j < (waitL S.2.1 S.2.2).length := by omega
        obtain ⟨u, hu⟩ : ∃ u, (waitL S.2.1 S.2.2)[j]? = some u := ⟨_, List.getElem?_eq_getElem hlt⟩
        have hx1 := ids_at hu
        refine rd_n H (by repeat (first | exact Pick.here | apply Pick.there)) (hx1) ?_
        refine call_p H (hasIds_t p90 c92 (waitL S'.2.1 S'.2.2) (by omega) u) (by repeat (first | exact Cut.nil | (apply Cut.cons; (repeat (first | exact Pick.here | apply Pick.there))))) fun wx H => ?_
        have hin2 : (waitL S'.2.1 S'.2.2).contains u = true := by rw [List.contains_iff_mem]; exact law2 u (List.mem_of_getElem? hu)
        rw [hin2]
        refine ⟨_, rfl, cnd_i (fun h => by cases h) fun _ => ?_⟩
        rw [W_id (by omega) (by omega)]
        exact ⟨⟨_, ⟨j + 1, by omega, by push_cast; rfl, rfl⟩, H⟩, by omega⟩
      · rw [ids_len, ids_len, ids_len, ids_len, W_id (by omega) (by omega), W_id (by omega) (by omega)]
        refine join_o (cnd_i (fun _ => ?_) fun hh => ?_)
        · unfold crierlaw15_LpiMoves_j2
          exact ⟨by rw [decide_eq_true (by omega)], keep_done H (by repeat (first | exact Pick.here | apply Pick.there))⟩
        · exfalso
          rw [beq_eq_false_iff_ne] at hh
          exact hh (by omega)
  refine join_o (cnd_i (fun hall => ?_) fun hall => ?_)
  · subst hall
    repeat (first | refine ldI_o H (by repeat (first | exact Pick.here | apply Pick.there)) (by rfl) ?_ | refine ldL_o H (by repeat (first | exact Pick.here | apply Pick.there)) (by rfl) ?_ | refine ldB_o H (by repeat (first | exact Pick.here | apply Pick.there)) (by rfl) ?_ | refine ldP_o H (by repeat (first | exact Pick.here | apply Pick.there)) (by rfl) ?_ | refine ldS_o H (by repeat (first | exact Pick.here | apply Pick.there)) (by rfl) ?_)
    refine ix_i (i := 0) (by omega) ?_
    refine ldP_o H (b := b24) (i := 2) (by repeat (first | exact Pick.here | apply Pick.there)) (by rfl) ?_
    refine ix_i (i := 1) (by omega) ?_
    refine ldP_o H (b := b24) (i := 3) (by repeat (first | exact Pick.here | apply Pick.there)) (by rfl) ?_
    refine call_o H (moveAll_t p.l0 p.l1 p.m S hS) (by repeat (first | exact Cut.nil | (apply Cut.cons; (repeat (first | exact Pick.here | apply Pick.there))))) fun vx L' wx hq H => ?_
    obtain ⟨rfl, rfl⟩ := hq
    simp only [List.cons_append, List.nil_append] at H
    exact ⟨_, rfl, go _ _ _ (by rw [mvSel_all]) (H.drop (by repeat (first | exact Cut.nil | (apply Cut.cons; (repeat (first | exact Pick.here | apply Pick.there))))))⟩
  · have hall : all = false := hall
    subst hall
    repeat (first | refine ldI_o H (by repeat (first | exact Pick.here | apply Pick.there)) (by rfl) ?_ | refine ldL_o H (by repeat (first | exact Pick.here | apply Pick.there)) (by rfl) ?_ | refine ldB_o H (by repeat (first | exact Pick.here | apply Pick.there)) (by rfl) ?_ | refine ldP_o H (by repeat (first | exact Pick.here | apply Pick.there)) (by rfl) ?_ | refine ldS_o H (by repeat (first | exact Pick.here | apply Pick.there)) (by rfl) ?_)
    refine ix_i (i := 0) (by omega) ?_
    refine ldP_o H (b := b24) (i := 2) (by repeat (first | exact Pick.here | apply Pick.there)) (by rfl) ?_
    refine ix_i (i := 1) (by omega) ?_
    refine ldP_o H (b := b24) (i := 3) (by repeat (first | exact Pick.here | apply Pick.there)) (by rfl) ?_
    refine call_o H (move_t p.l0 p.l1 p.m S hS.fit id hid) (by repeat (first | exact Cut.nil | (apply Cut.cons; (repeat (first | exact Pick.here | apply Pick.there))))) fun vx L' wx hq H => ?_
    obtain ⟨rfl, rfl⟩ := hq
    simp only [List.cons_append, List.nil_append] at H
    refine ⟨_, rfl, ?_⟩
    have h1 := mvSel_one hS id
    cases hb : mvB S id
    · rw [hb] at h1
      exact cnd_i (fun h => by cases h) fun _ => go _ 0 _ h1 (H.drop (by repeat (first | exact Cut.nil | (apply Cut.cons; (repeat (first | exact Pick.here | apply Pick.there))))))
    · rw [hb] at h1
      exact cnd_i (fun _ => go _ 1 _ h1 (H.drop (by repeat (first | exact Cut.nil | (apply Cut.cons; (repeat (first | exact Pick.here | apply Pick.there))))))) (fun h => by cases h)
end Go.Proofs.YtgjddhpblpfneaaDoor
