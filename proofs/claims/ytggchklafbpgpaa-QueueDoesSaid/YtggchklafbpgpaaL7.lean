/-
  queue: an act of both queues.
-/
import Derived.Test.YtggchklafbpgpaaL1
import Derived.Test.YtggchklafbpgpaaT3
import Derived.Test.YtggchklafbpgpaaQ7
import Derived.Test.YtggchklafbpgpaaV1
namespace Go.Proofs.Ytggchklafbpgpaa
open Go Go.RowKit X
set_option maxRecDepth 100000
set_option linter.unusedVariables false
set_option linter.unusedSimpArgs false
set_option maxHeartbeats 1000000
theorem rq_fields (p q : Qu) (w : World) : (Op.eqFields 9999 p.cells.toArray q.cells.toArray (P.fieldsOf tRq).toList).run P w = .ok (decide (p = q)) w := by
  obtain ⟨p0, p1, p2, p3⟩ := p
  obtain ⟨q0, q1, q2, q3⟩ := q
  simp only [Program.fieldsOf, Try.underlying61, Qu.cells, tRq]
  have u3 := Try.underlying3
  have a3 := Try.isAgg3
  have z3 := Try.sizeOf3
  have a23 := Try.isAgg23
  have z23 := Try.sizeOf23
  have e := w23_fields 9997 p0 p1 q0 q1 w
  go_simp
  repeat' split
  all_goals simp_all
theorem rq_ne {p q : Qu} {w : World} {K : Bool → Prop} (h : K (!decide (p = q))) : eqA P .neq tRq (quV p) (quV q) w K :=
  eqA_neq (by kernel_rfl) (by kernel_rfl) (by kernel_rfl) (rq_fields p q w) h
theorem told_t (q : Qu) : Tri P F.crierlaw17_told [quV q] [] fun v L' => v = quV q ∧ L' = [] := by
  intro w S hS
  refine crierlaw17_told_cv ?_
  unfold crierlaw17_told
  have H := Own.start hS
  refine alc_o H fun b5 wx H => alc_o H fun b7 wx H => ?_
  repeat (first | refine ldI_o H (by repeat (first | exact Pick.here | apply Pick.there)) (by rfl) ?_ | refine ldL_o H (by repeat (first | exact Pick.here | apply Pick.there)) (by rfl) ?_ | refine ldB_o H (by repeat (first | exact Pick.here | apply Pick.there)) (by rfl) ?_ | refine ldP_o H (by repeat (first | exact Pick.here | apply Pick.there)) (by rfl) ?_ | refine ldS_o H (by repeat (first | exact Pick.here | apply Pick.there)) (by rfl) ?_)
  refine st1_o H (by repeat (first | exact Rep.here | apply Rep.there)) (by simp) fun wx H => ?_
  refine st1_o H (by repeat (first | exact Rep.here | apply Rep.there)) (by simp) fun wx H => ?_
  refine st1_o H (by repeat (first | exact Rep.here | apply Rep.there)) (by simp) fun wx H => ?_
  refine st1_o H (by repeat (first | exact Rep.here | apply Rep.there)) (by simp) fun wx H => ?_
  repeat (first | refine ldI_o H (by repeat (first | exact Pick.here | apply Pick.there)) (by rfl) ?_ | refine ldL_o H (by repeat (first | exact Pick.here | apply Pick.there)) (by rfl) ?_ | refine ldB_o H (by repeat (first | exact Pick.here | apply Pick.there)) (by rfl) ?_ | refine ldP_o H (by repeat (first | exact Pick.here | apply Pick.there)) (by rfl) ?_ | refine ldS_o H (by repeat (first | exact Pick.here | apply Pick.there)) (by rfl) ?_)
  exact ⟨_, ⟨rfl, rfl⟩, H.drop (by repeat (first | exact Cut.nil | (apply Cut.cons; (repeat (first | exact Pick.here | apply Pick.there)))))⟩
structure Act17 where
  k : Int
  at' : Int
  c : Cm
  v : Int
def Act17.cells (x : Act17) : List Value := [.int .i64 x.k, .int .i64 x.at', .int .i64 x.c.op, .int .i64 x.c.dev, .int .i64 x.c.ev, .int .i64 x.c.num, .int .i64 x.c.coll, .int .i64 x.c.tgt, .int .i64 x.c.bits, .int .i64 x.c.addr, .bool x.c.val, .int .u64 x.v]
def actV (x : Act17) : Value := .agg [.int .i64 x.k, .int .i64 x.at', .int .i64 x.c.op, .int .i64 x.c.dev, .int .i64 x.c.ev, .int .i64 x.c.num, .int .i64 x.c.coll, .int .i64 x.c.tgt, .int .i64 x.c.bits, .int .i64 x.c.addr, .bool x.c.val, .int .u64 x.v].toArray
def Act17.Good (x : Act17) : Prop := x.c.Fit ∧ 0 ≤ x.v ∧ x.v < 2 ^ 64
def stepD (q : Qu) (bs : List Int) (x : Act17) : Qu × List Int :=
  if x.k = 1 then ((putQ q bs x.c).1, (putQ q bs x.c).2.1) else if x.k = 2 then ((passQ q).1, bs) else if x.k = 3 then ((setQ q x.at').1, bs) else if x.k = 4 then (q, writeM bs 0 bs.length x.at' 8 x.v) else (q, bs)
theorem step_s (q : Qu) (bs : List Int) (x : Act17) : (stepD q bs x).1.s = q.s := by
  unfold stepD putQ passQ setQ
  split
  · dsimp only
    split
    · rfl
    · split <;> rfl
  · split
    · dsimp only; split <;> rfl
    · split
      · dsimp only; split <;> rfl
      · split <;> rfl
abbrev bothL (b b' m m' : Nat) (q : Qu) (bs : List Int) : List It := [row b q.cells tQ, row b' q.cells tRq, memI m bs, memI m' bs]
theorem does_t (b b' m m' : Nat) (q : Qu) (hs : SmallS q) (bs : List Int) (x : Act17) (hx : x.Good) : Tri P F.crierlaw17_does [ptr b, ptr m, ptr b', ptr m', actV x] (bothL b b' m m' q bs) fun v L' => v = .bool true ∧ L' = bothL b b' m m' (stepD q bs x).1 (stepD q bs x).2 := by
  intro w S hS
  refine crierlaw17_does_cv ?_
  unfold crierlaw17_does
  have H := Own.start hS
  dsimp only [bothL] at H ⊢
  have hI : I64 x.c.addr := hx.1.2.2.2.2.2.2.2
  refine alc_o H fun b17 wx H => ?_
  repeat (first | refine ldI_o H (by repeat (first | exact Pick.here | apply Pick.there)) (by rfl) ?_ | refine ldL_o H (by repeat (first | exact Pick.here | apply Pick.there)) (by rfl) ?_ | refine ldB_o H (by repeat (first | exact Pick.here | apply Pick.there)) (by rfl) ?_ | refine ldP_o H (by repeat (first | exact Pick.here | apply Pick.there)) (by rfl) ?_ | refine ldS_o H (by repeat (first | exact Pick.here | apply Pick.there)) (by rfl) ?_)
  refine cnd_i (fun h => ?_) fun h => cnd_i (fun h2 => ?_) fun h2 => cnd_i (fun h3 => ?_) fun h3 => cnd_i (fun h4 => ?_) fun h4 => ?_
  · have h : x.k = 1 := by simpa using h
    have e : stepD q bs x = ((putQ q bs x.c).1, (putQ q bs x.c).2.1) := by unfold stepD; rw [if_pos h]
    rw [e]
    refine drw_o H fun wx H => ?_
    repeat (first | refine ldI_o H (by repeat (first | exact Pick.here | apply Pick.there)) (by rfl) ?_ | refine ldL_o H (by repeat (first | exact Pick.here | apply Pick.there)) (by rfl) ?_ | refine ldB_o H (by repeat (first | exact Pick.here | apply Pick.there)) (by rfl) ?_ | refine ldP_o H (by repeat (first | exact Pick.here | apply Pick.there)) (by rfl) ?_ | refine ldS_o H (by repeat (first | exact Pick.here | apply Pick.there)) (by rfl) ?_)
    refine call_o H (Put_t b m q bs x.c) (by repeat (first | exact Cut.nil | (apply Cut.cons; (repeat (first | exact Pick.here | apply Pick.there))))) fun vx L' wx hq H => ?_
    obtain ⟨rfl, rfl⟩ := hq
    simp only [List.cons_append, List.nil_append] at H
    refine ⟨_, rfl, by repeat (first | refine ldI_o H (by repeat (first | exact Pick.here | apply Pick.there)) (by rfl) ?_ | refine ldL_o H (by repeat (first | exact Pick.here | apply Pick.there)) (by rfl) ?_ | refine ldB_o H (by repeat (first | exact Pick.here | apply Pick.there)) (by rfl) ?_ | refine ldP_o H (by repeat (first | exact Pick.here | apply Pick.there)) (by rfl) ?_ | refine ldS_o H (by repeat (first | exact Pick.here | apply Pick.there)) (by rfl) ?_)
                       rfl, ?_⟩
    refine call_o H (rPut_t b' m' q hs bs x.c hI) (by repeat (first | exact Cut.nil | (apply Cut.cons; (repeat (first | exact Pick.here | apply Pick.there))))) fun vx L' wx hq H => ?_
    obtain ⟨rfl, rfl⟩ := hq
    simp only [List.cons_append, List.nil_append] at H
    exact ⟨_, rfl, _, ⟨by simp, rfl⟩, H.drop (by repeat (first | exact Cut.nil | (apply Cut.cons; (repeat (first | exact Pick.here | apply Pick.there)))))⟩
  · have h : x.k ≠ 1 := by simpa using h
    have h2 : x.k = 2 := by simpa using h2
    have e : stepD q bs x = ((passQ q).1, bs) := by unfold stepD; rw [if_neg h, if_pos h2]
    rw [e]
    refine call_o H (Pass_t b q) (by repeat (first | exact Cut.nil | (apply Cut.cons; (repeat (first | exact Pick.here | apply Pick.there))))) fun vx L' wx hq H => ?_
    obtain ⟨rfl, rfl⟩ := hq
    simp only [List.cons_append, List.nil_append] at H
    refine ⟨_, rfl, ?_⟩
    refine call_o H (rPass_t b' q hs) (by repeat (first | exact Cut.nil | (apply Cut.cons; (repeat (first | exact Pick.here | apply Pick.there))))) fun vx L' wx hq H => ?_
    obtain ⟨rfl, rfl⟩ := hq
    simp only [List.cons_append, List.nil_append] at H
    exact ⟨_, rfl, _, ⟨by simp, rfl⟩, H.drop (by repeat (first | exact Cut.nil | (apply Cut.cons; (repeat (first | exact Pick.here | apply Pick.there)))))⟩
  · have h : x.k ≠ 1 := by simpa using h
    have h2 : x.k ≠ 2 := by simpa using h2
    have h3 : x.k = 3 := by simpa using h3
    have e : stepD q bs x = ((setQ q x.at').1, bs) := by unfold stepD; rw [if_neg h, if_neg h2, if_pos h3]
    rw [e]
    refine drw_o H fun wx H => ?_
    repeat (first | refine ldI_o H (by repeat (first | exact Pick.here | apply Pick.there)) (by rfl) ?_ | refine ldL_o H (by repeat (first | exact Pick.here | apply Pick.there)) (by rfl) ?_ | refine ldB_o H (by repeat (first | exact Pick.here | apply Pick.there)) (by rfl) ?_ | refine ldP_o H (by repeat (first | exact Pick.here | apply Pick.there)) (by rfl) ?_ | refine ldS_o H (by repeat (first | exact Pick.here | apply Pick.there)) (by rfl) ?_)
    refine call_o H (SetWrite_t b q x.at') (by repeat (first | exact Cut.nil | (apply Cut.cons; (repeat (first | exact Pick.here | apply Pick.there))))) fun vx L' wx hq H => ?_
    obtain ⟨rfl, rfl⟩ := hq
    simp only [List.cons_append, List.nil_append] at H
    refine ⟨_, rfl, ldI_o H (by repeat (first | exact Pick.here | apply Pick.there)) rfl rfl, ?_⟩
    refine call_o H (rSetWrite_t b' q hs x.at') (by repeat (first | exact Cut.nil | (apply Cut.cons; (repeat (first | exact Pick.here | apply Pick.there))))) fun vx L' wx hq H => ?_
    obtain ⟨rfl, rfl⟩ := hq
    simp only [List.cons_append, List.nil_append] at H
    exact ⟨_, rfl, _, ⟨by simp, rfl⟩, H.drop (by repeat (first | exact Cut.nil | (apply Cut.cons; (repeat (first | exact Pick.here | apply Pick.there)))))⟩
  · have h : x.k ≠ 1 := by simpa using h
    have h2 : x.k ≠ 2 := by simpa using h2
    have h3 : x.k ≠ 3 := by simpa using h3
    have h4 : x.k = 4 := by simpa using h4
    have e : stepD q bs x = (q, writeM bs 0 bs.length x.at' 8 x.v) := by unfold stepD; rw [if_neg h, if_neg h2, if_neg h3, if_pos h4]
    rw [e]
    refine call_p H (size_t m bs) (by repeat (first | exact Cut.nil | (apply Cut.cons; (repeat (first | exact Pick.here | apply Pick.there))))) fun wx H => ?_
    refine ⟨_, rfl, alc_o H fun b73 wx H => ?_⟩
    refine st1_o H (by repeat (first | exact Rep.here | apply Rep.there)) (by simp) fun wx H => ?_
    refine st1_o H (by repeat (first | exact Rep.here | apply Rep.there)) (by simp) fun wx H => ?_
    refine drw_o H fun wx H => ?_
    repeat (first | refine ldI_o H (by repeat (first | exact Pick.here | apply Pick.there)) (by rfl) ?_ | refine ldL_o H (by repeat (first | exact Pick.here | apply Pick.there)) (by rfl) ?_ | refine ldB_o H (by repeat (first | exact Pick.here | apply Pick.there)) (by rfl) ?_ | refine ldP_o H (by repeat (first | exact Pick.here | apply Pick.there)) (by rfl) ?_ | refine ldS_o H (by repeat (first | exact Pick.here | apply Pick.there)) (by rfl) ?_)
    refine call_o H (write_t m bs 0 bs.length x.at' 8 x.v) (by repeat (first | exact Cut.nil | (apply Cut.cons; (repeat (first | exact Pick.here | apply Pick.there))))) fun vx L' wx hq H => ?_
    obtain ⟨rfl, rfl⟩ := hq
    simp only [List.cons_append, List.nil_append] at H
    refine ⟨_, rfl, ldI_o H (by repeat (first | exact Pick.here | apply Pick.there)) rfl rfl, ldI_o H (by repeat (first | exact Pick.here | apply Pick.there)) rfl rfl, ldI_o H (by repeat (first | exact Pick.here | apply Pick.there)) rfl (ldI_o H (by repeat (first | exact Pick.here | apply Pick.there)) rfl rfl), ?_⟩
    refine call_o H (refWrite_t m' bs 0 bs.length x.at' 8 x.v hx.2) (by repeat (first | exact Cut.nil | (apply Cut.cons; (repeat (first | exact Pick.here | apply Pick.there))))) fun vx L' wx hq H => ?_
    obtain ⟨rfl, rfl⟩ := hq
    simp only [List.cons_append, List.nil_append] at H
    exact ⟨_, rfl, _, ⟨by simp, rfl⟩, H.drop (by repeat (first | exact Cut.nil | (apply Cut.cons; (repeat (first | exact Pick.here | apply Pick.there)))))⟩
  · have h : x.k ≠ 1 := by simpa using h
    have h2 : x.k ≠ 2 := by simpa using h2
    have h3 : x.k ≠ 3 := by simpa using h3
    have h4 : x.k ≠ 4 := by simpa using h4
    have e : stepD q bs x = (q, bs) := by unfold stepD; rw [if_neg h, if_neg h2, if_neg h3, if_neg h4]
    rw [e]
    exact ⟨_, ⟨rfl, rfl⟩, H.drop (by repeat (first | exact Cut.nil | (apply Cut.cons; (repeat (first | exact Pick.here | apply Pick.there)))))⟩
end Go.Proofs.Ytggchklafbpgpaa
