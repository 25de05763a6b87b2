/-
  queue: ring: the plain functions.
-/
import Derived.Test.YtggchklafbpgpaaEB
import Derived.Test.YtggchklafbpgpaaMA
import Derived.Test.YtggchklafbpgpaaS1
import Derived.Test.YtggchklafbpgpaaA7
import Derived.Test.YtggchklafbpgpaaA6
namespace Go.Proofs.Ytggchklafbpgpaa
open Go Go.RowKit X
set_option maxRecDepth 100000
def W (n : Int) : Int := IntKind.i64.wrap n
def rightB (s t : Int) : Bool := !(decide (t < 1) || (decide (s < t) || (Int.tmod s t != 0 || decide (W (Int.tdiv s t) > 1024))))
def ringV (s t : Int) : Value := .agg [.int .i64 s, .int .i64 t].toArray
def i64V (n : Int) : Value := .int .i64 n
theorem right_plain (s t : Int) : Plain F.ring_Ring_Right [ringV s t] (i64V (if rightB s t then 0 else 1)) := by
  intro w
  refine ring_Ring_Right_cv ?_
  refine alc_i fun w1 hB h1 _ => ?_
  have hb := hB _ (Nat.le_refl _)
  unfold JoinT
  refine ldI_i h1 rfl ?_
  refine cnd_i (fun h => ?_) fun h => ?_
  · refine cnd_i (fun _ => ⟨?_, hb⟩) fun h => by cases h
    simp_all [rightB, i64V]
  refine ldI_i h1 rfl (ldI_i h1 rfl ?_)
  refine cnd_i (fun h' => ?_) fun h' => ?_
  · refine cnd_i (fun _ => ⟨?_, hb⟩) fun h => by cases h
    simp_all [rightB, i64V]
  refine ldI_i h1 rfl (ldI_i h1 rfl ⟨by simp at h; omega, ?_⟩)
  refine cnd_i (fun h'' => ?_) fun h'' => ?_
  · refine cnd_i (fun _ => ⟨?_, hb⟩) fun h => by cases h
    simp_all [rightB, i64V]
  refine ldI_i h1 rfl (ldI_i h1 rfl ⟨by simp at h; omega, ?_⟩)
  refine cnd_i (fun h3 => ⟨?_, hb⟩) fun h3 => ⟨?_, hb⟩
  · simp_all [rightB, i64V, W]
  · simp_all [rightB, i64V, W]

def mayB (s t a : Int) : Bool := rightB s t && (decide (a ≥ 0) && (decide (a < s) && Int.tmod a t == 0))
theorem right_pos {s t : Int} (h : rightB s t = true) : 1 ≤ t ∧ t ≤ s ∧ Int.tmod s t = 0 ∧ W (Int.tdiv s t) ≤ 1024 := by
  simp only [rightB, Bool.not_eq_true', Bool.or_eq_false_iff, decide_eq_false_iff_not, bne_eq_false_iff_eq] at h
  omega
theorem may_right {s t a : Int} (h : mayB s t a = true) : rightB s t = true := by
  simp only [mayB, Bool.and_eq_true] at h; exact h.1
theorem rmay_plain (s t a : Int) : Plain F.ring_Ring_May [ringV s t, i64V a] (.bool (mayB s t a)) := by
  intro w
  refine ring_Ring_May_cv ?_
  refine alc_i fun w1 hB h1 _ => ?_
  have hb := hB _ (Nat.le_refl _)
  unfold JoinT
  refine ldI_i h1 rfl (ldI_i h1 rfl ?_)
  refine (right_plain s t w1).mono ?_
  rintro _ w2 ⟨rfl, hB2⟩
  have h2 := h1.ext hB2
  have hb2 := hb.trans (hB2.mono (by have := hB w.heap.size (Nat.le_refl _); exact this.size))
  refine ⟨_, rfl, ?_⟩
  cases hr : rightB s t
  · exact ⟨by simp [mayB, hr], hb2⟩
  refine cnd_i (fun _ => ?_) fun h => by simp at h
  refine cnd_i (fun h => ?_) fun h => ⟨by have h := of_decide_eq_false h; simp [mayB, hr, show ¬ (0 ≤ a) by omega], hb2⟩
  refine ldI_i h2 rfl (cnd_i (fun h' => ?_) fun h' => ⟨by have h' := of_decide_eq_false h'; simp [mayB, hr, show ¬ (a < s) by omega], hb2⟩)
  have := right_pos hr
  exact ldI_i h2 rfl ⟨by omega, ⟨by simp_all [mayB], hb2⟩⟩
def tupV (a b : Int) : Value := .tuple [.int .i64 a, .int .i64 b].toArray
theorem next_plain (s t a : Int) : Plain F.ring_Ring_Next [ringV s t, i64V a] (if mayB s t a then tupV (Int.tmod (W (a + t)) s) 0 else tupV 0 1) := by
  intro w
  refine ring_Ring_Next_cv ?_
  refine alc_i fun w1 hB h1 _ => ?_
  have hb := hB _ (Nat.le_refl _)
  refine ldI_i h1 rfl (ldI_i h1 rfl ?_)
  refine (rmay_plain s t a w1).mono ?_
  rintro _ w2 ⟨rfl, hB2⟩
  have h2 := h1.ext hB2
  have hb2 := hb.trans (hB2.mono hb.size)
  refine ⟨_, rfl, ?_⟩
  cases hr : mayB s t a
  · exact ⟨rfl, hb2⟩
  have := right_pos (may_right hr)
  exact ldI_i h2 rfl (ldI_i h2 rfl ⟨by omega, rfl, hb2⟩)
def leftV (s t a b : Int) : Int := W (Int.tdiv (Int.tmod (W (W (b - a) + s)) s) t)
theorem left_plain (s t a b : Int) : Plain F.ring_Ring_Left [ringV s t, i64V a, i64V b] (if mayB s t a && mayB s t b then tupV (leftV s t a b) 0 else tupV 0 1) := by
  intro w
  refine ring_Ring_Left_cv ?_
  refine alc_i fun w1 hB h1 _ => ?_
  have hb := hB _ (Nat.le_refl _)
  unfold JoinT
  refine ldI_i h1 rfl (ldI_i h1 rfl ?_)
  refine (rmay_plain s t a w1).mono ?_
  rintro _ w2 ⟨rfl, hB2⟩
  have h2 := h1.ext hB2
  have hb2 := hb.trans (hB2.mono hb.size)
  refine ⟨_, rfl, ?_⟩
  cases hr : mayB s t a
  · exact ⟨rfl, hb2⟩
  refine ldI_i h2 rfl (ldI_i h2 rfl ?_)
  refine (rmay_plain s t b w2).mono ?_
  rintro _ w3 ⟨rfl, hB3⟩
  have h3 := h2.ext hB3
  have hb3 := hb2.trans (hB3.mono hb2.size)
  refine ⟨_, rfl, ?_⟩
  cases hr' : mayB s t b
  · exact ⟨rfl, hb3⟩
  have := right_pos (may_right hr)
  exact ldI_i h3.drew rfl (ldI_i h3.drew rfl ⟨by omega, ldI_i h3.drew rfl ⟨by omega, rfl, hb3.drew⟩⟩)
def roomV (s t a b : Int) : Int := W (W (W (Int.tdiv s t) - 1) - leftV s t a b)
theorem room_plain (s t a b : Int) : Plain F.ring_Ring_Room [ringV s t, i64V a, i64V b] (if mayB s t a && mayB s t b then tupV (roomV s t a b) 0 else tupV 0 1) := by
  intro w
  refine ring_Ring_Room_cv ?_
  refine alc_i fun w1 hB h1 _ => ?_
  have hb := hB _ (Nat.le_refl _)
  refine ldI_i h1 rfl (ldI_i h1 rfl ?_)
  refine (left_plain s t a b w1).mono ?_
  rintro _ w2 ⟨rfl, hB2⟩
  have h2 := h1.ext hB2
  have hb2 := hb.trans (hB2.mono hb.size)
  cases hr : mayB s t a && mayB s t b
  · exact ⟨_, _, rfl, cnd_i (fun _ => ⟨rfl, hb2⟩) fun h => by cases h⟩
  have := right_pos (may_right (by simp only [Bool.and_eq_true] at hr; exact hr.1))
  exact ⟨_, _, rfl, cnd_i (fun h => by cases h) fun _ => ldI_i h2 rfl (ldI_i h2 rfl ⟨by omega, rfl, hb2⟩)⟩
end Go.Proofs.Ytggchklafbpgpaa
/-
  queue: a queue's functions.
-/
namespace Go.Proofs.Ytggchklafbpgpaa
open Go Go.RowKit X
set_option maxRecDepth 100000
set_option linter.unusedVariables false
set_option linter.unusedSimpArgs false
set_option maxHeartbeats 1000000
/-- where a queue stands (at, size), up to where it was read, was written -/
structure Qu where
  a : Int
  s : Int
  r : Int
  w : Int
  deriving DecidableEq
def Qu.cells (q : Qu) : List Value := [.int .i64 q.a, .int .i64 q.s, .int .i64 q.r, .int .i64 q.w]
def quV (q : Qu) : Value := .agg [.int .i64 q.a, .int .i64 q.s, .int .i64 q.r, .int .i64 q.w].toArray
def Qu.both (q : Qu) : Bool := mayB q.s 32 q.r && mayB q.s 32 q.w
def Qu.left (q : Qu) : Int := if q.both then leftV q.s 32 q.r q.w else 0
def Qu.room (q : Qu) : Int := if q.both then roomV q.s 32 q.r q.w else 0
def nextQ (s a : Int) : Int := if mayB s 32 a then Int.tmod (W (a + 32)) s else 0
theorem pl_t {f : FuncId} {args : List Value} {v : Value} (h : Plain f args v) : Tri P f args [] fun v' L' => v' = v ∧ L' = [] := Tri.of_pure fun w S _ => h w
theorem ring_t (q : Qu) : Tri P F.queue_Queue_ring [quV q] [] fun v L' => v = ringV q.s 32 ∧ L' = [] := by
  intro w S hS
  refine queue_Queue_ring_cv ?_
  unfold queue_Queue_ring
  have H := Own.start hS
  refine alc_o H fun b5 wx H => alc_o H fun b7 wx H => ?_
  repeat (first | refine ldI_o H (by repeat (first | exact Pick.here | apply Pick.there)) (by rfl) ?_ | refine ldL_o H (by repeat (first | exact Pick.here | apply Pick.there)) (by rfl) ?_ | refine ldB_o H (by repeat (first | exact Pick.here | apply Pick.there)) (by rfl) ?_ | refine ldP_o H (by repeat (first | exact Pick.here | apply Pick.there)) (by rfl) ?_ | refine ldS_o H (by repeat (first | exact Pick.here | apply Pick.there)) (by rfl) ?_)
  refine st1_o H (by repeat (first | exact Rep.here | apply Rep.there)) (by simp) fun wx H => ?_
  refine st1_o H (by repeat (first | exact Rep.here | apply Rep.there)) (by simp) fun wx H => ?_
  repeat (first | refine ldI_o H (by repeat (first | exact Pick.here | apply Pick.there)) (by rfl) ?_ | refine ldL_o H (by repeat (first | exact Pick.here | apply Pick.there)) (by rfl) ?_ | refine ldB_o H (by repeat (first | exact Pick.here | apply Pick.there)) (by rfl) ?_ | refine ldP_o H (by repeat (first | exact Pick.here | apply Pick.there)) (by rfl) ?_ | refine ldS_o H (by repeat (first | exact Pick.here | apply Pick.there)) (by rfl) ?_)
  exact ⟨_, ⟨rfl, rfl⟩, H.drop (by repeat (first | exact Cut.nil | (apply Cut.cons; (repeat (first | exact Pick.here | apply Pick.there)))))⟩
theorem Left_t (q : Qu) : Tri P F.queue_Queue_Left [quV q] [] fun v L' => v = .int .i64 q.left ∧ L' = [] := by
  intro w S hS
  refine queue_Queue_Left_cv ?_
  unfold queue_Queue_Left
  have H := Own.start hS
  refine alc_o H fun b5 wx H => ?_
  refine drw_o H fun wx H => ?_
  repeat (first | refine ldI_o H (by repeat (first | exact Pick.here | apply Pick.there)) (by rfl) ?_ | refine ldL_o H (by repeat (first | exact Pick.here | apply Pick.there)) (by rfl) ?_ | refine ldB_o H (by repeat (first | exact Pick.here | apply Pick.there)) (by rfl) ?_ | refine ldP_o H (by repeat (first | exact Pick.here | apply Pick.there)) (by rfl) ?_ | refine ldS_o H (by repeat (first | exact Pick.here | apply Pick.there)) (by rfl) ?_)
  refine call_p H (ring_t q) (by repeat (first | exact Cut.nil | (apply Cut.cons; (repeat (first | exact Pick.here | apply Pick.there))))) fun wx H => ?_
  refine ⟨_, _, rfl, by repeat (first | refine ldI_o H (by repeat (first | exact Pick.here | apply Pick.there)) (by rfl) ?_ | refine ldL_o H (by repeat (first | exact Pick.here | apply Pick.there)) (by rfl) ?_ | refine ldB_o H (by repeat (first | exact Pick.here | apply Pick.there)) (by rfl) ?_ | refine ldP_o H (by repeat (first | exact Pick.here | apply Pick.there)) (by rfl) ?_ | refine ldS_o H (by repeat (first | exact Pick.here | apply Pick.there)) (by rfl) ?_)
                        rfl, by repeat (first | refine ldI_o H (by repeat (first | exact Pick.here | apply Pick.there)) (by rfl) ?_ | refine ldL_o H (by repeat (first | exact Pick.here | apply Pick.there)) (by rfl) ?_ | refine ldB_o H (by repeat (first | exact Pick.here | apply Pick.there)) (by rfl) ?_ | refine ldP_o H (by repeat (first | exact Pick.here | apply Pick.there)) (by rfl) ?_ | refine ldS_o H (by repeat (first | exact Pick.here | apply Pick.there)) (by rfl) ?_)
                                rfl, ?_⟩
  refine call_p H (pl_t (left_plain q.s 32 q.r q.w)) (by repeat (first | exact Cut.nil | (apply Cut.cons; (repeat (first | exact Pick.here | apply Pick.there))))) fun wx H => ?_
  unfold Qu.left Qu.both
  cases mayB q.s 32 q.r && mayB q.s 32 q.w <;> exact ⟨_, _, rfl, _, ⟨rfl, rfl⟩, H.drop (by repeat (first | exact Cut.nil | (apply Cut.cons; (repeat (first | exact Pick.here | apply Pick.there)))))⟩
theorem Room_t (q : Qu) : Tri P F.queue_Queue_Room [quV q] [] fun v L' => v = .int .i64 q.room ∧ L' = [] := by
  intro w S hS
  refine queue_Queue_Room_cv ?_
  unfold queue_Queue_Room
  have H := Own.start hS
  refine alc_o H fun b5 wx H => ?_
  refine drw_o H fun wx H => ?_
  repeat (first | refine ldI_o H (by repeat (first | exact Pick.here | apply Pick.there)) (by rfl) ?_ | refine ldL_o H (by repeat (first | exact Pick.here | apply Pick.there)) (by rfl) ?_ | refine ldB_o H (by repeat (first | exact Pick.here | apply Pick.there)) (by rfl) ?_ | refine ldP_o H (by repeat (first | exact Pick.here | apply Pick.there)) (by rfl) ?_ | refine ldS_o H (by repeat (first | exact Pick.here | apply Pick.there)) (by rfl) ?_)
  refine call_p H (ring_t q) (by repeat (first | exact Cut.nil | (apply Cut.cons; (repeat (first | exact Pick.here | apply Pick.there))))) fun wx H => ?_
  refine ⟨_, _, rfl, by repeat (first | refine ldI_o H (by repeat (first | exact Pick.here | apply Pick.there)) (by rfl) ?_ | refine ldL_o H (by repeat (first | exact Pick.here | apply Pick.there)) (by rfl) ?_ | refine ldB_o H (by repeat (first | exact Pick.here | apply Pick.there)) (by rfl) ?_ | refine ldP_o H (by repeat (first | exact Pick.here | apply Pick.there)) (by rfl) ?_ | refine ldS_o H (by repeat (first | exact Pick.here | apply Pick.there)) (by rfl) ?_)
                        rfl, by repeat (first | refine ldI_o H (by repeat (first | exact Pick.here | apply Pick.there)) (by rfl) ?_ | refine ldL_o H (by repeat (first | exact Pick.here | apply Pick.there)) (by rfl) ?_ | refine ldB_o H (by repeat (first | exact Pick.here | apply Pick.there)) (by rfl) ?_ | refine ldP_o H (by repeat (first | exact Pick.here | apply Pick.there)) (by rfl) ?_ | refine ldS_o H (by repeat (first | exact Pick.here | apply Pick.there)) (by rfl) ?_)
                                rfl, ?_⟩
  refine call_p H (pl_t (room_plain q.s 32 q.r q.w)) (by repeat (first | exact Cut.nil | (apply Cut.cons; (repeat (first | exact Pick.here | apply Pick.there))))) fun wx H => ?_
  unfold Qu.room Qu.both
  cases mayB q.s 32 q.r && mayB q.s 32 q.w <;> exact ⟨_, _, rfl, _, ⟨rfl, rfl⟩, H.drop (by repeat (first | exact Cut.nil | (apply Cut.cons; (repeat (first | exact Pick.here | apply Pick.there)))))⟩
def newQ (a s : Int) : Qu × Int := if rightB s 32 && decide (0 ≤ a) then (⟨a, s, 0, 0⟩, 0) else (⟨0, 0, 0, 0⟩, 1)
theorem NewQ_t (a s : Int) : Tri P F.queue_New [winV a s] [] fun v L' => v = .tuple [quV (newQ a s).1, .int .i64 (newQ a s).2].toArray ∧ L' = [] := by
  intro w S hS
  refine queue_New_cv ?_
  unfold queue_New
  have H := Own.start hS
  refine alc_o H fun b3 wx H => alc_o H fun b5 wx H => ?_
  repeat (first | refine ldI_o H (by repeat (first | exact Pick.here | apply Pick.there)) (by rfl) ?_ | refine ldL_o H (by repeat (first | exact Pick.here | apply Pick.there)) (by rfl) ?_ | refine ldB_o H (by repeat (first | exact Pick.here | apply Pick.there)) (by rfl) ?_ | refine ldP_o H (by repeat (first | exact Pick.here | apply Pick.there)) (by rfl) ?_ | refine ldS_o H (by repeat (first | exact Pick.here | apply Pick.there)) (by rfl) ?_)
  refine alc_o H fun b9 wx H => ?_
  refine st1_o H (by repeat (first | exact Rep.here | apply Rep.there)) (by simp) fun wx H => ?_
  refine st1_o H (by repeat (first | exact Rep.here | apply Rep.there)) (by simp) fun wx H => ?_
  refine st1_o H (by repeat (first | exact Rep.here | apply Rep.there)) (by simp) fun wx H => ?_
  refine st1_o H (by repeat (first | exact Rep.here | apply Rep.there)) (by simp) fun wx H => ?_
  repeat (first | refine ldI_o H (by repeat (first | exact Pick.here | apply Pick.there)) (by rfl) ?_ | refine ldL_o H (by repeat (first | exact Pick.here | apply Pick.there)) (by rfl) ?_ | refine ldB_o H (by repeat (first | exact Pick.here | apply Pick.there)) (by rfl) ?_ | refine ldP_o H (by repeat (first | exact Pick.here | apply Pick.there)) (by rfl) ?_ | refine ldS_o H (by repeat (first | exact Pick.here | apply Pick.there)) (by rfl) ?_)
  refine call_p H (ring_t ⟨a, s, 0, 0⟩) (by repeat (first | exact Cut.nil | (apply Cut.cons; (repeat (first | exact Pick.here | apply Pick.there))))) fun wx H => ?_
  refine ⟨_, _, rfl, ?_⟩
  refine call_p H (pl_t (right_plain s 32)) (by repeat (first | exact Cut.nil | (apply Cut.cons; (repeat (first | exact Pick.here | apply Pick.there))))) fun wx H => ?_
  refine ⟨_, rfl, join_o ?_⟩
  have fin : ∀ b : Bool, b = !(rightB s 32 && decide (0 ≤ a)) → ∀ wx, X.Own w S [row b9 [.int .i64 a, .int .i64 s, .int .i64 0, .int .i64 0] tQ, row b5 [.int .i64 0, .int .i64 0, .int .i64 0, .int .i64 0] tQ, row b3 [.int .i64 a, .int .i64 s] tWin] wx →
      queue_New_j0 (fun v w' => ∃ L', (v = .tuple [quV (newQ a s).1, .int .i64 (newQ a s).2].toArray ∧ L' = []) ∧ X.Own w S L' w') b5 b9 b wx := by
    intro b hb wx H
    unfold queue_New_j0
    refine cnd_i (fun h => ?_) fun h => ?_
    · have e : newQ a s = (⟨0, 0, 0, 0⟩, 1) := by unfold newQ; rw [hb, Bool.not_eq_true'] at h; rw [h]; rfl
      rw [e]
      refine st1_o H (by repeat (first | exact Rep.here | apply Rep.there)) (by simp) fun wx H => ?_
      refine st1_o H (by repeat (first | exact Rep.here | apply Rep.there)) (by simp) fun wx H => ?_
      refine st1_o H (by repeat (first | exact Rep.here | apply Rep.there)) (by simp) fun wx H => ?_
      refine st1_o H (by repeat (first | exact Rep.here | apply Rep.there)) (by simp) fun wx H => ?_
      repeat (first | refine ldI_o H (by repeat (first | exact Pick.here | apply Pick.there)) (by rfl) ?_ | refine ldL_o H (by repeat (first | exact Pick.here | apply Pick.there)) (by rfl) ?_ | refine ldB_o H (by repeat (first | exact Pick.here | apply Pick.there)) (by rfl) ?_ | refine ldP_o H (by repeat (first | exact Pick.here | apply Pick.there)) (by rfl) ?_ | refine ldS_o H (by repeat (first | exact Pick.here | apply Pick.there)) (by rfl) ?_)
      exact ⟨_, ⟨rfl, rfl⟩, H.drop (by repeat (first | exact Cut.nil | (apply Cut.cons; (repeat (first | exact Pick.here | apply Pick.there)))))⟩
    · have e : newQ a s = (⟨a, s, 0, 0⟩, 0) := by unfold newQ; rw [hb, Bool.not_eq_false'] at h; rw [h]; rfl
      rw [e]
      repeat (first | refine ldI_o H (by repeat (first | exact Pick.here | apply Pick.there)) (by rfl) ?_ | refine ldL_o H (by repeat (first | exact Pick.here | apply Pick.there)) (by rfl) ?_ | refine ldB_o H (by repeat (first | exact Pick.here | apply Pick.there)) (by rfl) ?_ | refine ldP_o H (by repeat (first | exact Pick.here | apply Pick.there)) (by rfl) ?_ | refine ldS_o H (by repeat (first | exact Pick.here | apply Pick.there)) (by rfl) ?_)
      refine st1_o H (by repeat (first | exact Rep.here | apply Rep.there)) (by simp) fun wx H => ?_
      refine st1_o H (by repeat (first | exact Rep.here | apply Rep.there)) (by simp) fun wx H => ?_
      refine st1_o H (by repeat (first | exact Rep.here | apply Rep.there)) (by simp) fun wx H => ?_
      refine st1_o H (by repeat (first | exact Rep.here | apply Rep.there)) (by simp) fun wx H => ?_
      repeat (first | refine ldI_o H (by repeat (first | exact Pick.here | apply Pick.there)) (by rfl) ?_ | refine ldL_o H (by repeat (first | exact Pick.here | apply Pick.there)) (by rfl) ?_ | refine ldB_o H (by repeat (first | exact Pick.here | apply Pick.there)) (by rfl) ?_ | refine ldP_o H (by repeat (first | exact Pick.here | apply Pick.there)) (by rfl) ?_ | refine ldS_o H (by repeat (first | exact Pick.here | apply Pick.there)) (by rfl) ?_)
      exact ⟨_, ⟨rfl, rfl⟩, H.drop (by repeat (first | exact Cut.nil | (apply Cut.cons; (repeat (first | exact Pick.here | apply Pick.there)))))⟩
  cases hr : rightB s 32
  · exact cnd_i (fun _ => fin _ (by rw [hr]; rfl) _ H) (fun h => by cases h)
  · refine cnd_i (fun h => by cases h) fun _ => ?_
    repeat (first | refine ldI_o H (by repeat (first | exact Pick.here | apply Pick.there)) (by rfl) ?_ | refine ldL_o H (by repeat (first | exact Pick.here | apply Pick.there)) (by rfl) ?_ | refine ldB_o H (by repeat (first | exact Pick.here | apply Pick.there)) (by rfl) ?_ | refine ldP_o H (by repeat (first | exact Pick.here | apply Pick.there)) (by rfl) ?_ | refine ldS_o H (by repeat (first | exact Pick.here | apply Pick.there)) (by rfl) ?_)
    refine fin _ ?_ _ H
    rw [hr, Bool.true_and, Bool.eq_iff_iff]
    simp
def putQ (q : Qu) (bs : List Int) (c : Cm) : Qu × List Int × Int := if q.room < 1 then (q, bs, 2) else if storeE bs.length q.a q.s q.w c ≠ 0 then (q, storeM bs q.a q.s q.w c, storeE bs.length q.a q.s q.w c) else ({ q with w := nextQ q.s q.w }, storeM bs q.a q.s q.w c, 0)
theorem Next_t (s a : Int) : Tri P F.ring_Ring_Next [ringV s 32, i64V a] [] fun v L' => (∃ e, v = .tuple [.int .i64 (nextQ s a), .int .i64 e].toArray) ∧ L' = [] := by
  intro w S hS
  refine (next_plain s 32 a w).mono ?_
  rintro _ w' ⟨rfl, hB⟩
  refine ⟨[], ⟨?_, rfl⟩, (Own.start hS).grow hB⟩
  unfold nextQ
  cases mayB s 32 a <;> exact ⟨_, rfl⟩
theorem Put_t (b m : Nat) (q : Qu) (bs : List Int) (c : Cm) : Tri P F.queue_Queue_Put [ptr b, ptr m, cmV c] [row b q.cells tQ, memI m bs] fun v L' => v = .int .i64 (putQ q bs c).2.2 ∧ L' = [row b (putQ q bs c).1.cells tQ, memI m (putQ q bs c).2.1] := by
  intro w S hS
  refine queue_Queue_Put_cv ?_
  unfold queue_Queue_Put
  have H := Own.start hS
  unfold Qu.cells at H
  refine alc_o H fun b12 wx H => ?_
  dsimp only [nn]
  simp only [add_lit]
  repeat (first | refine ldI_o H (by repeat (first | exact Pick.here | apply Pick.there)) (by rfl) ?_ | refine ldL_o H (by repeat (first | exact Pick.here | apply Pick.there)) (by rfl) ?_ | refine ldB_o H (by repeat (first | exact Pick.here | apply Pick.there)) (by rfl) ?_ | refine ldP_o H (by repeat (first | exact Pick.here | apply Pick.there)) (by rfl) ?_ | refine ldS_o H (by repeat (first | exact Pick.here | apply Pick.there)) (by rfl) ?_)
  refine call_p H (Room_t q) (by repeat (first | exact Cut.nil | (apply Cut.cons; (repeat (first | exact Pick.here | apply Pick.there))))) fun wx H => ?_
  refine ⟨_, rfl, cnd_i (fun h => ?_) fun h => ?_⟩
  · have e : putQ q bs c = (q, bs, 2) := by unfold putQ; rw [if_pos (of_decide_eq_true h)]
    rw [e]
    exact ⟨_, ⟨rfl, rfl⟩, H.drop (by repeat (first | exact Cut.nil | (apply Cut.cons; (repeat (first | exact Pick.here | apply Pick.there)))))⟩
  have h := of_decide_eq_false h
  refine drw_o H fun wx H => ?_
  repeat (first | refine ldI_o H (by repeat (first | exact Pick.here | apply Pick.there)) (by rfl) ?_ | refine ldL_o H (by repeat (first | exact Pick.here | apply Pick.there)) (by rfl) ?_ | refine ldB_o H (by repeat (first | exact Pick.here | apply Pick.there)) (by rfl) ?_ | refine ldP_o H (by repeat (first | exact Pick.here | apply Pick.there)) (by rfl) ?_ | refine ldS_o H (by repeat (first | exact Pick.here | apply Pick.there)) (by rfl) ?_)
  refine call_o H (Store_t m bs q.a q.s q.w c) (by repeat (first | exact Cut.nil | (apply Cut.cons; (repeat (first | exact Pick.here | apply Pick.there))))) fun vx L' wx hq H => ?_
  obtain ⟨rfl, rfl⟩ := hq
  simp only [List.cons_append, List.nil_append] at H
  refine ⟨_, rfl, cnd_i (fun h2 => ?_) fun h2 => ?_⟩
  · have e : putQ q bs c = (q, storeM bs q.a q.s q.w c, storeE bs.length q.a q.s q.w c) := by unfold putQ; rw [if_neg h, if_pos (by simpa using h2)]
    rw [e]
    exact ⟨_, ⟨rfl, rfl⟩, H.drop (by unfold Qu.cells; exact (by repeat (first | exact Cut.nil | (apply Cut.cons; (repeat (first | exact Pick.here | apply Pick.there))))))⟩
  have e : putQ q bs c = ({ q with w := nextQ q.s q.w }, storeM bs q.a q.s q.w c, 0) := by unfold putQ; rw [if_neg h, if_neg (by simpa using h2)]
  rw [e]
  refine drw_o H fun wx H => ?_
  repeat (first | refine ldI_o H (by repeat (first | exact Pick.here | apply Pick.there)) (by rfl) ?_ | refine ldL_o H (by repeat (first | exact Pick.here | apply Pick.there)) (by rfl) ?_ | refine ldB_o H (by repeat (first | exact Pick.here | apply Pick.there)) (by rfl) ?_ | refine ldP_o H (by repeat (first | exact Pick.here | apply Pick.there)) (by rfl) ?_ | refine ldS_o H (by repeat (first | exact Pick.here | apply Pick.there)) (by rfl) ?_)
  refine call_p H (ring_t q) (by repeat (first | exact Cut.nil | (apply Cut.cons; (repeat (first | exact Pick.here | apply Pick.there))))) fun wx H => ?_
  refine ⟨_, _, rfl, by repeat (first | refine ldI_o H (by repeat (first | exact Pick.here | apply Pick.there)) (by rfl) ?_ | refine ldL_o H (by repeat (first | exact Pick.here | apply Pick.there)) (by rfl) ?_ | refine ldB_o H (by repeat (first | exact Pick.here | apply Pick.there)) (by rfl) ?_ | refine ldP_o H (by repeat (first | exact Pick.here | apply Pick.there)) (by rfl) ?_ | refine ldS_o H (by repeat (first | exact Pick.here | apply Pick.there)) (by rfl) ?_)
                        rfl, ?_⟩
  refine call_o H (Next_t q.s q.w) (by repeat (first | exact Cut.nil | (apply Cut.cons; (repeat (first | exact Pick.here | apply Pick.there))))) fun vx L' wx hq H => ?_
  obtain ⟨⟨e, rfl⟩, rfl⟩ := hq
  simp only [List.cons_append, List.nil_append] at H
  refine ⟨_, _, rfl, ?_⟩
  refine st1_o H (by repeat (first | exact Rep.here | apply Rep.there)) (by simp) fun wx H => ?_
  exact ⟨_, ⟨rfl, rfl⟩, H.drop (by unfold Qu.cells; exact (by repeat (first | exact Cut.nil | (apply Cut.cons; (repeat (first | exact Pick.here | apply Pick.there))))))⟩
def headQ (q : Qu) (bs : List Int) : Cm × Int := if q.left < 1 then (cm0, 170) else loadM bs q.a q.s q.r
theorem Head_t (m : Nat) (q : Qu) (bs : List Int) : Tri P F.queue_Queue_Head [quV q, ptr m] [memI m bs] fun v L' => v = .tuple [cmV (headQ q bs).1, .int .i64 (headQ q bs).2].toArray ∧ L' = [memI m bs] := by
  intro w S hS
  refine queue_Queue_Head_cv ?_
  unfold queue_Queue_Head
  have H := Own.start hS
  refine alc_o H fun b6 wx H => alc_o H fun b8 wx H => ?_
  repeat (first | refine ldI_o H (by repeat (first | exact Pick.here | apply Pick.there)) (by rfl) ?_ | refine ldL_o H (by repeat (first | exact Pick.here | apply Pick.there)) (by rfl) ?_ | refine ldB_o H (by repeat (first | exact Pick.here | apply Pick.there)) (by rfl) ?_ | refine ldP_o H (by repeat (first | exact Pick.here | apply Pick.there)) (by rfl) ?_ | refine ldS_o H (by repeat (first | exact Pick.here | apply Pick.there)) (by rfl) ?_)
  refine call_p H (Left_t q) (by repeat (first | exact Cut.nil | (apply Cut.cons; (repeat (first | exact Pick.here | apply Pick.there))))) fun wx H => ?_
  refine ⟨_, rfl, cnd_i (fun h => ?_) fun h => ?_⟩
  · have e : headQ q bs = (cm0, 170) := by unfold headQ; rw [if_pos (of_decide_eq_true h)]
    rw [e]
    refine st1_o H (by repeat (first | exact Rep.here | apply Rep.there)) (by simp) fun wx H => ?_
    refine st1_o H (by repeat (first | exact Rep.here | apply Rep.there)) (by simp) fun wx H => ?_
    refine st1_o H (by repeat (first | exact Rep.here | apply Rep.there)) (by simp) fun wx H => ?_
    refine st1_o H (by repeat (first | exact Rep.here | apply Rep.there)) (by simp) fun wx H => ?_
    refine st1_o H (by repeat (first | exact Rep.here | apply Rep.there)) (by simp) fun wx H => ?_
    refine st1_o H (by repeat (first | exact Rep.here | apply Rep.there)) (by simp) fun wx H => ?_
    refine st1_o H (by repeat (first | exact Rep.here | apply Rep.there)) (by simp) fun wx H => ?_
    refine st1_o H (by repeat (first | exact Rep.here | apply Rep.there)) (by simp) fun wx H => ?_
    refine st1_o H (by repeat (first | exact Rep.here | apply Rep.there)) (by simp) fun wx H => ?_
    repeat (first | refine ldI_o H (by repeat (first | exact Pick.here | apply Pick.there)) (by rfl) ?_ | refine ldL_o H (by repeat (first | exact Pick.here | apply Pick.there)) (by rfl) ?_ | refine ldB_o H (by repeat (first | exact Pick.here | apply Pick.there)) (by rfl) ?_ | refine ldP_o H (by repeat (first | exact Pick.here | apply Pick.there)) (by rfl) ?_ | refine ldS_o H (by repeat (first | exact Pick.here | apply Pick.there)) (by rfl) ?_)
    exact ⟨_, ⟨rfl, rfl⟩, H.drop (by repeat (first | exact Cut.nil | (apply Cut.cons; (repeat (first | exact Pick.here | apply Pick.there)))))⟩
  have h := of_decide_eq_false h
  have e : headQ q bs = loadM bs q.a q.s q.r := by unfold headQ; rw [if_neg h]
  rw [e]
  repeat (first | refine ldI_o H (by repeat (first | exact Pick.here | apply Pick.there)) (by rfl) ?_ | refine ldL_o H (by repeat (first | exact Pick.here | apply Pick.there)) (by rfl) ?_ | refine ldB_o H (by repeat (first | exact Pick.here | apply Pick.there)) (by rfl) ?_ | refine ldP_o H (by repeat (first | exact Pick.here | apply Pick.there)) (by rfl) ?_ | refine ldS_o H (by repeat (first | exact Pick.here | apply Pick.there)) (by rfl) ?_)
  refine call_p H (Load_t m bs q.a q.s q.r) (by repeat (first | exact Cut.nil | (apply Cut.cons; (repeat (first | exact Pick.here | apply Pick.there))))) fun wx H => ?_
  unfold loadV
  generalize loadM bs q.a q.s q.r = z
  refine ⟨_, _, _, _, _, _, _, _, _, _, rfl, ?_⟩
  refine st1_o H (by repeat (first | exact Rep.here | apply Rep.there)) (by simp) fun wx H => ?_
  refine st1_o H (by repeat (first | exact Rep.here | apply Rep.there)) (by simp) fun wx H => ?_
  refine st1_o H (by repeat (first | exact Rep.here | apply Rep.there)) (by simp) fun wx H => ?_
  refine st1_o H (by repeat (first | exact Rep.here | apply Rep.there)) (by simp) fun wx H => ?_
  refine st1_o H (by repeat (first | exact Rep.here | apply Rep.there)) (by simp) fun wx H => ?_
  refine st1_o H (by repeat (first | exact Rep.here | apply Rep.there)) (by simp) fun wx H => ?_
  refine st1_o H (by repeat (first | exact Rep.here | apply Rep.there)) (by simp) fun wx H => ?_
  refine st1_o H (by repeat (first | exact Rep.here | apply Rep.there)) (by simp) fun wx H => ?_
  refine st1_o H (by repeat (first | exact Rep.here | apply Rep.there)) (by simp) fun wx H => ?_
  repeat (first | refine ldI_o H (by repeat (first | exact Pick.here | apply Pick.there)) (by rfl) ?_ | refine ldL_o H (by repeat (first | exact Pick.here | apply Pick.there)) (by rfl) ?_ | refine ldB_o H (by repeat (first | exact Pick.here | apply Pick.there)) (by rfl) ?_ | refine ldP_o H (by repeat (first | exact Pick.here | apply Pick.there)) (by rfl) ?_ | refine ldS_o H (by repeat (first | exact Pick.here | apply Pick.there)) (by rfl) ?_)
  exact ⟨_, ⟨rfl, rfl⟩, H.drop (by repeat (first | exact Cut.nil | (apply Cut.cons; (repeat (first | exact Pick.here | apply Pick.there)))))⟩
def passQ (q : Qu) : Qu × Int := if q.left < 1 then (q, 170) else ({ q with r := nextQ q.s q.r }, 0)
theorem Pass_t (b : Nat) (q : Qu) : Tri P F.queue_Queue_Pass [ptr b] [row b q.cells tQ] fun v L' => v = .int .i64 (passQ q).2 ∧ L' = [row b (passQ q).1.cells tQ] := by
  intro w S hS
  refine queue_Queue_Pass_cv ?_
  unfold queue_Queue_Pass
  have H := Own.start hS
  unfold Qu.cells at H
  dsimp only [nn]
  simp only [add_lit]
  repeat (first | refine ldI_o H (by repeat (first | exact Pick.here | apply Pick.there)) (by rfl) ?_ | refine ldL_o H (by repeat (first | exact Pick.here | apply Pick.there)) (by rfl) ?_ | refine ldB_o H (by repeat (first | exact Pick.here | apply Pick.there)) (by rfl) ?_ | refine ldP_o H (by repeat (first | exact Pick.here | apply Pick.there)) (by rfl) ?_ | refine ldS_o H (by repeat (first | exact Pick.here | apply Pick.there)) (by rfl) ?_)
  refine call_p H (Left_t q) (by repeat (first | exact Cut.nil | (apply Cut.cons; (repeat (first | exact Pick.here | apply Pick.there))))) fun wx H => ?_
  refine ⟨_, rfl, cnd_i (fun h => ?_) fun h => ?_⟩
  · have e : passQ q = (q, 170) := by unfold passQ; rw [if_pos (of_decide_eq_true h)]
    rw [e]
    exact ⟨_, ⟨rfl, rfl⟩, H⟩
  have h := of_decide_eq_false h
  have e : passQ q = ({ q with r := nextQ q.s q.r }, 0) := by unfold passQ; rw [if_neg h]
  rw [e]
  refine drw_o H fun wx H => ?_
  repeat (first | refine ldI_o H (by repeat (first | exact Pick.here | apply Pick.there)) (by rfl) ?_ | refine ldL_o H (by repeat (first | exact Pick.here | apply Pick.there)) (by rfl) ?_ | refine ldB_o H (by repeat (first | exact Pick.here | apply Pick.there)) (by rfl) ?_ | refine ldP_o H (by repeat (first | exact Pick.here | apply Pick.there)) (by rfl) ?_ | refine ldS_o H (by repeat (first | exact Pick.here | apply Pick.there)) (by rfl) ?_)
  refine call_p H (ring_t q) (by repeat (first | exact Cut.nil | (apply Cut.cons; (repeat (first | exact Pick.here | apply Pick.there))))) fun wx H => ?_
  refine ⟨_, _, rfl, by repeat (first | refine ldI_o H (by repeat (first | exact Pick.here | apply Pick.there)) (by rfl) ?_ | refine ldL_o H (by repeat (first | exact Pick.here | apply Pick.there)) (by rfl) ?_ | refine ldB_o H (by repeat (first | exact Pick.here | apply Pick.there)) (by rfl) ?_ | refine ldP_o H (by repeat (first | exact Pick.here | apply Pick.there)) (by rfl) ?_ | refine ldS_o H (by repeat (first | exact Pick.here | apply Pick.there)) (by rfl) ?_)
                        rfl, ?_⟩
  refine call_o H (Next_t q.s q.r) (by repeat (first | exact Cut.nil | (apply Cut.cons; (repeat (first | exact Pick.here | apply Pick.there))))) fun vx L' wx hq H => ?_
  obtain ⟨⟨e, rfl⟩, rfl⟩ := hq
  simp only [List.cons_append, List.nil_append] at H
  refine ⟨_, _, rfl, ?_⟩
  refine st1_o H (by repeat (first | exact Rep.here | apply Rep.there)) (by simp) fun wx H => ?_
  exact ⟨_, ⟨rfl, rfl⟩, H⟩
def setQ (q : Qu) (at' : Int) : Qu × Int := if mayB q.s 32 at' then ({ q with w := at' }, 0) else (q, 1)
theorem SetWrite_t (b : Nat) (q : Qu) (at' : Int) : Tri P F.queue_Queue_SetWrite [ptr b, .int .i64 at'] [row b q.cells tQ] fun v L' => v = .int .i64 (setQ q at').2 ∧ L' = [row b (setQ q at').1.cells tQ] := by
  intro w S hS
  refine queue_Queue_SetWrite_cv ?_
  unfold queue_Queue_SetWrite
  have H := Own.start hS
  unfold Qu.cells at H
  dsimp only [nn]
  simp only [add_lit]
  repeat (first | refine ldI_o H (by repeat (first | exact Pick.here | apply Pick.there)) (by rfl) ?_ | refine ldL_o H (by repeat (first | exact Pick.here | apply Pick.there)) (by rfl) ?_ | refine ldB_o H (by repeat (first | exact Pick.here | apply Pick.there)) (by rfl) ?_ | refine ldP_o H (by repeat (first | exact Pick.here | apply Pick.there)) (by rfl) ?_ | refine ldS_o H (by repeat (first | exact Pick.here | apply Pick.there)) (by rfl) ?_)
  refine call_p H (ring_t q) (by repeat (first | exact Cut.nil | (apply Cut.cons; (repeat (first | exact Pick.here | apply Pick.there))))) fun wx H => ?_
  refine ⟨_, _, rfl, ?_⟩
  refine call_p H (pl_t (rmay_plain q.s 32 at')) (by repeat (first | exact Cut.nil | (apply Cut.cons; (repeat (first | exact Pick.here | apply Pick.there))))) fun wx H => ?_
  refine ⟨_, rfl, ?_⟩
  unfold setQ
  cases mayB q.s 32 at'
  · exact cnd_i (fun _ => ⟨_, ⟨rfl, rfl⟩, H⟩) (fun h => by cases h)
  · refine cnd_i (fun h => by cases h) fun _ => ?_
    refine st1_o H (by repeat (first | exact Rep.here | apply Rep.there)) (by simp) fun wx H => ?_
    exact ⟨_, ⟨rfl, rfl⟩, H⟩
end Go.Proofs.Ytggchklafbpgpaa
/-
  queue: going through the commands that wait; filling.
-/
namespace Go.Proofs.Ytggchklafbpgpaa
open Go Go.RowKit X
set_option maxRecDepth 100000
set_option linter.unusedVariables false
set_option linter.unusedSimpArgs false
set_option maxHeartbeats 1000000
theorem Own.back {w w0 : World} {S0 : Nat → Prop} {L L' : List It} {i : It} (H : X.Own w0 S0 (i :: L') w) (hp : Pick L i L') : X.Own w0 S0 L w := let ⟨S, h1, h2⟩ := H; ⟨S, hp.iff.2 h1, h2⟩
theorem Pick.left {i : It} {L L' : List It} (h : Pick L i L') (R : List It) : Pick (L ++ R) i (L' ++ R) := by
  induction h with
  | here => exact .here
  | there _ ih => exact .there ih
def nth (s r : Int) : Nat → Int
  | 0 => r
  | k + 1 => Int.tmod (W (nth s r k + 32)) s
def Qu.cnt (q : Qu) : Nat := q.left.toNat
/-! ### the ring's places -/
def ringE (g0 g1 g2 : Nat) (s r w : Int) : List It := [row g0 [.int .i64 s, .int .i64 32] tRing, row g1 [.int .i64 r] tInt, row g2 [.int .i64 w] tInt]
def ringEV (g0 g1 g2 : Nat) : Value := .func (.func F.ring_Ring_Each_1) [].toArray [ptr g0, ptr g1, ptr g2].toArray
theorem ringEach_t (s r w' : Int) : Tri P F.ring_Ring_Each [ringV s 32, .int .i64 r, .int .i64 w'] [] fun v L' => ∃ g0 g1 g2, v = ringEV g0 g1 g2 ∧ L' = ringE g0 g1 g2 s r w' := by
  intro w S hS
  refine ring_Ring_Each_cv ?_
  unfold ring_Ring_Each
  have H := Own.start hS
  refine alc_o H fun b5 wx H => alc_o H fun b7 wx H => alc_o H fun b9 wx H => ?_
  exact ⟨_, ⟨b5, b7, b9, rfl, rfl⟩, H.perm (L1 := ringE b5 b7 b9 s r w') (F := []) (by unfold ringE; exact (by repeat (first | exact Cut.nil | (apply Cut.cons; (repeat (first | exact Pick.here | apply Pick.there))))))⟩
def placesL (q : Qu) : List (List Value) := (List.range q.cnt).map fun k => [.int .i64 (nth q.s q.r k)]
theorem places_len (q : Qu) : ∀ x ∈ placesL q, x.length = 1 := by
  intro x hx
  obtain ⟨k, _, rfl⟩ := List.mem_map.1 hx
  rfl
theorem places_at {q : Qu} {k : Nat} {x : List Value} (h : (placesL q)[k]? = some x) : k < q.cnt ∧ x = [.int .i64 (nth q.s q.r k)] := by
  unfold placesL at h
  rw [List.getElem?_map] at h
  cases hu : (List.range q.cnt)[k]? with
  | none => rw [hu] at h; cases h
  | some u =>
    rw [hu] at h
    obtain ⟨h1, h2⟩ := List.getElem?_eq_some_iff.1 hu
    rw [List.getElem_range] at h2
    rw [List.length_range] at h1
    subst h2
    exact ⟨h1, by cases h; rfl⟩
theorem left_facts (q : Qu) : q.left ≤ 9223372036854775807 ∧ -9223372036854775808 ≤ q.left ∧ (0 < q.left → q.s ≠ 0) := by
  unfold Qu.left Qu.both
  split
  · rename_i h
    have hb := right_pos (may_right (by simp only [Bool.and_eq_true] at h; exact h.1))
    exact ⟨(W_range _).2, (W_range _).1, fun _ => by omega⟩
  · omega
theorem ring_it (g0 g1 g2 : Nat) (q : Qu) : Iter P F.ring_Ring_Each_1 [ptr g0, ptr g1, ptr g2] (ringE g0 g1 g2 q.s q.r q.w) (placesL q) := by
  intro y w0 S0 L0 w Q I D hy H h0 hstep hend hstop
  obtain ⟨fn, fa, fc, rfl⟩ := hy
  refine ring_Ring_Each_1_cv ?_
  unfold ring_Ring_Each_1
  have H := own_comm H
  unfold ringE at H
  simp only [List.cons_append, List.nil_append] at H
  rw [add_lit]
  refine ldI_o H .here rfl (ldI_o H .here rfl (ldI_o H (.there .here) rfl (ldI_o H (.there (.there .here)) rfl ?_)))
  refine call_p H (pl_t (left_plain q.s 32 q.r q.w)) .nil fun wx H => ?_
  have hlen : (placesL q).length = q.cnt := by simp [placesL]
  have e : ∃ e, (if (mayB q.s 32 q.r && mayB q.s 32 q.w) = true then tupV (leftV q.s 32 q.r q.w) 0 else tupV 0 1) = .tuple [.int .i64 q.left, .int .i64 e].toArray := by
    unfold Qu.left Qu.both
    split <;> exact ⟨_, rfl⟩
  obtain ⟨e, he⟩ := e
  rw [he]
  obtain ⟨hf1, hf2, hf3⟩ := left_facts q
  refine ⟨_, _, rfl, ldI_o H (.there .here) rfl ?_⟩
  refine loop_o (fun (st : Int × Int) L' => ∃ (k : Nat) (L : List It), k ≤ q.cnt ∧ st = (q.left - k, nth q.s q.r k) ∧ I k L ∧ L' = ringE g0 g1 g2 q.s q.r q.w ++ L) (fun (st : Int × Int) => st.1.toNat) H
    ⟨0, L0, by omega, by simp [nth], h0, rfl⟩ ?_
  rintro _ _ wx ⟨k, L, hk, rfl, hI, rfl⟩ H
  unfold ring_Ring_Each_1_l0
  refine cnd_i (fun h => ?_) fun h => ?_
  · have h := of_decide_eq_true h
    dsimp only at h
    have hkM : k < q.cnt := by unfold Qu.cnt; omega
    have hx : (placesL q)[k]? = some [.int .i64 (nth q.s q.r k)] := by simp [placesL, hkM]
    have H' : X.Own w0 S0 (L ++ (ringE g0 g1 g2 q.s q.r q.w ++ [])) wx := by rw [List.append_nil]; exact own_comm H
    refine callVal_mono (hstep k _ L [] wx hx hI H') ?_
    rintro _ w' ⟨bo, rfl, L', hL', H'⟩
    rw [List.append_nil] at H'
    refine ⟨_, rfl, ?_⟩
    cases bo
    · exact cnd_i (fun _ => hstop _ _ hL' H') (fun h => by cases h)
    · refine cnd_i (fun h => by cases h) fun _ => ?_
      have H' := own_comm H'
      have H2 := H'
      unfold ringE at H'
      simp only [List.cons_append, List.nil_append] at H'
      rw [add_lit]
      refine ldI_o H' .here rfl (ldI_o H' .here rfl ⟨hf3 (by omega), ?_⟩)
      have e1 : IntKind.i64.wrap (q.left - (k : Int) - 1) = q.left - ((k + 1 : Nat) : Int) := by rw [W_id (by omega) (by omega)]; omega
      dsimp only
      rw [e1]
      exact ⟨⟨_, ⟨k + 1, L', by omega, rfl, by simpa using hL', rfl⟩, H2⟩, by show (q.left - ((k + 1 : Nat) : Int)).toNat < (q.left - (k : Int)).toNat; omega⟩
  · have h := of_decide_eq_false h
    dsimp only at h
    have : k = q.cnt := by unfold Qu.cnt at *; omega
    subst this
    exact hend _ _ (by rw [hlen]; exact hI) (own_comm H)
theorem ring_enters : enters P F.ring_Ring_Each_1 = true := by kernel_rfl
/-! ### the queue's commands -/
def eachE (g h m : Nat) (q : Qu) (bs : List Int) : List It := [row g q.cells tQ, row h [ptr m] tPm, memI m bs]
def eachQV (g h : Nat) : Value := .func (.func F.queue_Queue_Each_1) [].toArray [ptr g, ptr h].toArray
theorem Each_t (m : Nat) (q : Qu) (bs : List Int) : Tri P F.queue_Queue_Each [quV q, ptr m] [memI m bs] fun v L' => ∃ g h, v = eachQV g h ∧ L' = eachE g h m q bs := by
  intro w S hS
  refine queue_Queue_Each_cv ?_
  unfold queue_Queue_Each
  have H := Own.start hS
  refine alc_o H fun b6 wx H => alc_o H fun b8 wx H => ?_
  exact ⟨_, ⟨b6, b8, rfl, rfl⟩, H.perm (L1 := eachE b6 b8 m q bs) (F := []) (by unfold eachE; exact (by repeat (first | exact Cut.nil | (apply Cut.cons; (repeat (first | exact Pick.here | apply Pick.there))))))⟩
def comsL (q : Qu) (bs : List Int) : List (List Value) := (List.range q.cnt).map fun k => [cmV (loadM bs q.a q.s (nth q.s q.r k)).1, .int .i64 (loadM bs q.a q.s (nth q.s q.r k)).2]
theorem coms_len (q : Qu) (bs : List Int) : ∀ x ∈ comsL q bs, x.length = 2 := by
  intro x hx
  obtain ⟨k, _, rfl⟩ := List.mem_map.1 hx
  rfl
theorem coms_at {q : Qu} {bs : List Int} {k : Nat} {x : List Value} (h : (comsL q bs)[k]? = some x) : k < q.cnt ∧ x = [cmV (loadM bs q.a q.s (nth q.s q.r k)).1, .int .i64 (loadM bs q.a q.s (nth q.s q.r k)).2] := by
  unfold comsL at h
  rw [List.getElem?_map] at h
  cases hu : (List.range q.cnt)[k]? with
  | none => rw [hu] at h; cases h
  | some u =>
    rw [hu] at h
    obtain ⟨h1, h2⟩ := List.getElem?_eq_some_iff.1 hu
    rw [List.getElem_range] at h2
    rw [List.length_range] at h1
    subst h2
    exact ⟨h1, by cases h; rfl⟩
theorem each_it (g h m : Nat) (q : Qu) (bs : List Int) : Iter P F.queue_Queue_Each_1 [ptr g, ptr h] (eachE g h m q bs) (comsL q bs) := by
  intro y w0 S0 L0 w Q I D hy H h0 hstep hend hstop
  obtain ⟨fn, fa, fc, rfl⟩ := hy
  refine queue_Queue_Each_1_cv ?_
  unfold queue_Queue_Each_1
  dsimp only [oneK]
  refine alc_o H fun b4 wx H => ?_
  refine drw_o H fun wx H => ?_
  have hp : Pick (row b4 [.func fn fa fc] tFn2 :: (L0 ++ eachE g h m q bs)) (row g q.cells tQ) (row b4 [.func fn fa fc] tFn2 :: (L0 ++ [row h [ptr m] tPm, memI m bs])) := .there (pick_right (F := eachE g h m q bs) .here L0)
  simp only [add_lit]
  refine ldI_o H hp rfl (ldI_o H hp rfl (ldI_o H hp rfl (ldI_o H hp rfl (ldI_o H hp rfl (ldI_o H hp rfl ?_)))))
  refine call_p H (ring_t q) .nil fun wx H => ?_
  refine ⟨_, _, rfl, ldI_o H hp rfl rfl, ldI_o H hp rfl rfl, ?_⟩
  refine call_o H (ringEach_t q.s q.r q.w) .nil fun vx L' wx hq H => ?_
  obtain ⟨g0, g1, g2, rfl, rfl⟩ := hq
  refine ⟨_, rfl, ?_⟩
  have hlen : (comsL q bs).length = (placesL q).length := by simp [placesL, comsL]
  have H := own_comm H
  refine rf_o (L0 := row b4 [.func fn fa fc] tFn2 :: (L0 ++ eachE g h m q bs)) (fun k Li => ∃ L, I k L ∧ Li = row b4 [.func fn fa fc] tFn2 :: (L ++ eachE g h m q bs)) (fun c Li => c = .ret ∧ ∃ L, D L ∧ Li = row b4 [.func fn fa fc] tFn2 :: (L ++ eachE g h m q bs))
    ring_enters (ring_it g0 g1 g2 q) (places_len q) H ⟨L0, h0, rfl⟩ ?_ ?_ ?_
  · rintro k x _ F l r d wx Q2 hx ⟨L, hI, rfl⟩ H hgo hdone
    obtain ⟨hk, rfl⟩ := places_at hx
    unfold queue_Queue_Each_1_r0
    dsimp only [X.b1]
    refine ⟨_, rfl, rec_o H .here fun wx H => ?_⟩
    refine drw_o H fun wx H => ?_
    have eq : ∀ (z : It) (L R : List It), z :: defI d :: ((row b4 [.func fn fa fc] tFn2 :: (L ++ eachE g h m q bs)) ++ R) = [z, defI d, row b4 [.func fn fa fc] tFn2] ++ (L ++ (eachE g h m q bs ++ R)) := by intro z L R; simp
    rw [eq] at H
    have pk : ∀ (i : It) (F' : List It), Pick (eachE g h m q bs) i F' → Pick ([recI l r .busy none, defI d, row b4 [.func fn fa fc] tFn2] ++ (L ++ (eachE g h m q bs ++ (ringE g0 g1 g2 q.s q.r q.w ++ F)))) i ([recI l r .busy none, defI d, row b4 [.func fn fa fc] tFn2] ++ (L ++ (F' ++ (ringE g0 g1 g2 q.s q.r q.w ++ F)))) :=
      fun i F' hp => .there (.there (.there (pick_right (Pick.left hp _) L)))
    refine ldV_o H (.there (.there .here)) rfl ?_
    refine ldP_o H (pk _ _ (.there .here)) rfl (ldI_o H (pk _ _ .here) rfl (ldI_o H (pk _ _ .here) rfl ?_))
    refine call_p H (Load_t m bs q.a q.s (nth q.s q.r k)) (.cons (pk _ _ (.there (.there .here))) .nil) fun wx H => ?_
    have hx2 : (comsL q bs)[k]? = some [cmV (loadM bs q.a q.s (nth q.s q.r k)).1, .int .i64 (loadM bs q.a q.s (nth q.s q.r k)).2] := by simp [comsL, hk]
    unfold loadV
    generalize loadM bs q.a q.s (nth q.s q.r k) = z at hx2 ⊢
    refine ⟨_, _, _, _, _, _, _, _, _, _, rfl, ldV_o H (.there (.there .here)) rfl rfl, ?_⟩
    refine yield_o (A := [recI l r .busy none, defI d, row b4 [.func fn fa fc] tFn2]) hstep H hx2 hI fun bo L' wx hL' H => ⟨bo, rfl, ?_⟩
    rw [← eq] at H
    cases bo
    · exact cnd_i (fun _ => rec_o H .here fun wx H => hdone .ret _ wx ⟨rfl, L', by simpa using hL', rfl⟩ H) (fun h => by cases h)
    · exact cnd_i (fun h => by cases h) fun _ => rec_o H .here fun wx H => hgo _ wx ⟨L', by simpa using hL', rfl⟩ H
  · rintro d _ wx ⟨L, hI, rfl⟩ H
    dsimp only [jmpX]
    refine take_o H .here fun wx H => hend L wx ?_ ?_
    · rw [hlen]; exact hI
    · rw [List.cons_append] at H
      have := H.rest (L1 := [row b4 [.func fn fa fc] tFn2]) (.cons .here .nil)
      exact own_left this
  · rintro d _ _ wx ⟨rfl, L, hD, rfl⟩ H
    dsimp only [jmpX]
    refine take_o H .here fun wx H => hstop L wx hD ?_
    rw [List.cons_append] at H
    have := H.rest (L1 := [row b4 [.func fn fa fc] tFn2]) (.cons .here .nil)
    exact own_left this
theorem each_enters : enters P F.queue_Queue_Each_1 = true := by kernel_rfl
end Go.Proofs.Ytggchklafbpgpaa
/-
  queue: how many of those that wait are none; filling.
-/
namespace Go.Proofs.Ytggchklafbpgpaa
open Go Go.RowKit X
set_option maxRecDepth 100000
set_option linter.unusedVariables false
set_option linter.unusedSimpArgs false
set_option maxHeartbeats 1000000
def wrongN (q : Qu) (bs : List Int) (n : Nat) : Nat := ((List.range n).filter fun k => (loadM bs q.a q.s (nth q.s q.r k)).2 != 0).length
theorem wrongN_le (q : Qu) (bs : List Int) (n : Nat) : wrongN q bs n ≤ n := by
  have := List.length_filter_le (fun k => (loadM bs q.a q.s (nth q.s q.r k)).2 != 0) (List.range n)
  rw [List.length_range] at this; exact this
theorem wrongN_next (q : Qu) (bs : List Int) (n : Nat) : wrongN q bs (n + 1) = wrongN q bs n + (if (loadM bs q.a q.s (nth q.s q.r n)).2 != 0 then 1 else 0) := by
  unfold wrongN
  rw [List.range_succ, List.filter_append, List.length_append]
  congr 1
  cases e : (loadM bs q.a q.s (nth q.s q.r n)).2 != 0 <;> simp [e]
theorem Wrong_t (m : Nat) (q : Qu) (bs : List Int) : Tri P F.queue_Queue_Wrong [quV q, ptr m] [memI m bs] fun v L' => v = .int .i64 (wrongN q bs q.cnt : Nat) ∧ L' = [memI m bs] := by
  intro w S hS
  refine queue_Queue_Wrong_cv ?_
  unfold queue_Queue_Wrong
  have H := Own.start hS
  refine alc_o H fun b6 wx H => alc_o H fun b8 wx H => ?_
  refine st1_o H (by repeat (first | exact Rep.here | apply Rep.there)) (by simp) fun wx H => ?_
  repeat (first | refine ldI_o H (by repeat (first | exact Pick.here | apply Pick.there)) (by rfl) ?_ | refine ldL_o H (by repeat (first | exact Pick.here | apply Pick.there)) (by rfl) ?_ | refine ldB_o H (by repeat (first | exact Pick.here | apply Pick.there)) (by rfl) ?_ | refine ldP_o H (by repeat (first | exact Pick.here | apply Pick.there)) (by rfl) ?_ | refine ldS_o H (by repeat (first | exact Pick.here | apply Pick.there)) (by rfl) ?_)
  refine call_o H (Each_t m q bs) (by repeat (first | exact Cut.nil | (apply Cut.cons; (repeat (first | exact Pick.here | apply Pick.there))))) fun vx L' wx hq H => ?_
  obtain ⟨g, h, rfl, rfl⟩ := hq
  refine ⟨_, rfl, ?_⟩
  have H := H.perm (L1 := [row b8 [.int .i64 0] tInt, row b6 q.cells tQ] ++ eachE g h m q bs) (F := []) (by unfold eachE Qu.cells; exact (by repeat (first | exact Cut.nil | (apply Cut.cons; (repeat (first | exact Pick.here | apply Pick.there))))))
  rw [List.append_nil] at H
  have hlen : (comsL q bs).length = q.cnt := by simp [comsL]
  have hcnt : (q.cnt : Int) ≤ 9223372036854775807 := by have := (left_facts q).1; unfold Qu.cnt; omega
  refine rf_o (fun k Li => Li = [row b8 [.int .i64 (wrongN q bs k : Nat)] tInt, row b6 q.cells tQ]) (fun _ _ => False) each_enters (each_it g h m q bs) (coms_len q bs) H rfl ?_ ?_ ?_
  · rintro k x _ F l r d wx Q2 hx rfl H hgo hdone
    obtain ⟨hk, rfl⟩ := coms_at hx
    unfold queue_Queue_Wrong_r1
    dsimp only [X.b2]
    refine ⟨_, rfl, rec_o H .here fun wx H => join_o ?_⟩
    unfold queue_Queue_Wrong_j0
    have hn := wrongN_next q bs k
    have hle := wrongN_le q bs k
    refine cnd_i (fun hb => ?_) fun hb => ?_
    · rw [hb, if_pos rfl] at hn
      refine ldI_o H (.there (.there .here)) rfl ?_
      refine st1_o H (.there (.there .here)) (by simp) fun wx H => ?_
      rw [W_id (by omega) (by omega)] at H
      refine rec_o H .here fun wx H => hgo [row b8 [.int .i64 (wrongN q bs (k + 1) : Nat)] tInt, row b6 q.cells tQ] wx rfl ?_
      rw [hn]
      push_cast
      exact H
    · rw [hb, if_neg (by decide)] at hn
      exact rec_o H .here fun wx H => hgo _ wx (by rw [hn]; rfl) H
  · rintro d _ wx rfl H
    dsimp only [jmpX]
    rw [hlen] at H
    refine ldI_o H (.there .here) rfl ?_
    refine take_o H .here fun wx H => ?_
    exact ⟨_, ⟨rfl, rfl⟩, H.drop (by unfold eachE; exact (by repeat (first | exact Cut.nil | (apply Cut.cons; (repeat (first | exact Pick.here | apply Pick.there))))))⟩
  · rintro d c L wx h H
    exact h.elim
/-- commands put, as long as it goes: the queue, the memory, how many, why it stopped -/
def fillQ : List Cm → Qu → List Int → Qu × List Int × Nat × Int
  | [], q, bs => (q, bs, 0, 0)
  | c :: cs, q, bs => if (putQ q bs c).2.2 ≠ 0 then ((putQ q bs c).1, (putQ q bs c).2.1, 0, (putQ q bs c).2.2) else
      let r := fillQ cs (putQ q bs c).1 (putQ q bs c).2.1
      (r.1, r.2.1, r.2.2.1 + 1, r.2.2.2)
/-- the queue and the memory, when the first of them were put -/
def fillS (cs : List Cm) (q : Qu) (bs : List Int) : Nat → Qu × List Int
  | 0 => (q, bs)
  | k + 1 => match cs[k]? with
    | some c => ((putQ (fillS cs q bs k).1 (fillS cs q bs k).2 c).1, (putQ (fillS cs q bs k).1 (fillS cs q bs k).2 c).2.1)
    | none => fillS cs q bs k
theorem fillS_cons (c : Cm) (cs : List Cm) (q : Qu) (bs : List Int) : ∀ k, fillS (c :: cs) q bs (k + 1) = fillS cs (putQ q bs c).1 (putQ q bs c).2.1 k
  | 0 => rfl
  | k + 1 => by
    rw [fillS]
    rw [fillS_cons c cs q bs k]
    rfl
theorem fillQ_stop : ∀ {cs : List Cm} {q : Qu} {bs : List Int} {k : Nat} {c : Cm}, cs[k]? = some c → (∀ j c', j < k → cs[j]? = some c' → (putQ (fillS cs q bs j).1 (fillS cs q bs j).2 c').2.2 = 0) → (putQ (fillS cs q bs k).1 (fillS cs q bs k).2 c).2.2 ≠ 0 →
    fillQ cs q bs = ((putQ (fillS cs q bs k).1 (fillS cs q bs k).2 c).1, (putQ (fillS cs q bs k).1 (fillS cs q bs k).2 c).2.1, k, (putQ (fillS cs q bs k).1 (fillS cs q bs k).2 c).2.2)
  | c0 :: cs, q, bs, 0, c, h, _, hb => by
    cases h
    have hb : (putQ q bs c0).2.2 ≠ 0 := hb
    unfold fillQ
    rw [if_pos hb]; rfl
  | c0 :: cs, q, bs, k + 1, c, h, hg, hb => by
    have h0 := hg 0 c0 (by omega) rfl
    unfold fillQ
    rw [if_neg (by rw [Classical.not_not]; exact h0)]
    rw [fillS_cons] at hb ⊢
    have := fillQ_stop (cs := cs) (q := (putQ q bs c0).1) (bs := (putQ q bs c0).2.1) (k := k) (c := c) h (fun j c' hj hc => by
      have := hg (j + 1) c' (by omega) hc
      rw [fillS_cons] at this; exact this) hb
    rw [this]
  | [], _, _, k, c, h, _, _ => by simp at h
theorem fillQ_all : ∀ {cs : List Cm} {q : Qu} {bs : List Int}, (∀ j c', cs[j]? = some c' → (putQ (fillS cs q bs j).1 (fillS cs q bs j).2 c').2.2 = 0) → fillQ cs q bs = ((fillS cs q bs cs.length).1, (fillS cs q bs cs.length).2, cs.length, 0)
  | [], _, _, _ => rfl
  | c0 :: cs, q, bs, hg => by
    have h0 := hg 0 c0 rfl
    unfold fillQ
    rw [if_neg (by rw [Classical.not_not]; exact h0), List.length_cons, fillS_cons]
    rw [fillQ_all (cs := cs) (q := (putQ q bs c0).1) (bs := (putQ q bs c0).2.1) fun j c' hc => by
      have := hg (j + 1) c' hc
      rw [fillS_cons] at this; exact this]
theorem Fill_t (b m : Nat) (q : Qu) (bs : List Int) (i : It) {p : Option Addr} {cc : Nat} {cs : List Cm} (hi : ∀ w S, i.h w S → Slots w p 9 (cs.map Cm.cells)) (hl : cs.length ≤ 9223372036854775807) :
    Tri P F.queue_Queue_Fill [ptr b, ptr m, .slice p cs.length cc] [row b q.cells tQ, memI m bs, i] fun v L' => v = .tuple [.int .i64 ((fillQ cs q bs).2.2.1 : Nat), .int .i64 (fillQ cs q bs).2.2.2].toArray ∧ L' = [row b (fillQ cs q bs).1.cells tQ, memI m (fillQ cs q bs).2.1, i] := by
  intro w S hS
  refine queue_Queue_Fill_cv ?_
  unfold queue_Queue_Fill
  have H := Own.start hS
  refine loop_o (fun (st : Int) L => ∃ k : Nat, k ≤ cs.length ∧ (∀ j c', j < k → cs[j]? = some c' → (putQ (fillS cs q bs j).1 (fillS cs q bs j).2 c').2.2 = 0) ∧ st = k ∧ L = [row b (fillS cs q bs k).1.cells tQ, memI m (fillS cs q bs k).2, i])
    (fun (st : Int) => ((cs.length : Int) - st).toNat) H ⟨0, by omega, fun _ _ h => absurd h (by omega), rfl, rfl⟩ ?_
  rintro _ _ wx ⟨k, hk, hg, rfl, rfl⟩ H
  unfold queue_Queue_Fill_l0
  refine cnd_i (fun hc => ?_) fun hc => ?_
  · have hc := of_decide_eq_true hc
    have hlt : k < cs.length := by omega
    obtain ⟨c, hck⟩ : ∃ c, cs[k]? = some c := ⟨_, List.getElem?_eq_getElem hlt⟩
    refine ix_i hlt ?_
    obtain ⟨a1, rfl, e0, ee⟩ := slot_cells (Own.rdS H (i := i) (by repeat (first | exact Pick.here | apply Pick.there)) hi) hck
    dsimp only [nn]
    refine ⟨_, e0 _ rfl, ⟨_, ee 1 _ rfl, ⟨_, ee 2 _ rfl, ⟨_, ee 3 _ rfl, ⟨_, ee 4 _ rfl, ⟨_, ee 5 _ rfl, ⟨_, ee 6 _ rfl, ⟨_, ee 7 _ rfl, ⟨_, ee 8 _ rfl, ?_⟩⟩⟩⟩⟩⟩⟩⟩⟩
    refine alc_o H fun b21 wx H => ?_
    refine st1_o H (by repeat (first | exact Rep.here | apply Rep.there)) (by simp) fun wx H => ?_
    refine st1_o H (by repeat (first | exact Rep.here | apply Rep.there)) (by simp) fun wx H => ?_
    refine st1_o H (by repeat (first | exact Rep.here | apply Rep.there)) (by simp) fun wx H => ?_
    refine st1_o H (by repeat (first | exact Rep.here | apply Rep.there)) (by simp) fun wx H => ?_
    refine st1_o H (by repeat (first | exact Rep.here | apply Rep.there)) (by simp) fun wx H => ?_
    refine st1_o H (by repeat (first | exact Rep.here | apply Rep.there)) (by simp) fun wx H => ?_
    refine st1_o H (by repeat (first | exact Rep.here | apply Rep.there)) (by simp) fun wx H => ?_
    refine st1_o H (by repeat (first | exact Rep.here | apply Rep.there)) (by simp) fun wx H => ?_
    refine st1_o H (by repeat (first | exact Rep.here | apply Rep.there)) (by simp) fun wx H => ?_
    repeat (first | refine ldI_o H (by repeat (first | exact Pick.here | apply Pick.there)) (by rfl) ?_ | refine ldL_o H (by repeat (first | exact Pick.here | apply Pick.there)) (by rfl) ?_ | refine ldB_o H (by repeat (first | exact Pick.here | apply Pick.there)) (by rfl) ?_ | refine ldP_o H (by repeat (first | exact Pick.here | apply Pick.there)) (by rfl) ?_ | refine ldS_o H (by repeat (first | exact Pick.here | apply Pick.there)) (by rfl) ?_)
    refine call_o H (Put_t b m (fillS cs q bs k).1 (fillS cs q bs k).2 c) (by repeat (first | exact Cut.nil | (apply Cut.cons; (repeat (first | exact Pick.here | apply Pick.there))))) fun vx L' wx hq H => ?_
    obtain ⟨rfl, rfl⟩ := hq
    simp only [List.cons_append, List.nil_append] at H
    refine ⟨_, rfl, cnd_i (fun h => ?_) fun h => ?_⟩
    · rw [fillQ_stop hck hg (by simpa using h)]
      exact ⟨_, ⟨rfl, rfl⟩, H.drop (by repeat (first | exact Cut.nil | (apply Cut.cons; (repeat (first | exact Pick.here | apply Pick.there)))))⟩
    · have h : (putQ (fillS cs q bs k).1 (fillS cs q bs k).2 c).2.2 = 0 := by simpa using h
      have e1 : IntKind.i64.wrap ((k : Int) + 1) = ((k + 1 : Nat) : Int) := by rw [W_id (by omega) (by omega)]; push_cast; rfl
      rw [e1]
      refine ⟨⟨[row b (fillS cs q bs (k + 1)).1.cells tQ, memI m (fillS cs q bs (k + 1)).2, i], ⟨k + 1, by omega, ?_, rfl, rfl⟩, ?_⟩, by omega⟩
      · intro j c' hj hc'
        by_cases e : j = k
        · subst e; rw [hck] at hc'; cases hc'; exact h
        · exact hg j c' (by omega) hc'
      · have e2 : fillS cs q bs (k + 1) = ((putQ (fillS cs q bs k).1 (fillS cs q bs k).2 c).1, (putQ (fillS cs q bs k).1 (fillS cs q bs k).2 c).2.1) := by rw [fillS, hck]
        rw [e2]
        exact H.drop (by repeat (first | exact Cut.nil | (apply Cut.cons; (repeat (first | exact Pick.here | apply Pick.there)))))
  · have hc := of_decide_eq_false hc
    have : k = cs.length := by omega
    subst this
    rw [fillQ_all fun j c' hc' => hg j c' (List.getElem?_eq_some_iff.1 hc').1 hc']
    exact ⟨_, ⟨rfl, rfl⟩, H⟩
end Go.Proofs.Ytggchklafbpgpaa
/-
  queue: the plain law: what a new queue's commands are, as they are put and taken.
-/
namespace Go.Proofs.Ytggchklafbpgpaa
open Go Go.RowKit X
set_option maxRecDepth 100000
set_option linter.unusedVariables false
set_option linter.unusedSimpArgs false
theorem right_n {N : Nat} (h : 1 ≤ N) (h2 : N ≤ 1024) : rightB (32 * (N : Int)) 32 = true := by
  unfold rightB
  have e1 : Int.tmod (32 * (N : Int)) 32 = 0 := by rw [Int.tmod_eq_emod_of_nonneg (by omega)]; omega
  have e2 : W (Int.tdiv (32 * (N : Int)) 32) = N := by
    rw [Int.tdiv_eq_ediv_of_nonneg (by omega), show 32 * (N : Int) / 32 = N by omega]
    exact W_id (by omega) (by omega)
  rw [e1, e2]
  simp
  omega
theorem may_n {N i : Nat} (h2 : N ≤ 1024) (hi : i < N) : mayB (32 * (N : Int)) 32 (32 * (i : Int)) = true := by
  unfold mayB
  rw [right_n (by omega) h2]
  have e1 : Int.tmod (32 * (i : Int)) 32 = 0 := by rw [Int.tmod_eq_emod_of_nonneg (by omega)]; omega
  rw [e1]
  simp
  omega
theorem left_n {N i j n : Nat} (h2 : N ≤ 1024) (hi : i < N) (hn : n < N) (hj : j = (i + n) % N) : leftV (32 * (N : Int)) 32 (32 * (i : Int)) (32 * (j : Int)) = n := by
  have hjN : j < N := by rw [hj]; exact Nat.mod_lt _ (by omega)
  have hc : (i + n < N ∧ j = i + n) ∨ (N ≤ i + n ∧ j = i + n - N) := by
    by_cases e : i + n < N
    · exact .inl ⟨e, by rw [hj, Nat.mod_eq_of_lt e]⟩
    · exact .inr ⟨by omega, by rw [hj, Nat.mod_eq_sub_mod (by omega), Nat.mod_eq_of_lt (by omega)]⟩
  unfold leftV W
  rw [W_id (n := 32 * (j : Int) - 32 * (i : Int)) (by omega) (by omega), W_id (n := _ + 32 * (N : Int)) (by omega) (by omega), Int.tmod_eq_emod_of_nonneg (by omega)]
  have e : (32 * (j : Int) - 32 * (i : Int) + 32 * (N : Int)) % (32 * (N : Int)) = 32 * (n : Int) := by
    rcases hc with ⟨h, e⟩ | ⟨h, e⟩
    · rw [show 32 * (j : Int) - 32 * (i : Int) + 32 * (N : Int) = 32 * (n : Int) + 32 * (N : Int) by omega, Int.add_emod_right, Int.emod_eq_of_lt (by omega) (by omega)]
    · rw [show 32 * (j : Int) - 32 * (i : Int) + 32 * (N : Int) = 32 * (n : Int) by omega, Int.emod_eq_of_lt (by omega) (by omega)]
  rw [e, Int.tdiv_eq_ediv_of_nonneg (by omega), show 32 * (n : Int) / 32 = n by omega, W_id (by omega) (by omega)]
theorem next_n {N i : Nat} (h2 : N ≤ 1024) (hi : i < N) : Int.tmod (W (32 * (i : Int) + 32)) (32 * (N : Int)) = 32 * (((i + 1) % N : Nat) : Int) := by
  unfold W
  rw [W_id (by omega) (by omega), Int.tmod_eq_emod_of_nonneg (by omega)]
  by_cases e : i + 1 < N
  · rw [Nat.mod_eq_of_lt e, Int.emod_eq_of_lt (by omega) (by omega)]; omega
  · have : i + 1 = N := by omega
    rw [this, Nat.mod_self, show 32 * (i : Int) + 32 = 32 * (N : Int) by omega, Int.emod_self]; rfl
theorem nextQ_n {N i : Nat} (h2 : N ≤ 1024) (hi : i < N) : nextQ (32 * (N : Int)) (32 * (i : Int)) = 32 * (((i + 1) % N : Nat) : Int) := by
  unfold nextQ
  rw [may_n h2 hi, if_pos rfl, next_n h2 hi]
theorem nth_n {N i : Nat} (h2 : N ≤ 1024) (hi : i < N) : ∀ k : Nat, nth (32 * (N : Int)) (32 * (i : Int)) k = 32 * (((i + k) % N : Nat) : Int)
  | 0 => by rw [nth, Nat.add_zero, Nat.mod_eq_of_lt hi]
  | k + 1 => by
    rw [nth, nth_n h2 hi k, next_n h2 (Nat.mod_lt _ (by omega)), Nat.mod_add_mod]; rfl
/-- a queue of N entries at A of a memory of T bytes, of which some commands wait, from entry i on -/
structure FQ (A : Int) (T : Nat) (N i : Nat) (q : Qu) (bs : List Int) (cs : List Cm) : Prop where
  n1 : N ≤ 1024
  ra : 0 ≤ A ∧ A + 32 * (N : Int) ≤ T ∧ T ≤ 131072
  hi : i < N
  hn : cs.length < N
  qe : q = ⟨A, 32 * (N : Int), 32 * (i : Int), 32 * (((i + cs.length) % N : Nat) : Int)⟩
  len : bs.length = T
  at_ : ∀ k c, cs[k]? = some c → loadM bs A (32 * (N : Int)) (32 * (((i + k) % N : Nat) : Int)) = (c, 0)
theorem FQ.both {A : Int} {T N i : Nat} {q : Qu} {bs : List Int} {cs : List Cm} (h : FQ A T N i q bs cs) : q.both = true := by
  have := h.n1
  unfold Qu.both
  rw [h.qe]
  dsimp only
  rw [may_n (by omega) h.hi, may_n (by omega) (Nat.mod_lt _ (by have := h.hi; omega))]
  rfl
theorem FQ.left {A : Int} {T N i : Nat} {q : Qu} {bs : List Int} {cs : List Cm} (h : FQ A T N i q bs cs) : q.left = cs.length := by
  have := h.n1
  unfold Qu.left
  rw [h.both, if_pos rfl, h.qe]
  exact left_n (by omega) h.hi h.hn rfl
theorem FQ.room {A : Int} {T N i : Nat} {q : Qu} {bs : List Int} {cs : List Cm} (h : FQ A T N i q bs cs) : q.room = (N : Int) - 1 - cs.length := by
  have := h.n1
  have := h.hn
  unfold Qu.room
  rw [h.both, if_pos rfl, h.qe]
  unfold roomV
  dsimp only
  rw [left_n (by omega) h.hi h.hn rfl, Int.tdiv_eq_ediv_of_nonneg (by omega), show 32 * (N : Int) / 32 = N by omega]
  unfold W
  rw [W_id (n := (N : Int)) (by omega) (by omega), W_id (n := (N : Int) - 1) (by omega) (by omega), W_id (by omega) (by omega)]
theorem FQ.cnt {A : Int} {T N i : Nat} {q : Qu} {bs : List Int} {cs : List Cm} (h : FQ A T N i q bs cs) : q.cnt = cs.length := by
  unfold Qu.cnt
  rw [h.left]; rfl
theorem FQ.good {A : Int} {T N i : Nat} {q : Qu} {bs : List Int} {cs : List Cm} (h : FQ A T N i q bs cs) {j : Nat} (hj : j < N) : GoodP bs.length A (32 * (N : Int)) (32 * (j : Int)) := by
  have := h.n1
  have := h.ra
  rw [h.len]
  refine ⟨by omega, by omega, by omega, by omega, by omega, by omega⟩
theorem FQ.load {A : Int} {T N i : Nat} {q : Qu} {bs : List Int} {cs : List Cm} (h : FQ A T N i q bs cs) {k : Nat} {c : Cm} (hk : cs[k]? = some c) : loadM bs q.a q.s (nth q.s q.r k) = (c, 0) := by
  have := h.n1
  rw [h.qe]
  dsimp only
  rw [nth_n (by omega) h.hi]
  exact h.at_ k c hk
theorem FQ.head {A : Int} {T N i : Nat} {q : Qu} {bs : List Int} {c : Cm} {cs : List Cm} (h : FQ A T N i q bs (c :: cs)) : headQ q bs = (c, 0) := by
  unfold headQ
  rw [h.left, if_neg (by simp only [List.length_cons]; omega)]
  exact h.load (k := 0) rfl
theorem FQ.full {A : Int} {T N i : Nat} {q : Qu} {bs : List Int} {cs : List Cm} (h : FQ A T N i q bs cs) (hf : cs.length + 1 = N) (c : Cm) : putQ q bs c = (q, bs, 2) := by
  unfold putQ
  rw [h.room, if_pos (by omega)]
theorem FQ.refuse {A : Int} {T N i : Nat} {q : Qu} {bs : List Int} {cs : List Cm} (h : FQ A T N i q bs cs) (hf : cs.length + 1 < N) {c : Cm} (hc : encM c = none) : putQ q bs c = (q, bs, 160) := by
  unfold putQ
  have hg : GoodP bs.length q.a q.s q.w := by
    rw [h.qe]
    exact h.good (Nat.mod_lt _ (by have := h.hi; omega))
  rw [h.room, if_neg (by omega), storeE_good hg, storeM_none hc, hc]
  rfl
theorem FQ.put_eq {A : Int} {T N i : Nat} {q : Qu} {bs : List Int} {cs : List Cm} (h : FQ A T N i q bs cs) (hf : cs.length + 1 < N) {c : Cm} {ws : List Int} (hc : encM c = some ws) : putQ q bs c = ({ q with w := nextQ q.s q.w }, storeM bs q.a q.s q.w c, 0) := by
  have hi := h.hi
  have hg : GoodP bs.length q.a q.s q.w := by rw [h.qe]; exact h.good (Nat.mod_lt _ (by omega))
  unfold putQ
  rw [h.room, if_neg (by omega), storeE_good hg, hc]
  rfl
theorem FQ.put {A : Int} {T N i : Nat} {q : Qu} {bs : List Int} {cs : List Cm} (h : FQ A T N i q bs cs) (hf : cs.length + 1 < N) {c : Cm} {ws : List Int} (hc : encM c = some ws) : (putQ q bs c).2.2 = 0 ∧ FQ A T N i (putQ q bs c).1 (putQ q bs c).2.1 (cs ++ [c]) := by
  have hn1 := h.n1
  have hi := h.hi
  have hj : (i + cs.length) % N < N := Nat.mod_lt _ (by omega)
  have hg0 := h.good hj
  have e := h.put_eq hf hc
  rw [e]
  refine ⟨rfl, ?_⟩
  rw [h.qe]
  dsimp only
  refine ⟨hn1, h.ra, hi, by simp; omega, ?_, by rw [storeM_length]; exact h.len, ?_⟩
  · rw [nextQ_n (by omega) hj, List.length_append, List.length_singleton, Nat.mod_add_mod]; rfl
  · intro k c' hk
    by_cases hlt : k < cs.length
    · rw [List.getElem?_append_left hlt] at hk
      have hk2 : (i + k) % N < N := Nat.mod_lt _ (by omega)
      rw [load_store_ne c hg0 (h.good hk2) ?_]
      · exact h.at_ k c' hk
      · have hne : (i + k) % N ≠ (i + cs.length) % N := by
          intro he
          have := h.hn
          have c1 : (i + k) % N = i + k ∧ i + k < N ∨ (i + k) % N = i + k - N ∧ N ≤ i + k := by
            by_cases e : i + k < N
            · exact .inl ⟨Nat.mod_eq_of_lt e, e⟩
            · exact .inr ⟨by rw [Nat.mod_eq_sub_mod (by omega), Nat.mod_eq_of_lt (by omega)], by omega⟩
          have c2 : (i + cs.length) % N = i + cs.length ∧ i + cs.length < N ∨ (i + cs.length) % N = i + cs.length - N ∧ N ≤ i + cs.length := by
            by_cases e : i + cs.length < N
            · exact .inl ⟨Nat.mod_eq_of_lt e, e⟩
            · exact .inr ⟨by rw [Nat.mod_eq_sub_mod (by omega), Nat.mod_eq_of_lt (by omega)], by omega⟩
          omega
        omega
    · have hk3 : k < (cs ++ [c]).length := (List.getElem?_eq_some_iff.1 hk).1
      simp only [List.length_append, List.length_singleton] at hk3
      have hk4 : k = cs.length := by omega
      subst hk4
      rw [List.getElem?_append_right (by omega), Nat.sub_self] at hk
      cases hk
      exact load_store hg0 hc
theorem FQ.pass {A : Int} {T N i : Nat} {q : Qu} {bs : List Int} {c : Cm} {cs : List Cm} (h : FQ A T N i q bs (c :: cs)) : (passQ q).2 = 0 ∧ FQ A T N ((i + 1) % N) (passQ q).1 bs cs := by
  have hn1 := h.n1
  have hi := h.hi
  have e : passQ q = ({ q with r := nextQ q.s q.r }, 0) := by
    unfold passQ
    rw [h.left, if_neg (by simp only [List.length_cons]; omega)]
  rw [e]
  refine ⟨rfl, ?_⟩
  rw [h.qe]
  dsimp only
  refine ⟨hn1, h.ra, Nat.mod_lt _ (by omega), by have := h.hn; simp only [List.length_cons] at this; omega, ?_, h.len, ?_⟩
  · rw [nextQ_n (by omega) hi, List.length_cons, Nat.mod_add_mod, show i + (cs.length + 1) = i + 1 + cs.length by omega]
  · intro k c' hk
    have := h.at_ (k + 1) c' hk
    rw [Nat.mod_add_mod, show i + 1 + k = i + (k + 1) by omega]
    exact this
theorem FQ.new {A : Int} {T N : Nat} (h1 : 1 ≤ N) (h2 : N ≤ 1024) (h3 : 0 ≤ A ∧ A + 32 * (N : Int) ≤ T ∧ T ≤ 131072) {bs : List Int} (hl : bs.length = T) : FQ A T N 0 ⟨A, 32 * (N : Int), 0, 0⟩ bs [] :=
  ⟨h2, h3, by omega, by simp; omega, by simp, hl, fun k c h => by simp at h⟩
/-- commands put, as long as it goes -/
theorem FQ.fill {A : Int} {T N i : Nat} : ∀ {ds : List Cm} {q : Qu} {bs : List Int} {cs : List Cm}, FQ A T N i q bs cs → ∃ n, n ≤ ds.length ∧ (fillQ ds q bs).2.2.1 = n ∧ FQ A T N i (fillQ ds q bs).1 (fillQ ds q bs).2.1 (cs ++ ds.take n) ∧
    ((fillQ ds q bs).2.2.2 = 0 ∧ n = ds.length ∨ (fillQ ds q bs).2.2.2 = 2 ∧ n < ds.length ∧ cs.length + n + 1 = N ∨ (fillQ ds q bs).2.2.2 = 160 ∧ ∃ c, ds[n]? = some c ∧ encM c = none)
  | [], q, bs, cs, h => ⟨0, by simp, rfl, by simpa [fillQ] using h, .inl ⟨rfl, rfl⟩⟩
  | d :: ds, q, bs, cs, h => by
    by_cases hf : cs.length + 1 = N
    · have e := h.full hf d
      have e2 : fillQ (d :: ds) q bs = (q, bs, 0, 2) := by unfold fillQ; rw [e]; rfl
      rw [e2]
      exact ⟨0, by omega, rfl, by simpa using h, .inr (.inl ⟨rfl, by simp, hf⟩)⟩
    · have hlt : cs.length + 1 < N := by have := h.hn; omega
      cases hc : encM d with
      | none =>
        have e := h.refuse hlt hc
        have e2 : fillQ (d :: ds) q bs = (q, bs, 0, 160) := by unfold fillQ; rw [e]; rfl
        rw [e2]
        exact ⟨0, by omega, rfl, by simpa using h, .inr (.inr ⟨rfl, d, rfl, hc⟩)⟩
      | some ws =>
        obtain ⟨e0, h'⟩ := h.put hlt hc
        obtain ⟨n, k1, k2, k3, k4⟩ := FQ.fill (ds := ds) h'
        have e2 : fillQ (d :: ds) q bs = ((fillQ ds (putQ q bs d).1 (putQ q bs d).2.1).1, (fillQ ds (putQ q bs d).1 (putQ q bs d).2.1).2.1, (fillQ ds (putQ q bs d).1 (putQ q bs d).2.1).2.2.1 + 1, (fillQ ds (putQ q bs d).1 (putQ q bs d).2.1).2.2.2) := by
          conv => lhs; unfold fillQ
          rw [if_neg (by rw [Classical.not_not]; exact e0)]
        rw [e2]
        refine ⟨n + 1, by simp; omega, by dsimp only; rw [k2], by simpa using k3, ?_⟩
        rcases k4 with ⟨k4, k5⟩ | ⟨k4, k5, k6⟩ | ⟨k4, c, k5, k6⟩
        · exact .inl ⟨k4, by simp [k5]⟩
        · exact .inr (.inl ⟨k4, by simp; omega, by simp at k6; omega⟩)
        · exact .inr (.inr ⟨k4, c, by simpa using k5, k6⟩)
end Go.Proofs.Ytggchklafbpgpaa
