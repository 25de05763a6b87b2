/-
  queue: ring: the plain functions.
-/
import Derived.Test.YtggchklafbpgpaaE4
import Derived.Test.YtggchklafbpgpaaM1
import Derived.Test.YtggchklafbpgpaaS1
namespace Go.Proofs.Ytggchklafbpgpaa
open Go Go.RowKit X
set_option maxRecDepth 100000
def W (n : Int) : Int := IntKind.i64.wrap n
def rightB (s t : Int) : Bool := !(decide (t < 1) || (decide (s < t) || (Int.tmod s t != 0 || decide (W (Int.tdiv s t) > 1024))))
def ringV (s t : Int) : Value := .agg [.int .i64 s, .int .i64 t].toArray
def i64V (n : Int) : Value := .int .i64 n
theorem right_plain (s t : Int) : Plain F.ring_Ring_Right [ringV s t] (i64V (if rightB s t then 0 else 1)) := by
  intro w
  refine ring_Ring_Right_cv ?_
  refine alc_i fun w1 hB h1 _ => ?_
  have hb := hB _ (Nat.le_refl _)
  unfold JoinT
  refine ldI_i h1 rfl ?_
  refine cnd_i (fun h => ?_) fun h => ?_
  · refine cnd_i (fun _ => ⟨?_, hb⟩) fun h => by cases h
    simp_all [rightB, i64V]
  refine ldI_i h1 rfl (ldI_i h1 rfl ?_)
  refine cnd_i (fun h' => ?_) fun h' => ?_
  · refine cnd_i (fun _ => ⟨?_, hb⟩) fun h => by cases h
    simp_all [rightB, i64V]
  refine ldI_i h1 rfl (ldI_i h1 rfl ⟨by simp at h; omega, ?_⟩)
  refine cnd_i (fun h'' => ?_) fun h'' => ?_
  · refine cnd_i (fun _ => ⟨?_, hb⟩) fun h => by cases h
    simp_all [rightB, i64V]
  refine ldI_i h1 rfl (ldI_i h1 rfl ⟨by simp at h; omega, ?_⟩)
  refine cnd_i (fun h3 => ⟨?_, hb⟩) fun h3 => ⟨?_, hb⟩
  · simp_all [rightB, i64V, W]
  · simp_all [rightB, i64V, W]

def mayB (s t a : Int) : Bool := rightB s t && (decide (a ≥ 0) && (decide (a < s) && Int.tmod a t == 0))
theorem right_pos {s t : Int} (h : rightB s t = true) : 1 ≤ t ∧ t ≤ s ∧ Int.tmod s t = 0 ∧ W (Int.tdiv s t) ≤ 1024 := by
  simp only [rightB, Bool.not_eq_true', Bool.or_eq_false_iff, decide_eq_false_iff_not, bne_eq_false_iff_eq] at h
  omega
theorem may_right {s t a : Int} (h : mayB s t a = true) : rightB s t = true := by
  simp only [mayB, Bool.and_eq_true] at h; exact h.1
theorem rmay_plain (s t a : Int) : Plain F.ring_Ring_May [ringV s t, i64V a] (.bool (mayB s t a)) := by
  intro w
  refine ring_Ring_May_cv ?_
  refine alc_i fun w1 hB h1 _ => ?_
  have hb := hB _ (Nat.le_refl _)
  unfold JoinT
  refine ldI_i h1 rfl (ldI_i h1 rfl ?_)
  refine (right_plain s t w1).mono ?_
  rintro _ w2 ⟨rfl, hB2⟩
  have h2 := h1.ext hB2
  have hb2 := hb.trans (hB2.mono (by have := hB w.heap.size (Nat.le_refl _); exact this.size))
  refine ⟨_, rfl, ?_⟩
  cases hr : rightB s t
  · exact ⟨by simp [mayB, hr], hb2⟩
  refine cnd_i (fun _ => ?_) fun h => by simp at h
  refine cnd_i (fun h => ?_) fun h => ⟨by have h := of_decide_eq_false h; simp [mayB, hr, show ¬ (0 ≤ a) by omega], hb2⟩
  refine ldI_i h2 rfl (cnd_i (fun h' => ?_) fun h' => ⟨by have h' := of_decide_eq_false h'; simp [mayB, hr, show ¬ (a < s) by omega], hb2⟩)
  have := right_pos hr
  exact ldI_i h2 rfl ⟨by omega, ⟨by simp_all [mayB], hb2⟩⟩
def tupV (a b : Int) : Value := .tuple [.int .i64 a, .int .i64 b].toArray
theorem next_plain (s t a : Int) : Plain F.ring_Ring_Next [ringV s t, i64V a] (if mayB s t a then tupV (Int.tmod (W (a + t)) s) 0 else tupV 0 1) := by
  intro w
  refine ring_Ring_Next_cv ?_
  refine alc_i fun w1 hB h1 _ => ?_
  have hb := hB _ (Nat.le_refl _)
  refine ldI_i h1 rfl (ldI_i h1 rfl ?_)
  refine (rmay_plain s t a w1).mono ?_
  rintro _ w2 ⟨rfl, hB2⟩
  have h2 := h1.ext hB2
  have hb2 := hb.trans (hB2.mono hb.size)
  refine ⟨_, rfl, ?_⟩
  cases hr : mayB s t a
  · exact ⟨rfl, hb2⟩
  have := right_pos (may_right hr)
  exact ldI_i h2 rfl (ldI_i h2 rfl ⟨by omega, rfl, hb2⟩)
def leftV (s t a b : Int) : Int := W (Int.tdiv (Int.tmod (W (W (b - a) + s)) s) t)
theorem left_plain (s t a b : Int) : Plain F.ring_Ring_Left [ringV s t, i64V a, i64V b] (if mayB s t a && mayB s t b then tupV (leftV s t a b) 0 else tupV 0 1) := by
  intro w
  refine ring_Ring_Left_cv ?_
  refine alc_i fun w1 hB h1 _ => ?_
  have hb := hB _ (Nat.le_refl _)
  unfold JoinT
  refine ldI_i h1 rfl (ldI_i h1 rfl ?_)
  refine (rmay_plain s t a w1).mono ?_
  rintro _ w2 ⟨rfl, hB2⟩
  have h2 := h1.ext hB2
  have hb2 := hb.trans (hB2.mono hb.size)
  refine ⟨_, rfl, ?_⟩
  cases hr : mayB s t a
  · exact ⟨rfl, hb2⟩
  refine ldI_i h2 rfl (ldI_i h2 rfl ?_)
  refine (rmay_plain s t b w2).mono ?_
  rintro _ w3 ⟨rfl, hB3⟩
  have h3 := h2.ext hB3
  have hb3 := hb2.trans (hB3.mono hb2.size)
  refine ⟨_, rfl, ?_⟩
  cases hr' : mayB s t b
  · exact ⟨rfl, hb3⟩
  have := right_pos (may_right hr)
  exact ldI_i h3.drew rfl (ldI_i h3.drew rfl ⟨by omega, ldI_i h3.drew rfl ⟨by omega, rfl, hb3.drew⟩⟩)
def roomV (s t a b : Int) : Int := W (W (W (Int.tdiv s t) - 1) - leftV s t a b)
theorem room_plain (s t a b : Int) : Plain F.ring_Ring_Room [ringV s t, i64V a, i64V b] (if mayB s t a && mayB s t b then tupV (roomV s t a b) 0 else tupV 0 1) := by
  intro w
  refine ring_Ring_Room_cv ?_
  refine alc_i fun w1 hB h1 _ => ?_
  have hb := hB _ (Nat.le_refl _)
  refine ldI_i h1 rfl (ldI_i h1 rfl ?_)
  refine (left_plain s t a b w1).mono ?_
  rintro _ w2 ⟨rfl, hB2⟩
  have h2 := h1.ext hB2
  have hb2 := hb.trans (hB2.mono hb.size)
  cases hr : mayB s t a && mayB s t b
  · exact ⟨_, _, rfl, cnd_i (fun _ => ⟨rfl, hb2⟩) fun h => by cases h⟩
  have := right_pos (may_right (by simp only [Bool.and_eq_true] at hr; exact hr.1))
  exact ⟨_, _, rfl, cnd_i (fun h => by cases h) fun _ => ldI_i h2 rfl (ldI_i h2 rfl ⟨by omega, rfl, hb2⟩)⟩
end Go.Proofs.Ytggchklafbpgpaa
