/-
  ring: the loop over places, and the list that the law makes of it.
-/
import Derived.Test.YtacklapiboeagaaL1
import Derived.Test.YtacklapiboeagaaS2
namespace Go.Proofs.Ytacklapiboeagaa
open Go Go.RowKit X
set_option maxRecDepth 100000
set_option linter.unusedVariables false
def nth (s t rd : Int) : Nat → Int
  | 0 => rd
  | k + 1 => Int.tmod (W (nth s t rd k + t)) s
def cnt (s t a b : Int) : Nat := if mayB s t a && mayB s t b then (leftV s t a b).toNat else 0
theorem each1_cv {s t rd wr : Int} {y : Value} {g0 g1 g2 : Nat} {w : World} {Q : Value → World → Prop} (I : Nat → World → Prop)
    (h0 : Row w g0 [.int .i64 s, .int .i64 t] T.t23) (h1 : Row w g1 [.int .i64 rd] T.t3) (h2 : Row w g2 [.int .i64 wr] T.t3)
    (hf : ∀ k w', I k w' → Row w' g0 [.int .i64 s, .int .i64 t] T.t23)
    (hI : ∀ w', Below w.heap.size w w' → I 0 w')
    (hstep : ∀ k w', k < cnt s t rd wr → I k w' → callVal P y [.int .i64 (nth s t rd k)] w' fun v w'' => ∃ b, v = .bool b ∧ (if b then I (k + 1) w'' else Q (.tuple [].toArray) w''))
    (hend : ∀ w', I (cnt s t rd wr) w' → Q (.tuple [].toArray) w') :
    CV P F.ring_Ring_Each_1 [y, .pointer (some ⟨g0, 0, none⟩), .pointer (some ⟨g1, 0, none⟩), .pointer (some ⟨g2, 0, none⟩)] w Q := by
  refine ring_Ring_Each_1_cv ?_
  unfold ring_Ring_Each_1
  have ha : (⟨g0, 0, none⟩ : Addr).add 1 = ⟨g0, 1, none⟩ := by unfold Addr.add; split <;> simp_all
  rw [ha]
  refine ldI_i h0 rfl (ldI_i h0 rfl (ldI_i h1 rfl (ldI_i h2 rfl ?_)))
  refine (left_plain s t rd wr w).mono ?_
  rintro _ w1 ⟨rfl, hB1⟩
  have key : ∀ n e : Int, n.toNat = cnt s t rd wr → n ≤ 9223372036854775807 → -9223372036854775808 ≤ n → (0 < n → s ≠ 0) →
      ∃ n' e', tupV n e = .tuple [.int .i64 n', .int .i64 e'].toArray ∧ ldI .i64 ⟨g1, 0, none⟩ w1 fun n13 => LoopT (fun (s25 : ring_Ring_Each_1_L14.S) w26 A27 => ring_Ring_Each_1_l0 y ⟨g0, 0, none⟩ Q s25.1 s25.2 w26 A27) ((n' : Int), (n13 : Int)) w1 := by
    intro n e hn hmx hmn hs
    refine ⟨n, e, rfl, ldI_i (h1.ext hB1) rfl ?_⟩
    refine ⟨fun (st : Int × Int) w' => ∃ k, k ≤ cnt s t rd wr ∧ st.1 = n - k ∧ st.2 = nth s t rd k ∧ I k w', fun (st : Int × Int) _ => st.1.toNat, ⟨0, by omega, by simp, rfl, hI _ hB1⟩, ?_⟩
    rintro ⟨m, at'⟩ w' ⟨k, hk, hm, hat, hIk⟩
    simp only at hm hat
    subst hm hat
    unfold ring_Ring_Each_1_l0
    refine cnd_i (fun hp => ?_) fun hp => ?_
    · have hp := of_decide_eq_true hp
      have hlt : k < cnt s t rd wr := by omega
      refine callVal_mono (hstep k w' hlt hIk) ?_
      rintro v w2 ⟨b, rfl, hb⟩
      refine ⟨b, rfl, ?_⟩
      cases b
      · exact hb
      · simp only [if_true] at hb
        have hr := hf _ _ hb
        rw [ha]
        refine ldI_i hr rfl (ldI_i hr rfl ⟨hs (by omega), ⟨k + 1, by omega, ?_, rfl, hb⟩, ?_⟩)
        · show IntKind.i64.wrap (n - k - 1) = n - ((k + 1 : Nat) : Int)
          rw [W_id (by omega) (by omega)]; omega
        · show (IntKind.i64.wrap (n - k - 1)).toNat < (n - k).toNat
          rw [W_id (by omega) (by omega)]; omega
    · have hp := of_decide_eq_false hp
      have : k = cnt s t rd wr := by omega
      subst this
      exact hend _ hIk
  cases hm : mayB s t rd && mayB s t wr
  · exact key 0 1 (by simp [cnt, hm]) (by omega) (by omega) (by omega)
  · have hb := right_pos (may_right (by simp only [Bool.and_eq_true] at hm; exact hm.1))
    exact key (leftV s t rd wr) 0 (by simp [cnt, hm]) (W_range _).2 (W_range _).1 (by omega)
/-- the closure that goes through the places -/
def eachV (g0 g1 g2 : Nat) : Value := .func (.func F.ring_Ring_Each_1) [].toArray [.pointer (some ⟨g0, 0, none⟩), .pointer (some ⟨g1, 0, none⟩), .pointer (some ⟨g2, 0, none⟩)].toArray
theorem each_cv (s t rd wr : Int) (w : World) : CV P F.ring_Ring_Each [ringV s t, i64V rd, i64V wr] w fun v w' => ∃ g0 g1 g2, v = eachV g0 g1 g2 ∧ Below w.heap.size w w' ∧ w.heap.size ≤ g0 ∧
    Row w' g0 [.int .i64 s, .int .i64 t] T.t23 ∧ Row w' g1 [.int .i64 rd] T.t3 ∧ Row w' g2 [.int .i64 wr] T.t3 := by
  refine ring_Ring_Each_cv ?_
  refine alc_i fun w1 hB1 h1 hs1 => alc_i fun w2 hB2 h2 hs2 => alc_i fun w3 hB3 h3 hs3 => ?_
  refine ⟨_, _, _, rfl, ((hB1 _ (Nat.le_refl _)).trans (hB2 _ (by omega))).trans (hB3 _ (by omega)), Nat.le_refl _, ?_, ?_, h3⟩
  · exact (h1.below (hB2 w1.heap.size (Nat.le_refl _)) (by omega)).below (hB3 w2.heap.size (Nat.le_refl _)) (by omega)
  · exact h2.below (hB3 w2.heap.size (Nat.le_refl _)) (by omega)
end Go.Proofs.Ytacklapiboeagaa
