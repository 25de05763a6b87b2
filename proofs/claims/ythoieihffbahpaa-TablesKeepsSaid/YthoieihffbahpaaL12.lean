/-
  tables: a device's routes, gone through.
-/
import Derived.Test.YthoieihffbahpaaL11
import Derived.Test.YthoieihffbahpaaA5
namespace Go.Proofs.Ythoieihffbahpaa
open Go Go.RowKit X
set_option maxRecDepth 100000
set_option linter.unusedVariables false
set_option maxHeartbeats 1000000
def rouM (b : Int) : Nat := (if 16384 < evN b then 16384 else evN b).toNat
def rouF (bs : List Int) (v : Bool) (b a : Int) (k : Nat) : Option (List Value) :=
  if (routeM bs v b a k).1.2.2 then some [.int .i64 (k : Int), rouV (routeM bs v b a k).1.1 (routeM bs v b a k).1.2.1 true] else none
def rouL (bs : List Int) (v : Bool) (b a : Int) (n : Nat) : List (List Value) := (List.range n).filterMap (rouF bs v b a)
theorem rouL_succ (bs : List Int) (v : Bool) (b a : Int) (n : Nat) : rouL bs v b a (n + 1) = rouL bs v b a n ++ (rouF bs v b a n).toList := by
  unfold rouL
  rw [List.range_succ, List.filterMap_append]
  cases h : rouF bs v b a n <;> simp [h]
def funV (g5 g7 : Nat) : Value := .func (.func F.tables_Device_Routes_1) [].toArray [ptr g5, ptr g7].toArray
def rouE (g5 g7 : Nat) (v : Bool) (b a : Int) (p : Nat) (bs : List Int) : List It := [row g5 [.bool v, .int .i64 b, .int .i64 a] T.t36, row g7 [ptr p] T.t25, memI p bs]
theorem routes_t (v : Bool) (b a : Int) (p : Nat) (bs : List Int) : Tri P F.tables_Device_Routes [devV v b a, ptr p] [memI p bs] fun x L' => ∃ g5 g7, x = funV g5 g7 ∧ L' = rouE g5 g7 v b a p bs := by
  intro w S hS
  refine tables_Device_Routes_cv ?_
  unfold tables_Device_Routes
  have H := Own.start hS
  refine alc_o H fun b5 wx H => alc_o H fun b7 wx H => ?_
  exact ⟨_, ⟨b5, b7, rfl, rfl⟩, H.drop (L1 := rouE b5 b7 v b a p bs) (by unfold rouE; exact (by repeat (first | exact Cut.nil | (apply Cut.cons; (repeat (first | exact Pick.here | apply Pick.there))))))⟩
theorem rou_enters : enters P F.tables_Device_Routes_1 = true := by kernel_rfl
theorem routes_it (g5 g7 : Nat) (v : Bool) (b a : Int) (p : Nat) (bs : List Int) (hr : ∀ x ∈ bs, 0 ≤ x ∧ x < 256) (hok : ∀ k : Nat, k < rouM b → (routeM bs v b a k).2 = 0) :
    Iter P F.tables_Device_Routes_1 [ptr g5, ptr g7] (rouE g5 g7 v b a p bs) (rouL bs v b a (rouM b)) := by
  intro y w0 S0 L0 w Q I D hy H h0 hstep hend hstop
  obtain ⟨fn, fa, fc, rfl⟩ := hy
  refine tables_Device_Routes_1_cv ?_
  unfold tables_Device_Routes_1
  have H := own_comm H
  unfold rouE at H
  simp only [List.cons_append, List.nil_append] at H
  refine ldB_o H .here (by rfl) (ldI_o H .here (by rfl) (ldI_o H .here (by rfl) ?_))
  refine call_p H (tri_plain (events_plain v b a)) (by repeat (first | exact Cut.nil | (apply Cut.cons; (repeat (first | exact Pick.here | apply Pick.there))))) fun wx H => ?_
  refine ⟨_, rfl, ?_⟩
  have hn := evN_range b
  refine loop_o (fun (st : Int) L' => ∃ (k : Nat) (L : List It), k ≤ rouM b ∧ st = k ∧ I (rouL bs v b a k).length L ∧ L' = rouE g5 g7 v b a p bs ++ L) (fun (st : Int) => ((rouM b : Int) - st).toNat) H
    ⟨0, L0, by omega, rfl, h0, rfl⟩ ?_
  rintro _ _ wx ⟨k, L, hk, rfl, hI, rfl⟩ H
  unfold tables_Device_Routes_1_l1
  refine cnd_i (fun h => ?_) fun h => ?_
  · have h := of_decide_eq_true h
    have hkM : k < rouM b := by unfold rouM; omega
    have hM : rouM b ≤ 16384 := by unfold rouM; split <;> omega
    unfold rouE at H
    simp only [List.cons_append, List.nil_append] at H
    refine ldB_o H .here (by rfl) (ldI_o H .here (by rfl) (ldI_o H .here (by rfl) (ldP_o H (.there .here) (by rfl) ?_)))
    refine call_p H (route_t p bs hr v b a (k : Int)) (by repeat (first | exact Cut.nil | (apply Cut.cons; (repeat (first | exact Pick.here | apply Pick.there))))) fun wx H => ?_
    refine ⟨_, _, _, _, rfl, alc_o H fun b24 wx H => ?_⟩
    refine st1_o H .here (by simp) fun wx H => st1_o H .here (by simp) fun wx H => st1_o H .here (by simp) fun wx H => ?_
    simp only [List.set_cons_zero, List.set_cons_succ] at H
    rw [hok k hkM]
    refine cnd_i (fun h => by cases h) fun _ => join_o (ldB_o H .here (by rfl) ?_)
    have step : ∀ (st' : Int) (L' : List It) (wx : World), st' = IntKind.i64.wrap ((k : Int) + 1) → I (rouL bs v b a (k + 1)).length L' → X.Own w0 S0 (rouE g5 g7 v b a p bs ++ L') wx →
        (∃ L'', (∃ (k : Nat) (L : List It), k ≤ rouM b ∧ st' = k ∧ I (rouL bs v b a k).length L ∧ L'' = rouE g5 g7 v b a p bs ++ L) ∧ X.Own w0 S0 L'' wx) ∧ ((rouM b : Int) - st').toNat < ((rouM b : Int) - (k : Int)).toNat := by
      rintro _ L' wx rfl hI' H
      rw [W_id (by omega) (by omega)]
      exact ⟨⟨_, ⟨k + 1, L', by omega, by push_cast; rfl, hI', rfl⟩, H⟩, by omega⟩
    have hE : X.Own w0 S0 (L ++ (rouE g5 g7 v b a p bs ++ [row b24 [.int .i64 (routeM bs v b a k).1.1, .int .i64 (routeM bs v b a k).1.2.1, .bool (routeM bs v b a k).1.2.2] T.t45])) wx := by
      have := H.perm (L1 := rouE g5 g7 v b a p bs) (F := row b24 [.int .i64 (routeM bs v b a k).1.1, .int .i64 (routeM bs v b a k).1.2.1, .bool (routeM bs v b a k).1.2.2] T.t45 :: L) (by unfold rouE; exact (by repeat (first | exact Cut.nil | (apply Cut.cons; (repeat (first | exact Pick.here | apply Pick.there))))))
      rw [show ∀ r : It, rouE g5 g7 v b a p bs ++ r :: L = (rouE g5 g7 v b a p bs ++ [r]) ++ L by intro r; simp] at this
      exact own_comm this
    refine cnd_i (fun hv => ?_) fun hv => ?_
    · refine ldI_o H .here (by rfl) (ldI_o H .here (by rfl) (ldB_o H .here (by rfl) ?_))
      have hf : rouF bs v b a k = some [.int .i64 (k : Int), rouV (routeM bs v b a k).1.1 (routeM bs v b a k).1.2.1 true] := by unfold rouF; rw [if_pos hv]
      have hx := fm_get hkM hf
      rw [hv] at hE ⊢
      refine callVal_mono (hstep _ _ L _ wx hx hI hE) ?_
      rintro _ w' ⟨bo, rfl, L', hL', H'⟩
      refine ⟨_, rfl, ?_⟩
      unfold tables_Device_Routes_1_j0
      rw [← List.append_assoc] at H'
      have H' := own_left H'
      cases bo
      · exact cnd_i (fun _ => hstop _ _ hL' H') (fun h => by cases h)
      · refine cnd_i (fun h => by cases h) fun _ => step _ L' w' rfl ?_ (own_comm H')
        rw [rouL_succ, hf, List.length_append]
        exact hL'
    · unfold tables_Device_Routes_1_j0
      rw [← List.append_assoc] at hE
      refine cnd_i (fun h => by cases h) fun _ => step _ L wx rfl ?_ (own_comm (own_left hE))
      have hf : rouF bs v b a k = none := by unfold rouF; rw [hv]; rfl
      rw [rouL_succ, hf]
      simpa using hI
  · have h := of_decide_eq_false h
    have : k = rouM b := by unfold rouM at *; omega
    subst this
    exact hend _ _ hI (own_comm H)
end Go.Proofs.Ythoieihffbahpaa
