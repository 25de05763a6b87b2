/-
  The functions' words, printed by Gen.lean out of the translation.
-/
import Derived.Test.YtggchklafbpgpaaFn0
namespace Go.Proofs.Ytggchklafbpgpaa
open Go X
set_option maxRecDepth 100000
set_option linter.unusedVariables false
/- 3 crier/crierlaw17.QueueNews -/
def crierlaw17_QueueNews_J63 : LoopSpec where
  S := Bool
  emb := fun s => [(7, .bool s)]
  ext := fun t => match getL t 7 with
    | some (.bool y24) => some (y24)
    | _ => none
  slots := [7]
  fits := fun _ => rfl
  ok := by
    intro t s h x hx
    (try dsimp only at h hx)
    split at h
    · cases h
      simp only [List.mem_cons, List.not_mem_nil, or_false] at hx
      rcases hx with rfl <;> assumption
    · cases h

def crierlaw17_QueueNews_J1018 : LoopSpec where
  S := Bool
  emb := fun s => [(2, .bool s)]
  ext := fun t => match getL t 2 with
    | some (.bool y27) => some (y27)
    | _ => none
  slots := [2]
  fits := fun _ => rfl
  ok := by
    intro t s h x hx
    (try dsimp only at h hx)
    split at h
    · cases h
      simp only [List.mem_cons, List.not_mem_nil, or_false] at hx
      rcases hx with rfl <;> assumption
    · cases h

def crierlaw17_QueueNews_j0 (Q : Value → World → Prop) (b28 : Bool) (w29 : World) : Prop :=
 Q (.bool b28) w29

def crierlaw17_QueueNews_J255 : LoopSpec where
  S := Bool
  emb := fun s => [(2, .bool s)]
  ext := fun t => match getL t 2 with
    | some (.bool y38) => some (y38)
    | _ => none
  slots := [2]
  fits := fun _ => rfl
  ok := by
    intro t s h x hx
    (try dsimp only at h hx)
    split at h
    · cases h
      simp only [List.mem_cons, List.not_mem_nil, or_false] at hx
      rcases hx with rfl <;> assumption
    · cases h

def crierlaw17_QueueNews_j1 (Q : Value → World → Prop) (b39 : Bool) (w40 : World) : Prop :=
 Q (.bool b39) w40

def crierlaw17_QueueNews_j2 (Q : Value → World → Prop) (b3 : Nat) (b7 : Bool) (n16 : Int) (b17 : Nat) (n23 : Int) (b25 : Bool) (w26 : World) : Prop :=
 cnd (!b25)
 (JoinT (fun (J30 : crierlaw17_QueueNews_J1018.S → World → Prop) =>
  cnd b7
  (cnd (n16 == 1)
  (ldI .i64 ⟨b17, 0, none⟩ w26 fun n31 =>
  ldI .i64 ⟨b17, 1, none⟩ w26 fun n32 =>
  ldI .i64 ⟨b17, 2, none⟩ w26 fun n33 =>
  ldI .i64 ⟨b17, 3, none⟩ w26 fun n34 =>
  eqA P .eql T.t26 (.agg [.int .i64 n31, .int .i64 n32, .int .i64 n33, .int .i64 n34].toArray) (.agg [.int .i64 0, .int .i64 0, .int .i64 0, .int .i64 0].toArray) w26 fun b35 =>
  J30 ((b35 : Bool)) w26)
  (J30 ((false : Bool)) w26))
  (J30 ((false : Bool)) w26))
  fun (s36 : crierlaw17_QueueNews_J1018.S) w37 => crierlaw17_QueueNews_j0 Q s36 w37)
 (JoinT (fun (J41 : crierlaw17_QueueNews_J255.S → World → Prop) =>
  cnd b7
  (cnd (n16 == 0)
  (ldI .i64 ⟨b17, 0, none⟩ w26 fun n42 =>
  ldI .i64 ⟨b17, 1, none⟩ w26 fun n43 =>
  ldI .i64 ⟨b17, 2, none⟩ w26 fun n44 =>
  ldI .i64 ⟨b17, 3, none⟩ w26 fun n45 =>
  ldI .i64 ⟨b3, 0, none⟩ w26 fun n46 =>
  ldI .i64 ⟨b3, 1, none⟩ w26 fun n47 =>
  eqA P .eql T.t26 (.agg [.int .i64 n42, .int .i64 n43, .int .i64 n44, .int .i64 n45].toArray) (.agg [.int .i64 n46, .int .i64 n47, .int .i64 0, .int .i64 0].toArray) w26 fun b48 =>
  cnd b48
  (ldI .i64 ⟨b17, 0, none⟩ w26 fun n49 =>
  ldI .i64 ⟨b17, 1, none⟩ w26 fun n50 =>
  ldI .i64 ⟨b17, 2, none⟩ w26 fun n51 =>
  ldI .i64 ⟨b17, 3, none⟩ w26 fun n52 =>
  CV P F.queue_Queue_Left [.agg [.int .i64 n49, .int .i64 n50, .int .i64 n51, .int .i64 n52].toArray] w26 fun v53 w54 =>
  ∃ n55 : Int, v53 = .int .i64 n55 ∧
  cnd (n55 == 0)
  (ldI .i64 ⟨b17, 0, none⟩ w54 fun n56 =>
  ldI .i64 ⟨b17, 1, none⟩ w54 fun n57 =>
  ldI .i64 ⟨b17, 2, none⟩ w54 fun n58 =>
  ldI .i64 ⟨b17, 3, none⟩ w54 fun n59 =>
  CV P F.queue_Queue_Room [.agg [.int .i64 n56, .int .i64 n57, .int .i64 n58, .int .i64 n59].toArray] w54 fun v60 w61 =>
  ∃ n62 : Int, v60 = .int .i64 n62 ∧
  (nz 32 <|
  J41 (((n62 == (IntKind.i64.wrap ((IntKind.i64.wrap (Int.tdiv n23 32)) - 1))) : Bool)) w61))
  (J41 ((false : Bool)) w54))
  (J41 ((false : Bool)) w26))
  (J41 ((false : Bool)) w26))
  (J41 ((false : Bool)) w26))
  fun (s63 : crierlaw17_QueueNews_J255.S) w64 => crierlaw17_QueueNews_j1 Q s63 w64)

def crierlaw17_QueueNews (a0_0 : Int) (a0_1 : Int) (w : World) (Q : Value → World → Prop) : Prop :=
 alc [.int .i64 a0_0, .int .i64 a0_1] T.t23 w fun b3 w4 =>
 CV P F.crierlaw17_awake [] w4 fun v5 w6 =>
 ∃ b7 : Bool, v5 = .bool b7 ∧
 cnd (!b7)
 (Q (.bool false) w6)
 (ldI .i64 ⟨b3, 0, none⟩ w6 fun n8 =>
 ldI .i64 ⟨b3, 1, none⟩ w6 fun n9 =>
 CV P F.queue_New [.agg [.int .i64 n8, .int .i64 n9].toArray] w6 fun v10 w11 =>
 ∃ n12 : Int, ∃ n13 : Int, ∃ n14 : Int, ∃ n15 : Int, ∃ n16 : Int, v10 = .tuple [.agg [.int .i64 n12, .int .i64 n13, .int .i64 n14, .int .i64 n15].toArray, .int .i64 n16].toArray ∧
 alc [.int .i64 0, .int .i64 0, .int .i64 0, .int .i64 0] T.t26 w11 fun b17 w18 =>
 st1 (.int .i64 n12) ⟨b17, 0, none⟩ w18 fun w19 =>
 st1 (.int .i64 n13) ⟨b17, 1, none⟩ w19 fun w20 =>
 st1 (.int .i64 n14) ⟨b17, 2, none⟩ w20 fun w21 =>
 st1 (.int .i64 n15) ⟨b17, 3, none⟩ w21 fun w22 =>
 ldI .i64 ⟨b3, 1, none⟩ w22 fun n23 =>
 JoinT (fun (J65 : crierlaw17_QueueNews_J63.S → World → Prop) =>
  cnd (decide (n23 ≥ 32))
  ((nz 32 <|
  cnd ((Int.tmod n23 32) == 0)
  ((nz 32 <|
  cnd (decide ((IntKind.i64.wrap (Int.tdiv n23 32)) ≤ 1024))
  (ldI .i64 ⟨b3, 0, none⟩ w22 fun n66 =>
  J65 (((decide (n66 ≥ 0)) : Bool)) w22)
  (J65 ((false : Bool)) w22)))
  (J65 ((false : Bool)) w22)))
  (J65 ((false : Bool)) w22))
  fun (s67 : crierlaw17_QueueNews_J63.S) w68 => crierlaw17_QueueNews_j2 Q b3 b7 n16 b17 n23 s67 w68)
def crierlaw17_QueueNews_ann : Nat → Option LoopSpec := fun
  | 63 => some crierlaw17_QueueNews_J63
  | 1018 => some crierlaw17_QueueNews_J1018
  | 255 => some crierlaw17_QueueNews_J255
  | _ => none
theorem crierlaw17_QueueNews_eq (a0_0 : Int) (a0_1 : Int) (w : World) (Q : Value → World → Prop) : fnX P crierlaw17_QueueNews_ann Try.f3 [.agg [.int .i64 a0_0, .int .i64 a0_1].toArray] w Q = crierlaw17_QueueNews a0_0 a0_1 w Q := by kernel_rfl
theorem crierlaw17_QueueNews_cv {a0_0 : Int} {a0_1 : Int} {w : World} {Q : Value → World → Prop} (h : crierlaw17_QueueNews a0_0 a0_1 w Q) : CV P F.crierlaw17_QueueNews [.agg [.int .i64 a0_0, .int .i64 a0_1].toArray] w Q := CV_of mixed Try.func3 (crierlaw17_QueueNews_eq a0_0 a0_1 w Q ▸ h)

/- 4 crier/crierlaw17.QueueOrder -/
def crierlaw17_QueueOrder_J62 : LoopSpec where
  S := Bool
  emb := fun s => [(33, .bool s)]
  ext := fun t => match getL t 33 with
    | some (.bool y28) => some (y28)
    | _ => none
  slots := [33]
  fits := fun _ => rfl
  ok := by
    intro t s h x hx
    (try dsimp only at h hx)
    split at h
    · cases h
      simp only [List.mem_cons, List.not_mem_nil, or_false] at hx
      rcases hx with rfl <;> assumption
    · cases h

def crierlaw17_QueueOrder_L2042 : LoopSpec where
  S := Int × Int
  emb := fun s => [(11, .int .i64 s.1), (12, .int .i64 s.2)]
  ext := fun t => match getL t 11, getL t 12 with
    | some (.int .i64 y35), some (.int .i64 y36) => some (y35, y36)
    | _, _ => none
  slots := [11, 12]
  fits := fun _ => rfl
  ok := by
    intro t s h x hx
    (try dsimp only at h hx)
    split at h
    · cases h
      simp only [List.mem_cons, List.not_mem_nil, or_false] at hx
      rcases hx with rfl | rfl <;> assumption
    · cases h

def crierlaw17_QueueOrder_J16338 : LoopSpec where
  S := Int
  emb := fun s => [(11, .int .i64 s)]
  ext := fun t => match getL t 11 with
    | some (.int .i64 y41) => some (y41)
    | _ => none
  slots := [11]
  fits := fun _ => rfl
  ok := by
    intro t s h x hx
    (try dsimp only at h hx)
    split at h
    · cases h
      simp only [List.mem_cons, List.not_mem_nil, or_false] at hx
      rcases hx with rfl <;> assumption
    · cases h

def crierlaw17_QueueOrder_j0 (n38 : Int) (A40 : crierlaw17_QueueOrder_L2042.S → World → Prop) (n42 : Int) (w43 : World) : Prop :=
 A40 ((n42 : Int), ((IntKind.i64.wrap (n38 + 1)) : Int)) w43

def crierlaw17_QueueOrder_J130707 : LoopSpec where
  S := Unit
  emb := fun _ => []
  ext := fun _ => some ()
  slots := []
  fits := fun _ => rfl
  ok := by
    intro t s h x hx; cases hx

def crierlaw17_QueueOrder_J522830 : LoopSpec where
  S := Bool
  emb := fun s => [(70, .bool s)]
  ext := fun t => match getL t 70 with
    | some (.bool y67) => some (y67)
    | _ => none
  slots := [70]
  fits := fun _ => rfl
  ok := by
    intro t s h x hx
    (try dsimp only at h hx)
    split at h
    · cases h
      simp only [List.mem_cons, List.not_mem_nil, or_false] at hx
      rcases hx with rfl <;> assumption
    · cases h

def crierlaw17_QueueOrder_J522831 : LoopSpec where
  S := Bool
  emb := fun s => [(85, .bool s)]
  ext := fun t => match getL t 85 with
    | some (.bool y72) => some (y72)
    | _ => none
  slots := [85]
  fits := fun _ => rfl
  ok := by
    intro t s h x hx
    (try dsimp only at h hx)
    split at h
    · cases h
      simp only [List.mem_cons, List.not_mem_nil, or_false] at hx
      rcases hx with rfl <;> assumption
    · cases h

def crierlaw17_QueueOrder_J8365306 : LoopSpec where
  S := Bool
  emb := fun s => [(111, .bool s)]
  ext := fun t => match getL t 111 with
    | some (.bool y102) => some (y102)
    | _ => none
  slots := [111]
  fits := fun _ => rfl
  ok := by
    intro t s h x hx
    (try dsimp only at h hx)
    split at h
    · cases h
      simp only [List.mem_cons, List.not_mem_nil, or_false] at hx
      rcases hx with rfl <;> assumption
    · cases h

def crierlaw17_QueueOrder_j1 (Q : Value → World → Prop) (b8 : Nat) (n37 : Int) (J44 : crierlaw17_QueueOrder_J16338.S → World → Prop) (b103 : Bool) (w104 : World) : Prop :=
 cnd b103
 (st1 (.bool false) ⟨b8, 0, none⟩ w104 fun w105 =>
 ldB ⟨b8, 0, none⟩ w105 fun b106 =>
 Q (.bool b106) w105)
 (J44 (((IntKind.i64.wrap (n37 + 1)) : Int)) w104)

def crierlaw17_QueueOrder_j2 (Q : Value → World → Prop) (b8 : Nat) (p21 : Option Addr) (b22 : Nat) (b33 : Nat) (n37 : Int) (J44 : crierlaw17_QueueOrder_J16338.S → World → Prop) (b73 : Bool) (w74 : World) : Prop :=
 cnd b73
 (ldI .i64 ⟨b22, 0, none⟩ w74 fun n75 =>
 ldI .i64 ⟨b22, 1, none⟩ w74 fun n76 =>
 ldI .i64 ⟨b22, 2, none⟩ w74 fun n77 =>
 ldI .i64 ⟨b22, 3, none⟩ w74 fun n78 =>
 CV P F.queue_Queue_Head [.agg [.int .i64 n75, .int .i64 n76, .int .i64 n77, .int .i64 n78].toArray, .pointer p21] w74 fun v79 w80 =>
 ∃ n81 : Int, ∃ n82 : Int, ∃ n83 : Int, ∃ n84 : Int, ∃ n85 : Int, ∃ n86 : Int, ∃ n87 : Int, ∃ n88 : Int, ∃ b89 : Bool, ∃ n90 : Int, v79 = .tuple [.agg [.int .i64 n81, .int .i64 n82, .int .i64 n83, .int .i64 n84, .int .i64 n85, .int .i64 n86, .int .i64 n87, .int .i64 n88, .bool b89].toArray, .int .i64 n90].toArray ∧
 alc [.int .i64 0, .int .i64 0, .int .i64 0, .int .i64 0, .int .i64 0, .int .i64 0, .int .i64 0, .int .i64 0, .bool false] T.t40 w80 fun b91 w92 =>
 st1 (.int .i64 n81) ⟨b91, 0, none⟩ w92 fun w93 =>
 st1 (.int .i64 n82) ⟨b91, 1, none⟩ w93 fun w94 =>
 st1 (.int .i64 n83) ⟨b91, 2, none⟩ w94 fun w95 =>
 st1 (.int .i64 n84) ⟨b91, 3, none⟩ w95 fun w96 =>
 st1 (.int .i64 n85) ⟨b91, 4, none⟩ w96 fun w97 =>
 st1 (.int .i64 n86) ⟨b91, 5, none⟩ w97 fun w98 =>
 st1 (.int .i64 n87) ⟨b91, 6, none⟩ w98 fun w99 =>
 st1 (.int .i64 n88) ⟨b91, 7, none⟩ w99 fun w100 =>
 st1 (.bool b89) ⟨b91, 8, none⟩ w100 fun w101 =>
 JoinT (fun (J107 : crierlaw17_QueueOrder_J8365306.S → World → Prop) =>
  drw w101 fun w108 =>
  cnd (n90 != 0)
  (J107 ((true : Bool)) w108)
  (ldL ⟨b33, 0, none⟩ w108 fun p109 l110 c111 =>
  cnd (decide (n37 ≥ ((l110 : Nat) : Int)))
  (J107 ((true : Bool)) w108)
  (ldI .i64 ⟨b91, 0, none⟩ w108 fun n112 =>
  ldI .i64 ⟨b91, 1, none⟩ w108 fun n113 =>
  ldI .i64 ⟨b91, 2, none⟩ w108 fun n114 =>
  ldI .i64 ⟨b91, 3, none⟩ w108 fun n115 =>
  ldI .i64 ⟨b91, 4, none⟩ w108 fun n116 =>
  ldI .i64 ⟨b91, 5, none⟩ w108 fun n117 =>
  ldI .i64 ⟨b91, 6, none⟩ w108 fun n118 =>
  ldI .i64 ⟨b91, 7, none⟩ w108 fun n119 =>
  ldB ⟨b91, 8, none⟩ w108 fun b120 =>
  ldL ⟨b33, 0, none⟩ w108 fun p121 l122 c123 =>
  ix n37 l122 fun j124 => nn p121 fun a125 =>
  ldI .i64 (a125.add (j124 * 9)) w108 fun n126 =>
  ldI .i64 ((a125.add (j124 * 9)).add 1) w108 fun n127 =>
  ldI .i64 ((a125.add (j124 * 9)).add 2) w108 fun n128 =>
  ldI .i64 ((a125.add (j124 * 9)).add 3) w108 fun n129 =>
  ldI .i64 ((a125.add (j124 * 9)).add 4) w108 fun n130 =>
  ldI .i64 ((a125.add (j124 * 9)).add 5) w108 fun n131 =>
  ldI .i64 ((a125.add (j124 * 9)).add 6) w108 fun n132 =>
  ldI .i64 ((a125.add (j124 * 9)).add 7) w108 fun n133 =>
  ldB ((a125.add (j124 * 9)).add 8) w108 fun b134 =>
  eqA P .neq T.t40 (.agg [.int .i64 n112, .int .i64 n113, .int .i64 n114, .int .i64 n115, .int .i64 n116, .int .i64 n117, .int .i64 n118, .int .i64 n119, .bool b120].toArray) (.agg [.int .i64 n126, .int .i64 n127, .int .i64 n128, .int .i64 n129, .int .i64 n130, .int .i64 n131, .int .i64 n132, .int .i64 n133, .bool b134].toArray) w108 fun b135 =>
  cnd b135
  (J107 ((true : Bool)) w108)
  (CV P F.queue_Queue_Pass [.pointer (some ⟨b22, 0, none⟩)] w108 fun v136 w137 =>
  ∃ n138 : Int, v136 = .int .i64 n138 ∧
  J107 (((n138 != 0) : Bool)) w137))))
  fun (s139 : crierlaw17_QueueOrder_J8365306.S) w140 => crierlaw17_QueueOrder_j1 Q b8 n37 J44 s139 w140)
 (J44 ((n37 : Int)) w74)

def crierlaw17_QueueOrder_j3 (a2 : Option Addr) (a2_n : Nat) (Q : Value → World → Prop) (b8 : Nat) (p21 : Option Addr) (b22 : Nat) (b33 : Nat) (n37 : Int) (n38 : Int) (J44 : crierlaw17_QueueOrder_J16338.S → World → Prop) (b68 : Bool) (w69 : World) : Prop :=
 cnd b68
 (st1 (.bool false) ⟨b8, 0, none⟩ w69 fun w70 =>
 ldB ⟨b8, 0, none⟩ w70 fun b71 =>
 Q (.bool b71) w70)
 (JoinT (fun (J141 : crierlaw17_QueueOrder_J522831.S → World → Prop) =>
  cnd (decide (n38 < ((a2_n : Nat) : Int)))
  (ix n38 a2_n fun j142 => nn a2 fun a143 =>
  ldB (a143.add (j142 * 1)) w69 fun b144 =>
  cnd b144
  (ldI .i64 ⟨b22, 0, none⟩ w69 fun n145 =>
  ldI .i64 ⟨b22, 1, none⟩ w69 fun n146 =>
  ldI .i64 ⟨b22, 2, none⟩ w69 fun n147 =>
  ldI .i64 ⟨b22, 3, none⟩ w69 fun n148 =>
  CV P F.queue_Queue_Left [.agg [.int .i64 n145, .int .i64 n146, .int .i64 n147, .int .i64 n148].toArray] w69 fun v149 w150 =>
  ∃ n151 : Int, v149 = .int .i64 n151 ∧
  J141 (((decide (n151 > 0)) : Bool)) w150)
  (J141 ((false : Bool)) w69))
  (J141 ((false : Bool)) w69))
  fun (s152 : crierlaw17_QueueOrder_J522831.S) w153 => crierlaw17_QueueOrder_j2 Q b8 p21 b22 b33 n37 J44 s152 w153)

def crierlaw17_QueueOrder_j4 (a2 : Option Addr) (a2_n : Nat) (Q : Value → World → Prop) (b8 : Nat) (p21 : Option Addr) (b22 : Nat) (b33 : Nat) (n37 : Int) (n38 : Int) (J44 : crierlaw17_QueueOrder_J16338.S → World → Prop) (n51 : Int) (n65 : Int) (w66 : World) : Prop :=
 JoinT (fun (J154 : crierlaw17_QueueOrder_J522830.S → World → Prop) =>
  cnd (decide (n51 < 1))
  (cnd (n65 != 2)
  (J154 ((true : Bool)) w66)
  (cnd (decide (n51 ≥ 1))
  (J154 (((n65 == 2) : Bool)) w66)
  (J154 ((false : Bool)) w66)))
  (cnd (decide (n51 ≥ 1))
  (J154 (((n65 == 2) : Bool)) w66)
  (J154 ((false : Bool)) w66)))
  fun (s155 : crierlaw17_QueueOrder_J522830.S) w156 => crierlaw17_QueueOrder_j3 a2 a2_n Q b8 p21 b22 b33 n37 n38 J44 s155 w156

def crierlaw17_QueueOrder_J65492 : LoopSpec where
  S := Bool
  emb := fun s => [(135, .bool s)]
  ext := fun t => match getL t 135 with
    | some (.bool y226) => some (y226)
    | _ => none
  slots := [135]
  fits := fun _ => rfl
  ok := by
    intro t s h x hx
    (try dsimp only at h hx)
    split at h
    · cases h
      simp only [List.mem_cons, List.not_mem_nil, or_false] at hx
      rcases hx with rfl <;> assumption
    · cases h

def crierlaw17_QueueOrder_j5 (b8 : Nat) (b187 : Nat) (l197 : Nat) (r198 : Loop) (Q201 : Value → World → Prop) (b227 : Bool) (w228 : World) : Prop :=
 cnd b227
 (st1 (.bool false) ⟨b8, 0, none⟩ w228 fun w229 =>
 recAt w229 l197 r198 .busy none ∧ setR w229 l197 r198 .done (some .ret) fun w230 => Q201 (.bool false) w230)
 (ldI .i64 ⟨b187, 0, none⟩ w228 fun n231 =>
 st1 (.int .i64 (IntKind.i64.wrap (n231 + 1))) ⟨b187, 0, none⟩ w228 fun w232 =>
 recAt w232 l197 r198 .busy none ∧ setR w232 l197 r198 .ready none fun w233 => Q201 (.bool true) w233)

def crierlaw17_QueueOrder_r6 (b8 : Nat) (b33 : Nat) (b187 : Nat) (l197 : Nat) (r198 : Loop) (vs199 : List Value) (w200 : World) (Q201 : Value → World → Prop) : Prop :=
 X.b2 vs199 fun v202 v203 =>
 ∃ n204 : Int, ∃ n205 : Int, ∃ n206 : Int, ∃ n207 : Int, ∃ n208 : Int, ∃ n209 : Int, ∃ n210 : Int, ∃ n211 : Int, ∃ b212 : Bool, v202 = .agg [.int .i64 n204, .int .i64 n205, .int .i64 n206, .int .i64 n207, .int .i64 n208, .int .i64 n209, .int .i64 n210, .int .i64 n211, .bool b212].toArray ∧
 ∃ n213 : Int, v203 = .int .i64 n213 ∧
 alc [.int .i64 0, .int .i64 0, .int .i64 0, .int .i64 0, .int .i64 0, .int .i64 0, .int .i64 0, .int .i64 0, .bool false] T.t40 w200 fun b214 w215 =>
 st1 (.int .i64 n204) ⟨b214, 0, none⟩ w215 fun w216 =>
 st1 (.int .i64 n205) ⟨b214, 1, none⟩ w216 fun w217 =>
 st1 (.int .i64 n206) ⟨b214, 2, none⟩ w217 fun w218 =>
 st1 (.int .i64 n207) ⟨b214, 3, none⟩ w218 fun w219 =>
 st1 (.int .i64 n208) ⟨b214, 4, none⟩ w219 fun w220 =>
 st1 (.int .i64 n209) ⟨b214, 5, none⟩ w220 fun w221 =>
 st1 (.int .i64 n210) ⟨b214, 6, none⟩ w221 fun w222 =>
 st1 (.int .i64 n211) ⟨b214, 7, none⟩ w222 fun w223 =>
 st1 (.bool b212) ⟨b214, 8, none⟩ w223 fun w224 =>
 recAt w224 l197 r198 .ready none ∧ setR w224 l197 r198 .busy none fun w225 =>
 JoinT (fun (J234 : crierlaw17_QueueOrder_J65492.S → World → Prop) =>
  drw w225 fun w235 =>
  ldI .i64 ⟨b187, 0, none⟩ w235 fun n236 =>
  ldL ⟨b33, 0, none⟩ w235 fun p237 l238 c239 =>
  cnd (decide (n236 ≥ ((l238 : Nat) : Int)))
  (J234 ((true : Bool)) w235)
  (cnd (n213 != 0)
  (J234 ((true : Bool)) w235)
  (ldI .i64 ⟨b214, 0, none⟩ w235 fun n240 =>
  ldI .i64 ⟨b214, 1, none⟩ w235 fun n241 =>
  ldI .i64 ⟨b214, 2, none⟩ w235 fun n242 =>
  ldI .i64 ⟨b214, 3, none⟩ w235 fun n243 =>
  ldI .i64 ⟨b214, 4, none⟩ w235 fun n244 =>
  ldI .i64 ⟨b214, 5, none⟩ w235 fun n245 =>
  ldI .i64 ⟨b214, 6, none⟩ w235 fun n246 =>
  ldI .i64 ⟨b214, 7, none⟩ w235 fun n247 =>
  ldB ⟨b214, 8, none⟩ w235 fun b248 =>
  ldL ⟨b33, 0, none⟩ w235 fun p249 l250 c251 =>
  ldI .i64 ⟨b187, 0, none⟩ w235 fun n252 =>
  ix n252 l250 fun j253 => nn p249 fun a254 =>
  ldI .i64 (a254.add (j253 * 9)) w235 fun n255 =>
  ldI .i64 ((a254.add (j253 * 9)).add 1) w235 fun n256 =>
  ldI .i64 ((a254.add (j253 * 9)).add 2) w235 fun n257 =>
  ldI .i64 ((a254.add (j253 * 9)).add 3) w235 fun n258 =>
  ldI .i64 ((a254.add (j253 * 9)).add 4) w235 fun n259 =>
  ldI .i64 ((a254.add (j253 * 9)).add 5) w235 fun n260 =>
  ldI .i64 ((a254.add (j253 * 9)).add 6) w235 fun n261 =>
  ldI .i64 ((a254.add (j253 * 9)).add 7) w235 fun n262 =>
  ldB ((a254.add (j253 * 9)).add 8) w235 fun b263 =>
  eqA P .neq T.t40 (.agg [.int .i64 n240, .int .i64 n241, .int .i64 n242, .int .i64 n243, .int .i64 n244, .int .i64 n245, .int .i64 n246, .int .i64 n247, .bool b248].toArray) (.agg [.int .i64 n255, .int .i64 n256, .int .i64 n257, .int .i64 n258, .int .i64 n259, .int .i64 n260, .int .i64 n261, .int .i64 n262, .bool b263].toArray) w235 fun b264 =>
  J234 ((b264 : Bool)) w235)))
  fun (s265 : crierlaw17_QueueOrder_J65492.S) w266 => crierlaw17_QueueOrder_j5 b8 b187 l197 r198 Q201 s265 w266

def crierlaw17_QueueOrder_J2047 : LoopSpec where
  S := Unit
  emb := fun _ => []
  ext := fun _ => some ()
  slots := []
  fits := fun _ => rfl
  ok := by
    intro t s h x hx; cases hx

def crierlaw17_QueueOrder_j7 (Q : Value → World → Prop) (b8 : Nat) (mk267 : List Deferred) (w270 : World) : Prop :=
 takeX (mk267 ++ []) w270 fun w271 =>
 ldB ⟨b8, 0, none⟩ w271 fun b272 =>
 Q (.bool b272) w271

def crierlaw17_QueueOrder_l8 (a1 : Option Addr) (a1_n : Nat) (a2 : Option Addr) (a2_n : Nat) (Q : Value → World → Prop) (b8 : Nat) (p21 : Option Addr) (b22 : Nat) (b33 : Nat) (n37 : Int) (n38 : Int) (w39 : World) (A40 : crierlaw17_QueueOrder_L2042.S → World → Prop) : Prop :=
 cnd (decide (n38 < ((a1_n : Nat) : Int)))
 (JoinT (fun (J44 : crierlaw17_QueueOrder_J16338.S → World → Prop) =>
  ldI .i64 ⟨b22, 0, none⟩ w39 fun n45 =>
  ldI .i64 ⟨b22, 1, none⟩ w39 fun n46 =>
  ldI .i64 ⟨b22, 2, none⟩ w39 fun n47 =>
  ldI .i64 ⟨b22, 3, none⟩ w39 fun n48 =>
  CV P F.queue_Queue_Room [.agg [.int .i64 n45, .int .i64 n46, .int .i64 n47, .int .i64 n48].toArray] w39 fun v49 w50 =>
  ∃ n51 : Int, v49 = .int .i64 n51 ∧
  ix n38 a1_n fun j52 => nn a1 fun a53 =>
  ldI .i64 (a53.add (j52 * 9)) w50 fun n54 =>
  ldI .i64 ((a53.add (j52 * 9)).add 1) w50 fun n55 =>
  ldI .i64 ((a53.add (j52 * 9)).add 2) w50 fun n56 =>
  ldI .i64 ((a53.add (j52 * 9)).add 3) w50 fun n57 =>
  ldI .i64 ((a53.add (j52 * 9)).add 4) w50 fun n58 =>
  ldI .i64 ((a53.add (j52 * 9)).add 5) w50 fun n59 =>
  ldI .i64 ((a53.add (j52 * 9)).add 6) w50 fun n60 =>
  ldI .i64 ((a53.add (j52 * 9)).add 7) w50 fun n61 =>
  ldB ((a53.add (j52 * 9)).add 8) w50 fun b62 =>
  CV P F.queue_Queue_Put [.pointer (some ⟨b22, 0, none⟩), .pointer p21, .agg [.int .i64 n54, .int .i64 n55, .int .i64 n56, .int .i64 n57, .int .i64 n58, .int .i64 n59, .int .i64 n60, .int .i64 n61, .bool b62].toArray] w50 fun v63 w64 =>
  ∃ n65 : Int, v63 = .int .i64 n65 ∧
  JoinT (fun (J157 : crierlaw17_QueueOrder_J130707.S → World → Prop) =>
   cnd (n65 == 0)
   (drw w64 fun w158 =>
   ldL ⟨b33, 0, none⟩ w158 fun p159 l160 c161 =>
   ix n38 a1_n fun j162 => nn a1 fun a163 =>
   ldI .i64 (a163.add (j162 * 9)) w158 fun n164 =>
   ldI .i64 ((a163.add (j162 * 9)).add 1) w158 fun n165 =>
   ldI .i64 ((a163.add (j162 * 9)).add 2) w158 fun n166 =>
   ldI .i64 ((a163.add (j162 * 9)).add 3) w158 fun n167 =>
   ldI .i64 ((a163.add (j162 * 9)).add 4) w158 fun n168 =>
   ldI .i64 ((a163.add (j162 * 9)).add 5) w158 fun n169 =>
   ldI .i64 ((a163.add (j162 * 9)).add 6) w158 fun n170 =>
   ldI .i64 ((a163.add (j162 * 9)).add 7) w158 fun n171 =>
   ldB ((a163.add (j162 * 9)).add 8) w158 fun b172 =>
   alc [.int .i64 n164, .int .i64 n165, .int .i64 n166, .int .i64 n167, .int .i64 n168, .int .i64 n169, .int .i64 n170, .int .i64 n171, .bool b172] T.t40 w158 fun b173 w174 =>
   (ldL ⟨b33, 0, none⟩ w174 fun p175 l176 c177 =>
   ((.slice p175 l176 c177 : Value) = .slice p159 l160 c161)) ∧
   runS P (Builtin.append_ #[T.t32, T.t32] T.t32 [.slice p159 l160 c161, .slice (some ⟨b173, 0, none⟩) 1 1].toArray) w174 fun p178 l179 c180 w181 =>
   st1 (.slice p178 l179 c180) ⟨b33, 0, none⟩ w181 fun w182 =>
   J157 () w182)
   (J157 () w64))
   fun (s183 : crierlaw17_QueueOrder_J130707.S) w184 => crierlaw17_QueueOrder_j4 a2 a2_n Q b8 p21 b22 b33 n37 n38 J44 n51 n65 w184)
  fun (s185 : crierlaw17_QueueOrder_J16338.S) w186 => crierlaw17_QueueOrder_j0 n38 A40 s185 w186)
 (alc [.int .i64 0] T.t3 w39 fun b187 w188 =>
 st1 (.int .i64 n37) ⟨b187, 0, none⟩ w188 fun w189 =>
 ldI .i64 ⟨b22, 0, none⟩ w189 fun n190 =>
 ldI .i64 ⟨b22, 1, none⟩ w189 fun n191 =>
 ldI .i64 ⟨b22, 2, none⟩ w189 fun n192 =>
 ldI .i64 ⟨b22, 3, none⟩ w189 fun n193 =>
 CV P F.queue_Queue_Each [.agg [.int .i64 n190, .int .i64 n191, .int .i64 n192, .int .i64 n193].toArray, .pointer p21] w189 fun v194 w195 =>
 ∃ v196 : Value, v194 = v196 ∧
 RF P none 2 (v196) w195 (fun l197 r198 vs199 w200 Q201 => crierlaw17_QueueOrder_r6 b8 b33 b187 l197 r198 vs199 w200 Q201) fun mk267 jp268 w269 =>
 jmpX jp268
 (JoinT (fun (J273 : crierlaw17_QueueOrder_J2047.S → World → Prop) =>
  drw w269 fun w274 =>
  ldI .i64 ⟨b187, 0, none⟩ w274 fun n275 =>
  ldL ⟨b33, 0, none⟩ w274 fun p276 l277 c278 =>
  cnd (n275 == ((l277 : Nat) : Int))
  (ldI .i64 ⟨b22, 0, none⟩ w274 fun n279 =>
  ldI .i64 ⟨b22, 1, none⟩ w274 fun n280 =>
  ldI .i64 ⟨b22, 2, none⟩ w274 fun n281 =>
  ldI .i64 ⟨b22, 3, none⟩ w274 fun n282 =>
  ldL ⟨b33, 0, none⟩ w274 fun p283 l284 c285 =>
  CV P F.queue_Queue_Left [.agg [.int .i64 n279, .int .i64 n280, .int .i64 n281, .int .i64 n282].toArray] w274 fun v286 w287 =>
  ∃ n288 : Int, v286 = .int .i64 n288 ∧
  (((.int .i64 ((l284 : Nat) : Int) : Value) = .int .i64 ((l284 : Nat) : Int))) ∧
  (ldL ⟨b33, 0, none⟩ w287 fun p289 l290 c291 =>
  ((.slice p289 l290 c291 : Value) = .slice p283 l284 c285)) ∧
  st1 (.bool (n288 == (IntKind.i64.wrap (((l284 : Nat) : Int) - n37)))) ⟨b8, 0, none⟩ w287 fun w292 =>
  J273 () w292)
  (st1 (.bool false) ⟨b8, 0, none⟩ w274 fun w293 =>
  J273 () w293))
  fun (s294 : crierlaw17_QueueOrder_J2047.S) w295 => crierlaw17_QueueOrder_j7 Q b8 mk267 w295)
 (takeX (mk267 ++ []) w269 fun w296 =>
 ldB ⟨b8, 0, none⟩ w296 fun b297 =>
 Q (.bool b297) w296)
 fun id298 => False)

def crierlaw17_QueueOrder_j9 (a1 : Option Addr) (a1_n : Nat) (a2 : Option Addr) (a2_n : Nat) (Q : Value → World → Prop) (b8 : Nat) (p21 : Option Addr) (b22 : Nat) (b29 : Bool) (w30 : World) : Prop :=
 cnd b29
 (st1 (.bool false) ⟨b8, 0, none⟩ w30 fun w31 =>
 ldB ⟨b8, 0, none⟩ w31 fun b32 =>
 Q (.bool b32) w31)
 (alc [.slice none 0 0] T.t32 w30 fun b33 w34 =>
 LoopT (fun (s299 : crierlaw17_QueueOrder_L2042.S) w300 A301 => crierlaw17_QueueOrder_l8 a1 a1_n a2 a2_n Q b8 p21 b22 b33 s299.1 s299.2 w300 A301) ((0 : Int), (0 : Int)) w34)

def crierlaw17_QueueOrder (a0 : Int) (a1 : Option Addr) (a1_n : Nat) (a1_c : Nat) (a2 : Option Addr) (a2_n : Nat) (a2_c : Nat) (w : World) (Q : Value → World → Prop) : Prop :=
 alc [.bool false] T.t4 w fun b8 w9 =>
 CV P F.crierlaw17_awake [] w9 fun v10 w11 =>
 ∃ b12 : Bool, v10 = .bool b12 ∧
 cnd (!b12)
 (st1 (.bool false) ⟨b8, 0, none⟩ w11 fun w13 =>
 ldB ⟨b8, 0, none⟩ w13 fun b14 =>
 Q (.bool b14) w13)
 (CV P F.crierlaw17_fresh [.int .u8 a0] w11 fun v15 w16 =>
 ∃ n17 : Int, ∃ n18 : Int, ∃ n19 : Int, ∃ n20 : Int, ∃ p21 : Option Addr, v15 = .tuple [.agg [.int .i64 n17, .int .i64 n18, .int .i64 n19, .int .i64 n20].toArray, .pointer p21].toArray ∧
 alc [.int .i64 0, .int .i64 0, .int .i64 0, .int .i64 0] T.t26 w16 fun b22 w23 =>
 st1 (.int .i64 n17) ⟨b22, 0, none⟩ w23 fun w24 =>
 st1 (.int .i64 n18) ⟨b22, 1, none⟩ w24 fun w25 =>
 st1 (.int .i64 n19) ⟨b22, 2, none⟩ w25 fun w26 =>
 st1 (.int .i64 n20) ⟨b22, 3, none⟩ w26 fun w27 =>
 JoinT (fun (J302 : crierlaw17_QueueOrder_J62.S → World → Prop) =>
  cnd (!b12)
  (J302 ((true : Bool)) w27)
  (J302 (((Option.isNone p21) : Bool)) w27))
  fun (s303 : crierlaw17_QueueOrder_J62.S) w304 => crierlaw17_QueueOrder_j9 a1 a1_n a2 a2_n Q b8 p21 b22 s303 w304)
def crierlaw17_QueueOrder_ann : Nat → Option LoopSpec := fun
  | 62 => some crierlaw17_QueueOrder_J62
  | 2042 => some crierlaw17_QueueOrder_L2042
  | 16338 => some crierlaw17_QueueOrder_J16338
  | 130707 => some crierlaw17_QueueOrder_J130707
  | 522830 => some crierlaw17_QueueOrder_J522830
  | 522831 => some crierlaw17_QueueOrder_J522831
  | 8365306 => some crierlaw17_QueueOrder_J8365306
  | 16730612 => some (ordSpec [0, 1, 2, 3, 4, 5, 6, 7, 8, 9, 10, 11, 12, 13, 14, 15, 16, 17, 18, 19])
  | 1045658 => some (ordSpec [0, 1, 2, 3, 4, 5, 6, 7])
  | 65492 => some crierlaw17_QueueOrder_J65492
  | 130984 => some (ordSpec [0, 1, 2, 3, 4, 5, 6, 7, 8, 9, 10, 11, 12, 13, 14, 15])
  | 2047 => some crierlaw17_QueueOrder_J2047
  | 4094 => some (ordSpec [0, 1, 2, 3, 4, 5, 7, 8, 9, 10, 6, 11, 12, 13])
  | _ => none
theorem crierlaw17_QueueOrder_eq (a0 : Int) (a1 : Option Addr) (a1_n : Nat) (a1_c : Nat) (a2 : Option Addr) (a2_n : Nat) (a2_c : Nat) (w : World) (Q : Value → World → Prop) : fnX P crierlaw17_QueueOrder_ann Try.f4 [.int .u8 a0, .slice a1 a1_n a1_c, .slice a2 a2_n a2_c] w Q = crierlaw17_QueueOrder a0 a1 a1_n a1_c a2 a2_n a2_c w Q := by kernel_rfl
theorem crierlaw17_QueueOrder_cv {a0 : Int} {a1 : Option Addr} {a1_n : Nat} {a1_c : Nat} {a2 : Option Addr} {a2_n : Nat} {a2_c : Nat} {w : World} {Q : Value → World → Prop} (h : crierlaw17_QueueOrder a0 a1 a1_n a1_c a2 a2_n a2_c w Q) : CV P F.crierlaw17_QueueOrder [.int .u8 a0, .slice a1 a1_n a1_c, .slice a2 a2_n a2_c] w Q := CV_of mixed Try.func4 (crierlaw17_QueueOrder_eq a0 a1 a1_n a1_c a2 a2_n a2_c w Q ▸ h)

/- 5 crier/crierlaw17.QueueFills -/
def crierlaw17_QueueFills_J62 : LoopSpec where
  S := Bool
  emb := fun s => [(26, .bool s)]
  ext := fun t => match getL t 26 with
    | some (.bool y21) => some (y21)
    | _ => none
  slots := [26]
  fits := fun _ => rfl
  ok := by
    intro t s h x hx
    (try dsimp only at h hx)
    split at h
    · cases h
      simp only [List.mem_cons, List.not_mem_nil, or_false] at hx
      rcases hx with rfl <;> assumption
    · cases h

def crierlaw17_QueueFills_J510 : LoopSpec where
  S := Bool
  emb := fun s => [(61, .bool s)]
  ext := fun t => match getL t 61 with
    | some (.bool y35) => some (y35)
    | _ => none
  slots := [61]
  fits := fun _ => rfl
  ok := by
    intro t s h x hx
    (try dsimp only at h hx)
    split at h
    · cases h
      simp only [List.mem_cons, List.not_mem_nil, or_false] at hx
      rcases hx with rfl <;> assumption
    · cases h

def crierlaw17_QueueFills_J65454 : LoopSpec where
  S := Bool
  emb := fun s => [(4, .bool s)]
  ext := fun t => match getL t 4 with
    | some (.bool y38) => some (y38)
    | _ => none
  slots := [4]
  fits := fun _ => rfl
  ok := by
    intro t s h x hx
    (try dsimp only at h hx)
    split at h
    · cases h
      simp only [List.mem_cons, List.not_mem_nil, or_false] at hx
      rcases hx with rfl <;> assumption
    · cases h

def crierlaw17_QueueFills_j0 (Q : Value → World → Prop) (b39 : Bool) (w40 : World) : Prop :=
 Q (.bool b39) w40

def crierlaw17_QueueFills_J2047 : LoopSpec where
  S := Bool
  emb := fun s => [(4, .bool s)]
  ext := fun t => match getL t 4 with
    | some (.bool y68) => some (y68)
    | _ => none
  slots := [4]
  fits := fun _ => rfl
  ok := by
    intro t s h x hx
    (try dsimp only at h hx)
    split at h
    · cases h
      simp only [List.mem_cons, List.not_mem_nil, or_false] at hx
      rcases hx with rfl <;> assumption
    · cases h

def crierlaw17_QueueFills_j1 (Q : Value → World → Prop) (b69 : Bool) (w70 : World) : Prop :=
 Q (.bool b69) w70

def crierlaw17_QueueFills_j2 (a1 : Option Addr) (a1_n : Nat) (Q : Value → World → Prop) (n30 : Int) (n33 : Int) (n34 : Int) (b36 : Bool) (w37 : World) : Prop :=
 cnd b36
 (Q (.bool false) w37)
 (cnd (n34 == 0)
 (Q (.bool (n33 == ((a1_n : Nat) : Int))) w37)
 (cnd (n34 == 2)
 (JoinT (fun (J41 : crierlaw17_QueueFills_J65454.S → World → Prop) =>
  cnd (n33 == n30)
  (J41 (((decide (n33 < ((a1_n : Nat) : Int))) : Bool)) w37)
  (J41 ((false : Bool)) w37))
  fun (s42 : crierlaw17_QueueFills_J65454.S) w43 => crierlaw17_QueueFills_j0 Q s42 w43)
 (ix (if (IntKind.i64.wrap (((a1_n : Nat) : Int) - 1)) < n33 then (IntKind.i64.wrap (((a1_n : Nat) : Int) - 1)) else n33) a1_n fun j44 => nn a1 fun a45 =>
 ldI .i64 (a45.add (j44 * 9)) w37 fun n46 =>
 ldI .i64 ((a45.add (j44 * 9)).add 1) w37 fun n47 =>
 ldI .i64 ((a45.add (j44 * 9)).add 2) w37 fun n48 =>
 ldI .i64 ((a45.add (j44 * 9)).add 3) w37 fun n49 =>
 ldI .i64 ((a45.add (j44 * 9)).add 4) w37 fun n50 =>
 ldI .i64 ((a45.add (j44 * 9)).add 5) w37 fun n51 =>
 ldI .i64 ((a45.add (j44 * 9)).add 6) w37 fun n52 =>
 ldI .i64 ((a45.add (j44 * 9)).add 7) w37 fun n53 =>
 ldB ((a45.add (j44 * 9)).add 8) w37 fun b54 =>
 CV P F.crierref16_Encode [.agg [.int .i64 n46, .int .i64 n47, .int .i64 n48, .int .i64 n49, .int .i64 n50, .int .i64 n51, .int .i64 n52, .int .i64 n53, .bool b54].toArray] w37 fun v55 w56 =>
 ∃ n57 : Int, ∃ n58 : Int, ∃ n59 : Int, ∃ n60 : Int, ∃ b61 : Bool, v55 = .tuple [.agg [.int .u64 n57, .int .u64 n58, .int .u64 n59, .int .u64 n60].toArray, .bool b61].toArray ∧
 alc [.int .u64 0, .int .u64 0, .int .u64 0, .int .u64 0] T.t51 w56 fun b62 w63 =>
 st1 (.int .u64 n57) ⟨b62, 0, none⟩ w63 fun w64 =>
 st1 (.int .u64 n58) ⟨b62, 1, none⟩ w64 fun w65 =>
 st1 (.int .u64 n59) ⟨b62, 2, none⟩ w65 fun w66 =>
 st1 (.int .u64 n60) ⟨b62, 3, none⟩ w66 fun w67 =>
 JoinT (fun (J71 : crierlaw17_QueueFills_J2047.S → World → Prop) =>
  cnd (decide (n33 < ((a1_n : Nat) : Int)))
  (J71 (((!b61) : Bool)) w67)
  (J71 ((false : Bool)) w67))
  fun (s72 : crierlaw17_QueueFills_J2047.S) w73 => crierlaw17_QueueFills_j1 Q s72 w73)))

def crierlaw17_QueueFills_j3 (a1 : Option Addr) (a1_n : Nat) (a1_c : Nat) (Q : Value → World → Prop) (p14 : Option Addr) (b15 : Nat) (b22 : Bool) (w23 : World) : Prop :=
 cnd b22
 (Q (.bool false) w23)
 (ldI .i64 ⟨b15, 0, none⟩ w23 fun n24 =>
 ldI .i64 ⟨b15, 1, none⟩ w23 fun n25 =>
 ldI .i64 ⟨b15, 2, none⟩ w23 fun n26 =>
 ldI .i64 ⟨b15, 3, none⟩ w23 fun n27 =>
 CV P F.queue_Queue_Room [.agg [.int .i64 n24, .int .i64 n25, .int .i64 n26, .int .i64 n27].toArray] w23 fun v28 w29 =>
 ∃ n30 : Int, v28 = .int .i64 n30 ∧
 CV P F.queue_Queue_Fill [.pointer (some ⟨b15, 0, none⟩), .pointer p14, .slice a1 a1_n a1_c] w29 fun v31 w32 =>
 ∃ n33 : Int, ∃ n34 : Int, v31 = .tuple [.int .i64 n33, .int .i64 n34].toArray ∧
 JoinT (fun (J74 : crierlaw17_QueueFills_J510.S → World → Prop) =>
  cnd (decide (n33 < 0))
  (J74 ((true : Bool)) w32)
  (cnd (decide (n33 > n30))
  (J74 ((true : Bool)) w32)
  (cnd (decide (n33 > ((a1_n : Nat) : Int)))
  (J74 ((true : Bool)) w32)
  (ldI .i64 ⟨b15, 0, none⟩ w32 fun n75 =>
  ldI .i64 ⟨b15, 1, none⟩ w32 fun n76 =>
  ldI .i64 ⟨b15, 2, none⟩ w32 fun n77 =>
  ldI .i64 ⟨b15, 3, none⟩ w32 fun n78 =>
  CV P F.queue_Queue_Left [.agg [.int .i64 n75, .int .i64 n76, .int .i64 n77, .int .i64 n78].toArray] w32 fun v79 w80 =>
  ∃ n81 : Int, v79 = .int .i64 n81 ∧
  cnd (n81 != n33)
  (J74 ((true : Bool)) w80)
  (ldI .i64 ⟨b15, 0, none⟩ w80 fun n82 =>
  ldI .i64 ⟨b15, 1, none⟩ w80 fun n83 =>
  ldI .i64 ⟨b15, 2, none⟩ w80 fun n84 =>
  ldI .i64 ⟨b15, 3, none⟩ w80 fun n85 =>
  CV P F.queue_Queue_Room [.agg [.int .i64 n82, .int .i64 n83, .int .i64 n84, .int .i64 n85].toArray] w80 fun v86 w87 =>
  ∃ n88 : Int, v86 = .int .i64 n88 ∧
  J74 (((n88 != (IntKind.i64.wrap (n30 - n33))) : Bool)) w87)))))
  fun (s89 : crierlaw17_QueueFills_J510.S) w90 => crierlaw17_QueueFills_j2 a1 a1_n Q n30 n33 n34 s89 w90)

def crierlaw17_QueueFills (a0 : Int) (a1 : Option Addr) (a1_n : Nat) (a1_c : Nat) (w : World) (Q : Value → World → Prop) : Prop :=
 CV P F.crierlaw17_awake [] w fun v5 w6 =>
 ∃ b7 : Bool, v5 = .bool b7 ∧
 cnd (!b7)
 (Q (.bool false) w6)
 (CV P F.crierlaw17_fresh [.int .u8 a0] w6 fun v8 w9 =>
 ∃ n10 : Int, ∃ n11 : Int, ∃ n12 : Int, ∃ n13 : Int, ∃ p14 : Option Addr, v8 = .tuple [.agg [.int .i64 n10, .int .i64 n11, .int .i64 n12, .int .i64 n13].toArray, .pointer p14].toArray ∧
 alc [.int .i64 0, .int .i64 0, .int .i64 0, .int .i64 0] T.t26 w9 fun b15 w16 =>
 st1 (.int .i64 n10) ⟨b15, 0, none⟩ w16 fun w17 =>
 st1 (.int .i64 n11) ⟨b15, 1, none⟩ w17 fun w18 =>
 st1 (.int .i64 n12) ⟨b15, 2, none⟩ w18 fun w19 =>
 st1 (.int .i64 n13) ⟨b15, 3, none⟩ w19 fun w20 =>
 JoinT (fun (J91 : crierlaw17_QueueFills_J62.S → World → Prop) =>
  cnd (!b7)
  (J91 ((true : Bool)) w20)
  (J91 (((Option.isNone p14) : Bool)) w20))
  fun (s92 : crierlaw17_QueueFills_J62.S) w93 => crierlaw17_QueueFills_j3 a1 a1_n a1_c Q p14 b15 s92 w93)
def crierlaw17_QueueFills_ann : Nat → Option LoopSpec := fun
  | 62 => some crierlaw17_QueueFills_J62
  | 510 => some crierlaw17_QueueFills_J510
  | 65454 => some crierlaw17_QueueFills_J65454
  | 2047 => some crierlaw17_QueueFills_J2047
  | _ => none
theorem crierlaw17_QueueFills_eq (a0 : Int) (a1 : Option Addr) (a1_n : Nat) (a1_c : Nat) (w : World) (Q : Value → World → Prop) : fnX P crierlaw17_QueueFills_ann Try.f5 [.int .u8 a0, .slice a1 a1_n a1_c] w Q = crierlaw17_QueueFills a0 a1 a1_n a1_c w Q := by kernel_rfl
theorem crierlaw17_QueueFills_cv {a0 : Int} {a1 : Option Addr} {a1_n : Nat} {a1_c : Nat} {w : World} {Q : Value → World → Prop} (h : crierlaw17_QueueFills a0 a1 a1_n a1_c w Q) : CV P F.crierlaw17_QueueFills [.int .u8 a0, .slice a1 a1_n a1_c] w Q := CV_of mixed Try.func5 (crierlaw17_QueueFills_eq a0 a1 a1_n a1_c w Q ▸ h)

/- 6 crier/crierlaw17.QueueLoop -/
def crierlaw17_QueueLoop_J62 : LoopSpec where
  S := Bool
  emb := fun s => [(28, .bool s)]
  ext := fun t => match getL t 28 with
    | some (.bool y30) => some (y30)
    | _ => none
  slots := [28]
  fits := fun _ => rfl
  ok := by
    intro t s h x hx
    (try dsimp only at h hx)
    split at h
    · cases h
      simp only [List.mem_cons, List.not_mem_nil, or_false] at hx
      rcases hx with rfl <;> assumption
    · cases h

def crierlaw17_QueueLoop_J1021 : LoopSpec where
  S := Unit
  emb := fun _ => []
  ext := fun _ => some ()
  slots := []
  fits := fun _ => rfl
  ok := by
    intro t s h x hx; cases hx

def crierlaw17_QueueLoop_J511 : LoopSpec where
  S := Unit
  emb := fun _ => []
  ext := fun _ => some ()
  slots := []
  fits := fun _ => rfl
  ok := by
    intro t s h x hx; cases hx

def crierlaw17_QueueLoop_j0 (Q : Value → World → Prop) (b10 : Nat) (ds56 : List Deferred) (w57 : World) : Prop :=
 takeX ds56 w57 fun w58 =>
 ldB ⟨b10, 0, none⟩ w58 fun b59 =>
 Q (.bool b59) w58

def crierlaw17_QueueLoop_j1 (Q : Value → World → Prop) (b8 : Nat) (b10 : Nat) (p23 : Option Addr) (b24 : Nat) (b42 : Nat) (b45 : Nat) (w55 : World) (ds56 : List Deferred) : Prop :=
 JoinT (fun (J60 : crierlaw17_QueueLoop_J511.S → World → Prop) =>
  ldI .i64 ⟨b45, 0, none⟩ w55 fun n61 =>
  ldI .i64 ⟨b42, 0, none⟩ w55 fun n62 =>
  ldI .u8 ⟨b8, 0, none⟩ w55 fun n63 =>
  cnd (n61 == (if (IntKind.i64.wrap (n63)) < n62 then (IntKind.i64.wrap (n63)) else n62))
  (ldI .i64 ⟨b24, 0, none⟩ w55 fun n64 =>
  ldI .i64 ⟨b24, 1, none⟩ w55 fun n65 =>
  ldI .i64 ⟨b24, 2, none⟩ w55 fun n66 =>
  ldI .i64 ⟨b24, 3, none⟩ w55 fun n67 =>
  CV P F.queue_Queue_Wrong [.agg [.int .i64 n64, .int .i64 n65, .int .i64 n66, .int .i64 n67].toArray, .pointer p23] w55 fun v68 w69 =>
  ∃ n70 : Int, v68 = .int .i64 n70 ∧
  st1 (.bool (n70 == 0)) ⟨b10, 0, none⟩ w69 fun w71 =>
  J60 () w71)
  (st1 (.bool false) ⟨b10, 0, none⟩ w55 fun w72 =>
  J60 () w72))
  fun (s73 : crierlaw17_QueueLoop_J511.S) w74 => crierlaw17_QueueLoop_j0 Q b10 ds56 w74

def crierlaw17_QueueLoop_J32682 : LoopSpec where
  S := Bool
  emb := fun s => [(58, .bool s)]
  ext := fun t => match getL t 58 with
    | some (.bool y108) => some (y108)
    | _ => none
  slots := [58]
  fits := fun _ => rfl
  ok := by
    intro t s h x hx
    (try dsimp only at h hx)
    split at h
    · cases h
      simp only [List.mem_cons, List.not_mem_nil, or_false] at hx
      rcases hx with rfl <;> assumption
    · cases h

def crierlaw17_QueueLoop_j2 (b10 : Nat) (b45 : Nat) (l76 : Nat) (r77 : Loop) (Q80 : Value → World → Prop) (b109 : Bool) (w110 : World) : Prop :=
 cnd b109
 (st1 (.bool false) ⟨b10, 0, none⟩ w110 fun w111 =>
 recAt w111 l76 r77 .busy none ∧ setR w111 l76 r77 .done (some .ret) fun w112 => Q80 (.bool false) w112)
 (ldI .i64 ⟨b45, 0, none⟩ w110 fun n113 =>
 st1 (.int .i64 (IntKind.i64.wrap (n113 + 1))) ⟨b45, 0, none⟩ w110 fun w114 =>
 recAt w114 l76 r77 .busy none ∧ setR w114 l76 r77 .ready none fun w115 => Q80 (.bool true) w115)

def crierlaw17_QueueLoop_r3 (b6 : Nat) (b8 : Nat) (b10 : Nat) (b42 : Nat) (b45 : Nat) (l76 : Nat) (r77 : Loop) (vs78 : List Value) (w79 : World) (Q80 : Value → World → Prop) : Prop :=
 X.b2 vs78 fun v81 v82 =>
 ∃ n83 : Int, ∃ n84 : Int, ∃ n85 : Int, ∃ n86 : Int, ∃ n87 : Int, ∃ n88 : Int, ∃ n89 : Int, ∃ n90 : Int, ∃ b91 : Bool, v81 = .agg [.int .i64 n83, .int .i64 n84, .int .i64 n85, .int .i64 n86, .int .i64 n87, .int .i64 n88, .int .i64 n89, .int .i64 n90, .bool b91].toArray ∧
 ∃ n92 : Int, v82 = .int .i64 n92 ∧
 alc [.int .i64 0, .int .i64 0, .int .i64 0, .int .i64 0, .int .i64 0, .int .i64 0, .int .i64 0, .int .i64 0, .bool false] T.t40 w79 fun b93 w94 =>
 st1 (.int .i64 n83) ⟨b93, 0, none⟩ w94 fun w95 =>
 st1 (.int .i64 n84) ⟨b93, 1, none⟩ w95 fun w96 =>
 st1 (.int .i64 n85) ⟨b93, 2, none⟩ w96 fun w97 =>
 st1 (.int .i64 n86) ⟨b93, 3, none⟩ w97 fun w98 =>
 st1 (.int .i64 n87) ⟨b93, 4, none⟩ w98 fun w99 =>
 st1 (.int .i64 n88) ⟨b93, 5, none⟩ w99 fun w100 =>
 st1 (.int .i64 n89) ⟨b93, 6, none⟩ w100 fun w101 =>
 st1 (.int .i64 n90) ⟨b93, 7, none⟩ w101 fun w102 =>
 st1 (.bool b91) ⟨b93, 8, none⟩ w102 fun w103 =>
 recAt w103 l76 r77 .ready none ∧ setR w103 l76 r77 .busy none fun w104 =>
 ldI .i64 ⟨b45, 0, none⟩ w104 fun n105 =>
 ldI .u8 ⟨b8, 0, none⟩ w104 fun n106 =>
 cnd (n105 == (IntKind.i64.wrap (n106)))
 (recAt w104 l76 r77 .busy none ∧ setR w104 l76 r77 .done (some (.exit 0)) fun w107 => Q80 (.bool false) w107)
 (JoinT (fun (J116 : crierlaw17_QueueLoop_J32682.S → World → Prop) =>
  drw w104 fun w117 =>
  ldI .i64 ⟨b45, 0, none⟩ w117 fun n118 =>
  ldI .i64 ⟨b42, 0, none⟩ w117 fun n119 =>
  cnd (decide (n118 ≥ n119))
  (J116 ((true : Bool)) w117)
  (cnd (n92 != 0)
  (J116 ((true : Bool)) w117)
  (ldI .i64 ⟨b93, 0, none⟩ w117 fun n120 =>
  ldI .i64 ⟨b93, 1, none⟩ w117 fun n121 =>
  ldI .i64 ⟨b93, 2, none⟩ w117 fun n122 =>
  ldI .i64 ⟨b93, 3, none⟩ w117 fun n123 =>
  ldI .i64 ⟨b93, 4, none⟩ w117 fun n124 =>
  ldI .i64 ⟨b93, 5, none⟩ w117 fun n125 =>
  ldI .i64 ⟨b93, 6, none⟩ w117 fun n126 =>
  ldI .i64 ⟨b93, 7, none⟩ w117 fun n127 =>
  ldB ⟨b93, 8, none⟩ w117 fun b128 =>
  ldL ⟨b6, 0, none⟩ w117 fun p129 l130 c131 =>
  ldI .i64 ⟨b45, 0, none⟩ w117 fun n132 =>
  ix n132 l130 fun j133 => nn p129 fun a134 =>
  ldI .i64 (a134.add (j133 * 9)) w117 fun n135 =>
  ldI .i64 ((a134.add (j133 * 9)).add 1) w117 fun n136 =>
  ldI .i64 ((a134.add (j133 * 9)).add 2) w117 fun n137 =>
  ldI .i64 ((a134.add (j133 * 9)).add 3) w117 fun n138 =>
  ldI .i64 ((a134.add (j133 * 9)).add 4) w117 fun n139 =>
  ldI .i64 ((a134.add (j133 * 9)).add 5) w117 fun n140 =>
  ldI .i64 ((a134.add (j133 * 9)).add 6) w117 fun n141 =>
  ldI .i64 ((a134.add (j133 * 9)).add 7) w117 fun n142 =>
  ldB ((a134.add (j133 * 9)).add 8) w117 fun b143 =>
  eqA P .neq T.t40 (.agg [.int .i64 n120, .int .i64 n121, .int .i64 n122, .int .i64 n123, .int .i64 n124, .int .i64 n125, .int .i64 n126, .int .i64 n127, .bool b128].toArray) (.agg [.int .i64 n135, .int .i64 n136, .int .i64 n137, .int .i64 n138, .int .i64 n139, .int .i64 n140, .int .i64 n141, .int .i64 n142, .bool b143].toArray) w117 fun b144 =>
  J116 ((b144 : Bool)) w117)))
  fun (s145 : crierlaw17_QueueLoop_J32682.S) w146 => crierlaw17_QueueLoop_j2 b10 b45 l76 r77 Q80 s145 w146)

def crierlaw17_QueueLoop_j4 (Q : Value → World → Prop) (b6 : Nat) (b8 : Nat) (b10 : Nat) (p23 : Option Addr) (b24 : Nat) (b31 : Bool) (w32 : World) : Prop :=
 cnd b31
 (st1 (.bool false) ⟨b10, 0, none⟩ w32 fun w33 =>
 ldB ⟨b10, 0, none⟩ w33 fun b34 =>
 Q (.bool b34) w33)
 (ldL ⟨b6, 0, none⟩ w32 fun p35 l36 c37 =>
 CV P F.queue_Queue_Fill [.pointer (some ⟨b24, 0, none⟩), .pointer p23, .slice p35 l36 c37] w32 fun v38 w39 =>
 ∃ n40 : Int, ∃ n41 : Int, v38 = .tuple [.int .i64 n40, .int .i64 n41].toArray ∧
 alc [.int .i64 0] T.t3 w39 fun b42 w43 =>
 st1 (.int .i64 n40) ⟨b42, 0, none⟩ w43 fun w44 =>
 alc [.int .i64 0] T.t3 w44 fun b45 w46 =>
 st1 (.int .i64 0) ⟨b45, 0, none⟩ w46 fun w47 =>
 ldI .i64 ⟨b24, 0, none⟩ w47 fun n48 =>
 ldI .i64 ⟨b24, 1, none⟩ w47 fun n49 =>
 ldI .i64 ⟨b24, 2, none⟩ w47 fun n50 =>
 ldI .i64 ⟨b24, 3, none⟩ w47 fun n51 =>
 CV P F.queue_Queue_Each [.agg [.int .i64 n48, .int .i64 n49, .int .i64 n50, .int .i64 n51].toArray, .pointer p23] w47 fun v52 w53 =>
 ∃ v54 : Value, v52 = v54 ∧
 JoinT (fun (J75 : crierlaw17_QueueLoop_J1021.S × List Deferred → World → Prop) =>
  RF P none 2 (v54) w53 (fun l76 r77 vs78 w79 Q80 => crierlaw17_QueueLoop_r3 b6 b8 b10 b42 b45 l76 r77 vs78 w79 Q80) fun mk147 jp148 w149 =>
  jmpX jp148
  (J75 ((), (mk147 ++ [])) w149)
  (takeX (mk147 ++ []) w149 fun w150 =>
  ldB ⟨b10, 0, none⟩ w150 fun b151 =>
  Q (.bool b151) w150)
  fun id152 => (id152 = 0 → (J75 ((), (mk147 ++ [])) w149)) ∧ (id152 ≠ 0 → (False)))
  fun (s153 : crierlaw17_QueueLoop_J1021.S × List Deferred) w154 => crierlaw17_QueueLoop_j1 Q b8 b10 p23 b24 b42 b45 w154 s153.2)

def crierlaw17_QueueLoop (a0 : Int) (a1 : Option Addr) (a1_n : Nat) (a1_c : Nat) (a2 : Int) (w : World) (Q : Value → World → Prop) : Prop :=
 alc [.slice a1 a1_n a1_c] T.t32 w fun b6 w7 =>
 alc [.int .u8 a2] T.t5 w7 fun b8 w9 =>
 alc [.bool false] T.t4 w9 fun b10 w11 =>
 CV P F.crierlaw17_awake [] w11 fun v12 w13 =>
 ∃ b14 : Bool, v12 = .bool b14 ∧
 cnd (!b14)
 (st1 (.bool false) ⟨b10, 0, none⟩ w13 fun w15 =>
 ldB ⟨b10, 0, none⟩ w15 fun b16 =>
 Q (.bool b16) w15)
 (CV P F.crierlaw17_fresh [.int .u8 a0] w13 fun v17 w18 =>
 ∃ n19 : Int, ∃ n20 : Int, ∃ n21 : Int, ∃ n22 : Int, ∃ p23 : Option Addr, v17 = .tuple [.agg [.int .i64 n19, .int .i64 n20, .int .i64 n21, .int .i64 n22].toArray, .pointer p23].toArray ∧
 alc [.int .i64 0, .int .i64 0, .int .i64 0, .int .i64 0] T.t26 w18 fun b24 w25 =>
 st1 (.int .i64 n19) ⟨b24, 0, none⟩ w25 fun w26 =>
 st1 (.int .i64 n20) ⟨b24, 1, none⟩ w26 fun w27 =>
 st1 (.int .i64 n21) ⟨b24, 2, none⟩ w27 fun w28 =>
 st1 (.int .i64 n22) ⟨b24, 3, none⟩ w28 fun w29 =>
 JoinT (fun (J155 : crierlaw17_QueueLoop_J62.S → World → Prop) =>
  cnd (!b14)
  (J155 ((true : Bool)) w29)
  (J155 (((Option.isNone p23) : Bool)) w29))
  fun (s156 : crierlaw17_QueueLoop_J62.S) w157 => crierlaw17_QueueLoop_j4 Q b6 b8 b10 p23 b24 s156 w157)
def crierlaw17_QueueLoop_ann : Nat → Option LoopSpec := fun
  | 62 => some crierlaw17_QueueLoop_J62
  | 1021 => some crierlaw17_QueueLoop_J1021
  | 511 => some crierlaw17_QueueLoop_J511
  | 32682 => some crierlaw17_QueueLoop_J32682
  | 65364 => some (ordSpec [0, 1, 2, 3, 4, 5, 6, 7, 8, 9, 10, 11, 12, 13, 14])
  | _ => none
theorem crierlaw17_QueueLoop_eq (a0 : Int) (a1 : Option Addr) (a1_n : Nat) (a1_c : Nat) (a2 : Int) (w : World) (Q : Value → World → Prop) : fnX P crierlaw17_QueueLoop_ann Try.f6 [.int .u8 a0, .slice a1 a1_n a1_c, .int .u8 a2] w Q = crierlaw17_QueueLoop a0 a1 a1_n a1_c a2 w Q := by kernel_rfl
theorem crierlaw17_QueueLoop_cv {a0 : Int} {a1 : Option Addr} {a1_n : Nat} {a1_c : Nat} {a2 : Int} {w : World} {Q : Value → World → Prop} (h : crierlaw17_QueueLoop a0 a1 a1_n a1_c a2 w Q) : CV P F.crierlaw17_QueueLoop [.int .u8 a0, .slice a1 a1_n a1_c, .int .u8 a2] w Q := CV_of mixed Try.func6 (crierlaw17_QueueLoop_eq a0 a1 a1_n a1_c a2 w Q ▸ h)

/- 7 crier/crierlaw17.QueueDoes -/
def crierlaw17_QueueDoes_J62 : LoopSpec where
  S := Bool
  emb := fun s => [(26, .bool s)]
  ext := fun t => match getL t 26 with
    | some (.bool y18) => some (y18)
    | _ => none
  slots := [26]
  fits := fun _ => rfl
  ok := by
    intro t s h x hx
    (try dsimp only at h hx)
    split at h
    · cases h
      simp only [List.mem_cons, List.not_mem_nil, or_false] at hx
      rcases hx with rfl <;> assumption
    · cases h

def crierlaw17_QueueDoes_L1018 : LoopSpec where
  S := Int
  emb := fun s => [(11, .int .i64 s)]
  ext := fun t => match getL t 11 with
    | some (.int .i64 y37) => some (y37)
    | _ => none
  slots := [11]
  fits := fun _ => rfl
  ok := by
    intro t s h x hx
    (try dsimp only at h hx)
    split at h
    · cases h
      simp only [List.mem_cons, List.not_mem_nil, or_false] at hx
      rcases hx with rfl <;> assumption
    · cases h

def crierlaw17_QueueDoes_J32585 : LoopSpec where
  S := Bool
  emb := fun s => [(51, .bool s)]
  ext := fun t => match getL t 51 with
    | some (.bool y69) => some (y69)
    | _ => none
  slots := [51]
  fits := fun _ => rfl
  ok := by
    intro t s h x hx
    (try dsimp only at h hx)
    split at h
    · cases h
      simp only [List.mem_cons, List.not_mem_nil, or_false] at hx
      rcases hx with rfl <;> assumption
    · cases h

def crierlaw17_QueueDoes_j0 (Q : Value → World → Prop) (n38 : Int) (A40 : crierlaw17_QueueDoes_L1018.S → World → Prop) (b70 : Bool) (w71 : World) : Prop :=
 cnd b70
 (Q (.bool false) w71)
 (A40 (((IntKind.i64.wrap (n38 + 1)) : Int)) w71)

def crierlaw17_QueueDoes_l1 (a2 : Option Addr) (a2_n : Nat) (Q : Value → World → Prop) (b9 : Nat) (p16 : Option Addr) (p17 : Option Addr) (b31 : Nat) (n38 : Int) (w39 : World) (A40 : crierlaw17_QueueDoes_L1018.S → World → Prop) : Prop :=
 cnd (decide (n38 < ((a2_n : Nat) : Int)))
 (ix n38 a2_n fun j41 => nn a2 fun a42 =>
 ldI .i64 (a42.add (j41 * 12)) w39 fun n43 =>
 ldI .i64 ((a42.add (j41 * 12)).add 1) w39 fun n44 =>
 ldI .i64 ((a42.add (j41 * 12)).add 2) w39 fun n45 =>
 ldI .i64 ((a42.add (j41 * 12)).add 3) w39 fun n46 =>
 ldI .i64 ((a42.add (j41 * 12)).add 4) w39 fun n47 =>
 ldI .i64 ((a42.add (j41 * 12)).add 5) w39 fun n48 =>
 ldI .i64 ((a42.add (j41 * 12)).add 6) w39 fun n49 =>
 ldI .i64 ((a42.add (j41 * 12)).add 7) w39 fun n50 =>
 ldI .i64 ((a42.add (j41 * 12)).add 8) w39 fun n51 =>
 ldI .i64 ((a42.add (j41 * 12)).add 9) w39 fun n52 =>
 ldB ((a42.add (j41 * 12)).add 10) w39 fun b53 =>
 ldI .u64 ((a42.add (j41 * 12)).add 11) w39 fun n54 =>
 alc [.int .i64 0, .int .i64 0, .int .i64 0, .int .i64 0, .int .i64 0, .int .i64 0, .int .i64 0, .int .i64 0, .int .i64 0, .int .i64 0, .bool false, .int .u64 0] T.t64 w39 fun b55 w56 =>
 st1 (.int .i64 n43) ⟨b55, 0, none⟩ w56 fun w57 =>
 st1 (.int .i64 n44) ⟨b55, 1, none⟩ w57 fun w58 =>
 st1 (.int .i64 n45) ⟨b55, 2, none⟩ w58 fun w59 =>
 st1 (.int .i64 n46) ⟨b55, 3, none⟩ w59 fun w60 =>
 st1 (.int .i64 n47) ⟨b55, 4, none⟩ w60 fun w61 =>
 st1 (.int .i64 n48) ⟨b55, 5, none⟩ w61 fun w62 =>
 st1 (.int .i64 n49) ⟨b55, 6, none⟩ w62 fun w63 =>
 st1 (.int .i64 n50) ⟨b55, 7, none⟩ w63 fun w64 =>
 st1 (.int .i64 n51) ⟨b55, 8, none⟩ w64 fun w65 =>
 st1 (.int .i64 n52) ⟨b55, 9, none⟩ w65 fun w66 =>
 st1 (.bool b53) ⟨b55, 10, none⟩ w66 fun w67 =>
 st1 (.int .u64 n54) ⟨b55, 11, none⟩ w67 fun w68 =>
 JoinT (fun (J72 : crierlaw17_QueueDoes_J32585.S → World → Prop) =>
  ldI .i64 ⟨b55, 0, none⟩ w68 fun n73 =>
  ldI .i64 ⟨b55, 1, none⟩ w68 fun n74 =>
  ldI .i64 ⟨b55, 2, none⟩ w68 fun n75 =>
  ldI .i64 ⟨b55, 3, none⟩ w68 fun n76 =>
  ldI .i64 ⟨b55, 4, none⟩ w68 fun n77 =>
  ldI .i64 ⟨b55, 5, none⟩ w68 fun n78 =>
  ldI .i64 ⟨b55, 6, none⟩ w68 fun n79 =>
  ldI .i64 ⟨b55, 7, none⟩ w68 fun n80 =>
  ldI .i64 ⟨b55, 8, none⟩ w68 fun n81 =>
  ldI .i64 ⟨b55, 9, none⟩ w68 fun n82 =>
  ldB ⟨b55, 10, none⟩ w68 fun b83 =>
  ldI .u64 ⟨b55, 11, none⟩ w68 fun n84 =>
  CV P F.crierlaw17_does [.pointer (some ⟨b9, 0, none⟩), .pointer p16, .pointer (some ⟨b31, 0, none⟩), .pointer p17, .agg [.int .i64 n73, .int .i64 n74, .int .i64 n75, .int .i64 n76, .int .i64 n77, .int .i64 n78, .int .i64 n79, .int .i64 n80, .int .i64 n81, .int .i64 n82, .bool b83, .int .u64 n84].toArray] w68 fun v85 w86 =>
  ∃ b87 : Bool, v85 = .bool b87 ∧
  cnd (!b87)
  (J72 ((true : Bool)) w86)
  (ldI .i64 ⟨b9, 0, none⟩ w86 fun n88 =>
  ldI .i64 ⟨b9, 1, none⟩ w86 fun n89 =>
  ldI .i64 ⟨b9, 2, none⟩ w86 fun n90 =>
  ldI .i64 ⟨b9, 3, none⟩ w86 fun n91 =>
  ldI .i64 ⟨b31, 0, none⟩ w86 fun n92 =>
  ldI .i64 ⟨b31, 1, none⟩ w86 fun n93 =>
  ldI .i64 ⟨b31, 2, none⟩ w86 fun n94 =>
  ldI .i64 ⟨b31, 3, none⟩ w86 fun n95 =>
  CV P F.crierlaw17_alike [.agg [.int .i64 n88, .int .i64 n89, .int .i64 n90, .int .i64 n91].toArray, .pointer p16, .agg [.int .i64 n92, .int .i64 n93, .int .i64 n94, .int .i64 n95].toArray, .pointer p17] w86 fun v96 w97 =>
  ∃ b98 : Bool, v96 = .bool b98 ∧
  J72 (((!b98) : Bool)) w97))
  fun (s99 : crierlaw17_QueueDoes_J32585.S) w100 => crierlaw17_QueueDoes_j0 Q n38 A40 s99 w100)
 (ldI .i64 ⟨b9, 0, none⟩ w39 fun n101 =>
 ldI .i64 ⟨b9, 1, none⟩ w39 fun n102 =>
 ldI .i64 ⟨b9, 2, none⟩ w39 fun n103 =>
 ldI .i64 ⟨b9, 3, none⟩ w39 fun n104 =>
 ldI .i64 ⟨b31, 0, none⟩ w39 fun n105 =>
 ldI .i64 ⟨b31, 1, none⟩ w39 fun n106 =>
 ldI .i64 ⟨b31, 2, none⟩ w39 fun n107 =>
 ldI .i64 ⟨b31, 3, none⟩ w39 fun n108 =>
 CV P F.crierlaw17_alike [.agg [.int .i64 n101, .int .i64 n102, .int .i64 n103, .int .i64 n104].toArray, .pointer p16, .agg [.int .i64 n105, .int .i64 n106, .int .i64 n107, .int .i64 n108].toArray, .pointer p17] w39 fun v109 w110 =>
 ∃ b111 : Bool, v109 = .bool b111 ∧
 Q (.bool b111) w110)

def crierlaw17_QueueDoes_j2 (a2 : Option Addr) (a2_n : Nat) (Q : Value → World → Prop) (b9 : Nat) (p16 : Option Addr) (p17 : Option Addr) (b19 : Bool) (w20 : World) : Prop :=
 cnd b19
 (Q (.bool false) w20)
 (ldI .i64 ⟨b9, 0, none⟩ w20 fun n21 =>
 ldI .i64 ⟨b9, 1, none⟩ w20 fun n22 =>
 ldI .i64 ⟨b9, 2, none⟩ w20 fun n23 =>
 ldI .i64 ⟨b9, 3, none⟩ w20 fun n24 =>
 CV P F.crierlaw17_told [.agg [.int .i64 n21, .int .i64 n22, .int .i64 n23, .int .i64 n24].toArray] w20 fun v25 w26 =>
 ∃ n27 : Int, ∃ n28 : Int, ∃ n29 : Int, ∃ n30 : Int, v25 = .agg [.int .i64 n27, .int .i64 n28, .int .i64 n29, .int .i64 n30].toArray ∧
 alc [.int .i64 0, .int .i64 0, .int .i64 0, .int .i64 0] T.t61 w26 fun b31 w32 =>
 st1 (.int .i64 n27) ⟨b31, 0, none⟩ w32 fun w33 =>
 st1 (.int .i64 n28) ⟨b31, 1, none⟩ w33 fun w34 =>
 st1 (.int .i64 n29) ⟨b31, 2, none⟩ w34 fun w35 =>
 st1 (.int .i64 n30) ⟨b31, 3, none⟩ w35 fun w36 =>
 LoopT (fun (s112 : crierlaw17_QueueDoes_L1018.S) w113 A114 => crierlaw17_QueueDoes_l1 a2 a2_n Q b9 p16 p17 b31 s112 w113 A114) ((0 : Int)) w36)

def crierlaw17_QueueDoes (a0_0 : Int) (a0_1 : Int) (a0_2 : Int) (a0_3 : Int) (a1 : Int) (a2 : Option Addr) (a2_n : Nat) (a2_c : Nat) (w : World) (Q : Value → World → Prop) : Prop :=
 alc [.int .i64 a0_0, .int .i64 a0_1, .int .i64 a0_2, .int .i64 a0_3] T.t26 w fun b9 w10 =>
 CV P F.crierlaw17_awake [] w10 fun v11 w12 =>
 ∃ b13 : Bool, v11 = .bool b13 ∧
 cnd (!b13)
 (Q (.bool false) w12)
 (CV P F.crierlaw04_New [.int .i64 a1] w12 fun v14 w15 =>
 ∃ p16 : Option Addr, ∃ p17 : Option Addr, v14 = .tuple [.pointer p16, .pointer p17].toArray ∧
 JoinT (fun (J115 : crierlaw17_QueueDoes_J62.S → World → Prop) =>
  cnd (!b13)
  (J115 ((true : Bool)) w15)
  (J115 (((Option.isNone p16) : Bool)) w15))
  fun (s116 : crierlaw17_QueueDoes_J62.S) w117 => crierlaw17_QueueDoes_j2 a2 a2_n Q b9 p16 p17 s116 w117)
def crierlaw17_QueueDoes_ann : Nat → Option LoopSpec := fun
  | 62 => some crierlaw17_QueueDoes_J62
  | 1018 => some crierlaw17_QueueDoes_L1018
  | 32585 => some crierlaw17_QueueDoes_J32585
  | _ => none
theorem crierlaw17_QueueDoes_eq (a0_0 : Int) (a0_1 : Int) (a0_2 : Int) (a0_3 : Int) (a1 : Int) (a2 : Option Addr) (a2_n : Nat) (a2_c : Nat) (w : World) (Q : Value → World → Prop) : fnX P crierlaw17_QueueDoes_ann Try.f7 [.agg [.int .i64 a0_0, .int .i64 a0_1, .int .i64 a0_2, .int .i64 a0_3].toArray, .int .i64 a1, .slice a2 a2_n a2_c] w Q = crierlaw17_QueueDoes a0_0 a0_1 a0_2 a0_3 a1 a2 a2_n a2_c w Q := by kernel_rfl
theorem crierlaw17_QueueDoes_cv {a0_0 : Int} {a0_1 : Int} {a0_2 : Int} {a0_3 : Int} {a1 : Int} {a2 : Option Addr} {a2_n : Nat} {a2_c : Nat} {w : World} {Q : Value → World → Prop} (h : crierlaw17_QueueDoes a0_0 a0_1 a0_2 a0_3 a1 a2 a2_n a2_c w Q) : CV P F.crierlaw17_QueueDoes [.agg [.int .i64 a0_0, .int .i64 a0_1, .int .i64 a0_2, .int .i64 a0_3].toArray, .int .i64 a1, .slice a2 a2_n a2_c] w Q := CV_of mixed Try.func7 (crierlaw17_QueueDoes_eq a0_0 a0_1 a0_2 a0_3 a1 a2 a2_n a2_c w Q ▸ h)

/- 8 crier/crierlaw17.QueueEmpty -/
def crierlaw17_QueueEmpty_J62 : LoopSpec where
  S := Bool
  emb := fun s => [(27, .bool s)]
  ext := fun t => match getL t 27 with
    | some (.bool y26) => some (y26)
    | _ => none
  slots := [27]
  fits := fun _ => rfl
  ok := by
    intro t s h x hx
    (try dsimp only at h hx)
    split at h
    · cases h
      simp only [List.mem_cons, List.not_mem_nil, or_false] at hx
      rcases hx with rfl <;> assumption
    · cases h

def crierlaw17_QueueEmpty_J1022 : LoopSpec where
  S := Bool
  emb := fun s => [(56, .bool s)]
  ext := fun t => match getL t 56 with
    | some (.bool y69) => some (y69)
    | _ => none
  slots := [56]
  fits := fun _ => rfl
  ok := by
    intro t s h x hx
    (try dsimp only at h hx)
    split at h
    · cases h
      simp only [List.mem_cons, List.not_mem_nil, or_false] at hx
      rcases hx with rfl <;> assumption
    · cases h

def crierlaw17_QueueEmpty_J4095 : LoopSpec where
  S := Bool
  emb := fun s => [(6, .bool s)]
  ext := fun t => match getL t 6 with
    | some (.bool y87) => some (y87)
    | _ => none
  slots := [6]
  fits := fun _ => rfl
  ok := by
    intro t s h x hx
    (try dsimp only at h hx)
    split at h
    · cases h
      simp only [List.mem_cons, List.not_mem_nil, or_false] at hx
      rcases hx with rfl <;> assumption
    · cases h

def crierlaw17_QueueEmpty_j0 (Q : Value → World → Prop) (b88 : Bool) (w89 : World) : Prop :=
 Q (.bool b88) w89

def crierlaw17_QueueEmpty_j1 (Q : Value → World → Prop) (b15 : Nat) (b17 : Nat) (p24 : Option Addr) (p25 : Option Addr) (b33 : Nat) (b70 : Bool) (w71 : World) : Prop :=
 cnd b70
 (Q (.bool false) w71)
 (ldI .i64 ⟨b33, 0, none⟩ w71 fun n72 =>
 ldI .i64 ⟨b33, 1, none⟩ w71 fun n73 =>
 ldI .i64 ⟨b33, 2, none⟩ w71 fun n74 =>
 ldI .i64 ⟨b33, 3, none⟩ w71 fun n75 =>
 st1 (.int .i64 n72) ⟨b15, 0, none⟩ w71 fun w76 =>
 st1 (.int .i64 n73) ⟨b15, 1, none⟩ w76 fun w77 =>
 st1 (.int .i64 n74) ⟨b15, 2, none⟩ w77 fun w78 =>
 st1 (.int .i64 n75) ⟨b15, 3, none⟩ w78 fun w79 =>
 ldI .i64 ⟨b33, 0, none⟩ w79 fun n80 =>
 ldI .i64 ⟨b33, 1, none⟩ w79 fun n81 =>
 ldI .i64 ⟨b33, 2, none⟩ w79 fun n82 =>
 ldI .i64 ⟨b33, 3, none⟩ w79 fun n83 =>
 CV P F.queue_Queue_Room [.agg [.int .i64 n80, .int .i64 n81, .int .i64 n82, .int .i64 n83].toArray] w79 fun v84 w85 =>
 ∃ n86 : Int, v84 = .int .i64 n86 ∧
 cnd (decide (n86 > 0))
 (Q (.bool true) w85)
 (JoinT (fun (J90 : crierlaw17_QueueEmpty_J4095.S → World → Prop) =>
  ldI .i64 ⟨b17, 0, none⟩ w85 fun n91 =>
  ldI .i64 ⟨b17, 1, none⟩ w85 fun n92 =>
  ldI .i64 ⟨b17, 2, none⟩ w85 fun n93 =>
  ldI .i64 ⟨b17, 3, none⟩ w85 fun n94 =>
  ldI .i64 ⟨b17, 4, none⟩ w85 fun n95 =>
  ldI .i64 ⟨b17, 5, none⟩ w85 fun n96 =>
  ldI .i64 ⟨b17, 6, none⟩ w85 fun n97 =>
  ldI .i64 ⟨b17, 7, none⟩ w85 fun n98 =>
  ldB ⟨b17, 8, none⟩ w85 fun b99 =>
  CV P F.queue_Queue_Put [.pointer (some ⟨b15, 0, none⟩), .pointer p24, .agg [.int .i64 n91, .int .i64 n92, .int .i64 n93, .int .i64 n94, .int .i64 n95, .int .i64 n96, .int .i64 n97, .int .i64 n98, .bool b99].toArray] w85 fun v100 w101 =>
  ∃ n102 : Int, v100 = .int .i64 n102 ∧
  cnd (n102 == 2)
  (ldI .i64 ⟨b15, 0, none⟩ w101 fun n103 =>
  ldI .i64 ⟨b15, 1, none⟩ w101 fun n104 =>
  ldI .i64 ⟨b15, 2, none⟩ w101 fun n105 =>
  ldI .i64 ⟨b15, 3, none⟩ w101 fun n106 =>
  ldI .i64 ⟨b33, 0, none⟩ w101 fun n107 =>
  ldI .i64 ⟨b33, 1, none⟩ w101 fun n108 =>
  ldI .i64 ⟨b33, 2, none⟩ w101 fun n109 =>
  ldI .i64 ⟨b33, 3, none⟩ w101 fun n110 =>
  eqA P .eql T.t26 (.agg [.int .i64 n103, .int .i64 n104, .int .i64 n105, .int .i64 n106].toArray) (.agg [.int .i64 n107, .int .i64 n108, .int .i64 n109, .int .i64 n110].toArray) w101 fun b111 =>
  cnd b111
  (CV P F.crierlaw04_Same [.pointer p24, .pointer p25] w101 fun v112 w113 =>
  ∃ b114 : Bool, v112 = .bool b114 ∧
  J90 ((b114 : Bool)) w113)
  (J90 ((false : Bool)) w101))
  (J90 ((false : Bool)) w101))
  fun (s115 : crierlaw17_QueueEmpty_J4095.S) w116 => crierlaw17_QueueEmpty_j0 Q s115 w116))

def crierlaw17_QueueEmpty_j2 (Q : Value → World → Prop) (b15 : Nat) (b17 : Nat) (p24 : Option Addr) (p25 : Option Addr) (b27 : Bool) (w28 : World) : Prop :=
 cnd b27
 (Q (.bool false) w28)
 (ldI .i64 ⟨b15, 0, none⟩ w28 fun n29 =>
 ldI .i64 ⟨b15, 1, none⟩ w28 fun n30 =>
 ldI .i64 ⟨b15, 2, none⟩ w28 fun n31 =>
 ldI .i64 ⟨b15, 3, none⟩ w28 fun n32 =>
 alc [.int .i64 0, .int .i64 0, .int .i64 0, .int .i64 0] T.t26 w28 fun b33 w34 =>
 st1 (.int .i64 n29) ⟨b33, 0, none⟩ w34 fun w35 =>
 st1 (.int .i64 n30) ⟨b33, 1, none⟩ w35 fun w36 =>
 st1 (.int .i64 n31) ⟨b33, 2, none⟩ w36 fun w37 =>
 st1 (.int .i64 n32) ⟨b33, 3, none⟩ w37 fun w38 =>
 ldI .i64 ⟨b15, 0, none⟩ w38 fun n39 =>
 ldI .i64 ⟨b15, 1, none⟩ w38 fun n40 =>
 ldI .i64 ⟨b15, 2, none⟩ w38 fun n41 =>
 ldI .i64 ⟨b15, 3, none⟩ w38 fun n42 =>
 CV P F.queue_Queue_Head [.agg [.int .i64 n39, .int .i64 n40, .int .i64 n41, .int .i64 n42].toArray, .pointer p24] w38 fun v43 w44 =>
 ∃ n45 : Int, ∃ n46 : Int, ∃ n47 : Int, ∃ n48 : Int, ∃ n49 : Int, ∃ n50 : Int, ∃ n51 : Int, ∃ n52 : Int, ∃ b53 : Bool, ∃ n54 : Int, v43 = .tuple [.agg [.int .i64 n45, .int .i64 n46, .int .i64 n47, .int .i64 n48, .int .i64 n49, .int .i64 n50, .int .i64 n51, .int .i64 n52, .bool b53].toArray, .int .i64 n54].toArray ∧
 alc [.int .i64 0, .int .i64 0, .int .i64 0, .int .i64 0, .int .i64 0, .int .i64 0, .int .i64 0, .int .i64 0, .bool false] T.t40 w44 fun b55 w56 =>
 st1 (.int .i64 n45) ⟨b55, 0, none⟩ w56 fun w57 =>
 st1 (.int .i64 n46) ⟨b55, 1, none⟩ w57 fun w58 =>
 st1 (.int .i64 n47) ⟨b55, 2, none⟩ w58 fun w59 =>
 st1 (.int .i64 n48) ⟨b55, 3, none⟩ w59 fun w60 =>
 st1 (.int .i64 n49) ⟨b55, 4, none⟩ w60 fun w61 =>
 st1 (.int .i64 n50) ⟨b55, 5, none⟩ w61 fun w62 =>
 st1 (.int .i64 n51) ⟨b55, 6, none⟩ w62 fun w63 =>
 st1 (.int .i64 n52) ⟨b55, 7, none⟩ w63 fun w64 =>
 st1 (.bool b53) ⟨b55, 8, none⟩ w64 fun w65 =>
 CV P F.queue_Queue_Pass [.pointer (some ⟨b15, 0, none⟩)] w65 fun v66 w67 =>
 ∃ n68 : Int, v66 = .int .i64 n68 ∧
 JoinT (fun (J117 : crierlaw17_QueueEmpty_J1022.S → World → Prop) =>
  ldI .i64 ⟨b33, 0, none⟩ w67 fun n118 =>
  ldI .i64 ⟨b33, 1, none⟩ w67 fun n119 =>
  ldI .i64 ⟨b33, 2, none⟩ w67 fun n120 =>
  ldI .i64 ⟨b33, 3, none⟩ w67 fun n121 =>
  CV P F.queue_Queue_Left [.agg [.int .i64 n118, .int .i64 n119, .int .i64 n120, .int .i64 n121].toArray] w67 fun v122 w123 =>
  ∃ n124 : Int, v122 = .int .i64 n124 ∧
  cnd (n124 == 0)
  (cnd (n54 != 170)
  (J117 ((true : Bool)) w123)
  (cnd (n68 != 170)
  (J117 ((true : Bool)) w123)
  (ldI .i64 ⟨b15, 0, none⟩ w123 fun n125 =>
  ldI .i64 ⟨b15, 1, none⟩ w123 fun n126 =>
  ldI .i64 ⟨b15, 2, none⟩ w123 fun n127 =>
  ldI .i64 ⟨b15, 3, none⟩ w123 fun n128 =>
  ldI .i64 ⟨b33, 0, none⟩ w123 fun n129 =>
  ldI .i64 ⟨b33, 1, none⟩ w123 fun n130 =>
  ldI .i64 ⟨b33, 2, none⟩ w123 fun n131 =>
  ldI .i64 ⟨b33, 3, none⟩ w123 fun n132 =>
  eqA P .neq T.t26 (.agg [.int .i64 n125, .int .i64 n126, .int .i64 n127, .int .i64 n128].toArray) (.agg [.int .i64 n129, .int .i64 n130, .int .i64 n131, .int .i64 n132].toArray) w123 fun b133 =>
  cnd b133
  (J117 ((true : Bool)) w123)
  (ldI .i64 ⟨b55, 0, none⟩ w123 fun n134 =>
  ldI .i64 ⟨b55, 1, none⟩ w123 fun n135 =>
  ldI .i64 ⟨b55, 2, none⟩ w123 fun n136 =>
  ldI .i64 ⟨b55, 3, none⟩ w123 fun n137 =>
  ldI .i64 ⟨b55, 4, none⟩ w123 fun n138 =>
  ldI .i64 ⟨b55, 5, none⟩ w123 fun n139 =>
  ldI .i64 ⟨b55, 6, none⟩ w123 fun n140 =>
  ldI .i64 ⟨b55, 7, none⟩ w123 fun n141 =>
  ldB ⟨b55, 8, none⟩ w123 fun b142 =>
  eqA P .neq T.t40 (.agg [.int .i64 n134, .int .i64 n135, .int .i64 n136, .int .i64 n137, .int .i64 n138, .int .i64 n139, .int .i64 n140, .int .i64 n141, .bool b142].toArray) (.agg [.int .i64 0, .int .i64 0, .int .i64 0, .int .i64 0, .int .i64 0, .int .i64 0, .int .i64 0, .int .i64 0, .bool false].toArray) w123 fun b143 =>
  J117 ((b143 : Bool)) w123))))
  (J117 ((false : Bool)) w123))
  fun (s144 : crierlaw17_QueueEmpty_J1022.S) w145 => crierlaw17_QueueEmpty_j1 Q b15 b17 p24 p25 b33 s144 w145)

def crierlaw17_QueueEmpty (a0_0 : Int) (a0_1 : Int) (a0_2 : Int) (a0_3 : Int) (a1 : Int) (a2_0 : Int) (a2_1 : Int) (a2_2 : Int) (a2_3 : Int) (a2_4 : Int) (a2_5 : Int) (a2_6 : Int) (a2_7 : Int) (a2_8 : Bool) (w : World) (Q : Value → World → Prop) : Prop :=
 alc [.int .i64 a0_0, .int .i64 a0_1, .int .i64 a0_2, .int .i64 a0_3] T.t26 w fun b15 w16 =>
 alc [.int .i64 a2_0, .int .i64 a2_1, .int .i64 a2_2, .int .i64 a2_3, .int .i64 a2_4, .int .i64 a2_5, .int .i64 a2_6, .int .i64 a2_7, .bool a2_8] T.t40 w16 fun b17 w18 =>
 CV P F.crierlaw17_awake [] w18 fun v19 w20 =>
 ∃ b21 : Bool, v19 = .bool b21 ∧
 cnd (!b21)
 (Q (.bool false) w20)
 (CV P F.crierlaw04_New [.int .i64 a1] w20 fun v22 w23 =>
 ∃ p24 : Option Addr, ∃ p25 : Option Addr, v22 = .tuple [.pointer p24, .pointer p25].toArray ∧
 JoinT (fun (J146 : crierlaw17_QueueEmpty_J62.S → World → Prop) =>
  cnd (!b21)
  (J146 ((true : Bool)) w23)
  (J146 (((Option.isNone p24) : Bool)) w23))
  fun (s147 : crierlaw17_QueueEmpty_J62.S) w148 => crierlaw17_QueueEmpty_j2 Q b15 b17 p24 p25 s147 w148)
def crierlaw17_QueueEmpty_ann : Nat → Option LoopSpec := fun
  | 62 => some crierlaw17_QueueEmpty_J62
  | 1022 => some crierlaw17_QueueEmpty_J1022
  | 4095 => some crierlaw17_QueueEmpty_J4095
  | _ => none
theorem crierlaw17_QueueEmpty_eq (a0_0 : Int) (a0_1 : Int) (a0_2 : Int) (a0_3 : Int) (a1 : Int) (a2_0 : Int) (a2_1 : Int) (a2_2 : Int) (a2_3 : Int) (a2_4 : Int) (a2_5 : Int) (a2_6 : Int) (a2_7 : Int) (a2_8 : Bool) (w : World) (Q : Value → World → Prop) : fnX P crierlaw17_QueueEmpty_ann Try.f8 [.agg [.int .i64 a0_0, .int .i64 a0_1, .int .i64 a0_2, .int .i64 a0_3].toArray, .int .i64 a1, .agg [.int .i64 a2_0, .int .i64 a2_1, .int .i64 a2_2, .int .i64 a2_3, .int .i64 a2_4, .int .i64 a2_5, .int .i64 a2_6, .int .i64 a2_7, .bool a2_8].toArray] w Q = crierlaw17_QueueEmpty a0_0 a0_1 a0_2 a0_3 a1 a2_0 a2_1 a2_2 a2_3 a2_4 a2_5 a2_6 a2_7 a2_8 w Q := by kernel_rfl
theorem crierlaw17_QueueEmpty_cv {a0_0 : Int} {a0_1 : Int} {a0_2 : Int} {a0_3 : Int} {a1 : Int} {a2_0 : Int} {a2_1 : Int} {a2_2 : Int} {a2_3 : Int} {a2_4 : Int} {a2_5 : Int} {a2_6 : Int} {a2_7 : Int} {a2_8 : Bool} {w : World} {Q : Value → World → Prop} (h : crierlaw17_QueueEmpty a0_0 a0_1 a0_2 a0_3 a1 a2_0 a2_1 a2_2 a2_3 a2_4 a2_5 a2_6 a2_7 a2_8 w Q) : CV P F.crierlaw17_QueueEmpty [.agg [.int .i64 a0_0, .int .i64 a0_1, .int .i64 a0_2, .int .i64 a0_3].toArray, .int .i64 a1, .agg [.int .i64 a2_0, .int .i64 a2_1, .int .i64 a2_2, .int .i64 a2_3, .int .i64 a2_4, .int .i64 a2_5, .int .i64 a2_6, .int .i64 a2_7, .bool a2_8].toArray] w Q := CV_of mixed Try.func8 (crierlaw17_QueueEmpty_eq a0_0 a0_1 a0_2 a0_3 a1 a2_0 a2_1 a2_2 a2_3 a2_4 a2_5 a2_6 a2_7 a2_8 w Q ▸ h)

/- 9 crier/crierlaw17.awake -/
def crierlaw17_awake_J30 : LoopSpec where
  S := Bool
  emb := fun s => [(30, .bool s)]
  ext := fun t => match getL t 30 with
    | some (.bool y18) => some (y18)
    | _ => none
  slots := [30]
  fits := fun _ => rfl
  ok := by
    intro t s h x hx
    (try dsimp only at h hx)
    split at h
    · cases h
      simp only [List.mem_cons, List.not_mem_nil, or_false] at hx
      rcases hx with rfl <;> assumption
    · cases h

def crierlaw17_awake_J511 : LoopSpec where
  S := Bool
  emb := fun s => [(0, .bool s)]
  ext := fun t => match getL t 0 with
    | some (.bool y95) => some (y95)
    | _ => none
  slots := [0]
  fits := fun _ => rfl
  ok := by
    intro t s h x hx
    (try dsimp only at h hx)
    split at h
    · cases h
      simp only [List.mem_cons, List.not_mem_nil, or_false] at hx
      rcases hx with rfl <;> assumption
    · cases h

def crierlaw17_awake_j0 (Q : Value → World → Prop) (b96 : Bool) (w97 : World) : Prop :=
 Q (.bool b96) w97

def crierlaw17_awake_j1 (Q : Value → World → Prop) (p3 : Option Addr) (b12 : Nat) (b19 : Bool) (w20 : World) : Prop :=
 cnd b19
 (Q (.bool false) w20)
 (alc [.int .i64 0, .int .i64 0, .int .i64 0, .int .i64 0, .int .i64 0, .int .i64 0, .int .i64 0, .int .i64 0, .bool false] T.t40 w20 fun b21 w22 =>
 st1 (.int .i64 5) ⟨b21, 0, none⟩ w22 fun w23 =>
 st1 (.int .i64 0) ⟨b21, 1, none⟩ w23 fun w24 =>
 st1 (.int .i64 0) ⟨b21, 2, none⟩ w24 fun w25 =>
 st1 (.int .i64 0) ⟨b21, 3, none⟩ w25 fun w26 =>
 st1 (.int .i64 0) ⟨b21, 4, none⟩ w26 fun w27 =>
 st1 (.int .i64 0) ⟨b21, 5, none⟩ w27 fun w28 =>
 st1 (.int .i64 0) ⟨b21, 6, none⟩ w28 fun w29 =>
 st1 (.int .i64 0) ⟨b21, 7, none⟩ w29 fun w30 =>
 st1 (.bool false) ⟨b21, 8, none⟩ w30 fun w31 =>
 ldI .i64 ⟨b21, 0, none⟩ w31 fun n32 =>
 ldI .i64 ⟨b21, 1, none⟩ w31 fun n33 =>
 ldI .i64 ⟨b21, 2, none⟩ w31 fun n34 =>
 ldI .i64 ⟨b21, 3, none⟩ w31 fun n35 =>
 ldI .i64 ⟨b21, 4, none⟩ w31 fun n36 =>
 ldI .i64 ⟨b21, 5, none⟩ w31 fun n37 =>
 ldI .i64 ⟨b21, 6, none⟩ w31 fun n38 =>
 ldI .i64 ⟨b21, 7, none⟩ w31 fun n39 =>
 ldB ⟨b21, 8, none⟩ w31 fun b40 =>
 ldI .i64 ⟨b21, 0, none⟩ w31 fun n41 =>
 ldI .i64 ⟨b21, 1, none⟩ w31 fun n42 =>
 ldI .i64 ⟨b21, 2, none⟩ w31 fun n43 =>
 ldI .i64 ⟨b21, 3, none⟩ w31 fun n44 =>
 ldI .i64 ⟨b21, 4, none⟩ w31 fun n45 =>
 ldI .i64 ⟨b21, 5, none⟩ w31 fun n46 =>
 ldI .i64 ⟨b21, 6, none⟩ w31 fun n47 =>
 ldI .i64 ⟨b21, 7, none⟩ w31 fun n48 =>
 ldB ⟨b21, 8, none⟩ w31 fun b49 =>
 ldI .i64 ⟨b21, 0, none⟩ w31 fun n50 =>
 ldI .i64 ⟨b21, 1, none⟩ w31 fun n51 =>
 ldI .i64 ⟨b21, 2, none⟩ w31 fun n52 =>
 ldI .i64 ⟨b21, 3, none⟩ w31 fun n53 =>
 ldI .i64 ⟨b21, 4, none⟩ w31 fun n54 =>
 ldI .i64 ⟨b21, 5, none⟩ w31 fun n55 =>
 ldI .i64 ⟨b21, 6, none⟩ w31 fun n56 =>
 ldI .i64 ⟨b21, 7, none⟩ w31 fun n57 =>
 ldB ⟨b21, 8, none⟩ w31 fun b58 =>
 alc [.int .i64 n32, .int .i64 n33, .int .i64 n34, .int .i64 n35, .int .i64 n36, .int .i64 n37, .int .i64 n38, .int .i64 n39, .bool b40, .int .i64 n41, .int .i64 n42, .int .i64 n43, .int .i64 n44, .int .i64 n45, .int .i64 n46, .int .i64 n47, .int .i64 n48, .bool b49, .int .i64 n50, .int .i64 n51, .int .i64 n52, .int .i64 n53, .int .i64 n54, .int .i64 n55, .int .i64 n56, .int .i64 n57, .bool b58] T.t40 w31 fun b59 w60 =>
 CV P F.queue_Queue_Fill [.pointer (some ⟨b12, 0, none⟩), .pointer p3, .slice (some ⟨b59, 0, none⟩) 3 3] w60 fun v61 w62 =>
 ∃ n63 : Int, ∃ n64 : Int, v61 = .tuple [.int .i64 n63, .int .i64 n64].toArray ∧
 ldI .i64 ⟨b12, 0, none⟩ w62 fun n65 =>
 ldI .i64 ⟨b12, 1, none⟩ w62 fun n66 =>
 ldI .i64 ⟨b12, 2, none⟩ w62 fun n67 =>
 ldI .i64 ⟨b12, 3, none⟩ w62 fun n68 =>
 CV P F.queue_Queue_Head [.agg [.int .i64 n65, .int .i64 n66, .int .i64 n67, .int .i64 n68].toArray, .pointer p3] w62 fun v69 w70 =>
 ∃ n71 : Int, ∃ n72 : Int, ∃ n73 : Int, ∃ n74 : Int, ∃ n75 : Int, ∃ n76 : Int, ∃ n77 : Int, ∃ n78 : Int, ∃ b79 : Bool, ∃ n80 : Int, v69 = .tuple [.agg [.int .i64 n71, .int .i64 n72, .int .i64 n73, .int .i64 n74, .int .i64 n75, .int .i64 n76, .int .i64 n77, .int .i64 n78, .bool b79].toArray, .int .i64 n80].toArray ∧
 alc [.int .i64 0, .int .i64 0, .int .i64 0, .int .i64 0, .int .i64 0, .int .i64 0, .int .i64 0, .int .i64 0, .bool false] T.t40 w70 fun b81 w82 =>
 st1 (.int .i64 n71) ⟨b81, 0, none⟩ w82 fun w83 =>
 st1 (.int .i64 n72) ⟨b81, 1, none⟩ w83 fun w84 =>
 st1 (.int .i64 n73) ⟨b81, 2, none⟩ w84 fun w85 =>
 st1 (.int .i64 n74) ⟨b81, 3, none⟩ w85 fun w86 =>
 st1 (.int .i64 n75) ⟨b81, 4, none⟩ w86 fun w87 =>
 st1 (.int .i64 n76) ⟨b81, 5, none⟩ w87 fun w88 =>
 st1 (.int .i64 n77) ⟨b81, 6, none⟩ w88 fun w89 =>
 st1 (.int .i64 n78) ⟨b81, 7, none⟩ w89 fun w90 =>
 st1 (.bool b79) ⟨b81, 8, none⟩ w90 fun w91 =>
 CV P F.queue_Queue_Pass [.pointer (some ⟨b12, 0, none⟩)] w91 fun v92 w93 =>
 ∃ n94 : Int, v92 = .int .i64 n94 ∧
 JoinT (fun (J98 : crierlaw17_awake_J511.S → World → Prop) =>
  cnd (n63 == 2)
  (cnd (n64 == 2)
  (ldI .i64 ⟨b81, 0, none⟩ w93 fun n99 =>
  ldI .i64 ⟨b81, 1, none⟩ w93 fun n100 =>
  ldI .i64 ⟨b81, 2, none⟩ w93 fun n101 =>
  ldI .i64 ⟨b81, 3, none⟩ w93 fun n102 =>
  ldI .i64 ⟨b81, 4, none⟩ w93 fun n103 =>
  ldI .i64 ⟨b81, 5, none⟩ w93 fun n104 =>
  ldI .i64 ⟨b81, 6, none⟩ w93 fun n105 =>
  ldI .i64 ⟨b81, 7, none⟩ w93 fun n106 =>
  ldB ⟨b81, 8, none⟩ w93 fun b107 =>
  ldI .i64 ⟨b21, 0, none⟩ w93 fun n108 =>
  ldI .i64 ⟨b21, 1, none⟩ w93 fun n109 =>
  ldI .i64 ⟨b21, 2, none⟩ w93 fun n110 =>
  ldI .i64 ⟨b21, 3, none⟩ w93 fun n111 =>
  ldI .i64 ⟨b21, 4, none⟩ w93 fun n112 =>
  ldI .i64 ⟨b21, 5, none⟩ w93 fun n113 =>
  ldI .i64 ⟨b21, 6, none⟩ w93 fun n114 =>
  ldI .i64 ⟨b21, 7, none⟩ w93 fun n115 =>
  ldB ⟨b21, 8, none⟩ w93 fun b116 =>
  eqA P .eql T.t40 (.agg [.int .i64 n99, .int .i64 n100, .int .i64 n101, .int .i64 n102, .int .i64 n103, .int .i64 n104, .int .i64 n105, .int .i64 n106, .bool b107].toArray) (.agg [.int .i64 n108, .int .i64 n109, .int .i64 n110, .int .i64 n111, .int .i64 n112, .int .i64 n113, .int .i64 n114, .int .i64 n115, .bool b116].toArray) w93 fun b117 =>
  cnd b117
  (cnd (n80 == 0)
  (cnd (n94 == 0)
  (ldI .i64 ⟨b12, 0, none⟩ w93 fun n118 =>
  ldI .i64 ⟨b12, 1, none⟩ w93 fun n119 =>
  ldI .i64 ⟨b12, 2, none⟩ w93 fun n120 =>
  ldI .i64 ⟨b12, 3, none⟩ w93 fun n121 =>
  CV P F.queue_Queue_Left [.agg [.int .i64 n118, .int .i64 n119, .int .i64 n120, .int .i64 n121].toArray] w93 fun v122 w123 =>
  ∃ n124 : Int, v122 = .int .i64 n124 ∧
  cnd (n124 == 1)
  (ldI .i64 ⟨b12, 0, none⟩ w123 fun n125 =>
  ldI .i64 ⟨b12, 1, none⟩ w123 fun n126 =>
  ldI .i64 ⟨b12, 2, none⟩ w123 fun n127 =>
  ldI .i64 ⟨b12, 3, none⟩ w123 fun n128 =>
  CV P F.queue_Queue_Room [.agg [.int .i64 n125, .int .i64 n126, .int .i64 n127, .int .i64 n128].toArray] w123 fun v129 w130 =>
  ∃ n131 : Int, v129 = .int .i64 n131 ∧
  cnd (n131 == 1)
  (CV P F.queue_Queue_SetWrite [.pointer (some ⟨b12, 0, none⟩), .int .i64 33] w130 fun v132 w133 =>
  ∃ n134 : Int, v132 = .int .i64 n134 ∧
  cnd (n134 == 1)
  (CV P F.queue_Queue_SetWrite [.pointer (some ⟨b12, 0, none⟩), .int .i64 0] w133 fun v135 w136 =>
  ∃ n137 : Int, v135 = .int .i64 n137 ∧
  cnd (n137 == 0)
  (ldI .i64 ⟨b12, 0, none⟩ w136 fun n138 =>
  ldI .i64 ⟨b12, 1, none⟩ w136 fun n139 =>
  ldI .i64 ⟨b12, 2, none⟩ w136 fun n140 =>
  ldI .i64 ⟨b12, 3, none⟩ w136 fun n141 =>
  CV P F.queue_Queue_Left [.agg [.int .i64 n138, .int .i64 n139, .int .i64 n140, .int .i64 n141].toArray] w136 fun v142 w143 =>
  ∃ n144 : Int, v142 = .int .i64 n144 ∧
  cnd (n144 == 2)
  (ldI .i64 ⟨b12, 0, none⟩ w143 fun n145 =>
  ldI .i64 ⟨b12, 1, none⟩ w143 fun n146 =>
  ldI .i64 ⟨b12, 2, none⟩ w143 fun n147 =>
  ldI .i64 ⟨b12, 3, none⟩ w143 fun n148 =>
  CV P F.queue_Queue_Wrong [.agg [.int .i64 n145, .int .i64 n146, .int .i64 n147, .int .i64 n148].toArray, .pointer p3] w143 fun v149 w150 =>
  ∃ n151 : Int, v149 = .int .i64 n151 ∧
  J98 (((n151 == 1) : Bool)) w150)
  (J98 ((false : Bool)) w143))
  (J98 ((false : Bool)) w136))
  (J98 ((false : Bool)) w133))
  (J98 ((false : Bool)) w130))
  (J98 ((false : Bool)) w123))
  (J98 ((false : Bool)) w93))
  (J98 ((false : Bool)) w93))
  (J98 ((false : Bool)) w93))
  (J98 ((false : Bool)) w93))
  (J98 ((false : Bool)) w93))
  fun (s152 : crierlaw17_awake_J511.S) w153 => crierlaw17_awake_j0 Q s152 w153)

def crierlaw17_awake (w : World) (Q : Value → World → Prop) : Prop :=
 CV P F.mem_New [.int .i64 200] w fun v1 w2 =>
 ∃ p3 : Option Addr, ∃ n4 : Int, v1 = .tuple [.pointer p3, .int .i64 n4].toArray ∧
 CV P F.queue_New [.agg [.int .i64 8, .int .i64 96].toArray] w2 fun v5 w6 =>
 ∃ n7 : Int, ∃ n8 : Int, ∃ n9 : Int, ∃ n10 : Int, ∃ n11 : Int, v5 = .tuple [.agg [.int .i64 n7, .int .i64 n8, .int .i64 n9, .int .i64 n10].toArray, .int .i64 n11].toArray ∧
 alc [.int .i64 0, .int .i64 0, .int .i64 0, .int .i64 0] T.t26 w6 fun b12 w13 =>
 st1 (.int .i64 n7) ⟨b12, 0, none⟩ w13 fun w14 =>
 st1 (.int .i64 n8) ⟨b12, 1, none⟩ w14 fun w15 =>
 st1 (.int .i64 n9) ⟨b12, 2, none⟩ w15 fun w16 =>
 st1 (.int .i64 n10) ⟨b12, 3, none⟩ w16 fun w17 =>
 JoinT (fun (J154 : crierlaw17_awake_J30.S → World → Prop) =>
  cnd (Option.isNone p3)
  (J154 ((true : Bool)) w17)
  (cnd (n11 != 0)
  (J154 ((true : Bool)) w17)
  (ldI .i64 ⟨b12, 0, none⟩ w17 fun n155 =>
  ldI .i64 ⟨b12, 1, none⟩ w17 fun n156 =>
  ldI .i64 ⟨b12, 2, none⟩ w17 fun n157 =>
  ldI .i64 ⟨b12, 3, none⟩ w17 fun n158 =>
  CV P F.queue_Queue_Room [.agg [.int .i64 n155, .int .i64 n156, .int .i64 n157, .int .i64 n158].toArray] w17 fun v159 w160 =>
  ∃ n161 : Int, v159 = .int .i64 n161 ∧
  J154 (((n161 != 2) : Bool)) w160)))
  fun (s162 : crierlaw17_awake_J30.S) w163 => crierlaw17_awake_j1 Q p3 b12 s162 w163
def crierlaw17_awake_ann : Nat → Option LoopSpec := fun
  | 30 => some crierlaw17_awake_J30
  | 511 => some crierlaw17_awake_J511
  | _ => none
theorem crierlaw17_awake_eq (w : World) (Q : Value → World → Prop) : fnX P crierlaw17_awake_ann Try.f9 [] w Q = crierlaw17_awake w Q := by kernel_rfl
theorem crierlaw17_awake_cv {w : World} {Q : Value → World → Prop} (h : crierlaw17_awake w Q) : CV P F.crierlaw17_awake [] w Q := CV_of mixed Try.func9 (crierlaw17_awake_eq w Q ▸ h)

/- 10 crier/queue.New -/
def queue_New_J29 : LoopSpec where
  S := Bool
  emb := fun s => [(17, .bool s)]
  ext := fun t => match getL t 17 with
    | some (.bool y26) => some (y26)
    | _ => none
  slots := [17]
  fits := fun _ => rfl
  ok := by
    intro t s h x hx
    (try dsimp only at h hx)
    split at h
    · cases h
      simp only [List.mem_cons, List.not_mem_nil, or_false] at hx
      rcases hx with rfl <;> assumption
    · cases h

def queue_New_j0 (Q : Value → World → Prop) (b5 : Nat) (b9 : Nat) (b27 : Bool) (w28 : World) : Prop :=
 cnd b27
 (st1 (.int .i64 0) ⟨b5, 0, none⟩ w28 fun w29 =>
 st1 (.int .i64 0) ⟨b5, 1, none⟩ w29 fun w30 =>
 st1 (.int .i64 0) ⟨b5, 2, none⟩ w30 fun w31 =>
 st1 (.int .i64 0) ⟨b5, 3, none⟩ w31 fun w32 =>
 ldI .i64 ⟨b5, 0, none⟩ w32 fun n33 =>
 ldI .i64 ⟨b5, 1, none⟩ w32 fun n34 =>
 ldI .i64 ⟨b5, 2, none⟩ w32 fun n35 =>
 ldI .i64 ⟨b5, 3, none⟩ w32 fun n36 =>
 Q (.tuple [.agg [.int .i64 n33, .int .i64 n34, .int .i64 n35, .int .i64 n36].toArray, .int .i64 1].toArray) w32)
 (ldI .i64 ⟨b9, 0, none⟩ w28 fun n37 =>
 ldI .i64 ⟨b9, 1, none⟩ w28 fun n38 =>
 ldI .i64 ⟨b9, 2, none⟩ w28 fun n39 =>
 ldI .i64 ⟨b9, 3, none⟩ w28 fun n40 =>
 st1 (.int .i64 n37) ⟨b5, 0, none⟩ w28 fun w41 =>
 st1 (.int .i64 n38) ⟨b5, 1, none⟩ w41 fun w42 =>
 st1 (.int .i64 n39) ⟨b5, 2, none⟩ w42 fun w43 =>
 st1 (.int .i64 n40) ⟨b5, 3, none⟩ w43 fun w44 =>
 ldI .i64 ⟨b5, 0, none⟩ w44 fun n45 =>
 ldI .i64 ⟨b5, 1, none⟩ w44 fun n46 =>
 ldI .i64 ⟨b5, 2, none⟩ w44 fun n47 =>
 ldI .i64 ⟨b5, 3, none⟩ w44 fun n48 =>
 Q (.tuple [.agg [.int .i64 n45, .int .i64 n46, .int .i64 n47, .int .i64 n48].toArray, .int .i64 0].toArray) w44)

def queue_New (a0_0 : Int) (a0_1 : Int) (w : World) (Q : Value → World → Prop) : Prop :=
 alc [.int .i64 a0_0, .int .i64 a0_1] T.t23 w fun b3 w4 =>
 alc [.int .i64 0, .int .i64 0, .int .i64 0, .int .i64 0] T.t26 w4 fun b5 w6 =>
 ldI .i64 ⟨b3, 0, none⟩ w6 fun n7 =>
 ldI .i64 ⟨b3, 1, none⟩ w6 fun n8 =>
 alc [.int .i64 0, .int .i64 0, .int .i64 0, .int .i64 0] T.t26 w6 fun b9 w10 =>
 st1 (.int .i64 n7) ⟨b9, 0, none⟩ w10 fun w11 =>
 st1 (.int .i64 n8) ⟨b9, 1, none⟩ w11 fun w12 =>
 st1 (.int .i64 0) ⟨b9, 2, none⟩ w12 fun w13 =>
 st1 (.int .i64 0) ⟨b9, 3, none⟩ w13 fun w14 =>
 ldI .i64 ⟨b9, 0, none⟩ w14 fun n15 =>
 ldI .i64 ⟨b9, 1, none⟩ w14 fun n16 =>
 ldI .i64 ⟨b9, 2, none⟩ w14 fun n17 =>
 ldI .i64 ⟨b9, 3, none⟩ w14 fun n18 =>
 CV P F.queue_Queue_ring [.agg [.int .i64 n15, .int .i64 n16, .int .i64 n17, .int .i64 n18].toArray] w14 fun v19 w20 =>
 ∃ n21 : Int, ∃ n22 : Int, v19 = .agg [.int .i64 n21, .int .i64 n22].toArray ∧
 CV P F.ring_Ring_Right [.agg [.int .i64 n21, .int .i64 n22].toArray] w20 fun v23 w24 =>
 ∃ n25 : Int, v23 = .int .i64 n25 ∧
 JoinT (fun (J49 : queue_New_J29.S → World → Prop) =>
  cnd (n25 != 0)
  (J49 ((true : Bool)) w24)
  (ldI .i64 ⟨b3, 0, none⟩ w24 fun n50 =>
  J49 (((decide (n50 < 0)) : Bool)) w24))
  fun (s51 : queue_New_J29.S) w52 => queue_New_j0 Q b5 b9 s51 w52
def queue_New_ann : Nat → Option LoopSpec := fun
  | 29 => some queue_New_J29
  | _ => none
theorem queue_New_eq (a0_0 : Int) (a0_1 : Int) (w : World) (Q : Value → World → Prop) : fnX P queue_New_ann Try.f10 [.agg [.int .i64 a0_0, .int .i64 a0_1].toArray] w Q = queue_New a0_0 a0_1 w Q := by kernel_rfl
theorem queue_New_cv {a0_0 : Int} {a0_1 : Int} {w : World} {Q : Value → World → Prop} (h : queue_New a0_0 a0_1 w Q) : CV P F.queue_New [.agg [.int .i64 a0_0, .int .i64 a0_1].toArray] w Q := CV_of mixed Try.func10 (queue_New_eq a0_0 a0_1 w Q ▸ h)

/- 11 (crier/queue.Queue).Left -/

def queue_Queue_Left (a0_0 : Int) (a0_1 : Int) (a0_2 : Int) (a0_3 : Int) (w : World) (Q : Value → World → Prop) : Prop :=
 alc [.int .i64 a0_0, .int .i64 a0_1, .int .i64 a0_2, .int .i64 a0_3] T.t26 w fun b5 w6 =>
 drw w6 fun w7 =>
 ldI .i64 ⟨b5, 0, none⟩ w7 fun n8 =>
 ldI .i64 ⟨b5, 1, none⟩ w7 fun n9 =>
 ldI .i64 ⟨b5, 2, none⟩ w7 fun n10 =>
 ldI .i64 ⟨b5, 3, none⟩ w7 fun n11 =>
 ldI .i64 ⟨b5, 2, none⟩ w7 fun n12 =>
 ldI .i64 ⟨b5, 3, none⟩ w7 fun n13 =>
 CV P F.queue_Queue_ring [.agg [.int .i64 n8, .int .i64 n9, .int .i64 n10, .int .i64 n11].toArray] w7 fun v14 w15 =>
 ∃ n16 : Int, ∃ n17 : Int, v14 = .agg [.int .i64 n16, .int .i64 n17].toArray ∧
 (ldI .i64 ⟨b5, 3, none⟩ w15 fun n18 =>
 ((.int .i64 n18 : Value) = .int .i64 n13)) ∧
 (ldI .i64 ⟨b5, 2, none⟩ w15 fun n19 =>
 ((.int .i64 n19 : Value) = .int .i64 n12)) ∧
 CV P F.ring_Ring_Left [.agg [.int .i64 n16, .int .i64 n17].toArray, .int .i64 n12, .int .i64 n13] w15 fun v20 w21 =>
 ∃ n22 : Int, ∃ n23 : Int, v20 = .tuple [.int .i64 n22, .int .i64 n23].toArray ∧
 Q (.int .i64 n22) w21
def queue_Queue_Left_ann : Nat → Option LoopSpec := fun
  | 6 => some (ordSpec [0, 2, 3, 4, 5, 1, 6, 7, 8, 9, 10, 11])
  | _ => none
theorem queue_Queue_Left_eq (a0_0 : Int) (a0_1 : Int) (a0_2 : Int) (a0_3 : Int) (w : World) (Q : Value → World → Prop) : fnX P queue_Queue_Left_ann Try.f11 [.agg [.int .i64 a0_0, .int .i64 a0_1, .int .i64 a0_2, .int .i64 a0_3].toArray] w Q = queue_Queue_Left a0_0 a0_1 a0_2 a0_3 w Q := by kernel_rfl
theorem queue_Queue_Left_cv {a0_0 : Int} {a0_1 : Int} {a0_2 : Int} {a0_3 : Int} {w : World} {Q : Value → World → Prop} (h : queue_Queue_Left a0_0 a0_1 a0_2 a0_3 w Q) : CV P F.queue_Queue_Left [.agg [.int .i64 a0_0, .int .i64 a0_1, .int .i64 a0_2, .int .i64 a0_3].toArray] w Q := CV_of mixed Try.func11 (queue_Queue_Left_eq a0_0 a0_1 a0_2 a0_3 w Q ▸ h)

/- 12 (crier/queue.Queue).Room -/

def queue_Queue_Room (a0_0 : Int) (a0_1 : Int) (a0_2 : Int) (a0_3 : Int) (w : World) (Q : Value → World → Prop) : Prop :=
 alc [.int .i64 a0_0, .int .i64 a0_1, .int .i64 a0_2, .int .i64 a0_3] T.t26 w fun b5 w6 =>
 drw w6 fun w7 =>
 ldI .i64 ⟨b5, 0, none⟩ w7 fun n8 =>
 ldI .i64 ⟨b5, 1, none⟩ w7 fun n9 =>
 ldI .i64 ⟨b5, 2, none⟩ w7 fun n10 =>
 ldI .i64 ⟨b5, 3, none⟩ w7 fun n11 =>
 ldI .i64 ⟨b5, 2, none⟩ w7 fun n12 =>
 ldI .i64 ⟨b5, 3, none⟩ w7 fun n13 =>
 CV P F.queue_Queue_ring [.agg [.int .i64 n8, .int .i64 n9, .int .i64 n10, .int .i64 n11].toArray] w7 fun v14 w15 =>
 ∃ n16 : Int, ∃ n17 : Int, v14 = .agg [.int .i64 n16, .int .i64 n17].toArray ∧
 (ldI .i64 ⟨b5, 3, none⟩ w15 fun n18 =>
 ((.int .i64 n18 : Value) = .int .i64 n13)) ∧
 (ldI .i64 ⟨b5, 2, none⟩ w15 fun n19 =>
 ((.int .i64 n19 : Value) = .int .i64 n12)) ∧
 CV P F.ring_Ring_Room [.agg [.int .i64 n16, .int .i64 n17].toArray, .int .i64 n12, .int .i64 n13] w15 fun v20 w21 =>
 ∃ n22 : Int, ∃ n23 : Int, v20 = .tuple [.int .i64 n22, .int .i64 n23].toArray ∧
 Q (.int .i64 n22) w21
def queue_Queue_Room_ann : Nat → Option LoopSpec := fun
  | 6 => some (ordSpec [0, 2, 3, 4, 5, 1, 6, 7, 8, 9, 10, 11])
  | _ => none
theorem queue_Queue_Room_eq (a0_0 : Int) (a0_1 : Int) (a0_2 : Int) (a0_3 : Int) (w : World) (Q : Value → World → Prop) : fnX P queue_Queue_Room_ann Try.f12 [.agg [.int .i64 a0_0, .int .i64 a0_1, .int .i64 a0_2, .int .i64 a0_3].toArray] w Q = queue_Queue_Room a0_0 a0_1 a0_2 a0_3 w Q := by kernel_rfl
theorem queue_Queue_Room_cv {a0_0 : Int} {a0_1 : Int} {a0_2 : Int} {a0_3 : Int} {w : World} {Q : Value → World → Prop} (h : queue_Queue_Room a0_0 a0_1 a0_2 a0_3 w Q) : CV P F.queue_Queue_Room [.agg [.int .i64 a0_0, .int .i64 a0_1, .int .i64 a0_2, .int .i64 a0_3].toArray] w Q := CV_of mixed Try.func12 (queue_Queue_Room_eq a0_0 a0_1 a0_2 a0_3 w Q ▸ h)

/- 13 crier/crierlaw17.fresh -/

def crierlaw17_fresh (a0 : Int) (w : World) (Q : Value → World → Prop) : Prop :=
 alc [.int .i64 0, .int .i64 0, .int .i64 0, .int .i64 0] T.t26 w fun b2 w3 =>
 CV P F.crierlaw04_New [.int .i64 700] w3 fun v4 w5 =>
 ∃ p6 : Option Addr, ∃ p7 : Option Addr, v4 = .tuple [.pointer p6, .pointer p7].toArray ∧
 (nz 20 <|
 CV P F.queue_New [.agg [.int .i64 16, .int .i64 (IntKind.i64.wrap (32 * (IntKind.i64.wrap (1 + (IntKind.i64.wrap ((Int.tmod a0 20)))))))].toArray] w5 fun v8 w9 =>
 ∃ n10 : Int, ∃ n11 : Int, ∃ n12 : Int, ∃ n13 : Int, ∃ n14 : Int, v8 = .tuple [.agg [.int .i64 n10, .int .i64 n11, .int .i64 n12, .int .i64 n13].toArray, .int .i64 n14].toArray ∧
 alc [.int .i64 0, .int .i64 0, .int .i64 0, .int .i64 0] T.t26 w9 fun b15 w16 =>
 st1 (.int .i64 n10) ⟨b15, 0, none⟩ w16 fun w17 =>
 st1 (.int .i64 n11) ⟨b15, 1, none⟩ w17 fun w18 =>
 st1 (.int .i64 n12) ⟨b15, 2, none⟩ w18 fun w19 =>
 st1 (.int .i64 n13) ⟨b15, 3, none⟩ w19 fun w20 =>
 ldI .i64 ⟨b15, 0, none⟩ w20 fun n21 =>
 ldI .i64 ⟨b15, 1, none⟩ w20 fun n22 =>
 ldI .i64 ⟨b15, 2, none⟩ w20 fun n23 =>
 ldI .i64 ⟨b15, 3, none⟩ w20 fun n24 =>
 st1 (.int .i64 n21) ⟨b2, 0, none⟩ w20 fun w25 =>
 st1 (.int .i64 n22) ⟨b2, 1, none⟩ w25 fun w26 =>
 st1 (.int .i64 n23) ⟨b2, 2, none⟩ w26 fun w27 =>
 st1 (.int .i64 n24) ⟨b2, 3, none⟩ w27 fun w28 =>
 ldI .i64 ⟨b2, 0, none⟩ w28 fun n29 =>
 ldI .i64 ⟨b2, 1, none⟩ w28 fun n30 =>
 ldI .i64 ⟨b2, 2, none⟩ w28 fun n31 =>
 ldI .i64 ⟨b2, 3, none⟩ w28 fun n32 =>
 Q (.tuple [.agg [.int .i64 n29, .int .i64 n30, .int .i64 n31, .int .i64 n32].toArray, .pointer p6].toArray) w28)
def crierlaw17_fresh_ann : Nat → Option LoopSpec := fun _ => none
theorem crierlaw17_fresh_eq (a0 : Int) (w : World) (Q : Value → World → Prop) : fnX P crierlaw17_fresh_ann Try.f13 [.int .u8 a0] w Q = crierlaw17_fresh a0 w Q := by kernel_rfl
theorem crierlaw17_fresh_cv {a0 : Int} {w : World} {Q : Value → World → Prop} (h : crierlaw17_fresh a0 w Q) : CV P F.crierlaw17_fresh [.int .u8 a0] w Q := CV_of mixed Try.func13 (crierlaw17_fresh_eq a0 w Q ▸ h)

/- 14 (*crier/queue.Queue).Put -/

def queue_Queue_Put (a0 : Option Addr) (a1 : Option Addr) (a2_0 : Int) (a2_1 : Int) (a2_2 : Int) (a2_3 : Int) (a2_4 : Int) (a2_5 : Int) (a2_6 : Int) (a2_7 : Int) (a2_8 : Bool) (w : World) (Q : Value → World → Prop) : Prop :=
 alc [.int .i64 a2_0, .int .i64 a2_1, .int .i64 a2_2, .int .i64 a2_3, .int .i64 a2_4, .int .i64 a2_5, .int .i64 a2_6, .int .i64 a2_7, .bool a2_8] T.t40 w fun b12 w13 =>
 nn a0 fun a14 =>
 ldI .i64 a14 w13 fun n15 =>
 ldI .i64 (a14.add 1) w13 fun n16 =>
 ldI .i64 (a14.add 2) w13 fun n17 =>
 ldI .i64 (a14.add 3) w13 fun n18 =>
 CV P F.queue_Queue_Room [.agg [.int .i64 n15, .int .i64 n16, .int .i64 n17, .int .i64 n18].toArray] w13 fun v19 w20 =>
 ∃ n21 : Int, v19 = .int .i64 n21 ∧
 cnd (decide (n21 < 1))
 (Q (.int .i64 2) w20)
 (drw w20 fun w22 =>
 nn a0 fun a23 =>
 ldI .i64 a23 w22 fun n24 =>
 ldI .i64 (a23.add 1) w22 fun n25 =>
 nn a0 fun a26 =>
 ldI .i64 (a26.add 3) w22 fun n27 =>
 ldI .i64 ⟨b12, 0, none⟩ w22 fun n28 =>
 ldI .i64 ⟨b12, 1, none⟩ w22 fun n29 =>
 ldI .i64 ⟨b12, 2, none⟩ w22 fun n30 =>
 ldI .i64 ⟨b12, 3, none⟩ w22 fun n31 =>
 ldI .i64 ⟨b12, 4, none⟩ w22 fun n32 =>
 ldI .i64 ⟨b12, 5, none⟩ w22 fun n33 =>
 ldI .i64 ⟨b12, 6, none⟩ w22 fun n34 =>
 ldI .i64 ⟨b12, 7, none⟩ w22 fun n35 =>
 ldB ⟨b12, 8, none⟩ w22 fun b36 =>
 CV P F.cmd_Store [.pointer a1, .agg [.int .i64 n24, .int .i64 n25].toArray, .int .i64 n27, .agg [.int .i64 n28, .int .i64 n29, .int .i64 n30, .int .i64 n31, .int .i64 n32, .int .i64 n33, .int .i64 n34, .int .i64 n35, .bool b36].toArray] w22 fun v37 w38 =>
 ∃ n39 : Int, v37 = .int .i64 n39 ∧
 cnd (n39 != 0)
 (Q (.int .i64 n39) w38)
 (drw w38 fun w40 =>
 nn a0 fun a41 =>
 ldI .i64 a41 w40 fun n42 =>
 ldI .i64 (a41.add 1) w40 fun n43 =>
 ldI .i64 (a41.add 2) w40 fun n44 =>
 ldI .i64 (a41.add 3) w40 fun n45 =>
 nn a0 fun a46 =>
 ldI .i64 (a46.add 3) w40 fun n47 =>
 CV P F.queue_Queue_ring [.agg [.int .i64 n42, .int .i64 n43, .int .i64 n44, .int .i64 n45].toArray] w40 fun v48 w49 =>
 ∃ n50 : Int, ∃ n51 : Int, v48 = .agg [.int .i64 n50, .int .i64 n51].toArray ∧
 (ldI .i64 (a46.add 3) w49 fun n52 =>
 ((.int .i64 n52 : Value) = .int .i64 n47)) ∧
 CV P F.ring_Ring_Next [.agg [.int .i64 n50, .int .i64 n51].toArray, .int .i64 n47] w49 fun v53 w54 =>
 ∃ n55 : Int, ∃ n56 : Int, v53 = .tuple [.int .i64 n55, .int .i64 n56].toArray ∧
 nn a0 fun a57 =>
 st1 (.int .i64 n55) (a57.add 3) w54 fun w58 =>
 Q (.int .i64 0) w58))
def queue_Queue_Put_ann : Nat → Option LoopSpec := fun
  | 28 => some (ordSpec [0, 1, 2, 3, 4, 5, 6, 7, 8, 9, 10, 11])
  | 30 => some (ordSpec [0, 1, 2, 3, 5, 6, 7, 8, 4, 9, 10, 11, 12, 13, 14, 15])
  | _ => none
theorem queue_Queue_Put_eq (a0 : Option Addr) (a1 : Option Addr) (a2_0 : Int) (a2_1 : Int) (a2_2 : Int) (a2_3 : Int) (a2_4 : Int) (a2_5 : Int) (a2_6 : Int) (a2_7 : Int) (a2_8 : Bool) (w : World) (Q : Value → World → Prop) : fnX P queue_Queue_Put_ann Try.f14 [.pointer a0, .pointer a1, .agg [.int .i64 a2_0, .int .i64 a2_1, .int .i64 a2_2, .int .i64 a2_3, .int .i64 a2_4, .int .i64 a2_5, .int .i64 a2_6, .int .i64 a2_7, .bool a2_8].toArray] w Q = queue_Queue_Put a0 a1 a2_0 a2_1 a2_2 a2_3 a2_4 a2_5 a2_6 a2_7 a2_8 w Q := by kernel_rfl
theorem queue_Queue_Put_cv {a0 : Option Addr} {a1 : Option Addr} {a2_0 : Int} {a2_1 : Int} {a2_2 : Int} {a2_3 : Int} {a2_4 : Int} {a2_5 : Int} {a2_6 : Int} {a2_7 : Int} {a2_8 : Bool} {w : World} {Q : Value → World → Prop} (h : queue_Queue_Put a0 a1 a2_0 a2_1 a2_2 a2_3 a2_4 a2_5 a2_6 a2_7 a2_8 w Q) : CV P F.queue_Queue_Put [.pointer a0, .pointer a1, .agg [.int .i64 a2_0, .int .i64 a2_1, .int .i64 a2_2, .int .i64 a2_3, .int .i64 a2_4, .int .i64 a2_5, .int .i64 a2_6, .int .i64 a2_7, .bool a2_8].toArray] w Q := CV_of mixed Try.func14 (queue_Queue_Put_eq a0 a1 a2_0 a2_1 a2_2 a2_3 a2_4 a2_5 a2_6 a2_7 a2_8 w Q ▸ h)

/- 15 (crier/queue.Queue).Head -/

def queue_Queue_Head (a0_0 : Int) (a0_1 : Int) (a0_2 : Int) (a0_3 : Int) (a1 : Option Addr) (w : World) (Q : Value → World → Prop) : Prop :=
 alc [.int .i64 a0_0, .int .i64 a0_1, .int .i64 a0_2, .int .i64 a0_3] T.t26 w fun b6 w7 =>
 alc [.int .i64 0, .int .i64 0, .int .i64 0, .int .i64 0, .int .i64 0, .int .i64 0, .int .i64 0, .int .i64 0, .bool false] T.t40 w7 fun b8 w9 =>
 ldI .i64 ⟨b6, 0, none⟩ w9 fun n10 =>
 ldI .i64 ⟨b6, 1, none⟩ w9 fun n11 =>
 ldI .i64 ⟨b6, 2, none⟩ w9 fun n12 =>
 ldI .i64 ⟨b6, 3, none⟩ w9 fun n13 =>
 CV P F.queue_Queue_Left [.agg [.int .i64 n10, .int .i64 n11, .int .i64 n12, .int .i64 n13].toArray] w9 fun v14 w15 =>
 ∃ n16 : Int, v14 = .int .i64 n16 ∧
 cnd (decide (n16 < 1))
 (st1 (.int .i64 0) ⟨b8, 0, none⟩ w15 fun w17 =>
 st1 (.int .i64 0) ⟨b8, 1, none⟩ w17 fun w18 =>
 st1 (.int .i64 0) ⟨b8, 2, none⟩ w18 fun w19 =>
 st1 (.int .i64 0) ⟨b8, 3, none⟩ w19 fun w20 =>
 st1 (.int .i64 0) ⟨b8, 4, none⟩ w20 fun w21 =>
 st1 (.int .i64 0) ⟨b8, 5, none⟩ w21 fun w22 =>
 st1 (.int .i64 0) ⟨b8, 6, none⟩ w22 fun w23 =>
 st1 (.int .i64 0) ⟨b8, 7, none⟩ w23 fun w24 =>
 st1 (.bool false) ⟨b8, 8, none⟩ w24 fun w25 =>
 ldI .i64 ⟨b8, 0, none⟩ w25 fun n26 =>
 ldI .i64 ⟨b8, 1, none⟩ w25 fun n27 =>
 ldI .i64 ⟨b8, 2, none⟩ w25 fun n28 =>
 ldI .i64 ⟨b8, 3, none⟩ w25 fun n29 =>
 ldI .i64 ⟨b8, 4, none⟩ w25 fun n30 =>
 ldI .i64 ⟨b8, 5, none⟩ w25 fun n31 =>
 ldI .i64 ⟨b8, 6, none⟩ w25 fun n32 =>
 ldI .i64 ⟨b8, 7, none⟩ w25 fun n33 =>
 ldB ⟨b8, 8, none⟩ w25 fun b34 =>
 Q (.tuple [.agg [.int .i64 n26, .int .i64 n27, .int .i64 n28, .int .i64 n29, .int .i64 n30, .int .i64 n31, .int .i64 n32, .int .i64 n33, .bool b34].toArray, .int .i64 170].toArray) w25)
 (ldI .i64 ⟨b6, 0, none⟩ w15 fun n35 =>
 ldI .i64 ⟨b6, 1, none⟩ w15 fun n36 =>
 ldI .i64 ⟨b6, 2, none⟩ w15 fun n37 =>
 CV P F.cmd_Load [.pointer a1, .agg [.int .i64 n35, .int .i64 n36].toArray, .int .i64 n37] w15 fun v38 w39 =>
 ∃ n40 : Int, ∃ n41 : Int, ∃ n42 : Int, ∃ n43 : Int, ∃ n44 : Int, ∃ n45 : Int, ∃ n46 : Int, ∃ n47 : Int, ∃ b48 : Bool, ∃ n49 : Int, v38 = .tuple [.agg [.int .i64 n40, .int .i64 n41, .int .i64 n42, .int .i64 n43, .int .i64 n44, .int .i64 n45, .int .i64 n46, .int .i64 n47, .bool b48].toArray, .int .i64 n49].toArray ∧
 st1 (.int .i64 n40) ⟨b8, 0, none⟩ w39 fun w50 =>
 st1 (.int .i64 n41) ⟨b8, 1, none⟩ w50 fun w51 =>
 st1 (.int .i64 n42) ⟨b8, 2, none⟩ w51 fun w52 =>
 st1 (.int .i64 n43) ⟨b8, 3, none⟩ w52 fun w53 =>
 st1 (.int .i64 n44) ⟨b8, 4, none⟩ w53 fun w54 =>
 st1 (.int .i64 n45) ⟨b8, 5, none⟩ w54 fun w55 =>
 st1 (.int .i64 n46) ⟨b8, 6, none⟩ w55 fun w56 =>
 st1 (.int .i64 n47) ⟨b8, 7, none⟩ w56 fun w57 =>
 st1 (.bool b48) ⟨b8, 8, none⟩ w57 fun w58 =>
 ldI .i64 ⟨b8, 0, none⟩ w58 fun n59 =>
 ldI .i64 ⟨b8, 1, none⟩ w58 fun n60 =>
 ldI .i64 ⟨b8, 2, none⟩ w58 fun n61 =>
 ldI .i64 ⟨b8, 3, none⟩ w58 fun n62 =>
 ldI .i64 ⟨b8, 4, none⟩ w58 fun n63 =>
 ldI .i64 ⟨b8, 5, none⟩ w58 fun n64 =>
 ldI .i64 ⟨b8, 6, none⟩ w58 fun n65 =>
 ldI .i64 ⟨b8, 7, none⟩ w58 fun n66 =>
 ldB ⟨b8, 8, none⟩ w58 fun b67 =>
 Q (.tuple [.agg [.int .i64 n59, .int .i64 n60, .int .i64 n61, .int .i64 n62, .int .i64 n63, .int .i64 n64, .int .i64 n65, .int .i64 n66, .bool b67].toArray, .int .i64 n49].toArray) w58)
def queue_Queue_Head_ann : Nat → Option LoopSpec := fun _ => none
theorem queue_Queue_Head_eq (a0_0 : Int) (a0_1 : Int) (a0_2 : Int) (a0_3 : Int) (a1 : Option Addr) (w : World) (Q : Value → World → Prop) : fnX P queue_Queue_Head_ann Try.f15 [.agg [.int .i64 a0_0, .int .i64 a0_1, .int .i64 a0_2, .int .i64 a0_3].toArray, .pointer a1] w Q = queue_Queue_Head a0_0 a0_1 a0_2 a0_3 a1 w Q := by kernel_rfl
theorem queue_Queue_Head_cv {a0_0 : Int} {a0_1 : Int} {a0_2 : Int} {a0_3 : Int} {a1 : Option Addr} {w : World} {Q : Value → World → Prop} (h : queue_Queue_Head a0_0 a0_1 a0_2 a0_3 a1 w Q) : CV P F.queue_Queue_Head [.agg [.int .i64 a0_0, .int .i64 a0_1, .int .i64 a0_2, .int .i64 a0_3].toArray, .pointer a1] w Q := CV_of mixed Try.func15 (queue_Queue_Head_eq a0_0 a0_1 a0_2 a0_3 a1 w Q ▸ h)

/- 16 (*crier/queue.Queue).Pass -/

def queue_Queue_Pass (a0 : Option Addr) (w : World) (Q : Value → World → Prop) : Prop :=
 nn a0 fun a2 =>
 ldI .i64 a2 w fun n3 =>
 ldI .i64 (a2.add 1) w fun n4 =>
 ldI .i64 (a2.add 2) w fun n5 =>
 ldI .i64 (a2.add 3) w fun n6 =>
 CV P F.queue_Queue_Left [.agg [.int .i64 n3, .int .i64 n4, .int .i64 n5, .int .i64 n6].toArray] w fun v7 w8 =>
 ∃ n9 : Int, v7 = .int .i64 n9 ∧
 cnd (decide (n9 < 1))
 (Q (.int .i64 170) w8)
 (drw w8 fun w10 =>
 nn a0 fun a11 =>
 ldI .i64 a11 w10 fun n12 =>
 ldI .i64 (a11.add 1) w10 fun n13 =>
 ldI .i64 (a11.add 2) w10 fun n14 =>
 ldI .i64 (a11.add 3) w10 fun n15 =>
 nn a0 fun a16 =>
 ldI .i64 (a16.add 2) w10 fun n17 =>
 CV P F.queue_Queue_ring [.agg [.int .i64 n12, .int .i64 n13, .int .i64 n14, .int .i64 n15].toArray] w10 fun v18 w19 =>
 ∃ n20 : Int, ∃ n21 : Int, v18 = .agg [.int .i64 n20, .int .i64 n21].toArray ∧
 (ldI .i64 (a16.add 2) w19 fun n22 =>
 ((.int .i64 n22 : Value) = .int .i64 n17)) ∧
 CV P F.ring_Ring_Next [.agg [.int .i64 n20, .int .i64 n21].toArray, .int .i64 n17] w19 fun v23 w24 =>
 ∃ n25 : Int, ∃ n26 : Int, v23 = .tuple [.int .i64 n25, .int .i64 n26].toArray ∧
 nn a0 fun a27 =>
 st1 (.int .i64 n25) (a27.add 2) w24 fun w28 =>
 Q (.int .i64 0) w28)
def queue_Queue_Pass_ann : Nat → Option LoopSpec := fun
  | 14 => some (ordSpec [0, 1, 2, 3, 5, 6, 7, 8, 4, 9, 10, 11, 12, 13, 14, 15])
  | _ => none
theorem queue_Queue_Pass_eq (a0 : Option Addr) (w : World) (Q : Value → World → Prop) : fnX P queue_Queue_Pass_ann Try.f16 [.pointer a0] w Q = queue_Queue_Pass a0 w Q := by kernel_rfl
theorem queue_Queue_Pass_cv {a0 : Option Addr} {w : World} {Q : Value → World → Prop} (h : queue_Queue_Pass a0 w Q) : CV P F.queue_Queue_Pass [.pointer a0] w Q := CV_of mixed Try.func16 (queue_Queue_Pass_eq a0 w Q ▸ h)

/- 17 (crier/queue.Queue).Each -/

def queue_Queue_Each (a0_0 : Int) (a0_1 : Int) (a0_2 : Int) (a0_3 : Int) (a1 : Option Addr) (w : World) (Q : Value → World → Prop) : Prop :=
 alc [.int .i64 a0_0, .int .i64 a0_1, .int .i64 a0_2, .int .i64 a0_3] T.t26 w fun b6 w7 =>
 alc [.pointer a1] T.t34 w7 fun b8 w9 =>
 Q (.func (.func F.queue_Queue_Each_1) [].toArray [.pointer (some ⟨b6, 0, none⟩), .pointer (some ⟨b8, 0, none⟩)].toArray) w9
def queue_Queue_Each_ann : Nat → Option LoopSpec := fun _ => none
theorem queue_Queue_Each_eq (a0_0 : Int) (a0_1 : Int) (a0_2 : Int) (a0_3 : Int) (a1 : Option Addr) (w : World) (Q : Value → World → Prop) : fnX P queue_Queue_Each_ann Try.f17 [.agg [.int .i64 a0_0, .int .i64 a0_1, .int .i64 a0_2, .int .i64 a0_3].toArray, .pointer a1] w Q = queue_Queue_Each a0_0 a0_1 a0_2 a0_3 a1 w Q := by kernel_rfl
theorem queue_Queue_Each_cv {a0_0 : Int} {a0_1 : Int} {a0_2 : Int} {a0_3 : Int} {a1 : Option Addr} {w : World} {Q : Value → World → Prop} (h : queue_Queue_Each a0_0 a0_1 a0_2 a0_3 a1 w Q) : CV P F.queue_Queue_Each [.agg [.int .i64 a0_0, .int .i64 a0_1, .int .i64 a0_2, .int .i64 a0_3].toArray, .pointer a1] w Q := CV_of mixed Try.func17 (queue_Queue_Each_eq a0_0 a0_1 a0_2 a0_3 a1 w Q ▸ h)

/- 18 (*crier/queue.Queue).Fill -/
def queue_Queue_Fill_L26 : LoopSpec where
  S := Int
  emb := fun s => [(13, .int .i64 s)]
  ext := fun t => match getL t 13 with
    | some (.int .i64 y6) => some (y6)
    | _ => none
  slots := [13]
  fits := fun _ => rfl
  ok := by
    intro t s h x hx
    (try dsimp only at h hx)
    split at h
    · cases h
      simp only [List.mem_cons, List.not_mem_nil, or_false] at hx
      rcases hx with rfl <;> assumption
    · cases h

def queue_Queue_Fill_l0 (a0 : Option Addr) (a1 : Option Addr) (a2 : Option Addr) (a2_n : Nat) (Q : Value → World → Prop) (n7 : Int) (w8 : World) (A9 : queue_Queue_Fill_L26.S → World → Prop) : Prop :=
 cnd (decide (n7 < ((a2_n : Nat) : Int)))
 (ix n7 a2_n fun j10 => nn a2 fun a11 =>
 ldI .i64 (a11.add (j10 * 9)) w8 fun n12 =>
 ldI .i64 ((a11.add (j10 * 9)).add 1) w8 fun n13 =>
 ldI .i64 ((a11.add (j10 * 9)).add 2) w8 fun n14 =>
 ldI .i64 ((a11.add (j10 * 9)).add 3) w8 fun n15 =>
 ldI .i64 ((a11.add (j10 * 9)).add 4) w8 fun n16 =>
 ldI .i64 ((a11.add (j10 * 9)).add 5) w8 fun n17 =>
 ldI .i64 ((a11.add (j10 * 9)).add 6) w8 fun n18 =>
 ldI .i64 ((a11.add (j10 * 9)).add 7) w8 fun n19 =>
 ldB ((a11.add (j10 * 9)).add 8) w8 fun b20 =>
 alc [.int .i64 0, .int .i64 0, .int .i64 0, .int .i64 0, .int .i64 0, .int .i64 0, .int .i64 0, .int .i64 0, .bool false] T.t40 w8 fun b21 w22 =>
 st1 (.int .i64 n12) ⟨b21, 0, none⟩ w22 fun w23 =>
 st1 (.int .i64 n13) ⟨b21, 1, none⟩ w23 fun w24 =>
 st1 (.int .i64 n14) ⟨b21, 2, none⟩ w24 fun w25 =>
 st1 (.int .i64 n15) ⟨b21, 3, none⟩ w25 fun w26 =>
 st1 (.int .i64 n16) ⟨b21, 4, none⟩ w26 fun w27 =>
 st1 (.int .i64 n17) ⟨b21, 5, none⟩ w27 fun w28 =>
 st1 (.int .i64 n18) ⟨b21, 6, none⟩ w28 fun w29 =>
 st1 (.int .i64 n19) ⟨b21, 7, none⟩ w29 fun w30 =>
 st1 (.bool b20) ⟨b21, 8, none⟩ w30 fun w31 =>
 ldI .i64 ⟨b21, 0, none⟩ w31 fun n32 =>
 ldI .i64 ⟨b21, 1, none⟩ w31 fun n33 =>
 ldI .i64 ⟨b21, 2, none⟩ w31 fun n34 =>
 ldI .i64 ⟨b21, 3, none⟩ w31 fun n35 =>
 ldI .i64 ⟨b21, 4, none⟩ w31 fun n36 =>
 ldI .i64 ⟨b21, 5, none⟩ w31 fun n37 =>
 ldI .i64 ⟨b21, 6, none⟩ w31 fun n38 =>
 ldI .i64 ⟨b21, 7, none⟩ w31 fun n39 =>
 ldB ⟨b21, 8, none⟩ w31 fun b40 =>
 CV P F.queue_Queue_Put [.pointer a0, .pointer a1, .agg [.int .i64 n32, .int .i64 n33, .int .i64 n34, .int .i64 n35, .int .i64 n36, .int .i64 n37, .int .i64 n38, .int .i64 n39, .bool b40].toArray] w31 fun v41 w42 =>
 ∃ n43 : Int, v41 = .int .i64 n43 ∧
 cnd (n43 != 0)
 (Q (.tuple [.int .i64 n7, .int .i64 n43].toArray) w42)
 (A9 (((IntKind.i64.wrap (n7 + 1)) : Int)) w42))
 (Q (.tuple [.int .i64 ((a2_n : Nat) : Int), .int .i64 0].toArray) w8)

def queue_Queue_Fill (a0 : Option Addr) (a1 : Option Addr) (a2 : Option Addr) (a2_n : Nat) (a2_c : Nat) (w : World) (Q : Value → World → Prop) : Prop :=
 LoopT (fun (s44 : queue_Queue_Fill_L26.S) w45 A46 => queue_Queue_Fill_l0 a0 a1 a2 a2_n Q s44 w45 A46) ((0 : Int)) w
def queue_Queue_Fill_ann : Nat → Option LoopSpec := fun
  | 26 => some queue_Queue_Fill_L26
  | _ => none
theorem queue_Queue_Fill_eq (a0 : Option Addr) (a1 : Option Addr) (a2 : Option Addr) (a2_n : Nat) (a2_c : Nat) (w : World) (Q : Value → World → Prop) : fnX P queue_Queue_Fill_ann Try.f18 [.pointer a0, .pointer a1, .slice a2 a2_n a2_c] w Q = queue_Queue_Fill a0 a1 a2 a2_n a2_c w Q := by kernel_rfl
theorem queue_Queue_Fill_cv {a0 : Option Addr} {a1 : Option Addr} {a2 : Option Addr} {a2_n : Nat} {a2_c : Nat} {w : World} {Q : Value → World → Prop} (h : queue_Queue_Fill a0 a1 a2 a2_n a2_c w Q) : CV P F.queue_Queue_Fill [.pointer a0, .pointer a1, .slice a2 a2_n a2_c] w Q := CV_of mixed Try.func18 (queue_Queue_Fill_eq a0 a1 a2 a2_n a2_c w Q ▸ h)

end Go.Proofs.Ytggchklafbpgpaa
