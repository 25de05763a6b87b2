/-
  The functions' words, printed by Gen.lean out of the translation.
-/
import Derived.Test.YtggchklafbpgpaaFn0
namespace Go.Proofs.Ytggchklafbpgpaa
open Go X
set_option maxRecDepth 100000
set_option linter.unusedVariables false
/- 46 (crier/crierref17.Queue).Room -/
def crierref17_Queue_Room_J6 : LoopSpec where
  S := Bool
  emb := fun s => [(14, .bool s)]
  ext := fun t => match getL t 14 with
    | some (.bool y7) => some (y7)
    | _ => none
  slots := [14]
  fits := fun _ => rfl
  ok := by
    intro t s h x hx
    (try dsimp only at h hx)
    split at h
    · cases h
      simp only [List.mem_cons, List.not_mem_nil, or_false] at hx
      rcases hx with rfl <;> assumption
    · cases h

def crierref17_Queue_Room_j0 (Q : Value → World → Prop) (b5 : Nat) (b8 : Bool) (w9 : World) : Prop :=
 cnd b8
 (Q (.int .i64 0) w9)
 (drw w9 fun w10 =>
 ldI .i64 ⟨b5, 1, none⟩ w10 fun n11 =>
 (nz 32 <|
 ldI .i64 ⟨b5, 0, none⟩ w10 fun n12 =>
 ldI .i64 ⟨b5, 1, none⟩ w10 fun n13 =>
 ldI .i64 ⟨b5, 2, none⟩ w10 fun n14 =>
 ldI .i64 ⟨b5, 3, none⟩ w10 fun n15 =>
 CV P F.crierref17_Queue_Waits [.agg [.int .i64 n12, .int .i64 n13, .int .i64 n14, .int .i64 n15].toArray] w10 fun v16 w17 =>
 ∃ (p18 : Option Addr) (l19 c20 : Nat), v16 = .slice p18 l19 c20 ∧
 (ldI .i64 ⟨b5, 1, none⟩ w17 fun n21 =>
 ((.int .i64 n21 : Value) = .int .i64 n11)) ∧
 Q (.int .i64 (IntKind.i64.wrap ((IntKind.i64.wrap ((IntKind.i64.wrap (Int.tdiv n11 32)) - 1)) - ((l19 : Nat) : Int)))) w17))

def crierref17_Queue_Room (a0_0 : Int) (a0_1 : Int) (a0_2 : Int) (a0_3 : Int) (w : World) (Q : Value → World → Prop) : Prop :=
 alc [.int .i64 a0_0, .int .i64 a0_1, .int .i64 a0_2, .int .i64 a0_3] T.t61 w fun b5 w6 =>
 JoinT (fun (J22 : crierref17_Queue_Room_J6.S → World → Prop) =>
  ldI .i64 ⟨b5, 0, none⟩ w6 fun n23 =>
  ldI .i64 ⟨b5, 1, none⟩ w6 fun n24 =>
  ldI .i64 ⟨b5, 2, none⟩ w6 fun n25 =>
  ldI .i64 ⟨b5, 3, none⟩ w6 fun n26 =>
  ldI .i64 ⟨b5, 2, none⟩ w6 fun n27 =>
  CV P F.crierref17_Queue_may [.agg [.int .i64 n23, .int .i64 n24, .int .i64 n25, .int .i64 n26].toArray, .int .i64 n27] w6 fun v28 w29 =>
  ∃ b30 : Bool, v28 = .bool b30 ∧
  cnd (!b30)
  (J22 ((true : Bool)) w29)
  (ldI .i64 ⟨b5, 0, none⟩ w29 fun n31 =>
  ldI .i64 ⟨b5, 1, none⟩ w29 fun n32 =>
  ldI .i64 ⟨b5, 2, none⟩ w29 fun n33 =>
  ldI .i64 ⟨b5, 3, none⟩ w29 fun n34 =>
  ldI .i64 ⟨b5, 3, none⟩ w29 fun n35 =>
  CV P F.crierref17_Queue_may [.agg [.int .i64 n31, .int .i64 n32, .int .i64 n33, .int .i64 n34].toArray, .int .i64 n35] w29 fun v36 w37 =>
  ∃ b38 : Bool, v36 = .bool b38 ∧
  J22 (((!b38) : Bool)) w37))
  fun (s39 : crierref17_Queue_Room_J6.S) w40 => crierref17_Queue_Room_j0 Q b5 s39 w40
def crierref17_Queue_Room_ann : Nat → Option LoopSpec := fun
  | 6 => some crierref17_Queue_Room_J6
  | 14 => some (ordSpec [0, 1, 2, 3, 4, 5, 6, 7, 8, 9])
  | _ => none
theorem crierref17_Queue_Room_eq (a0_0 : Int) (a0_1 : Int) (a0_2 : Int) (a0_3 : Int) (w : World) (Q : Value → World → Prop) : fnX P crierref17_Queue_Room_ann Try.f46 [.agg [.int .i64 a0_0, .int .i64 a0_1, .int .i64 a0_2, .int .i64 a0_3].toArray] w Q = crierref17_Queue_Room a0_0 a0_1 a0_2 a0_3 w Q := by kernel_rfl
theorem crierref17_Queue_Room_cv {a0_0 : Int} {a0_1 : Int} {a0_2 : Int} {a0_3 : Int} {w : World} {Q : Value → World → Prop} (h : crierref17_Queue_Room a0_0 a0_1 a0_2 a0_3 w Q) : CV P F.crierref17_Queue_Room [.agg [.int .i64 a0_0, .int .i64 a0_1, .int .i64 a0_2, .int .i64 a0_3].toArray] w Q := CV_of mixed Try.func46 (crierref17_Queue_Room_eq a0_0 a0_1 a0_2 a0_3 w Q ▸ h)

/- 47 (crier/crierref17.Queue).Head -/

def crierref17_Queue_Head (a0_0 : Int) (a0_1 : Int) (a0_2 : Int) (a0_3 : Int) (a1 : Option Addr) (w : World) (Q : Value → World → Prop) : Prop :=
 alc [.int .i64 a0_0, .int .i64 a0_1, .int .i64 a0_2, .int .i64 a0_3] T.t61 w fun b6 w7 =>
 alc [.int .i64 0, .int .i64 0, .int .i64 0, .int .i64 0, .int .i64 0, .int .i64 0, .int .i64 0, .int .i64 0, .bool false] T.t40 w7 fun b8 w9 =>
 ldI .i64 ⟨b6, 0, none⟩ w9 fun n10 =>
 ldI .i64 ⟨b6, 1, none⟩ w9 fun n11 =>
 ldI .i64 ⟨b6, 2, none⟩ w9 fun n12 =>
 ldI .i64 ⟨b6, 3, none⟩ w9 fun n13 =>
 CV P F.crierref17_Queue_Waits [.agg [.int .i64 n10, .int .i64 n11, .int .i64 n12, .int .i64 n13].toArray] w9 fun v14 w15 =>
 ∃ (p16 : Option Addr) (l17 c18 : Nat), v14 = .slice p16 l17 c18 ∧
 cnd (((l17 : Nat) : Int) == 0)
 (st1 (.int .i64 0) ⟨b8, 0, none⟩ w15 fun w19 =>
 st1 (.int .i64 0) ⟨b8, 1, none⟩ w19 fun w20 =>
 st1 (.int .i64 0) ⟨b8, 2, none⟩ w20 fun w21 =>
 st1 (.int .i64 0) ⟨b8, 3, none⟩ w21 fun w22 =>
 st1 (.int .i64 0) ⟨b8, 4, none⟩ w22 fun w23 =>
 st1 (.int .i64 0) ⟨b8, 5, none⟩ w23 fun w24 =>
 st1 (.int .i64 0) ⟨b8, 6, none⟩ w24 fun w25 =>
 st1 (.int .i64 0) ⟨b8, 7, none⟩ w25 fun w26 =>
 st1 (.bool false) ⟨b8, 8, none⟩ w26 fun w27 =>
 ldI .i64 ⟨b8, 0, none⟩ w27 fun n28 =>
 ldI .i64 ⟨b8, 1, none⟩ w27 fun n29 =>
 ldI .i64 ⟨b8, 2, none⟩ w27 fun n30 =>
 ldI .i64 ⟨b8, 3, none⟩ w27 fun n31 =>
 ldI .i64 ⟨b8, 4, none⟩ w27 fun n32 =>
 ldI .i64 ⟨b8, 5, none⟩ w27 fun n33 =>
 ldI .i64 ⟨b8, 6, none⟩ w27 fun n34 =>
 ldI .i64 ⟨b8, 7, none⟩ w27 fun n35 =>
 ldB ⟨b8, 8, none⟩ w27 fun b36 =>
 Q (.tuple [.agg [.int .i64 n28, .int .i64 n29, .int .i64 n30, .int .i64 n31, .int .i64 n32, .int .i64 n33, .int .i64 n34, .int .i64 n35, .bool b36].toArray, .int .i64 170].toArray) w27)
 (ldI .i64 ⟨b6, 0, none⟩ w15 fun n37 =>
 ldI .i64 ⟨b6, 1, none⟩ w15 fun n38 =>
 ldI .i64 ⟨b6, 2, none⟩ w15 fun n39 =>
 CV P F.crierref16_Load [.pointer a1, .agg [.int .i64 n37, .int .i64 n38].toArray, .int .i64 n39] w15 fun v40 w41 =>
 ∃ n42 : Int, ∃ n43 : Int, ∃ n44 : Int, ∃ n45 : Int, ∃ n46 : Int, ∃ n47 : Int, ∃ n48 : Int, ∃ n49 : Int, ∃ b50 : Bool, ∃ n51 : Int, v40 = .tuple [.agg [.int .i64 n42, .int .i64 n43, .int .i64 n44, .int .i64 n45, .int .i64 n46, .int .i64 n47, .int .i64 n48, .int .i64 n49, .bool b50].toArray, .int .i64 n51].toArray ∧
 st1 (.int .i64 n42) ⟨b8, 0, none⟩ w41 fun w52 =>
 st1 (.int .i64 n43) ⟨b8, 1, none⟩ w52 fun w53 =>
 st1 (.int .i64 n44) ⟨b8, 2, none⟩ w53 fun w54 =>
 st1 (.int .i64 n45) ⟨b8, 3, none⟩ w54 fun w55 =>
 st1 (.int .i64 n46) ⟨b8, 4, none⟩ w55 fun w56 =>
 st1 (.int .i64 n47) ⟨b8, 5, none⟩ w56 fun w57 =>
 st1 (.int .i64 n48) ⟨b8, 6, none⟩ w57 fun w58 =>
 st1 (.int .i64 n49) ⟨b8, 7, none⟩ w58 fun w59 =>
 st1 (.bool b50) ⟨b8, 8, none⟩ w59 fun w60 =>
 ldI .i64 ⟨b8, 0, none⟩ w60 fun n61 =>
 ldI .i64 ⟨b8, 1, none⟩ w60 fun n62 =>
 ldI .i64 ⟨b8, 2, none⟩ w60 fun n63 =>
 ldI .i64 ⟨b8, 3, none⟩ w60 fun n64 =>
 ldI .i64 ⟨b8, 4, none⟩ w60 fun n65 =>
 ldI .i64 ⟨b8, 5, none⟩ w60 fun n66 =>
 ldI .i64 ⟨b8, 6, none⟩ w60 fun n67 =>
 ldI .i64 ⟨b8, 7, none⟩ w60 fun n68 =>
 ldB ⟨b8, 8, none⟩ w60 fun b69 =>
 Q (.tuple [.agg [.int .i64 n61, .int .i64 n62, .int .i64 n63, .int .i64 n64, .int .i64 n65, .int .i64 n66, .int .i64 n67, .int .i64 n68, .bool b69].toArray, .int .i64 n51].toArray) w60)
def crierref17_Queue_Head_ann : Nat → Option LoopSpec := fun _ => none
theorem crierref17_Queue_Head_eq (a0_0 : Int) (a0_1 : Int) (a0_2 : Int) (a0_3 : Int) (a1 : Option Addr) (w : World) (Q : Value → World → Prop) : fnX P crierref17_Queue_Head_ann Try.f47 [.agg [.int .i64 a0_0, .int .i64 a0_1, .int .i64 a0_2, .int .i64 a0_3].toArray, .pointer a1] w Q = crierref17_Queue_Head a0_0 a0_1 a0_2 a0_3 a1 w Q := by kernel_rfl
theorem crierref17_Queue_Head_cv {a0_0 : Int} {a0_1 : Int} {a0_2 : Int} {a0_3 : Int} {a1 : Option Addr} {w : World} {Q : Value → World → Prop} (h : crierref17_Queue_Head a0_0 a0_1 a0_2 a0_3 a1 w Q) : CV P F.crierref17_Queue_Head [.agg [.int .i64 a0_0, .int .i64 a0_1, .int .i64 a0_2, .int .i64 a0_3].toArray, .pointer a1] w Q := CV_of mixed Try.func47 (crierref17_Queue_Head_eq a0_0 a0_1 a0_2 a0_3 a1 w Q ▸ h)

/- 48 crier/crierref16.Load -/
def crierref16_Load_L58 : LoopSpec where
  S := Int
  emb := fun s => [(9, .int .i64 s)]
  ext := fun t => match getL t 9 with
    | some (.int .i64 y11) => some (y11)
    | _ => none
  slots := [9]
  fits := fun _ => rfl
  ok := by
    intro t s h x hx
    (try dsimp only at h hx)
    split at h
    · cases h
      simp only [List.mem_cons, List.not_mem_nil, or_false] at hx
      rcases hx with rfl <;> assumption
    · cases h

def crierref16_Load_l0 (a0 : Option Addr) (a2 : Int) (Q : Value → World → Prop) (b5 : Nat) (b7 : Nat) (b9 : Nat) (n12 : Int) (w13 : World) (A14 : crierref16_Load_L58.S → World → Prop) : Prop :=
 cnd (decide (n12 < 4))
 (ldI .i64 ⟨b5, 0, none⟩ w13 fun n15 =>
 ldI .i64 ⟨b5, 1, none⟩ w13 fun n16 =>
 CV P F.crierref04_Mem_Read [.pointer a0, .agg [.int .i64 n15, .int .i64 n16].toArray, .int .i64 (IntKind.i64.wrap (a2 + (IntKind.i64.wrap (8 * n12)))), .int .i64 8] w13 fun v17 w18 =>
 ∃ n19 : Int, ∃ n20 : Int, v17 = .tuple [.int .u64 n19, .int .i64 n20].toArray ∧
 cnd (n20 != 0)
 (st1 (.int .i64 0) ⟨b7, 0, none⟩ w18 fun w21 =>
 st1 (.int .i64 0) ⟨b7, 1, none⟩ w21 fun w22 =>
 st1 (.int .i64 0) ⟨b7, 2, none⟩ w22 fun w23 =>
 st1 (.int .i64 0) ⟨b7, 3, none⟩ w23 fun w24 =>
 st1 (.int .i64 0) ⟨b7, 4, none⟩ w24 fun w25 =>
 st1 (.int .i64 0) ⟨b7, 5, none⟩ w25 fun w26 =>
 st1 (.int .i64 0) ⟨b7, 6, none⟩ w26 fun w27 =>
 st1 (.int .i64 0) ⟨b7, 7, none⟩ w27 fun w28 =>
 st1 (.bool false) ⟨b7, 8, none⟩ w28 fun w29 =>
 ldI .i64 ⟨b7, 0, none⟩ w29 fun n30 =>
 ldI .i64 ⟨b7, 1, none⟩ w29 fun n31 =>
 ldI .i64 ⟨b7, 2, none⟩ w29 fun n32 =>
 ldI .i64 ⟨b7, 3, none⟩ w29 fun n33 =>
 ldI .i64 ⟨b7, 4, none⟩ w29 fun n34 =>
 ldI .i64 ⟨b7, 5, none⟩ w29 fun n35 =>
 ldI .i64 ⟨b7, 6, none⟩ w29 fun n36 =>
 ldI .i64 ⟨b7, 7, none⟩ w29 fun n37 =>
 ldB ⟨b7, 8, none⟩ w29 fun b38 =>
 Q (.tuple [.agg [.int .i64 n30, .int .i64 n31, .int .i64 n32, .int .i64 n33, .int .i64 n34, .int .i64 n35, .int .i64 n36, .int .i64 n37, .bool b38].toArray, .int .i64 42].toArray) w29)
 (ix n12 4 fun j39 =>
 st1 (.int .u64 n19) (Addr.add ⟨b9, 0, none⟩ (j39 * 1)) w18 fun w40 =>
 A14 (((IntKind.i64.wrap (n12 + 1)) : Int)) w40))
 (ldI .u64 ⟨b9, 0, none⟩ w13 fun n41 =>
 ldI .u64 ⟨b9, 1, none⟩ w13 fun n42 =>
 ldI .u64 ⟨b9, 2, none⟩ w13 fun n43 =>
 ldI .u64 ⟨b9, 3, none⟩ w13 fun n44 =>
 CV P F.crierref16_Decode [.agg [.int .u64 n41, .int .u64 n42, .int .u64 n43, .int .u64 n44].toArray] w13 fun v45 w46 =>
 ∃ n47 : Int, ∃ n48 : Int, ∃ n49 : Int, ∃ n50 : Int, ∃ n51 : Int, ∃ n52 : Int, ∃ n53 : Int, ∃ n54 : Int, ∃ b55 : Bool, ∃ b56 : Bool, v45 = .tuple [.agg [.int .i64 n47, .int .i64 n48, .int .i64 n49, .int .i64 n50, .int .i64 n51, .int .i64 n52, .int .i64 n53, .int .i64 n54, .bool b55].toArray, .bool b56].toArray ∧
 alc [.int .i64 0, .int .i64 0, .int .i64 0, .int .i64 0, .int .i64 0, .int .i64 0, .int .i64 0, .int .i64 0, .bool false] T.t40 w46 fun b57 w58 =>
 st1 (.int .i64 n47) ⟨b57, 0, none⟩ w58 fun w59 =>
 st1 (.int .i64 n48) ⟨b57, 1, none⟩ w59 fun w60 =>
 st1 (.int .i64 n49) ⟨b57, 2, none⟩ w60 fun w61 =>
 st1 (.int .i64 n50) ⟨b57, 3, none⟩ w61 fun w62 =>
 st1 (.int .i64 n51) ⟨b57, 4, none⟩ w62 fun w63 =>
 st1 (.int .i64 n52) ⟨b57, 5, none⟩ w63 fun w64 =>
 st1 (.int .i64 n53) ⟨b57, 6, none⟩ w64 fun w65 =>
 st1 (.int .i64 n54) ⟨b57, 7, none⟩ w65 fun w66 =>
 st1 (.bool b55) ⟨b57, 8, none⟩ w66 fun w67 =>
 cnd (!b56)
 (st1 (.int .i64 0) ⟨b7, 0, none⟩ w67 fun w68 =>
 st1 (.int .i64 0) ⟨b7, 1, none⟩ w68 fun w69 =>
 st1 (.int .i64 0) ⟨b7, 2, none⟩ w69 fun w70 =>
 st1 (.int .i64 0) ⟨b7, 3, none⟩ w70 fun w71 =>
 st1 (.int .i64 0) ⟨b7, 4, none⟩ w71 fun w72 =>
 st1 (.int .i64 0) ⟨b7, 5, none⟩ w72 fun w73 =>
 st1 (.int .i64 0) ⟨b7, 6, none⟩ w73 fun w74 =>
 st1 (.int .i64 0) ⟨b7, 7, none⟩ w74 fun w75 =>
 st1 (.bool false) ⟨b7, 8, none⟩ w75 fun w76 =>
 ldI .i64 ⟨b7, 0, none⟩ w76 fun n77 =>
 ldI .i64 ⟨b7, 1, none⟩ w76 fun n78 =>
 ldI .i64 ⟨b7, 2, none⟩ w76 fun n79 =>
 ldI .i64 ⟨b7, 3, none⟩ w76 fun n80 =>
 ldI .i64 ⟨b7, 4, none⟩ w76 fun n81 =>
 ldI .i64 ⟨b7, 5, none⟩ w76 fun n82 =>
 ldI .i64 ⟨b7, 6, none⟩ w76 fun n83 =>
 ldI .i64 ⟨b7, 7, none⟩ w76 fun n84 =>
 ldB ⟨b7, 8, none⟩ w76 fun b85 =>
 Q (.tuple [.agg [.int .i64 n77, .int .i64 n78, .int .i64 n79, .int .i64 n80, .int .i64 n81, .int .i64 n82, .int .i64 n83, .int .i64 n84, .bool b85].toArray, .int .i64 160].toArray) w76)
 (ldI .i64 ⟨b57, 0, none⟩ w67 fun n86 =>
 ldI .i64 ⟨b57, 1, none⟩ w67 fun n87 =>
 ldI .i64 ⟨b57, 2, none⟩ w67 fun n88 =>
 ldI .i64 ⟨b57, 3, none⟩ w67 fun n89 =>
 ldI .i64 ⟨b57, 4, none⟩ w67 fun n90 =>
 ldI .i64 ⟨b57, 5, none⟩ w67 fun n91 =>
 ldI .i64 ⟨b57, 6, none⟩ w67 fun n92 =>
 ldI .i64 ⟨b57, 7, none⟩ w67 fun n93 =>
 ldB ⟨b57, 8, none⟩ w67 fun b94 =>
 st1 (.int .i64 n86) ⟨b7, 0, none⟩ w67 fun w95 =>
 st1 (.int .i64 n87) ⟨b7, 1, none⟩ w95 fun w96 =>
 st1 (.int .i64 n88) ⟨b7, 2, none⟩ w96 fun w97 =>
 st1 (.int .i64 n89) ⟨b7, 3, none⟩ w97 fun w98 =>
 st1 (.int .i64 n90) ⟨b7, 4, none⟩ w98 fun w99 =>
 st1 (.int .i64 n91) ⟨b7, 5, none⟩ w99 fun w100 =>
 st1 (.int .i64 n92) ⟨b7, 6, none⟩ w100 fun w101 =>
 st1 (.int .i64 n93) ⟨b7, 7, none⟩ w101 fun w102 =>
 st1 (.bool b94) ⟨b7, 8, none⟩ w102 fun w103 =>
 ldI .i64 ⟨b7, 0, none⟩ w103 fun n104 =>
 ldI .i64 ⟨b7, 1, none⟩ w103 fun n105 =>
 ldI .i64 ⟨b7, 2, none⟩ w103 fun n106 =>
 ldI .i64 ⟨b7, 3, none⟩ w103 fun n107 =>
 ldI .i64 ⟨b7, 4, none⟩ w103 fun n108 =>
 ldI .i64 ⟨b7, 5, none⟩ w103 fun n109 =>
 ldI .i64 ⟨b7, 6, none⟩ w103 fun n110 =>
 ldI .i64 ⟨b7, 7, none⟩ w103 fun n111 =>
 ldB ⟨b7, 8, none⟩ w103 fun b112 =>
 Q (.tuple [.agg [.int .i64 n104, .int .i64 n105, .int .i64 n106, .int .i64 n107, .int .i64 n108, .int .i64 n109, .int .i64 n110, .int .i64 n111, .bool b112].toArray, .int .i64 0].toArray) w103))

def crierref16_Load (a0 : Option Addr) (a1_0 : Int) (a1_1 : Int) (a2 : Int) (w : World) (Q : Value → World → Prop) : Prop :=
 alc [.int .i64 a1_0, .int .i64 a1_1] T.t23 w fun b5 w6 =>
 alc [.int .i64 0, .int .i64 0, .int .i64 0, .int .i64 0, .int .i64 0, .int .i64 0, .int .i64 0, .int .i64 0, .bool false] T.t40 w6 fun b7 w8 =>
 alc [.int .u64 0, .int .u64 0, .int .u64 0, .int .u64 0] T.t51 w8 fun b9 w10 =>
 LoopT (fun (s113 : crierref16_Load_L58.S) w114 A115 => crierref16_Load_l0 a0 a2 Q b5 b7 b9 s113 w114 A115) ((0 : Int)) w10
def crierref16_Load_ann : Nat → Option LoopSpec := fun
  | 58 => some crierref16_Load_L58
  | _ => none
theorem crierref16_Load_eq (a0 : Option Addr) (a1_0 : Int) (a1_1 : Int) (a2 : Int) (w : World) (Q : Value → World → Prop) : fnX P crierref16_Load_ann Try.f48 [.pointer a0, .agg [.int .i64 a1_0, .int .i64 a1_1].toArray, .int .i64 a2] w Q = crierref16_Load a0 a1_0 a1_1 a2 w Q := by kernel_rfl
theorem crierref16_Load_cv {a0 : Option Addr} {a1_0 : Int} {a1_1 : Int} {a2 : Int} {w : World} {Q : Value → World → Prop} (h : crierref16_Load a0 a1_0 a1_1 a2 w Q) : CV P F.crierref16_Load [.pointer a0, .agg [.int .i64 a1_0, .int .i64 a1_1].toArray, .int .i64 a2] w Q := CV_of mixed Try.func48 (crierref16_Load_eq a0 a1_0 a1_1 a2 w Q ▸ h)

/- 49 (*crier/mem.Mem).Bytes -/

def mem_Mem_Bytes (a0 : Option Addr) (a1_0 : Int) (a1_1 : Int) (w : World) (Q : Value → World → Prop) : Prop :=
 alc [.int .i64 a1_0, .int .i64 a1_1] T.t23 w fun b4 w5 =>
 ldI .i64 ⟨b4, 0, none⟩ w5 fun n6 =>
 ldI .i64 ⟨b4, 1, none⟩ w5 fun n7 =>
 CV P F.mem_Mem_Holds [.pointer a0, .agg [.int .i64 n6, .int .i64 n7].toArray] w5 fun v8 w9 =>
 ∃ b10 : Bool, v8 = .bool b10 ∧
 cnd (!b10)
 (Q (.tuple [.slice none 0 0, .int .i64 42].toArray) w9)
 (drw w9 fun w11 =>
 nn a0 fun a12 =>
 ldL a12 w11 fun p13 l14 c15 =>
 ldI .i64 ⟨b4, 0, none⟩ w11 fun n16 =>
 ldI .i64 ⟨b4, 0, none⟩ w11 fun n17 =>
 ldI .i64 ⟨b4, 1, none⟩ w11 fun n18 =>
 slL p13 l14 c15 1 (some n16) (some (IntKind.i64.wrap (n17 + n18))) none fun p19 l20 c21 =>
 CV P F.slices_Clone__byte_byte [.slice p19 l20 c21] w11 fun v22 w23 =>
 ∃ (p24 : Option Addr) (l25 c26 : Nat), v22 = .slice p24 l25 c26 ∧
 Q (.tuple [.slice p24 l25 c26, .int .i64 0].toArray) w23)
def mem_Mem_Bytes_ann : Nat → Option LoopSpec := fun
  | 14 => some (ordSpec [0, 1, 2, 3, 4, 5, 6, 7, 8, 9, 10, 11, 12, 13, 14])
  | _ => none
theorem mem_Mem_Bytes_eq (a0 : Option Addr) (a1_0 : Int) (a1_1 : Int) (w : World) (Q : Value → World → Prop) : fnX P mem_Mem_Bytes_ann Try.f49 [.pointer a0, .agg [.int .i64 a1_0, .int .i64 a1_1].toArray] w Q = mem_Mem_Bytes a0 a1_0 a1_1 w Q := by kernel_rfl
theorem mem_Mem_Bytes_cv {a0 : Option Addr} {a1_0 : Int} {a1_1 : Int} {w : World} {Q : Value → World → Prop} (h : mem_Mem_Bytes a0 a1_0 a1_1 w Q) : CV P F.mem_Mem_Bytes [.pointer a0, .agg [.int .i64 a1_0, .int .i64 a1_1].toArray] w Q := CV_of mixed Try.func49 (mem_Mem_Bytes_eq a0 a1_0 a1_1 w Q ▸ h)

/- 50 (crier/ring.Ring).May -/
def ring_Ring_May_J3 : LoopSpec where
  S := Bool
  emb := fun s => [(4, .bool s)]
  ext := fun t => match getL t 4 with
    | some (.bool y6) => some (y6)
    | _ => none
  slots := [4]
  fits := fun _ => rfl
  ok := by
    intro t s h x hx
    (try dsimp only at h hx)
    split at h
    · cases h
      simp only [List.mem_cons, List.not_mem_nil, or_false] at hx
      rcases hx with rfl <;> assumption
    · cases h

def ring_Ring_May_j0 (Q : Value → World → Prop) (b7 : Bool) (w8 : World) : Prop :=
 Q (.bool b7) w8

def ring_Ring_May (a0_0 : Int) (a0_1 : Int) (a1 : Int) (w : World) (Q : Value → World → Prop) : Prop :=
 alc [.int .i64 a0_0, .int .i64 a0_1] T.t76 w fun b4 w5 =>
 JoinT (fun (J9 : ring_Ring_May_J3.S → World → Prop) =>
  ldI .i64 ⟨b4, 0, none⟩ w5 fun n10 =>
  ldI .i64 ⟨b4, 1, none⟩ w5 fun n11 =>
  CV P F.ring_Ring_Right [.agg [.int .i64 n10, .int .i64 n11].toArray] w5 fun v12 w13 =>
  ∃ n14 : Int, v12 = .int .i64 n14 ∧
  cnd (n14 == 0)
  (cnd (decide (a1 ≥ 0))
  (ldI .i64 ⟨b4, 0, none⟩ w13 fun n15 =>
  cnd (decide (a1 < n15))
  (ldI .i64 ⟨b4, 1, none⟩ w13 fun n16 =>
  (nz n16 <|
  J9 ((((Int.tmod a1 n16) == 0) : Bool)) w13))
  (J9 ((false : Bool)) w13))
  (J9 ((false : Bool)) w13))
  (J9 ((false : Bool)) w13))
  fun (s17 : ring_Ring_May_J3.S) w18 => ring_Ring_May_j0 Q s17 w18
def ring_Ring_May_ann : Nat → Option LoopSpec := fun
  | 3 => some ring_Ring_May_J3
  | _ => none
theorem ring_Ring_May_eq (a0_0 : Int) (a0_1 : Int) (a1 : Int) (w : World) (Q : Value → World → Prop) : fnX P ring_Ring_May_ann Try.f50 [.agg [.int .i64 a0_0, .int .i64 a0_1].toArray, .int .i64 a1] w Q = ring_Ring_May a0_0 a0_1 a1 w Q := by kernel_rfl
theorem ring_Ring_May_cv {a0_0 : Int} {a0_1 : Int} {a1 : Int} {w : World} {Q : Value → World → Prop} (h : ring_Ring_May a0_0 a0_1 a1 w Q) : CV P F.ring_Ring_May [.agg [.int .i64 a0_0, .int .i64 a0_1].toArray, .int .i64 a1] w Q := CV_of mixed Try.func50 (ring_Ring_May_eq a0_0 a0_1 a1 w Q ▸ h)

/- 51 crier/cmd.Encode -/
def cmd_Encode_J14 : LoopSpec where
  S := Bool
  emb := fun s => [(22, .bool s)]
  ext := fun t => match getL t 22 with
    | some (.bool y21) => some (y21)
    | _ => none
  slots := [22]
  fits := fun _ => rfl
  ok := by
    intro t s h x hx
    (try dsimp only at h hx)
    split at h
    · cases h
      simp only [List.mem_cons, List.not_mem_nil, or_false] at hx
      rcases hx with rfl <;> assumption
    · cases h

def cmd_Encode_L122 : LoopSpec where
  S := Int
  emb := fun s => [(5, .int .i64 s)]
  ext := fun t => match getL t 5 with
    | some (.int .i64 y32) => some (y32)
    | _ => none
  slots := [5]
  fits := fun _ => rfl
  ok := by
    intro t s h x hx
    (try dsimp only at h hx)
    split at h
    · cases h
      simp only [List.mem_cons, List.not_mem_nil, or_false] at hx
      rcases hx with rfl <;> assumption
    · cases h

def cmd_Encode_J978 : LoopSpec where
  S := Unit
  emb := fun _ => []
  ext := fun _ => some ()
  slots := []
  fits := fun _ => rfl
  ok := by
    intro t s h x hx; cases hx

def cmd_Encode_j0 (n33 : Int) (A35 : cmd_Encode_L122.S → World → Prop) (w36 : World) : Prop :=
 A35 (((IntKind.i64.wrap (n33 + 1)) : Int)) w36

def cmd_Encode_J15654 : LoopSpec where
  S := Bool
  emb := fun s => [(54, .bool s)]
  ext := fun t => match getL t 54 with
    | some (.bool y62) => some (y62)
    | _ => none
  slots := [54]
  fits := fun _ => rfl
  ok := by
    intro t s h x hx
    (try dsimp only at h hx)
    split at h
    · cases h
      simp only [List.mem_cons, List.not_mem_nil, or_false] at hx
      rcases hx with rfl <;> assumption
    · cases h

def cmd_Encode_j1 (Q : Value → World → Prop) (b12 : Nat) (b15 : Nat) (J37 : cmd_Encode_J978.S → World → Prop) (b44 : Bool) (b45 : Nat) (n61 : Int) (b63 : Bool) (w64 : World) : Prop :=
 cnd b63
 (st1 (.int .u64 0) ⟨b12, 0, none⟩ w64 fun w65 =>
 st1 (.int .u64 0) ⟨b12, 1, none⟩ w65 fun w66 =>
 st1 (.int .u64 0) ⟨b12, 2, none⟩ w66 fun w67 =>
 st1 (.int .u64 0) ⟨b12, 3, none⟩ w67 fun w68 =>
 ldI .u64 ⟨b12, 0, none⟩ w68 fun n69 =>
 ldI .u64 ⟨b12, 1, none⟩ w68 fun n70 =>
 ldI .u64 ⟨b12, 2, none⟩ w68 fun n71 =>
 ldI .u64 ⟨b12, 3, none⟩ w68 fun n72 =>
 Q (.tuple [.agg [.int .u64 n69, .int .u64 n70, .int .u64 n71, .int .u64 n72].toArray, .int .i64 160].toArray) w68)
 (cnd b44
 (drw w64 fun w73 =>
 ldI .i64 ⟨b45, 0, none⟩ w73 fun n74 =>
 ix n74 4 fun j75 =>
 ldI .u64 (Addr.add ⟨b15, 0, none⟩ (j75 * 1)) w73 fun n76 =>
 ldI .i64 ⟨b45, 1, none⟩ w73 fun n77 =>
 (nng n77 <|
 ix n74 4 fun j78 =>
 st1 (.int .u64 (bitX .or .u64 n76 (IntKind.u64.wrap ((IntKind.u64.wrap (n61)) * 2 ^ min (Int.toNat n77) (IntKind.u64.bits))))) (Addr.add ⟨b15, 0, none⟩ (j78 * 1)) w73 fun w79 =>
 J37 () w79))
 (J37 () w64))

def cmd_Encode_l2 (Q : Value → World → Prop) (b10 : Nat) (b12 : Nat) (b15 : Nat) (n33 : Int) (w34 : World) (A35 : cmd_Encode_L122.S → World → Prop) : Prop :=
 cnd (decide (n33 < 8))
 (JoinT (fun (J37 : cmd_Encode_J978.S → World → Prop) =>
  ldI .i64 ⟨b10, 0, none⟩ w34 fun n38 =>
  CV P F.cmd_parted [.int .i64 n38, .int .i64 n33] w34 fun v39 w40 =>
  ∃ n41 : Int, ∃ n42 : Int, ∃ n43 : Int, ∃ b44 : Bool, v39 = .tuple [.agg [.int .i64 n41, .int .i64 n42, .int .i64 n43].toArray, .bool b44].toArray ∧
  alc [.int .i64 0, .int .i64 0, .int .i64 0] T.t124 w40 fun b45 w46 =>
  st1 (.int .i64 n41) ⟨b45, 0, none⟩ w46 fun w47 =>
  st1 (.int .i64 n42) ⟨b45, 1, none⟩ w47 fun w48 =>
  st1 (.int .i64 n43) ⟨b45, 2, none⟩ w48 fun w49 =>
  ldI .i64 ⟨b10, 0, none⟩ w49 fun n50 =>
  ldI .i64 ⟨b10, 1, none⟩ w49 fun n51 =>
  ldI .i64 ⟨b10, 2, none⟩ w49 fun n52 =>
  ldI .i64 ⟨b10, 3, none⟩ w49 fun n53 =>
  ldI .i64 ⟨b10, 4, none⟩ w49 fun n54 =>
  ldI .i64 ⟨b10, 5, none⟩ w49 fun n55 =>
  ldI .i64 ⟨b10, 6, none⟩ w49 fun n56 =>
  ldI .i64 ⟨b10, 7, none⟩ w49 fun n57 =>
  ldB ⟨b10, 8, none⟩ w49 fun b58 =>
  CV P F.cmd_get [.agg [.int .i64 n50, .int .i64 n51, .int .i64 n52, .int .i64 n53, .int .i64 n54, .int .i64 n55, .int .i64 n56, .int .i64 n57, .bool b58].toArray, .int .i64 n33] w49 fun v59 w60 =>
  ∃ n61 : Int, v59 = .int .i64 n61 ∧
  JoinT (fun (J80 : cmd_Encode_J15654.S → World → Prop) =>
   cnd (!b44)
   (cnd (n61 != 0)
   (J80 ((true : Bool)) w60)
   (cnd (decide (n61 < 0))
   (J80 ((true : Bool)) w60)
   (ldI .i64 ⟨b45, 2, none⟩ w60 fun n81 =>
   (nng n81 <|
   J80 (((decide (n61 ≥ (IntKind.i64.wrap (1 * 2 ^ min (Int.toNat n81) (IntKind.i64.bits))))) : Bool)) w60))))
   (cnd (decide (n61 < 0))
   (J80 ((true : Bool)) w60)
   (ldI .i64 ⟨b45, 2, none⟩ w60 fun n82 =>
   (nng n82 <|
   J80 (((decide (n61 ≥ (IntKind.i64.wrap (1 * 2 ^ min (Int.toNat n82) (IntKind.i64.bits))))) : Bool)) w60))))
   fun (s83 : cmd_Encode_J15654.S) w84 => cmd_Encode_j1 Q b12 b15 J37 b44 b45 n61 s83 w84)
  fun (s85 : cmd_Encode_J978.S) w86 => cmd_Encode_j0 n33 A35 w86)
 (ldI .u64 ⟨b15, 0, none⟩ w34 fun n87 =>
 ldI .u64 ⟨b15, 1, none⟩ w34 fun n88 =>
 ldI .u64 ⟨b15, 2, none⟩ w34 fun n89 =>
 ldI .u64 ⟨b15, 3, none⟩ w34 fun n90 =>
 st1 (.int .u64 n87) ⟨b12, 0, none⟩ w34 fun w91 =>
 st1 (.int .u64 n88) ⟨b12, 1, none⟩ w91 fun w92 =>
 st1 (.int .u64 n89) ⟨b12, 2, none⟩ w92 fun w93 =>
 st1 (.int .u64 n90) ⟨b12, 3, none⟩ w93 fun w94 =>
 ldI .u64 ⟨b12, 0, none⟩ w94 fun n95 =>
 ldI .u64 ⟨b12, 1, none⟩ w94 fun n96 =>
 ldI .u64 ⟨b12, 2, none⟩ w94 fun n97 =>
 ldI .u64 ⟨b12, 3, none⟩ w94 fun n98 =>
 Q (.tuple [.agg [.int .u64 n95, .int .u64 n96, .int .u64 n97, .int .u64 n98].toArray, .int .i64 0].toArray) w94)

def cmd_Encode_j3 (Q : Value → World → Prop) (b10 : Nat) (b12 : Nat) (b15 : Nat) (b22 : Bool) (w23 : World) : Prop :=
 cnd b22
 (st1 (.int .u64 0) ⟨b12, 0, none⟩ w23 fun w24 =>
 st1 (.int .u64 0) ⟨b12, 1, none⟩ w24 fun w25 =>
 st1 (.int .u64 0) ⟨b12, 2, none⟩ w25 fun w26 =>
 st1 (.int .u64 0) ⟨b12, 3, none⟩ w26 fun w27 =>
 ldI .u64 ⟨b12, 0, none⟩ w27 fun n28 =>
 ldI .u64 ⟨b12, 1, none⟩ w27 fun n29 =>
 ldI .u64 ⟨b12, 2, none⟩ w27 fun n30 =>
 ldI .u64 ⟨b12, 3, none⟩ w27 fun n31 =>
 Q (.tuple [.agg [.int .u64 n28, .int .u64 n29, .int .u64 n30, .int .u64 n31].toArray, .int .i64 160].toArray) w27)
 (LoopT (fun (s99 : cmd_Encode_L122.S) w100 A101 => cmd_Encode_l2 Q b10 b12 b15 s99 w100 A101) ((0 : Int)) w23)

def cmd_Encode (a0_0 : Int) (a0_1 : Int) (a0_2 : Int) (a0_3 : Int) (a0_4 : Int) (a0_5 : Int) (a0_6 : Int) (a0_7 : Int) (a0_8 : Bool) (w : World) (Q : Value → World → Prop) : Prop :=
 alc [.int .i64 a0_0, .int .i64 a0_1, .int .i64 a0_2, .int .i64 a0_3, .int .i64 a0_4, .int .i64 a0_5, .int .i64 a0_6, .int .i64 a0_7, .bool a0_8] T.t40 w fun b10 w11 =>
 alc [.int .u64 0, .int .u64 0, .int .u64 0, .int .u64 0] T.t51 w11 fun b12 w13 =>
 ldI .i64 ⟨b10, 0, none⟩ w13 fun n14 =>
 alc [.int .u64 0, .int .u64 0, .int .u64 0, .int .u64 0] T.t51 w13 fun b15 w16 =>
 st1 (.int .u64 (IntKind.u64.wrap (n14))) ⟨b15, 0, none⟩ w16 fun w17 =>
 st1 (.int .u64 0) ⟨b15, 1, none⟩ w17 fun w18 =>
 st1 (.int .u64 0) ⟨b15, 2, none⟩ w18 fun w19 =>
 st1 (.int .u64 0) ⟨b15, 3, none⟩ w19 fun w20 =>
 JoinT (fun (J102 : cmd_Encode_J14.S → World → Prop) =>
  ldI .i64 ⟨b10, 0, none⟩ w20 fun n103 =>
  CV P F.cmd_Known [.int .i64 n103] w20 fun v104 w105 =>
  ∃ b106 : Bool, v104 = .bool b106 ∧
  cnd (!b106)
  (J102 ((true : Bool)) w105)
  (ldI .i64 ⟨b10, 7, none⟩ w105 fun n107 =>
  J102 ((((bitX .and .i64 n107 255) != 0) : Bool)) w105))
  fun (s108 : cmd_Encode_J14.S) w109 => cmd_Encode_j3 Q b10 b12 b15 s108 w109
def cmd_Encode_ann : Nat → Option LoopSpec := fun
  | 14 => some cmd_Encode_J14
  | 122 => some cmd_Encode_L122
  | 978 => some cmd_Encode_J978
  | 15654 => some cmd_Encode_J15654
  | 62622 => some (ordSpec [0, 1, 2, 3, 4, 5, 6, 7, 8, 9, 10, 11])
  | _ => none
theorem cmd_Encode_eq (a0_0 : Int) (a0_1 : Int) (a0_2 : Int) (a0_3 : Int) (a0_4 : Int) (a0_5 : Int) (a0_6 : Int) (a0_7 : Int) (a0_8 : Bool) (w : World) (Q : Value → World → Prop) : fnX P cmd_Encode_ann Try.f51 [.agg [.int .i64 a0_0, .int .i64 a0_1, .int .i64 a0_2, .int .i64 a0_3, .int .i64 a0_4, .int .i64 a0_5, .int .i64 a0_6, .int .i64 a0_7, .bool a0_8].toArray] w Q = cmd_Encode a0_0 a0_1 a0_2 a0_3 a0_4 a0_5 a0_6 a0_7 a0_8 w Q := by kernel_rfl
theorem cmd_Encode_cv {a0_0 : Int} {a0_1 : Int} {a0_2 : Int} {a0_3 : Int} {a0_4 : Int} {a0_5 : Int} {a0_6 : Int} {a0_7 : Int} {a0_8 : Bool} {w : World} {Q : Value → World → Prop} (h : cmd_Encode a0_0 a0_1 a0_2 a0_3 a0_4 a0_5 a0_6 a0_7 a0_8 w Q) : CV P F.cmd_Encode [.agg [.int .i64 a0_0, .int .i64 a0_1, .int .i64 a0_2, .int .i64 a0_3, .int .i64 a0_4, .int .i64 a0_5, .int .i64 a0_6, .int .i64 a0_7, .bool a0_8].toArray] w Q := CV_of mixed Try.func51 (cmd_Encode_eq a0_0 a0_1 a0_2 a0_3 a0_4 a0_5 a0_6 a0_7 a0_8 w Q ▸ h)

/- 52 crier/mem.May -/
def mem_May_J12 : LoopSpec where
  S := Bool
  emb := fun s => [(7, .bool s)]
  ext := fun t => match getL t 7 with
    | some (.bool y4) => some (y4)
    | _ => none
  slots := [7]
  fits := fun _ => rfl
  ok := by
    intro t s h x hx
    (try dsimp only at h hx)
    split at h
    · cases h
      simp only [List.mem_cons, List.not_mem_nil, or_false] at hx
      rcases hx with rfl <;> assumption
    · cases h

def mem_May_J207 : LoopSpec where
  S := Bool
  emb := fun s => [(23, .bool s)]
  ext := fun t => match getL t 23 with
    | some (.bool y7) => some (y7)
    | _ => none
  slots := [23]
  fits := fun _ => rfl
  ok := by
    intro t s h x hx
    (try dsimp only at h hx)
    split at h
    · cases h
      simp only [List.mem_cons, List.not_mem_nil, or_false] at hx
      rcases hx with rfl <;> assumption
    · cases h

def mem_May_j0 (Q : Value → World → Prop) (b8 : Bool) (w9 : World) : Prop :=
 cnd b8
 (Q (.int .i64 42) w9)
 (Q (.int .i64 0) w9)

def mem_May_j1 (a0 : Int) (a1 : Int) (a2 : Int) (Q : Value → World → Prop) (b5 : Bool) (w6 : World) : Prop :=
 cnd b5
 (Q (.int .i64 40) w6)
 ((nz a2 <|
 cnd ((Int.tmod a1 a2) != 0)
 (Q (.int .i64 41) w6)
 (JoinT (fun (J10 : mem_May_J207.S → World → Prop) =>
  cnd (decide (a1 < 0))
  (J10 ((true : Bool)) w6)
  (J10 (((decide (a1 > (IntKind.i64.wrap (a0 - a2)))) : Bool)) w6))
  fun (s11 : mem_May_J207.S) w12 => mem_May_j0 Q s11 w12)))

def mem_May (a0 : Int) (a1 : Int) (a2 : Int) (w : World) (Q : Value → World → Prop) : Prop :=
 JoinT (fun (J13 : mem_May_J12.S → World → Prop) =>
  cnd (a2 != 1)
  (cnd (a2 != 4)
  (J13 (((a2 != 8) : Bool)) w)
  (J13 ((false : Bool)) w))
  (J13 ((false : Bool)) w))
  fun (s14 : mem_May_J12.S) w15 => mem_May_j1 a0 a1 a2 Q s14 w15
def mem_May_ann : Nat → Option LoopSpec := fun
  | 12 => some mem_May_J12
  | 207 => some mem_May_J207
  | _ => none
theorem mem_May_eq (a0 : Int) (a1 : Int) (a2 : Int) (w : World) (Q : Value → World → Prop) : fnX P mem_May_ann Try.f52 [.int .i64 a0, .int .i64 a1, .int .i64 a2] w Q = mem_May a0 a1 a2 w Q := by kernel_rfl
theorem mem_May_cv {a0 : Int} {a1 : Int} {a2 : Int} {w : World} {Q : Value → World → Prop} (h : mem_May a0 a1 a2 w Q) : CV P F.mem_May [.int .i64 a0, .int .i64 a1, .int .i64 a2] w Q := CV_of mixed Try.func52 (mem_May_eq a0 a1 a2 w Q ▸ h)

/- 53 (*crier/mem.Mem).Holds -/
def mem_Mem_Holds_J3 : LoopSpec where
  S := Bool
  emb := fun s => [(4, .bool s)]
  ext := fun t => match getL t 4 with
    | some (.bool y6) => some (y6)
    | _ => none
  slots := [4]
  fits := fun _ => rfl
  ok := by
    intro t s h x hx
    (try dsimp only at h hx)
    split at h
    · cases h
      simp only [List.mem_cons, List.not_mem_nil, or_false] at hx
      rcases hx with rfl <;> assumption
    · cases h

def mem_Mem_Holds_j0 (Q : Value → World → Prop) (b7 : Bool) (w8 : World) : Prop :=
 Q (.bool b7) w8

def mem_Mem_Holds (a0 : Option Addr) (a1_0 : Int) (a1_1 : Int) (w : World) (Q : Value → World → Prop) : Prop :=
 alc [.int .i64 a1_0, .int .i64 a1_1] T.t23 w fun b4 w5 =>
 JoinT (fun (J9 : mem_Mem_Holds_J3.S → World → Prop) =>
  drw w5 fun w10 =>
  ldI .i64 ⟨b4, 0, none⟩ w10 fun n11 =>
  cnd (decide (n11 ≥ 0))
  (ldI .i64 ⟨b4, 1, none⟩ w10 fun n12 =>
  cnd (decide (n12 ≥ 0))
  (ldI .i64 ⟨b4, 1, none⟩ w10 fun n13 =>
  nn a0 fun a14 =>
  ldL a14 w10 fun p15 l16 c17 =>
  cnd (decide (n13 ≤ ((l16 : Nat) : Int)))
  (ldI .i64 ⟨b4, 0, none⟩ w10 fun n18 =>
  nn a0 fun a19 =>
  ldL a19 w10 fun p20 l21 c22 =>
  ldI .i64 ⟨b4, 1, none⟩ w10 fun n23 =>
  J9 (((decide (n18 ≤ (IntKind.i64.wrap (((l21 : Nat) : Int) - n23)))) : Bool)) w10)
  (J9 ((false : Bool)) w10))
  (J9 ((false : Bool)) w10))
  (J9 ((false : Bool)) w10))
  fun (s24 : mem_Mem_Holds_J3.S) w25 => mem_Mem_Holds_j0 Q s24 w25
def mem_Mem_Holds_ann : Nat → Option LoopSpec := fun
  | 3 => some mem_Mem_Holds_J3
  | 6 => some (ordSpec [0, 1, 2, 3, 4, 5, 6, 7, 8, 9, 10, 11, 12, 13, 14, 15, 16, 17, 18, 19, 20, 21, 22, 23, 24, 25, 26, 27, 28, 29, 30, 31])
  | _ => none
theorem mem_Mem_Holds_eq (a0 : Option Addr) (a1_0 : Int) (a1_1 : Int) (w : World) (Q : Value → World → Prop) : fnX P mem_Mem_Holds_ann Try.f53 [.pointer a0, .agg [.int .i64 a1_0, .int .i64 a1_1].toArray] w Q = mem_Mem_Holds a0 a1_0 a1_1 w Q := by kernel_rfl
theorem mem_Mem_Holds_cv {a0 : Option Addr} {a1_0 : Int} {a1_1 : Int} {w : World} {Q : Value → World → Prop} (h : mem_Mem_Holds a0 a1_0 a1_1 w Q) : CV P F.mem_Mem_Holds [.pointer a0, .agg [.int .i64 a1_0, .int .i64 a1_1].toArray] w Q := CV_of mixed Try.func53 (mem_Mem_Holds_eq a0 a1_0 a1_1 w Q ▸ h)

/- 54 (*crier/mem.Mem).Read -/
def mem_Mem_Read_L122 : LoopSpec where
  S := Int × Int
  emb := fun s => [(12, .int .u64 s.1), (25, .int .i64 s.2)]
  ext := fun t => match getL t 12, getL t 25 with
    | some (.int .u64 y16), some (.int .i64 y17) => some (y16, y17)
    | _, _ => none
  slots := [12, 25]
  fits := fun _ => rfl
  ok := by
    intro t s h x hx
    (try dsimp only at h hx)
    split at h
    · cases h
      simp only [List.mem_cons, List.not_mem_nil, or_false] at hx
      rcases hx with rfl | rfl <;> assumption
    · cases h

def mem_Mem_Read_l0 (Q : Value → World → Prop) (p12 : Option Addr) (l13 : Nat) (n15 : Int) (n18 : Int) (n19 : Int) (w20 : World) (A21 : mem_Mem_Read_L122.S → World → Prop) : Prop :=
 cnd (decide (n19 < ((l13 : Nat) : Int)))
 (ix n19 l13 fun j22 => nn p12 fun a23 =>
 ldI .u8 (a23.add (j22 * 1)) w20 fun n24 =>
 (nng (IntKind.i64.wrap (8 * n19)) <|
 A21 (((bitX .or .u64 n18 (IntKind.u64.wrap ((IntKind.u64.wrap (n24)) * 2 ^ min (Int.toNat (IntKind.i64.wrap (8 * n19))) (IntKind.u64.bits)))) : Int), ((IntKind.i64.wrap (n19 + 1)) : Int)) w20))
 (Q (.tuple [.int .u64 n18, .int .i64 n15].toArray) w20)

def mem_Mem_Read (a0 : Option Addr) (a1_0 : Int) (a1_1 : Int) (a2 : Int) (a3 : Int) (w : World) (Q : Value → World → Prop) : Prop :=
 alc [.int .i64 a1_0, .int .i64 a1_1] T.t23 w fun b6 w7 =>
 ldI .i64 ⟨b6, 0, none⟩ w7 fun n8 =>
 ldI .i64 ⟨b6, 1, none⟩ w7 fun n9 =>
 CV P F.mem_Mem_part [.pointer a0, .agg [.int .i64 n8, .int .i64 n9].toArray, .int .i64 a2, .int .i64 a3] w7 fun v10 w11 =>
 ∃ (p12 : Option Addr) (l13 c14 : Nat), ∃ n15 : Int, v10 = .tuple [.slice p12 l13 c14, .int .i64 n15].toArray ∧
 LoopT (fun (s25 : mem_Mem_Read_L122.S) w26 A27 => mem_Mem_Read_l0 Q p12 l13 n15 s25.1 s25.2 w26 A27) ((0 : Int), (0 : Int)) w11
def mem_Mem_Read_ann : Nat → Option LoopSpec := fun
  | 122 => some mem_Mem_Read_L122
  | _ => none
theorem mem_Mem_Read_eq (a0 : Option Addr) (a1_0 : Int) (a1_1 : Int) (a2 : Int) (a3 : Int) (w : World) (Q : Value → World → Prop) : fnX P mem_Mem_Read_ann Try.f54 [.pointer a0, .agg [.int .i64 a1_0, .int .i64 a1_1].toArray, .int .i64 a2, .int .i64 a3] w Q = mem_Mem_Read a0 a1_0 a1_1 a2 a3 w Q := by kernel_rfl
theorem mem_Mem_Read_cv {a0 : Option Addr} {a1_0 : Int} {a1_1 : Int} {a2 : Int} {a3 : Int} {w : World} {Q : Value → World → Prop} (h : mem_Mem_Read a0 a1_0 a1_1 a2 a3 w Q) : CV P F.mem_Mem_Read [.pointer a0, .agg [.int .i64 a1_0, .int .i64 a1_1].toArray, .int .i64 a2, .int .i64 a3] w Q := CV_of mixed Try.func54 (mem_Mem_Read_eq a0 a1_0 a1_1 a2 a3 w Q ▸ h)

/- 55 crier/cmd.Decode -/
def cmd_Decode_L58 : LoopSpec where
  S := Int
  emb := fun s => [(5, .int .i64 s)]
  ext := fun t => match getL t 5 with
    | some (.int .i64 y22) => some (y22)
    | _ => none
  slots := [5]
  fits := fun _ => rfl
  ok := by
    intro t s h x hx
    (try dsimp only at h hx)
    split at h
    · cases h
      simp only [List.mem_cons, List.not_mem_nil, or_false] at hx
      rcases hx with rfl <;> assumption
    · cases h

def cmd_Decode_J466 : LoopSpec where
  S := Unit
  emb := fun _ => []
  ext := fun _ => some ()
  slots := []
  fits := fun _ => rfl
  ok := by
    intro t s h x hx; cases hx

def cmd_Decode_j0 (n23 : Int) (A25 : cmd_Decode_L58.S → World → Prop) (w26 : World) : Prop :=
 A25 (((IntKind.i64.wrap (n23 + 1)) : Int)) w26

def cmd_Decode_J61 : LoopSpec where
  S := Bool
  emb := fun s => [(53, .bool s)]
  ext := fun t => match getL t 53 with
    | some (.bool y72) => some (y72)
    | _ => none
  slots := [53]
  fits := fun _ => rfl
  ok := by
    intro t s h x hx
    (try dsimp only at h hx)
    split at h
    · cases h
      simp only [List.mem_cons, List.not_mem_nil, or_false] at hx
      rcases hx with rfl <;> assumption
    · cases h

def cmd_Decode_j1 (Q : Value → World → Prop) (b7 : Nat) (b11 : Nat) (b73 : Bool) (w74 : World) : Prop :=
 cnd b73
 (st1 (.int .i64 0) ⟨b7, 0, none⟩ w74 fun w75 =>
 st1 (.int .i64 0) ⟨b7, 1, none⟩ w75 fun w76 =>
 st1 (.int .i64 0) ⟨b7, 2, none⟩ w76 fun w77 =>
 st1 (.int .i64 0) ⟨b7, 3, none⟩ w77 fun w78 =>
 st1 (.int .i64 0) ⟨b7, 4, none⟩ w78 fun w79 =>
 st1 (.int .i64 0) ⟨b7, 5, none⟩ w79 fun w80 =>
 st1 (.int .i64 0) ⟨b7, 6, none⟩ w80 fun w81 =>
 st1 (.int .i64 0) ⟨b7, 7, none⟩ w81 fun w82 =>
 st1 (.bool false) ⟨b7, 8, none⟩ w82 fun w83 =>
 ldI .i64 ⟨b7, 0, none⟩ w83 fun n84 =>
 ldI .i64 ⟨b7, 1, none⟩ w83 fun n85 =>
 ldI .i64 ⟨b7, 2, none⟩ w83 fun n86 =>
 ldI .i64 ⟨b7, 3, none⟩ w83 fun n87 =>
 ldI .i64 ⟨b7, 4, none⟩ w83 fun n88 =>
 ldI .i64 ⟨b7, 5, none⟩ w83 fun n89 =>
 ldI .i64 ⟨b7, 6, none⟩ w83 fun n90 =>
 ldI .i64 ⟨b7, 7, none⟩ w83 fun n91 =>
 ldB ⟨b7, 8, none⟩ w83 fun b92 =>
 Q (.tuple [.agg [.int .i64 n84, .int .i64 n85, .int .i64 n86, .int .i64 n87, .int .i64 n88, .int .i64 n89, .int .i64 n90, .int .i64 n91, .bool b92].toArray, .int .i64 160].toArray) w83)
 (ldI .i64 ⟨b11, 0, none⟩ w74 fun n93 =>
 ldI .i64 ⟨b11, 1, none⟩ w74 fun n94 =>
 ldI .i64 ⟨b11, 2, none⟩ w74 fun n95 =>
 ldI .i64 ⟨b11, 3, none⟩ w74 fun n96 =>
 ldI .i64 ⟨b11, 4, none⟩ w74 fun n97 =>
 ldI .i64 ⟨b11, 5, none⟩ w74 fun n98 =>
 ldI .i64 ⟨b11, 6, none⟩ w74 fun n99 =>
 ldI .i64 ⟨b11, 7, none⟩ w74 fun n100 =>
 ldB ⟨b11, 8, none⟩ w74 fun b101 =>
 st1 (.int .i64 n93) ⟨b7, 0, none⟩ w74 fun w102 =>
 st1 (.int .i64 n94) ⟨b7, 1, none⟩ w102 fun w103 =>
 st1 (.int .i64 n95) ⟨b7, 2, none⟩ w103 fun w104 =>
 st1 (.int .i64 n96) ⟨b7, 3, none⟩ w104 fun w105 =>
 st1 (.int .i64 n97) ⟨b7, 4, none⟩ w105 fun w106 =>
 st1 (.int .i64 n98) ⟨b7, 5, none⟩ w106 fun w107 =>
 st1 (.int .i64 n99) ⟨b7, 6, none⟩ w107 fun w108 =>
 st1 (.int .i64 n100) ⟨b7, 7, none⟩ w108 fun w109 =>
 st1 (.bool b101) ⟨b7, 8, none⟩ w109 fun w110 =>
 ldI .i64 ⟨b7, 0, none⟩ w110 fun n111 =>
 ldI .i64 ⟨b7, 1, none⟩ w110 fun n112 =>
 ldI .i64 ⟨b7, 2, none⟩ w110 fun n113 =>
 ldI .i64 ⟨b7, 3, none⟩ w110 fun n114 =>
 ldI .i64 ⟨b7, 4, none⟩ w110 fun n115 =>
 ldI .i64 ⟨b7, 5, none⟩ w110 fun n116 =>
 ldI .i64 ⟨b7, 6, none⟩ w110 fun n117 =>
 ldI .i64 ⟨b7, 7, none⟩ w110 fun n118 =>
 ldB ⟨b7, 8, none⟩ w110 fun b119 =>
 Q (.tuple [.agg [.int .i64 n111, .int .i64 n112, .int .i64 n113, .int .i64 n114, .int .i64 n115, .int .i64 n116, .int .i64 n117, .int .i64 n118, .bool b119].toArray, .int .i64 0].toArray) w110)

def cmd_Decode_l2 (Q : Value → World → Prop) (b5 : Nat) (b7 : Nat) (b11 : Nat) (n23 : Int) (w24 : World) (A25 : cmd_Decode_L58.S → World → Prop) : Prop :=
 cnd (decide (n23 < 8))
 (JoinT (fun (J27 : cmd_Decode_J466.S → World → Prop) =>
  ldI .i64 ⟨b11, 0, none⟩ w24 fun n28 =>
  CV P F.cmd_parted [.int .i64 n28, .int .i64 n23] w24 fun v29 w30 =>
  ∃ n31 : Int, ∃ n32 : Int, ∃ n33 : Int, ∃ b34 : Bool, v29 = .tuple [.agg [.int .i64 n31, .int .i64 n32, .int .i64 n33].toArray, .bool b34].toArray ∧
  alc [.int .i64 0, .int .i64 0, .int .i64 0] T.t124 w30 fun b35 w36 =>
  st1 (.int .i64 n31) ⟨b35, 0, none⟩ w36 fun w37 =>
  st1 (.int .i64 n32) ⟨b35, 1, none⟩ w37 fun w38 =>
  st1 (.int .i64 n33) ⟨b35, 2, none⟩ w38 fun w39 =>
  cnd b34
  (drw w39 fun w40 =>
  ldI .i64 ⟨b35, 0, none⟩ w40 fun n41 =>
  ix n41 4 fun j42 =>
  ldI .u64 (Addr.add ⟨b5, 0, none⟩ (j42 * 1)) w40 fun n43 =>
  ldI .i64 ⟨b35, 1, none⟩ w40 fun n44 =>
  (nng n44 <|
  ldI .i64 ⟨b35, 2, none⟩ w40 fun n45 =>
  (nng n45 <|
  CV P F.cmd_put [.pointer (some ⟨b11, 0, none⟩), .int .i64 n23, .int .i64 (IntKind.i64.wrap ((bitX .and .u64 (Int.fdiv n43 (2 ^ min (Int.toNat n44) (IntKind.u64.bits))) (IntKind.u64.wrap ((IntKind.u64.wrap (1 * 2 ^ min (Int.toNat n45) (IntKind.u64.bits))) - 1)))))] w40 fun v46 w47 =>
  v46 = .tuple [].toArray ∧
  J27 () w47)))
  (J27 () w39))
  fun (s48 : cmd_Decode_J466.S) w49 => cmd_Decode_j0 n23 A25 w49)
 (ldI .i64 ⟨b11, 0, none⟩ w24 fun n50 =>
 ldI .i64 ⟨b11, 1, none⟩ w24 fun n51 =>
 ldI .i64 ⟨b11, 2, none⟩ w24 fun n52 =>
 ldI .i64 ⟨b11, 3, none⟩ w24 fun n53 =>
 ldI .i64 ⟨b11, 4, none⟩ w24 fun n54 =>
 ldI .i64 ⟨b11, 5, none⟩ w24 fun n55 =>
 ldI .i64 ⟨b11, 6, none⟩ w24 fun n56 =>
 ldI .i64 ⟨b11, 7, none⟩ w24 fun n57 =>
 ldB ⟨b11, 8, none⟩ w24 fun b58 =>
 CV P F.cmd_Encode [.agg [.int .i64 n50, .int .i64 n51, .int .i64 n52, .int .i64 n53, .int .i64 n54, .int .i64 n55, .int .i64 n56, .int .i64 n57, .bool b58].toArray] w24 fun v59 w60 =>
 ∃ n61 : Int, ∃ n62 : Int, ∃ n63 : Int, ∃ n64 : Int, ∃ n65 : Int, v59 = .tuple [.agg [.int .u64 n61, .int .u64 n62, .int .u64 n63, .int .u64 n64].toArray, .int .i64 n65].toArray ∧
 alc [.int .u64 0, .int .u64 0, .int .u64 0, .int .u64 0] T.t51 w60 fun b66 w67 =>
 st1 (.int .u64 n61) ⟨b66, 0, none⟩ w67 fun w68 =>
 st1 (.int .u64 n62) ⟨b66, 1, none⟩ w68 fun w69 =>
 st1 (.int .u64 n63) ⟨b66, 2, none⟩ w69 fun w70 =>
 st1 (.int .u64 n64) ⟨b66, 3, none⟩ w70 fun w71 =>
 JoinT (fun (J120 : cmd_Decode_J61.S → World → Prop) =>
  cnd (n65 != 0)
  (J120 ((true : Bool)) w71)
  (ldI .u64 ⟨b66, 0, none⟩ w71 fun n121 =>
  ldI .u64 ⟨b66, 1, none⟩ w71 fun n122 =>
  ldI .u64 ⟨b66, 2, none⟩ w71 fun n123 =>
  ldI .u64 ⟨b66, 3, none⟩ w71 fun n124 =>
  ldI .u64 ⟨b5, 0, none⟩ w71 fun n125 =>
  ldI .u64 ⟨b5, 1, none⟩ w71 fun n126 =>
  ldI .u64 ⟨b5, 2, none⟩ w71 fun n127 =>
  ldI .u64 ⟨b5, 3, none⟩ w71 fun n128 =>
  eqA P .neq T.t51 (.agg [.int .u64 n121, .int .u64 n122, .int .u64 n123, .int .u64 n124].toArray) (.agg [.int .u64 n125, .int .u64 n126, .int .u64 n127, .int .u64 n128].toArray) w71 fun b129 =>
  J120 ((b129 : Bool)) w71))
  fun (s130 : cmd_Decode_J61.S) w131 => cmd_Decode_j1 Q b7 b11 s130 w131)

def cmd_Decode (a0_0 : Int) (a0_1 : Int) (a0_2 : Int) (a0_3 : Int) (w : World) (Q : Value → World → Prop) : Prop :=
 alc [.int .u64 a0_0, .int .u64 a0_1, .int .u64 a0_2, .int .u64 a0_3] T.t51 w fun b5 w6 =>
 alc [.int .i64 0, .int .i64 0, .int .i64 0, .int .i64 0, .int .i64 0, .int .i64 0, .int .i64 0, .int .i64 0, .bool false] T.t40 w6 fun b7 w8 =>
 ix 0 4 fun j9 =>
 ldI .u64 (Addr.add ⟨b5, 0, none⟩ (j9 * 1)) w8 fun n10 =>
 alc [.int .i64 0, .int .i64 0, .int .i64 0, .int .i64 0, .int .i64 0, .int .i64 0, .int .i64 0, .int .i64 0, .bool false] T.t40 w8 fun b11 w12 =>
 st1 (.int .i64 (IntKind.i64.wrap ((bitX .and .u64 n10 255)))) ⟨b11, 0, none⟩ w12 fun w13 =>
 st1 (.int .i64 0) ⟨b11, 1, none⟩ w13 fun w14 =>
 st1 (.int .i64 0) ⟨b11, 2, none⟩ w14 fun w15 =>
 st1 (.int .i64 0) ⟨b11, 3, none⟩ w15 fun w16 =>
 st1 (.int .i64 0) ⟨b11, 4, none⟩ w16 fun w17 =>
 st1 (.int .i64 0) ⟨b11, 5, none⟩ w17 fun w18 =>
 st1 (.int .i64 0) ⟨b11, 6, none⟩ w18 fun w19 =>
 st1 (.int .i64 0) ⟨b11, 7, none⟩ w19 fun w20 =>
 st1 (.bool false) ⟨b11, 8, none⟩ w20 fun w21 =>
 LoopT (fun (s132 : cmd_Decode_L58.S) w133 A134 => cmd_Decode_l2 Q b5 b7 b11 s132 w133 A134) ((0 : Int)) w21
def cmd_Decode_ann : Nat → Option LoopSpec := fun
  | 58 => some cmd_Decode_L58
  | 466 => some cmd_Decode_J466
  | 7462 => some (ordSpec [0, 1, 2, 3, 4, 5, 6, 7, 8, 9, 10, 11, 12, 13, 14])
  | 61 => some cmd_Decode_J61
  | _ => none
theorem cmd_Decode_eq (a0_0 : Int) (a0_1 : Int) (a0_2 : Int) (a0_3 : Int) (w : World) (Q : Value → World → Prop) : fnX P cmd_Decode_ann Try.f55 [.agg [.int .u64 a0_0, .int .u64 a0_1, .int .u64 a0_2, .int .u64 a0_3].toArray] w Q = cmd_Decode a0_0 a0_1 a0_2 a0_3 w Q := by kernel_rfl
theorem cmd_Decode_cv {a0_0 : Int} {a0_1 : Int} {a0_2 : Int} {a0_3 : Int} {w : World} {Q : Value → World → Prop} (h : cmd_Decode a0_0 a0_1 a0_2 a0_3 w Q) : CV P F.cmd_Decode [.agg [.int .u64 a0_0, .int .u64 a0_1, .int .u64 a0_2, .int .u64 a0_3].toArray] w Q := CV_of mixed Try.func55 (cmd_Decode_eq a0_0 a0_1 a0_2 a0_3 w Q ▸ h)

/- 56 (crier/ring.Ring).Each$1 -/
def ring_Ring_Each_1_L14 : LoopSpec where
  S := Int × Int
  emb := fun s => [(5, .int .i64 s.1), (7, .int .i64 s.2)]
  ext := fun t => match getL t 5, getL t 7 with
    | some (.int .i64 y14), some (.int .i64 y15) => some (y14, y15)
    | _, _ => none
  slots := [5, 7]
  fits := fun _ => rfl
  ok := by
    intro t s h x hx
    (try dsimp only at h hx)
    split at h
    · cases h
      simp only [List.mem_cons, List.not_mem_nil, or_false] at hx
      rcases hx with rfl | rfl <;> assumption
    · cases h

def ring_Ring_Each_1_l0 (a0 : Value) (f0 : Addr) (Q : Value → World → Prop) (n16 : Int) (n17 : Int) (w18 : World) (A19 : ring_Ring_Each_1_L14.S → World → Prop) : Prop :=
 cnd (decide (n16 > 0))
 (callVal P a0 [.int .i64 n17] w18 fun v20 w21 =>
 ∃ b22 : Bool, v20 = .bool b22 ∧
 cnd (!b22)
 (Q (.tuple [].toArray) w21)
 (ldI .i64 (f0.add 1) w21 fun n23 =>
 ldI .i64 f0 w21 fun n24 =>
 (nz n24 <|
 A19 (((IntKind.i64.wrap (n16 - 1)) : Int), ((Int.tmod (IntKind.i64.wrap (n17 + n23)) n24) : Int)) w21)))
 (Q (.tuple [].toArray) w18)

def ring_Ring_Each_1 (a0 : Value) (f0 : Addr) (f1 : Addr) (f2 : Addr) (w : World) (Q : Value → World → Prop) : Prop :=
 ldI .i64 f0 w fun n5 =>
 ldI .i64 (f0.add 1) w fun n6 =>
 ldI .i64 f1 w fun n7 =>
 ldI .i64 f2 w fun n8 =>
 CV P F.ring_Ring_Left [.agg [.int .i64 n5, .int .i64 n6].toArray, .int .i64 n7, .int .i64 n8] w fun v9 w10 =>
 ∃ n11 : Int, ∃ n12 : Int, v9 = .tuple [.int .i64 n11, .int .i64 n12].toArray ∧
 ldI .i64 f1 w10 fun n13 =>
 LoopT (fun (s25 : ring_Ring_Each_1_L14.S) w26 A27 => ring_Ring_Each_1_l0 a0 f0 Q s25.1 s25.2 w26 A27) ((n11 : Int), (n13 : Int)) w10
def ring_Ring_Each_1_ann : Nat → Option LoopSpec := fun
  | 14 => some ring_Ring_Each_1_L14
  | _ => none
theorem ring_Ring_Each_1_eq (a0 : Value) (f0 : Addr) (f1 : Addr) (f2 : Addr) (w : World) (Q : Value → World → Prop) : fnX P ring_Ring_Each_1_ann Try.f56 [a0, .pointer (some f0), .pointer (some f1), .pointer (some f2)] w Q = ring_Ring_Each_1 a0 f0 f1 f2 w Q := by kernel_rfl
theorem ring_Ring_Each_1_cv {a0 : Value} {f0 : Addr} {f1 : Addr} {f2 : Addr} {w : World} {Q : Value → World → Prop} (h : ring_Ring_Each_1 a0 f0 f1 f2 w Q) : CV P F.ring_Ring_Each_1 [a0, .pointer (some f0), .pointer (some f1), .pointer (some f2)] w Q := CV_of mixed Try.func56 (ring_Ring_Each_1_eq a0 f0 f1 f2 w Q ▸ h)

/- 57 crier/crierref16.has -/
def crierref16_has_L26 : LoopSpec where
  S := Int
  emb := fun s => [(5, .int .i64 s)]
  ext := fun t => match getL t 5 with
    | some (.int .i64 y5) => some (y5)
    | _ => none
  slots := [5]
  fits := fun _ => rfl
  ok := by
    intro t s h x hx
    (try dsimp only at h hx)
    split at h
    · cases h
      simp only [List.mem_cons, List.not_mem_nil, or_false] at hx
      rcases hx with rfl <;> assumption
    · cases h

def crierref16_has_l0 (a0 : Int) (a1 : Option Addr) (a1_n : Nat) (Q : Value → World → Prop) (n6 : Int) (w7 : World) (A8 : crierref16_has_L26.S → World → Prop) : Prop :=
 cnd (decide (n6 < ((a1_n : Nat) : Int)))
 (ix n6 a1_n fun j9 => nn a1 fun a10 =>
 ldI .i64 (a10.add (j9 * 1)) w7 fun n11 =>
 cnd (n11 == a0)
 (Q (.bool true) w7)
 (A8 (((IntKind.i64.wrap (n6 + 1)) : Int)) w7))
 (Q (.bool false) w7)

def crierref16_has (a0 : Int) (a1 : Option Addr) (a1_n : Nat) (a1_c : Nat) (w : World) (Q : Value → World → Prop) : Prop :=
 LoopT (fun (s12 : crierref16_has_L26.S) w13 A14 => crierref16_has_l0 a0 a1 a1_n Q s12 w13 A14) ((0 : Int)) w
def crierref16_has_ann : Nat → Option LoopSpec := fun
  | 26 => some crierref16_has_L26
  | _ => none
theorem crierref16_has_eq (a0 : Int) (a1 : Option Addr) (a1_n : Nat) (a1_c : Nat) (w : World) (Q : Value → World → Prop) : fnX P crierref16_has_ann Try.f57 [.int .i64 a0, .slice a1 a1_n a1_c] w Q = crierref16_has a0 a1 a1_n a1_c w Q := by kernel_rfl
theorem crierref16_has_cv {a0 : Int} {a1 : Option Addr} {a1_n : Nat} {a1_c : Nat} {w : World} {Q : Value → World → Prop} (h : crierref16_has a0 a1 a1_n a1_c w Q) : CV P F.crierref16_has [.int .i64 a0, .slice a1 a1_n a1_c] w Q := CV_of mixed Try.func57 (crierref16_has_eq a0 a1 a1_n a1_c w Q ▸ h)

/- 58 crier/crierref16.one -/

def crierref16_one (a0 : Bool) (w : World) (Q : Value → World → Prop) : Prop :=
 cnd a0
 (Q (.int .i64 1) w)
 (Q (.int .i64 0) w)
def crierref16_one_ann : Nat → Option LoopSpec := fun _ => none
theorem crierref16_one_eq (a0 : Bool) (w : World) (Q : Value → World → Prop) : fnX P crierref16_one_ann Try.f58 [.bool a0] w Q = crierref16_one a0 w Q := by kernel_rfl
theorem crierref16_one_cv {a0 : Bool} {w : World} {Q : Value → World → Prop} (h : crierref16_one a0 w Q) : CV P F.crierref16_one [.bool a0] w Q := CV_of mixed Try.func58 (crierref16_one_eq a0 w Q ▸ h)

/- 59 crier/crierref16.Store -/
def crierref16_Store_J30 : LoopSpec where
  S := Bool
  emb := fun s => [(38, .bool s)]
  ext := fun t => match getL t 38 with
    | some (.bool y40) => some (y40)
    | _ => none
  slots := [38]
  fits := fun _ => rfl
  ok := by
    intro t s h x hx
    (try dsimp only at h hx)
    split at h
    · cases h
      simp only [List.mem_cons, List.not_mem_nil, or_false] at hx
      rcases hx with rfl <;> assumption
    · cases h

def crierref16_Store_L250 : LoopSpec where
  S := Int
  emb := fun s => [(11, .int .i64 s)]
  ext := fun t => match getL t 11 with
    | some (.int .i64 y43) => some (y43)
    | _ => none
  slots := [11]
  fits := fun _ => rfl
  ok := by
    intro t s h x hx
    (try dsimp only at h hx)
    split at h
    · cases h
      simp only [List.mem_cons, List.not_mem_nil, or_false] at hx
      rcases hx with rfl <;> assumption
    · cases h

def crierref16_Store_l0 (a0 : Option Addr) (a2 : Int) (Q : Value → World → Prop) (b14 : Nat) (b34 : Nat) (n44 : Int) (w45 : World) (A46 : crierref16_Store_L250.S → World → Prop) : Prop :=
 cnd (decide (n44 < 4))
 (drw w45 fun w47 =>
 ldI .i64 ⟨b14, 0, none⟩ w47 fun n48 =>
 ldI .i64 ⟨b14, 1, none⟩ w47 fun n49 =>
 ix n44 4 fun j50 =>
 ldI .u64 (Addr.add ⟨b34, 0, none⟩ (j50 * 1)) w47 fun n51 =>
 CV P F.crierref04_Mem_Write [.pointer a0, .agg [.int .i64 n48, .int .i64 n49].toArray, .int .i64 (IntKind.i64.wrap (a2 + (IntKind.i64.wrap (8 * n44)))), .int .i64 8, .int .u64 n51] w47 fun v52 w53 =>
 ∃ n54 : Int, v52 = .int .i64 n54 ∧
 A46 (((IntKind.i64.wrap (n44 + 1)) : Int)) w53)
 (Q (.int .i64 0) w45)

def crierref16_Store_j1 (a0 : Option Addr) (a2 : Int) (Q : Value → World → Prop) (b14 : Nat) (b34 : Nat) (b41 : Bool) (w42 : World) : Prop :=
 cnd b41
 (Q (.int .i64 42) w42)
 (LoopT (fun (s55 : crierref16_Store_L250.S) w56 A57 => crierref16_Store_l0 a0 a2 Q b14 b34 s55 w56 A57) ((0 : Int)) w42)

def crierref16_Store (a0 : Option Addr) (a1_0 : Int) (a1_1 : Int) (a2 : Int) (a3_0 : Int) (a3_1 : Int) (a3_2 : Int) (a3_3 : Int) (a3_4 : Int) (a3_5 : Int) (a3_6 : Int) (a3_7 : Int) (a3_8 : Bool) (w : World) (Q : Value → World → Prop) : Prop :=
 alc [.int .i64 a1_0, .int .i64 a1_1] T.t23 w fun b14 w15 =>
 alc [.int .i64 a3_0, .int .i64 a3_1, .int .i64 a3_2, .int .i64 a3_3, .int .i64 a3_4, .int .i64 a3_5, .int .i64 a3_6, .int .i64 a3_7, .bool a3_8] T.t40 w15 fun b16 w17 =>
 ldI .i64 ⟨b16, 0, none⟩ w17 fun n18 =>
 ldI .i64 ⟨b16, 1, none⟩ w17 fun n19 =>
 ldI .i64 ⟨b16, 2, none⟩ w17 fun n20 =>
 ldI .i64 ⟨b16, 3, none⟩ w17 fun n21 =>
 ldI .i64 ⟨b16, 4, none⟩ w17 fun n22 =>
 ldI .i64 ⟨b16, 5, none⟩ w17 fun n23 =>
 ldI .i64 ⟨b16, 6, none⟩ w17 fun n24 =>
 ldI .i64 ⟨b16, 7, none⟩ w17 fun n25 =>
 ldB ⟨b16, 8, none⟩ w17 fun b26 =>
 CV P F.crierref16_Encode [.agg [.int .i64 n18, .int .i64 n19, .int .i64 n20, .int .i64 n21, .int .i64 n22, .int .i64 n23, .int .i64 n24, .int .i64 n25, .bool b26].toArray] w17 fun v27 w28 =>
 ∃ n29 : Int, ∃ n30 : Int, ∃ n31 : Int, ∃ n32 : Int, ∃ b33 : Bool, v27 = .tuple [.agg [.int .u64 n29, .int .u64 n30, .int .u64 n31, .int .u64 n32].toArray, .bool b33].toArray ∧
 alc [.int .u64 0, .int .u64 0, .int .u64 0, .int .u64 0] T.t51 w28 fun b34 w35 =>
 st1 (.int .u64 n29) ⟨b34, 0, none⟩ w35 fun w36 =>
 st1 (.int .u64 n30) ⟨b34, 1, none⟩ w36 fun w37 =>
 st1 (.int .u64 n31) ⟨b34, 2, none⟩ w37 fun w38 =>
 st1 (.int .u64 n32) ⟨b34, 3, none⟩ w38 fun w39 =>
 cnd (!b33)
 (Q (.int .i64 160) w39)
 (JoinT (fun (J58 : crierref16_Store_J30.S → World → Prop) =>
  ldI .i64 ⟨b14, 0, none⟩ w39 fun n59 =>
  ldI .i64 ⟨b14, 1, none⟩ w39 fun n60 =>
  CV P F.crierref04_Mem_Holds [.pointer a0, .agg [.int .i64 n59, .int .i64 n60].toArray] w39 fun v61 w62 =>
  ∃ b63 : Bool, v61 = .bool b63 ∧
  cnd (!b63)
  (J58 ((true : Bool)) w62)
  ((nz 8 <|
  cnd ((Int.tmod a2 8) != 0)
  (J58 ((true : Bool)) w62)
  (cnd (decide (a2 < 0))
  (J58 ((true : Bool)) w62)
  (ldI .i64 ⟨b14, 1, none⟩ w62 fun n64 =>
  J58 (((decide (a2 > (IntKind.i64.wrap (n64 - 32)))) : Bool)) w62)))))
  fun (s65 : crierref16_Store_J30.S) w66 => crierref16_Store_j1 a0 a2 Q b14 b34 s65 w66)
def crierref16_Store_ann : Nat → Option LoopSpec := fun
  | 30 => some crierref16_Store_J30
  | 250 => some crierref16_Store_L250
  | 4004 => some (ordSpec [0, 1, 2, 3, 4, 5, 6, 7, 8, 9])
  | _ => none
theorem crierref16_Store_eq (a0 : Option Addr) (a1_0 : Int) (a1_1 : Int) (a2 : Int) (a3_0 : Int) (a3_1 : Int) (a3_2 : Int) (a3_3 : Int) (a3_4 : Int) (a3_5 : Int) (a3_6 : Int) (a3_7 : Int) (a3_8 : Bool) (w : World) (Q : Value → World → Prop) : fnX P crierref16_Store_ann Try.f59 [.pointer a0, .agg [.int .i64 a1_0, .int .i64 a1_1].toArray, .int .i64 a2, .agg [.int .i64 a3_0, .int .i64 a3_1, .int .i64 a3_2, .int .i64 a3_3, .int .i64 a3_4, .int .i64 a3_5, .int .i64 a3_6, .int .i64 a3_7, .bool a3_8].toArray] w Q = crierref16_Store a0 a1_0 a1_1 a2 a3_0 a3_1 a3_2 a3_3 a3_4 a3_5 a3_6 a3_7 a3_8 w Q := by kernel_rfl
theorem crierref16_Store_cv {a0 : Option Addr} {a1_0 : Int} {a1_1 : Int} {a2 : Int} {a3_0 : Int} {a3_1 : Int} {a3_2 : Int} {a3_3 : Int} {a3_4 : Int} {a3_5 : Int} {a3_6 : Int} {a3_7 : Int} {a3_8 : Bool} {w : World} {Q : Value → World → Prop} (h : crierref16_Store a0 a1_0 a1_1 a2 a3_0 a3_1 a3_2 a3_3 a3_4 a3_5 a3_6 a3_7 a3_8 w Q) : CV P F.crierref16_Store [.pointer a0, .agg [.int .i64 a1_0, .int .i64 a1_1].toArray, .int .i64 a2, .agg [.int .i64 a3_0, .int .i64 a3_1, .int .i64 a3_2, .int .i64 a3_3, .int .i64 a3_4, .int .i64 a3_5, .int .i64 a3_6, .int .i64 a3_7, .bool a3_8].toArray] w Q := CV_of mixed Try.func59 (crierref16_Store_eq a0 a1_0 a1_1 a2 a3_0 a3_1 a3_2 a3_3 a3_4 a3_5 a3_6 a3_7 a3_8 w Q ▸ h)

/- 60 (crier/crierref17.Queue).next -/

def crierref17_Queue_next (a0_0 : Int) (a0_1 : Int) (a0_2 : Int) (a0_3 : Int) (a1 : Int) (w : World) (Q : Value → World → Prop) : Prop :=
 alc [.int .i64 a0_0, .int .i64 a0_1, .int .i64 a0_2, .int .i64 a0_3] T.t61 w fun b6 w7 =>
 ldI .i64 ⟨b6, 1, none⟩ w7 fun n8 =>
 cnd ((IntKind.i64.wrap (a1 + 32)) == n8)
 (Q (.int .i64 0) w7)
 (Q (.int .i64 (IntKind.i64.wrap (a1 + 32))) w7)
def crierref17_Queue_next_ann : Nat → Option LoopSpec := fun _ => none
theorem crierref17_Queue_next_eq (a0_0 : Int) (a0_1 : Int) (a0_2 : Int) (a0_3 : Int) (a1 : Int) (w : World) (Q : Value → World → Prop) : fnX P crierref17_Queue_next_ann Try.f60 [.agg [.int .i64 a0_0, .int .i64 a0_1, .int .i64 a0_2, .int .i64 a0_3].toArray, .int .i64 a1] w Q = crierref17_Queue_next a0_0 a0_1 a0_2 a0_3 a1 w Q := by kernel_rfl
theorem crierref17_Queue_next_cv {a0_0 : Int} {a0_1 : Int} {a0_2 : Int} {a0_3 : Int} {a1 : Int} {w : World} {Q : Value → World → Prop} (h : crierref17_Queue_next a0_0 a0_1 a0_2 a0_3 a1 w Q) : CV P F.crierref17_Queue_next [.agg [.int .i64 a0_0, .int .i64 a0_1, .int .i64 a0_2, .int .i64 a0_3].toArray, .int .i64 a1] w Q := CV_of mixed Try.func60 (crierref17_Queue_next_eq a0_0 a0_1 a0_2 a0_3 a1 w Q ▸ h)

/- 61 (crier/crierref17.Queue).may -/

def crierref17_Queue_may (a0_0 : Int) (a0_1 : Int) (a0_2 : Int) (a0_3 : Int) (a1 : Int) (w : World) (Q : Value → World → Prop) : Prop :=
 alc [.int .i64 a0_0, .int .i64 a0_1, .int .i64 a0_2, .int .i64 a0_3] T.t61 w fun b6 w7 =>
 ldI .i64 ⟨b6, 1, none⟩ w7 fun n8 =>
 CV P F.crierref02_Index [.int .i64 n8, .int .i64 32, .int .i64 a1] w7 fun v9 w10 =>
 ∃ n11 : Int, v9 = .int .i64 n11 ∧
 Q (.bool (decide (n11 ≥ 0))) w10
def crierref17_Queue_may_ann : Nat → Option LoopSpec := fun _ => none
theorem crierref17_Queue_may_eq (a0_0 : Int) (a0_1 : Int) (a0_2 : Int) (a0_3 : Int) (a1 : Int) (w : World) (Q : Value → World → Prop) : fnX P crierref17_Queue_may_ann Try.f61 [.agg [.int .i64 a0_0, .int .i64 a0_1, .int .i64 a0_2, .int .i64 a0_3].toArray, .int .i64 a1] w Q = crierref17_Queue_may a0_0 a0_1 a0_2 a0_3 a1 w Q := by kernel_rfl
theorem crierref17_Queue_may_cv {a0_0 : Int} {a0_1 : Int} {a0_2 : Int} {a0_3 : Int} {a1 : Int} {w : World} {Q : Value → World → Prop} (h : crierref17_Queue_may a0_0 a0_1 a0_2 a0_3 a1 w Q) : CV P F.crierref17_Queue_may [.agg [.int .i64 a0_0, .int .i64 a0_1, .int .i64 a0_2, .int .i64 a0_3].toArray, .int .i64 a1] w Q := CV_of mixed Try.func61 (crierref17_Queue_may_eq a0_0 a0_1 a0_2 a0_3 a1 w Q ▸ h)

/- 62 (*crier/mem.Mem).part -/

def mem_Mem_part (a0 : Option Addr) (a1_0 : Int) (a1_1 : Int) (a2 : Int) (a3 : Int) (w : World) (Q : Value → World → Prop) : Prop :=
 alc [.int .i64 a1_0, .int .i64 a1_1] T.t23 w fun b6 w7 =>
 ldI .i64 ⟨b6, 0, none⟩ w7 fun n8 =>
 ldI .i64 ⟨b6, 1, none⟩ w7 fun n9 =>
 CV P F.mem_Mem_Holds [.pointer a0, .agg [.int .i64 n8, .int .i64 n9].toArray] w7 fun v10 w11 =>
 ∃ b12 : Bool, v10 = .bool b12 ∧
 cnd (!b12)
 (Q (.tuple [.slice none 0 0, .int .i64 42].toArray) w11)
 (ldI .i64 ⟨b6, 1, none⟩ w11 fun n13 =>
 CV P F.mem_May [.int .i64 n13, .int .i64 a2, .int .i64 a3] w11 fun v14 w15 =>
 ∃ n16 : Int, v14 = .int .i64 n16 ∧
 cnd (n16 != 0)
 (Q (.tuple [.slice none 0 0, .int .i64 n16].toArray) w15)
 (drw w15 fun w17 =>
 nn a0 fun a18 =>
 ldL a18 w17 fun p19 l20 c21 =>
 ldI .i64 ⟨b6, 0, none⟩ w17 fun n22 =>
 ldI .i64 ⟨b6, 0, none⟩ w17 fun n23 =>
 slL p19 l20 c21 1 (some (IntKind.i64.wrap (n22 + a2))) (some (IntKind.i64.wrap ((IntKind.i64.wrap (n23 + a2)) + a3))) none fun p24 l25 c26 =>
 Q (.tuple [.slice p24 l25 c26, .int .i64 0].toArray) w17))
def mem_Mem_part_ann : Nat → Option LoopSpec := fun
  | 30 => some (ordSpec [0, 1, 2, 3, 4, 5, 6, 7, 8, 9, 10, 11, 12, 13, 14, 15, 16])
  | _ => none
theorem mem_Mem_part_eq (a0 : Option Addr) (a1_0 : Int) (a1_1 : Int) (a2 : Int) (a3 : Int) (w : World) (Q : Value → World → Prop) : fnX P mem_Mem_part_ann Try.f62 [.pointer a0, .agg [.int .i64 a1_0, .int .i64 a1_1].toArray, .int .i64 a2, .int .i64 a3] w Q = mem_Mem_part a0 a1_0 a1_1 a2 a3 w Q := by kernel_rfl
theorem mem_Mem_part_cv {a0 : Option Addr} {a1_0 : Int} {a1_1 : Int} {a2 : Int} {a3 : Int} {w : World} {Q : Value → World → Prop} (h : mem_Mem_part a0 a1_0 a1_1 a2 a3 w Q) : CV P F.mem_Mem_part [.pointer a0, .agg [.int .i64 a1_0, .int .i64 a1_1].toArray, .int .i64 a2, .int .i64 a3] w Q := CV_of mixed Try.func62 (mem_Mem_part_eq a0 a1_0 a1_1 a2 a3 w Q ▸ h)

/- 63 (*crier/crierref04.Mem).Holds -/
def crierref04_Mem_Holds_J3 : LoopSpec where
  S := Bool
  emb := fun s => [(4, .bool s)]
  ext := fun t => match getL t 4 with
    | some (.bool y6) => some (y6)
    | _ => none
  slots := [4]
  fits := fun _ => rfl
  ok := by
    intro t s h x hx
    (try dsimp only at h hx)
    split at h
    · cases h
      simp only [List.mem_cons, List.not_mem_nil, or_false] at hx
      rcases hx with rfl <;> assumption
    · cases h

def crierref04_Mem_Holds_j0 (Q : Value → World → Prop) (b7 : Bool) (w8 : World) : Prop :=
 Q (.bool b7) w8

def crierref04_Mem_Holds (a0 : Option Addr) (a1_0 : Int) (a1_1 : Int) (w : World) (Q : Value → World → Prop) : Prop :=
 alc [.int .i64 a1_0, .int .i64 a1_1] T.t23 w fun b4 w5 =>
 JoinT (fun (J9 : crierref04_Mem_Holds_J3.S → World → Prop) =>
  drw w5 fun w10 =>
  ldI .i64 ⟨b4, 0, none⟩ w10 fun n11 =>
  cnd (decide (n11 ≥ 0))
  (ldI .i64 ⟨b4, 1, none⟩ w10 fun n12 =>
  cnd (decide (n12 ≥ 0))
  (ldI .i64 ⟨b4, 1, none⟩ w10 fun n13 =>
  nn a0 fun a14 =>
  ldL a14 w10 fun p15 l16 c17 =>
  cnd (decide (n13 ≤ ((l16 : Nat) : Int)))
  (ldI .i64 ⟨b4, 0, none⟩ w10 fun n18 =>
  nn a0 fun a19 =>
  ldL a19 w10 fun p20 l21 c22 =>
  ldI .i64 ⟨b4, 1, none⟩ w10 fun n23 =>
  J9 (((decide (n18 ≤ (IntKind.i64.wrap (((l21 : Nat) : Int) - n23)))) : Bool)) w10)
  (J9 ((false : Bool)) w10))
  (J9 ((false : Bool)) w10))
  (J9 ((false : Bool)) w10))
  fun (s24 : crierref04_Mem_Holds_J3.S) w25 => crierref04_Mem_Holds_j0 Q s24 w25
def crierref04_Mem_Holds_ann : Nat → Option LoopSpec := fun
  | 3 => some crierref04_Mem_Holds_J3
  | 6 => some (ordSpec [0, 1, 2, 3, 4, 5, 6, 7, 8, 9, 10, 11, 12, 13, 14, 15, 16, 17, 18, 19, 20, 21, 22, 23, 24, 25, 26, 27, 28, 29, 30, 31])
  | _ => none
theorem crierref04_Mem_Holds_eq (a0 : Option Addr) (a1_0 : Int) (a1_1 : Int) (w : World) (Q : Value → World → Prop) : fnX P crierref04_Mem_Holds_ann Try.f63 [.pointer a0, .agg [.int .i64 a1_0, .int .i64 a1_1].toArray] w Q = crierref04_Mem_Holds a0 a1_0 a1_1 w Q := by kernel_rfl
theorem crierref04_Mem_Holds_cv {a0 : Option Addr} {a1_0 : Int} {a1_1 : Int} {w : World} {Q : Value → World → Prop} (h : crierref04_Mem_Holds a0 a1_0 a1_1 w Q) : CV P F.crierref04_Mem_Holds [.pointer a0, .agg [.int .i64 a1_0, .int .i64 a1_1].toArray] w Q := CV_of mixed Try.func63 (crierref04_Mem_Holds_eq a0 a1_0 a1_1 w Q ▸ h)

/- 64 crier/crierref04.May -/
def crierref04_May_J6 : LoopSpec where
  S := Bool
  emb := fun s => [(16, .bool s)]
  ext := fun t => match getL t 16 with
    | some (.bool y4) => some (y4)
    | _ => none
  slots := [16]
  fits := fun _ => rfl
  ok := by
    intro t s h x hx
    (try dsimp only at h hx)
    split at h
    · cases h
      simp only [List.mem_cons, List.not_mem_nil, or_false] at hx
      rcases hx with rfl <;> assumption
    · cases h

def crierref04_May_J30 : LoopSpec where
  S := Bool
  emb := fun s => [(29, .bool s)]
  ext := fun t => match getL t 29 with
    | some (.bool y7) => some (y7)
    | _ => none
  slots := [29]
  fits := fun _ => rfl
  ok := by
    intro t s h x hx
    (try dsimp only at h hx)
    split at h
    · cases h
      simp only [List.mem_cons, List.not_mem_nil, or_false] at hx
      rcases hx with rfl <;> assumption
    · cases h

def crierref04_May_j0 (Q : Value → World → Prop) (b8 : Bool) (w9 : World) : Prop :=
 cnd b8
 (Q (.int .i64 42) w9)
 (Q (.int .i64 0) w9)

def crierref04_May_j1 (a0 : Int) (a1 : Int) (a2 : Int) (Q : Value → World → Prop) (b5 : Bool) (w6 : World) : Prop :=
 cnd b5
 (Q (.int .i64 40) w6)
 ((nz a2 <|
 cnd ((Int.tmod a1 a2) != 0)
 (Q (.int .i64 41) w6)
 (JoinT (fun (J10 : crierref04_May_J30.S → World → Prop) =>
  cnd (decide (a1 < 0))
  (J10 ((true : Bool)) w6)
  (J10 (((decide (a1 > (IntKind.i64.wrap (a0 - a2)))) : Bool)) w6))
  fun (s11 : crierref04_May_J30.S) w12 => crierref04_May_j0 Q s11 w12)))

def crierref04_May (a0 : Int) (a1 : Int) (a2 : Int) (w : World) (Q : Value → World → Prop) : Prop :=
 JoinT (fun (J13 : crierref04_May_J6.S → World → Prop) =>
  cnd (a2 != 1)
  (cnd (a2 != 4)
  (J13 (((a2 != 8) : Bool)) w)
  (J13 ((false : Bool)) w))
  (J13 ((false : Bool)) w))
  fun (s14 : crierref04_May_J6.S) w15 => crierref04_May_j1 a0 a1 a2 Q s14 w15
def crierref04_May_ann : Nat → Option LoopSpec := fun
  | 6 => some crierref04_May_J6
  | 30 => some crierref04_May_J30
  | _ => none
theorem crierref04_May_eq (a0 : Int) (a1 : Int) (a2 : Int) (w : World) (Q : Value → World → Prop) : fnX P crierref04_May_ann Try.f64 [.int .i64 a0, .int .i64 a1, .int .i64 a2] w Q = crierref04_May a0 a1 a2 w Q := by kernel_rfl
theorem crierref04_May_cv {a0 : Int} {a1 : Int} {a2 : Int} {w : World} {Q : Value → World → Prop} (h : crierref04_May a0 a1 a2 w Q) : CV P F.crierref04_May [.int .i64 a0, .int .i64 a1, .int .i64 a2] w Q := CV_of mixed Try.func64 (crierref04_May_eq a0 a1 a2 w Q ▸ h)

/- 65 crier/crierref02.Waits -/
def crierref02_Waits_J62 : LoopSpec where
  S := Bool
  emb := fun s => [(25, .bool s)]
  ext := fun t => match getL t 25 with
    | some (.bool y11) => some (y11)
    | _ => none
  slots := [25]
  fits := fun _ => rfl
  ok := by
    intro t s h x hx
    (try dsimp only at h hx)
    split at h
    · cases h
      simp only [List.mem_cons, List.not_mem_nil, or_false] at hx
      rcases hx with rfl <;> assumption
    · cases h

def crierref02_Waits_L252 : LoopSpec where
  S := Int × (Option Addr × Nat × Nat)
  emb := fun s => [(9, .int .i64 s.1), (11, .slice s.2.1 s.2.2.1 s.2.2.2)]
  ext := fun t => match getL t 9, getL t 11 with
    | some (.int .i64 y14), some (.slice y15 y16 y17) => some (y14, (y15, y16, y17))
    | _, _ => none
  slots := [9, 11]
  fits := fun _ => rfl
  ok := by
    intro t s h x hx
    (try dsimp only at h hx)
    split at h
    · cases h
      simp only [List.mem_cons, List.not_mem_nil, or_false] at hx
      rcases hx with rfl | rfl <;> assumption
    · cases h

def crierref02_Waits_J1009 : LoopSpec where
  S := Int × (Option Addr × Nat × Nat)
  emb := fun s => [(9, .int .i64 s.1), (11, .slice s.2.1 s.2.2.1 s.2.2.2)]
  ext := fun t => match getL t 9, getL t 11 with
    | some (.int .i64 y24), some (.slice y25 y26 y27) => some (y24, (y25, y26, y27))
    | _, _ => none
  slots := [9, 11]
  fits := fun _ => rfl
  ok := by
    intro t s h x hx
    (try dsimp only at h hx)
    split at h
    · cases h
      simp only [List.mem_cons, List.not_mem_nil, or_false] at hx
      rcases hx with rfl | rfl <;> assumption
    · cases h

def crierref02_Waits_j0 (A23 : crierref02_Waits_L252.S → World → Prop) (n28 : Int) (p29 : Option Addr) (l30 : Nat) (c31 : Nat) (w32 : World) : Prop :=
 A23 ((n28 : Int), ((p29 : Option Addr), (l30 : Nat), (c31 : Nat))) w32

def crierref02_Waits_l1 (a0 : Int) (a1 : Int) (Q : Value → World → Prop) (n10 : Int) (n18 : Int) (p19 : Option Addr) (l20 : Nat) (c21 : Nat) (w22 : World) (A23 : crierref02_Waits_L252.S → World → Prop) : Prop :=
 cnd (n18 != n10)
 (JoinT (fun (J33 : crierref02_Waits_J1009.S → World → Prop) =>
  alc [.int .i64 (IntKind.i64.wrap (n18 * a1))] T.t3 w22 fun b34 w35 =>
  runS P (Builtin.append_ #[T.t97, T.t97] T.t97 [.slice p19 l20 c21, .slice (some ⟨b34, 0, none⟩) 1 1].toArray) w35 fun p36 l37 c38 w39 =>
  (nz a1 <|
  cnd ((IntKind.i64.wrap (n18 + 1)) == (IntKind.i64.wrap (Int.tdiv a0 a1)))
  (J33 ((0 : Int), ((p36 : Option Addr), (l37 : Nat), (c38 : Nat))) w39)
  (J33 (((IntKind.i64.wrap (n18 + 1)) : Int), ((p36 : Option Addr), (l37 : Nat), (c38 : Nat))) w39)))
  fun (s40 : crierref02_Waits_J1009.S) w41 => crierref02_Waits_j0 A23 s40.1 s40.2.1 s40.2.2.1 s40.2.2.2 w41)
 (Q (.slice p19 l20 c21) w22)

def crierref02_Waits_j2 (a0 : Int) (a1 : Int) (Q : Value → World → Prop) (n7 : Int) (n10 : Int) (b12 : Bool) (w13 : World) : Prop :=
 cnd b12
 (Q (.slice none 0 0) w13)
 (LoopT (fun (s42 : crierref02_Waits_L252.S) w43 A44 => crierref02_Waits_l1 a0 a1 Q n10 s42.1 s42.2.1 s42.2.2.1 s42.2.2.2 w43 A44) ((n7 : Int), ((none : Option Addr), (0 : Nat), (0 : Nat))) w13)

def crierref02_Waits (a0 : Int) (a1 : Int) (a2 : Int) (a3 : Int) (w : World) (Q : Value → World → Prop) : Prop :=
 CV P F.crierref02_Index [.int .i64 a0, .int .i64 a1, .int .i64 a2] w fun v5 w6 =>
 ∃ n7 : Int, v5 = .int .i64 n7 ∧
 CV P F.crierref02_Index [.int .i64 a0, .int .i64 a1, .int .i64 a3] w6 fun v8 w9 =>
 ∃ n10 : Int, v8 = .int .i64 n10 ∧
 JoinT (fun (J45 : crierref02_Waits_J62.S → World → Prop) =>
  cnd (decide (n7 < 0))
  (J45 ((true : Bool)) w9)
  (J45 (((decide (n10 < 0)) : Bool)) w9))
  fun (s46 : crierref02_Waits_J62.S) w47 => crierref02_Waits_j2 a0 a1 Q n7 n10 s46 w47
def crierref02_Waits_ann : Nat → Option LoopSpec := fun
  | 62 => some crierref02_Waits_J62
  | 252 => some crierref02_Waits_L252
  | 1009 => some crierref02_Waits_J1009
  | _ => none
theorem crierref02_Waits_eq (a0 : Int) (a1 : Int) (a2 : Int) (a3 : Int) (w : World) (Q : Value → World → Prop) : fnX P crierref02_Waits_ann Try.f65 [.int .i64 a0, .int .i64 a1, .int .i64 a2, .int .i64 a3] w Q = crierref02_Waits a0 a1 a2 a3 w Q := by kernel_rfl
theorem crierref02_Waits_cv {a0 : Int} {a1 : Int} {a2 : Int} {a3 : Int} {w : World} {Q : Value → World → Prop} (h : crierref02_Waits a0 a1 a2 a3 w Q) : CV P F.crierref02_Waits [.int .i64 a0, .int .i64 a1, .int .i64 a2, .int .i64 a3] w Q := CV_of mixed Try.func65 (crierref02_Waits_eq a0 a1 a2 a3 w Q ▸ h)

/- 66 (*crier/crierref04.Mem).Read -/
def crierref04_Mem_Read_L506 : LoopSpec where
  S := Int × Int
  emb := fun s => [(11, .int .u64 s.1), (12, .int .i64 s.2)]
  ext := fun t => match getL t 11, getL t 12 with
    | some (.int .u64 y17), some (.int .i64 y18) => some (y17, y18)
    | _, _ => none
  slots := [11, 12]
  fits := fun _ => rfl
  ok := by
    intro t s h x hx
    (try dsimp only at h hx)
    split at h
    · cases h
      simp only [List.mem_cons, List.not_mem_nil, or_false] at hx
      rcases hx with rfl | rfl <;> assumption
    · cases h

def crierref04_Mem_Read_l0 (a0 : Option Addr) (a2 : Int) (Q : Value → World → Prop) (b6 : Nat) (n19 : Int) (n20 : Int) (w21 : World) (A22 : crierref04_Mem_Read_L506.S → World → Prop) : Prop :=
 cnd (decide (n20 ≥ 0))
 (drw w21 fun w23 =>
 nn a0 fun a24 =>
 ldL a24 w23 fun p25 l26 c27 =>
 ldI .i64 ⟨b6, 0, none⟩ w23 fun n28 =>
 ix (IntKind.i64.wrap ((IntKind.i64.wrap (n28 + a2)) + n20)) l26 fun j29 => nn p25 fun a30 =>
 ldI .u8 (a30.add (j29 * 1)) w23 fun n31 =>
 A22 (((IntKind.u64.wrap ((IntKind.u64.wrap (n19 * 256)) + (IntKind.u64.wrap (n31)))) : Int), ((IntKind.i64.wrap (n20 - 1)) : Int)) w23)
 (Q (.tuple [.int .u64 n19, .int .i64 0].toArray) w21)

def crierref04_Mem_Read (a0 : Option Addr) (a1_0 : Int) (a1_1 : Int) (a2 : Int) (a3 : Int) (w : World) (Q : Value → World → Prop) : Prop :=
 alc [.int .i64 a1_0, .int .i64 a1_1] T.t23 w fun b6 w7 =>
 ldI .i64 ⟨b6, 0, none⟩ w7 fun n8 =>
 ldI .i64 ⟨b6, 1, none⟩ w7 fun n9 =>
 CV P F.crierref04_Mem_Holds [.pointer a0, .agg [.int .i64 n8, .int .i64 n9].toArray] w7 fun v10 w11 =>
 ∃ b12 : Bool, v10 = .bool b12 ∧
 cnd (!b12)
 (Q (.tuple [.int .u64 0, .int .i64 42].toArray) w11)
 (ldI .i64 ⟨b6, 1, none⟩ w11 fun n13 =>
 CV P F.crierref04_May [.int .i64 n13, .int .i64 a2, .int .i64 a3] w11 fun v14 w15 =>
 ∃ n16 : Int, v14 = .int .i64 n16 ∧
 cnd (n16 != 0)
 (Q (.tuple [.int .u64 0, .int .i64 n16].toArray) w15)
 (LoopT (fun (s32 : crierref04_Mem_Read_L506.S) w33 A34 => crierref04_Mem_Read_l0 a0 a2 Q b6 s32.1 s32.2 w33 A34) ((0 : Int), ((IntKind.i64.wrap (a3 - 1)) : Int)) w15))
def crierref04_Mem_Read_ann : Nat → Option LoopSpec := fun
  | 506 => some crierref04_Mem_Read_L506
  | 8100 => some (ordSpec [0, 1, 2, 3, 4, 5, 6, 7, 8, 9, 10, 11, 12, 13, 14, 15, 16])
  | _ => none
theorem crierref04_Mem_Read_eq (a0 : Option Addr) (a1_0 : Int) (a1_1 : Int) (a2 : Int) (a3 : Int) (w : World) (Q : Value → World → Prop) : fnX P crierref04_Mem_Read_ann Try.f66 [.pointer a0, .agg [.int .i64 a1_0, .int .i64 a1_1].toArray, .int .i64 a2, .int .i64 a3] w Q = crierref04_Mem_Read a0 a1_0 a1_1 a2 a3 w Q := by kernel_rfl
theorem crierref04_Mem_Read_cv {a0 : Option Addr} {a1_0 : Int} {a1_1 : Int} {a2 : Int} {a3 : Int} {w : World} {Q : Value → World → Prop} (h : crierref04_Mem_Read a0 a1_0 a1_1 a2 a3 w Q) : CV P F.crierref04_Mem_Read [.pointer a0, .agg [.int .i64 a1_0, .int .i64 a1_1].toArray, .int .i64 a2, .int .i64 a3] w Q := CV_of mixed Try.func66 (crierref04_Mem_Read_eq a0 a1_0 a1_1 a2 a3 w Q ▸ h)

/- 67 crier/crierref16.Decode -/
def crierref16_Decode_L506 : LoopSpec where
  S := Int
  emb := fun s => [(8, .int .i64 s)]
  ext := fun t => match getL t 8 with
    | some (.int .i64 y71) => some (y71)
    | _ => none
  slots := [8]
  fits := fun _ => rfl
  ok := by
    intro t s h x hx
    (try dsimp only at h hx)
    split at h
    · cases h
      simp only [List.mem_cons, List.not_mem_nil, or_false] at hx
      rcases hx with rfl <;> assumption
    · cases h

def crierref16_Decode_J32403 : LoopSpec where
  S := Unit
  emb := fun _ => []
  ext := fun _ => some ()
  slots := []
  fits := fun _ => rfl
  ok := by
    intro t s h x hx; cases hx

def crierref16_Decode_j0 (n72 : Int) (A74 : crierref16_Decode_L506.S → World → Prop) (w96 : World) : Prop :=
 A74 (((IntKind.i64.wrap (n72 + 1)) : Int)) w96

def crierref16_Decode_J259227 : LoopSpec where
  S := Bool
  emb := fun s => [(59, .bool s)]
  ext := fun t => match getL t 59 with
    | some (.bool y100) => some (y100)
    | _ => none
  slots := [59]
  fits := fun _ => rfl
  ok := by
    intro t s h x hx
    (try dsimp only at h hx)
    split at h
    · cases h
      simp only [List.mem_cons, List.not_mem_nil, or_false] at hx
      rcases hx with rfl <;> assumption
    · cases h

def crierref16_Decode_J1036911 : LoopSpec where
  S := Bool
  emb := fun s => [(73, .bool s)]
  ext := fun t => match getL t 73 with
    | some (.bool y104) => some (y104)
    | _ => none
  slots := [73]
  fits := fun _ => rfl
  ok := by
    intro t s h x hx
    (try dsimp only at h hx)
    split at h
    · cases h
      simp only [List.mem_cons, List.not_mem_nil, or_false] at hx
      rcases hx with rfl <;> assumption
    · cases h

def crierref16_Decode_j1 (b11 : Nat) (b81 : Nat) (n95 : Int) (J97 : crierref16_Decode_J32403.S → World → Prop) (b105 : Bool) (w106 : World) : Prop :=
 cnd b105
 (st1 (.int .i64 n95) ⟨b11, 2, none⟩ w106 fun w107 =>
 J97 () w107)
 (ldI .i64 ⟨b81, 0, none⟩ w106 fun n108 =>
 cnd (n108 == 1)
 (st1 (.int .i64 n95) ⟨b11, 6, none⟩ w106 fun w109 =>
 J97 () w109)
 (ldI .i64 ⟨b81, 1, none⟩ w106 fun n110 =>
 cnd (n110 == 0)
 (st1 (.int .i64 n95) ⟨b11, 4, none⟩ w106 fun w111 =>
 J97 () w111)
 (ldI .i64 ⟨b81, 1, none⟩ w106 fun n112 =>
 cnd (n112 == 16)
 (st1 (.int .i64 n95) ⟨b11, 5, none⟩ w106 fun w113 =>
 J97 () w113)
 (ldI .i64 ⟨b81, 1, none⟩ w106 fun n114 =>
 cnd (n114 == 8)
 (st1 (.int .i64 (IntKind.i64.wrap (256 * n95))) ⟨b11, 7, none⟩ w106 fun w115 =>
 J97 () w115)
 (st1 (.bool (n95 == 1)) ⟨b11, 8, none⟩ w106 fun w116 =>
 J97 () w116)))))

def crierref16_Decode_j2 (b11 : Nat) (b81 : Nat) (n95 : Int) (J97 : crierref16_Decode_J32403.S → World → Prop) (b101 : Bool) (w102 : World) : Prop :=
 cnd b101
 (st1 (.int .i64 n95) ⟨b11, 3, none⟩ w102 fun w103 =>
 J97 () w103)
 (JoinT (fun (J117 : crierref16_Decode_J1036911.S → World → Prop) =>
  ldI .i64 ⟨b81, 0, none⟩ w102 fun n118 =>
  cnd (n118 == 1)
  (ldI .i64 ⟨b81, 2, none⟩ w102 fun n119 =>
  J117 (((n119 == 32) : Bool)) w102)
  (J117 ((false : Bool)) w102))
  fun (s120 : crierref16_Decode_J1036911.S) w121 => crierref16_Decode_j1 b11 b81 n95 J97 s120 w121)

def crierref16_Decode_J510 : LoopSpec where
  S := Bool
  emb := fun s => [(120, .bool s)]
  ext := fun t => match getL t 120 with
    | some (.bool y152) => some (y152)
    | _ => none
  slots := [120]
  fits := fun _ => rfl
  ok := by
    intro t s h x hx
    (try dsimp only at h hx)
    split at h
    · cases h
      simp only [List.mem_cons, List.not_mem_nil, or_false] at hx
      rcases hx with rfl <;> assumption
    · cases h

def crierref16_Decode_j3 (Q : Value → World → Prop) (b7 : Nat) (b11 : Nat) (b153 : Bool) (w154 : World) : Prop :=
 cnd b153
 (st1 (.int .i64 0) ⟨b7, 0, none⟩ w154 fun w155 =>
 st1 (.int .i64 0) ⟨b7, 1, none⟩ w155 fun w156 =>
 st1 (.int .i64 0) ⟨b7, 2, none⟩ w156 fun w157 =>
 st1 (.int .i64 0) ⟨b7, 3, none⟩ w157 fun w158 =>
 st1 (.int .i64 0) ⟨b7, 4, none⟩ w158 fun w159 =>
 st1 (.int .i64 0) ⟨b7, 5, none⟩ w159 fun w160 =>
 st1 (.int .i64 0) ⟨b7, 6, none⟩ w160 fun w161 =>
 st1 (.int .i64 0) ⟨b7, 7, none⟩ w161 fun w162 =>
 st1 (.bool false) ⟨b7, 8, none⟩ w162 fun w163 =>
 ldI .i64 ⟨b7, 0, none⟩ w163 fun n164 =>
 ldI .i64 ⟨b7, 1, none⟩ w163 fun n165 =>
 ldI .i64 ⟨b7, 2, none⟩ w163 fun n166 =>
 ldI .i64 ⟨b7, 3, none⟩ w163 fun n167 =>
 ldI .i64 ⟨b7, 4, none⟩ w163 fun n168 =>
 ldI .i64 ⟨b7, 5, none⟩ w163 fun n169 =>
 ldI .i64 ⟨b7, 6, none⟩ w163 fun n170 =>
 ldI .i64 ⟨b7, 7, none⟩ w163 fun n171 =>
 ldB ⟨b7, 8, none⟩ w163 fun b172 =>
 Q (.tuple [.agg [.int .i64 n164, .int .i64 n165, .int .i64 n166, .int .i64 n167, .int .i64 n168, .int .i64 n169, .int .i64 n170, .int .i64 n171, .bool b172].toArray, .bool false].toArray) w163)
 (ldI .i64 ⟨b11, 0, none⟩ w154 fun n173 =>
 ldI .i64 ⟨b11, 1, none⟩ w154 fun n174 =>
 ldI .i64 ⟨b11, 2, none⟩ w154 fun n175 =>
 ldI .i64 ⟨b11, 3, none⟩ w154 fun n176 =>
 ldI .i64 ⟨b11, 4, none⟩ w154 fun n177 =>
 ldI .i64 ⟨b11, 5, none⟩ w154 fun n178 =>
 ldI .i64 ⟨b11, 6, none⟩ w154 fun n179 =>
 ldI .i64 ⟨b11, 7, none⟩ w154 fun n180 =>
 ldB ⟨b11, 8, none⟩ w154 fun b181 =>
 st1 (.int .i64 n173) ⟨b7, 0, none⟩ w154 fun w182 =>
 st1 (.int .i64 n174) ⟨b7, 1, none⟩ w182 fun w183 =>
 st1 (.int .i64 n175) ⟨b7, 2, none⟩ w183 fun w184 =>
 st1 (.int .i64 n176) ⟨b7, 3, none⟩ w184 fun w185 =>
 st1 (.int .i64 n177) ⟨b7, 4, none⟩ w185 fun w186 =>
 st1 (.int .i64 n178) ⟨b7, 5, none⟩ w186 fun w187 =>
 st1 (.int .i64 n179) ⟨b7, 6, none⟩ w187 fun w188 =>
 st1 (.int .i64 n180) ⟨b7, 7, none⟩ w188 fun w189 =>
 st1 (.bool b181) ⟨b7, 8, none⟩ w189 fun w190 =>
 ldI .i64 ⟨b7, 0, none⟩ w190 fun n191 =>
 ldI .i64 ⟨b7, 1, none⟩ w190 fun n192 =>
 ldI .i64 ⟨b7, 2, none⟩ w190 fun n193 =>
 ldI .i64 ⟨b7, 3, none⟩ w190 fun n194 =>
 ldI .i64 ⟨b7, 4, none⟩ w190 fun n195 =>
 ldI .i64 ⟨b7, 5, none⟩ w190 fun n196 =>
 ldI .i64 ⟨b7, 6, none⟩ w190 fun n197 =>
 ldI .i64 ⟨b7, 7, none⟩ w190 fun n198 =>
 ldB ⟨b7, 8, none⟩ w190 fun b199 =>
 Q (.tuple [.agg [.int .i64 n191, .int .i64 n192, .int .i64 n193, .int .i64 n194, .int .i64 n195, .int .i64 n196, .int .i64 n197, .int .i64 n198, .bool b199].toArray, .bool true].toArray) w190)

def crierref16_Decode_l4 (Q : Value → World → Prop) (b5 : Nat) (b7 : Nat) (b11 : Nat) (p45 : Option Addr) (l46 : Nat) (n72 : Int) (w73 : World) (A74 : crierref16_Decode_L506.S → World → Prop) : Prop :=
 cnd (decide (n72 < ((l46 : Nat) : Int)))
 (ix n72 l46 fun j75 => nn p45 fun a76 =>
 ldI .i64 (a76.add (j75 * 4)) w73 fun n77 =>
 ldI .i64 ((a76.add (j75 * 4)).add 1) w73 fun n78 =>
 ldI .i64 ((a76.add (j75 * 4)).add 2) w73 fun n79 =>
 ldI .i64 ((a76.add (j75 * 4)).add 3) w73 fun n80 =>
 alc [.int .i64 0, .int .i64 0, .int .i64 0, .int .i64 0] T.t91 w73 fun b81 w82 =>
 st1 (.int .i64 n77) ⟨b81, 0, none⟩ w82 fun w83 =>
 st1 (.int .i64 n78) ⟨b81, 1, none⟩ w83 fun w84 =>
 st1 (.int .i64 n79) ⟨b81, 2, none⟩ w84 fun w85 =>
 st1 (.int .i64 n80) ⟨b81, 3, none⟩ w85 fun w86 =>
 drw w86 fun w87 =>
 ldI .i64 ⟨b81, 0, none⟩ w87 fun n88 =>
 ix n88 4 fun j89 =>
 ldI .u64 (Addr.add ⟨b5, 0, none⟩ (j89 * 1)) w87 fun n90 =>
 ldI .i64 ⟨b81, 1, none⟩ w87 fun n91 =>
 ldI .i64 ⟨b81, 2, none⟩ w87 fun n92 =>
 CV P F.crierref16_part [.int .u64 n90, .int .i64 n91, .int .i64 n92] w87 fun v93 w94 =>
 ∃ n95 : Int, v93 = .int .i64 n95 ∧
 JoinT (fun (J97 : crierref16_Decode_J32403.S → World → Prop) =>
  ldI .i64 ⟨b81, 0, none⟩ w94 fun n98 =>
  cnd (n98 == 0)
  (st1 (.int .i64 n95) ⟨b11, 1, none⟩ w94 fun w99 =>
  J97 () w99)
  (JoinT (fun (J122 : crierref16_Decode_J259227.S → World → Prop) =>
   ldI .i64 ⟨b81, 0, none⟩ w94 fun n123 =>
   cnd (n123 == 3)
   (J122 (((n123 == 3) : Bool)) w94)
   (ldI .i64 ⟨b81, 0, none⟩ w94 fun n124 =>
   cnd (n124 == 1)
   (ldI .i64 ⟨b81, 1, none⟩ w94 fun n125 =>
   J122 (((n125 == 32) : Bool)) w94)
   (J122 ((false : Bool)) w94)))
   fun (s126 : crierref16_Decode_J259227.S) w127 => crierref16_Decode_j2 b11 b81 n95 J97 s126 w127))
  fun (s128 : crierref16_Decode_J32403.S) w129 => crierref16_Decode_j0 n72 A74 w129)
 (ldI .i64 ⟨b11, 0, none⟩ w73 fun n130 =>
 ldI .i64 ⟨b11, 1, none⟩ w73 fun n131 =>
 ldI .i64 ⟨b11, 2, none⟩ w73 fun n132 =>
 ldI .i64 ⟨b11, 3, none⟩ w73 fun n133 =>
 ldI .i64 ⟨b11, 4, none⟩ w73 fun n134 =>
 ldI .i64 ⟨b11, 5, none⟩ w73 fun n135 =>
 ldI .i64 ⟨b11, 6, none⟩ w73 fun n136 =>
 ldI .i64 ⟨b11, 7, none⟩ w73 fun n137 =>
 ldB ⟨b11, 8, none⟩ w73 fun b138 =>
 CV P F.crierref16_Encode [.agg [.int .i64 n130, .int .i64 n131, .int .i64 n132, .int .i64 n133, .int .i64 n134, .int .i64 n135, .int .i64 n136, .int .i64 n137, .bool b138].toArray] w73 fun v139 w140 =>
 ∃ n141 : Int, ∃ n142 : Int, ∃ n143 : Int, ∃ n144 : Int, ∃ b145 : Bool, v139 = .tuple [.agg [.int .u64 n141, .int .u64 n142, .int .u64 n143, .int .u64 n144].toArray, .bool b145].toArray ∧
 alc [.int .u64 0, .int .u64 0, .int .u64 0, .int .u64 0] T.t51 w140 fun b146 w147 =>
 st1 (.int .u64 n141) ⟨b146, 0, none⟩ w147 fun w148 =>
 st1 (.int .u64 n142) ⟨b146, 1, none⟩ w148 fun w149 =>
 st1 (.int .u64 n143) ⟨b146, 2, none⟩ w149 fun w150 =>
 st1 (.int .u64 n144) ⟨b146, 3, none⟩ w150 fun w151 =>
 JoinT (fun (J200 : crierref16_Decode_J510.S → World → Prop) =>
  cnd (!b145)
  (J200 ((true : Bool)) w151)
  (ldI .u64 ⟨b146, 0, none⟩ w151 fun n201 =>
  ldI .u64 ⟨b146, 1, none⟩ w151 fun n202 =>
  ldI .u64 ⟨b146, 2, none⟩ w151 fun n203 =>
  ldI .u64 ⟨b146, 3, none⟩ w151 fun n204 =>
  ldI .u64 ⟨b5, 0, none⟩ w151 fun n205 =>
  ldI .u64 ⟨b5, 1, none⟩ w151 fun n206 =>
  ldI .u64 ⟨b5, 2, none⟩ w151 fun n207 =>
  ldI .u64 ⟨b5, 3, none⟩ w151 fun n208 =>
  eqA P .neq T.t51 (.agg [.int .u64 n201, .int .u64 n202, .int .u64 n203, .int .u64 n204].toArray) (.agg [.int .u64 n205, .int .u64 n206, .int .u64 n207, .int .u64 n208].toArray) w151 fun b209 =>
  J200 ((b209 : Bool)) w151))
  fun (s210 : crierref16_Decode_J510.S) w211 => crierref16_Decode_j3 Q b7 b11 s210 w211)

def crierref16_Decode (a0_0 : Int) (a0_1 : Int) (a0_2 : Int) (a0_3 : Int) (w : World) (Q : Value → World → Prop) : Prop :=
 alc [.int .u64 a0_0, .int .u64 a0_1, .int .u64 a0_2, .int .u64 a0_3] T.t51 w fun b5 w6 =>
 alc [.int .i64 0, .int .i64 0, .int .i64 0, .int .i64 0, .int .i64 0, .int .i64 0, .int .i64 0, .int .i64 0, .bool false] T.t40 w6 fun b7 w8 =>
 ix 0 4 fun j9 =>
 ldI .u64 (Addr.add ⟨b5, 0, none⟩ (j9 * 1)) w8 fun n10 =>
 (nz 256 <|
 alc [.int .i64 0, .int .i64 0, .int .i64 0, .int .i64 0, .int .i64 0, .int .i64 0, .int .i64 0, .int .i64 0, .bool false] T.t40 w8 fun b11 w12 =>
 st1 (.int .i64 (IntKind.i64.wrap ((Int.tmod n10 256)))) ⟨b11, 0, none⟩ w12 fun w13 =>
 st1 (.int .i64 0) ⟨b11, 1, none⟩ w13 fun w14 =>
 st1 (.int .i64 0) ⟨b11, 2, none⟩ w14 fun w15 =>
 st1 (.int .i64 0) ⟨b11, 3, none⟩ w15 fun w16 =>
 st1 (.int .i64 0) ⟨b11, 4, none⟩ w16 fun w17 =>
 st1 (.int .i64 0) ⟨b11, 5, none⟩ w17 fun w18 =>
 st1 (.int .i64 0) ⟨b11, 6, none⟩ w18 fun w19 =>
 st1 (.int .i64 0) ⟨b11, 7, none⟩ w19 fun w20 =>
 st1 (.bool false) ⟨b11, 8, none⟩ w20 fun w21 =>
 ldI .i64 ⟨b11, 0, none⟩ w21 fun n22 =>
 alc [.int .i64 0, .int .i64 0, .int .i64 0, .int .i64 0, .int .i64 0, .int .i64 0, .int .i64 0, .int .i64 0, .bool false] T.t40 w21 fun b23 w24 =>
 st1 (.int .i64 n22) ⟨b23, 0, none⟩ w24 fun w25 =>
 st1 (.int .i64 0) ⟨b23, 1, none⟩ w25 fun w26 =>
 st1 (.int .i64 0) ⟨b23, 2, none⟩ w26 fun w27 =>
 st1 (.int .i64 0) ⟨b23, 3, none⟩ w27 fun w28 =>
 st1 (.int .i64 0) ⟨b23, 4, none⟩ w28 fun w29 =>
 st1 (.int .i64 0) ⟨b23, 5, none⟩ w29 fun w30 =>
 st1 (.int .i64 0) ⟨b23, 6, none⟩ w30 fun w31 =>
 st1 (.int .i64 0) ⟨b23, 7, none⟩ w31 fun w32 =>
 st1 (.bool false) ⟨b23, 8, none⟩ w32 fun w33 =>
 ldI .i64 ⟨b23, 0, none⟩ w33 fun n34 =>
 ldI .i64 ⟨b23, 1, none⟩ w33 fun n35 =>
 ldI .i64 ⟨b23, 2, none⟩ w33 fun n36 =>
 ldI .i64 ⟨b23, 3, none⟩ w33 fun n37 =>
 ldI .i64 ⟨b23, 4, none⟩ w33 fun n38 =>
 ldI .i64 ⟨b23, 5, none⟩ w33 fun n39 =>
 ldI .i64 ⟨b23, 6, none⟩ w33 fun n40 =>
 ldI .i64 ⟨b23, 7, none⟩ w33 fun n41 =>
 ldB ⟨b23, 8, none⟩ w33 fun b42 =>
 CV P F.crierref16_Fields [.agg [.int .i64 n34, .int .i64 n35, .int .i64 n36, .int .i64 n37, .int .i64 n38, .int .i64 n39, .int .i64 n40, .int .i64 n41, .bool b42].toArray] w33 fun v43 w44 =>
 ∃ (p45 : Option Addr) (l46 c47 : Nat), ∃ b48 : Bool, v43 = .tuple [.slice p45 l46 c47, .bool b48].toArray ∧
 ldI .i64 ⟨b11, 0, none⟩ w44 fun n49 =>
 CV P F.crierref16_Known [.int .i64 n49] w44 fun v50 w51 =>
 ∃ b52 : Bool, v50 = .bool b52 ∧
 cnd (!b52)
 (st1 (.int .i64 0) ⟨b7, 0, none⟩ w51 fun w53 =>
 st1 (.int .i64 0) ⟨b7, 1, none⟩ w53 fun w54 =>
 st1 (.int .i64 0) ⟨b7, 2, none⟩ w54 fun w55 =>
 st1 (.int .i64 0) ⟨b7, 3, none⟩ w55 fun w56 =>
 st1 (.int .i64 0) ⟨b7, 4, none⟩ w56 fun w57 =>
 st1 (.int .i64 0) ⟨b7, 5, none⟩ w57 fun w58 =>
 st1 (.int .i64 0) ⟨b7, 6, none⟩ w58 fun w59 =>
 st1 (.int .i64 0) ⟨b7, 7, none⟩ w59 fun w60 =>
 st1 (.bool false) ⟨b7, 8, none⟩ w60 fun w61 =>
 ldI .i64 ⟨b7, 0, none⟩ w61 fun n62 =>
 ldI .i64 ⟨b7, 1, none⟩ w61 fun n63 =>
 ldI .i64 ⟨b7, 2, none⟩ w61 fun n64 =>
 ldI .i64 ⟨b7, 3, none⟩ w61 fun n65 =>
 ldI .i64 ⟨b7, 4, none⟩ w61 fun n66 =>
 ldI .i64 ⟨b7, 5, none⟩ w61 fun n67 =>
 ldI .i64 ⟨b7, 6, none⟩ w61 fun n68 =>
 ldI .i64 ⟨b7, 7, none⟩ w61 fun n69 =>
 ldB ⟨b7, 8, none⟩ w61 fun b70 =>
 Q (.tuple [.agg [.int .i64 n62, .int .i64 n63, .int .i64 n64, .int .i64 n65, .int .i64 n66, .int .i64 n67, .int .i64 n68, .int .i64 n69, .bool b70].toArray, .bool false].toArray) w61)
 (LoopT (fun (s212 : crierref16_Decode_L506.S) w213 A214 => crierref16_Decode_l4 Q b5 b7 b11 p45 l46 s212 w213 A214) ((0 : Int)) w51))
def crierref16_Decode_ann : Nat → Option LoopSpec := fun
  | 506 => some crierref16_Decode_L506
  | 32402 => some (ordSpec [0, 1, 2, 3, 4, 5, 6, 7, 8, 9])
  | 32403 => some crierref16_Decode_J32403
  | 259227 => some crierref16_Decode_J259227
  | 1036911 => some crierref16_Decode_J1036911
  | 510 => some crierref16_Decode_J510
  | _ => none
theorem crierref16_Decode_eq (a0_0 : Int) (a0_1 : Int) (a0_2 : Int) (a0_3 : Int) (w : World) (Q : Value → World → Prop) : fnX P crierref16_Decode_ann Try.f67 [.agg [.int .u64 a0_0, .int .u64 a0_1, .int .u64 a0_2, .int .u64 a0_3].toArray] w Q = crierref16_Decode a0_0 a0_1 a0_2 a0_3 w Q := by kernel_rfl
theorem crierref16_Decode_cv {a0_0 : Int} {a0_1 : Int} {a0_2 : Int} {a0_3 : Int} {w : World} {Q : Value → World → Prop} (h : crierref16_Decode a0_0 a0_1 a0_2 a0_3 w Q) : CV P F.crierref16_Decode [.agg [.int .u64 a0_0, .int .u64 a0_1, .int .u64 a0_2, .int .u64 a0_3].toArray] w Q := CV_of mixed Try.func67 (crierref16_Decode_eq a0_0 a0_1 a0_2 a0_3 w Q ▸ h)

/- 68 slices.Clone[[]byte,byte] -/

def slices_Clone__byte_byte (a0 : Option Addr) (a0_n : Nat) (a0_c : Nat) (w : World) (Q : Value → World → Prop) : Prop :=
 cnd (Option.isNone a0)
 (Q (.slice none 0 0) w)
 (alc [] T.t5 w fun b4 w5 =>
 runS P (Builtin.append_ #[T.t92, T.t92] T.t92 [.slice (some ⟨b4, 0, none⟩) 0 0, .slice a0 a0_n a0_c].toArray) w5 fun p6 l7 c8 w9 =>
 Q (.slice p6 l7 c8) w9)
def slices_Clone__byte_byte_ann : Nat → Option LoopSpec := fun _ => none
theorem slices_Clone__byte_byte_eq (a0 : Option Addr) (a0_n : Nat) (a0_c : Nat) (w : World) (Q : Value → World → Prop) : fnX P slices_Clone__byte_byte_ann Try.f68 [.slice a0 a0_n a0_c] w Q = slices_Clone__byte_byte a0 a0_n a0_c w Q := by kernel_rfl
theorem slices_Clone__byte_byte_cv {a0 : Option Addr} {a0_n : Nat} {a0_c : Nat} {w : World} {Q : Value → World → Prop} (h : slices_Clone__byte_byte a0 a0_n a0_c w Q) : CV P F.slices_Clone__byte_byte [.slice a0 a0_n a0_c] w Q := CV_of mixed Try.func68 (slices_Clone__byte_byte_eq a0 a0_n a0_c w Q ▸ h)

/- 69 crier/cmd.Known -/
def cmd_Known_J3 : LoopSpec where
  S := Bool
  emb := fun s => [(2, .bool s)]
  ext := fun t => match getL t 2 with
    | some (.bool y2) => some (y2)
    | _ => none
  slots := [2]
  fits := fun _ => rfl
  ok := by
    intro t s h x hx
    (try dsimp only at h hx)
    split at h
    · cases h
      simp only [List.mem_cons, List.not_mem_nil, or_false] at hx
      rcases hx with rfl <;> assumption
    · cases h

def cmd_Known_j0 (Q : Value → World → Prop) (b3 : Bool) (w4 : World) : Prop :=
 Q (.bool b3) w4

def cmd_Known (a0 : Int) (w : World) (Q : Value → World → Prop) : Prop :=
 JoinT (fun (J5 : cmd_Known_J3.S → World → Prop) =>
  cnd (a0 == 1)
  (J5 ((true : Bool)) w)
  (cnd (decide (a0 ≥ 3))
  (cnd (decide (a0 ≤ 5))
  (J5 ((true : Bool)) w)
  (cnd (decide (a0 ≥ 8))
  (J5 (((decide (a0 ≤ 15)) : Bool)) w)
  (J5 ((false : Bool)) w)))
  (cnd (decide (a0 ≥ 8))
  (J5 (((decide (a0 ≤ 15)) : Bool)) w)
  (J5 ((false : Bool)) w))))
  fun (s6 : cmd_Known_J3.S) w7 => cmd_Known_j0 Q s6 w7
def cmd_Known_ann : Nat → Option LoopSpec := fun
  | 3 => some cmd_Known_J3
  | _ => none
theorem cmd_Known_eq (a0 : Int) (w : World) (Q : Value → World → Prop) : fnX P cmd_Known_ann Try.f69 [.int .i64 a0] w Q = cmd_Known a0 w Q := by kernel_rfl
theorem cmd_Known_cv {a0 : Int} {w : World} {Q : Value → World → Prop} (h : cmd_Known a0 w Q) : CV P F.cmd_Known [.int .i64 a0] w Q := CV_of mixed Try.func69 (cmd_Known_eq a0 w Q ▸ h)

/- 70 crier/cmd.parted -/
def cmd_parted_J106 : LoopSpec where
  S := Bool
  emb := fun s => [(5, .bool s)]
  ext := fun t => match getL t 5 with
    | some (.bool y5) => some (y5)
    | _ => none
  slots := [5]
  fits := fun _ => rfl
  ok := by
    intro t s h x hx
    (try dsimp only at h hx)
    split at h
    · cases h
      simp only [List.mem_cons, List.not_mem_nil, or_false] at hx
      rcases hx with rfl <;> assumption
    · cases h

def cmd_parted_j0 (Q : Value → World → Prop) (b3 : Nat) (b6 : Bool) (w7 : World) : Prop :=
 ldI .i64 ⟨b3, 0, none⟩ w7 fun n8 =>
 ldI .i64 ⟨b3, 1, none⟩ w7 fun n9 =>
 ldI .i64 ⟨b3, 2, none⟩ w7 fun n10 =>
 Q (.tuple [.agg [.int .i64 n8, .int .i64 n9, .int .i64 n10].toArray, .bool b6].toArray) w7

def cmd_parted_J430 : LoopSpec where
  S := Bool
  emb := fun s => [(5, .bool s)]
  ext := fun t => match getL t 5 with
    | some (.bool y26) => some (y26)
    | _ => none
  slots := [5]
  fits := fun _ => rfl
  ok := by
    intro t s h x hx
    (try dsimp only at h hx)
    split at h
    · cases h
      simp only [List.mem_cons, List.not_mem_nil, or_false] at hx
      rcases hx with rfl <;> assumption
    · cases h

def cmd_parted_j1 (Q : Value → World → Prop) (b3 : Nat) (b27 : Bool) (w28 : World) : Prop :=
 ldI .i64 ⟨b3, 0, none⟩ w28 fun n29 =>
 ldI .i64 ⟨b3, 1, none⟩ w28 fun n30 =>
 ldI .i64 ⟨b3, 2, none⟩ w28 fun n31 =>
 Q (.tuple [.agg [.int .i64 n29, .int .i64 n30, .int .i64 n31].toArray, .bool b27].toArray) w28

def cmd_parted_J6910 : LoopSpec where
  S := Bool
  emb := fun s => [(5, .bool s)]
  ext := fun t => match getL t 5 with
    | some (.bool y68) => some (y68)
    | _ => none
  slots := [5]
  fits := fun _ => rfl
  ok := by
    intro t s h x hx
    (try dsimp only at h hx)
    split at h
    · cases h
      simp only [List.mem_cons, List.not_mem_nil, or_false] at hx
      rcases hx with rfl <;> assumption
    · cases h

def cmd_parted_j2 (Q : Value → World → Prop) (b3 : Nat) (b69 : Bool) (w70 : World) : Prop :=
 ldI .i64 ⟨b3, 0, none⟩ w70 fun n71 =>
 ldI .i64 ⟨b3, 1, none⟩ w70 fun n72 =>
 ldI .i64 ⟨b3, 2, none⟩ w70 fun n73 =>
 Q (.tuple [.agg [.int .i64 n71, .int .i64 n72, .int .i64 n73].toArray, .bool b69].toArray) w70

def cmd_parted_J27646 : LoopSpec where
  S := Bool
  emb := fun s => [(5, .bool s)]
  ext := fun t => match getL t 5 with
    | some (.bool y92) => some (y92)
    | _ => none
  slots := [5]
  fits := fun _ => rfl
  ok := by
    intro t s h x hx
    (try dsimp only at h hx)
    split at h
    · cases h
      simp only [List.mem_cons, List.not_mem_nil, or_false] at hx
      rcases hx with rfl <;> assumption
    · cases h

def cmd_parted_j3 (Q : Value → World → Prop) (b3 : Nat) (b93 : Bool) (w94 : World) : Prop :=
 ldI .i64 ⟨b3, 0, none⟩ w94 fun n95 =>
 ldI .i64 ⟨b3, 1, none⟩ w94 fun n96 =>
 ldI .i64 ⟨b3, 2, none⟩ w94 fun n97 =>
 Q (.tuple [.agg [.int .i64 n95, .int .i64 n96, .int .i64 n97].toArray, .bool b93].toArray) w94

def cmd_parted_J7 : LoopSpec where
  S := Bool
  emb := fun s => [(5, .bool s)]
  ext := fun t => match getL t 5 with
    | some (.bool y122) => some (y122)
    | _ => none
  slots := [5]
  fits := fun _ => rfl
  ok := by
    intro t s h x hx
    (try dsimp only at h hx)
    split at h
    · cases h
      simp only [List.mem_cons, List.not_mem_nil, or_false] at hx
      rcases hx with rfl <;> assumption
    · cases h

def cmd_parted_j4 (Q : Value → World → Prop) (b3 : Nat) (b123 : Bool) (w124 : World) : Prop :=
 ldI .i64 ⟨b3, 0, none⟩ w124 fun n125 =>
 ldI .i64 ⟨b3, 1, none⟩ w124 fun n126 =>
 ldI .i64 ⟨b3, 2, none⟩ w124 fun n127 =>
 Q (.tuple [.agg [.int .i64 n125, .int .i64 n126, .int .i64 n127].toArray, .bool b123].toArray) w124

def cmd_parted (a0 : Int) (a1 : Int) (w : World) (Q : Value → World → Prop) : Prop :=
 alc [.int .i64 0, .int .i64 0, .int .i64 0] T.t124 w fun b3 w4 =>
 cnd (a1 == 0)
 (JoinT (fun (J11 : cmd_parted_J106.S → World → Prop) =>
  cnd (a0 != 9)
  (cnd (a0 != 13)
  (cnd (a0 != 14)
  (st1 (.int .i64 0) ⟨b3, 0, none⟩ w4 fun w12 =>
  st1 (.int .i64 32) ⟨b3, 1, none⟩ w12 fun w13 =>
  st1 (.int .i64 32) ⟨b3, 2, none⟩ w13 fun w14 =>
  J11 (((a0 != 5) : Bool)) w14)
  (st1 (.int .i64 0) ⟨b3, 0, none⟩ w4 fun w15 =>
  st1 (.int .i64 32) ⟨b3, 1, none⟩ w15 fun w16 =>
  st1 (.int .i64 32) ⟨b3, 2, none⟩ w16 fun w17 =>
  J11 ((false : Bool)) w17))
  (st1 (.int .i64 0) ⟨b3, 0, none⟩ w4 fun w18 =>
  st1 (.int .i64 32) ⟨b3, 1, none⟩ w18 fun w19 =>
  st1 (.int .i64 32) ⟨b3, 2, none⟩ w19 fun w20 =>
  J11 ((false : Bool)) w20))
  (st1 (.int .i64 0) ⟨b3, 0, none⟩ w4 fun w21 =>
  st1 (.int .i64 32) ⟨b3, 1, none⟩ w21 fun w22 =>
  st1 (.int .i64 32) ⟨b3, 2, none⟩ w22 fun w23 =>
  J11 ((false : Bool)) w23))
  fun (s24 : cmd_parted_J106.S) w25 => cmd_parted_j0 Q b3 s24 w25)
 (cnd (a1 == 1)
 (JoinT (fun (J32 : cmd_parted_J430.S → World → Prop) =>
  cnd (a0 == 10)
  (st1 (.int .i64 1) ⟨b3, 0, none⟩ w4 fun w33 =>
  st1 (.int .i64 0) ⟨b3, 1, none⟩ w33 fun w34 =>
  st1 (.int .i64 32) ⟨b3, 2, none⟩ w34 fun w35 =>
  J32 ((true : Bool)) w35)
  (cnd (a0 == 11)
  (st1 (.int .i64 1) ⟨b3, 0, none⟩ w4 fun w36 =>
  st1 (.int .i64 0) ⟨b3, 1, none⟩ w36 fun w37 =>
  st1 (.int .i64 32) ⟨b3, 2, none⟩ w37 fun w38 =>
  J32 ((true : Bool)) w38)
  (cnd (a0 == 1)
  (st1 (.int .i64 1) ⟨b3, 0, none⟩ w4 fun w39 =>
  st1 (.int .i64 0) ⟨b3, 1, none⟩ w39 fun w40 =>
  st1 (.int .i64 32) ⟨b3, 2, none⟩ w40 fun w41 =>
  J32 ((true : Bool)) w41)
  (cnd (a0 == 3)
  (st1 (.int .i64 1) ⟨b3, 0, none⟩ w4 fun w42 =>
  st1 (.int .i64 0) ⟨b3, 1, none⟩ w42 fun w43 =>
  st1 (.int .i64 32) ⟨b3, 2, none⟩ w43 fun w44 =>
  J32 ((true : Bool)) w44)
  (cnd (a0 == 4)
  (st1 (.int .i64 1) ⟨b3, 0, none⟩ w4 fun w45 =>
  st1 (.int .i64 0) ⟨b3, 1, none⟩ w45 fun w46 =>
  st1 (.int .i64 32) ⟨b3, 2, none⟩ w46 fun w47 =>
  J32 ((true : Bool)) w47)
  (cnd (a0 == 12)
  (st1 (.int .i64 1) ⟨b3, 0, none⟩ w4 fun w48 =>
  st1 (.int .i64 0) ⟨b3, 1, none⟩ w48 fun w49 =>
  st1 (.int .i64 32) ⟨b3, 2, none⟩ w49 fun w50 =>
  J32 ((true : Bool)) w50)
  (st1 (.int .i64 1) ⟨b3, 0, none⟩ w4 fun w51 =>
  st1 (.int .i64 0) ⟨b3, 1, none⟩ w51 fun w52 =>
  st1 (.int .i64 32) ⟨b3, 2, none⟩ w52 fun w53 =>
  J32 (((a0 == 15) : Bool)) w53)))))))
  fun (s54 : cmd_parted_J430.S) w55 => cmd_parted_j1 Q b3 s54 w55)
 (cnd (a1 == 2)
 (cnd (a0 == 14)
 (st1 (.int .i64 3) ⟨b3, 0, none⟩ w4 fun w56 =>
 st1 (.int .i64 16) ⟨b3, 1, none⟩ w56 fun w57 =>
 st1 (.int .i64 16) ⟨b3, 2, none⟩ w57 fun w58 =>
 ldI .i64 ⟨b3, 0, none⟩ w58 fun n59 =>
 ldI .i64 ⟨b3, 1, none⟩ w58 fun n60 =>
 ldI .i64 ⟨b3, 2, none⟩ w58 fun n61 =>
 Q (.tuple [.agg [.int .i64 n59, .int .i64 n60, .int .i64 n61].toArray, .bool true].toArray) w58)
 (st1 (.int .i64 1) ⟨b3, 0, none⟩ w4 fun w62 =>
 st1 (.int .i64 32) ⟨b3, 1, none⟩ w62 fun w63 =>
 st1 (.int .i64 32) ⟨b3, 2, none⟩ w63 fun w64 =>
 ldI .i64 ⟨b3, 0, none⟩ w64 fun n65 =>
 ldI .i64 ⟨b3, 1, none⟩ w64 fun n66 =>
 ldI .i64 ⟨b3, 2, none⟩ w64 fun n67 =>
 Q (.tuple [.agg [.int .i64 n65, .int .i64 n66, .int .i64 n67].toArray, .bool (a0 == 10)].toArray) w64))
 (cnd (a1 == 3)
 (JoinT (fun (J74 : cmd_parted_J6910.S → World → Prop) =>
  cnd (a0 == 9)
  (st1 (.int .i64 2) ⟨b3, 0, none⟩ w4 fun w75 =>
  st1 (.int .i64 0) ⟨b3, 1, none⟩ w75 fun w76 =>
  st1 (.int .i64 16) ⟨b3, 2, none⟩ w76 fun w77 =>
  J74 ((true : Bool)) w77)
  (cnd (a0 == 10)
  (st1 (.int .i64 2) ⟨b3, 0, none⟩ w4 fun w78 =>
  st1 (.int .i64 0) ⟨b3, 1, none⟩ w78 fun w79 =>
  st1 (.int .i64 16) ⟨b3, 2, none⟩ w79 fun w80 =>
  J74 ((true : Bool)) w80)
  (cnd (a0 == 11)
  (st1 (.int .i64 2) ⟨b3, 0, none⟩ w4 fun w81 =>
  st1 (.int .i64 0) ⟨b3, 1, none⟩ w81 fun w82 =>
  st1 (.int .i64 16) ⟨b3, 2, none⟩ w82 fun w83 =>
  J74 ((true : Bool)) w83)
  (cnd (a0 == 1)
  (st1 (.int .i64 2) ⟨b3, 0, none⟩ w4 fun w84 =>
  st1 (.int .i64 0) ⟨b3, 1, none⟩ w84 fun w85 =>
  st1 (.int .i64 16) ⟨b3, 2, none⟩ w85 fun w86 =>
  J74 ((true : Bool)) w86)
  (st1 (.int .i64 2) ⟨b3, 0, none⟩ w4 fun w87 =>
  st1 (.int .i64 0) ⟨b3, 1, none⟩ w87 fun w88 =>
  st1 (.int .i64 16) ⟨b3, 2, none⟩ w88 fun w89 =>
  J74 (((a0 == 13) : Bool)) w89)))))
  fun (s90 : cmd_parted_J6910.S) w91 => cmd_parted_j2 Q b3 s90 w91)
 (cnd (a1 == 4)
 (JoinT (fun (J98 : cmd_parted_J27646.S → World → Prop) =>
  cnd (a0 == 9)
  (st1 (.int .i64 2) ⟨b3, 0, none⟩ w4 fun w99 =>
  st1 (.int .i64 16) ⟨b3, 1, none⟩ w99 fun w100 =>
  st1 (.int .i64 16) ⟨b3, 2, none⟩ w100 fun w101 =>
  J98 ((true : Bool)) w101)
  (cnd (a0 == 14)
  (st1 (.int .i64 2) ⟨b3, 0, none⟩ w4 fun w102 =>
  st1 (.int .i64 16) ⟨b3, 1, none⟩ w102 fun w103 =>
  st1 (.int .i64 16) ⟨b3, 2, none⟩ w103 fun w104 =>
  J98 ((true : Bool)) w104)
  (st1 (.int .i64 2) ⟨b3, 0, none⟩ w4 fun w105 =>
  st1 (.int .i64 16) ⟨b3, 1, none⟩ w105 fun w106 =>
  st1 (.int .i64 16) ⟨b3, 2, none⟩ w106 fun w107 =>
  J98 (((a0 == 5) : Bool)) w107)))
  fun (s108 : cmd_parted_J27646.S) w109 => cmd_parted_j3 Q b3 s108 w109)
 (cnd (a1 == 5)
 (st1 (.int .i64 1) ⟨b3, 0, none⟩ w4 fun w110 =>
 st1 (.int .i64 0) ⟨b3, 1, none⟩ w110 fun w111 =>
 st1 (.int .i64 5) ⟨b3, 2, none⟩ w111 fun w112 =>
 ldI .i64 ⟨b3, 0, none⟩ w112 fun n113 =>
 ldI .i64 ⟨b3, 1, none⟩ w112 fun n114 =>
 ldI .i64 ⟨b3, 2, none⟩ w112 fun n115 =>
 Q (.tuple [.agg [.int .i64 n113, .int .i64 n114, .int .i64 n115].toArray, .bool (a0 == 8)].toArray) w112)
 (cnd (a1 == 6)
 (st1 (.int .i64 2) ⟨b3, 0, none⟩ w4 fun w116 =>
 st1 (.int .i64 8) ⟨b3, 1, none⟩ w116 fun w117 =>
 st1 (.int .i64 40) ⟨b3, 2, none⟩ w117 fun w118 =>
 ldI .i64 ⟨b3, 0, none⟩ w118 fun n119 =>
 ldI .i64 ⟨b3, 1, none⟩ w118 fun n120 =>
 ldI .i64 ⟨b3, 2, none⟩ w118 fun n121 =>
 Q (.tuple [.agg [.int .i64 n119, .int .i64 n120, .int .i64 n121].toArray, .bool (a0 == 8)].toArray) w118)
 (JoinT (fun (J128 : cmd_parted_J7.S → World → Prop) =>
  cnd (a0 == 8)
  (st1 (.int .i64 2) ⟨b3, 0, none⟩ w4 fun w129 =>
  st1 (.int .i64 63) ⟨b3, 1, none⟩ w129 fun w130 =>
  st1 (.int .i64 1) ⟨b3, 2, none⟩ w130 fun w131 =>
  J128 ((true : Bool)) w131)
  (st1 (.int .i64 2) ⟨b3, 0, none⟩ w4 fun w132 =>
  st1 (.int .i64 63) ⟨b3, 1, none⟩ w132 fun w133 =>
  st1 (.int .i64 1) ⟨b3, 2, none⟩ w133 fun w134 =>
  J128 (((a0 == 9) : Bool)) w134))
  fun (s135 : cmd_parted_J7.S) w136 => cmd_parted_j4 Q b3 s135 w136)))))))
def cmd_parted_ann : Nat → Option LoopSpec := fun
  | 106 => some cmd_parted_J106
  | 430 => some cmd_parted_J430
  | 6910 => some cmd_parted_J6910
  | 27646 => some cmd_parted_J27646
  | 7 => some cmd_parted_J7
  | _ => none
theorem cmd_parted_eq (a0 : Int) (a1 : Int) (w : World) (Q : Value → World → Prop) : fnX P cmd_parted_ann Try.f70 [.int .i64 a0, .int .i64 a1] w Q = cmd_parted a0 a1 w Q := by kernel_rfl
theorem cmd_parted_cv {a0 : Int} {a1 : Int} {w : World} {Q : Value → World → Prop} (h : cmd_parted a0 a1 w Q) : CV P F.cmd_parted [.int .i64 a0, .int .i64 a1] w Q := CV_of mixed Try.func70 (cmd_parted_eq a0 a1 w Q ▸ h)

/- 71 crier/cmd.get -/

def cmd_get (a0_0 : Int) (a0_1 : Int) (a0_2 : Int) (a0_3 : Int) (a0_4 : Int) (a0_5 : Int) (a0_6 : Int) (a0_7 : Int) (a0_8 : Bool) (a1 : Int) (w : World) (Q : Value → World → Prop) : Prop :=
 alc [.int .i64 a0_0, .int .i64 a0_1, .int .i64 a0_2, .int .i64 a0_3, .int .i64 a0_4, .int .i64 a0_5, .int .i64 a0_6, .int .i64 a0_7, .bool a0_8] T.t40 w fun b11 w12 =>
 cnd (a1 == 0)
 (ldI .i64 ⟨b11, 1, none⟩ w12 fun n13 =>
 Q (.int .i64 n13) w12)
 (cnd (a1 == 1)
 (ldI .i64 ⟨b11, 2, none⟩ w12 fun n14 =>
 Q (.int .i64 n14) w12)
 (cnd (a1 == 2)
 (ldI .i64 ⟨b11, 3, none⟩ w12 fun n15 =>
 Q (.int .i64 n15) w12)
 (cnd (a1 == 3)
 (ldI .i64 ⟨b11, 4, none⟩ w12 fun n16 =>
 Q (.int .i64 n16) w12)
 (cnd (a1 == 4)
 (ldI .i64 ⟨b11, 5, none⟩ w12 fun n17 =>
 Q (.int .i64 n17) w12)
 (cnd (a1 == 5)
 (ldI .i64 ⟨b11, 6, none⟩ w12 fun n18 =>
 Q (.int .i64 n18) w12)
 (cnd (a1 == 6)
 (ldI .i64 ⟨b11, 7, none⟩ w12 fun n19 =>
 (nng 8 <|
 Q (.int .i64 (Int.fdiv n19 (2 ^ min (Int.toNat 8) (IntKind.i64.bits)))) w12))
 (ldB ⟨b11, 8, none⟩ w12 fun b20 =>
 cnd b20
 (Q (.int .i64 1) w12)
 (Q (.int .i64 0) w12))))))))
def cmd_get_ann : Nat → Option LoopSpec := fun _ => none
theorem cmd_get_eq (a0_0 : Int) (a0_1 : Int) (a0_2 : Int) (a0_3 : Int) (a0_4 : Int) (a0_5 : Int) (a0_6 : Int) (a0_7 : Int) (a0_8 : Bool) (a1 : Int) (w : World) (Q : Value → World → Prop) : fnX P cmd_get_ann Try.f71 [.agg [.int .i64 a0_0, .int .i64 a0_1, .int .i64 a0_2, .int .i64 a0_3, .int .i64 a0_4, .int .i64 a0_5, .int .i64 a0_6, .int .i64 a0_7, .bool a0_8].toArray, .int .i64 a1] w Q = cmd_get a0_0 a0_1 a0_2 a0_3 a0_4 a0_5 a0_6 a0_7 a0_8 a1 w Q := by kernel_rfl
theorem cmd_get_cv {a0_0 : Int} {a0_1 : Int} {a0_2 : Int} {a0_3 : Int} {a0_4 : Int} {a0_5 : Int} {a0_6 : Int} {a0_7 : Int} {a0_8 : Bool} {a1 : Int} {w : World} {Q : Value → World → Prop} (h : cmd_get a0_0 a0_1 a0_2 a0_3 a0_4 a0_5 a0_6 a0_7 a0_8 a1 w Q) : CV P F.cmd_get [.agg [.int .i64 a0_0, .int .i64 a0_1, .int .i64 a0_2, .int .i64 a0_3, .int .i64 a0_4, .int .i64 a0_5, .int .i64 a0_6, .int .i64 a0_7, .bool a0_8].toArray, .int .i64 a1] w Q := CV_of mixed Try.func71 (cmd_get_eq a0_0 a0_1 a0_2 a0_3 a0_4 a0_5 a0_6 a0_7 a0_8 a1 w Q ▸ h)

/- 72 crier/cmd.put -/
def cmd_put_J3 : LoopSpec where
  S := Unit
  emb := fun _ => []
  ext := fun _ => some ()
  slots := []
  fits := fun _ => rfl
  ok := by
    intro t s h x hx; cases hx

def cmd_put_j0 (Q : Value → World → Prop) (w4 : World) : Prop :=
 Q (.tuple [].toArray) w4

def cmd_put (a0 : Option Addr) (a1 : Int) (a2 : Int) (w : World) (Q : Value → World → Prop) : Prop :=
 JoinT (fun (J5 : cmd_put_J3.S → World → Prop) =>
  cnd (a1 == 0)
  (nn a0 fun a6 =>
  st1 (.int .i64 a2) (a6.add 1) w fun w7 =>
  J5 () w7)
  (cnd (a1 == 1)
  (nn a0 fun a8 =>
  st1 (.int .i64 a2) (a8.add 2) w fun w9 =>
  J5 () w9)
  (cnd (a1 == 2)
  (nn a0 fun a10 =>
  st1 (.int .i64 a2) (a10.add 3) w fun w11 =>
  J5 () w11)
  (cnd (a1 == 3)
  (nn a0 fun a12 =>
  st1 (.int .i64 a2) (a12.add 4) w fun w13 =>
  J5 () w13)
  (cnd (a1 == 4)
  (nn a0 fun a14 =>
  st1 (.int .i64 a2) (a14.add 5) w fun w15 =>
  J5 () w15)
  (cnd (a1 == 5)
  (nn a0 fun a16 =>
  st1 (.int .i64 a2) (a16.add 6) w fun w17 =>
  J5 () w17)
  (cnd (a1 == 6)
  ((nng 8 <|
  nn a0 fun a18 =>
  st1 (.int .i64 (IntKind.i64.wrap (a2 * 2 ^ min (Int.toNat 8) (IntKind.i64.bits)))) (a18.add 7) w fun w19 =>
  J5 () w19))
  (nn a0 fun a20 =>
  st1 (.bool (a2 == 1)) (a20.add 8) w fun w21 =>
  J5 () w21))))))))
  fun (s22 : cmd_put_J3.S) w23 => cmd_put_j0 Q w23
def cmd_put_ann : Nat → Option LoopSpec := fun
  | 3 => some cmd_put_J3
  | _ => none
theorem cmd_put_eq (a0 : Option Addr) (a1 : Int) (a2 : Int) (w : World) (Q : Value → World → Prop) : fnX P cmd_put_ann Try.f72 [.pointer a0, .int .i64 a1, .int .i64 a2] w Q = cmd_put a0 a1 a2 w Q := by kernel_rfl
theorem cmd_put_cv {a0 : Option Addr} {a1 : Int} {a2 : Int} {w : World} {Q : Value → World → Prop} (h : cmd_put a0 a1 a2 w Q) : CV P F.cmd_put [.pointer a0, .int .i64 a1, .int .i64 a2] w Q := CV_of mixed Try.func72 (cmd_put_eq a0 a1 a2 w Q ▸ h)

/- 73 crier/crierref02.Index -/
def crierref02_Index_L58 : LoopSpec where
  S := Int
  emb := fun s => [(7, .int .i64 s)]
  ext := fun t => match getL t 7 with
    | some (.int .i64 y7) => some (y7)
    | _ => none
  slots := [7]
  fits := fun _ => rfl
  ok := by
    intro t s h x hx
    (try dsimp only at h hx)
    split at h
    · cases h
      simp only [List.mem_cons, List.not_mem_nil, or_false] at hx
      rcases hx with rfl <;> assumption
    · cases h

def crierref02_Index_l0 (a0 : Int) (a1 : Int) (a2 : Int) (Q : Value → World → Prop) (n8 : Int) (w9 : World) (A10 : crierref02_Index_L58.S → World → Prop) : Prop :=
 (nz a1 <|
 cnd (decide (n8 < (IntKind.i64.wrap (Int.tdiv a0 a1))))
 (cnd ((IntKind.i64.wrap (n8 * a1)) == a2)
 (Q (.int .i64 n8) w9)
 (A10 (((IntKind.i64.wrap (n8 + 1)) : Int)) w9))
 (Q (.int .i64 (-1)) w9))

def crierref02_Index (a0 : Int) (a1 : Int) (a2 : Int) (w : World) (Q : Value → World → Prop) : Prop :=
 CV P F.crierref02_Right [.int .i64 a0, .int .i64 a1] w fun v4 w5 =>
 ∃ b6 : Bool, v4 = .bool b6 ∧
 cnd (!b6)
 (Q (.int .i64 (-1)) w5)
 (LoopT (fun (s11 : crierref02_Index_L58.S) w12 A13 => crierref02_Index_l0 a0 a1 a2 Q s11 w12 A13) ((0 : Int)) w5)
def crierref02_Index_ann : Nat → Option LoopSpec := fun
  | 58 => some crierref02_Index_L58
  | _ => none
theorem crierref02_Index_eq (a0 : Int) (a1 : Int) (a2 : Int) (w : World) (Q : Value → World → Prop) : fnX P crierref02_Index_ann Try.f73 [.int .i64 a0, .int .i64 a1, .int .i64 a2] w Q = crierref02_Index a0 a1 a2 w Q := by kernel_rfl
theorem crierref02_Index_cv {a0 : Int} {a1 : Int} {a2 : Int} {w : World} {Q : Value → World → Prop} (h : crierref02_Index a0 a1 a2 w Q) : CV P F.crierref02_Index [.int .i64 a0, .int .i64 a1, .int .i64 a2] w Q := CV_of mixed Try.func73 (crierref02_Index_eq a0 a1 a2 w Q ▸ h)

/- 74 crier/crierref16.part -/

def crierref16_part (a0 : Int) (a1 : Int) (a2 : Int) (w : World) (Q : Value → World → Prop) : Prop :=
 drw w fun w4 =>
 (nng a1 <|
 (nng a2 <|
 (nz (IntKind.u64.wrap (1 * 2 ^ min (Int.toNat a2) (IntKind.u64.bits))) <|
 Q (.int .i64 (IntKind.i64.wrap ((Int.tmod (Int.fdiv a0 (2 ^ min (Int.toNat a1) (IntKind.u64.bits))) (IntKind.u64.wrap (1 * 2 ^ min (Int.toNat a2) (IntKind.u64.bits))))))) w4)))
def crierref16_part_ann : Nat → Option LoopSpec := fun
  | 6 => some (ordSpec [0, 1, 2, 3, 4, 5, 6, 7])
  | _ => none
theorem crierref16_part_eq (a0 : Int) (a1 : Int) (a2 : Int) (w : World) (Q : Value → World → Prop) : fnX P crierref16_part_ann Try.f74 [.int .u64 a0, .int .i64 a1, .int .i64 a2] w Q = crierref16_part a0 a1 a2 w Q := by kernel_rfl
theorem crierref16_part_cv {a0 : Int} {a1 : Int} {a2 : Int} {w : World} {Q : Value → World → Prop} (h : crierref16_part a0 a1 a2 w Q) : CV P F.crierref16_part [.int .u64 a0, .int .i64 a1, .int .i64 a2] w Q := CV_of mixed Try.func74 (crierref16_part_eq a0 a1 a2 w Q ▸ h)

/- 75 crier/crierref02.Right -/
def crierref02_Right_J6 : LoopSpec where
  S := Bool
  emb := fun s => [(11, .bool s)]
  ext := fun t => match getL t 11 with
    | some (.bool y3) => some (y3)
    | _ => none
  slots := [11]
  fits := fun _ => rfl
  ok := by
    intro t s h x hx
    (try dsimp only at h hx)
    split at h
    · cases h
      simp only [List.mem_cons, List.not_mem_nil, or_false] at hx
      rcases hx with rfl <;> assumption
    · cases h

def crierref02_Right_J7 : LoopSpec where
  S := Bool
  emb := fun s => [(4, .bool s)]
  ext := fun t => match getL t 4 with
    | some (.bool y6) => some (y6)
    | _ => none
  slots := [4]
  fits := fun _ => rfl
  ok := by
    intro t s h x hx
    (try dsimp only at h hx)
    split at h
    · cases h
      simp only [List.mem_cons, List.not_mem_nil, or_false] at hx
      rcases hx with rfl <;> assumption
    · cases h

def crierref02_Right_j0 (Q : Value → World → Prop) (b7 : Bool) (w8 : World) : Prop :=
 Q (.bool b7) w8

def crierref02_Right_j1 (a0 : Int) (a1 : Int) (Q : Value → World → Prop) (b4 : Bool) (w5 : World) : Prop :=
 cnd b4
 (Q (.bool false) w5)
 (JoinT (fun (J9 : crierref02_Right_J7.S → World → Prop) =>
  (nz a1 <|
  cnd ((Int.tmod a0 a1) == 0)
  ((nz a1 <|
  J9 (((decide ((IntKind.i64.wrap (Int.tdiv a0 a1)) ≤ 1024)) : Bool)) w5))
  (J9 ((false : Bool)) w5)))
  fun (s10 : crierref02_Right_J7.S) w11 => crierref02_Right_j0 Q s10 w11)

def crierref02_Right (a0 : Int) (a1 : Int) (w : World) (Q : Value → World → Prop) : Prop :=
 JoinT (fun (J12 : crierref02_Right_J6.S → World → Prop) =>
  cnd (decide (a1 < 1))
  (J12 ((true : Bool)) w)
  (J12 (((decide (a0 < a1)) : Bool)) w))
  fun (s13 : crierref02_Right_J6.S) w14 => crierref02_Right_j1 a0 a1 Q s13 w14
def crierref02_Right_ann : Nat → Option LoopSpec := fun
  | 6 => some crierref02_Right_J6
  | 7 => some crierref02_Right_J7
  | _ => none
theorem crierref02_Right_eq (a0 : Int) (a1 : Int) (w : World) (Q : Value → World → Prop) : fnX P crierref02_Right_ann Try.f75 [.int .i64 a0, .int .i64 a1] w Q = crierref02_Right a0 a1 w Q := by kernel_rfl
theorem crierref02_Right_cv {a0 : Int} {a1 : Int} {w : World} {Q : Value → World → Prop} (h : crierref02_Right a0 a1 w Q) : CV P F.crierref02_Right [.int .i64 a0, .int .i64 a1] w Q := CV_of mixed Try.func75 (crierref02_Right_eq a0 a1 w Q ▸ h)
end Go.Proofs.Ytggchklafbpgpaa
