/-
  The functions' words, printed by Gen.lean out of the translation.
-/
import Derived.Test.YtggchklafbpgpaaFn0
namespace Go.Proofs.Ytggchklafbpgpaa
open Go X
set_option maxRecDepth 100000
set_option linter.unusedVariables false
/- 19 crier/crierref16.Encode -/
def crierref16_Encode_J14 : LoopSpec where
  S := Bool
  emb := fun s => [(21, .bool s)]
  ext := fun t => match getL t 21 with
    | some (.bool y29) => some (y29)
    | _ => none
  slots := [21]
  fits := fun _ => rfl
  ok := by
    intro t s h x hx
    (try dsimp only at h hx)
    split at h
    · cases h
      simp only [List.mem_cons, List.not_mem_nil, or_false] at hx
      rcases hx with rfl <;> assumption
    · cases h

def crierref16_Encode_L250 : LoopSpec where
  S := Int
  emb := fun s => [(7, .int .i64 s)]
  ext := fun t => match getL t 7 with
    | some (.int .i64 y47) => some (y47)
    | _ => none
  slots := [7]
  fits := fun _ => rfl
  ok := by
    intro t s h x hx
    (try dsimp only at h hx)
    split at h
    · cases h
      simp only [List.mem_cons, List.not_mem_nil, or_false] at hx
      rcases hx with rfl <;> assumption
    · cases h

def crierref16_Encode_J16018 : LoopSpec where
  S := Bool
  emb := fun s => [(47, .bool s)]
  ext := fun t => match getL t 47 with
    | some (.bool y63) => some (y63)
    | _ => none
  slots := [47]
  fits := fun _ => rfl
  ok := by
    intro t s h x hx
    (try dsimp only at h hx)
    split at h
    · cases h
      simp only [List.mem_cons, List.not_mem_nil, or_false] at hx
      rcases hx with rfl <;> assumption
    · cases h

def crierref16_Encode_j0 (Q : Value → World → Prop) (b12 : Nat) (b41 : Nat) (n48 : Int) (A50 : crierref16_Encode_L250.S → World → Prop) (b57 : Nat) (b64 : Bool) (w65 : World) : Prop :=
 cnd b64
 (st1 (.int .u64 0) ⟨b12, 0, none⟩ w65 fun w66 =>
 st1 (.int .u64 0) ⟨b12, 1, none⟩ w66 fun w67 =>
 st1 (.int .u64 0) ⟨b12, 2, none⟩ w67 fun w68 =>
 st1 (.int .u64 0) ⟨b12, 3, none⟩ w68 fun w69 =>
 ldI .u64 ⟨b12, 0, none⟩ w69 fun n70 =>
 ldI .u64 ⟨b12, 1, none⟩ w69 fun n71 =>
 ldI .u64 ⟨b12, 2, none⟩ w69 fun n72 =>
 ldI .u64 ⟨b12, 3, none⟩ w69 fun n73 =>
 Q (.tuple [.agg [.int .u64 n70, .int .u64 n71, .int .u64 n72, .int .u64 n73].toArray, .bool false].toArray) w69)
 (drw w65 fun w74 =>
 ldI .i64 ⟨b57, 0, none⟩ w74 fun n75 =>
 ldI .i64 ⟨b57, 0, none⟩ w74 fun n76 =>
 ix n76 4 fun j77 =>
 ldI .u64 (Addr.add ⟨b41, 0, none⟩ (j77 * 1)) w74 fun n78 =>
 ldI .i64 ⟨b57, 3, none⟩ w74 fun n79 =>
 ldI .i64 ⟨b57, 1, none⟩ w74 fun n80 =>
 (nng n80 <|
 ix n75 4 fun j81 =>
 st1 (.int .u64 (IntKind.u64.wrap (n78 + (IntKind.u64.wrap ((IntKind.u64.wrap (n79)) * 2 ^ min (Int.toNat n80) (IntKind.u64.bits)))))) (Addr.add ⟨b41, 0, none⟩ (j81 * 1)) w74 fun w82 =>
 A50 (((IntKind.i64.wrap (n48 + 1)) : Int)) w82))

def crierref16_Encode_l1 (Q : Value → World → Prop) (b12 : Nat) (p25 : Option Addr) (l26 : Nat) (b41 : Nat) (n48 : Int) (w49 : World) (A50 : crierref16_Encode_L250.S → World → Prop) : Prop :=
 cnd (decide (n48 < ((l26 : Nat) : Int)))
 (ix n48 l26 fun j51 => nn p25 fun a52 =>
 ldI .i64 (a52.add (j51 * 4)) w49 fun n53 =>
 ldI .i64 ((a52.add (j51 * 4)).add 1) w49 fun n54 =>
 ldI .i64 ((a52.add (j51 * 4)).add 2) w49 fun n55 =>
 ldI .i64 ((a52.add (j51 * 4)).add 3) w49 fun n56 =>
 alc [.int .i64 0, .int .i64 0, .int .i64 0, .int .i64 0] T.t91 w49 fun b57 w58 =>
 st1 (.int .i64 n53) ⟨b57, 0, none⟩ w58 fun w59 =>
 st1 (.int .i64 n54) ⟨b57, 1, none⟩ w59 fun w60 =>
 st1 (.int .i64 n55) ⟨b57, 2, none⟩ w60 fun w61 =>
 st1 (.int .i64 n56) ⟨b57, 3, none⟩ w61 fun w62 =>
 JoinT (fun (J83 : crierref16_Encode_J16018.S → World → Prop) =>
  drw w62 fun w84 =>
  ldI .i64 ⟨b57, 3, none⟩ w84 fun n85 =>
  cnd (decide (n85 < 0))
  (J83 ((true : Bool)) w84)
  (ldI .i64 ⟨b57, 3, none⟩ w84 fun n86 =>
  ldI .i64 ⟨b57, 2, none⟩ w84 fun n87 =>
  (nng n87 <|
  J83 (((decide (n86 ≥ (IntKind.i64.wrap (1 * 2 ^ min (Int.toNat n87) (IntKind.i64.bits))))) : Bool)) w84)))
  fun (s88 : crierref16_Encode_J16018.S) w89 => crierref16_Encode_j0 Q b12 b41 n48 A50 b57 s88 w89)
 (ldI .u64 ⟨b41, 0, none⟩ w49 fun n90 =>
 ldI .u64 ⟨b41, 1, none⟩ w49 fun n91 =>
 ldI .u64 ⟨b41, 2, none⟩ w49 fun n92 =>
 ldI .u64 ⟨b41, 3, none⟩ w49 fun n93 =>
 st1 (.int .u64 n90) ⟨b12, 0, none⟩ w49 fun w94 =>
 st1 (.int .u64 n91) ⟨b12, 1, none⟩ w94 fun w95 =>
 st1 (.int .u64 n92) ⟨b12, 2, none⟩ w95 fun w96 =>
 st1 (.int .u64 n93) ⟨b12, 3, none⟩ w96 fun w97 =>
 ldI .u64 ⟨b12, 0, none⟩ w97 fun n98 =>
 ldI .u64 ⟨b12, 1, none⟩ w97 fun n99 =>
 ldI .u64 ⟨b12, 2, none⟩ w97 fun n100 =>
 ldI .u64 ⟨b12, 3, none⟩ w97 fun n101 =>
 Q (.tuple [.agg [.int .u64 n98, .int .u64 n99, .int .u64 n100, .int .u64 n101].toArray, .bool true].toArray) w97)

def crierref16_Encode_j2 (Q : Value → World → Prop) (b10 : Nat) (b12 : Nat) (p25 : Option Addr) (l26 : Nat) (b30 : Bool) (w31 : World) : Prop :=
 cnd b30
 (st1 (.int .u64 0) ⟨b12, 0, none⟩ w31 fun w32 =>
 st1 (.int .u64 0) ⟨b12, 1, none⟩ w32 fun w33 =>
 st1 (.int .u64 0) ⟨b12, 2, none⟩ w33 fun w34 =>
 st1 (.int .u64 0) ⟨b12, 3, none⟩ w34 fun w35 =>
 ldI .u64 ⟨b12, 0, none⟩ w35 fun n36 =>
 ldI .u64 ⟨b12, 1, none⟩ w35 fun n37 =>
 ldI .u64 ⟨b12, 2, none⟩ w35 fun n38 =>
 ldI .u64 ⟨b12, 3, none⟩ w35 fun n39 =>
 Q (.tuple [.agg [.int .u64 n36, .int .u64 n37, .int .u64 n38, .int .u64 n39].toArray, .bool false].toArray) w35)
 (ldI .i64 ⟨b10, 0, none⟩ w31 fun n40 =>
 alc [.int .u64 0, .int .u64 0, .int .u64 0, .int .u64 0] T.t51 w31 fun b41 w42 =>
 st1 (.int .u64 (IntKind.u64.wrap (n40))) ⟨b41, 0, none⟩ w42 fun w43 =>
 st1 (.int .u64 0) ⟨b41, 1, none⟩ w43 fun w44 =>
 st1 (.int .u64 0) ⟨b41, 2, none⟩ w44 fun w45 =>
 st1 (.int .u64 0) ⟨b41, 3, none⟩ w45 fun w46 =>
 LoopT (fun (s102 : crierref16_Encode_L250.S) w103 A104 => crierref16_Encode_l1 Q b12 p25 l26 b41 s102 w103 A104) ((0 : Int)) w46)

def crierref16_Encode (a0_0 : Int) (a0_1 : Int) (a0_2 : Int) (a0_3 : Int) (a0_4 : Int) (a0_5 : Int) (a0_6 : Int) (a0_7 : Int) (a0_8 : Bool) (w : World) (Q : Value → World → Prop) : Prop :=
 alc [.int .i64 a0_0, .int .i64 a0_1, .int .i64 a0_2, .int .i64 a0_3, .int .i64 a0_4, .int .i64 a0_5, .int .i64 a0_6, .int .i64 a0_7, .bool a0_8] T.t40 w fun b10 w11 =>
 alc [.int .u64 0, .int .u64 0, .int .u64 0, .int .u64 0] T.t51 w11 fun b12 w13 =>
 ldI .i64 ⟨b10, 0, none⟩ w13 fun n14 =>
 ldI .i64 ⟨b10, 1, none⟩ w13 fun n15 =>
 ldI .i64 ⟨b10, 2, none⟩ w13 fun n16 =>
 ldI .i64 ⟨b10, 3, none⟩ w13 fun n17 =>
 ldI .i64 ⟨b10, 4, none⟩ w13 fun n18 =>
 ldI .i64 ⟨b10, 5, none⟩ w13 fun n19 =>
 ldI .i64 ⟨b10, 6, none⟩ w13 fun n20 =>
 ldI .i64 ⟨b10, 7, none⟩ w13 fun n21 =>
 ldB ⟨b10, 8, none⟩ w13 fun b22 =>
 CV P F.crierref16_Fields [.agg [.int .i64 n14, .int .i64 n15, .int .i64 n16, .int .i64 n17, .int .i64 n18, .int .i64 n19, .int .i64 n20, .int .i64 n21, .bool b22].toArray] w13 fun v23 w24 =>
 ∃ (p25 : Option Addr) (l26 c27 : Nat), ∃ b28 : Bool, v23 = .tuple [.slice p25 l26 c27, .bool b28].toArray ∧
 JoinT (fun (J105 : crierref16_Encode_J14.S → World → Prop) =>
  cnd (!b28)
  (J105 ((true : Bool)) w24)
  (ldI .i64 ⟨b10, 0, none⟩ w24 fun n106 =>
  CV P F.crierref16_Known [.int .i64 n106] w24 fun v107 w108 =>
  ∃ b109 : Bool, v107 = .bool b109 ∧
  J105 (((!b109) : Bool)) w108))
  fun (s110 : crierref16_Encode_J14.S) w111 => crierref16_Encode_j2 Q b10 b12 p25 l26 s110 w111
def crierref16_Encode_ann : Nat → Option LoopSpec := fun
  | 14 => some crierref16_Encode_J14
  | 250 => some crierref16_Encode_L250
  | 16018 => some crierref16_Encode_J16018
  | 16019 => some (ordSpec [0, 1, 2, 3, 4, 5, 6, 7, 8, 9, 10, 11, 12, 13, 14])
  | 32036 => some (ordSpec [0, 1, 2, 3, 4, 5, 6, 7, 8, 9, 10])
  | _ => none
theorem crierref16_Encode_eq (a0_0 : Int) (a0_1 : Int) (a0_2 : Int) (a0_3 : Int) (a0_4 : Int) (a0_5 : Int) (a0_6 : Int) (a0_7 : Int) (a0_8 : Bool) (w : World) (Q : Value → World → Prop) : fnX P crierref16_Encode_ann Try.f19 [.agg [.int .i64 a0_0, .int .i64 a0_1, .int .i64 a0_2, .int .i64 a0_3, .int .i64 a0_4, .int .i64 a0_5, .int .i64 a0_6, .int .i64 a0_7, .bool a0_8].toArray] w Q = crierref16_Encode a0_0 a0_1 a0_2 a0_3 a0_4 a0_5 a0_6 a0_7 a0_8 w Q := by kernel_rfl
theorem crierref16_Encode_cv {a0_0 : Int} {a0_1 : Int} {a0_2 : Int} {a0_3 : Int} {a0_4 : Int} {a0_5 : Int} {a0_6 : Int} {a0_7 : Int} {a0_8 : Bool} {w : World} {Q : Value → World → Prop} (h : crierref16_Encode a0_0 a0_1 a0_2 a0_3 a0_4 a0_5 a0_6 a0_7 a0_8 w Q) : CV P F.crierref16_Encode [.agg [.int .i64 a0_0, .int .i64 a0_1, .int .i64 a0_2, .int .i64 a0_3, .int .i64 a0_4, .int .i64 a0_5, .int .i64 a0_6, .int .i64 a0_7, .bool a0_8].toArray] w Q := CV_of mixed Try.func19 (crierref16_Encode_eq a0_0 a0_1 a0_2 a0_3 a0_4 a0_5 a0_6 a0_7 a0_8 w Q ▸ h)

/- 20 (crier/queue.Queue).Wrong -/
def queue_Queue_Wrong_J117 : LoopSpec where
  S := Unit
  emb := fun _ => []
  ext := fun _ => some ()
  slots := []
  fits := fun _ => rfl
  ok := by
    intro t s h x hx; cases hx

def queue_Queue_Wrong_j0 (l18 : Nat) (r19 : Loop) (Q22 : Value → World → Prop) (w27 : World) : Prop :=
 recAt w27 l18 r19 .busy none ∧ setR w27 l18 r19 .ready none fun w28 => Q22 (.bool true) w28

def queue_Queue_Wrong_r1 (b8 : Nat) (l18 : Nat) (r19 : Loop) (vs20 : List Value) (w21 : World) (Q22 : Value → World → Prop) : Prop :=
 X.b2 vs20 fun v23 v24 =>
 ∃ n25 : Int, v24 = .int .i64 n25 ∧
 recAt w21 l18 r19 .ready none ∧ setR w21 l18 r19 .busy none fun w26 =>
 JoinT (fun (J29 : queue_Queue_Wrong_J117.S → World → Prop) =>
  cnd (n25 != 0)
  (ldI .i64 ⟨b8, 0, none⟩ w26 fun n30 =>
  st1 (.int .i64 (IntKind.i64.wrap (n30 + 1))) ⟨b8, 0, none⟩ w26 fun w31 =>
  J29 () w31)
  (J29 () w26))
  fun (s32 : queue_Queue_Wrong_J117.S) w33 => queue_Queue_Wrong_j0 l18 r19 Q22 w33

def queue_Queue_Wrong (a0_0 : Int) (a0_1 : Int) (a0_2 : Int) (a0_3 : Int) (a1 : Option Addr) (w : World) (Q : Value → World → Prop) : Prop :=
 alc [.int .i64 a0_0, .int .i64 a0_1, .int .i64 a0_2, .int .i64 a0_3] T.t26 w fun b6 w7 =>
 alc [.int .i64 0] T.t3 w7 fun b8 w9 =>
 st1 (.int .i64 0) ⟨b8, 0, none⟩ w9 fun w10 =>
 ldI .i64 ⟨b6, 0, none⟩ w10 fun n11 =>
 ldI .i64 ⟨b6, 1, none⟩ w10 fun n12 =>
 ldI .i64 ⟨b6, 2, none⟩ w10 fun n13 =>
 ldI .i64 ⟨b6, 3, none⟩ w10 fun n14 =>
 CV P F.queue_Queue_Each [.agg [.int .i64 n11, .int .i64 n12, .int .i64 n13, .int .i64 n14].toArray, .pointer a1] w10 fun v15 w16 =>
 ∃ v17 : Value, v15 = v17 ∧
 RF P none 2 (v17) w16 (fun l18 r19 vs20 w21 Q22 => queue_Queue_Wrong_r1 b8 l18 r19 vs20 w21 Q22) fun mk34 jp35 w36 =>
 jmpX jp35
 (ldI .i64 ⟨b8, 0, none⟩ w36 fun n37 =>
 takeX (mk34 ++ []) w36 fun w38 =>
 Q (.int .i64 n37) w38)
 (takeX (mk34 ++ []) w36 fun w39 =>
 Q (.int .i64 0) w39)
 fun id40 => False
def queue_Queue_Wrong_ann : Nat → Option LoopSpec := fun
  | 117 => some queue_Queue_Wrong_J117
  | _ => none
theorem queue_Queue_Wrong_eq (a0_0 : Int) (a0_1 : Int) (a0_2 : Int) (a0_3 : Int) (a1 : Option Addr) (w : World) (Q : Value → World → Prop) : fnX P queue_Queue_Wrong_ann Try.f20 [.agg [.int .i64 a0_0, .int .i64 a0_1, .int .i64 a0_2, .int .i64 a0_3].toArray, .pointer a1] w Q = queue_Queue_Wrong a0_0 a0_1 a0_2 a0_3 a1 w Q := by kernel_rfl
theorem queue_Queue_Wrong_cv {a0_0 : Int} {a0_1 : Int} {a0_2 : Int} {a0_3 : Int} {a1 : Option Addr} {w : World} {Q : Value → World → Prop} (h : queue_Queue_Wrong a0_0 a0_1 a0_2 a0_3 a1 w Q) : CV P F.queue_Queue_Wrong [.agg [.int .i64 a0_0, .int .i64 a0_1, .int .i64 a0_2, .int .i64 a0_3].toArray, .pointer a1] w Q := CV_of mixed Try.func20 (queue_Queue_Wrong_eq a0_0 a0_1 a0_2 a0_3 a1 w Q ▸ h)

/- 21 crier/crierlaw04.New -/
def crierlaw04_New_J3 : LoopSpec where
  S := Int
  emb := fun s => [(0, .int .i64 s)]
  ext := fun t => match getL t 0 with
    | some (.int .i64 y2) => some (y2)
    | _ => none
  slots := [0]
  fits := fun _ => rfl
  ok := by
    intro t s h x hx
    (try dsimp only at h hx)
    split at h
    · cases h
      simp only [List.mem_cons, List.not_mem_nil, or_false] at hx
      rcases hx with rfl <;> assumption
    · cases h

def crierlaw04_New_j0 (Q : Value → World → Prop) (n3 : Int) (w4 : World) : Prop :=
 CV P F.mem_New [.int .i64 n3] w4 fun v5 w6 =>
 ∃ p7 : Option Addr, ∃ n8 : Int, v5 = .tuple [.pointer p7, .int .i64 n8].toArray ∧
 cnd (n8 != 0)
 (Q (.tuple [.pointer none, .pointer none].toArray) w6)
 (drw w6 fun w9 =>
 runS P (Instr.makeSlice T.t92 (.int .i64 n3) (.int .i64 n3)) w9 fun p10 l11 c12 w13 =>
 alc [.slice p10 l11 c12] T.t94 w13 fun b14 w15 =>
 Q (.tuple [.pointer p7, .pointer (some ⟨b14, 0, none⟩)].toArray) w15)

def crierlaw04_New_J6 : LoopSpec where
  S := Bool
  emb := fun s => [(11, .bool s)]
  ext := fun t => match getL t 11 with
    | some (.bool y17) => some (y17)
    | _ => none
  slots := [11]
  fits := fun _ => rfl
  ok := by
    intro t s h x hx
    (try dsimp only at h hx)
    split at h
    · cases h
      simp only [List.mem_cons, List.not_mem_nil, or_false] at hx
      rcases hx with rfl <;> assumption
    · cases h

def crierlaw04_New_j1 (a0 : Int) (J16 : crierlaw04_New_J3.S → World → Prop) (b18 : Bool) (w19 : World) : Prop :=
 cnd b18
 (J16 ((200 : Int)) w19)
 (J16 ((a0 : Int)) w19)

def crierlaw04_New (a0 : Int) (w : World) (Q : Value → World → Prop) : Prop :=
 JoinT (fun (J16 : crierlaw04_New_J3.S → World → Prop) =>
  JoinT (fun (J20 : crierlaw04_New_J6.S → World → Prop) =>
   cnd (decide (a0 < 0))
   (J20 ((true : Bool)) w)
   (J20 (((decide (a0 > 4096)) : Bool)) w))
   fun (s21 : crierlaw04_New_J6.S) w22 => crierlaw04_New_j1 a0 J16 s21 w22)
  fun (s23 : crierlaw04_New_J3.S) w24 => crierlaw04_New_j0 Q s23 w24
def crierlaw04_New_ann : Nat → Option LoopSpec := fun
  | 3 => some crierlaw04_New_J3
  | 62 => some (ordSpec [0, 1, 5, 2, 3, 4, 6])
  | 6 => some crierlaw04_New_J6
  | _ => none
theorem crierlaw04_New_eq (a0 : Int) (w : World) (Q : Value → World → Prop) : fnX P crierlaw04_New_ann Try.f21 [.int .i64 a0] w Q = crierlaw04_New a0 w Q := by kernel_rfl
theorem crierlaw04_New_cv {a0 : Int} {w : World} {Q : Value → World → Prop} (h : crierlaw04_New a0 w Q) : CV P F.crierlaw04_New [.int .i64 a0] w Q := CV_of mixed Try.func21 (crierlaw04_New_eq a0 w Q ▸ h)

/- 22 crier/crierlaw17.told -/

def crierlaw17_told (a0_0 : Int) (a0_1 : Int) (a0_2 : Int) (a0_3 : Int) (w : World) (Q : Value → World → Prop) : Prop :=
 alc [.int .i64 a0_0, .int .i64 a0_1, .int .i64 a0_2, .int .i64 a0_3] T.t26 w fun b5 w6 =>
 alc [.int .i64 0, .int .i64 0, .int .i64 0, .int .i64 0] T.t61 w6 fun b7 w8 =>
 ldI .i64 ⟨b5, 0, none⟩ w8 fun n9 =>
 ldI .i64 ⟨b5, 1, none⟩ w8 fun n10 =>
 ldI .i64 ⟨b5, 2, none⟩ w8 fun n11 =>
 ldI .i64 ⟨b5, 3, none⟩ w8 fun n12 =>
 st1 (.int .i64 n9) ⟨b7, 0, none⟩ w8 fun w13 =>
 st1 (.int .i64 n10) ⟨b7, 1, none⟩ w13 fun w14 =>
 st1 (.int .i64 n11) ⟨b7, 2, none⟩ w14 fun w15 =>
 st1 (.int .i64 n12) ⟨b7, 3, none⟩ w15 fun w16 =>
 ldI .i64 ⟨b7, 0, none⟩ w16 fun n17 =>
 ldI .i64 ⟨b7, 1, none⟩ w16 fun n18 =>
 ldI .i64 ⟨b7, 2, none⟩ w16 fun n19 =>
 ldI .i64 ⟨b7, 3, none⟩ w16 fun n20 =>
 Q (.agg [.int .i64 n17, .int .i64 n18, .int .i64 n19, .int .i64 n20].toArray) w16
def crierlaw17_told_ann : Nat → Option LoopSpec := fun _ => none
theorem crierlaw17_told_eq (a0_0 : Int) (a0_1 : Int) (a0_2 : Int) (a0_3 : Int) (w : World) (Q : Value → World → Prop) : fnX P crierlaw17_told_ann Try.f22 [.agg [.int .i64 a0_0, .int .i64 a0_1, .int .i64 a0_2, .int .i64 a0_3].toArray] w Q = crierlaw17_told a0_0 a0_1 a0_2 a0_3 w Q := by kernel_rfl
theorem crierlaw17_told_cv {a0_0 : Int} {a0_1 : Int} {a0_2 : Int} {a0_3 : Int} {w : World} {Q : Value → World → Prop} (h : crierlaw17_told a0_0 a0_1 a0_2 a0_3 w Q) : CV P F.crierlaw17_told [.agg [.int .i64 a0_0, .int .i64 a0_1, .int .i64 a0_2, .int .i64 a0_3].toArray] w Q := CV_of mixed Try.func22 (crierlaw17_told_eq a0_0 a0_1 a0_2 a0_3 w Q ▸ h)

/- 23 crier/crierlaw17.does -/

def crierlaw17_does (a0 : Option Addr) (a1 : Option Addr) (a2 : Option Addr) (a3 : Option Addr) (a4_0 : Int) (a4_1 : Int) (a4_2 : Int) (a4_3 : Int) (a4_4 : Int) (a4_5 : Int) (a4_6 : Int) (a4_7 : Int) (a4_8 : Int) (a4_9 : Int) (a4_10 : Bool) (a4_11 : Int) (w : World) (Q : Value → World → Prop) : Prop :=
 alc [.int .i64 a4_0, .int .i64 a4_1, .int .i64 a4_2, .int .i64 a4_3, .int .i64 a4_4, .int .i64 a4_5, .int .i64 a4_6, .int .i64 a4_7, .int .i64 a4_8, .int .i64 a4_9, .bool a4_10, .int .u64 a4_11] T.t64 w fun b17 w18 =>
 ldI .i64 ⟨b17, 0, none⟩ w18 fun n19 =>
 cnd (n19 == 1)
 (drw w18 fun w20 =>
 ldI .i64 ⟨b17, 2, none⟩ w20 fun n21 =>
 ldI .i64 ⟨b17, 3, none⟩ w20 fun n22 =>
 ldI .i64 ⟨b17, 4, none⟩ w20 fun n23 =>
 ldI .i64 ⟨b17, 5, none⟩ w20 fun n24 =>
 ldI .i64 ⟨b17, 6, none⟩ w20 fun n25 =>
 ldI .i64 ⟨b17, 7, none⟩ w20 fun n26 =>
 ldI .i64 ⟨b17, 8, none⟩ w20 fun n27 =>
 ldI .i64 ⟨b17, 9, none⟩ w20 fun n28 =>
 ldB ⟨b17, 10, none⟩ w20 fun b29 =>
 ldI .i64 ⟨b17, 2, none⟩ w20 fun n30 =>
 ldI .i64 ⟨b17, 3, none⟩ w20 fun n31 =>
 ldI .i64 ⟨b17, 4, none⟩ w20 fun n32 =>
 ldI .i64 ⟨b17, 5, none⟩ w20 fun n33 =>
 ldI .i64 ⟨b17, 6, none⟩ w20 fun n34 =>
 ldI .i64 ⟨b17, 7, none⟩ w20 fun n35 =>
 ldI .i64 ⟨b17, 8, none⟩ w20 fun n36 =>
 ldI .i64 ⟨b17, 9, none⟩ w20 fun n37 =>
 ldB ⟨b17, 10, none⟩ w20 fun b38 =>
 CV P F.queue_Queue_Put [.pointer a0, .pointer a1, .agg [.int .i64 n21, .int .i64 n22, .int .i64 n23, .int .i64 n24, .int .i64 n25, .int .i64 n26, .int .i64 n27, .int .i64 n28, .bool b29].toArray] w20 fun v39 w40 =>
 ∃ n41 : Int, v39 = .int .i64 n41 ∧
 (ldI .i64 ⟨b17, 2, none⟩ w40 fun n42 =>
 ldI .i64 ⟨b17, 3, none⟩ w40 fun n43 =>
 ldI .i64 ⟨b17, 4, none⟩ w40 fun n44 =>
 ldI .i64 ⟨b17, 5, none⟩ w40 fun n45 =>
 ldI .i64 ⟨b17, 6, none⟩ w40 fun n46 =>
 ldI .i64 ⟨b17, 7, none⟩ w40 fun n47 =>
 ldI .i64 ⟨b17, 8, none⟩ w40 fun n48 =>
 ldI .i64 ⟨b17, 9, none⟩ w40 fun n49 =>
 ldB ⟨b17, 10, none⟩ w40 fun b50 =>
 ((.agg [.int .i64 n42, .int .i64 n43, .int .i64 n44, .int .i64 n45, .int .i64 n46, .int .i64 n47, .int .i64 n48, .int .i64 n49, .bool b50].toArray : Value) = .agg [.int .i64 n30, .int .i64 n31, .int .i64 n32, .int .i64 n33, .int .i64 n34, .int .i64 n35, .int .i64 n36, .int .i64 n37, .bool b38].toArray)) ∧
 CV P F.crierref17_Queue_Put [.pointer a2, .pointer a3, .agg [.int .i64 n30, .int .i64 n31, .int .i64 n32, .int .i64 n33, .int .i64 n34, .int .i64 n35, .int .i64 n36, .int .i64 n37, .bool b38].toArray] w40 fun v51 w52 =>
 ∃ n53 : Int, v51 = .int .i64 n53 ∧
 Q (.bool (n41 == n53)) w52)
 (cnd (n19 == 2)
 (CV P F.queue_Queue_Pass [.pointer a0] w18 fun v54 w55 =>
 ∃ n56 : Int, v54 = .int .i64 n56 ∧
 CV P F.crierref17_Queue_Pass [.pointer a2] w55 fun v57 w58 =>
 ∃ n59 : Int, v57 = .int .i64 n59 ∧
 Q (.bool (n56 == n59)) w58)
 (cnd (n19 == 3)
 (drw w18 fun w60 =>
 ldI .i64 ⟨b17, 1, none⟩ w60 fun n61 =>
 ldI .i64 ⟨b17, 1, none⟩ w60 fun n62 =>
 CV P F.queue_Queue_SetWrite [.pointer a0, .int .i64 n61] w60 fun v63 w64 =>
 ∃ n65 : Int, v63 = .int .i64 n65 ∧
 (ldI .i64 ⟨b17, 1, none⟩ w64 fun n66 =>
 ((.int .i64 n66 : Value) = .int .i64 n62)) ∧
 CV P F.crierref17_Queue_SetWrite [.pointer a2, .int .i64 n62] w64 fun v67 w68 =>
 ∃ n69 : Int, v67 = .int .i64 n69 ∧
 Q (.bool (n65 == n69)) w68)
 (cnd (n19 == 4)
 (CV P F.mem_Mem_Size [.pointer a1] w18 fun v70 w71 =>
 ∃ n72 : Int, v70 = .int .i64 n72 ∧
 alc [.int .i64 0, .int .i64 0] T.t23 w71 fun b73 w74 =>
 st1 (.int .i64 0) ⟨b73, 0, none⟩ w74 fun w75 =>
 st1 (.int .i64 n72) ⟨b73, 1, none⟩ w75 fun w76 =>
 drw w76 fun w77 =>
 ldI .i64 ⟨b73, 0, none⟩ w77 fun n78 =>
 ldI .i64 ⟨b73, 1, none⟩ w77 fun n79 =>
 ldI .i64 ⟨b17, 1, none⟩ w77 fun n80 =>
 ldI .u64 ⟨b17, 11, none⟩ w77 fun n81 =>
 ldI .i64 ⟨b73, 0, none⟩ w77 fun n82 =>
 ldI .i64 ⟨b73, 1, none⟩ w77 fun n83 =>
 ldI .i64 ⟨b17, 1, none⟩ w77 fun n84 =>
 ldI .u64 ⟨b17, 11, none⟩ w77 fun n85 =>
 CV P F.mem_Mem_Write [.pointer a1, .agg [.int .i64 n78, .int .i64 n79].toArray, .int .i64 n80, .int .i64 8, .int .u64 n81] w77 fun v86 w87 =>
 ∃ n88 : Int, v86 = .int .i64 n88 ∧
 (ldI .u64 ⟨b17, 11, none⟩ w87 fun n89 =>
 ((.int .u64 n89 : Value) = .int .u64 n85)) ∧
 (ldI .i64 ⟨b17, 1, none⟩ w87 fun n90 =>
 ((.int .i64 n90 : Value) = .int .i64 n84)) ∧
 (ldI .i64 ⟨b73, 0, none⟩ w87 fun n91 =>
 ldI .i64 ⟨b73, 1, none⟩ w87 fun n92 =>
 ((.agg [.int .i64 n91, .int .i64 n92].toArray : Value) = .agg [.int .i64 n82, .int .i64 n83].toArray)) ∧
 CV P F.crierref04_Mem_Write [.pointer a3, .agg [.int .i64 n82, .int .i64 n83].toArray, .int .i64 n84, .int .i64 8, .int .u64 n85] w87 fun v93 w94 =>
 ∃ n95 : Int, v93 = .int .i64 n95 ∧
 Q (.bool (n88 == n95)) w94)
 (Q (.bool true) w18))))
def crierlaw17_does_ann : Nat → Option LoopSpec := fun
  | 212 => some (ordSpec [0, 1, 2, 3, 5, 6, 7, 8, 4, 9, 10, 11])
  | 3452 => some (ordSpec [0, 1, 2, 4, 5, 6, 3, 7, 8, 9])
  | 27642 => some (ordSpec [0, 1, 2, 3, 4, 5, 7, 8, 9, 10, 11, 12, 6, 13, 14, 15])
  | _ => none
theorem crierlaw17_does_eq (a0 : Option Addr) (a1 : Option Addr) (a2 : Option Addr) (a3 : Option Addr) (a4_0 : Int) (a4_1 : Int) (a4_2 : Int) (a4_3 : Int) (a4_4 : Int) (a4_5 : Int) (a4_6 : Int) (a4_7 : Int) (a4_8 : Int) (a4_9 : Int) (a4_10 : Bool) (a4_11 : Int) (w : World) (Q : Value → World → Prop) : fnX P crierlaw17_does_ann Try.f23 [.pointer a0, .pointer a1, .pointer a2, .pointer a3, .agg [.int .i64 a4_0, .int .i64 a4_1, .int .i64 a4_2, .int .i64 a4_3, .int .i64 a4_4, .int .i64 a4_5, .int .i64 a4_6, .int .i64 a4_7, .int .i64 a4_8, .int .i64 a4_9, .bool a4_10, .int .u64 a4_11].toArray] w Q = crierlaw17_does a0 a1 a2 a3 a4_0 a4_1 a4_2 a4_3 a4_4 a4_5 a4_6 a4_7 a4_8 a4_9 a4_10 a4_11 w Q := by kernel_rfl
theorem crierlaw17_does_cv {a0 : Option Addr} {a1 : Option Addr} {a2 : Option Addr} {a3 : Option Addr} {a4_0 : Int} {a4_1 : Int} {a4_2 : Int} {a4_3 : Int} {a4_4 : Int} {a4_5 : Int} {a4_6 : Int} {a4_7 : Int} {a4_8 : Int} {a4_9 : Int} {a4_10 : Bool} {a4_11 : Int} {w : World} {Q : Value → World → Prop} (h : crierlaw17_does a0 a1 a2 a3 a4_0 a4_1 a4_2 a4_3 a4_4 a4_5 a4_6 a4_7 a4_8 a4_9 a4_10 a4_11 w Q) : CV P F.crierlaw17_does [.pointer a0, .pointer a1, .pointer a2, .pointer a3, .agg [.int .i64 a4_0, .int .i64 a4_1, .int .i64 a4_2, .int .i64 a4_3, .int .i64 a4_4, .int .i64 a4_5, .int .i64 a4_6, .int .i64 a4_7, .int .i64 a4_8, .int .i64 a4_9, .bool a4_10, .int .u64 a4_11].toArray] w Q := CV_of mixed Try.func23 (crierlaw17_does_eq a0 a1 a2 a3 a4_0 a4_1 a4_2 a4_3 a4_4 a4_5 a4_6 a4_7 a4_8 a4_9 a4_10 a4_11 w Q ▸ h)

/- 24 crier/crierlaw17.alike -/
def crierlaw17_alike_J14 : LoopSpec where
  S := Bool
  emb := fun s => [(45, .bool s)]
  ext := fun t => match getL t 45 with
    | some (.bool y31) => some (y31)
    | _ => none
  slots := [45]
  fits := fun _ => rfl
  ok := by
    intro t s h x hx
    (try dsimp only at h hx)
    split at h
    · cases h
      simp only [List.mem_cons, List.not_mem_nil, or_false] at hx
      rcases hx with rfl <;> assumption
    · cases h

def crierlaw17_alike_J126 : LoopSpec where
  S := Bool
  emb := fun s => [(65, .bool s)]
  ext := fun t => match getL t 65 with
    | some (.bool y91) => some (y91)
    | _ => none
  slots := [65]
  fits := fun _ => rfl
  ok := by
    intro t s h x hx
    (try dsimp only at h hx)
    split at h
    · cases h
      simp only [List.mem_cons, List.not_mem_nil, or_false] at hx
      rcases hx with rfl <;> assumption
    · cases h

def crierlaw17_alike_J16341 : LoopSpec where
  S := Nat × Int
  emb := fun s => [(18, .pointer (some ⟨s.1, 0, none⟩)), (19, .int .i64 s.2)]
  ext := fun t => match getL t 18, getL t 19 with
    | some (.pointer (some ⟨y144, 0, none⟩)), some (.int .i64 y145) => some (y144, y145)
    | _, _ => none
  slots := [18, 19]
  fits := fun _ => rfl
  ok := by
    intro t s h x hx
    (try dsimp only at h hx)
    split at h
    · cases h
      simp only [List.mem_cons, List.not_mem_nil, or_false] at hx
      rcases hx with rfl | rfl <;> assumption
    · cases h

def crierlaw17_alike_J65366 : LoopSpec where
  S := Bool
  emb := fun s => [(93, .bool s)]
  ext := fun t => match getL t 93 with
    | some (.bool y149) => some (y149)
    | _ => none
  slots := [93]
  fits := fun _ => rfl
  ok := by
    intro t s h x hx
    (try dsimp only at h hx)
    split at h
    · cases h
      simp only [List.mem_cons, List.not_mem_nil, or_false] at hx
      rcases hx with rfl <;> assumption
    · cases h

def crierlaw17_alike_J65367 : LoopSpec where
  S := Unit
  emb := fun _ => []
  ext := fun _ => some ()
  slots := []
  fits := fun _ => rfl
  ok := by
    intro t s h x hx; cases hx

def crierlaw17_alike_j0 (b96 : Nat) (l109 : Nat) (r110 : Loop) (Q113 : Value → World → Prop) (w154 : World) : Prop :=
 ldI .i64 ⟨b96, 0, none⟩ w154 fun n155 =>
 st1 (.int .i64 (IntKind.i64.wrap (n155 + 1))) ⟨b96, 0, none⟩ w154 fun w156 =>
 recAt w156 l109 r110 .busy none ∧ setR w156 l109 r110 .ready none fun w157 => Q113 (.bool true) w157

def crierlaw17_alike_j1 (b17 : Nat) (b96 : Nat) (b98 : Nat) (l109 : Nat) (r110 : Loop) (Q113 : Value → World → Prop) (n147 : Int) (b150 : Bool) (w151 : World) : Prop :=
 cnd b150
 (st1 (.bool false) ⟨b17, 0, none⟩ w151 fun w152 =>
 recAt w152 l109 r110 .busy none ∧ setR w152 l109 r110 .done (some .ret) fun w153 => Q113 (.bool false) w153)
 (JoinT (fun (J158 : crierlaw17_alike_J65367.S → World → Prop) =>
  cnd (n147 != 0)
  (ldI .i64 ⟨b98, 0, none⟩ w151 fun n159 =>
  st1 (.int .i64 (IntKind.i64.wrap (n159 + 1))) ⟨b98, 0, none⟩ w151 fun w160 =>
  J158 () w160)
  (J158 () w151))
  fun (s161 : crierlaw17_alike_J65367.S) w162 => crierlaw17_alike_j0 b96 l109 r110 Q113 w162)

def crierlaw17_alike_j2 (b17 : Nat) (b96 : Nat) (b98 : Nat) (l109 : Nat) (r110 : Loop) (Q113 : Value → World → Prop) (n125 : Int) (b126 : Nat) (b146 : Nat) (n147 : Int) (w148 : World) : Prop :=
 JoinT (fun (J163 : crierlaw17_alike_J65366.S → World → Prop) =>
  ldI .i64 ⟨b126, 0, none⟩ w148 fun n164 =>
  ldI .i64 ⟨b126, 1, none⟩ w148 fun n165 =>
  ldI .i64 ⟨b126, 2, none⟩ w148 fun n166 =>
  ldI .i64 ⟨b126, 3, none⟩ w148 fun n167 =>
  ldI .i64 ⟨b126, 4, none⟩ w148 fun n168 =>
  ldI .i64 ⟨b126, 5, none⟩ w148 fun n169 =>
  ldI .i64 ⟨b126, 6, none⟩ w148 fun n170 =>
  ldI .i64 ⟨b126, 7, none⟩ w148 fun n171 =>
  ldB ⟨b126, 8, none⟩ w148 fun b172 =>
  ldI .i64 ⟨b146, 0, none⟩ w148 fun n173 =>
  ldI .i64 ⟨b146, 1, none⟩ w148 fun n174 =>
  ldI .i64 ⟨b146, 2, none⟩ w148 fun n175 =>
  ldI .i64 ⟨b146, 3, none⟩ w148 fun n176 =>
  ldI .i64 ⟨b146, 4, none⟩ w148 fun n177 =>
  ldI .i64 ⟨b146, 5, none⟩ w148 fun n178 =>
  ldI .i64 ⟨b146, 6, none⟩ w148 fun n179 =>
  ldI .i64 ⟨b146, 7, none⟩ w148 fun n180 =>
  ldB ⟨b146, 8, none⟩ w148 fun b181 =>
  eqA P .neq T.t40 (.agg [.int .i64 n164, .int .i64 n165, .int .i64 n166, .int .i64 n167, .int .i64 n168, .int .i64 n169, .int .i64 n170, .int .i64 n171, .bool b172].toArray) (.agg [.int .i64 n173, .int .i64 n174, .int .i64 n175, .int .i64 n176, .int .i64 n177, .int .i64 n178, .int .i64 n179, .int .i64 n180, .bool b181].toArray) w148 fun b182 =>
  cnd b182
  (J163 ((true : Bool)) w148)
  (J163 (((n125 != n147) : Bool)) w148))
  fun (s183 : crierlaw17_alike_J65366.S) w184 => crierlaw17_alike_j1 b17 b96 b98 l109 r110 Q113 n147 s183 w184

def crierlaw17_alike_r3 (b13 : Nat) (b15 : Nat) (b17 : Nat) (b28 : Nat) (b96 : Nat) (b98 : Nat) (l109 : Nat) (r110 : Loop) (vs111 : List Value) (w112 : World) (Q113 : Value → World → Prop) : Prop :=
 X.b2 vs111 fun v114 v115 =>
 ∃ n116 : Int, ∃ n117 : Int, ∃ n118 : Int, ∃ n119 : Int, ∃ n120 : Int, ∃ n121 : Int, ∃ n122 : Int, ∃ n123 : Int, ∃ b124 : Bool, v114 = .agg [.int .i64 n116, .int .i64 n117, .int .i64 n118, .int .i64 n119, .int .i64 n120, .int .i64 n121, .int .i64 n122, .int .i64 n123, .bool b124].toArray ∧
 ∃ n125 : Int, v115 = .int .i64 n125 ∧
 alc [.int .i64 0, .int .i64 0, .int .i64 0, .int .i64 0, .int .i64 0, .int .i64 0, .int .i64 0, .int .i64 0, .bool false] T.t40 w112 fun b126 w127 =>
 st1 (.int .i64 n116) ⟨b126, 0, none⟩ w127 fun w128 =>
 st1 (.int .i64 n117) ⟨b126, 1, none⟩ w128 fun w129 =>
 st1 (.int .i64 n118) ⟨b126, 2, none⟩ w129 fun w130 =>
 st1 (.int .i64 n119) ⟨b126, 3, none⟩ w130 fun w131 =>
 st1 (.int .i64 n120) ⟨b126, 4, none⟩ w131 fun w132 =>
 st1 (.int .i64 n121) ⟨b126, 5, none⟩ w132 fun w133 =>
 st1 (.int .i64 n122) ⟨b126, 6, none⟩ w133 fun w134 =>
 st1 (.int .i64 n123) ⟨b126, 7, none⟩ w134 fun w135 =>
 st1 (.bool b124) ⟨b126, 8, none⟩ w135 fun w136 =>
 recAt w136 l109 r110 .ready none ∧ setR w136 l109 r110 .busy none fun w137 =>
 ldI .i64 ⟨b96, 0, none⟩ w137 fun n138 =>
 ldL ⟨b28, 0, none⟩ w137 fun p139 l140 c141 =>
 cnd (decide (n138 ≥ ((l140 : Nat) : Int)))
 (st1 (.bool false) ⟨b17, 0, none⟩ w137 fun w142 =>
 recAt w142 l109 r110 .busy none ∧ setR w142 l109 r110 .done (some .ret) fun w143 => Q113 (.bool false) w143)
 (JoinT (fun (J185 : crierlaw17_alike_J16341.S → World → Prop) =>
  drw w137 fun w186 =>
  ldP ⟨b15, 0, none⟩ w186 fun p187 =>
  ldI .i64 ⟨b13, 0, none⟩ w186 fun n188 =>
  ldI .i64 ⟨b13, 1, none⟩ w186 fun n189 =>
  ldL ⟨b28, 0, none⟩ w186 fun p190 l191 c192 =>
  ldI .i64 ⟨b96, 0, none⟩ w186 fun n193 =>
  ix n193 l191 fun j194 => nn p190 fun a195 =>
  ldI .i64 (a195.add (j194 * 1)) w186 fun n196 =>
  (CV P F.crierref16_Load [.pointer p187, .agg [.int .i64 n188, .int .i64 n189].toArray, .int .i64 n196] w186 fun v197 w198 =>
  ∃ n199 : Int, ∃ n200 : Int, ∃ n201 : Int, ∃ n202 : Int, ∃ n203 : Int, ∃ n204 : Int, ∃ n205 : Int, ∃ n206 : Int, ∃ b207 : Bool, ∃ n208 : Int, v197 = .tuple [.agg [.int .i64 n199, .int .i64 n200, .int .i64 n201, .int .i64 n202, .int .i64 n203, .int .i64 n204, .int .i64 n205, .int .i64 n206, .bool b207].toArray, .int .i64 n208].toArray ∧
  alc [.int .i64 0, .int .i64 0, .int .i64 0, .int .i64 0, .int .i64 0, .int .i64 0, .int .i64 0, .int .i64 0, .bool false] T.t40 w198 fun b209 w210 =>
  (ldI .i64 (a195.add (j194 * 1)) w210 fun n211 =>
  ((.int .i64 n211 : Value) = .int .i64 n196)) ∧
  (ldI .i64 ⟨b96, 0, none⟩ w210 fun n212 =>
  ((.int .i64 n212 : Value) = .int .i64 n193)) ∧
  (ldL ⟨b28, 0, none⟩ w210 fun p213 l214 c215 =>
  ((.slice p213 l214 c215 : Value) = .slice p190 l191 c192)) ∧
  (ldI .i64 ⟨b13, 0, none⟩ w210 fun n216 =>
  ldI .i64 ⟨b13, 1, none⟩ w210 fun n217 =>
  ((.agg [.int .i64 n216, .int .i64 n217].toArray : Value) = .agg [.int .i64 n188, .int .i64 n189].toArray)) ∧
  (ldP ⟨b15, 0, none⟩ w210 fun p218 =>
  ((.pointer p218 : Value) = .pointer p187)) ∧
  st1 (.int .i64 n199) ⟨b209, 0, none⟩ w210 fun w219 =>
  st1 (.int .i64 n200) ⟨b209, 1, none⟩ w219 fun w220 =>
  st1 (.int .i64 n201) ⟨b209, 2, none⟩ w220 fun w221 =>
  st1 (.int .i64 n202) ⟨b209, 3, none⟩ w221 fun w222 =>
  st1 (.int .i64 n203) ⟨b209, 4, none⟩ w222 fun w223 =>
  st1 (.int .i64 n204) ⟨b209, 5, none⟩ w223 fun w224 =>
  st1 (.int .i64 n205) ⟨b209, 6, none⟩ w224 fun w225 =>
  st1 (.int .i64 n206) ⟨b209, 7, none⟩ w225 fun w226 =>
  st1 (.bool b207) ⟨b209, 8, none⟩ w226 fun w227 =>
  J185 ((b209 : Nat), (n208 : Int)) w227) ∧
  (alc [.int .i64 0, .int .i64 0, .int .i64 0, .int .i64 0, .int .i64 0, .int .i64 0, .int .i64 0, .int .i64 0, .bool false] T.t40 w186 fun b228 w229 =>
  (ldI .i64 (a195.add (j194 * 1)) w229 fun n230 =>
  ((.int .i64 n230 : Value) = .int .i64 n196)) ∧
  (ldI .i64 ⟨b96, 0, none⟩ w229 fun n231 =>
  ((.int .i64 n231 : Value) = .int .i64 n193)) ∧
  (ldL ⟨b28, 0, none⟩ w229 fun p232 l233 c234 =>
  ((.slice p232 l233 c234 : Value) = .slice p190 l191 c192)) ∧
  (ldI .i64 ⟨b13, 0, none⟩ w229 fun n235 =>
  ldI .i64 ⟨b13, 1, none⟩ w229 fun n236 =>
  ((.agg [.int .i64 n235, .int .i64 n236].toArray : Value) = .agg [.int .i64 n188, .int .i64 n189].toArray)) ∧
  (ldP ⟨b15, 0, none⟩ w229 fun p237 =>
  ((.pointer p237 : Value) = .pointer p187)) ∧
  CV P F.crierref16_Load [.pointer p187, .agg [.int .i64 n188, .int .i64 n189].toArray, .int .i64 n196] w229 fun v238 w239 =>
  ∃ n240 : Int, ∃ n241 : Int, ∃ n242 : Int, ∃ n243 : Int, ∃ n244 : Int, ∃ n245 : Int, ∃ n246 : Int, ∃ n247 : Int, ∃ b248 : Bool, ∃ n249 : Int, v238 = .tuple [.agg [.int .i64 n240, .int .i64 n241, .int .i64 n242, .int .i64 n243, .int .i64 n244, .int .i64 n245, .int .i64 n246, .int .i64 n247, .bool b248].toArray, .int .i64 n249].toArray ∧
  st1 (.int .i64 n240) ⟨b228, 0, none⟩ w239 fun w250 =>
  st1 (.int .i64 n241) ⟨b228, 1, none⟩ w250 fun w251 =>
  st1 (.int .i64 n242) ⟨b228, 2, none⟩ w251 fun w252 =>
  st1 (.int .i64 n243) ⟨b228, 3, none⟩ w252 fun w253 =>
  st1 (.int .i64 n244) ⟨b228, 4, none⟩ w253 fun w254 =>
  st1 (.int .i64 n245) ⟨b228, 5, none⟩ w254 fun w255 =>
  st1 (.int .i64 n246) ⟨b228, 6, none⟩ w255 fun w256 =>
  st1 (.int .i64 n247) ⟨b228, 7, none⟩ w256 fun w257 =>
  st1 (.bool b248) ⟨b228, 8, none⟩ w257 fun w258 =>
  J185 ((b228 : Nat), (n249 : Int)) w258))
  fun (s259 : crierlaw17_alike_J16341.S) w260 => crierlaw17_alike_j2 b17 b96 b98 l109 r110 Q113 n125 b126 s259.1 s259.2 w260)

def crierlaw17_alike_J511 : LoopSpec where
  S := Unit
  emb := fun _ => []
  ext := fun _ => some ()
  slots := []
  fits := fun _ => rfl
  ok := by
    intro t s h x hx; cases hx

def crierlaw17_alike_j4 (Q : Value → World → Prop) (b17 : Nat) (mk261 : List Deferred) (w264 : World) : Prop :=
 takeX (mk261 ++ []) w264 fun w265 =>
 ldB ⟨b17, 0, none⟩ w265 fun b266 =>
 Q (.bool b266) w265

def crierlaw17_alike_j5 (a1 : Option Addr) (Q : Value → World → Prop) (b11 : Nat) (b13 : Nat) (b15 : Nat) (b17 : Nat) (b28 : Nat) (b92 : Bool) (w93 : World) : Prop :=
 cnd b92
 (st1 (.bool false) ⟨b17, 0, none⟩ w93 fun w94 =>
 ldB ⟨b17, 0, none⟩ w94 fun b95 =>
 Q (.bool b95) w94)
 (alc [.int .i64 0] T.t3 w93 fun b96 w97 =>
 alc [.int .i64 0] T.t3 w97 fun b98 w99 =>
 st1 (.int .i64 0) ⟨b96, 0, none⟩ w99 fun w100 =>
 st1 (.int .i64 0) ⟨b98, 0, none⟩ w100 fun w101 =>
 ldI .i64 ⟨b11, 0, none⟩ w101 fun n102 =>
 ldI .i64 ⟨b11, 1, none⟩ w101 fun n103 =>
 ldI .i64 ⟨b11, 2, none⟩ w101 fun n104 =>
 ldI .i64 ⟨b11, 3, none⟩ w101 fun n105 =>
 CV P F.queue_Queue_Each [.agg [.int .i64 n102, .int .i64 n103, .int .i64 n104, .int .i64 n105].toArray, .pointer a1] w101 fun v106 w107 =>
 ∃ v108 : Value, v106 = v108 ∧
 RF P none 2 (v108) w107 (fun l109 r110 vs111 w112 Q113 => crierlaw17_alike_r3 b13 b15 b17 b28 b96 b98 l109 r110 vs111 w112 Q113) fun mk261 jp262 w263 =>
 jmpX jp262
 (JoinT (fun (J267 : crierlaw17_alike_J511.S → World → Prop) =>
  drw w263 fun w268 =>
  ldI .i64 ⟨b96, 0, none⟩ w268 fun n269 =>
  ldL ⟨b28, 0, none⟩ w268 fun p270 l271 c272 =>
  cnd (n269 == ((l271 : Nat) : Int))
  (ldI .i64 ⟨b11, 0, none⟩ w268 fun n273 =>
  ldI .i64 ⟨b11, 1, none⟩ w268 fun n274 =>
  ldI .i64 ⟨b11, 2, none⟩ w268 fun n275 =>
  ldI .i64 ⟨b11, 3, none⟩ w268 fun n276 =>
  ldI .i64 ⟨b98, 0, none⟩ w268 fun n277 =>
  CV P F.queue_Queue_Wrong [.agg [.int .i64 n273, .int .i64 n274, .int .i64 n275, .int .i64 n276].toArray, .pointer a1] w268 fun v278 w279 =>
  ∃ n280 : Int, v278 = .int .i64 n280 ∧
  (ldI .i64 ⟨b98, 0, none⟩ w279 fun n281 =>
  ((.int .i64 n281 : Value) = .int .i64 n277)) ∧
  st1 (.bool (n280 == n277)) ⟨b17, 0, none⟩ w279 fun w282 =>
  J267 () w282)
  (st1 (.bool false) ⟨b17, 0, none⟩ w268 fun w283 =>
  J267 () w283))
  fun (s284 : crierlaw17_alike_J511.S) w285 => crierlaw17_alike_j4 Q b17 mk261 w285)
 (takeX (mk261 ++ []) w263 fun w286 =>
 ldB ⟨b17, 0, none⟩ w286 fun b287 =>
 Q (.bool b287) w286)
 fun id288 => False)

def crierlaw17_alike_j6 (a1 : Option Addr) (Q : Value → World → Prop) (b11 : Nat) (b13 : Nat) (b15 : Nat) (b17 : Nat) (b28 : Nat) (b32 : Bool) (w33 : World) : Prop :=
 cnd b32
 (st1 (.bool false) ⟨b17, 0, none⟩ w33 fun w34 =>
 ldB ⟨b17, 0, none⟩ w34 fun b35 =>
 Q (.bool b35) w34)
 (ldI .i64 ⟨b11, 0, none⟩ w33 fun n36 =>
 ldI .i64 ⟨b11, 1, none⟩ w33 fun n37 =>
 ldI .i64 ⟨b11, 2, none⟩ w33 fun n38 =>
 ldI .i64 ⟨b11, 3, none⟩ w33 fun n39 =>
 CV P F.queue_Queue_Head [.agg [.int .i64 n36, .int .i64 n37, .int .i64 n38, .int .i64 n39].toArray, .pointer a1] w33 fun v40 w41 =>
 ∃ n42 : Int, ∃ n43 : Int, ∃ n44 : Int, ∃ n45 : Int, ∃ n46 : Int, ∃ n47 : Int, ∃ n48 : Int, ∃ n49 : Int, ∃ b50 : Bool, ∃ n51 : Int, v40 = .tuple [.agg [.int .i64 n42, .int .i64 n43, .int .i64 n44, .int .i64 n45, .int .i64 n46, .int .i64 n47, .int .i64 n48, .int .i64 n49, .bool b50].toArray, .int .i64 n51].toArray ∧
 alc [.int .i64 0, .int .i64 0, .int .i64 0, .int .i64 0, .int .i64 0, .int .i64 0, .int .i64 0, .int .i64 0, .bool false] T.t40 w41 fun b52 w53 =>
 st1 (.int .i64 n42) ⟨b52, 0, none⟩ w53 fun w54 =>
 st1 (.int .i64 n43) ⟨b52, 1, none⟩ w54 fun w55 =>
 st1 (.int .i64 n44) ⟨b52, 2, none⟩ w55 fun w56 =>
 st1 (.int .i64 n45) ⟨b52, 3, none⟩ w56 fun w57 =>
 st1 (.int .i64 n46) ⟨b52, 4, none⟩ w57 fun w58 =>
 st1 (.int .i64 n47) ⟨b52, 5, none⟩ w58 fun w59 =>
 st1 (.int .i64 n48) ⟨b52, 6, none⟩ w59 fun w60 =>
 st1 (.int .i64 n49) ⟨b52, 7, none⟩ w60 fun w61 =>
 st1 (.bool b50) ⟨b52, 8, none⟩ w61 fun w62 =>
 ldI .i64 ⟨b13, 0, none⟩ w62 fun n63 =>
 ldI .i64 ⟨b13, 1, none⟩ w62 fun n64 =>
 ldI .i64 ⟨b13, 2, none⟩ w62 fun n65 =>
 ldI .i64 ⟨b13, 3, none⟩ w62 fun n66 =>
 ldP ⟨b15, 0, none⟩ w62 fun p67 =>
 CV P F.crierref17_Queue_Head [.agg [.int .i64 n63, .int .i64 n64, .int .i64 n65, .int .i64 n66].toArray, .pointer p67] w62 fun v68 w69 =>
 ∃ n70 : Int, ∃ n71 : Int, ∃ n72 : Int, ∃ n73 : Int, ∃ n74 : Int, ∃ n75 : Int, ∃ n76 : Int, ∃ n77 : Int, ∃ b78 : Bool, ∃ n79 : Int, v68 = .tuple [.agg [.int .i64 n70, .int .i64 n71, .int .i64 n72, .int .i64 n73, .int .i64 n74, .int .i64 n75, .int .i64 n76, .int .i64 n77, .bool b78].toArray, .int .i64 n79].toArray ∧
 alc [.int .i64 0, .int .i64 0, .int .i64 0, .int .i64 0, .int .i64 0, .int .i64 0, .int .i64 0, .int .i64 0, .bool false] T.t40 w69 fun b80 w81 =>
 st1 (.int .i64 n70) ⟨b80, 0, none⟩ w81 fun w82 =>
 st1 (.int .i64 n71) ⟨b80, 1, none⟩ w82 fun w83 =>
 st1 (.int .i64 n72) ⟨b80, 2, none⟩ w83 fun w84 =>
 st1 (.int .i64 n73) ⟨b80, 3, none⟩ w84 fun w85 =>
 st1 (.int .i64 n74) ⟨b80, 4, none⟩ w85 fun w86 =>
 st1 (.int .i64 n75) ⟨b80, 5, none⟩ w86 fun w87 =>
 st1 (.int .i64 n76) ⟨b80, 6, none⟩ w87 fun w88 =>
 st1 (.int .i64 n77) ⟨b80, 7, none⟩ w88 fun w89 =>
 st1 (.bool b78) ⟨b80, 8, none⟩ w89 fun w90 =>
 JoinT (fun (J289 : crierlaw17_alike_J126.S → World → Prop) =>
  ldI .i64 ⟨b52, 0, none⟩ w90 fun n290 =>
  ldI .i64 ⟨b52, 1, none⟩ w90 fun n291 =>
  ldI .i64 ⟨b52, 2, none⟩ w90 fun n292 =>
  ldI .i64 ⟨b52, 3, none⟩ w90 fun n293 =>
  ldI .i64 ⟨b52, 4, none⟩ w90 fun n294 =>
  ldI .i64 ⟨b52, 5, none⟩ w90 fun n295 =>
  ldI .i64 ⟨b52, 6, none⟩ w90 fun n296 =>
  ldI .i64 ⟨b52, 7, none⟩ w90 fun n297 =>
  ldB ⟨b52, 8, none⟩ w90 fun b298 =>
  ldI .i64 ⟨b80, 0, none⟩ w90 fun n299 =>
  ldI .i64 ⟨b80, 1, none⟩ w90 fun n300 =>
  ldI .i64 ⟨b80, 2, none⟩ w90 fun n301 =>
  ldI .i64 ⟨b80, 3, none⟩ w90 fun n302 =>
  ldI .i64 ⟨b80, 4, none⟩ w90 fun n303 =>
  ldI .i64 ⟨b80, 5, none⟩ w90 fun n304 =>
  ldI .i64 ⟨b80, 6, none⟩ w90 fun n305 =>
  ldI .i64 ⟨b80, 7, none⟩ w90 fun n306 =>
  ldB ⟨b80, 8, none⟩ w90 fun b307 =>
  eqA P .neq T.t40 (.agg [.int .i64 n290, .int .i64 n291, .int .i64 n292, .int .i64 n293, .int .i64 n294, .int .i64 n295, .int .i64 n296, .int .i64 n297, .bool b298].toArray) (.agg [.int .i64 n299, .int .i64 n300, .int .i64 n301, .int .i64 n302, .int .i64 n303, .int .i64 n304, .int .i64 n305, .int .i64 n306, .bool b307].toArray) w90 fun b308 =>
  cnd b308
  (J289 ((true : Bool)) w90)
  (J289 (((n51 != n79) : Bool)) w90))
  fun (s309 : crierlaw17_alike_J126.S) w310 => crierlaw17_alike_j5 a1 Q b11 b13 b15 b17 b28 s309 w310)

def crierlaw17_alike (a0_0 : Int) (a0_1 : Int) (a0_2 : Int) (a0_3 : Int) (a1 : Option Addr) (a2_0 : Int) (a2_1 : Int) (a2_2 : Int) (a2_3 : Int) (a3 : Option Addr) (w : World) (Q : Value → World → Prop) : Prop :=
 alc [.int .i64 a0_0, .int .i64 a0_1, .int .i64 a0_2, .int .i64 a0_3] T.t26 w fun b11 w12 =>
 alc [.int .i64 a2_0, .int .i64 a2_1, .int .i64 a2_2, .int .i64 a2_3] T.t61 w12 fun b13 w14 =>
 alc [.pointer a3] T.t58 w14 fun b15 w16 =>
 alc [.bool false] T.t4 w16 fun b17 w18 =>
 ldI .i64 ⟨b13, 0, none⟩ w18 fun n19 =>
 ldI .i64 ⟨b13, 1, none⟩ w18 fun n20 =>
 ldI .i64 ⟨b13, 2, none⟩ w18 fun n21 =>
 ldI .i64 ⟨b13, 3, none⟩ w18 fun n22 =>
 CV P F.crierref17_Queue_Waits [.agg [.int .i64 n19, .int .i64 n20, .int .i64 n21, .int .i64 n22].toArray] w18 fun v23 w24 =>
 ∃ (p25 : Option Addr) (l26 c27 : Nat), v23 = .slice p25 l26 c27 ∧
 alc [.slice none 0 0] T.t97 w24 fun b28 w29 =>
 st1 (.slice p25 l26 c27) ⟨b28, 0, none⟩ w29 fun w30 =>
 JoinT (fun (J311 : crierlaw17_alike_J14.S → World → Prop) =>
  drw w30 fun w312 =>
  ldI .i64 ⟨b11, 0, none⟩ w312 fun n313 =>
  ldI .i64 ⟨b11, 1, none⟩ w312 fun n314 =>
  ldI .i64 ⟨b11, 2, none⟩ w312 fun n315 =>
  ldI .i64 ⟨b11, 3, none⟩ w312 fun n316 =>
  ldI .i64 ⟨b13, 0, none⟩ w312 fun n317 =>
  ldI .i64 ⟨b13, 1, none⟩ w312 fun n318 =>
  ldI .i64 ⟨b13, 2, none⟩ w312 fun n319 =>
  ldI .i64 ⟨b13, 3, none⟩ w312 fun n320 =>
  CV P F.crierlaw17_told [.agg [.int .i64 n313, .int .i64 n314, .int .i64 n315, .int .i64 n316].toArray] w312 fun v321 w322 =>
  ∃ n323 : Int, ∃ n324 : Int, ∃ n325 : Int, ∃ n326 : Int, v321 = .agg [.int .i64 n323, .int .i64 n324, .int .i64 n325, .int .i64 n326].toArray ∧
  (ldI .i64 ⟨b13, 0, none⟩ w322 fun n327 =>
  ldI .i64 ⟨b13, 1, none⟩ w322 fun n328 =>
  ldI .i64 ⟨b13, 2, none⟩ w322 fun n329 =>
  ldI .i64 ⟨b13, 3, none⟩ w322 fun n330 =>
  ((.agg [.int .i64 n327, .int .i64 n328, .int .i64 n329, .int .i64 n330].toArray : Value) = .agg [.int .i64 n317, .int .i64 n318, .int .i64 n319, .int .i64 n320].toArray)) ∧
  eqA P .neq T.t61 (.agg [.int .i64 n323, .int .i64 n324, .int .i64 n325, .int .i64 n326].toArray) (.agg [.int .i64 n317, .int .i64 n318, .int .i64 n319, .int .i64 n320].toArray) w322 fun b331 =>
  cnd b331
  (J311 ((true : Bool)) w322)
  (ldI .i64 ⟨b11, 0, none⟩ w322 fun n332 =>
  ldI .i64 ⟨b11, 1, none⟩ w322 fun n333 =>
  ldI .i64 ⟨b11, 2, none⟩ w322 fun n334 =>
  ldI .i64 ⟨b11, 3, none⟩ w322 fun n335 =>
  ldL ⟨b28, 0, none⟩ w322 fun p336 l337 c338 =>
  CV P F.queue_Queue_Left [.agg [.int .i64 n332, .int .i64 n333, .int .i64 n334, .int .i64 n335].toArray] w322 fun v339 w340 =>
  ∃ n341 : Int, v339 = .int .i64 n341 ∧
  (((.int .i64 ((l337 : Nat) : Int) : Value) = .int .i64 ((l337 : Nat) : Int))) ∧
  (ldL ⟨b28, 0, none⟩ w340 fun p342 l343 c344 =>
  ((.slice p342 l343 c344 : Value) = .slice p336 l337 c338)) ∧
  cnd (n341 != ((l337 : Nat) : Int))
  (J311 ((true : Bool)) w340)
  (ldI .i64 ⟨b11, 0, none⟩ w340 fun n345 =>
  ldI .i64 ⟨b11, 1, none⟩ w340 fun n346 =>
  ldI .i64 ⟨b11, 2, none⟩ w340 fun n347 =>
  ldI .i64 ⟨b11, 3, none⟩ w340 fun n348 =>
  ldI .i64 ⟨b13, 0, none⟩ w340 fun n349 =>
  ldI .i64 ⟨b13, 1, none⟩ w340 fun n350 =>
  ldI .i64 ⟨b13, 2, none⟩ w340 fun n351 =>
  ldI .i64 ⟨b13, 3, none⟩ w340 fun n352 =>
  CV P F.queue_Queue_Room [.agg [.int .i64 n345, .int .i64 n346, .int .i64 n347, .int .i64 n348].toArray] w340 fun v353 w354 =>
  ∃ n355 : Int, v353 = .int .i64 n355 ∧
  (ldI .i64 ⟨b13, 0, none⟩ w354 fun n356 =>
  ldI .i64 ⟨b13, 1, none⟩ w354 fun n357 =>
  ldI .i64 ⟨b13, 2, none⟩ w354 fun n358 =>
  ldI .i64 ⟨b13, 3, none⟩ w354 fun n359 =>
  ((.agg [.int .i64 n356, .int .i64 n357, .int .i64 n358, .int .i64 n359].toArray : Value) = .agg [.int .i64 n349, .int .i64 n350, .int .i64 n351, .int .i64 n352].toArray)) ∧
  CV P F.crierref17_Queue_Room [.agg [.int .i64 n349, .int .i64 n350, .int .i64 n351, .int .i64 n352].toArray] w354 fun v360 w361 =>
  ∃ n362 : Int, v360 = .int .i64 n362 ∧
  cnd (n355 != n362)
  (J311 ((true : Bool)) w361)
  (ldP ⟨b15, 0, none⟩ w361 fun p363 =>
  CV P F.crierlaw04_Same [.pointer a1, .pointer p363] w361 fun v364 w365 =>
  ∃ b366 : Bool, v364 = .bool b366 ∧
  J311 (((!b366) : Bool)) w365))))
  fun (s367 : crierlaw17_alike_J14.S) w368 => crierlaw17_alike_j6 a1 Q b11 b13 b15 b17 b28 s367 w368
def crierlaw17_alike_ann : Nat → Option LoopSpec := fun
  | 14 => some crierlaw17_alike_J14
  | 126 => some crierlaw17_alike_J126
  | 16341 => some crierlaw17_alike_J16341
  | 65366 => some crierlaw17_alike_J65366
  | 65367 => some crierlaw17_alike_J65367
  | 32682 => some (ordSpec [])
  | 511 => some crierlaw17_alike_J511
  | 1022 => some (ordSpec [0, 1, 2, 3, 4, 5, 6, 8, 7, 9, 10, 11])
  | 28 => some (ordSpec [0, 2, 1, 3, 4, 5, 7, 8, 6, 9, 10, 11, 12, 14, 13, 15, 16, 17, 18, 19, 20, 21, 22, 23])
  | _ => none
theorem crierlaw17_alike_eq (a0_0 : Int) (a0_1 : Int) (a0_2 : Int) (a0_3 : Int) (a1 : Option Addr) (a2_0 : Int) (a2_1 : Int) (a2_2 : Int) (a2_3 : Int) (a3 : Option Addr) (w : World) (Q : Value → World → Prop) : fnX P crierlaw17_alike_ann Try.f24 [.agg [.int .i64 a0_0, .int .i64 a0_1, .int .i64 a0_2, .int .i64 a0_3].toArray, .pointer a1, .agg [.int .i64 a2_0, .int .i64 a2_1, .int .i64 a2_2, .int .i64 a2_3].toArray, .pointer a3] w Q = crierlaw17_alike a0_0 a0_1 a0_2 a0_3 a1 a2_0 a2_1 a2_2 a2_3 a3 w Q := by kernel_rfl
theorem crierlaw17_alike_cv {a0_0 : Int} {a0_1 : Int} {a0_2 : Int} {a0_3 : Int} {a1 : Option Addr} {a2_0 : Int} {a2_1 : Int} {a2_2 : Int} {a2_3 : Int} {a3 : Option Addr} {w : World} {Q : Value → World → Prop} (h : crierlaw17_alike a0_0 a0_1 a0_2 a0_3 a1 a2_0 a2_1 a2_2 a2_3 a3 w Q) : CV P F.crierlaw17_alike [.agg [.int .i64 a0_0, .int .i64 a0_1, .int .i64 a0_2, .int .i64 a0_3].toArray, .pointer a1, .agg [.int .i64 a2_0, .int .i64 a2_1, .int .i64 a2_2, .int .i64 a2_3].toArray, .pointer a3] w Q := CV_of mixed Try.func24 (crierlaw17_alike_eq a0_0 a0_1 a0_2 a0_3 a1 a2_0 a2_1 a2_2 a2_3 a3 w Q ▸ h)

/- 25 crier/crierlaw04.Same -/
def crierlaw04_Same_J7 : LoopSpec where
  S := Bool
  emb := fun s => [(4, .bool s)]
  ext := fun t => match getL t 4 with
    | some (.bool y13) => some (y13)
    | _ => none
  slots := [4]
  fits := fun _ => rfl
  ok := by
    intro t s h x hx
    (try dsimp only at h hx)
    split at h
    · cases h
      simp only [List.mem_cons, List.not_mem_nil, or_false] at hx
      rcases hx with rfl <;> assumption
    · cases h

def crierlaw04_Same_j0 (Q : Value → World → Prop) (b14 : Bool) (w15 : World) : Prop :=
 Q (.bool b14) w15

def crierlaw04_Same (a0 : Option Addr) (a1 : Option Addr) (w : World) (Q : Value → World → Prop) : Prop :=
 nn a1 fun a3 =>
 ldL a3 w fun p4 l5 c6 =>
 CV P F.mem_Mem_Bytes [.pointer a0, .agg [.int .i64 0, .int .i64 ((l5 : Nat) : Int)].toArray] w fun v7 w8 =>
 ∃ (p9 : Option Addr) (l10 c11 : Nat), ∃ n12 : Int, v7 = .tuple [.slice p9 l10 c11, .int .i64 n12].toArray ∧
 JoinT (fun (J16 : crierlaw04_Same_J7.S → World → Prop) =>
  drw w8 fun w17 =>
  nn a1 fun a18 =>
  ldL a18 w17 fun p19 l20 c21 =>
  CV P F.mem_Mem_Size [.pointer a0] w17 fun v22 w23 =>
  ∃ n24 : Int, v22 = .int .i64 n24 ∧
  (((.int .i64 ((l20 : Nat) : Int) : Value) = .int .i64 ((l20 : Nat) : Int))) ∧
  (ldL a18 w23 fun p25 l26 c27 =>
  ((.slice p25 l26 c27 : Value) = .slice p19 l20 c21)) ∧
  cnd (n24 == ((l20 : Nat) : Int))
  (cnd (n12 == 0)
  (X.runT P (Conv.bytesToString (.slice p9 l10 c11)) w23 fun s28 =>
  nn a1 fun a29 =>
  ldL a29 w23 fun p30 l31 c32 =>
  X.runT P (Conv.bytesToString (.slice p30 l31 c32)) w23 fun s33 =>
  J16 ((((s28 : ByteArray).toList == (s33 : ByteArray).toList) : Bool)) w23)
  (J16 ((false : Bool)) w23))
  (J16 ((false : Bool)) w23))
  fun (s34 : crierlaw04_Same_J7.S) w35 => crierlaw04_Same_j0 Q s34 w35
def crierlaw04_Same_ann : Nat → Option LoopSpec := fun
  | 7 => some crierlaw04_Same_J7
  | 14 => some (ordSpec [0, 2, 3, 4, 5, 6, 1, 7, 8, 9, 10, 11, 12, 13, 14, 15, 16, 17, 18, 19, 20, 21, 22])
  | _ => none
theorem crierlaw04_Same_eq (a0 : Option Addr) (a1 : Option Addr) (w : World) (Q : Value → World → Prop) : fnX P crierlaw04_Same_ann Try.f25 [.pointer a0, .pointer a1] w Q = crierlaw04_Same a0 a1 w Q := by kernel_rfl
theorem crierlaw04_Same_cv {a0 : Option Addr} {a1 : Option Addr} {w : World} {Q : Value → World → Prop} (h : crierlaw04_Same a0 a1 w Q) : CV P F.crierlaw04_Same [.pointer a0, .pointer a1] w Q := CV_of mixed Try.func25 (crierlaw04_Same_eq a0 a1 w Q ▸ h)

/- 26 crier/mem.New -/
def mem_New_J6 : LoopSpec where
  S := Bool
  emb := fun s => [(9, .bool s)]
  ext := fun t => match getL t 9 with
    | some (.bool y2) => some (y2)
    | _ => none
  slots := [9]
  fits := fun _ => rfl
  ok := by
    intro t s h x hx
    (try dsimp only at h hx)
    split at h
    · cases h
      simp only [List.mem_cons, List.not_mem_nil, or_false] at hx
      rcases hx with rfl <;> assumption
    · cases h

def mem_New_j0 (a0 : Int) (Q : Value → World → Prop) (b3 : Bool) (w4 : World) : Prop :=
 cnd b3
 (Q (.tuple [.pointer none, .int .i64 1].toArray) w4)
 (runS P (Instr.makeSlice T.t92 (.int .i64 a0) (.int .i64 a0)) w4 fun p5 l6 c7 w8 =>
 alc [.slice p5 l6 c7] T.t104 w8 fun b9 w10 =>
 Q (.tuple [.pointer (some ⟨b9, 0, none⟩), .int .i64 0].toArray) w10)

def mem_New (a0 : Int) (w : World) (Q : Value → World → Prop) : Prop :=
 JoinT (fun (J11 : mem_New_J6.S → World → Prop) =>
  cnd (decide (a0 < 0))
  (J11 ((true : Bool)) w)
  (J11 (((decide (a0 > 131072)) : Bool)) w))
  fun (s12 : mem_New_J6.S) w13 => mem_New_j0 a0 Q s12 w13
def mem_New_ann : Nat → Option LoopSpec := fun
  | 6 => some mem_New_J6
  | _ => none
theorem mem_New_eq (a0 : Int) (w : World) (Q : Value → World → Prop) : fnX P mem_New_ann Try.f26 [.int .i64 a0] w Q = mem_New a0 w Q := by kernel_rfl
theorem mem_New_cv {a0 : Int} {w : World} {Q : Value → World → Prop} (h : mem_New a0 w Q) : CV P F.mem_New [.int .i64 a0] w Q := CV_of mixed Try.func26 (mem_New_eq a0 w Q ▸ h)

/- 27 (*crier/queue.Queue).SetWrite -/

def queue_Queue_SetWrite (a0 : Option Addr) (a1 : Int) (w : World) (Q : Value → World → Prop) : Prop :=
 nn a0 fun a3 =>
 ldI .i64 a3 w fun n4 =>
 ldI .i64 (a3.add 1) w fun n5 =>
 ldI .i64 (a3.add 2) w fun n6 =>
 ldI .i64 (a3.add 3) w fun n7 =>
 CV P F.queue_Queue_ring [.agg [.int .i64 n4, .int .i64 n5, .int .i64 n6, .int .i64 n7].toArray] w fun v8 w9 =>
 ∃ n10 : Int, ∃ n11 : Int, v8 = .agg [.int .i64 n10, .int .i64 n11].toArray ∧
 CV P F.ring_Ring_May [.agg [.int .i64 n10, .int .i64 n11].toArray, .int .i64 a1] w9 fun v12 w13 =>
 ∃ b14 : Bool, v12 = .bool b14 ∧
 cnd (!b14)
 (Q (.int .i64 1) w13)
 (nn a0 fun a15 =>
 st1 (.int .i64 a1) (a15.add 3) w13 fun w16 =>
 Q (.int .i64 0) w16)
def queue_Queue_SetWrite_ann : Nat → Option LoopSpec := fun _ => none
theorem queue_Queue_SetWrite_eq (a0 : Option Addr) (a1 : Int) (w : World) (Q : Value → World → Prop) : fnX P queue_Queue_SetWrite_ann Try.f27 [.pointer a0, .int .i64 a1] w Q = queue_Queue_SetWrite a0 a1 w Q := by kernel_rfl
theorem queue_Queue_SetWrite_cv {a0 : Option Addr} {a1 : Int} {w : World} {Q : Value → World → Prop} (h : queue_Queue_SetWrite a0 a1 w Q) : CV P F.queue_Queue_SetWrite [.pointer a0, .int .i64 a1] w Q := CV_of mixed Try.func27 (queue_Queue_SetWrite_eq a0 a1 w Q ▸ h)

/- 28 (crier/queue.Queue).ring -/

def queue_Queue_ring (a0_0 : Int) (a0_1 : Int) (a0_2 : Int) (a0_3 : Int) (w : World) (Q : Value → World → Prop) : Prop :=
 alc [.int .i64 a0_0, .int .i64 a0_1, .int .i64 a0_2, .int .i64 a0_3] T.t26 w fun b5 w6 =>
 alc [.int .i64 0, .int .i64 0] T.t76 w6 fun b7 w8 =>
 ldI .i64 ⟨b5, 1, none⟩ w8 fun n9 =>
 st1 (.int .i64 n9) ⟨b7, 0, none⟩ w8 fun w10 =>
 st1 (.int .i64 32) ⟨b7, 1, none⟩ w10 fun w11 =>
 ldI .i64 ⟨b7, 0, none⟩ w11 fun n12 =>
 ldI .i64 ⟨b7, 1, none⟩ w11 fun n13 =>
 Q (.agg [.int .i64 n12, .int .i64 n13].toArray) w11
def queue_Queue_ring_ann : Nat → Option LoopSpec := fun _ => none
theorem queue_Queue_ring_eq (a0_0 : Int) (a0_1 : Int) (a0_2 : Int) (a0_3 : Int) (w : World) (Q : Value → World → Prop) : fnX P queue_Queue_ring_ann Try.f28 [.agg [.int .i64 a0_0, .int .i64 a0_1, .int .i64 a0_2, .int .i64 a0_3].toArray] w Q = queue_Queue_ring a0_0 a0_1 a0_2 a0_3 w Q := by kernel_rfl
theorem queue_Queue_ring_cv {a0_0 : Int} {a0_1 : Int} {a0_2 : Int} {a0_3 : Int} {w : World} {Q : Value → World → Prop} (h : queue_Queue_ring a0_0 a0_1 a0_2 a0_3 w Q) : CV P F.queue_Queue_ring [.agg [.int .i64 a0_0, .int .i64 a0_1, .int .i64 a0_2, .int .i64 a0_3].toArray] w Q := CV_of mixed Try.func28 (queue_Queue_ring_eq a0_0 a0_1 a0_2 a0_3 w Q ▸ h)

/- 29 (crier/ring.Ring).Right -/
def ring_Ring_Right_J6 : LoopSpec where
  S := Bool
  emb := fun s => [(28, .bool s)]
  ext := fun t => match getL t 28 with
    | some (.bool y5) => some (y5)
    | _ => none
  slots := [28]
  fits := fun _ => rfl
  ok := by
    intro t s h x hx
    (try dsimp only at h hx)
    split at h
    · cases h
      simp only [List.mem_cons, List.not_mem_nil, or_false] at hx
      rcases hx with rfl <;> assumption
    · cases h

def ring_Ring_Right_j0 (Q : Value → World → Prop) (b6 : Bool) (w7 : World) : Prop :=
 cnd b6
 (Q (.int .i64 1) w7)
 (Q (.int .i64 0) w7)

def ring_Ring_Right (a0_0 : Int) (a0_1 : Int) (w : World) (Q : Value → World → Prop) : Prop :=
 alc [.int .i64 a0_0, .int .i64 a0_1] T.t76 w fun b3 w4 =>
 JoinT (fun (J8 : ring_Ring_Right_J6.S → World → Prop) =>
  ldI .i64 ⟨b3, 1, none⟩ w4 fun n9 =>
  cnd (decide (n9 < 1))
  (J8 ((true : Bool)) w4)
  (ldI .i64 ⟨b3, 0, none⟩ w4 fun n10 =>
  ldI .i64 ⟨b3, 1, none⟩ w4 fun n11 =>
  cnd (decide (n10 < n11))
  (J8 ((true : Bool)) w4)
  (ldI .i64 ⟨b3, 0, none⟩ w4 fun n12 =>
  ldI .i64 ⟨b3, 1, none⟩ w4 fun n13 =>
  (nz n13 <|
  cnd ((Int.tmod n12 n13) != 0)
  (J8 ((true : Bool)) w4)
  (ldI .i64 ⟨b3, 0, none⟩ w4 fun n14 =>
  ldI .i64 ⟨b3, 1, none⟩ w4 fun n15 =>
  (nz n15 <|
  J8 (((decide ((IntKind.i64.wrap (Int.tdiv n14 n15)) > 1024)) : Bool)) w4))))))
  fun (s16 : ring_Ring_Right_J6.S) w17 => ring_Ring_Right_j0 Q s16 w17
def ring_Ring_Right_ann : Nat → Option LoopSpec := fun
  | 6 => some ring_Ring_Right_J6
  | _ => none
theorem ring_Ring_Right_eq (a0_0 : Int) (a0_1 : Int) (w : World) (Q : Value → World → Prop) : fnX P ring_Ring_Right_ann Try.f29 [.agg [.int .i64 a0_0, .int .i64 a0_1].toArray] w Q = ring_Ring_Right a0_0 a0_1 w Q := by kernel_rfl
theorem ring_Ring_Right_cv {a0_0 : Int} {a0_1 : Int} {w : World} {Q : Value → World → Prop} (h : ring_Ring_Right a0_0 a0_1 w Q) : CV P F.ring_Ring_Right [.agg [.int .i64 a0_0, .int .i64 a0_1].toArray] w Q := CV_of mixed Try.func29 (ring_Ring_Right_eq a0_0 a0_1 w Q ▸ h)

/- 30 (crier/ring.Ring).Left -/
def ring_Ring_Left_J6 : LoopSpec where
  S := Bool
  emb := fun s => [(17, .bool s)]
  ext := fun t => match getL t 17 with
    | some (.bool y7) => some (y7)
    | _ => none
  slots := [17]
  fits := fun _ => rfl
  ok := by
    intro t s h x hx
    (try dsimp only at h hx)
    split at h
    · cases h
      simp only [List.mem_cons, List.not_mem_nil, or_false] at hx
      rcases hx with rfl <;> assumption
    · cases h

def ring_Ring_Left_j0 (a1 : Int) (a2 : Int) (Q : Value → World → Prop) (b5 : Nat) (b8 : Bool) (w9 : World) : Prop :=
 cnd b8
 (Q (.tuple [.int .i64 0, .int .i64 1].toArray) w9)
 (drw w9 fun w10 =>
 ldI .i64 ⟨b5, 0, none⟩ w10 fun n11 =>
 ldI .i64 ⟨b5, 0, none⟩ w10 fun n12 =>
 (nz n12 <|
 ldI .i64 ⟨b5, 1, none⟩ w10 fun n13 =>
 (nz n13 <|
 Q (.tuple [.int .i64 (IntKind.i64.wrap (Int.tdiv (Int.tmod (IntKind.i64.wrap ((IntKind.i64.wrap (a2 - a1)) + n11)) n12) n13)), .int .i64 0].toArray) w10)))

def ring_Ring_Left (a0_0 : Int) (a0_1 : Int) (a1 : Int) (a2 : Int) (w : World) (Q : Value → World → Prop) : Prop :=
 alc [.int .i64 a0_0, .int .i64 a0_1] T.t76 w fun b5 w6 =>
 JoinT (fun (J14 : ring_Ring_Left_J6.S → World → Prop) =>
  ldI .i64 ⟨b5, 0, none⟩ w6 fun n15 =>
  ldI .i64 ⟨b5, 1, none⟩ w6 fun n16 =>
  CV P F.ring_Ring_May [.agg [.int .i64 n15, .int .i64 n16].toArray, .int .i64 a1] w6 fun v17 w18 =>
  ∃ b19 : Bool, v17 = .bool b19 ∧
  cnd (!b19)
  (J14 ((true : Bool)) w18)
  (ldI .i64 ⟨b5, 0, none⟩ w18 fun n20 =>
  ldI .i64 ⟨b5, 1, none⟩ w18 fun n21 =>
  CV P F.ring_Ring_May [.agg [.int .i64 n20, .int .i64 n21].toArray, .int .i64 a2] w18 fun v22 w23 =>
  ∃ b24 : Bool, v22 = .bool b24 ∧
  J14 (((!b24) : Bool)) w23))
  fun (s25 : ring_Ring_Left_J6.S) w26 => ring_Ring_Left_j0 a1 a2 Q b5 s25 w26
def ring_Ring_Left_ann : Nat → Option LoopSpec := fun
  | 6 => some ring_Ring_Left_J6
  | 14 => some (ordSpec [0, 1, 2, 3, 4, 5, 6, 7, 8, 9, 10, 11, 12, 13])
  | _ => none
theorem ring_Ring_Left_eq (a0_0 : Int) (a0_1 : Int) (a1 : Int) (a2 : Int) (w : World) (Q : Value → World → Prop) : fnX P ring_Ring_Left_ann Try.f30 [.agg [.int .i64 a0_0, .int .i64 a0_1].toArray, .int .i64 a1, .int .i64 a2] w Q = ring_Ring_Left a0_0 a0_1 a1 a2 w Q := by kernel_rfl
theorem ring_Ring_Left_cv {a0_0 : Int} {a0_1 : Int} {a1 : Int} {a2 : Int} {w : World} {Q : Value → World → Prop} (h : ring_Ring_Left a0_0 a0_1 a1 a2 w Q) : CV P F.ring_Ring_Left [.agg [.int .i64 a0_0, .int .i64 a0_1].toArray, .int .i64 a1, .int .i64 a2] w Q := CV_of mixed Try.func30 (ring_Ring_Left_eq a0_0 a0_1 a1 a2 w Q ▸ h)

/- 31 (crier/ring.Ring).Room -/

def ring_Ring_Room (a0_0 : Int) (a0_1 : Int) (a1 : Int) (a2 : Int) (w : World) (Q : Value → World → Prop) : Prop :=
 alc [.int .i64 a0_0, .int .i64 a0_1] T.t76 w fun b5 w6 =>
 ldI .i64 ⟨b5, 0, none⟩ w6 fun n7 =>
 ldI .i64 ⟨b5, 1, none⟩ w6 fun n8 =>
 CV P F.ring_Ring_Left [.agg [.int .i64 n7, .int .i64 n8].toArray, .int .i64 a1, .int .i64 a2] w6 fun v9 w10 =>
 ∃ n11 : Int, ∃ n12 : Int, v9 = .tuple [.int .i64 n11, .int .i64 n12].toArray ∧
 cnd (n12 != 0)
 (Q (.tuple [.int .i64 0, .int .i64 n12].toArray) w10)
 (ldI .i64 ⟨b5, 0, none⟩ w10 fun n13 =>
 ldI .i64 ⟨b5, 1, none⟩ w10 fun n14 =>
 (nz n14 <|
 Q (.tuple [.int .i64 (IntKind.i64.wrap ((IntKind.i64.wrap ((IntKind.i64.wrap (Int.tdiv n13 n14)) - 1)) - n11)), .int .i64 0].toArray) w10))
def ring_Ring_Room_ann : Nat → Option LoopSpec := fun _ => none
theorem ring_Ring_Room_eq (a0_0 : Int) (a0_1 : Int) (a1 : Int) (a2 : Int) (w : World) (Q : Value → World → Prop) : fnX P ring_Ring_Room_ann Try.f31 [.agg [.int .i64 a0_0, .int .i64 a0_1].toArray, .int .i64 a1, .int .i64 a2] w Q = ring_Ring_Room a0_0 a0_1 a1 a2 w Q := by kernel_rfl
theorem ring_Ring_Room_cv {a0_0 : Int} {a0_1 : Int} {a1 : Int} {a2 : Int} {w : World} {Q : Value → World → Prop} (h : ring_Ring_Room a0_0 a0_1 a1 a2 w Q) : CV P F.ring_Ring_Room [.agg [.int .i64 a0_0, .int .i64 a0_1].toArray, .int .i64 a1, .int .i64 a2] w Q := CV_of mixed Try.func31 (ring_Ring_Room_eq a0_0 a0_1 a1 a2 w Q ▸ h)

/- 32 crier/cmd.Store -/
def cmd_Store_J61 : LoopSpec where
  S := Bool
  emb := fun s => [(40, .bool s)]
  ext := fun t => match getL t 40 with
    | some (.bool y44) => some (y44)
    | _ => none
  slots := [40]
  fits := fun _ => rfl
  ok := by
    intro t s h x hx
    (try dsimp only at h hx)
    split at h
    · cases h
      simp only [List.mem_cons, List.not_mem_nil, or_false] at hx
      rcases hx with rfl <;> assumption
    · cases h

def cmd_Store_L250 : LoopSpec where
  S := Int
  emb := fun s => [(42, .int .i64 s)]
  ext := fun t => match getL t 42 with
    | some (.int .i64 y51) => some (y51)
    | _ => none
  slots := [42]
  fits := fun _ => rfl
  ok := by
    intro t s h x hx
    (try dsimp only at h hx)
    split at h
    · cases h
      simp only [List.mem_cons, List.not_mem_nil, or_false] at hx
      rcases hx with rfl <;> assumption
    · cases h

def cmd_Store_l0 (a0 : Option Addr) (a2 : Int) (Q : Value → World → Prop) (b14 : Nat) (n47 : Int) (n48 : Int) (n49 : Int) (n50 : Int) (n52 : Int) (w53 : World) (A54 : cmd_Store_L250.S → World → Prop) : Prop :=
 cnd (decide (n52 < 4))
 (ix n52 4 fun j55 => ∃ v56 : Value, ([.int .u64 n47, .int .u64 n48, .int .u64 n49, .int .u64 n50] : List Value)[j55 * 1]? = some v56 ∧
 ∃ n57 : Int, v56 = .int .u64 n57 ∧
 ldI .i64 ⟨b14, 0, none⟩ w53 fun n58 =>
 ldI .i64 ⟨b14, 1, none⟩ w53 fun n59 =>
 CV P F.mem_Mem_Write [.pointer a0, .agg [.int .i64 n58, .int .i64 n59].toArray, .int .i64 (IntKind.i64.wrap (a2 + (IntKind.i64.wrap (8 * n52)))), .int .i64 8, .int .u64 n57] w53 fun v60 w61 =>
 ∃ n62 : Int, v60 = .int .i64 n62 ∧
 A54 (((IntKind.i64.wrap (n52 + 1)) : Int)) w61)
 (Q (.int .i64 0) w53)

def cmd_Store_j1 (a0 : Option Addr) (a2 : Int) (Q : Value → World → Prop) (b14 : Nat) (b34 : Nat) (b45 : Bool) (w46 : World) : Prop :=
 cnd b45
 (Q (.int .i64 42) w46)
 (ldI .u64 ⟨b34, 0, none⟩ w46 fun n47 =>
 ldI .u64 ⟨b34, 1, none⟩ w46 fun n48 =>
 ldI .u64 ⟨b34, 2, none⟩ w46 fun n49 =>
 ldI .u64 ⟨b34, 3, none⟩ w46 fun n50 =>
 LoopT (fun (s63 : cmd_Store_L250.S) w64 A65 => cmd_Store_l0 a0 a2 Q b14 n47 n48 n49 n50 s63 w64 A65) ((0 : Int)) w46)

def cmd_Store (a0 : Option Addr) (a1_0 : Int) (a1_1 : Int) (a2 : Int) (a3_0 : Int) (a3_1 : Int) (a3_2 : Int) (a3_3 : Int) (a3_4 : Int) (a3_5 : Int) (a3_6 : Int) (a3_7 : Int) (a3_8 : Bool) (w : World) (Q : Value → World → Prop) : Prop :=
 alc [.int .i64 a1_0, .int .i64 a1_1] T.t23 w fun b14 w15 =>
 alc [.int .i64 a3_0, .int .i64 a3_1, .int .i64 a3_2, .int .i64 a3_3, .int .i64 a3_4, .int .i64 a3_5, .int .i64 a3_6, .int .i64 a3_7, .bool a3_8] T.t40 w15 fun b16 w17 =>
 ldI .i64 ⟨b16, 0, none⟩ w17 fun n18 =>
 ldI .i64 ⟨b16, 1, none⟩ w17 fun n19 =>
 ldI .i64 ⟨b16, 2, none⟩ w17 fun n20 =>
 ldI .i64 ⟨b16, 3, none⟩ w17 fun n21 =>
 ldI .i64 ⟨b16, 4, none⟩ w17 fun n22 =>
 ldI .i64 ⟨b16, 5, none⟩ w17 fun n23 =>
 ldI .i64 ⟨b16, 6, none⟩ w17 fun n24 =>
 ldI .i64 ⟨b16, 7, none⟩ w17 fun n25 =>
 ldB ⟨b16, 8, none⟩ w17 fun b26 =>
 CV P F.cmd_Encode [.agg [.int .i64 n18, .int .i64 n19, .int .i64 n20, .int .i64 n21, .int .i64 n22, .int .i64 n23, .int .i64 n24, .int .i64 n25, .bool b26].toArray] w17 fun v27 w28 =>
 ∃ n29 : Int, ∃ n30 : Int, ∃ n31 : Int, ∃ n32 : Int, ∃ n33 : Int, v27 = .tuple [.agg [.int .u64 n29, .int .u64 n30, .int .u64 n31, .int .u64 n32].toArray, .int .i64 n33].toArray ∧
 alc [.int .u64 0, .int .u64 0, .int .u64 0, .int .u64 0] T.t51 w28 fun b34 w35 =>
 st1 (.int .u64 n29) ⟨b34, 0, none⟩ w35 fun w36 =>
 st1 (.int .u64 n30) ⟨b34, 1, none⟩ w36 fun w37 =>
 st1 (.int .u64 n31) ⟨b34, 2, none⟩ w37 fun w38 =>
 st1 (.int .u64 n32) ⟨b34, 3, none⟩ w38 fun w39 =>
 cnd (n33 != 0)
 (Q (.int .i64 n33) w39)
 (ldI .i64 ⟨b14, 1, none⟩ w39 fun n40 =>
 CV P F.mem_May [.int .i64 n40, .int .i64 a2, .int .i64 8] w39 fun v41 w42 =>
 ∃ n43 : Int, v41 = .int .i64 n43 ∧
 JoinT (fun (J66 : cmd_Store_J61.S → World → Prop) =>
  cnd (n43 != 0)
  (J66 ((true : Bool)) w42)
  (ldI .i64 ⟨b14, 1, none⟩ w42 fun n67 =>
  cnd (decide (a2 > (IntKind.i64.wrap (n67 - 32))))
  (J66 ((true : Bool)) w42)
  (ldI .i64 ⟨b14, 0, none⟩ w42 fun n68 =>
  ldI .i64 ⟨b14, 1, none⟩ w42 fun n69 =>
  CV P F.mem_Mem_Holds [.pointer a0, .agg [.int .i64 n68, .int .i64 n69].toArray] w42 fun v70 w71 =>
  ∃ b72 : Bool, v70 = .bool b72 ∧
  J66 (((!b72) : Bool)) w71)))
  fun (s73 : cmd_Store_J61.S) w74 => cmd_Store_j1 a0 a2 Q b14 b34 s73 w74)
def cmd_Store_ann : Nat → Option LoopSpec := fun
  | 61 => some cmd_Store_J61
  | 250 => some cmd_Store_L250
  | _ => none
theorem cmd_Store_eq (a0 : Option Addr) (a1_0 : Int) (a1_1 : Int) (a2 : Int) (a3_0 : Int) (a3_1 : Int) (a3_2 : Int) (a3_3 : Int) (a3_4 : Int) (a3_5 : Int) (a3_6 : Int) (a3_7 : Int) (a3_8 : Bool) (w : World) (Q : Value → World → Prop) : fnX P cmd_Store_ann Try.f32 [.pointer a0, .agg [.int .i64 a1_0, .int .i64 a1_1].toArray, .int .i64 a2, .agg [.int .i64 a3_0, .int .i64 a3_1, .int .i64 a3_2, .int .i64 a3_3, .int .i64 a3_4, .int .i64 a3_5, .int .i64 a3_6, .int .i64 a3_7, .bool a3_8].toArray] w Q = cmd_Store a0 a1_0 a1_1 a2 a3_0 a3_1 a3_2 a3_3 a3_4 a3_5 a3_6 a3_7 a3_8 w Q := by kernel_rfl
theorem cmd_Store_cv {a0 : Option Addr} {a1_0 : Int} {a1_1 : Int} {a2 : Int} {a3_0 : Int} {a3_1 : Int} {a3_2 : Int} {a3_3 : Int} {a3_4 : Int} {a3_5 : Int} {a3_6 : Int} {a3_7 : Int} {a3_8 : Bool} {w : World} {Q : Value → World → Prop} (h : cmd_Store a0 a1_0 a1_1 a2 a3_0 a3_1 a3_2 a3_3 a3_4 a3_5 a3_6 a3_7 a3_8 w Q) : CV P F.cmd_Store [.pointer a0, .agg [.int .i64 a1_0, .int .i64 a1_1].toArray, .int .i64 a2, .agg [.int .i64 a3_0, .int .i64 a3_1, .int .i64 a3_2, .int .i64 a3_3, .int .i64 a3_4, .int .i64 a3_5, .int .i64 a3_6, .int .i64 a3_7, .bool a3_8].toArray] w Q := CV_of mixed Try.func32 (cmd_Store_eq a0 a1_0 a1_1 a2 a3_0 a3_1 a3_2 a3_3 a3_4 a3_5 a3_6 a3_7 a3_8 w Q ▸ h)

/- 33 (crier/ring.Ring).Next -/

def ring_Ring_Next (a0_0 : Int) (a0_1 : Int) (a1 : Int) (w : World) (Q : Value → World → Prop) : Prop :=
 alc [.int .i64 a0_0, .int .i64 a0_1] T.t76 w fun b4 w5 =>
 ldI .i64 ⟨b4, 0, none⟩ w5 fun n6 =>
 ldI .i64 ⟨b4, 1, none⟩ w5 fun n7 =>
 CV P F.ring_Ring_May [.agg [.int .i64 n6, .int .i64 n7].toArray, .int .i64 a1] w5 fun v8 w9 =>
 ∃ b10 : Bool, v8 = .bool b10 ∧
 cnd (!b10)
 (Q (.tuple [.int .i64 0, .int .i64 1].toArray) w9)
 (ldI .i64 ⟨b4, 1, none⟩ w9 fun n11 =>
 ldI .i64 ⟨b4, 0, none⟩ w9 fun n12 =>
 (nz n12 <|
 Q (.tuple [.int .i64 (Int.tmod (IntKind.i64.wrap (a1 + n11)) n12), .int .i64 0].toArray) w9))
def ring_Ring_Next_ann : Nat → Option LoopSpec := fun _ => none
theorem ring_Ring_Next_eq (a0_0 : Int) (a0_1 : Int) (a1 : Int) (w : World) (Q : Value → World → Prop) : fnX P ring_Ring_Next_ann Try.f33 [.agg [.int .i64 a0_0, .int .i64 a0_1].toArray, .int .i64 a1] w Q = ring_Ring_Next a0_0 a0_1 a1 w Q := by kernel_rfl
theorem ring_Ring_Next_cv {a0_0 : Int} {a0_1 : Int} {a1 : Int} {w : World} {Q : Value → World → Prop} (h : ring_Ring_Next a0_0 a0_1 a1 w Q) : CV P F.ring_Ring_Next [.agg [.int .i64 a0_0, .int .i64 a0_1].toArray, .int .i64 a1] w Q := CV_of mixed Try.func33 (ring_Ring_Next_eq a0_0 a0_1 a1 w Q ▸ h)

/- 34 crier/cmd.Load -/
def cmd_Load_L58 : LoopSpec where
  S := Int
  emb := fun s => [(12, .int .i64 s)]
  ext := fun t => match getL t 12 with
    | some (.int .i64 y11) => some (y11)
    | _ => none
  slots := [12]
  fits := fun _ => rfl
  ok := by
    intro t s h x hx
    (try dsimp only at h hx)
    split at h
    · cases h
      simp only [List.mem_cons, List.not_mem_nil, or_false] at hx
      rcases hx with rfl <;> assumption
    · cases h

def cmd_Load_l0 (a0 : Option Addr) (a2 : Int) (Q : Value → World → Prop) (b5 : Nat) (b7 : Nat) (b9 : Nat) (n12 : Int) (w13 : World) (A14 : cmd_Load_L58.S → World → Prop) : Prop :=
 cnd (decide (n12 < 4))
 (ldI .i64 ⟨b5, 0, none⟩ w13 fun n15 =>
 ldI .i64 ⟨b5, 1, none⟩ w13 fun n16 =>
 CV P F.mem_Mem_Read [.pointer a0, .agg [.int .i64 n15, .int .i64 n16].toArray, .int .i64 (IntKind.i64.wrap (a2 + (IntKind.i64.wrap (8 * n12)))), .int .i64 8] w13 fun v17 w18 =>
 ∃ n19 : Int, ∃ n20 : Int, v17 = .tuple [.int .u64 n19, .int .i64 n20].toArray ∧
 cnd (n20 != 0)
 (st1 (.int .i64 0) ⟨b7, 0, none⟩ w18 fun w21 =>
 st1 (.int .i64 0) ⟨b7, 1, none⟩ w21 fun w22 =>
 st1 (.int .i64 0) ⟨b7, 2, none⟩ w22 fun w23 =>
 st1 (.int .i64 0) ⟨b7, 3, none⟩ w23 fun w24 =>
 st1 (.int .i64 0) ⟨b7, 4, none⟩ w24 fun w25 =>
 st1 (.int .i64 0) ⟨b7, 5, none⟩ w25 fun w26 =>
 st1 (.int .i64 0) ⟨b7, 6, none⟩ w26 fun w27 =>
 st1 (.int .i64 0) ⟨b7, 7, none⟩ w27 fun w28 =>
 st1 (.bool false) ⟨b7, 8, none⟩ w28 fun w29 =>
 ldI .i64 ⟨b7, 0, none⟩ w29 fun n30 =>
 ldI .i64 ⟨b7, 1, none⟩ w29 fun n31 =>
 ldI .i64 ⟨b7, 2, none⟩ w29 fun n32 =>
 ldI .i64 ⟨b7, 3, none⟩ w29 fun n33 =>
 ldI .i64 ⟨b7, 4, none⟩ w29 fun n34 =>
 ldI .i64 ⟨b7, 5, none⟩ w29 fun n35 =>
 ldI .i64 ⟨b7, 6, none⟩ w29 fun n36 =>
 ldI .i64 ⟨b7, 7, none⟩ w29 fun n37 =>
 ldB ⟨b7, 8, none⟩ w29 fun b38 =>
 Q (.tuple [.agg [.int .i64 n30, .int .i64 n31, .int .i64 n32, .int .i64 n33, .int .i64 n34, .int .i64 n35, .int .i64 n36, .int .i64 n37, .bool b38].toArray, .int .i64 42].toArray) w29)
 (ix n12 4 fun j39 =>
 st1 (.int .u64 n19) (Addr.add ⟨b9, 0, none⟩ (j39 * 1)) w18 fun w40 =>
 A14 (((IntKind.i64.wrap (n12 + 1)) : Int)) w40))
 (ldI .u64 ⟨b9, 0, none⟩ w13 fun n41 =>
 ldI .u64 ⟨b9, 1, none⟩ w13 fun n42 =>
 ldI .u64 ⟨b9, 2, none⟩ w13 fun n43 =>
 ldI .u64 ⟨b9, 3, none⟩ w13 fun n44 =>
 CV P F.cmd_Decode [.agg [.int .u64 n41, .int .u64 n42, .int .u64 n43, .int .u64 n44].toArray] w13 fun v45 w46 =>
 ∃ n47 : Int, ∃ n48 : Int, ∃ n49 : Int, ∃ n50 : Int, ∃ n51 : Int, ∃ n52 : Int, ∃ n53 : Int, ∃ n54 : Int, ∃ b55 : Bool, ∃ n56 : Int, v45 = .tuple [.agg [.int .i64 n47, .int .i64 n48, .int .i64 n49, .int .i64 n50, .int .i64 n51, .int .i64 n52, .int .i64 n53, .int .i64 n54, .bool b55].toArray, .int .i64 n56].toArray ∧
 st1 (.int .i64 n47) ⟨b7, 0, none⟩ w46 fun w57 =>
 st1 (.int .i64 n48) ⟨b7, 1, none⟩ w57 fun w58 =>
 st1 (.int .i64 n49) ⟨b7, 2, none⟩ w58 fun w59 =>
 st1 (.int .i64 n50) ⟨b7, 3, none⟩ w59 fun w60 =>
 st1 (.int .i64 n51) ⟨b7, 4, none⟩ w60 fun w61 =>
 st1 (.int .i64 n52) ⟨b7, 5, none⟩ w61 fun w62 =>
 st1 (.int .i64 n53) ⟨b7, 6, none⟩ w62 fun w63 =>
 st1 (.int .i64 n54) ⟨b7, 7, none⟩ w63 fun w64 =>
 st1 (.bool b55) ⟨b7, 8, none⟩ w64 fun w65 =>
 ldI .i64 ⟨b7, 0, none⟩ w65 fun n66 =>
 ldI .i64 ⟨b7, 1, none⟩ w65 fun n67 =>
 ldI .i64 ⟨b7, 2, none⟩ w65 fun n68 =>
 ldI .i64 ⟨b7, 3, none⟩ w65 fun n69 =>
 ldI .i64 ⟨b7, 4, none⟩ w65 fun n70 =>
 ldI .i64 ⟨b7, 5, none⟩ w65 fun n71 =>
 ldI .i64 ⟨b7, 6, none⟩ w65 fun n72 =>
 ldI .i64 ⟨b7, 7, none⟩ w65 fun n73 =>
 ldB ⟨b7, 8, none⟩ w65 fun b74 =>
 Q (.tuple [.agg [.int .i64 n66, .int .i64 n67, .int .i64 n68, .int .i64 n69, .int .i64 n70, .int .i64 n71, .int .i64 n72, .int .i64 n73, .bool b74].toArray, .int .i64 n56].toArray) w65)

def cmd_Load (a0 : Option Addr) (a1_0 : Int) (a1_1 : Int) (a2 : Int) (w : World) (Q : Value → World → Prop) : Prop :=
 alc [.int .i64 a1_0, .int .i64 a1_1] T.t23 w fun b5 w6 =>
 alc [.int .i64 0, .int .i64 0, .int .i64 0, .int .i64 0, .int .i64 0, .int .i64 0, .int .i64 0, .int .i64 0, .bool false] T.t40 w6 fun b7 w8 =>
 alc [.int .u64 0, .int .u64 0, .int .u64 0, .int .u64 0] T.t51 w8 fun b9 w10 =>
 LoopT (fun (s75 : cmd_Load_L58.S) w76 A77 => cmd_Load_l0 a0 a2 Q b5 b7 b9 s75 w76 A77) ((0 : Int)) w10
def cmd_Load_ann : Nat → Option LoopSpec := fun
  | 58 => some cmd_Load_L58
  | _ => none
theorem cmd_Load_eq (a0 : Option Addr) (a1_0 : Int) (a1_1 : Int) (a2 : Int) (w : World) (Q : Value → World → Prop) : fnX P cmd_Load_ann Try.f34 [.pointer a0, .agg [.int .i64 a1_0, .int .i64 a1_1].toArray, .int .i64 a2] w Q = cmd_Load a0 a1_0 a1_1 a2 w Q := by kernel_rfl
theorem cmd_Load_cv {a0 : Option Addr} {a1_0 : Int} {a1_1 : Int} {a2 : Int} {w : World} {Q : Value → World → Prop} (h : cmd_Load a0 a1_0 a1_1 a2 w Q) : CV P F.cmd_Load [.pointer a0, .agg [.int .i64 a1_0, .int .i64 a1_1].toArray, .int .i64 a2] w Q := CV_of mixed Try.func34 (cmd_Load_eq a0 a1_0 a1_1 a2 w Q ▸ h)

/- 35 (crier/queue.Queue).Each$1 -/
def queue_Queue_Each_1_r0 (f0 : Addr) (f1 : Addr) (b4 : Nat) (l22 : Nat) (r23 : Loop) (vs24 : List Value) (w25 : World) (Q26 : Value → World → Prop) : Prop :=
 X.b1 vs24 fun v27 =>
 ∃ n28 : Int, v27 = .int .i64 n28 ∧
 recAt w25 l22 r23 .ready none ∧ setR w25 l22 r23 .busy none fun w29 =>
 drw w29 fun w30 =>
 ldV ⟨b4, 0, none⟩ w30 fun v31 =>
 ldP f1 w30 fun p32 =>
 ldI .i64 f0 w30 fun n33 =>
 ldI .i64 (f0.add 1) w30 fun n34 =>
 CV P F.cmd_Load [.pointer p32, .agg [.int .i64 n33, .int .i64 n34].toArray, .int .i64 n28] w30 fun v35 w36 =>
 ∃ n37 : Int, ∃ n38 : Int, ∃ n39 : Int, ∃ n40 : Int, ∃ n41 : Int, ∃ n42 : Int, ∃ n43 : Int, ∃ n44 : Int, ∃ b45 : Bool, ∃ n46 : Int, v35 = .tuple [.agg [.int .i64 n37, .int .i64 n38, .int .i64 n39, .int .i64 n40, .int .i64 n41, .int .i64 n42, .int .i64 n43, .int .i64 n44, .bool b45].toArray, .int .i64 n46].toArray ∧
 (ldV ⟨b4, 0, none⟩ w36 fun v47 =>
 ((v47 : Value) = v31)) ∧
 callVal P v31 [.agg [.int .i64 n37, .int .i64 n38, .int .i64 n39, .int .i64 n40, .int .i64 n41, .int .i64 n42, .int .i64 n43, .int .i64 n44, .bool b45].toArray, .int .i64 n46] w36 fun v48 w49 =>
 ∃ b50 : Bool, v48 = .bool b50 ∧
 cnd (!b50)
 (recAt w49 l22 r23 .busy none ∧ setR w49 l22 r23 .done (some .ret) fun w51 => Q26 (.bool false) w51)
 (recAt w49 l22 r23 .busy none ∧ setR w49 l22 r23 .ready none fun w52 => Q26 (.bool true) w52)

def queue_Queue_Each_1 (a0 : Value) (f0 : Addr) (f1 : Addr) (w : World) (Q : Value → World → Prop) : Prop :=
 (oneK a0 <|
 alc [a0] T.t82 w fun b4 w5 =>
 drw w5 fun w6 =>
 ldI .i64 f0 w6 fun n7 =>
 ldI .i64 (f0.add 1) w6 fun n8 =>
 ldI .i64 (f0.add 2) w6 fun n9 =>
 ldI .i64 (f0.add 3) w6 fun n10 =>
 ldI .i64 (f0.add 2) w6 fun n11 =>
 ldI .i64 (f0.add 3) w6 fun n12 =>
 CV P F.queue_Queue_ring [.agg [.int .i64 n7, .int .i64 n8, .int .i64 n9, .int .i64 n10].toArray] w6 fun v13 w14 =>
 ∃ n15 : Int, ∃ n16 : Int, v13 = .agg [.int .i64 n15, .int .i64 n16].toArray ∧
 (ldI .i64 (f0.add 3) w14 fun n17 =>
 ((.int .i64 n17 : Value) = .int .i64 n12)) ∧
 (ldI .i64 (f0.add 2) w14 fun n18 =>
 ((.int .i64 n18 : Value) = .int .i64 n11)) ∧
 CV P F.ring_Ring_Each [.agg [.int .i64 n15, .int .i64 n16].toArray, .int .i64 n11, .int .i64 n12] w14 fun v19 w20 =>
 ∃ v21 : Value, v19 = v21 ∧
 RF P none 1 (v21) w20 (fun l22 r23 vs24 w25 Q26 => queue_Queue_Each_1_r0 f0 f1 b4 l22 r23 vs24 w25 Q26) fun mk53 jp54 w55 =>
 jmpX jp54
 (takeX (mk53 ++ []) w55 fun w56 =>
 Q (.tuple [].toArray) w56)
 (takeX (mk53 ++ []) w55 fun w57 =>
 Q (.tuple [].toArray) w57)
 fun id58 => False)
def queue_Queue_Each_1_ann : Nat → Option LoopSpec := fun
  | 6 => some (ordSpec [0, 2, 3, 4, 5, 1, 6])
  | 116 => some (ordSpec [0, 1, 2, 3, 4, 5, 6, 7, 8, 9])
  | _ => none
theorem queue_Queue_Each_1_eq (a0 : Value) (f0 : Addr) (f1 : Addr) (w : World) (Q : Value → World → Prop) : fnX P queue_Queue_Each_1_ann Try.f35 [a0, .pointer (some f0), .pointer (some f1)] w Q = queue_Queue_Each_1 a0 f0 f1 w Q := by kernel_rfl
theorem queue_Queue_Each_1_cv {a0 : Value} {f0 : Addr} {f1 : Addr} {w : World} {Q : Value → World → Prop} (h : queue_Queue_Each_1 a0 f0 f1 w Q) : CV P F.queue_Queue_Each_1 [a0, .pointer (some f0), .pointer (some f1)] w Q := CV_of mixed Try.func35 (queue_Queue_Each_1_eq a0 f0 f1 w Q ▸ h)

/- 36 (crier/ring.Ring).Each -/

def ring_Ring_Each (a0_0 : Int) (a0_1 : Int) (a1 : Int) (a2 : Int) (w : World) (Q : Value → World → Prop) : Prop :=
 alc [.int .i64 a0_0, .int .i64 a0_1] T.t76 w fun b5 w6 =>
 alc [.int .i64 a1] T.t3 w6 fun b7 w8 =>
 alc [.int .i64 a2] T.t3 w8 fun b9 w10 =>
 Q (.func (.func F.ring_Ring_Each_1) [].toArray [.pointer (some ⟨b5, 0, none⟩), .pointer (some ⟨b7, 0, none⟩), .pointer (some ⟨b9, 0, none⟩)].toArray) w10
def ring_Ring_Each_ann : Nat → Option LoopSpec := fun _ => none
theorem ring_Ring_Each_eq (a0_0 : Int) (a0_1 : Int) (a1 : Int) (a2 : Int) (w : World) (Q : Value → World → Prop) : fnX P ring_Ring_Each_ann Try.f36 [.agg [.int .i64 a0_0, .int .i64 a0_1].toArray, .int .i64 a1, .int .i64 a2] w Q = ring_Ring_Each a0_0 a0_1 a1 a2 w Q := by kernel_rfl
theorem ring_Ring_Each_cv {a0_0 : Int} {a0_1 : Int} {a1 : Int} {a2 : Int} {w : World} {Q : Value → World → Prop} (h : ring_Ring_Each a0_0 a0_1 a1 a2 w Q) : CV P F.ring_Ring_Each [.agg [.int .i64 a0_0, .int .i64 a0_1].toArray, .int .i64 a1, .int .i64 a2] w Q := CV_of mixed Try.func36 (ring_Ring_Each_eq a0_0 a0_1 a1 a2 w Q ▸ h)

/- 37 crier/crierref16.Fields -/
def crierref16_Fields_J31 : LoopSpec where
  S := (Option Addr × Nat × Nat)
  emb := fun s => [(4, .slice s.1 s.2.1 s.2.2)]
  ext := fun t => match getL t 4 with
    | some (.slice y33 y34 y35) => some ((y33, y34, y35))
    | _ => none
  slots := [4]
  fits := fun _ => rfl
  ok := by
    intro t s h x hx
    (try dsimp only at h hx)
    split at h
    · cases h
      simp only [List.mem_cons, List.not_mem_nil, or_false] at hx
      rcases hx with rfl <;> assumption
    · cases h

def crierref16_Fields_J63 : LoopSpec where
  S := (Option Addr × Nat × Nat)
  emb := fun s => [(4, .slice s.1 s.2.1 s.2.2)]
  ext := fun t => match getL t 4 with
    | some (.slice y40 y41 y42) => some ((y40, y41, y42))
    | _ => none
  slots := [4]
  fits := fun _ => rfl
  ok := by
    intro t s h x hx
    (try dsimp only at h hx)
    split at h
    · cases h
      simp only [List.mem_cons, List.not_mem_nil, or_false] at hx
      rcases hx with rfl <;> assumption
    · cases h

def crierref16_Fields_J127 : LoopSpec where
  S := (Option Addr × Nat × Nat)
  emb := fun s => [(4, .slice s.1 s.2.1 s.2.2)]
  ext := fun t => match getL t 4 with
    | some (.slice y47 y48 y49) => some ((y47, y48, y49))
    | _ => none
  slots := [4]
  fits := fun _ => rfl
  ok := by
    intro t s h x hx
    (try dsimp only at h hx)
    split at h
    · cases h
      simp only [List.mem_cons, List.not_mem_nil, or_false] at hx
      rcases hx with rfl <;> assumption
    · cases h

def crierref16_Fields_J255 : LoopSpec where
  S := (Option Addr × Nat × Nat)
  emb := fun s => [(4, .slice s.1 s.2.1 s.2.2)]
  ext := fun t => match getL t 4 with
    | some (.slice y54 y55 y56) => some ((y54, y55, y56))
    | _ => none
  slots := [4]
  fits := fun _ => rfl
  ok := by
    intro t s h x hx
    (try dsimp only at h hx)
    split at h
    · cases h
      simp only [List.mem_cons, List.not_mem_nil, or_false] at hx
      rcases hx with rfl <;> assumption
    · cases h

def crierref16_Fields_J511 : LoopSpec where
  S := (Option Addr × Nat × Nat)
  emb := fun s => [(4, .slice s.1 s.2.1 s.2.2)]
  ext := fun t => match getL t 4 with
    | some (.slice y61 y62 y63) => some ((y61, y62, y63))
    | _ => none
  slots := [4]
  fits := fun _ => rfl
  ok := by
    intro t s h x hx
    (try dsimp only at h hx)
    split at h
    · cases h
      simp only [List.mem_cons, List.not_mem_nil, or_false] at hx
      rcases hx with rfl <;> assumption
    · cases h

def crierref16_Fields_J1023 : LoopSpec where
  S := (Option Addr × Nat × Nat)
  emb := fun s => [(4, .slice s.1 s.2.1 s.2.2)]
  ext := fun t => match getL t 4 with
    | some (.slice y68 y69 y70) => some ((y68, y69, y70))
    | _ => none
  slots := [4]
  fits := fun _ => rfl
  ok := by
    intro t s h x hx
    (try dsimp only at h hx)
    split at h
    · cases h
      simp only [List.mem_cons, List.not_mem_nil, or_false] at hx
      rcases hx with rfl <;> assumption
    · cases h

def crierref16_Fields_J2047 : LoopSpec where
  S := (Option Addr × Nat × Nat)
  emb := fun s => [(4, .slice s.1 s.2.1 s.2.2)]
  ext := fun t => match getL t 4 with
    | some (.slice y75 y76 y77) => some ((y75, y76, y77))
    | _ => none
  slots := [4]
  fits := fun _ => rfl
  ok := by
    intro t s h x hx
    (try dsimp only at h hx)
    split at h
    · cases h
      simp only [List.mem_cons, List.not_mem_nil, or_false] at hx
      rcases hx with rfl <;> assumption
    · cases h

def crierref16_Fields_J4095 : LoopSpec where
  S := (Option Addr × Nat × Nat)
  emb := fun s => [(4, .slice s.1 s.2.1 s.2.2)]
  ext := fun t => match getL t 4 with
    | some (.slice y82 y83 y84) => some ((y82, y83, y84))
    | _ => none
  slots := [4]
  fits := fun _ => rfl
  ok := by
    intro t s h x hx
    (try dsimp only at h hx)
    split at h
    · cases h
      simp only [List.mem_cons, List.not_mem_nil, or_false] at hx
      rcases hx with rfl <;> assumption
    · cases h

def crierref16_Fields_j0 (Q : Value → World → Prop) (b21 : Nat) (p85 : Option Addr) (l86 : Nat) (c87 : Nat) (w88 : World) : Prop :=
 drw w88 fun w89 =>
 ldI .i64 ⟨b21, 0, none⟩ w89 fun n90 =>
 ldI .i64 ⟨b21, 1, none⟩ w89 fun n91 =>
 ldI .i64 ⟨b21, 2, none⟩ w89 fun n92 =>
 ldI .i64 ⟨b21, 3, none⟩ w89 fun n93 =>
 ldI .i64 ⟨b21, 4, none⟩ w89 fun n94 =>
 ldI .i64 ⟨b21, 5, none⟩ w89 fun n95 =>
 ldI .i64 ⟨b21, 6, none⟩ w89 fun n96 =>
 ldI .i64 ⟨b21, 7, none⟩ w89 fun n97 =>
 ldB ⟨b21, 8, none⟩ w89 fun b98 =>
 eqA P .eql T.t40 (.agg [.int .i64 n90, .int .i64 n91, .int .i64 n92, .int .i64 n93, .int .i64 n94, .int .i64 n95, .int .i64 n96, .int .i64 n97, .bool b98].toArray) (.agg [.int .i64 0, .int .i64 0, .int .i64 0, .int .i64 0, .int .i64 0, .int .i64 0, .int .i64 0, .int .i64 0, .bool false].toArray) w89 fun b99 =>
 Q (.tuple [.slice p85 l86 c87, .bool b99].toArray) w89

def crierref16_Fields_J8190 : LoopSpec where
  S := Bool
  emb := fun s => [(107, .bool s)]
  ext := fun t => match getL t 107 with
    | some (.bool y101) => some (y101)
    | _ => none
  slots := [107]
  fits := fun _ => rfl
  ok := by
    intro t s h x hx
    (try dsimp only at h hx)
    split at h
    · cases h
      simp only [List.mem_cons, List.not_mem_nil, or_false] at hx
      rcases hx with rfl <;> assumption
    · cases h

def crierref16_Fields_j1 (b10 : Nat) (b21 : Nat) (p78 : Option Addr) (l79 : Nat) (c80 : Nat) (J100 : crierref16_Fields_J4095.S → World → Prop) (b102 : Bool) (w103 : World) : Prop :=
 cnd b102
 (ldB ⟨b10, 8, none⟩ w103 fun b104 =>
 CV P F.crierref16_one [.bool b104] w103 fun v105 w106 =>
 ∃ n107 : Int, v105 = .int .i64 n107 ∧
 alc [.int .i64 2, .int .i64 63, .int .i64 1, .int .i64 n107] T.t91 w106 fun b108 w109 =>
 runS P (Builtin.append_ #[T.t86, T.t86] T.t86 [.slice p78 l79 c80, .slice (some ⟨b108, 0, none⟩) 1 1].toArray) w109 fun p110 l111 c112 w113 =>
 st1 (.bool false) ⟨b21, 8, none⟩ w113 fun w114 =>
 J100 (((p110 : Option Addr), (l111 : Nat), (c112 : Nat))) w114)
 (J100 (((p78 : Option Addr), (l79 : Nat), (c80 : Nat))) w103)

def crierref16_Fields_j2 (Q : Value → World → Prop) (b10 : Nat) (b21 : Nat) (p78 : Option Addr) (l79 : Nat) (c80 : Nat) (w81 : World) : Prop :=
 JoinT (fun (J100 : crierref16_Fields_J4095.S → World → Prop) =>
  JoinT (fun (J115 : crierref16_Fields_J8190.S → World → Prop) =>
   ldI .i64 ⟨b10, 0, none⟩ w81 fun n116 =>
   cnd (n116 == 8)
   (J115 ((true : Bool)) w81)
   (ldI .i64 ⟨b10, 0, none⟩ w81 fun n117 =>
   J115 (((n117 == 9) : Bool)) w81))
   fun (s118 : crierref16_Fields_J8190.S) w119 => crierref16_Fields_j1 b10 b21 p78 l79 c80 J100 s118 w119)
  fun (s120 : crierref16_Fields_J4095.S) w121 => crierref16_Fields_j0 Q b21 s120.1 s120.2.1 s120.2.2 w121

def crierref16_Fields_J131030 : LoopSpec where
  S := Bool
  emb := fun s => [(91, .bool s)]
  ext := fun t => match getL t 91 with
    | some (.bool y132) => some (y132)
    | _ => none
  slots := [91]
  fits := fun _ => rfl
  ok := by
    intro t s h x hx
    (try dsimp only at h hx)
    split at h
    · cases h
      simp only [List.mem_cons, List.not_mem_nil, or_false] at hx
      rcases hx with rfl <;> assumption
    · cases h

def crierref16_Fields_j3 (Q : Value → World → Prop) (b10 : Nat) (b21 : Nat) (J122 : crierref16_Fields_J2047.S → World → Prop) (p127 : Option Addr) (l128 : Nat) (c129 : Nat) (b133 : Bool) (w134 : World) : Prop :=
 cnd b133
 (Q (.tuple [.slice none 0 0, .bool false].toArray) w134)
 (ldI .i64 ⟨b10, 7, none⟩ w134 fun n135 =>
 (nz 256 <|
 alc [.int .i64 2, .int .i64 8, .int .i64 40, .int .i64 (IntKind.i64.wrap (Int.tdiv n135 256))] T.t91 w134 fun b136 w137 =>
 runS P (Builtin.append_ #[T.t86, T.t86] T.t86 [.slice p127 l128 c129, .slice (some ⟨b136, 0, none⟩) 1 1].toArray) w137 fun p138 l139 c140 w141 =>
 st1 (.int .i64 0) ⟨b21, 7, none⟩ w141 fun w142 =>
 J122 (((p138 : Option Addr), (l139 : Nat), (c140 : Nat))) w142))

def crierref16_Fields_j4 (Q : Value → World → Prop) (b10 : Nat) (b21 : Nat) (p71 : Option Addr) (l72 : Nat) (c73 : Nat) (w74 : World) : Prop :=
 JoinT (fun (J122 : crierref16_Fields_J2047.S → World → Prop) =>
  ldI .i64 ⟨b10, 0, none⟩ w74 fun n123 =>
  cnd (n123 == 8)
  (ldI .i64 ⟨b10, 6, none⟩ w74 fun n124 =>
  alc [.int .i64 1, .int .i64 0, .int .i64 5, .int .i64 n124] T.t91 w74 fun b125 w126 =>
  runS P (Builtin.append_ #[T.t86, T.t86] T.t86 [.slice p71 l72 c73, .slice (some ⟨b125, 0, none⟩) 1 1].toArray) w126 fun p127 l128 c129 w130 =>
  st1 (.int .i64 0) ⟨b21, 6, none⟩ w130 fun w131 =>
  JoinT (fun (J143 : crierref16_Fields_J131030.S → World → Prop) =>
   ldI .i64 ⟨b10, 7, none⟩ w131 fun n144 =>
   cnd (decide (n144 < 0))
   (J143 ((true : Bool)) w131)
   (ldI .i64 ⟨b10, 7, none⟩ w131 fun n145 =>
   (nz 256 <|
   J143 ((((Int.tmod n145 256) != 0) : Bool)) w131)))
   fun (s146 : crierref16_Fields_J131030.S) w147 => crierref16_Fields_j3 Q b10 b21 J122 p127 l128 c129 s146 w147)
  (J122 (((p71 : Option Addr), (l72 : Nat), (c73 : Nat))) w74))
  fun (s148 : crierref16_Fields_J2047.S) w149 => crierref16_Fields_j2 Q b10 b21 s148.1 s148.2.1 s148.2.2 w149

def crierref16_Fields_j5 (Q : Value → World → Prop) (b10 : Nat) (b21 : Nat) (p64 : Option Addr) (l65 : Nat) (c66 : Nat) (w67 : World) : Prop :=
 JoinT (fun (J150 : crierref16_Fields_J1023.S → World → Prop) =>
  ldI .i64 ⟨b10, 0, none⟩ w67 fun n151 =>
  alc [.int .i64 9, .int .i64 14, .int .i64 5] T.t38 w67 fun b152 w153 =>
  CV P F.crierref16_has [.int .i64 n151, .slice (some ⟨b152, 0, none⟩) 3 3] w153 fun v154 w155 =>
  ∃ b156 : Bool, v154 = .bool b156 ∧
  cnd b156
  (ldI .i64 ⟨b10, 5, none⟩ w155 fun n157 =>
  alc [.int .i64 2, .int .i64 16, .int .i64 16, .int .i64 n157] T.t91 w155 fun b158 w159 =>
  runS P (Builtin.append_ #[T.t86, T.t86] T.t86 [.slice p64 l65 c66, .slice (some ⟨b158, 0, none⟩) 1 1].toArray) w159 fun p160 l161 c162 w163 =>
  st1 (.int .i64 0) ⟨b21, 5, none⟩ w163 fun w164 =>
  J150 (((p160 : Option Addr), (l161 : Nat), (c162 : Nat))) w164)
  (J150 (((p64 : Option Addr), (l65 : Nat), (c66 : Nat))) w155))
  fun (s165 : crierref16_Fields_J1023.S) w166 => crierref16_Fields_j4 Q b10 b21 s165.1 s165.2.1 s165.2.2 w166

def crierref16_Fields_j6 (Q : Value → World → Prop) (b10 : Nat) (b21 : Nat) (p57 : Option Addr) (l58 : Nat) (c59 : Nat) (w60 : World) : Prop :=
 JoinT (fun (J167 : crierref16_Fields_J511.S → World → Prop) =>
  ldI .i64 ⟨b10, 0, none⟩ w60 fun n168 =>
  alc [.int .i64 9, .int .i64 10, .int .i64 11, .int .i64 1, .int .i64 13] T.t38 w60 fun b169 w170 =>
  CV P F.crierref16_has [.int .i64 n168, .slice (some ⟨b169, 0, none⟩) 5 5] w170 fun v171 w172 =>
  ∃ b173 : Bool, v171 = .bool b173 ∧
  cnd b173
  (ldI .i64 ⟨b10, 4, none⟩ w172 fun n174 =>
  alc [.int .i64 2, .int .i64 0, .int .i64 16, .int .i64 n174] T.t91 w172 fun b175 w176 =>
  runS P (Builtin.append_ #[T.t86, T.t86] T.t86 [.slice p57 l58 c59, .slice (some ⟨b175, 0, none⟩) 1 1].toArray) w176 fun p177 l178 c179 w180 =>
  st1 (.int .i64 0) ⟨b21, 4, none⟩ w180 fun w181 =>
  J167 (((p177 : Option Addr), (l178 : Nat), (c179 : Nat))) w181)
  (J167 (((p57 : Option Addr), (l58 : Nat), (c59 : Nat))) w172))
  fun (s182 : crierref16_Fields_J511.S) w183 => crierref16_Fields_j5 Q b10 b21 s182.1 s182.2.1 s182.2.2 w183

def crierref16_Fields_j7 (Q : Value → World → Prop) (b10 : Nat) (b21 : Nat) (p50 : Option Addr) (l51 : Nat) (c52 : Nat) (w53 : World) : Prop :=
 JoinT (fun (J184 : crierref16_Fields_J255.S → World → Prop) =>
  ldI .i64 ⟨b10, 0, none⟩ w53 fun n185 =>
  cnd (n185 == 14)
  (ldI .i64 ⟨b10, 3, none⟩ w53 fun n186 =>
  alc [.int .i64 3, .int .i64 16, .int .i64 16, .int .i64 n186] T.t91 w53 fun b187 w188 =>
  runS P (Builtin.append_ #[T.t86, T.t86] T.t86 [.slice p50 l51 c52, .slice (some ⟨b187, 0, none⟩) 1 1].toArray) w188 fun p189 l190 c191 w192 =>
  st1 (.int .i64 0) ⟨b21, 3, none⟩ w192 fun w193 =>
  J184 (((p189 : Option Addr), (l190 : Nat), (c191 : Nat))) w193)
  (J184 (((p50 : Option Addr), (l51 : Nat), (c52 : Nat))) w53))
  fun (s194 : crierref16_Fields_J255.S) w195 => crierref16_Fields_j6 Q b10 b21 s194.1 s194.2.1 s194.2.2 w195

def crierref16_Fields_j8 (Q : Value → World → Prop) (b10 : Nat) (b21 : Nat) (p43 : Option Addr) (l44 : Nat) (c45 : Nat) (w46 : World) : Prop :=
 JoinT (fun (J196 : crierref16_Fields_J127.S → World → Prop) =>
  ldI .i64 ⟨b10, 0, none⟩ w46 fun n197 =>
  cnd (n197 == 10)
  (ldI .i64 ⟨b10, 3, none⟩ w46 fun n198 =>
  alc [.int .i64 1, .int .i64 32, .int .i64 32, .int .i64 n198] T.t91 w46 fun b199 w200 =>
  runS P (Builtin.append_ #[T.t86, T.t86] T.t86 [.slice p43 l44 c45, .slice (some ⟨b199, 0, none⟩) 1 1].toArray) w200 fun p201 l202 c203 w204 =>
  st1 (.int .i64 0) ⟨b21, 3, none⟩ w204 fun w205 =>
  J196 (((p201 : Option Addr), (l202 : Nat), (c203 : Nat))) w205)
  (J196 (((p43 : Option Addr), (l44 : Nat), (c45 : Nat))) w46))
  fun (s206 : crierref16_Fields_J127.S) w207 => crierref16_Fields_j7 Q b10 b21 s206.1 s206.2.1 s206.2.2 w207

def crierref16_Fields_j9 (Q : Value → World → Prop) (b10 : Nat) (b21 : Nat) (p36 : Option Addr) (l37 : Nat) (c38 : Nat) (w39 : World) : Prop :=
 JoinT (fun (J208 : crierref16_Fields_J63.S → World → Prop) =>
  ldI .i64 ⟨b10, 0, none⟩ w39 fun n209 =>
  alc [.int .i64 10, .int .i64 11, .int .i64 1, .int .i64 3, .int .i64 4, .int .i64 12, .int .i64 15] T.t38 w39 fun b210 w211 =>
  CV P F.crierref16_has [.int .i64 n209, .slice (some ⟨b210, 0, none⟩) 7 7] w211 fun v212 w213 =>
  ∃ b214 : Bool, v212 = .bool b214 ∧
  cnd b214
  (ldI .i64 ⟨b10, 2, none⟩ w213 fun n215 =>
  alc [.int .i64 1, .int .i64 0, .int .i64 32, .int .i64 n215] T.t91 w213 fun b216 w217 =>
  runS P (Builtin.append_ #[T.t86, T.t86] T.t86 [.slice p36 l37 c38, .slice (some ⟨b216, 0, none⟩) 1 1].toArray) w217 fun p218 l219 c220 w221 =>
  st1 (.int .i64 0) ⟨b21, 2, none⟩ w221 fun w222 =>
  J208 (((p218 : Option Addr), (l219 : Nat), (c220 : Nat))) w222)
  (J208 (((p36 : Option Addr), (l37 : Nat), (c38 : Nat))) w213))
  fun (s223 : crierref16_Fields_J63.S) w224 => crierref16_Fields_j8 Q b10 b21 s223.1 s223.2.1 s223.2.2 w224

def crierref16_Fields (a0_0 : Int) (a0_1 : Int) (a0_2 : Int) (a0_3 : Int) (a0_4 : Int) (a0_5 : Int) (a0_6 : Int) (a0_7 : Int) (a0_8 : Bool) (w : World) (Q : Value → World → Prop) : Prop :=
 alc [.int .i64 a0_0, .int .i64 a0_1, .int .i64 a0_2, .int .i64 a0_3, .int .i64 a0_4, .int .i64 a0_5, .int .i64 a0_6, .int .i64 a0_7, .bool a0_8] T.t40 w fun b10 w11 =>
 ldI .i64 ⟨b10, 0, none⟩ w11 fun n12 =>
 ldI .i64 ⟨b10, 1, none⟩ w11 fun n13 =>
 ldI .i64 ⟨b10, 2, none⟩ w11 fun n14 =>
 ldI .i64 ⟨b10, 3, none⟩ w11 fun n15 =>
 ldI .i64 ⟨b10, 4, none⟩ w11 fun n16 =>
 ldI .i64 ⟨b10, 5, none⟩ w11 fun n17 =>
 ldI .i64 ⟨b10, 6, none⟩ w11 fun n18 =>
 ldI .i64 ⟨b10, 7, none⟩ w11 fun n19 =>
 ldB ⟨b10, 8, none⟩ w11 fun b20 =>
 alc [.int .i64 0, .int .i64 0, .int .i64 0, .int .i64 0, .int .i64 0, .int .i64 0, .int .i64 0, .int .i64 0, .bool false] T.t40 w11 fun b21 w22 =>
 st1 (.int .i64 n12) ⟨b21, 0, none⟩ w22 fun w23 =>
 st1 (.int .i64 n13) ⟨b21, 1, none⟩ w23 fun w24 =>
 st1 (.int .i64 n14) ⟨b21, 2, none⟩ w24 fun w25 =>
 st1 (.int .i64 n15) ⟨b21, 3, none⟩ w25 fun w26 =>
 st1 (.int .i64 n16) ⟨b21, 4, none⟩ w26 fun w27 =>
 st1 (.int .i64 n17) ⟨b21, 5, none⟩ w27 fun w28 =>
 st1 (.int .i64 n18) ⟨b21, 6, none⟩ w28 fun w29 =>
 st1 (.int .i64 n19) ⟨b21, 7, none⟩ w29 fun w30 =>
 st1 (.bool b20) ⟨b21, 8, none⟩ w30 fun w31 =>
 st1 (.int .i64 0) ⟨b21, 0, none⟩ w31 fun w32 =>
 JoinT (fun (J225 : crierref16_Fields_J31.S → World → Prop) =>
  ldI .i64 ⟨b10, 0, none⟩ w32 fun n226 =>
  alc [.int .i64 9, .int .i64 13, .int .i64 14, .int .i64 5] T.t38 w32 fun b227 w228 =>
  CV P F.crierref16_has [.int .i64 n226, .slice (some ⟨b227, 0, none⟩) 4 4] w228 fun v229 w230 =>
  ∃ b231 : Bool, v229 = .bool b231 ∧
  cnd (!b231)
  (ldI .i64 ⟨b10, 1, none⟩ w230 fun n232 =>
  alc [.int .i64 0, .int .i64 32, .int .i64 32, .int .i64 n232] T.t91 w230 fun b233 w234 =>
  runS P (Builtin.append_ #[T.t86, T.t86] T.t86 [.slice none 0 0, .slice (some ⟨b233, 0, none⟩) 1 1].toArray) w234 fun p235 l236 c237 w238 =>
  st1 (.int .i64 0) ⟨b21, 1, none⟩ w238 fun w239 =>
  J225 (((p235 : Option Addr), (l236 : Nat), (c237 : Nat))) w239)
  (J225 (((none : Option Addr), (0 : Nat), (0 : Nat))) w230))
  fun (s240 : crierref16_Fields_J31.S) w241 => crierref16_Fields_j9 Q b10 b21 s240.1 s240.2.1 s240.2.2 w241
def crierref16_Fields_ann : Nat → Option LoopSpec := fun
  | 31 => some crierref16_Fields_J31
  | 63 => some crierref16_Fields_J63
  | 127 => some crierref16_Fields_J127
  | 255 => some crierref16_Fields_J255
  | 511 => some crierref16_Fields_J511
  | 1023 => some crierref16_Fields_J1023
  | 2047 => some crierref16_Fields_J2047
  | 4095 => some crierref16_Fields_J4095
  | 16382 => some (ordSpec [0, 1, 2, 3, 4, 5])
  | 8190 => some crierref16_Fields_J8190
  | 131030 => some crierref16_Fields_J131030
  | _ => none
theorem crierref16_Fields_eq (a0_0 : Int) (a0_1 : Int) (a0_2 : Int) (a0_3 : Int) (a0_4 : Int) (a0_5 : Int) (a0_6 : Int) (a0_7 : Int) (a0_8 : Bool) (w : World) (Q : Value → World → Prop) : fnX P crierref16_Fields_ann Try.f37 [.agg [.int .i64 a0_0, .int .i64 a0_1, .int .i64 a0_2, .int .i64 a0_3, .int .i64 a0_4, .int .i64 a0_5, .int .i64 a0_6, .int .i64 a0_7, .bool a0_8].toArray] w Q = crierref16_Fields a0_0 a0_1 a0_2 a0_3 a0_4 a0_5 a0_6 a0_7 a0_8 w Q := by kernel_rfl
theorem crierref16_Fields_cv {a0_0 : Int} {a0_1 : Int} {a0_2 : Int} {a0_3 : Int} {a0_4 : Int} {a0_5 : Int} {a0_6 : Int} {a0_7 : Int} {a0_8 : Bool} {w : World} {Q : Value → World → Prop} (h : crierref16_Fields a0_0 a0_1 a0_2 a0_3 a0_4 a0_5 a0_6 a0_7 a0_8 w Q) : CV P F.crierref16_Fields [.agg [.int .i64 a0_0, .int .i64 a0_1, .int .i64 a0_2, .int .i64 a0_3, .int .i64 a0_4, .int .i64 a0_5, .int .i64 a0_6, .int .i64 a0_7, .bool a0_8].toArray] w Q := CV_of mixed Try.func37 (crierref16_Fields_eq a0_0 a0_1 a0_2 a0_3 a0_4 a0_5 a0_6 a0_7 a0_8 w Q ▸ h)

/- 38 crier/crierref16.Known -/

def crierref16_Known (a0 : Int) (w : World) (Q : Value → World → Prop) : Prop :=
 alc [.int .i64 1, .int .i64 3, .int .i64 4, .int .i64 5, .int .i64 8, .int .i64 9, .int .i64 10, .int .i64 11, .int .i64 12, .int .i64 13, .int .i64 14, .int .i64 15] T.t38 w fun b2 w3 =>
 CV P F.crierref16_has [.int .i64 a0, .slice (some ⟨b2, 0, none⟩) 12 12] w3 fun v4 w5 =>
 ∃ b6 : Bool, v4 = .bool b6 ∧
 Q (.bool b6) w5
def crierref16_Known_ann : Nat → Option LoopSpec := fun _ => none
theorem crierref16_Known_eq (a0 : Int) (w : World) (Q : Value → World → Prop) : fnX P crierref16_Known_ann Try.f38 [.int .i64 a0] w Q = crierref16_Known a0 w Q := by kernel_rfl
theorem crierref16_Known_cv {a0 : Int} {w : World} {Q : Value → World → Prop} (h : crierref16_Known a0 w Q) : CV P F.crierref16_Known [.int .i64 a0] w Q := CV_of mixed Try.func38 (crierref16_Known_eq a0 w Q ▸ h)

/- 39 (*crier/crierref17.Queue).Put -/
def crierref17_Queue_Put_J15 : LoopSpec where
  S := Unit
  emb := fun _ => []
  ext := fun _ => some ()
  slots := []
  fits := fun _ => rfl
  ok := by
    intro t s h x hx; cases hx

def crierref17_Queue_Put_j0 (Q : Value → World → Prop) (n39 : Int) (w40 : World) : Prop :=
 Q (.int .i64 n39) w40

def crierref17_Queue_Put (a0 : Option Addr) (a1 : Option Addr) (a2_0 : Int) (a2_1 : Int) (a2_2 : Int) (a2_3 : Int) (a2_4 : Int) (a2_5 : Int) (a2_6 : Int) (a2_7 : Int) (a2_8 : Bool) (w : World) (Q : Value → World → Prop) : Prop :=
 alc [.int .i64 a2_0, .int .i64 a2_1, .int .i64 a2_2, .int .i64 a2_3, .int .i64 a2_4, .int .i64 a2_5, .int .i64 a2_6, .int .i64 a2_7, .bool a2_8] T.t40 w fun b12 w13 =>
 nn a0 fun a14 =>
 ldI .i64 a14 w13 fun n15 =>
 ldI .i64 (a14.add 1) w13 fun n16 =>
 ldI .i64 (a14.add 2) w13 fun n17 =>
 ldI .i64 (a14.add 3) w13 fun n18 =>
 CV P F.crierref17_Queue_Room [.agg [.int .i64 n15, .int .i64 n16, .int .i64 n17, .int .i64 n18].toArray] w13 fun v19 w20 =>
 ∃ n21 : Int, v19 = .int .i64 n21 ∧
 cnd (decide (n21 < 1))
 (Q (.int .i64 2) w20)
 (drw w20 fun w22 =>
 nn a0 fun a23 =>
 ldI .i64 a23 w22 fun n24 =>
 ldI .i64 (a23.add 1) w22 fun n25 =>
 nn a0 fun a26 =>
 ldI .i64 (a26.add 3) w22 fun n27 =>
 ldI .i64 ⟨b12, 0, none⟩ w22 fun n28 =>
 ldI .i64 ⟨b12, 1, none⟩ w22 fun n29 =>
 ldI .i64 ⟨b12, 2, none⟩ w22 fun n30 =>
 ldI .i64 ⟨b12, 3, none⟩ w22 fun n31 =>
 ldI .i64 ⟨b12, 4, none⟩ w22 fun n32 =>
 ldI .i64 ⟨b12, 5, none⟩ w22 fun n33 =>
 ldI .i64 ⟨b12, 6, none⟩ w22 fun n34 =>
 ldI .i64 ⟨b12, 7, none⟩ w22 fun n35 =>
 ldB ⟨b12, 8, none⟩ w22 fun b36 =>
 CV P F.crierref16_Store [.pointer a1, .agg [.int .i64 n24, .int .i64 n25].toArray, .int .i64 n27, .agg [.int .i64 n28, .int .i64 n29, .int .i64 n30, .int .i64 n31, .int .i64 n32, .int .i64 n33, .int .i64 n34, .int .i64 n35, .bool b36].toArray] w22 fun v37 w38 =>
 ∃ n39 : Int, v37 = .int .i64 n39 ∧
 JoinT (fun (J41 : crierref17_Queue_Put_J15.S → World → Prop) =>
  cnd (n39 == 0)
  (drw w38 fun w42 =>
  nn a0 fun a43 =>
  ldI .i64 a43 w42 fun n44 =>
  ldI .i64 (a43.add 1) w42 fun n45 =>
  ldI .i64 (a43.add 2) w42 fun n46 =>
  ldI .i64 (a43.add 3) w42 fun n47 =>
  nn a0 fun a48 =>
  ldI .i64 (a48.add 3) w42 fun n49 =>
  CV P F.crierref17_Queue_next [.agg [.int .i64 n44, .int .i64 n45, .int .i64 n46, .int .i64 n47].toArray, .int .i64 n49] w42 fun v50 w51 =>
  ∃ n52 : Int, v50 = .int .i64 n52 ∧
  nn a0 fun a53 =>
  st1 (.int .i64 n52) (a53.add 3) w51 fun w54 =>
  J41 () w54)
  (J41 () w38))
  fun (s55 : crierref17_Queue_Put_J15.S) w56 => crierref17_Queue_Put_j0 Q n39 w56)
def crierref17_Queue_Put_ann : Nat → Option LoopSpec := fun
  | 14 => some (ordSpec [0, 1, 2, 3, 4, 5, 6, 7, 8, 9, 10, 11])
  | 15 => some crierref17_Queue_Put_J15
  | 122 => some (ordSpec [0, 1, 2, 3, 4, 5, 6, 7, 8, 9, 10, 11])
  | _ => none
theorem crierref17_Queue_Put_eq (a0 : Option Addr) (a1 : Option Addr) (a2_0 : Int) (a2_1 : Int) (a2_2 : Int) (a2_3 : Int) (a2_4 : Int) (a2_5 : Int) (a2_6 : Int) (a2_7 : Int) (a2_8 : Bool) (w : World) (Q : Value → World → Prop) : fnX P crierref17_Queue_Put_ann Try.f39 [.pointer a0, .pointer a1, .agg [.int .i64 a2_0, .int .i64 a2_1, .int .i64 a2_2, .int .i64 a2_3, .int .i64 a2_4, .int .i64 a2_5, .int .i64 a2_6, .int .i64 a2_7, .bool a2_8].toArray] w Q = crierref17_Queue_Put a0 a1 a2_0 a2_1 a2_2 a2_3 a2_4 a2_5 a2_6 a2_7 a2_8 w Q := by kernel_rfl
theorem crierref17_Queue_Put_cv {a0 : Option Addr} {a1 : Option Addr} {a2_0 : Int} {a2_1 : Int} {a2_2 : Int} {a2_3 : Int} {a2_4 : Int} {a2_5 : Int} {a2_6 : Int} {a2_7 : Int} {a2_8 : Bool} {w : World} {Q : Value → World → Prop} (h : crierref17_Queue_Put a0 a1 a2_0 a2_1 a2_2 a2_3 a2_4 a2_5 a2_6 a2_7 a2_8 w Q) : CV P F.crierref17_Queue_Put [.pointer a0, .pointer a1, .agg [.int .i64 a2_0, .int .i64 a2_1, .int .i64 a2_2, .int .i64 a2_3, .int .i64 a2_4, .int .i64 a2_5, .int .i64 a2_6, .int .i64 a2_7, .bool a2_8].toArray] w Q := CV_of mixed Try.func39 (crierref17_Queue_Put_eq a0 a1 a2_0 a2_1 a2_2 a2_3 a2_4 a2_5 a2_6 a2_7 a2_8 w Q ▸ h)

/- 40 (*crier/crierref17.Queue).Pass -/

def crierref17_Queue_Pass (a0 : Option Addr) (w : World) (Q : Value → World → Prop) : Prop :=
 nn a0 fun a2 =>
 ldI .i64 a2 w fun n3 =>
 ldI .i64 (a2.add 1) w fun n4 =>
 ldI .i64 (a2.add 2) w fun n5 =>
 ldI .i64 (a2.add 3) w fun n6 =>
 CV P F.crierref17_Queue_Waits [.agg [.int .i64 n3, .int .i64 n4, .int .i64 n5, .int .i64 n6].toArray] w fun v7 w8 =>
 ∃ (p9 : Option Addr) (l10 c11 : Nat), v7 = .slice p9 l10 c11 ∧
 cnd (((l10 : Nat) : Int) == 0)
 (Q (.int .i64 170) w8)
 (drw w8 fun w12 =>
 nn a0 fun a13 =>
 ldI .i64 a13 w12 fun n14 =>
 ldI .i64 (a13.add 1) w12 fun n15 =>
 ldI .i64 (a13.add 2) w12 fun n16 =>
 ldI .i64 (a13.add 3) w12 fun n17 =>
 nn a0 fun a18 =>
 ldI .i64 (a18.add 2) w12 fun n19 =>
 CV P F.crierref17_Queue_next [.agg [.int .i64 n14, .int .i64 n15, .int .i64 n16, .int .i64 n17].toArray, .int .i64 n19] w12 fun v20 w21 =>
 ∃ n22 : Int, v20 = .int .i64 n22 ∧
 nn a0 fun a23 =>
 st1 (.int .i64 n22) (a23.add 2) w21 fun w24 =>
 Q (.int .i64 0) w24)
def crierref17_Queue_Pass_ann : Nat → Option LoopSpec := fun
  | 14 => some (ordSpec [0, 1, 2, 3, 4, 5, 6, 7, 8, 9, 10, 11])
  | _ => none
theorem crierref17_Queue_Pass_eq (a0 : Option Addr) (w : World) (Q : Value → World → Prop) : fnX P crierref17_Queue_Pass_ann Try.f40 [.pointer a0] w Q = crierref17_Queue_Pass a0 w Q := by kernel_rfl
theorem crierref17_Queue_Pass_cv {a0 : Option Addr} {w : World} {Q : Value → World → Prop} (h : crierref17_Queue_Pass a0 w Q) : CV P F.crierref17_Queue_Pass [.pointer a0] w Q := CV_of mixed Try.func40 (crierref17_Queue_Pass_eq a0 w Q ▸ h)

/- 41 (*crier/crierref17.Queue).SetWrite -/

def crierref17_Queue_SetWrite (a0 : Option Addr) (a1 : Int) (w : World) (Q : Value → World → Prop) : Prop :=
 nn a0 fun a3 =>
 ldI .i64 a3 w fun n4 =>
 ldI .i64 (a3.add 1) w fun n5 =>
 ldI .i64 (a3.add 2) w fun n6 =>
 ldI .i64 (a3.add 3) w fun n7 =>
 CV P F.crierref17_Queue_may [.agg [.int .i64 n4, .int .i64 n5, .int .i64 n6, .int .i64 n7].toArray, .int .i64 a1] w fun v8 w9 =>
 ∃ b10 : Bool, v8 = .bool b10 ∧
 cnd (!b10)
 (Q (.int .i64 1) w9)
 (nn a0 fun a11 =>
 st1 (.int .i64 a1) (a11.add 3) w9 fun w12 =>
 Q (.int .i64 0) w12)
def crierref17_Queue_SetWrite_ann : Nat → Option LoopSpec := fun _ => none
theorem crierref17_Queue_SetWrite_eq (a0 : Option Addr) (a1 : Int) (w : World) (Q : Value → World → Prop) : fnX P crierref17_Queue_SetWrite_ann Try.f41 [.pointer a0, .int .i64 a1] w Q = crierref17_Queue_SetWrite a0 a1 w Q := by kernel_rfl
theorem crierref17_Queue_SetWrite_cv {a0 : Option Addr} {a1 : Int} {w : World} {Q : Value → World → Prop} (h : crierref17_Queue_SetWrite a0 a1 w Q) : CV P F.crierref17_Queue_SetWrite [.pointer a0, .int .i64 a1] w Q := CV_of mixed Try.func41 (crierref17_Queue_SetWrite_eq a0 a1 w Q ▸ h)

/- 42 (*crier/mem.Mem).Size -/

def mem_Mem_Size (a0 : Option Addr) (w : World) (Q : Value → World → Prop) : Prop :=
 nn a0 fun a2 =>
 ldL a2 w fun p3 l4 c5 =>
 Q (.int .i64 ((l4 : Nat) : Int)) w
def mem_Mem_Size_ann : Nat → Option LoopSpec := fun _ => none
theorem mem_Mem_Size_eq (a0 : Option Addr) (w : World) (Q : Value → World → Prop) : fnX P mem_Mem_Size_ann Try.f42 [.pointer a0] w Q = mem_Mem_Size a0 w Q := by kernel_rfl
theorem mem_Mem_Size_cv {a0 : Option Addr} {w : World} {Q : Value → World → Prop} (h : mem_Mem_Size a0 w Q) : CV P F.mem_Mem_Size [.pointer a0] w Q := CV_of mixed Try.func42 (mem_Mem_Size_eq a0 w Q ▸ h)

/- 43 (*crier/mem.Mem).Write -/
def mem_Mem_Write_L58 : LoopSpec where
  S := Int
  emb := fun s => [(24, .int .i64 s)]
  ext := fun t => match getL t 24 with
    | some (.int .i64 y17) => some (y17)
    | _ => none
  slots := [24]
  fits := fun _ => rfl
  ok := by
    intro t s h x hx
    (try dsimp only at h hx)
    split at h
    · cases h
      simp only [List.mem_cons, List.not_mem_nil, or_false] at hx
      rcases hx with rfl <;> assumption
    · cases h

def mem_Mem_Write_l0 (a4 : Int) (Q : Value → World → Prop) (p13 : Option Addr) (l14 : Nat) (n16 : Int) (n18 : Int) (w19 : World) (A20 : mem_Mem_Write_L58.S → World → Prop) : Prop :=
 cnd (decide (n18 < ((l14 : Nat) : Int)))
 ((nng (IntKind.i64.wrap (8 * n18)) <|
 ix n18 l14 fun j21 => nn p13 fun a22 =>
 st1 (.int .u8 (IntKind.u8.wrap ((Int.fdiv a4 (2 ^ min (Int.toNat (IntKind.i64.wrap (8 * n18))) (IntKind.u64.bits)))))) (a22.add (j21 * 1)) w19 fun w23 =>
 A20 (((IntKind.i64.wrap (n18 + 1)) : Int)) w23))
 (Q (.int .i64 n16) w19)

def mem_Mem_Write (a0 : Option Addr) (a1_0 : Int) (a1_1 : Int) (a2 : Int) (a3 : Int) (a4 : Int) (w : World) (Q : Value → World → Prop) : Prop :=
 alc [.int .i64 a1_0, .int .i64 a1_1] T.t23 w fun b7 w8 =>
 ldI .i64 ⟨b7, 0, none⟩ w8 fun n9 =>
 ldI .i64 ⟨b7, 1, none⟩ w8 fun n10 =>
 CV P F.mem_Mem_part [.pointer a0, .agg [.int .i64 n9, .int .i64 n10].toArray, .int .i64 a2, .int .i64 a3] w8 fun v11 w12 =>
 ∃ (p13 : Option Addr) (l14 c15 : Nat), ∃ n16 : Int, v11 = .tuple [.slice p13 l14 c15, .int .i64 n16].toArray ∧
 LoopT (fun (s24 : mem_Mem_Write_L58.S) w25 A26 => mem_Mem_Write_l0 a4 Q p13 l14 n16 s24 w25 A26) ((0 : Int)) w12
def mem_Mem_Write_ann : Nat → Option LoopSpec := fun
  | 58 => some mem_Mem_Write_L58
  | _ => none
theorem mem_Mem_Write_eq (a0 : Option Addr) (a1_0 : Int) (a1_1 : Int) (a2 : Int) (a3 : Int) (a4 : Int) (w : World) (Q : Value → World → Prop) : fnX P mem_Mem_Write_ann Try.f43 [.pointer a0, .agg [.int .i64 a1_0, .int .i64 a1_1].toArray, .int .i64 a2, .int .i64 a3, .int .u64 a4] w Q = mem_Mem_Write a0 a1_0 a1_1 a2 a3 a4 w Q := by kernel_rfl
theorem mem_Mem_Write_cv {a0 : Option Addr} {a1_0 : Int} {a1_1 : Int} {a2 : Int} {a3 : Int} {a4 : Int} {w : World} {Q : Value → World → Prop} (h : mem_Mem_Write a0 a1_0 a1_1 a2 a3 a4 w Q) : CV P F.mem_Mem_Write [.pointer a0, .agg [.int .i64 a1_0, .int .i64 a1_1].toArray, .int .i64 a2, .int .i64 a3, .int .u64 a4] w Q := CV_of mixed Try.func43 (mem_Mem_Write_eq a0 a1_0 a1_1 a2 a3 a4 w Q ▸ h)

/- 44 (*crier/crierref04.Mem).Write -/
def crierref04_Mem_Write_L250 : LoopSpec where
  S := Int × Int
  emb := fun s => [(4, .int .u64 s.1), (12, .int .i64 s.2)]
  ext := fun t => match getL t 4, getL t 12 with
    | some (.int .u64 y18), some (.int .i64 y19) => some (y18, y19)
    | _, _ => none
  slots := [4, 12]
  fits := fun _ => rfl
  ok := by
    intro t s h x hx
    (try dsimp only at h hx)
    split at h
    · cases h
      simp only [List.mem_cons, List.not_mem_nil, or_false] at hx
      rcases hx with rfl | rfl <;> assumption
    · cases h

def crierref04_Mem_Write_l0 (a0 : Option Addr) (a2 : Int) (a3 : Int) (Q : Value → World → Prop) (b7 : Nat) (n20 : Int) (n21 : Int) (w22 : World) (A23 : crierref04_Mem_Write_L250.S → World → Prop) : Prop :=
 cnd (decide (n21 < a3))
 (drw w22 fun w24 =>
 nn a0 fun a25 =>
 ldL a25 w24 fun p26 l27 c28 =>
 ldI .i64 ⟨b7, 0, none⟩ w24 fun n29 =>
 (nz 256 <|
 ix (IntKind.i64.wrap ((IntKind.i64.wrap (n29 + a2)) + n21)) l27 fun j30 => nn p26 fun a31 =>
 st1 (.int .u8 (IntKind.u8.wrap ((Int.tmod n20 256)))) (a31.add (j30 * 1)) w24 fun w32 =>
 (nz 256 <|
 A23 (((IntKind.u64.wrap (Int.tdiv n20 256)) : Int), ((IntKind.i64.wrap (n21 + 1)) : Int)) w32)))
 (Q (.int .i64 0) w22)

def crierref04_Mem_Write (a0 : Option Addr) (a1_0 : Int) (a1_1 : Int) (a2 : Int) (a3 : Int) (a4 : Int) (w : World) (Q : Value → World → Prop) : Prop :=
 alc [.int .i64 a1_0, .int .i64 a1_1] T.t23 w fun b7 w8 =>
 ldI .i64 ⟨b7, 0, none⟩ w8 fun n9 =>
 ldI .i64 ⟨b7, 1, none⟩ w8 fun n10 =>
 CV P F.crierref04_Mem_Holds [.pointer a0, .agg [.int .i64 n9, .int .i64 n10].toArray] w8 fun v11 w12 =>
 ∃ b13 : Bool, v11 = .bool b13 ∧
 cnd (!b13)
 (Q (.int .i64 42) w12)
 (ldI .i64 ⟨b7, 1, none⟩ w12 fun n14 =>
 CV P F.crierref04_May [.int .i64 n14, .int .i64 a2, .int .i64 a3] w12 fun v15 w16 =>
 ∃ n17 : Int, v15 = .int .i64 n17 ∧
 cnd (n17 != 0)
 (Q (.int .i64 n17) w16)
 (LoopT (fun (s33 : crierref04_Mem_Write_L250.S) w34 A35 => crierref04_Mem_Write_l0 a0 a2 a3 Q b7 s33.1 s33.2 w34 A35) ((a4 : Int), (0 : Int)) w16))
def crierref04_Mem_Write_ann : Nat → Option LoopSpec := fun
  | 250 => some crierref04_Mem_Write_L250
  | 8008 => some (ordSpec [0, 1, 2, 3, 4, 5, 6, 7, 8, 9, 10, 11, 12, 13, 14])
  | _ => none
theorem crierref04_Mem_Write_eq (a0 : Option Addr) (a1_0 : Int) (a1_1 : Int) (a2 : Int) (a3 : Int) (a4 : Int) (w : World) (Q : Value → World → Prop) : fnX P crierref04_Mem_Write_ann Try.f44 [.pointer a0, .agg [.int .i64 a1_0, .int .i64 a1_1].toArray, .int .i64 a2, .int .i64 a3, .int .u64 a4] w Q = crierref04_Mem_Write a0 a1_0 a1_1 a2 a3 a4 w Q := by kernel_rfl
theorem crierref04_Mem_Write_cv {a0 : Option Addr} {a1_0 : Int} {a1_1 : Int} {a2 : Int} {a3 : Int} {a4 : Int} {w : World} {Q : Value → World → Prop} (h : crierref04_Mem_Write a0 a1_0 a1_1 a2 a3 a4 w Q) : CV P F.crierref04_Mem_Write [.pointer a0, .agg [.int .i64 a1_0, .int .i64 a1_1].toArray, .int .i64 a2, .int .i64 a3, .int .u64 a4] w Q := CV_of mixed Try.func44 (crierref04_Mem_Write_eq a0 a1_0 a1_1 a2 a3 a4 w Q ▸ h)

/- 45 (crier/crierref17.Queue).Waits -/

def crierref17_Queue_Waits (a0_0 : Int) (a0_1 : Int) (a0_2 : Int) (a0_3 : Int) (w : World) (Q : Value → World → Prop) : Prop :=
 alc [.int .i64 a0_0, .int .i64 a0_1, .int .i64 a0_2, .int .i64 a0_3] T.t61 w fun b5 w6 =>
 ldI .i64 ⟨b5, 1, none⟩ w6 fun n7 =>
 ldI .i64 ⟨b5, 2, none⟩ w6 fun n8 =>
 ldI .i64 ⟨b5, 3, none⟩ w6 fun n9 =>
 CV P F.crierref02_Waits [.int .i64 n7, .int .i64 32, .int .i64 n8, .int .i64 n9] w6 fun v10 w11 =>
 ∃ (p12 : Option Addr) (l13 c14 : Nat), v10 = .slice p12 l13 c14 ∧
 Q (.slice p12 l13 c14) w11
def crierref17_Queue_Waits_ann : Nat → Option LoopSpec := fun _ => none
theorem crierref17_Queue_Waits_eq (a0_0 : Int) (a0_1 : Int) (a0_2 : Int) (a0_3 : Int) (w : World) (Q : Value → World → Prop) : fnX P crierref17_Queue_Waits_ann Try.f45 [.agg [.int .i64 a0_0, .int .i64 a0_1, .int .i64 a0_2, .int .i64 a0_3].toArray] w Q = crierref17_Queue_Waits a0_0 a0_1 a0_2 a0_3 w Q := by kernel_rfl
theorem crierref17_Queue_Waits_cv {a0_0 : Int} {a0_1 : Int} {a0_2 : Int} {a0_3 : Int} {w : World} {Q : Value → World → Prop} (h : crierref17_Queue_Waits a0_0 a0_1 a0_2 a0_3 w Q) : CV P F.crierref17_Queue_Waits [.agg [.int .i64 a0_0, .int .i64 a0_1, .int .i64 a0_2, .int .i64 a0_3].toArray] w Q := CV_of mixed Try.func45 (crierref17_Queue_Waits_eq a0_0 a0_1 a0_2 a0_3 w Q ▸ h)

end Go.Proofs.Ytggchklafbpgpaa
