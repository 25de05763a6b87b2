/-
  The functions' words, printed by Gen.lean out of the translation: each word's equation with the code is asked of the kernel.
-/
import Derived.Test.YtbincfjaahjbiaaX8
import Derived.Test.YtbincfjaahjbiaaChecked
namespace Go.Proofs.Ytbincfjaahjbiaa
open Go X
set_option maxRecDepth 100000
set_option linter.unusedVariables false
noncomputable abbrev P : Program := Try.prog
theorem mixed : P.follows .mixedOrders = true := Checked.mixed Try.checked
abbrev F.main_main : FuncId := 0
abbrev F.gosem_cut : FuncId := 1
abbrev F.gosem_cut_init : FuncId := 2
abbrev F.crierlaw04_MemMeets : FuncId := 3
abbrev F.crierlaw04_MemBack : FuncId := 4
abbrev F.crierlaw04_MemParts : FuncId := 5
abbrev F.crierlaw04_MemKeeps : FuncId := 6
abbrev F.crierlaw04_MemDoes : FuncId := 7
abbrev F.crierlaw04_awake : FuncId := 8
abbrev F.mem_Meet : FuncId := 9
abbrev F.crierlaw04_New : FuncId := 10
abbrev F.crierlaw04_Does : FuncId := 11
abbrev F.mem_Mem_Write : FuncId := 12
abbrev F.mem_Mem_Read : FuncId := 13
abbrev F.mem_Part : FuncId := 14
abbrev F.crierref04_Part : FuncId := 15
abbrev F.crierref04_Meet : FuncId := 16
abbrev F.mem_Mem_Bytes : FuncId := 17
abbrev F.mem_Mem_Copy : FuncId := 18
abbrev F.mem_Mem_Size : FuncId := 19
abbrev F.mem_Mem_Wipe : FuncId := 20
abbrev F.crierlaw04_Model : FuncId := 21
abbrev F.crierlaw04_Same : FuncId := 22
abbrev F.crierref04_Mem_Read : FuncId := 23
abbrev F.crierref04_Mem_Bytes : FuncId := 24
abbrev F.mem_Mem_Holds : FuncId := 25
abbrev F.crierref04_Mem_Holds : FuncId := 26
abbrev F.mem_New : FuncId := 27
abbrev F.mem_fair : FuncId := 28
abbrev F.mem_Mem_Put : FuncId := 29
abbrev F.mem_Mem_part : FuncId := 30
abbrev F.crierref04_fair : FuncId := 31
abbrev F.slices_Clone__byte_byte : FuncId := 32
abbrev F.crierref04_Mem_Write : FuncId := 33
abbrev F.crierref04_Mem_Put : FuncId := 34
abbrev F.crierref04_Mem_Wipe : FuncId := 35
abbrev F.crierref04_May : FuncId := 36
abbrev F.mem_May : FuncId := 37
abbrev F.runtime_boundsError_Error : FuncId := 38
abbrev F.runtime_boundsError_RuntimeError : FuncId := 39
abbrev F.runtime_errorString_Error : FuncId := 40
abbrev F.runtime_errorString_RuntimeError : FuncId := 41
abbrev F.runtime_plainError_Error : FuncId := 42
abbrev F.runtime_plainError_RuntimeError : FuncId := 43
abbrev F.runtime_errorAddressString_Error : FuncId := 44
abbrev F.runtime_errorAddressString_RuntimeError : FuncId := 45
abbrev F.runtime_TypeAssertionError_Error : FuncId := 46
abbrev F.runtime_TypeAssertionError_RuntimeError : FuncId := 47
abbrev F.runtime_PanicNilError_Error : FuncId := 48
abbrev F.runtime_PanicNilError_RuntimeError : FuncId := 49
abbrev F.internal_abi_Type_Align : FuncId := 50
abbrev F.internal_runtime_maps_unhashableTypeError_Error : FuncId := 51
abbrev F.internal_runtime_maps_unhashableTypeError_RuntimeError : FuncId := 52
abbrev F.crierref04_Mem_Copy : FuncId := 53
abbrev F.api_Errno_Error : FuncId := 54
abbrev F.internal_abi_Kind_String : FuncId := 55
abbrev T.t0 : TypeId := 0
abbrev T.t1 : TypeId := 1
abbrev T.t2 : TypeId := 2
abbrev T.t3 : TypeId := 3
abbrev T.t4 : TypeId := 4
abbrev T.t5 : TypeId := 5
abbrev T.t6 : TypeId := 6
abbrev T.t7 : TypeId := 7
abbrev T.t8 : TypeId := 8
abbrev T.t9 : TypeId := 9
abbrev T.t10 : TypeId := 10
abbrev T.t11 : TypeId := 11
abbrev T.t12 : TypeId := 12
abbrev T.t13 : TypeId := 13
abbrev T.t14 : TypeId := 14
abbrev T.t15 : TypeId := 15
abbrev T.t16 : TypeId := 16
abbrev T.t17 : TypeId := 17
abbrev T.t18 : TypeId := 18
abbrev T.t19 : TypeId := 19
abbrev T.t20 : TypeId := 20
abbrev T.t21 : TypeId := 21
abbrev T.t22 : TypeId := 22
abbrev T.t23 : TypeId := 23
abbrev T.t24 : TypeId := 24
abbrev T.t25 : TypeId := 25
abbrev T.t26 : TypeId := 26
abbrev T.t27 : TypeId := 27
abbrev T.t28 : TypeId := 28
abbrev T.t29 : TypeId := 29
abbrev T.t30 : TypeId := 30
abbrev T.t31 : TypeId := 31
abbrev T.t32 : TypeId := 32
abbrev T.t33 : TypeId := 33
abbrev T.t34 : TypeId := 34
abbrev T.t35 : TypeId := 35
abbrev T.t36 : TypeId := 36
abbrev T.t37 : TypeId := 37
abbrev T.t38 : TypeId := 38
abbrev T.t39 : TypeId := 39
abbrev T.t40 : TypeId := 40
abbrev T.t41 : TypeId := 41
abbrev T.t42 : TypeId := 42
abbrev T.t43 : TypeId := 43
abbrev T.t44 : TypeId := 44
abbrev T.t45 : TypeId := 45
abbrev T.t46 : TypeId := 46
abbrev T.t47 : TypeId := 47
abbrev T.t48 : TypeId := 48
abbrev T.t49 : TypeId := 49
abbrev T.t50 : TypeId := 50
abbrev T.t51 : TypeId := 51
abbrev T.t52 : TypeId := 52
abbrev T.t53 : TypeId := 53
abbrev T.t54 : TypeId := 54
abbrev T.t55 : TypeId := 55
abbrev T.t56 : TypeId := 56
abbrev T.t57 : TypeId := 57
abbrev T.t58 : TypeId := 58
abbrev T.t59 : TypeId := 59
abbrev T.t60 : TypeId := 60
abbrev T.t61 : TypeId := 61
abbrev T.t62 : TypeId := 62
abbrev T.t63 : TypeId := 63
abbrev T.t64 : TypeId := 64
abbrev T.t65 : TypeId := 65
abbrev T.t66 : TypeId := 66
abbrev T.t67 : TypeId := 67
abbrev T.t68 : TypeId := 68
abbrev T.t69 : TypeId := 69
abbrev T.t70 : TypeId := 70
abbrev T.t71 : TypeId := 71
abbrev T.t72 : TypeId := 72
abbrev T.t73 : TypeId := 73
abbrev T.t74 : TypeId := 74
abbrev T.t75 : TypeId := 75
abbrev T.t76 : TypeId := 76
abbrev T.t77 : TypeId := 77
abbrev T.t78 : TypeId := 78
abbrev T.t79 : TypeId := 79
abbrev T.t80 : TypeId := 80
abbrev T.t81 : TypeId := 81
/- 3 crier/crierlaw04.MemMeets -/
def crierlaw04_MemMeets_J30 : LoopSpec where
  S := Bool
  emb := fun s => [(48, .bool s)]
  ext := fun t => match getL t 48 with
    | some (.bool y12) => some (y12)
    | _ => none
  slots := [48]
  fits := fun _ => rfl
  ok := by
    intro t s h x hx
    (try dsimp only at h hx)
    split at h
    · cases h
      simp only [List.mem_cons, List.not_mem_nil, or_false] at hx
      rcases hx with rfl <;> assumption
    · cases h

def crierlaw04_MemMeets_L506 : LoopSpec where
  S := Bool × Int
  emb := fun s => [(6, .bool s.1), (7, .int .i64 s.2)]
  ext := fun t => match getL t 6, getL t 7 with
    | some (.bool y15), some (.int .i64 y16) => some (y15, y16)
    | _, _ => none
  slots := [6, 7]
  fits := fun _ => rfl
  ok := by
    intro t s h x hx
    (try dsimp only at h hx)
    split at h
    · cases h
      simp only [List.mem_cons, List.not_mem_nil, or_false] at hx
      rcases hx with rfl | rfl <;> assumption
    · cases h

def crierlaw04_MemMeets_J4050 : LoopSpec where
  S := Bool
  emb := fun s => [(6, .bool s)]
  ext := fun t => match getL t 6 with
    | some (.bool y22) => some (y22)
    | _ => none
  slots := [6]
  fits := fun _ => rfl
  ok := by
    intro t s h x hx
    (try dsimp only at h hx)
    split at h
    · cases h
      simp only [List.mem_cons, List.not_mem_nil, or_false] at hx
      rcases hx with rfl <;> assumption
    · cases h

def crierlaw04_MemMeets_j0 (n18 : Int) (A20 : crierlaw04_MemMeets_L506.S → World → Prop) (b23 : Bool) (w24 : World) : Prop :=
 A20 ((b23 : Bool), ((IntKind.i64.wrap (n18 + 1)) : Int)) w24

def crierlaw04_MemMeets_J127 : LoopSpec where
  S := Bool
  emb := fun s => [(4, .bool s)]
  ext := fun t => match getL t 4 with
    | some (.bool y33) => some (y33)
    | _ => none
  slots := [4]
  fits := fun _ => rfl
  ok := by
    intro t s h x hx
    (try dsimp only at h hx)
    split at h
    · cases h
      simp only [List.mem_cons, List.not_mem_nil, or_false] at hx
      rcases hx with rfl <;> assumption
    · cases h

def crierlaw04_MemMeets_j1 (Q : Value → World → Prop) (b34 : Bool) (w35 : World) : Prop :=
 Q (.bool b34) w35

def crierlaw04_MemMeets_l2 (Q : Value → World → Prop) (b5 : Nat) (b7 : Nat) (b11 : Bool) (b17 : Bool) (n18 : Int) (w19 : World) (A20 : crierlaw04_MemMeets_L506.S → World → Prop) : Prop :=
 ldI .i64 ⟨b5, 1, none⟩ w19 fun n21 =>
 cnd (decide (n18 < n21))
 (JoinT (fun (J25 : crierlaw04_MemMeets_J4050.S → World → Prop) =>
  cnd b17
  (J25 ((true : Bool)) w19)
  (ldI .i64 ⟨b5, 0, none⟩ w19 fun n26 =>
  ldI .i64 ⟨b7, 0, none⟩ w19 fun n27 =>
  cnd (decide ((IntKind.i64.wrap (n26 + n18)) ≥ n27))
  (ldI .i64 ⟨b5, 0, none⟩ w19 fun n28 =>
  ldI .i64 ⟨b7, 0, none⟩ w19 fun n29 =>
  ldI .i64 ⟨b7, 1, none⟩ w19 fun n30 =>
  J25 (((decide ((IntKind.i64.wrap (n28 + n18)) < (IntKind.i64.wrap (n29 + n30)))) : Bool)) w19)
  (J25 ((false : Bool)) w19)))
  fun (s31 : crierlaw04_MemMeets_J4050.S) w32 => crierlaw04_MemMeets_j0 n18 A20 s31 w32)
 (JoinT (fun (J36 : crierlaw04_MemMeets_J127.S → World → Prop) =>
  cnd b11
  (ldI .i64 ⟨b5, 0, none⟩ w19 fun n37 =>
  ldI .i64 ⟨b5, 1, none⟩ w19 fun n38 =>
  ldI .i64 ⟨b7, 0, none⟩ w19 fun n39 =>
  ldI .i64 ⟨b7, 1, none⟩ w19 fun n40 =>
  CV P F.mem_Meet [.agg [.int .i64 n37, .int .i64 n38].toArray, .agg [.int .i64 n39, .int .i64 n40].toArray] w19 fun v41 w42 =>
  ∃ b43 : Bool, v41 = .bool b43 ∧
  J36 (((b43 == b17) : Bool)) w42)
  (J36 ((false : Bool)) w19))
  fun (s44 : crierlaw04_MemMeets_J127.S) w45 => crierlaw04_MemMeets_j1 Q s44 w45)

def crierlaw04_MemMeets_j3 (Q : Value → World → Prop) (b5 : Nat) (b7 : Nat) (b11 : Bool) (b13 : Bool) (w14 : World) : Prop :=
 cnd b13
 (Q (.bool b11) w14)
 (LoopT (fun (s46 : crierlaw04_MemMeets_L506.S) w47 A48 => crierlaw04_MemMeets_l2 Q b5 b7 b11 s46.1 s46.2 w47 A48) ((false : Bool), (0 : Int)) w14)

def crierlaw04_MemMeets (a0_0 : Int) (a0_1 : Int) (a1_0 : Int) (a1_1 : Int) (w : World) (Q : Value → World → Prop) : Prop :=
 alc [.int .i64 a0_0, .int .i64 a0_1] T.t23 w fun b5 w6 =>
 alc [.int .i64 a1_0, .int .i64 a1_1] T.t23 w6 fun b7 w8 =>
 CV P F.crierlaw04_awake [] w8 fun v9 w10 =>
 ∃ b11 : Bool, v9 = .bool b11 ∧
 cnd (!b11)
 (Q (.bool false) w10)
 (JoinT (fun (J49 : crierlaw04_MemMeets_J30.S → World → Prop) =>
  ldI .i64 ⟨b5, 0, none⟩ w10 fun n50 =>
  cnd (decide (n50 < 0))
  (J49 ((true : Bool)) w10)
  (ldI .i64 ⟨b7, 0, none⟩ w10 fun n51 =>
  cnd (decide (n51 < 0))
  (J49 ((true : Bool)) w10)
  (ldI .i64 ⟨b5, 0, none⟩ w10 fun n52 =>
  cnd (decide (n52 > 549755813888))
  (J49 ((true : Bool)) w10)
  (ldI .i64 ⟨b7, 0, none⟩ w10 fun n53 =>
  cnd (decide (n53 > 549755813888))
  (J49 ((true : Bool)) w10)
  (ldI .i64 ⟨b5, 1, none⟩ w10 fun n54 =>
  cnd (decide (n54 < 0))
  (J49 ((true : Bool)) w10)
  (ldI .i64 ⟨b7, 1, none⟩ w10 fun n55 =>
  cnd (decide (n55 < 0))
  (J49 ((true : Bool)) w10)
  (ldI .i64 ⟨b5, 1, none⟩ w10 fun n56 =>
  cnd (decide (n56 > 300))
  (J49 ((true : Bool)) w10)
  (ldI .i64 ⟨b7, 1, none⟩ w10 fun n57 =>
  J49 (((decide (n57 > 300)) : Bool)) w10))))))))
  fun (s58 : crierlaw04_MemMeets_J30.S) w59 => crierlaw04_MemMeets_j3 Q b5 b7 b11 s58 w59)
def crierlaw04_MemMeets_ann : Nat → Option LoopSpec := fun
  | 30 => some crierlaw04_MemMeets_J30
  | 506 => some crierlaw04_MemMeets_L506
  | 4050 => some crierlaw04_MemMeets_J4050
  | 127 => some crierlaw04_MemMeets_J127
  | _ => none
theorem crierlaw04_MemMeets_eq (a0_0 : Int) (a0_1 : Int) (a1_0 : Int) (a1_1 : Int) (w : World) (Q : Value → World → Prop) : fnX P crierlaw04_MemMeets_ann Try.f3 [.agg [.int .i64 a0_0, .int .i64 a0_1].toArray, .agg [.int .i64 a1_0, .int .i64 a1_1].toArray] w Q = crierlaw04_MemMeets a0_0 a0_1 a1_0 a1_1 w Q := by kernel_rfl
theorem crierlaw04_MemMeets_cv {a0_0 : Int} {a0_1 : Int} {a1_0 : Int} {a1_1 : Int} {w : World} {Q : Value → World → Prop} (h : crierlaw04_MemMeets a0_0 a0_1 a1_0 a1_1 w Q) : CV P F.crierlaw04_MemMeets [.agg [.int .i64 a0_0, .int .i64 a0_1].toArray, .agg [.int .i64 a1_0, .int .i64 a1_1].toArray] w Q := CV_of mixed Try.func3 (crierlaw04_MemMeets_eq a0_0 a0_1 a1_0 a1_1 w Q ▸ h)

/- 4 crier/crierlaw04.MemBack -/
def crierlaw04_MemBack_J62 : LoopSpec where
  S := Bool
  emb := fun s => [(36, .bool s)]
  ext := fun t => match getL t 36 with
    | some (.bool y19) => some (y19)
    | _ => none
  slots := [36]
  fits := fun _ => rfl
  ok := by
    intro t s h x hx
    (try dsimp only at h hx)
    split at h
    · cases h
      simp only [List.mem_cons, List.not_mem_nil, or_false] at hx
      rcases hx with rfl <;> assumption
    · cases h

def crierlaw04_MemBack_L506 : LoopSpec where
  S := Int
  emb := fun s => [(16, .int .i64 s)]
  ext := fun t => match getL t 16 with
    | some (.int .i64 y22) => some (y22)
    | _ => none
  slots := [16]
  fits := fun _ => rfl
  ok := by
    intro t s h x hx
    (try dsimp only at h hx)
    split at h
    · cases h
      simp only [List.mem_cons, List.not_mem_nil, or_false] at hx
      rcases hx with rfl <;> assumption
    · cases h

def crierlaw04_MemBack_J1023 : LoopSpec where
  S := Int
  emb := fun s => [(19, .int .u64 s)]
  ext := fun t => match getL t 19 with
    | some (.int .u64 y51) => some (y51)
    | _ => none
  slots := [19]
  fits := fun _ => rfl
  ok := by
    intro t s h x hx
    (try dsimp only at h hx)
    split at h
    · cases h
      simp only [List.mem_cons, List.not_mem_nil, or_false] at hx
      rcases hx with rfl <;> assumption
    · cases h

def crierlaw04_MemBack_J2047 : LoopSpec where
  S := Int
  emb := fun s => [(19, .int .u64 s)]
  ext := fun t => match getL t 19 with
    | some (.int .u64 y54) => some (y54)
    | _ => none
  slots := [19]
  fits := fun _ => rfl
  ok := by
    intro t s h x hx
    (try dsimp only at h hx)
    split at h
    · cases h
      simp only [List.mem_cons, List.not_mem_nil, or_false] at hx
      rcases hx with rfl <;> assumption
    · cases h

def crierlaw04_MemBack_L32762 : LoopSpec where
  S := Int
  emb := fun s => [(20, .int .i64 s)]
  ext := fun t => match getL t 20 with
    | some (.int .i64 y57) => some (y57)
    | _ => none
  slots := [20]
  fits := fun _ => rfl
  ok := by
    intro t s h x hx
    (try dsimp only at h hx)
    split at h
    · cases h
      simp only [List.mem_cons, List.not_mem_nil, or_false] at hx
      rcases hx with rfl <;> assumption
    · cases h

def crierlaw04_MemBack_J1048393 : LoopSpec where
  S := Bool
  emb := fun s => [(97, .bool s)]
  ext := fun t => match getL t 97 with
    | some (.bool y67) => some (y67)
    | _ => none
  slots := [97]
  fits := fun _ => rfl
  ok := by
    intro t s h x hx
    (try dsimp only at h hx)
    split at h
    · cases h
      simp only [List.mem_cons, List.not_mem_nil, or_false] at hx
      rcases hx with rfl <;> assumption
    · cases h

def crierlaw04_MemBack_j0 (Q : Value → World → Prop) (n58 : Int) (A60 : crierlaw04_MemBack_L32762.S → World → Prop) (b68 : Bool) (w69 : World) : Prop :=
 cnd b68
 (Q (.bool false) w69)
 (A60 (((IntKind.i64.wrap (n58 + 1)) : Int)) w69)

def crierlaw04_MemBack_J8191 : LoopSpec where
  S := Bool
  emb := fun s => [(12, .bool s)]
  ext := fun t => match getL t 12 with
    | some (.bool y73) => some (y73)
    | _ => none
  slots := [12]
  fits := fun _ => rfl
  ok := by
    intro t s h x hx
    (try dsimp only at h hx)
    split at h
    · cases h
      simp only [List.mem_cons, List.not_mem_nil, or_false] at hx
      rcases hx with rfl <;> assumption
    · cases h

def crierlaw04_MemBack_j1 (Q : Value → World → Prop) (b74 : Bool) (w75 : World) : Prop :=
 Q (.bool b74) w75

def crierlaw04_MemBack_l2 (a3 : Int) (a4 : Int) (a5 : Int) (Q : Value → World → Prop) (b10 : Nat) (p17 : Option Addr) (n49 : Int) (n50 : Int) (n55 : Int) (n58 : Int) (w59 : World) (A60 : crierlaw04_MemBack_L32762.S → World → Prop) : Prop :=
 cnd (decide (n58 < a4))
 (ldI .i64 ⟨b10, 0, none⟩ w59 fun n61 =>
 ldI .i64 ⟨b10, 1, none⟩ w59 fun n62 =>
 CV P F.mem_Mem_Read [.pointer p17, .agg [.int .i64 n61, .int .i64 n62].toArray, .int .i64 (IntKind.i64.wrap (a3 + n58)), .int .i64 1] w59 fun v63 w64 =>
 ∃ n65 : Int, ∃ n66 : Int, v63 = .tuple [.int .u64 n65, .int .i64 n66].toArray ∧
 JoinT (fun (J70 : crierlaw04_MemBack_J1048393.S → World → Prop) =>
  cnd (n66 != 0)
  (J70 ((true : Bool)) w64)
  (nng (IntKind.i64.wrap (8 * n58)) <|
  J70 (((n65 != (bitX .and .u64 (Int.fdiv a5 (2 ^ min (Int.toNat (IntKind.i64.wrap (8 * n58))) (IntKind.u64.bits))) 255)) : Bool)) w64))
  fun (s71 : crierlaw04_MemBack_J1048393.S) w72 => crierlaw04_MemBack_j0 Q n58 A60 s71 w72)
 (JoinT (fun (J76 : crierlaw04_MemBack_J8191.S → World → Prop) =>
  cnd (n50 == 0)
  (J76 (((n49 == n55) : Bool)) w59)
  (J76 ((false : Bool)) w59))
  fun (s77 : crierlaw04_MemBack_J8191.S) w78 => crierlaw04_MemBack_j1 Q s77 w78)

def crierlaw04_MemBack_j3 (a3 : Int) (a4 : Int) (a5 : Int) (Q : Value → World → Prop) (b10 : Nat) (p17 : Option Addr) (n49 : Int) (n50 : Int) (n55 : Int) (w56 : World) : Prop :=
 LoopT (fun (s79 : crierlaw04_MemBack_L32762.S) w80 A81 => crierlaw04_MemBack_l2 a3 a4 a5 Q b10 p17 n49 n50 n55 s79 w80 A81) ((0 : Int)) w56

def crierlaw04_MemBack_j4 (a3 : Int) (a4 : Int) (a5 : Int) (Q : Value → World → Prop) (b10 : Nat) (p17 : Option Addr) (n49 : Int) (n50 : Int) (n52 : Int) (w53 : World) : Prop :=
 JoinT (fun (J82 : crierlaw04_MemBack_J2047.S → World → Prop) =>
  cnd (a4 == 4)
  (J82 (((bitX .and .u64 a5 4294967295) : Int)) w53)
  (J82 ((n52 : Int)) w53))
  fun (s83 : crierlaw04_MemBack_J2047.S) w84 => crierlaw04_MemBack_j3 a3 a4 a5 Q b10 p17 n49 n50 s83 w84

def crierlaw04_MemBack_l5 (a1 : Option Addr) (a1_n : Nat) (a3 : Int) (a4 : Int) (a5 : Int) (Q : Value → World → Prop) (b10 : Nat) (p17 : Option Addr) (n23 : Int) (w24 : World) (A25 : crierlaw04_MemBack_L506.S → World → Prop) : Prop :=
 cnd (decide (n23 < ((a1_n : Nat) : Int)))
 (ix n23 a1_n fun j26 => nn a1 fun a27 =>
 ldI .i64 (a27.add (j26 * 7)) w24 fun n28 =>
 ldI .i64 ((a27.add (j26 * 7)).add 1) w24 fun n29 =>
 ldI .i64 ((a27.add (j26 * 7)).add 2) w24 fun n30 =>
 ldI .i64 ((a27.add (j26 * 7)).add 3) w24 fun n31 =>
 ldI .i64 ((a27.add (j26 * 7)).add 4) w24 fun n32 =>
 ldI .u64 ((a27.add (j26 * 7)).add 5) w24 fun n33 =>
 ldL ((a27.add (j26 * 7)).add 6) w24 fun p34 l35 c36 =>
 CV P F.crierlaw04_Does [.pointer p17, .agg [.int .i64 n28, .int .i64 n29, .int .i64 n30, .int .i64 n31, .int .i64 n32, .int .u64 n33, .slice p34 l35 c36].toArray] w24 fun v37 w38 =>
 ∃ n39 : Int, v37 = .int .i64 n39 ∧
 A25 (((IntKind.i64.wrap (n23 + 1)) : Int)) w38)
 (ldI .i64 ⟨b10, 0, none⟩ w24 fun n40 =>
 ldI .i64 ⟨b10, 1, none⟩ w24 fun n41 =>
 CV P F.mem_Mem_Write [.pointer p17, .agg [.int .i64 n40, .int .i64 n41].toArray, .int .i64 a3, .int .i64 a4, .int .u64 a5] w24 fun v42 w43 =>
 ∃ n44 : Int, v42 = .int .i64 n44 ∧
 cnd (n44 != 0)
 (Q (.bool true) w43)
 (ldI .i64 ⟨b10, 0, none⟩ w43 fun n45 =>
 ldI .i64 ⟨b10, 1, none⟩ w43 fun n46 =>
 CV P F.mem_Mem_Read [.pointer p17, .agg [.int .i64 n45, .int .i64 n46].toArray, .int .i64 a3, .int .i64 a4] w43 fun v47 w48 =>
 ∃ n49 : Int, ∃ n50 : Int, v47 = .tuple [.int .u64 n49, .int .i64 n50].toArray ∧
 JoinT (fun (J85 : crierlaw04_MemBack_J1023.S → World → Prop) =>
  cnd (a4 == 1)
  (J85 (((bitX .and .u64 a5 255) : Int)) w48)
  (J85 ((a5 : Int)) w48))
  fun (s86 : crierlaw04_MemBack_J1023.S) w87 => crierlaw04_MemBack_j4 a3 a4 a5 Q b10 p17 n49 n50 s86 w87))

def crierlaw04_MemBack_j6 (a1 : Option Addr) (a1_n : Nat) (a3 : Int) (a4 : Int) (a5 : Int) (Q : Value → World → Prop) (b10 : Nat) (p17 : Option Addr) (b20 : Bool) (w21 : World) : Prop :=
 cnd b20
 (Q (.bool false) w21)
 (LoopT (fun (s88 : crierlaw04_MemBack_L506.S) w89 A90 => crierlaw04_MemBack_l5 a1 a1_n a3 a4 a5 Q b10 p17 s88 w89 A90) ((0 : Int)) w21)

def crierlaw04_MemBack (a0 : Int) (a1 : Option Addr) (a1_n : Nat) (a1_c : Nat) (a2_0 : Int) (a2_1 : Int) (a3 : Int) (a4 : Int) (a5 : Int) (w : World) (Q : Value → World → Prop) : Prop :=
 alc [.int .i64 a2_0, .int .i64 a2_1] T.t23 w fun b10 w11 =>
 CV P F.crierlaw04_awake [] w11 fun v12 w13 =>
 ∃ b14 : Bool, v12 = .bool b14 ∧
 cnd (!b14)
 (Q (.bool false) w13)
 (CV P F.crierlaw04_New [.int .i64 a0] w13 fun v15 w16 =>
 ∃ p17 : Option Addr, ∃ p18 : Option Addr, v15 = .tuple [.pointer p17, .pointer p18].toArray ∧
 JoinT (fun (J91 : crierlaw04_MemBack_J62.S → World → Prop) =>
  cnd (!b14)
  (J91 ((true : Bool)) w16)
  (J91 (((Option.isNone p17) : Bool)) w16))
  fun (s92 : crierlaw04_MemBack_J62.S) w93 => crierlaw04_MemBack_j6 a1 a1_n a3 a4 a5 Q b10 p17 s92 w93)
def crierlaw04_MemBack_ann : Nat → Option LoopSpec := fun
  | 62 => some crierlaw04_MemBack_J62
  | 506 => some crierlaw04_MemBack_L506
  | 1023 => some crierlaw04_MemBack_J1023
  | 2047 => some crierlaw04_MemBack_J2047
  | 32762 => some crierlaw04_MemBack_L32762
  | 1048393 => some crierlaw04_MemBack_J1048393
  | 8191 => some crierlaw04_MemBack_J8191
  | _ => none
theorem crierlaw04_MemBack_eq (a0 : Int) (a1 : Option Addr) (a1_n : Nat) (a1_c : Nat) (a2_0 : Int) (a2_1 : Int) (a3 : Int) (a4 : Int) (a5 : Int) (w : World) (Q : Value → World → Prop) : fnX P crierlaw04_MemBack_ann Try.f4 [.int .i64 a0, .slice a1 a1_n a1_c, .agg [.int .i64 a2_0, .int .i64 a2_1].toArray, .int .i64 a3, .int .i64 a4, .int .u64 a5] w Q = crierlaw04_MemBack a0 a1 a1_n a1_c a2_0 a2_1 a3 a4 a5 w Q := by kernel_rfl
theorem crierlaw04_MemBack_cv {a0 : Int} {a1 : Option Addr} {a1_n : Nat} {a1_c : Nat} {a2_0 : Int} {a2_1 : Int} {a3 : Int} {a4 : Int} {a5 : Int} {w : World} {Q : Value → World → Prop} (h : crierlaw04_MemBack a0 a1 a1_n a1_c a2_0 a2_1 a3 a4 a5 w Q) : CV P F.crierlaw04_MemBack [.int .i64 a0, .slice a1 a1_n a1_c, .agg [.int .i64 a2_0, .int .i64 a2_1].toArray, .int .i64 a3, .int .i64 a4, .int .u64 a5] w Q := CV_of mixed Try.func4 (crierlaw04_MemBack_eq a0 a1 a1_n a1_c a2_0 a2_1 a3 a4 a5 w Q ▸ h)

/- 5 crier/crierlaw04.MemParts -/
def crierlaw04_MemParts_J63 : LoopSpec where
  S := Bool
  emb := fun s => [(8, .bool s)]
  ext := fun t => match getL t 8 with
    | some (.bool y36) => some (y36)
    | _ => none
  slots := [8]
  fits := fun _ => rfl
  ok := by
    intro t s h x hx
    (try dsimp only at h hx)
    split at h
    · cases h
      simp only [List.mem_cons, List.not_mem_nil, or_false] at hx
      rcases hx with rfl <;> assumption
    · cases h

def crierlaw04_MemParts_j0 (Q : Value → World → Prop) (b37 : Bool) (w38 : World) : Prop :=
 Q (.bool b37) w38

def crierlaw04_MemParts (a0_0 : Int) (a0_1 : Int) (a1_0 : Int) (a1_1 : Int) (a2 : Int) (a3 : Int) (w : World) (Q : Value → World → Prop) : Prop :=
 alc [.int .i64 a0_0, .int .i64 a0_1] T.t23 w fun b7 w8 =>
 alc [.int .i64 a1_0, .int .i64 a1_1] T.t23 w8 fun b9 w10 =>
 CV P F.crierlaw04_awake [] w10 fun v11 w12 =>
 ∃ b13 : Bool, v11 = .bool b13 ∧
 cnd (!b13)
 (Q (.bool false) w12)
 (ldI .i64 ⟨b7, 0, none⟩ w12 fun n14 =>
 ldI .i64 ⟨b7, 1, none⟩ w12 fun n15 =>
 CV P F.mem_Part [.agg [.int .i64 n14, .int .i64 n15].toArray, .int .i64 a2, .int .i64 a3] w12 fun v16 w17 =>
 ∃ n18 : Int, ∃ n19 : Int, ∃ n20 : Int, v16 = .tuple [.agg [.int .i64 n18, .int .i64 n19].toArray, .int .i64 n20].toArray ∧
 alc [.int .i64 0, .int .i64 0] T.t23 w17 fun b21 w22 =>
 st1 (.int .i64 n18) ⟨b21, 0, none⟩ w22 fun w23 =>
 st1 (.int .i64 n19) ⟨b21, 1, none⟩ w23 fun w24 =>
 ldI .i64 ⟨b7, 0, none⟩ w24 fun n25 =>
 ldI .i64 ⟨b7, 1, none⟩ w24 fun n26 =>
 CV P F.crierref04_Part [.agg [.int .i64 n25, .int .i64 n26].toArray, .int .i64 a2, .int .i64 a3] w24 fun v27 w28 =>
 ∃ n29 : Int, ∃ n30 : Int, ∃ n31 : Int, v27 = .tuple [.agg [.int .i64 n29, .int .i64 n30].toArray, .int .i64 n31].toArray ∧
 alc [.int .i64 0, .int .i64 0] T.t23 w28 fun b32 w33 =>
 st1 (.int .i64 n29) ⟨b32, 0, none⟩ w33 fun w34 =>
 st1 (.int .i64 n30) ⟨b32, 1, none⟩ w34 fun w35 =>
 JoinT (fun (J39 : crierlaw04_MemParts_J63.S → World → Prop) =>
  drw w35 fun w40 =>
  cnd b13
  (ldI .i64 ⟨b21, 0, none⟩ w40 fun n41 =>
  ldI .i64 ⟨b21, 1, none⟩ w40 fun n42 =>
  ldI .i64 ⟨b32, 0, none⟩ w40 fun n43 =>
  ldI .i64 ⟨b32, 1, none⟩ w40 fun n44 =>
  eqA P .eql T.t23 (.agg [.int .i64 n41, .int .i64 n42].toArray) (.agg [.int .i64 n43, .int .i64 n44].toArray) w40 fun b45 =>
  cnd b45
  (cnd (n20 == n31)
  (ldI .i64 ⟨b7, 0, none⟩ w40 fun n46 =>
  ldI .i64 ⟨b7, 1, none⟩ w40 fun n47 =>
  ldI .i64 ⟨b9, 0, none⟩ w40 fun n48 =>
  ldI .i64 ⟨b9, 1, none⟩ w40 fun n49 =>
  ldI .i64 ⟨b7, 0, none⟩ w40 fun n50 =>
  ldI .i64 ⟨b7, 1, none⟩ w40 fun n51 =>
  ldI .i64 ⟨b9, 0, none⟩ w40 fun n52 =>
  ldI .i64 ⟨b9, 1, none⟩ w40 fun n53 =>
  CV P F.mem_Meet [.agg [.int .i64 n46, .int .i64 n47].toArray, .agg [.int .i64 n48, .int .i64 n49].toArray] w40 fun v54 w55 =>
  ∃ b56 : Bool, v54 = .bool b56 ∧
  (ldI .i64 ⟨b9, 0, none⟩ w55 fun n57 =>
  ldI .i64 ⟨b9, 1, none⟩ w55 fun n58 =>
  ((.agg [.int .i64 n57, .int .i64 n58].toArray : Value) = .agg [.int .i64 n52, .int .i64 n53].toArray)) ∧
  (ldI .i64 ⟨b7, 0, none⟩ w55 fun n59 =>
  ldI .i64 ⟨b7, 1, none⟩ w55 fun n60 =>
  ((.agg [.int .i64 n59, .int .i64 n60].toArray : Value) = .agg [.int .i64 n50, .int .i64 n51].toArray)) ∧
  CV P F.crierref04_Meet [.agg [.int .i64 n50, .int .i64 n51].toArray, .agg [.int .i64 n52, .int .i64 n53].toArray] w55 fun v61 w62 =>
  ∃ b63 : Bool, v61 = .bool b63 ∧
  cnd (b56 == b63)
  (ldI .i64 ⟨b9, 0, none⟩ w62 fun n64 =>
  ldI .i64 ⟨b9, 1, none⟩ w62 fun n65 =>
  ldI .i64 ⟨b7, 0, none⟩ w62 fun n66 =>
  ldI .i64 ⟨b7, 1, none⟩ w62 fun n67 =>
  ldI .i64 ⟨b7, 0, none⟩ w62 fun n68 =>
  ldI .i64 ⟨b7, 1, none⟩ w62 fun n69 =>
  ldI .i64 ⟨b9, 0, none⟩ w62 fun n70 =>
  ldI .i64 ⟨b9, 1, none⟩ w62 fun n71 =>
  CV P F.mem_Meet [.agg [.int .i64 n64, .int .i64 n65].toArray, .agg [.int .i64 n66, .int .i64 n67].toArray] w62 fun v72 w73 =>
  ∃ b74 : Bool, v72 = .bool b74 ∧
  (ldI .i64 ⟨b9, 0, none⟩ w73 fun n75 =>
  ldI .i64 ⟨b9, 1, none⟩ w73 fun n76 =>
  ((.agg [.int .i64 n75, .int .i64 n76].toArray : Value) = .agg [.int .i64 n70, .int .i64 n71].toArray)) ∧
  (ldI .i64 ⟨b7, 0, none⟩ w73 fun n77 =>
  ldI .i64 ⟨b7, 1, none⟩ w73 fun n78 =>
  ((.agg [.int .i64 n77, .int .i64 n78].toArray : Value) = .agg [.int .i64 n68, .int .i64 n69].toArray)) ∧
  CV P F.mem_Meet [.agg [.int .i64 n68, .int .i64 n69].toArray, .agg [.int .i64 n70, .int .i64 n71].toArray] w73 fun v79 w80 =>
  ∃ b81 : Bool, v79 = .bool b81 ∧
  J39 (((b74 == b81) : Bool)) w80)
  (J39 ((false : Bool)) w62))
  (J39 ((false : Bool)) w40))
  (J39 ((false : Bool)) w40))
  (J39 ((false : Bool)) w40))
  fun (s82 : crierlaw04_MemParts_J63.S) w83 => crierlaw04_MemParts_j0 Q s82 w83)
def crierlaw04_MemParts_ann : Nat → Option LoopSpec := fun
  | 63 => some crierlaw04_MemParts_J63
  | 126 => some (ordSpec [0, 1, 2, 3, 4, 5, 6, 7, 8, 9, 10, 11, 12, 13, 15, 16, 14, 17, 18, 19, 20, 21, 22, 24, 25, 23, 26, 27, 28, 29])
  | _ => none
theorem crierlaw04_MemParts_eq (a0_0 : Int) (a0_1 : Int) (a1_0 : Int) (a1_1 : Int) (a2 : Int) (a3 : Int) (w : World) (Q : Value → World → Prop) : fnX P crierlaw04_MemParts_ann Try.f5 [.agg [.int .i64 a0_0, .int .i64 a0_1].toArray, .agg [.int .i64 a1_0, .int .i64 a1_1].toArray, .int .i64 a2, .int .i64 a3] w Q = crierlaw04_MemParts a0_0 a0_1 a1_0 a1_1 a2 a3 w Q := by kernel_rfl
theorem crierlaw04_MemParts_cv {a0_0 : Int} {a0_1 : Int} {a1_0 : Int} {a1_1 : Int} {a2 : Int} {a3 : Int} {w : World} {Q : Value → World → Prop} (h : crierlaw04_MemParts a0_0 a0_1 a1_0 a1_1 a2 a3 w Q) : CV P F.crierlaw04_MemParts [.agg [.int .i64 a0_0, .int .i64 a0_1].toArray, .agg [.int .i64 a1_0, .int .i64 a1_1].toArray, .int .i64 a2, .int .i64 a3] w Q := CV_of mixed Try.func5 (crierlaw04_MemParts_eq a0_0 a0_1 a1_0 a1_1 a2 a3 w Q ▸ h)

/- 6 crier/crierlaw04.MemKeeps -/
def crierlaw04_MemKeeps_J62 : LoopSpec where
  S := Bool
  emb := fun s => [(33, .bool s)]
  ext := fun t => match getL t 33 with
    | some (.bool y24) => some (y24)
    | _ => none
  slots := [33]
  fits := fun _ => rfl
  ok := by
    intro t s h x hx
    (try dsimp only at h hx)
    split at h
    · cases h
      simp only [List.mem_cons, List.not_mem_nil, or_false] at hx
      rcases hx with rfl <;> assumption
    · cases h

def crierlaw04_MemKeeps_L506 : LoopSpec where
  S := Int
  emb := fun s => [(12, .int .i64 s)]
  ext := fun t => match getL t 12 with
    | some (.int .i64 y27) => some (y27)
    | _ => none
  slots := [12]
  fits := fun _ => rfl
  ok := by
    intro t s h x hx
    (try dsimp only at h hx)
    split at h
    · cases h
      simp only [List.mem_cons, List.not_mem_nil, or_false] at hx
      rcases hx with rfl <;> assumption
    · cases h

def crierlaw04_MemKeeps_J8191 : LoopSpec where
  S := Bool
  emb := fun s => [(19, .bool s)]
  ext := fun t => match getL t 19 with
    | some (.bool y78) => some (y78)
    | _ => none
  slots := [19]
  fits := fun _ => rfl
  ok := by
    intro t s h x hx
    (try dsimp only at h hx)
    split at h
    · cases h
      simp only [List.mem_cons, List.not_mem_nil, or_false] at hx
      rcases hx with rfl <;> assumption
    · cases h

def crierlaw04_MemKeeps_J16383 : LoopSpec where
  S := Bool
  emb := fun s => [(8, .bool s)]
  ext := fun t => match getL t 8 with
    | some (.bool y81) => some (y81)
    | _ => none
  slots := [8]
  fits := fun _ => rfl
  ok := by
    intro t s h x hx
    (try dsimp only at h hx)
    split at h
    · cases h
      simp only [List.mem_cons, List.not_mem_nil, or_false] at hx
      rcases hx with rfl <;> assumption
    · cases h

def crierlaw04_MemKeeps_j0 (Q : Value → World → Prop) (b82 : Bool) (w83 : World) : Prop :=
 Q (.bool b82) w83

def crierlaw04_MemKeeps_j1 (Q : Value → World → Prop) (p54 : Option Addr) (l55 : Nat) (c56 : Nat) (p74 : Option Addr) (l75 : Nat) (c76 : Nat) (n77 : Int) (b79 : Bool) (w80 : World) : Prop :=
 JoinT (fun (J84 : crierlaw04_MemKeeps_J16383.S → World → Prop) =>
  cnd (n77 == 0)
  (cnd b79
  (J84 ((true : Bool)) w80)
  (X.runT P (Conv.bytesToString (.slice p54 l55 c56)) w80 fun s85 =>
  X.runT P (Conv.bytesToString (.slice p74 l75 c76)) w80 fun s86 =>
  J84 ((((s85 : ByteArray).toList == (s86 : ByteArray).toList) : Bool)) w80))
  (J84 ((false : Bool)) w80))
  fun (s87 : crierlaw04_MemKeeps_J16383.S) w88 => crierlaw04_MemKeeps_j0 Q s87 w88

def crierlaw04_MemKeeps_l2 (a1 : Option Addr) (a1_n : Nat) (a3 : Int) (Q : Value → World → Prop) (b15 : Nat) (p22 : Option Addr) (n28 : Int) (w29 : World) (A30 : crierlaw04_MemKeeps_L506.S → World → Prop) : Prop :=
 cnd (decide (n28 < ((a1_n : Nat) : Int)))
 (ix n28 a1_n fun j31 => nn a1 fun a32 =>
 ldI .i64 (a32.add (j31 * 7)) w29 fun n33 =>
 ldI .i64 ((a32.add (j31 * 7)).add 1) w29 fun n34 =>
 ldI .i64 ((a32.add (j31 * 7)).add 2) w29 fun n35 =>
 ldI .i64 ((a32.add (j31 * 7)).add 3) w29 fun n36 =>
 ldI .i64 ((a32.add (j31 * 7)).add 4) w29 fun n37 =>
 ldI .u64 ((a32.add (j31 * 7)).add 5) w29 fun n38 =>
 ldL ((a32.add (j31 * 7)).add 6) w29 fun p39 l40 c41 =>
 CV P F.crierlaw04_Does [.pointer p22, .agg [.int .i64 n33, .int .i64 n34, .int .i64 n35, .int .i64 n36, .int .i64 n37, .int .u64 n38, .slice p39 l40 c41].toArray] w29 fun v42 w43 =>
 ∃ n44 : Int, v42 = .int .i64 n44 ∧
 A30 (((IntKind.i64.wrap (n28 + 1)) : Int)) w43)
 (st1 (.int .i64 1) ⟨b15, 0, none⟩ w29 fun w45 =>
 alc [.int .i64 0, .int .i64 0] T.t23 w45 fun b46 w47 =>
 st1 (.int .i64 a3) ⟨b46, 0, none⟩ w47 fun w48 =>
 st1 (.int .i64 1) ⟨b46, 1, none⟩ w48 fun w49 =>
 ldI .i64 ⟨b46, 0, none⟩ w49 fun n50 =>
 ldI .i64 ⟨b46, 1, none⟩ w49 fun n51 =>
 CV P F.mem_Mem_Bytes [.pointer p22, .agg [.int .i64 n50, .int .i64 n51].toArray] w49 fun v52 w53 =>
 ∃ (p54 : Option Addr) (l55 c56 : Nat), ∃ n57 : Int, v52 = .tuple [.slice p54 l55 c56, .int .i64 n57].toArray ∧
 ldI .i64 ⟨b15, 0, none⟩ w53 fun n58 =>
 ldI .i64 ⟨b15, 1, none⟩ w53 fun n59 =>
 ldI .i64 ⟨b15, 2, none⟩ w53 fun n60 =>
 ldI .i64 ⟨b15, 3, none⟩ w53 fun n61 =>
 ldI .i64 ⟨b15, 4, none⟩ w53 fun n62 =>
 ldI .u64 ⟨b15, 5, none⟩ w53 fun n63 =>
 ldL ⟨b15, 6, none⟩ w53 fun p64 l65 c66 =>
 CV P F.crierlaw04_Does [.pointer p22, .agg [.int .i64 n58, .int .i64 n59, .int .i64 n60, .int .i64 n61, .int .i64 n62, .int .u64 n63, .slice p64 l65 c66].toArray] w53 fun v67 w68 =>
 ∃ n69 : Int, v67 = .int .i64 n69 ∧
 ldI .i64 ⟨b46, 0, none⟩ w68 fun n70 =>
 ldI .i64 ⟨b46, 1, none⟩ w68 fun n71 =>
 CV P F.mem_Mem_Bytes [.pointer p22, .agg [.int .i64 n70, .int .i64 n71].toArray] w68 fun v72 w73 =>
 ∃ (p74 : Option Addr) (l75 c76 : Nat), ∃ n77 : Int, v72 = .tuple [.slice p74 l75 c76, .int .i64 n77].toArray ∧
 cnd (n57 != 0)
 (Q (.bool (n77 == n57)) w73)
 (JoinT (fun (J89 : crierlaw04_MemKeeps_J8191.S → World → Prop) =>
  cnd (n69 == 0)
  (ldI .i64 ⟨b15, 1, none⟩ w73 fun n90 =>
  ldI .i64 ⟨b15, 3, none⟩ w73 fun n91 =>
  cnd (decide (a3 ≥ (IntKind.i64.wrap (n90 + n91))))
  (ldI .i64 ⟨b15, 1, none⟩ w73 fun n92 =>
  ldI .i64 ⟨b15, 3, none⟩ w73 fun n93 =>
  ldI .i64 ⟨b15, 4, none⟩ w73 fun n94 =>
  J89 (((decide (a3 < (IntKind.i64.wrap ((IntKind.i64.wrap (n92 + n93)) + n94)))) : Bool)) w73)
  (J89 ((false : Bool)) w73))
  (J89 ((false : Bool)) w73))
  fun (s95 : crierlaw04_MemKeeps_J8191.S) w96 => crierlaw04_MemKeeps_j1 Q p54 l55 c56 p74 l75 c76 n77 s95 w96))

def crierlaw04_MemKeeps_j3 (a1 : Option Addr) (a1_n : Nat) (a3 : Int) (Q : Value → World → Prop) (b15 : Nat) (p22 : Option Addr) (b25 : Bool) (w26 : World) : Prop :=
 cnd b25
 (Q (.bool false) w26)
 (LoopT (fun (s97 : crierlaw04_MemKeeps_L506.S) w98 A99 => crierlaw04_MemKeeps_l2 a1 a1_n a3 Q b15 p22 s97 w98 A99) ((0 : Int)) w26)

def crierlaw04_MemKeeps (a0 : Int) (a1 : Option Addr) (a1_n : Nat) (a1_c : Nat) (a2_0 : Int) (a2_1 : Int) (a2_2 : Int) (a2_3 : Int) (a2_4 : Int) (a2_5 : Int) (a2_6 : Option Addr) (a2_6_n : Nat) (a2_6_c : Nat) (a3 : Int) (w : World) (Q : Value → World → Prop) : Prop :=
 alc [.int .i64 a2_0, .int .i64 a2_1, .int .i64 a2_2, .int .i64 a2_3, .int .i64 a2_4, .int .u64 a2_5, .slice a2_6 a2_6_n a2_6_c] T.t36 w fun b15 w16 =>
 CV P F.crierlaw04_awake [] w16 fun v17 w18 =>
 ∃ b19 : Bool, v17 = .bool b19 ∧
 cnd (!b19)
 (Q (.bool false) w18)
 (CV P F.crierlaw04_New [.int .i64 a0] w18 fun v20 w21 =>
 ∃ p22 : Option Addr, ∃ p23 : Option Addr, v20 = .tuple [.pointer p22, .pointer p23].toArray ∧
 JoinT (fun (J100 : crierlaw04_MemKeeps_J62.S → World → Prop) =>
  cnd (!b19)
  (J100 ((true : Bool)) w21)
  (J100 (((Option.isNone p22) : Bool)) w21))
  fun (s101 : crierlaw04_MemKeeps_J62.S) w102 => crierlaw04_MemKeeps_j3 a1 a1_n a3 Q b15 p22 s101 w102)
def crierlaw04_MemKeeps_ann : Nat → Option LoopSpec := fun
  | 62 => some crierlaw04_MemKeeps_J62
  | 506 => some crierlaw04_MemKeeps_L506
  | 8191 => some crierlaw04_MemKeeps_J8191
  | 16383 => some crierlaw04_MemKeeps_J16383
  | _ => none
theorem crierlaw04_MemKeeps_eq (a0 : Int) (a1 : Option Addr) (a1_n : Nat) (a1_c : Nat) (a2_0 : Int) (a2_1 : Int) (a2_2 : Int) (a2_3 : Int) (a2_4 : Int) (a2_5 : Int) (a2_6 : Option Addr) (a2_6_n : Nat) (a2_6_c : Nat) (a3 : Int) (w : World) (Q : Value → World → Prop) : fnX P crierlaw04_MemKeeps_ann Try.f6 [.int .i64 a0, .slice a1 a1_n a1_c, .agg [.int .i64 a2_0, .int .i64 a2_1, .int .i64 a2_2, .int .i64 a2_3, .int .i64 a2_4, .int .u64 a2_5, .slice a2_6 a2_6_n a2_6_c].toArray, .int .i64 a3] w Q = crierlaw04_MemKeeps a0 a1 a1_n a1_c a2_0 a2_1 a2_2 a2_3 a2_4 a2_5 a2_6 a2_6_n a2_6_c a3 w Q := by kernel_rfl
theorem crierlaw04_MemKeeps_cv {a0 : Int} {a1 : Option Addr} {a1_n : Nat} {a1_c : Nat} {a2_0 : Int} {a2_1 : Int} {a2_2 : Int} {a2_3 : Int} {a2_4 : Int} {a2_5 : Int} {a2_6 : Option Addr} {a2_6_n : Nat} {a2_6_c : Nat} {a3 : Int} {w : World} {Q : Value → World → Prop} (h : crierlaw04_MemKeeps a0 a1 a1_n a1_c a2_0 a2_1 a2_2 a2_3 a2_4 a2_5 a2_6 a2_6_n a2_6_c a3 w Q) : CV P F.crierlaw04_MemKeeps [.int .i64 a0, .slice a1 a1_n a1_c, .agg [.int .i64 a2_0, .int .i64 a2_1, .int .i64 a2_2, .int .i64 a2_3, .int .i64 a2_4, .int .u64 a2_5, .slice a2_6 a2_6_n a2_6_c].toArray, .int .i64 a3] w Q := CV_of mixed Try.func6 (crierlaw04_MemKeeps_eq a0 a1 a1_n a1_c a2_0 a2_1 a2_2 a2_3 a2_4 a2_5 a2_6 a2_6_n a2_6_c a3 w Q ▸ h)

/- 7 crier/crierlaw04.MemDoes -/
def crierlaw04_MemDoes_J62 : LoopSpec where
  S := Bool
  emb := fun s => [(33, .bool s)]
  ext := fun t => match getL t 33 with
    | some (.bool y12) => some (y12)
    | _ => none
  slots := [33]
  fits := fun _ => rfl
  ok := by
    intro t s h x hx
    (try dsimp only at h hx)
    split at h
    · cases h
      simp only [List.mem_cons, List.not_mem_nil, or_false] at hx
      rcases hx with rfl <;> assumption
    · cases h

def crierlaw04_MemDoes_L506 : LoopSpec where
  S := Option Addr × Int
  emb := fun s => [(6, .pointer s.1), (8, .int .i64 s.2)]
  ext := fun t => match getL t 6, getL t 8 with
    | some (.pointer y15), some (.int .i64 y16) => some (y15, y16)
    | _, _ => none
  slots := [6, 8]
  fits := fun _ => rfl
  ok := by
    intro t s h x hx
    (try dsimp only at h hx)
    split at h
    · cases h
      simp only [List.mem_cons, List.not_mem_nil, or_false] at hx
      rcases hx with rfl | rfl <;> assumption
    · cases h

def crierlaw04_MemDoes_J16201 : LoopSpec where
  S := Option Addr
  emb := fun s => [(6, .pointer s)]
  ext := fun t => match getL t 6 with
    | some (.pointer y41) => some (y41)
    | _ => none
  slots := [6]
  fits := fun _ => rfl
  ok := by
    intro t s h x hx
    (try dsimp only at h hx)
    split at h
    · cases h
      simp only [List.mem_cons, List.not_mem_nil, or_false] at hx
      rcases hx with rfl <;> assumption
    · cases h

def crierlaw04_MemDoes_J64806 : LoopSpec where
  S := Bool
  emb := fun s => [(73, .bool s)]
  ext := fun t => match getL t 73 with
    | some (.bool y44) => some (y44)
    | _ => none
  slots := [73]
  fits := fun _ => rfl
  ok := by
    intro t s h x hx
    (try dsimp only at h hx)
    split at h
    · cases h
      simp only [List.mem_cons, List.not_mem_nil, or_false] at hx
      rcases hx with rfl <;> assumption
    · cases h

def crierlaw04_MemDoes_J2073854 : LoopSpec where
  S := Bool
  emb := fun s => [(140, .bool s)]
  ext := fun t => match getL t 140 with
    | some (.bool y79) => some (y79)
    | _ => none
  slots := [140]
  fits := fun _ => rfl
  ok := by
    intro t s h x hx
    (try dsimp only at h hx)
    split at h
    · cases h
      simp only [List.mem_cons, List.not_mem_nil, or_false] at hx
      rcases hx with rfl <;> assumption
    · cases h

def crierlaw04_MemDoes_L16590842 : LoopSpec where
  S := Int
  emb := fun s => [(19, .int .i64 s)]
  ext := fun t => match getL t 19 with
    | some (.int .i64 y82) => some (y82)
    | _ => none
  slots := [19]
  fits := fun _ => rfl
  ok := by
    intro t s h x hx
    (try dsimp only at h hx)
    split at h
    · cases h
      simp only [List.mem_cons, List.not_mem_nil, or_false] at hx
      rcases hx with rfl <;> assumption
    · cases h

def crierlaw04_MemDoes_l0 (Q : Value → World → Prop) (p11 : Option Addr) (n18 : Int) (A20 : crierlaw04_MemDoes_L506.S → World → Prop) (p42 : Option Addr) (p67 : Option Addr) (l68 : Nat) (n83 : Int) (w84 : World) (A85 : crierlaw04_MemDoes_L16590842.S → World → Prop) : Prop :=
 cnd (decide (n83 < ((l68 : Nat) : Int)))
 (ix n83 l68 fun j86 => nn p67 fun a87 =>
 st1 (.int .u8 99) (a87.add (j86 * 1)) w84 fun w88 =>
 A85 (((IntKind.i64.wrap (n83 + 1)) : Int)) w88)
 (CV P F.crierlaw04_Same [.pointer p42, .pointer p11] w84 fun v89 w90 =>
 ∃ b91 : Bool, v89 = .bool b91 ∧
 cnd (!b91)
 (Q (.bool false) w90)
 (A20 ((p42 : Option Addr), ((IntKind.i64.wrap (n18 + 1)) : Int)) w90))

def crierlaw04_MemDoes_j1 (Q : Value → World → Prop) (p11 : Option Addr) (n18 : Int) (A20 : crierlaw04_MemDoes_L506.S → World → Prop) (p42 : Option Addr) (p67 : Option Addr) (l68 : Nat) (b80 : Bool) (w81 : World) : Prop :=
 cnd b80
 (Q (.bool false) w81)
 (LoopT (fun (s92 : crierlaw04_MemDoes_L16590842.S) w93 A94 => crierlaw04_MemDoes_l0 Q p11 n18 A20 p42 p67 l68 s92 w93 A94) ((0 : Int)) w81)

def crierlaw04_MemDoes_j2 (Q : Value → World → Prop) (p11 : Option Addr) (n18 : Int) (A20 : crierlaw04_MemDoes_L506.S → World → Prop) (b32 : Nat) (p42 : Option Addr) (b45 : Bool) (w46 : World) : Prop :=
 cnd b45
 (Q (.bool false) w46)
 (ldI .i64 ⟨b32, 1, none⟩ w46 fun n47 =>
 ldI .i64 ⟨b32, 2, none⟩ w46 fun n48 =>
 ldI .i64 ⟨b32, 3, none⟩ w46 fun n49 =>
 ldI .i64 ⟨b32, 4, none⟩ w46 fun n50 =>
 CV P F.mem_Mem_Read [.pointer p42, .agg [.int .i64 n47, .int .i64 n48].toArray, .int .i64 n49, .int .i64 n50] w46 fun v51 w52 =>
 ∃ n53 : Int, ∃ n54 : Int, v51 = .tuple [.int .u64 n53, .int .i64 n54].toArray ∧
 ldI .i64 ⟨b32, 1, none⟩ w52 fun n55 =>
 ldI .i64 ⟨b32, 2, none⟩ w52 fun n56 =>
 ldI .i64 ⟨b32, 3, none⟩ w52 fun n57 =>
 ldI .i64 ⟨b32, 4, none⟩ w52 fun n58 =>
 CV P F.crierref04_Mem_Read [.pointer p11, .agg [.int .i64 n55, .int .i64 n56].toArray, .int .i64 n57, .int .i64 n58] w52 fun v59 w60 =>
 ∃ n61 : Int, ∃ n62 : Int, v59 = .tuple [.int .u64 n61, .int .i64 n62].toArray ∧
 ldI .i64 ⟨b32, 1, none⟩ w60 fun n63 =>
 ldI .i64 ⟨b32, 2, none⟩ w60 fun n64 =>
 CV P F.mem_Mem_Bytes [.pointer p42, .agg [.int .i64 n63, .int .i64 n64].toArray] w60 fun v65 w66 =>
 ∃ (p67 : Option Addr) (l68 c69 : Nat), ∃ n70 : Int, v65 = .tuple [.slice p67 l68 c69, .int .i64 n70].toArray ∧
 ldI .i64 ⟨b32, 1, none⟩ w66 fun n71 =>
 ldI .i64 ⟨b32, 2, none⟩ w66 fun n72 =>
 CV P F.crierref04_Mem_Bytes [.pointer p11, .agg [.int .i64 n71, .int .i64 n72].toArray] w66 fun v73 w74 =>
 ∃ (p75 : Option Addr) (l76 c77 : Nat), ∃ n78 : Int, v73 = .tuple [.slice p75 l76 c77, .int .i64 n78].toArray ∧
 JoinT (fun (J95 : crierlaw04_MemDoes_J2073854.S → World → Prop) =>
  drw w74 fun w96 =>
  cnd (n53 != n61)
  (J95 ((true : Bool)) w96)
  (cnd (n54 != n62)
  (J95 ((true : Bool)) w96)
  (X.runT P (Conv.bytesToString (.slice p67 l68 c69)) w96 fun s97 =>
  X.runT P (Conv.bytesToString (.slice p75 l76 c77)) w96 fun s98 =>
  cnd (!((s97 : ByteArray).toList == (s98 : ByteArray).toList))
  (J95 ((true : Bool)) w96)
  (cnd (n70 != n78)
  (J95 ((true : Bool)) w96)
  (ldI .i64 ⟨b32, 1, none⟩ w96 fun n99 =>
  ldI .i64 ⟨b32, 2, none⟩ w96 fun n100 =>
  ldI .i64 ⟨b32, 1, none⟩ w96 fun n101 =>
  ldI .i64 ⟨b32, 2, none⟩ w96 fun n102 =>
  CV P F.mem_Mem_Holds [.pointer p42, .agg [.int .i64 n99, .int .i64 n100].toArray] w96 fun v103 w104 =>
  ∃ b105 : Bool, v103 = .bool b105 ∧
  (ldI .i64 ⟨b32, 1, none⟩ w104 fun n106 =>
  ldI .i64 ⟨b32, 2, none⟩ w104 fun n107 =>
  ((.agg [.int .i64 n106, .int .i64 n107].toArray : Value) = .agg [.int .i64 n101, .int .i64 n102].toArray)) ∧
  CV P F.crierref04_Mem_Holds [.pointer p11, .agg [.int .i64 n101, .int .i64 n102].toArray] w104 fun v108 w109 =>
  ∃ b110 : Bool, v108 = .bool b110 ∧
  J95 (((!(b105 == b110)) : Bool)) w109)))))
  fun (s111 : crierlaw04_MemDoes_J2073854.S) w112 => crierlaw04_MemDoes_j1 Q p11 n18 A20 p42 p67 l68 s111 w112)

def crierlaw04_MemDoes_j3 (Q : Value → World → Prop) (p11 : Option Addr) (n18 : Int) (A20 : crierlaw04_MemDoes_L506.S → World → Prop) (b32 : Nat) (p42 : Option Addr) (w43 : World) : Prop :=
 JoinT (fun (J113 : crierlaw04_MemDoes_J64806.S → World → Prop) =>
  drw w43 fun w114 =>
  ldI .i64 ⟨b32, 0, none⟩ w114 fun n115 =>
  ldI .i64 ⟨b32, 1, none⟩ w114 fun n116 =>
  ldI .i64 ⟨b32, 2, none⟩ w114 fun n117 =>
  ldI .i64 ⟨b32, 3, none⟩ w114 fun n118 =>
  ldI .i64 ⟨b32, 4, none⟩ w114 fun n119 =>
  ldI .u64 ⟨b32, 5, none⟩ w114 fun n120 =>
  ldL ⟨b32, 6, none⟩ w114 fun p121 l122 c123 =>
  ldI .i64 ⟨b32, 0, none⟩ w114 fun n124 =>
  ldI .i64 ⟨b32, 1, none⟩ w114 fun n125 =>
  ldI .i64 ⟨b32, 2, none⟩ w114 fun n126 =>
  ldI .i64 ⟨b32, 3, none⟩ w114 fun n127 =>
  ldI .i64 ⟨b32, 4, none⟩ w114 fun n128 =>
  ldI .u64 ⟨b32, 5, none⟩ w114 fun n129 =>
  ldL ⟨b32, 6, none⟩ w114 fun p130 l131 c132 =>
  CV P F.crierlaw04_Does [.pointer p42, .agg [.int .i64 n115, .int .i64 n116, .int .i64 n117, .int .i64 n118, .int .i64 n119, .int .u64 n120, .slice p121 l122 c123].toArray] w114 fun v133 w134 =>
  ∃ n135 : Int, v133 = .int .i64 n135 ∧
  (ldI .i64 ⟨b32, 0, none⟩ w134 fun n136 =>
  ldI .i64 ⟨b32, 1, none⟩ w134 fun n137 =>
  ldI .i64 ⟨b32, 2, none⟩ w134 fun n138 =>
  ldI .i64 ⟨b32, 3, none⟩ w134 fun n139 =>
  ldI .i64 ⟨b32, 4, none⟩ w134 fun n140 =>
  ldI .u64 ⟨b32, 5, none⟩ w134 fun n141 =>
  ldL ⟨b32, 6, none⟩ w134 fun p142 l143 c144 =>
  ((.agg [.int .i64 n136, .int .i64 n137, .int .i64 n138, .int .i64 n139, .int .i64 n140, .int .u64 n141, .slice p142 l143 c144].toArray : Value) = .agg [.int .i64 n124, .int .i64 n125, .int .i64 n126, .int .i64 n127, .int .i64 n128, .int .u64 n129, .slice p130 l131 c132].toArray)) ∧
  CV P F.crierlaw04_Model [.pointer p11, .agg [.int .i64 n124, .int .i64 n125, .int .i64 n126, .int .i64 n127, .int .i64 n128, .int .u64 n129, .slice p130 l131 c132].toArray] w134 fun v145 w146 =>
  ∃ n147 : Int, v145 = .int .i64 n147 ∧
  cnd (n135 != n147)
  (J113 ((true : Bool)) w146)
  (CV P F.crierlaw04_Same [.pointer p42, .pointer p11] w146 fun v148 w149 =>
  ∃ b150 : Bool, v148 = .bool b150 ∧
  J113 (((!b150) : Bool)) w149))
  fun (s151 : crierlaw04_MemDoes_J64806.S) w152 => crierlaw04_MemDoes_j2 Q p11 n18 A20 b32 p42 s151 w152

def crierlaw04_MemDoes_l4 (a1 : Option Addr) (a1_n : Nat) (Q : Value → World → Prop) (p11 : Option Addr) (p17 : Option Addr) (n18 : Int) (w19 : World) (A20 : crierlaw04_MemDoes_L506.S → World → Prop) : Prop :=
 cnd (decide (n18 < ((a1_n : Nat) : Int)))
 (ix n18 a1_n fun j21 => nn a1 fun a22 =>
 ldI .i64 (a22.add (j21 * 7)) w19 fun n23 =>
 ldI .i64 ((a22.add (j21 * 7)).add 1) w19 fun n24 =>
 ldI .i64 ((a22.add (j21 * 7)).add 2) w19 fun n25 =>
 ldI .i64 ((a22.add (j21 * 7)).add 3) w19 fun n26 =>
 ldI .i64 ((a22.add (j21 * 7)).add 4) w19 fun n27 =>
 ldI .u64 ((a22.add (j21 * 7)).add 5) w19 fun n28 =>
 ldL ((a22.add (j21 * 7)).add 6) w19 fun p29 l30 c31 =>
 alc [.int .i64 0, .int .i64 0, .int .i64 0, .int .i64 0, .int .i64 0, .int .u64 0, .slice none 0 0] T.t36 w19 fun b32 w33 =>
 st1 (.int .i64 n23) ⟨b32, 0, none⟩ w33 fun w34 =>
 st1 (.int .i64 n24) ⟨b32, 1, none⟩ w34 fun w35 =>
 st1 (.int .i64 n25) ⟨b32, 2, none⟩ w35 fun w36 =>
 st1 (.int .i64 n26) ⟨b32, 3, none⟩ w36 fun w37 =>
 st1 (.int .i64 n27) ⟨b32, 4, none⟩ w37 fun w38 =>
 st1 (.int .u64 n28) ⟨b32, 5, none⟩ w38 fun w39 =>
 st1 (.slice p29 l30 c31) ⟨b32, 6, none⟩ w39 fun w40 =>
 JoinT (fun (J153 : crierlaw04_MemDoes_J16201.S → World → Prop) =>
  ldI .i64 ⟨b32, 0, none⟩ w40 fun n154 =>
  cnd (n154 == 4)
  (CV P F.mem_Mem_Copy [.pointer p17] w40 fun v155 w156 =>
  ∃ p157 : Option Addr, v155 = .pointer p157 ∧
  cnd (Option.isNone p157)
  (Q (.bool false) w156)
  (CV P F.mem_Mem_Size [.pointer p17] w156 fun v158 w159 =>
  ∃ n160 : Int, v158 = .int .i64 n160 ∧
  CV P F.mem_Mem_Write [.pointer p17, .agg [.int .i64 0, .int .i64 n160].toArray, .int .i64 0, .int .i64 8, .int .u64 7] w159 fun v161 w162 =>
  ∃ n163 : Int, v161 = .int .i64 n163 ∧
  ldI .i64 ⟨b32, 1, none⟩ w162 fun n164 =>
  ldI .i64 ⟨b32, 2, none⟩ w162 fun n165 =>
  CV P F.mem_Mem_Wipe [.pointer p17, .agg [.int .i64 n164, .int .i64 n165].toArray] w162 fun v166 w167 =>
  ∃ n168 : Int, v166 = .int .i64 n168 ∧
  J153 ((p157 : Option Addr)) w167))
  (J153 ((p17 : Option Addr)) w40))
  fun (s169 : crierlaw04_MemDoes_J16201.S) w170 => crierlaw04_MemDoes_j3 Q p11 n18 A20 b32 s169 w170)
 (Q (.bool true) w19)

def crierlaw04_MemDoes_j5 (a1 : Option Addr) (a1_n : Nat) (Q : Value → World → Prop) (p10 : Option Addr) (p11 : Option Addr) (b13 : Bool) (w14 : World) : Prop :=
 cnd b13
 (Q (.bool false) w14)
 (LoopT (fun (s171 : crierlaw04_MemDoes_L506.S) w172 A173 => crierlaw04_MemDoes_l4 a1 a1_n Q p11 s171.1 s171.2 w172 A173) ((p10 : Option Addr), (0 : Int)) w14)

def crierlaw04_MemDoes (a0 : Int) (a1 : Option Addr) (a1_n : Nat) (a1_c : Nat) (w : World) (Q : Value → World → Prop) : Prop :=
 CV P F.crierlaw04_awake [] w fun v5 w6 =>
 ∃ b7 : Bool, v5 = .bool b7 ∧
 cnd (!b7)
 (Q (.bool false) w6)
 (CV P F.crierlaw04_New [.int .i64 a0] w6 fun v8 w9 =>
 ∃ p10 : Option Addr, ∃ p11 : Option Addr, v8 = .tuple [.pointer p10, .pointer p11].toArray ∧
 JoinT (fun (J174 : crierlaw04_MemDoes_J62.S → World → Prop) =>
  cnd (!b7)
  (J174 ((true : Bool)) w9)
  (J174 (((Option.isNone p10) : Bool)) w9))
  fun (s175 : crierlaw04_MemDoes_J62.S) w176 => crierlaw04_MemDoes_j5 a1 a1_n Q p10 p11 s175 w176)
def crierlaw04_MemDoes_ann : Nat → Option LoopSpec := fun
  | 62 => some crierlaw04_MemDoes_J62
  | 506 => some crierlaw04_MemDoes_L506
  | 16201 => some crierlaw04_MemDoes_J16201
  | 64806 => some crierlaw04_MemDoes_J64806
  | 2073854 => some crierlaw04_MemDoes_J2073854
  | 16590842 => some crierlaw04_MemDoes_L16590842
  | 4147708 => some (ordSpec [0, 1, 2, 3, 4, 5, 6, 7, 8, 9, 10, 11, 12, 13, 14, 15, 16, 17, 18, 19, 20, 21, 22, 23, 25, 26, 27, 24, 28, 29, 30])
  | 129612 => some (ordSpec [0, 1, 3, 4, 2, 5, 6, 7, 8, 9, 10, 11, 12])
  | _ => none
theorem crierlaw04_MemDoes_eq (a0 : Int) (a1 : Option Addr) (a1_n : Nat) (a1_c : Nat) (w : World) (Q : Value → World → Prop) : fnX P crierlaw04_MemDoes_ann Try.f7 [.int .i64 a0, .slice a1 a1_n a1_c] w Q = crierlaw04_MemDoes a0 a1 a1_n a1_c w Q := by kernel_rfl
theorem crierlaw04_MemDoes_cv {a0 : Int} {a1 : Option Addr} {a1_n : Nat} {a1_c : Nat} {w : World} {Q : Value → World → Prop} (h : crierlaw04_MemDoes a0 a1 a1_n a1_c w Q) : CV P F.crierlaw04_MemDoes [.int .i64 a0, .slice a1 a1_n a1_c] w Q := CV_of mixed Try.func7 (crierlaw04_MemDoes_eq a0 a1 a1_n a1_c w Q ▸ h)

/- 8 crier/crierlaw04.awake -/
def crierlaw04_awake_J14 : LoopSpec where
  S := Bool
  emb := fun s => [(20, .bool s)]
  ext := fun t => match getL t 20 with
    | some (.bool y5) => some (y5)
    | _ => none
  slots := [20]
  fits := fun _ => rfl
  ok := by
    intro t s h x hx
    (try dsimp only at h hx)
    split at h
    · cases h
      simp only [List.mem_cons, List.not_mem_nil, or_false] at hx
      rcases hx with rfl <;> assumption
    · cases h

def crierlaw04_awake_J511 : LoopSpec where
  S := Bool
  emb := fun s => [(0, .bool s)]
  ext := fun t => match getL t 0 with
    | some (.bool y33) => some (y33)
    | _ => none
  slots := [0]
  fits := fun _ => rfl
  ok := by
    intro t s h x hx
    (try dsimp only at h hx)
    split at h
    · cases h
      simp only [List.mem_cons, List.not_mem_nil, or_false] at hx
      rcases hx with rfl <;> assumption
    · cases h

def crierlaw04_awake_j0 (Q : Value → World → Prop) (b34 : Bool) (w35 : World) : Prop :=
 Q (.bool b34) w35

def crierlaw04_awake_j1 (Q : Value → World → Prop) (p3 : Option Addr) (b6 : Bool) (w7 : World) : Prop :=
 cnd b6
 (Q (.bool false) w7)
 (alc [.int .i64 0, .int .i64 0] T.t23 w7 fun b8 w9 =>
 st1 (.int .i64 4) ⟨b8, 0, none⟩ w9 fun w10 =>
 st1 (.int .i64 8) ⟨b8, 1, none⟩ w10 fun w11 =>
 ldI .i64 ⟨b8, 0, none⟩ w11 fun n12 =>
 ldI .i64 ⟨b8, 1, none⟩ w11 fun n13 =>
 CV P F.mem_Mem_Write [.pointer p3, .agg [.int .i64 n12, .int .i64 n13].toArray, .int .i64 0, .int .i64 4, .int .u64 258] w11 fun v14 w15 =>
 ∃ n16 : Int, v14 = .int .i64 n16 ∧
 ldI .i64 ⟨b8, 0, none⟩ w15 fun n17 =>
 ldI .i64 ⟨b8, 1, none⟩ w15 fun n18 =>
 CV P F.mem_Mem_Read [.pointer p3, .agg [.int .i64 n17, .int .i64 n18].toArray, .int .i64 0, .int .i64 8] w15 fun v19 w20 =>
 ∃ n21 : Int, ∃ n22 : Int, v19 = .tuple [.int .u64 n21, .int .i64 n22].toArray ∧
 ldI .i64 ⟨b8, 0, none⟩ w20 fun n23 =>
 ldI .i64 ⟨b8, 1, none⟩ w20 fun n24 =>
 CV P F.mem_Mem_Read [.pointer p3, .agg [.int .i64 n23, .int .i64 n24].toArray, .int .i64 4, .int .i64 8] w20 fun v25 w26 =>
 ∃ n27 : Int, ∃ n28 : Int, v25 = .tuple [.int .u64 n27, .int .i64 n28].toArray ∧
 CV P F.mem_Mem_Read [.pointer p3, .agg [.int .i64 10, .int .i64 8].toArray, .int .i64 0, .int .i64 8] w26 fun v29 w30 =>
 ∃ n31 : Int, ∃ n32 : Int, v29 = .tuple [.int .u64 n31, .int .i64 n32].toArray ∧
 JoinT (fun (J36 : crierlaw04_awake_J511.S → World → Prop) =>
  cnd (n16 == 0)
  (cnd (n21 == 258)
  (cnd (n22 == 0)
  (cnd (n28 == 41)
  (J36 (((n32 == 42) : Bool)) w30)
  (J36 ((false : Bool)) w30))
  (J36 ((false : Bool)) w30))
  (J36 ((false : Bool)) w30))
  (J36 ((false : Bool)) w30))
  fun (s37 : crierlaw04_awake_J511.S) w38 => crierlaw04_awake_j0 Q s37 w38)

def crierlaw04_awake (w : World) (Q : Value → World → Prop) : Prop :=
 CV P F.mem_New [.int .i64 16] w fun v1 w2 =>
 ∃ p3 : Option Addr, ∃ n4 : Int, v1 = .tuple [.pointer p3, .int .i64 n4].toArray ∧
 JoinT (fun (J39 : crierlaw04_awake_J14.S → World → Prop) =>
  cnd (Option.isNone p3)
  (J39 ((true : Bool)) w2)
  (J39 (((n4 != 0) : Bool)) w2))
  fun (s40 : crierlaw04_awake_J14.S) w41 => crierlaw04_awake_j1 Q p3 s40 w41
def crierlaw04_awake_ann : Nat → Option LoopSpec := fun
  | 14 => some crierlaw04_awake_J14
  | 511 => some crierlaw04_awake_J511
  | _ => none
theorem crierlaw04_awake_eq (w : World) (Q : Value → World → Prop) : fnX P crierlaw04_awake_ann Try.f8 [] w Q = crierlaw04_awake w Q := by kernel_rfl
theorem crierlaw04_awake_cv {w : World} {Q : Value → World → Prop} (h : crierlaw04_awake w Q) : CV P F.crierlaw04_awake [] w Q := CV_of mixed Try.func8 (crierlaw04_awake_eq w Q ▸ h)

/- 9 crier/mem.Meet -/
def mem_Meet_J6 : LoopSpec where
  S := Bool
  emb := fun s => [(22, .bool s)]
  ext := fun t => match getL t 22 with
    | some (.bool y9) => some (y9)
    | _ => none
  slots := [22]
  fits := fun _ => rfl
  ok := by
    intro t s h x hx
    (try dsimp only at h hx)
    split at h
    · cases h
      simp only [List.mem_cons, List.not_mem_nil, or_false] at hx
      rcases hx with rfl <;> assumption
    · cases h

def mem_Meet_j0 (Q : Value → World → Prop) (b5 : Nat) (b7 : Nat) (b10 : Bool) (w11 : World) : Prop :=
 cnd b10
 (Q (.bool false) w11)
 (ldI .i64 ⟨b5, 0, none⟩ w11 fun n12 =>
 ldI .i64 ⟨b7, 0, none⟩ w11 fun n13 =>
 cnd (decide (n12 < n13))
 (ldI .i64 ⟨b7, 0, none⟩ w11 fun n14 =>
 ldI .i64 ⟨b5, 0, none⟩ w11 fun n15 =>
 ldI .i64 ⟨b5, 1, none⟩ w11 fun n16 =>
 Q (.bool (decide ((IntKind.i64.wrap (n14 - n15)) < n16))) w11)
 (ldI .i64 ⟨b5, 0, none⟩ w11 fun n17 =>
 ldI .i64 ⟨b7, 0, none⟩ w11 fun n18 =>
 ldI .i64 ⟨b7, 1, none⟩ w11 fun n19 =>
 Q (.bool (decide ((IntKind.i64.wrap (n17 - n18)) < n19))) w11))

def mem_Meet (a0_0 : Int) (a0_1 : Int) (a1_0 : Int) (a1_1 : Int) (w : World) (Q : Value → World → Prop) : Prop :=
 alc [.int .i64 a0_0, .int .i64 a0_1] T.t23 w fun b5 w6 =>
 alc [.int .i64 a1_0, .int .i64 a1_1] T.t23 w6 fun b7 w8 =>
 JoinT (fun (J20 : mem_Meet_J6.S → World → Prop) =>
  ldI .i64 ⟨b5, 0, none⟩ w8 fun n21 =>
  ldI .i64 ⟨b5, 1, none⟩ w8 fun n22 =>
  CV P F.mem_fair [.agg [.int .i64 n21, .int .i64 n22].toArray] w8 fun v23 w24 =>
  ∃ b25 : Bool, v23 = .bool b25 ∧
  cnd (!b25)
  (J20 ((true : Bool)) w24)
  (ldI .i64 ⟨b7, 0, none⟩ w24 fun n26 =>
  ldI .i64 ⟨b7, 1, none⟩ w24 fun n27 =>
  CV P F.mem_fair [.agg [.int .i64 n26, .int .i64 n27].toArray] w24 fun v28 w29 =>
  ∃ b30 : Bool, v28 = .bool b30 ∧
  cnd (!b30)
  (J20 ((true : Bool)) w29)
  (ldI .i64 ⟨b5, 1, none⟩ w29 fun n31 =>
  cnd (decide (n31 < 1))
  (J20 ((true : Bool)) w29)
  (ldI .i64 ⟨b7, 1, none⟩ w29 fun n32 =>
  J20 (((decide (n32 < 1)) : Bool)) w29))))
  fun (s33 : mem_Meet_J6.S) w34 => mem_Meet_j0 Q b5 b7 s33 w34
def mem_Meet_ann : Nat → Option LoopSpec := fun
  | 6 => some mem_Meet_J6
  | _ => none
theorem mem_Meet_eq (a0_0 : Int) (a0_1 : Int) (a1_0 : Int) (a1_1 : Int) (w : World) (Q : Value → World → Prop) : fnX P mem_Meet_ann Try.f9 [.agg [.int .i64 a0_0, .int .i64 a0_1].toArray, .agg [.int .i64 a1_0, .int .i64 a1_1].toArray] w Q = mem_Meet a0_0 a0_1 a1_0 a1_1 w Q := by kernel_rfl
theorem mem_Meet_cv {a0_0 : Int} {a0_1 : Int} {a1_0 : Int} {a1_1 : Int} {w : World} {Q : Value → World → Prop} (h : mem_Meet a0_0 a0_1 a1_0 a1_1 w Q) : CV P F.mem_Meet [.agg [.int .i64 a0_0, .int .i64 a0_1].toArray, .agg [.int .i64 a1_0, .int .i64 a1_1].toArray] w Q := CV_of mixed Try.func9 (mem_Meet_eq a0_0 a0_1 a1_0 a1_1 w Q ▸ h)

/- 10 crier/crierlaw04.New -/
def crierlaw04_New_J3 : LoopSpec where
  S := Int
  emb := fun s => [(0, .int .i64 s)]
  ext := fun t => match getL t 0 with
    | some (.int .i64 y2) => some (y2)
    | _ => none
  slots := [0]
  fits := fun _ => rfl
  ok := by
    intro t s h x hx
    (try dsimp only at h hx)
    split at h
    · cases h
      simp only [List.mem_cons, List.not_mem_nil, or_false] at hx
      rcases hx with rfl <;> assumption
    · cases h

def crierlaw04_New_j0 (Q : Value → World → Prop) (n3 : Int) (w4 : World) : Prop :=
 CV P F.mem_New [.int .i64 n3] w4 fun v5 w6 =>
 ∃ p7 : Option Addr, ∃ n8 : Int, v5 = .tuple [.pointer p7, .int .i64 n8].toArray ∧
 cnd (n8 != 0)
 (Q (.tuple [.pointer none, .pointer none].toArray) w6)
 (drw w6 fun w9 =>
 runS P (Instr.makeSlice T.t34 (.int .i64 n3) (.int .i64 n3)) w9 fun p10 l11 c12 w13 =>
 alc [.slice p10 l11 c12] T.t57 w13 fun b14 w15 =>
 Q (.tuple [.pointer p7, .pointer (some ⟨b14, 0, none⟩)].toArray) w15)

def crierlaw04_New_J6 : LoopSpec where
  S := Bool
  emb := fun s => [(11, .bool s)]
  ext := fun t => match getL t 11 with
    | some (.bool y17) => some (y17)
    | _ => none
  slots := [11]
  fits := fun _ => rfl
  ok := by
    intro t s h x hx
    (try dsimp only at h hx)
    split at h
    · cases h
      simp only [List.mem_cons, List.not_mem_nil, or_false] at hx
      rcases hx with rfl <;> assumption
    · cases h

def crierlaw04_New_j1 (a0 : Int) (J16 : crierlaw04_New_J3.S → World → Prop) (b18 : Bool) (w19 : World) : Prop :=
 cnd b18
 (J16 ((200 : Int)) w19)
 (J16 ((a0 : Int)) w19)

def crierlaw04_New (a0 : Int) (w : World) (Q : Value → World → Prop) : Prop :=
 JoinT (fun (J16 : crierlaw04_New_J3.S → World → Prop) =>
  JoinT (fun (J20 : crierlaw04_New_J6.S → World → Prop) =>
   cnd (decide (a0 < 0))
   (J20 ((true : Bool)) w)
   (J20 (((decide (a0 > 4096)) : Bool)) w))
   fun (s21 : crierlaw04_New_J6.S) w22 => crierlaw04_New_j1 a0 J16 s21 w22)
  fun (s23 : crierlaw04_New_J3.S) w24 => crierlaw04_New_j0 Q s23 w24
def crierlaw04_New_ann : Nat → Option LoopSpec := fun
  | 3 => some crierlaw04_New_J3
  | 62 => some (ordSpec [0, 1, 5, 2, 3, 4, 6])
  | 6 => some crierlaw04_New_J6
  | _ => none
theorem crierlaw04_New_eq (a0 : Int) (w : World) (Q : Value → World → Prop) : fnX P crierlaw04_New_ann Try.f10 [.int .i64 a0] w Q = crierlaw04_New a0 w Q := by kernel_rfl
theorem crierlaw04_New_cv {a0 : Int} {w : World} {Q : Value → World → Prop} (h : crierlaw04_New a0 w Q) : CV P F.crierlaw04_New [.int .i64 a0] w Q := CV_of mixed Try.func10 (crierlaw04_New_eq a0 w Q ▸ h)

/- 11 crier/crierlaw04.Does -/
def crierlaw04_Does_L27578 : LoopSpec where
  S := Int
  emb := fun s => [(7, .int .i64 s)]
  ext := fun t => match getL t 7 with
    | some (.int .i64 y34) => some (y34)
    | _ => none
  slots := [7]
  fits := fun _ => rfl
  ok := by
    intro t s h x hx
    (try dsimp only at h hx)
    split at h
    · cases h
      simp only [List.mem_cons, List.not_mem_nil, or_false] at hx
      rcases hx with rfl <;> assumption
    · cases h

def crierlaw04_Does_l0 (Q : Value → World → Prop) (p25 : Option Addr) (l26 : Nat) (n33 : Int) (n35 : Int) (w36 : World) (A37 : crierlaw04_Does_L27578.S → World → Prop) : Prop :=
 cnd (decide (n35 < ((l26 : Nat) : Int)))
 (ix n35 l26 fun j38 => nn p25 fun a39 =>
 st1 (.int .u8 77) (a39.add (j38 * 1)) w36 fun w40 =>
 A37 (((IntKind.i64.wrap (n35 + 1)) : Int)) w40)
 (Q (.int .i64 n33) w36)

def crierlaw04_Does (a0 : Option Addr) (a1_0 : Int) (a1_1 : Int) (a1_2 : Int) (a1_3 : Int) (a1_4 : Int) (a1_5 : Int) (a1_6 : Option Addr) (a1_6_n : Nat) (a1_6_c : Nat) (w : World) (Q : Value → World → Prop) : Prop :=
 alc [.int .i64 a1_0, .int .i64 a1_1, .int .i64 a1_2, .int .i64 a1_3, .int .i64 a1_4, .int .u64 a1_5, .slice a1_6 a1_6_n a1_6_c] T.t36 w fun b11 w12 =>
 ldI .i64 ⟨b11, 0, none⟩ w12 fun n13 =>
 cnd (n13 == 1)
 (ldI .i64 ⟨b11, 1, none⟩ w12 fun n14 =>
 ldI .i64 ⟨b11, 2, none⟩ w12 fun n15 =>
 ldI .i64 ⟨b11, 3, none⟩ w12 fun n16 =>
 ldI .i64 ⟨b11, 4, none⟩ w12 fun n17 =>
 ldI .u64 ⟨b11, 5, none⟩ w12 fun n18 =>
 CV P F.mem_Mem_Write [.pointer a0, .agg [.int .i64 n14, .int .i64 n15].toArray, .int .i64 n16, .int .i64 n17, .int .u64 n18] w12 fun v19 w20 =>
 ∃ n21 : Int, v19 = .int .i64 n21 ∧
 Q (.int .i64 n21) w20)
 (cnd (n13 == 2)
 (ldL ⟨b11, 6, none⟩ w12 fun p22 l23 c24 =>
 runS P (Builtin.append_ #[T.t34, T.t34] T.t34 [.slice none 0 0, .slice p22 l23 c24].toArray) w12 fun p25 l26 c27 w28 =>
 ldI .i64 ⟨b11, 1, none⟩ w28 fun n29 =>
 ldI .i64 ⟨b11, 2, none⟩ w28 fun n30 =>
 CV P F.mem_Mem_Put [.pointer a0, .agg [.int .i64 n29, .int .i64 n30].toArray, .slice p25 l26 c27] w28 fun v31 w32 =>
 ∃ n33 : Int, v31 = .int .i64 n33 ∧
 LoopT (fun (s41 : crierlaw04_Does_L27578.S) w42 A43 => crierlaw04_Does_l0 Q p25 l26 n33 s41 w42 A43) ((0 : Int)) w32)
 (cnd (n13 == 3)
 (ldI .i64 ⟨b11, 1, none⟩ w12 fun n44 =>
 ldI .i64 ⟨b11, 2, none⟩ w12 fun n45 =>
 CV P F.mem_Mem_Wipe [.pointer a0, .agg [.int .i64 n44, .int .i64 n45].toArray] w12 fun v46 w47 =>
 ∃ n48 : Int, v46 = .int .i64 n48 ∧
 Q (.int .i64 n48) w47)
 (Q (.int .i64 0) w12)))
def crierlaw04_Does_ann : Nat → Option LoopSpec := fun
  | 27578 => some crierlaw04_Does_L27578
  | _ => none
theorem crierlaw04_Does_eq (a0 : Option Addr) (a1_0 : Int) (a1_1 : Int) (a1_2 : Int) (a1_3 : Int) (a1_4 : Int) (a1_5 : Int) (a1_6 : Option Addr) (a1_6_n : Nat) (a1_6_c : Nat) (w : World) (Q : Value → World → Prop) : fnX P crierlaw04_Does_ann Try.f11 [.pointer a0, .agg [.int .i64 a1_0, .int .i64 a1_1, .int .i64 a1_2, .int .i64 a1_3, .int .i64 a1_4, .int .u64 a1_5, .slice a1_6 a1_6_n a1_6_c].toArray] w Q = crierlaw04_Does a0 a1_0 a1_1 a1_2 a1_3 a1_4 a1_5 a1_6 a1_6_n a1_6_c w Q := by kernel_rfl
theorem crierlaw04_Does_cv {a0 : Option Addr} {a1_0 : Int} {a1_1 : Int} {a1_2 : Int} {a1_3 : Int} {a1_4 : Int} {a1_5 : Int} {a1_6 : Option Addr} {a1_6_n : Nat} {a1_6_c : Nat} {w : World} {Q : Value → World → Prop} (h : crierlaw04_Does a0 a1_0 a1_1 a1_2 a1_3 a1_4 a1_5 a1_6 a1_6_n a1_6_c w Q) : CV P F.crierlaw04_Does [.pointer a0, .agg [.int .i64 a1_0, .int .i64 a1_1, .int .i64 a1_2, .int .i64 a1_3, .int .i64 a1_4, .int .u64 a1_5, .slice a1_6 a1_6_n a1_6_c].toArray] w Q := CV_of mixed Try.func11 (crierlaw04_Does_eq a0 a1_0 a1_1 a1_2 a1_3 a1_4 a1_5 a1_6 a1_6_n a1_6_c w Q ▸ h)

/- 12 (*crier/mem.Mem).Write -/
def mem_Mem_Write_L58 : LoopSpec where
  S := Int
  emb := fun s => [(24, .int .i64 s)]
  ext := fun t => match getL t 24 with
    | some (.int .i64 y17) => some (y17)
    | _ => none
  slots := [24]
  fits := fun _ => rfl
  ok := by
    intro t s h x hx
    (try dsimp only at h hx)
    split at h
    · cases h
      simp only [List.mem_cons, List.not_mem_nil, or_false] at hx
      rcases hx with rfl <;> assumption
    · cases h

def mem_Mem_Write_l0 (a4 : Int) (Q : Value → World → Prop) (p13 : Option Addr) (l14 : Nat) (n16 : Int) (n18 : Int) (w19 : World) (A20 : mem_Mem_Write_L58.S → World → Prop) : Prop :=
 cnd (decide (n18 < ((l14 : Nat) : Int)))
 (nng (IntKind.i64.wrap (8 * n18)) <|
 ix n18 l14 fun j21 => nn p13 fun a22 =>
 st1 (.int .u8 (IntKind.u8.wrap ((Int.fdiv a4 (2 ^ min (Int.toNat (IntKind.i64.wrap (8 * n18))) (IntKind.u64.bits)))))) (a22.add (j21 * 1)) w19 fun w23 =>
 A20 (((IntKind.i64.wrap (n18 + 1)) : Int)) w23)
 (Q (.int .i64 n16) w19)

def mem_Mem_Write (a0 : Option Addr) (a1_0 : Int) (a1_1 : Int) (a2 : Int) (a3 : Int) (a4 : Int) (w : World) (Q : Value → World → Prop) : Prop :=
 alc [.int .i64 a1_0, .int .i64 a1_1] T.t23 w fun b7 w8 =>
 ldI .i64 ⟨b7, 0, none⟩ w8 fun n9 =>
 ldI .i64 ⟨b7, 1, none⟩ w8 fun n10 =>
 CV P F.mem_Mem_part [.pointer a0, .agg [.int .i64 n9, .int .i64 n10].toArray, .int .i64 a2, .int .i64 a3] w8 fun v11 w12 =>
 ∃ (p13 : Option Addr) (l14 c15 : Nat), ∃ n16 : Int, v11 = .tuple [.slice p13 l14 c15, .int .i64 n16].toArray ∧
 LoopT (fun (s24 : mem_Mem_Write_L58.S) w25 A26 => mem_Mem_Write_l0 a4 Q p13 l14 n16 s24 w25 A26) ((0 : Int)) w12
def mem_Mem_Write_ann : Nat → Option LoopSpec := fun
  | 58 => some mem_Mem_Write_L58
  | _ => none
theorem mem_Mem_Write_eq (a0 : Option Addr) (a1_0 : Int) (a1_1 : Int) (a2 : Int) (a3 : Int) (a4 : Int) (w : World) (Q : Value → World → Prop) : fnX P mem_Mem_Write_ann Try.f12 [.pointer a0, .agg [.int .i64 a1_0, .int .i64 a1_1].toArray, .int .i64 a2, .int .i64 a3, .int .u64 a4] w Q = mem_Mem_Write a0 a1_0 a1_1 a2 a3 a4 w Q := by kernel_rfl
theorem mem_Mem_Write_cv {a0 : Option Addr} {a1_0 : Int} {a1_1 : Int} {a2 : Int} {a3 : Int} {a4 : Int} {w : World} {Q : Value → World → Prop} (h : mem_Mem_Write a0 a1_0 a1_1 a2 a3 a4 w Q) : CV P F.mem_Mem_Write [.pointer a0, .agg [.int .i64 a1_0, .int .i64 a1_1].toArray, .int .i64 a2, .int .i64 a3, .int .u64 a4] w Q := CV_of mixed Try.func12 (mem_Mem_Write_eq a0 a1_0 a1_1 a2 a3 a4 w Q ▸ h)

/- 13 (*crier/mem.Mem).Read -/
def mem_Mem_Read_L122 : LoopSpec where
  S := Int × Int
  emb := fun s => [(12, .int .u64 s.1), (25, .int .i64 s.2)]
  ext := fun t => match getL t 12, getL t 25 with
    | some (.int .u64 y16), some (.int .i64 y17) => some (y16, y17)
    | _, _ => none
  slots := [12, 25]
  fits := fun _ => rfl
  ok := by
    intro t s h x hx
    (try dsimp only at h hx)
    split at h
    · cases h
      simp only [List.mem_cons, List.not_mem_nil, or_false] at hx
      rcases hx with rfl | rfl <;> assumption
    · cases h

def mem_Mem_Read_l0 (Q : Value → World → Prop) (p12 : Option Addr) (l13 : Nat) (n15 : Int) (n18 : Int) (n19 : Int) (w20 : World) (A21 : mem_Mem_Read_L122.S → World → Prop) : Prop :=
 cnd (decide (n19 < ((l13 : Nat) : Int)))
 (ix n19 l13 fun j22 => nn p12 fun a23 =>
 ldI .u8 (a23.add (j22 * 1)) w20 fun n24 =>
 nng (IntKind.i64.wrap (8 * n19)) <|
 A21 (((bitX .or .u64 n18 (IntKind.u64.wrap ((IntKind.u64.wrap (n24)) * 2 ^ min (Int.toNat (IntKind.i64.wrap (8 * n19))) (IntKind.u64.bits)))) : Int), ((IntKind.i64.wrap (n19 + 1)) : Int)) w20)
 (Q (.tuple [.int .u64 n18, .int .i64 n15].toArray) w20)

def mem_Mem_Read (a0 : Option Addr) (a1_0 : Int) (a1_1 : Int) (a2 : Int) (a3 : Int) (w : World) (Q : Value → World → Prop) : Prop :=
 alc [.int .i64 a1_0, .int .i64 a1_1] T.t23 w fun b6 w7 =>
 ldI .i64 ⟨b6, 0, none⟩ w7 fun n8 =>
 ldI .i64 ⟨b6, 1, none⟩ w7 fun n9 =>
 CV P F.mem_Mem_part [.pointer a0, .agg [.int .i64 n8, .int .i64 n9].toArray, .int .i64 a2, .int .i64 a3] w7 fun v10 w11 =>
 ∃ (p12 : Option Addr) (l13 c14 : Nat), ∃ n15 : Int, v10 = .tuple [.slice p12 l13 c14, .int .i64 n15].toArray ∧
 LoopT (fun (s25 : mem_Mem_Read_L122.S) w26 A27 => mem_Mem_Read_l0 Q p12 l13 n15 s25.1 s25.2 w26 A27) ((0 : Int), (0 : Int)) w11
def mem_Mem_Read_ann : Nat → Option LoopSpec := fun
  | 122 => some mem_Mem_Read_L122
  | _ => none
theorem mem_Mem_Read_eq (a0 : Option Addr) (a1_0 : Int) (a1_1 : Int) (a2 : Int) (a3 : Int) (w : World) (Q : Value → World → Prop) : fnX P mem_Mem_Read_ann Try.f13 [.pointer a0, .agg [.int .i64 a1_0, .int .i64 a1_1].toArray, .int .i64 a2, .int .i64 a3] w Q = mem_Mem_Read a0 a1_0 a1_1 a2 a3 w Q := by kernel_rfl
theorem mem_Mem_Read_cv {a0 : Option Addr} {a1_0 : Int} {a1_1 : Int} {a2 : Int} {a3 : Int} {w : World} {Q : Value → World → Prop} (h : mem_Mem_Read a0 a1_0 a1_1 a2 a3 w Q) : CV P F.mem_Mem_Read [.pointer a0, .agg [.int .i64 a1_0, .int .i64 a1_1].toArray, .int .i64 a2, .int .i64 a3] w Q := CV_of mixed Try.func13 (mem_Mem_Read_eq a0 a1_0 a1_1 a2 a3 w Q ▸ h)

/- 14 crier/mem.Part -/
def mem_Part_J6 : LoopSpec where
  S := Bool
  emb := fun s => [(32, .bool s)]
  ext := fun t => match getL t 32 with
    | some (.bool y9) => some (y9)
    | _ => none
  slots := [32]
  fits := fun _ => rfl
  ok := by
    intro t s h x hx
    (try dsimp only at h hx)
    split at h
    · cases h
      simp only [List.mem_cons, List.not_mem_nil, or_false] at hx
      rcases hx with rfl <;> assumption
    · cases h

def mem_Part_j0 (a1 : Int) (a2 : Int) (Q : Value → World → Prop) (b5 : Nat) (b7 : Nat) (b10 : Bool) (w11 : World) : Prop :=
 cnd b10
 (st1 (.int .i64 0) ⟨b7, 0, none⟩ w11 fun w12 =>
 st1 (.int .i64 0) ⟨b7, 1, none⟩ w12 fun w13 =>
 ldI .i64 ⟨b7, 0, none⟩ w13 fun n14 =>
 ldI .i64 ⟨b7, 1, none⟩ w13 fun n15 =>
 Q (.tuple [.agg [.int .i64 n14, .int .i64 n15].toArray, .int .i64 42].toArray) w13)
 (ldI .i64 ⟨b5, 0, none⟩ w11 fun n16 =>
 st1 (.int .i64 (IntKind.i64.wrap (n16 + a1))) ⟨b7, 0, none⟩ w11 fun w17 =>
 st1 (.int .i64 a2) ⟨b7, 1, none⟩ w17 fun w18 =>
 ldI .i64 ⟨b7, 0, none⟩ w18 fun n19 =>
 ldI .i64 ⟨b7, 1, none⟩ w18 fun n20 =>
 Q (.tuple [.agg [.int .i64 n19, .int .i64 n20].toArray, .int .i64 0].toArray) w18)

def mem_Part (a0_0 : Int) (a0_1 : Int) (a1 : Int) (a2 : Int) (w : World) (Q : Value → World → Prop) : Prop :=
 alc [.int .i64 a0_0, .int .i64 a0_1] T.t23 w fun b5 w6 =>
 alc [.int .i64 0, .int .i64 0] T.t23 w6 fun b7 w8 =>
 JoinT (fun (J21 : mem_Part_J6.S → World → Prop) =>
  ldI .i64 ⟨b5, 0, none⟩ w8 fun n22 =>
  ldI .i64 ⟨b5, 1, none⟩ w8 fun n23 =>
  CV P F.mem_fair [.agg [.int .i64 n22, .int .i64 n23].toArray] w8 fun v24 w25 =>
  ∃ b26 : Bool, v24 = .bool b26 ∧
  cnd (!b26)
  (J21 ((true : Bool)) w25)
  (cnd (decide (a1 < 0))
  (J21 ((true : Bool)) w25)
  (cnd (decide (a2 < 0))
  (J21 ((true : Bool)) w25)
  (ldI .i64 ⟨b5, 1, none⟩ w25 fun n27 =>
  cnd (decide (a2 > n27))
  (J21 ((true : Bool)) w25)
  (ldI .i64 ⟨b5, 1, none⟩ w25 fun n28 =>
  J21 (((decide (a1 > (IntKind.i64.wrap (n28 - a2)))) : Bool)) w25)))))
  fun (s29 : mem_Part_J6.S) w30 => mem_Part_j0 a1 a2 Q b5 b7 s29 w30
def mem_Part_ann : Nat → Option LoopSpec := fun
  | 6 => some mem_Part_J6
  | _ => none
theorem mem_Part_eq (a0_0 : Int) (a0_1 : Int) (a1 : Int) (a2 : Int) (w : World) (Q : Value → World → Prop) : fnX P mem_Part_ann Try.f14 [.agg [.int .i64 a0_0, .int .i64 a0_1].toArray, .int .i64 a1, .int .i64 a2] w Q = mem_Part a0_0 a0_1 a1 a2 w Q := by kernel_rfl
theorem mem_Part_cv {a0_0 : Int} {a0_1 : Int} {a1 : Int} {a2 : Int} {w : World} {Q : Value → World → Prop} (h : mem_Part a0_0 a0_1 a1 a2 w Q) : CV P F.mem_Part [.agg [.int .i64 a0_0, .int .i64 a0_1].toArray, .int .i64 a1, .int .i64 a2] w Q := CV_of mixed Try.func14 (mem_Part_eq a0_0 a0_1 a1 a2 w Q ▸ h)

/- 15 crier/crierref04.Part -/
def crierref04_Part_J6 : LoopSpec where
  S := Bool
  emb := fun s => [(32, .bool s)]
  ext := fun t => match getL t 32 with
    | some (.bool y9) => some (y9)
    | _ => none
  slots := [32]
  fits := fun _ => rfl
  ok := by
    intro t s h x hx
    (try dsimp only at h hx)
    split at h
    · cases h
      simp only [List.mem_cons, List.not_mem_nil, or_false] at hx
      rcases hx with rfl <;> assumption
    · cases h

def crierref04_Part_j0 (a1 : Int) (a2 : Int) (Q : Value → World → Prop) (b5 : Nat) (b7 : Nat) (b10 : Bool) (w11 : World) : Prop :=
 cnd b10
 (st1 (.int .i64 0) ⟨b7, 0, none⟩ w11 fun w12 =>
 st1 (.int .i64 0) ⟨b7, 1, none⟩ w12 fun w13 =>
 ldI .i64 ⟨b7, 0, none⟩ w13 fun n14 =>
 ldI .i64 ⟨b7, 1, none⟩ w13 fun n15 =>
 Q (.tuple [.agg [.int .i64 n14, .int .i64 n15].toArray, .int .i64 42].toArray) w13)
 (ldI .i64 ⟨b5, 0, none⟩ w11 fun n16 =>
 st1 (.int .i64 (IntKind.i64.wrap (n16 + a1))) ⟨b7, 0, none⟩ w11 fun w17 =>
 st1 (.int .i64 a2) ⟨b7, 1, none⟩ w17 fun w18 =>
 ldI .i64 ⟨b7, 0, none⟩ w18 fun n19 =>
 ldI .i64 ⟨b7, 1, none⟩ w18 fun n20 =>
 Q (.tuple [.agg [.int .i64 n19, .int .i64 n20].toArray, .int .i64 0].toArray) w18)

def crierref04_Part (a0_0 : Int) (a0_1 : Int) (a1 : Int) (a2 : Int) (w : World) (Q : Value → World → Prop) : Prop :=
 alc [.int .i64 a0_0, .int .i64 a0_1] T.t23 w fun b5 w6 =>
 alc [.int .i64 0, .int .i64 0] T.t23 w6 fun b7 w8 =>
 JoinT (fun (J21 : crierref04_Part_J6.S → World → Prop) =>
  ldI .i64 ⟨b5, 0, none⟩ w8 fun n22 =>
  ldI .i64 ⟨b5, 1, none⟩ w8 fun n23 =>
  CV P F.crierref04_fair [.agg [.int .i64 n22, .int .i64 n23].toArray] w8 fun v24 w25 =>
  ∃ b26 : Bool, v24 = .bool b26 ∧
  cnd (!b26)
  (J21 ((true : Bool)) w25)
  (cnd (decide (a1 < 0))
  (J21 ((true : Bool)) w25)
  (cnd (decide (a2 < 0))
  (J21 ((true : Bool)) w25)
  (ldI .i64 ⟨b5, 1, none⟩ w25 fun n27 =>
  cnd (decide (a1 > n27))
  (J21 ((true : Bool)) w25)
  (ldI .i64 ⟨b5, 1, none⟩ w25 fun n28 =>
  J21 (((decide (a2 > (IntKind.i64.wrap (n28 - a1)))) : Bool)) w25)))))
  fun (s29 : crierref04_Part_J6.S) w30 => crierref04_Part_j0 a1 a2 Q b5 b7 s29 w30
def crierref04_Part_ann : Nat → Option LoopSpec := fun
  | 6 => some crierref04_Part_J6
  | _ => none
theorem crierref04_Part_eq (a0_0 : Int) (a0_1 : Int) (a1 : Int) (a2 : Int) (w : World) (Q : Value → World → Prop) : fnX P crierref04_Part_ann Try.f15 [.agg [.int .i64 a0_0, .int .i64 a0_1].toArray, .int .i64 a1, .int .i64 a2] w Q = crierref04_Part a0_0 a0_1 a1 a2 w Q := by kernel_rfl
theorem crierref04_Part_cv {a0_0 : Int} {a0_1 : Int} {a1 : Int} {a2 : Int} {w : World} {Q : Value → World → Prop} (h : crierref04_Part a0_0 a0_1 a1 a2 w Q) : CV P F.crierref04_Part [.agg [.int .i64 a0_0, .int .i64 a0_1].toArray, .int .i64 a1, .int .i64 a2] w Q := CV_of mixed Try.func15 (crierref04_Part_eq a0_0 a0_1 a1 a2 w Q ▸ h)

/- 16 crier/crierref04.Meet -/
def crierref04_Meet_J6 : LoopSpec where
  S := Bool
  emb := fun s => [(22, .bool s)]
  ext := fun t => match getL t 22 with
    | some (.bool y9) => some (y9)
    | _ => none
  slots := [22]
  fits := fun _ => rfl
  ok := by
    intro t s h x hx
    (try dsimp only at h hx)
    split at h
    · cases h
      simp only [List.mem_cons, List.not_mem_nil, or_false] at hx
      rcases hx with rfl <;> assumption
    · cases h

def crierref04_Meet_J7 : LoopSpec where
  S := Bool
  emb := fun s => [(4, .bool s)]
  ext := fun t => match getL t 4 with
    | some (.bool y12) => some (y12)
    | _ => none
  slots := [4]
  fits := fun _ => rfl
  ok := by
    intro t s h x hx
    (try dsimp only at h hx)
    split at h
    · cases h
      simp only [List.mem_cons, List.not_mem_nil, or_false] at hx
      rcases hx with rfl <;> assumption
    · cases h

def crierref04_Meet_j0 (Q : Value → World → Prop) (b13 : Bool) (w14 : World) : Prop :=
 Q (.bool b13) w14

def crierref04_Meet_j1 (Q : Value → World → Prop) (b5 : Nat) (b7 : Nat) (b10 : Bool) (w11 : World) : Prop :=
 cnd b10
 (Q (.bool false) w11)
 (JoinT (fun (J15 : crierref04_Meet_J7.S → World → Prop) =>
  ldI .i64 ⟨b5, 0, none⟩ w11 fun n16 =>
  ldI .i64 ⟨b7, 0, none⟩ w11 fun n17 =>
  ldI .i64 ⟨b7, 1, none⟩ w11 fun n18 =>
  cnd (decide (n16 < (IntKind.i64.wrap (n17 + n18))))
  (ldI .i64 ⟨b7, 0, none⟩ w11 fun n19 =>
  ldI .i64 ⟨b5, 0, none⟩ w11 fun n20 =>
  ldI .i64 ⟨b5, 1, none⟩ w11 fun n21 =>
  J15 (((decide (n19 < (IntKind.i64.wrap (n20 + n21)))) : Bool)) w11)
  (J15 ((false : Bool)) w11))
  fun (s22 : crierref04_Meet_J7.S) w23 => crierref04_Meet_j0 Q s22 w23)

def crierref04_Meet (a0_0 : Int) (a0_1 : Int) (a1_0 : Int) (a1_1 : Int) (w : World) (Q : Value → World → Prop) : Prop :=
 alc [.int .i64 a0_0, .int .i64 a0_1] T.t23 w fun b5 w6 =>
 alc [.int .i64 a1_0, .int .i64 a1_1] T.t23 w6 fun b7 w8 =>
 JoinT (fun (J24 : crierref04_Meet_J6.S → World → Prop) =>
  ldI .i64 ⟨b5, 0, none⟩ w8 fun n25 =>
  ldI .i64 ⟨b5, 1, none⟩ w8 fun n26 =>
  CV P F.crierref04_fair [.agg [.int .i64 n25, .int .i64 n26].toArray] w8 fun v27 w28 =>
  ∃ b29 : Bool, v27 = .bool b29 ∧
  cnd (!b29)
  (J24 ((true : Bool)) w28)
  (ldI .i64 ⟨b7, 0, none⟩ w28 fun n30 =>
  ldI .i64 ⟨b7, 1, none⟩ w28 fun n31 =>
  CV P F.crierref04_fair [.agg [.int .i64 n30, .int .i64 n31].toArray] w28 fun v32 w33 =>
  ∃ b34 : Bool, v32 = .bool b34 ∧
  cnd (!b34)
  (J24 ((true : Bool)) w33)
  (ldI .i64 ⟨b5, 1, none⟩ w33 fun n35 =>
  cnd (n35 == 0)
  (J24 ((true : Bool)) w33)
  (ldI .i64 ⟨b7, 1, none⟩ w33 fun n36 =>
  J24 (((n36 == 0) : Bool)) w33))))
  fun (s37 : crierref04_Meet_J6.S) w38 => crierref04_Meet_j1 Q b5 b7 s37 w38
def crierref04_Meet_ann : Nat → Option LoopSpec := fun
  | 6 => some crierref04_Meet_J6
  | 7 => some crierref04_Meet_J7
  | _ => none
theorem crierref04_Meet_eq (a0_0 : Int) (a0_1 : Int) (a1_0 : Int) (a1_1 : Int) (w : World) (Q : Value → World → Prop) : fnX P crierref04_Meet_ann Try.f16 [.agg [.int .i64 a0_0, .int .i64 a0_1].toArray, .agg [.int .i64 a1_0, .int .i64 a1_1].toArray] w Q = crierref04_Meet a0_0 a0_1 a1_0 a1_1 w Q := by kernel_rfl
theorem crierref04_Meet_cv {a0_0 : Int} {a0_1 : Int} {a1_0 : Int} {a1_1 : Int} {w : World} {Q : Value → World → Prop} (h : crierref04_Meet a0_0 a0_1 a1_0 a1_1 w Q) : CV P F.crierref04_Meet [.agg [.int .i64 a0_0, .int .i64 a0_1].toArray, .agg [.int .i64 a1_0, .int .i64 a1_1].toArray] w Q := CV_of mixed Try.func16 (crierref04_Meet_eq a0_0 a0_1 a1_0 a1_1 w Q ▸ h)

/- 17 (*crier/mem.Mem).Bytes -/

def mem_Mem_Bytes (a0 : Option Addr) (a1_0 : Int) (a1_1 : Int) (w : World) (Q : Value → World → Prop) : Prop :=
 alc [.int .i64 a1_0, .int .i64 a1_1] T.t23 w fun b4 w5 =>
 ldI .i64 ⟨b4, 0, none⟩ w5 fun n6 =>
 ldI .i64 ⟨b4, 1, none⟩ w5 fun n7 =>
 CV P F.mem_Mem_Holds [.pointer a0, .agg [.int .i64 n6, .int .i64 n7].toArray] w5 fun v8 w9 =>
 ∃ b10 : Bool, v8 = .bool b10 ∧
 cnd (!b10)
 (Q (.tuple [.slice none 0 0, .int .i64 42].toArray) w9)
 (drw w9 fun w11 =>
 nn a0 fun a12 =>
 ldL a12 w11 fun p13 l14 c15 =>
 ldI .i64 ⟨b4, 0, none⟩ w11 fun n16 =>
 ldI .i64 ⟨b4, 0, none⟩ w11 fun n17 =>
 ldI .i64 ⟨b4, 1, none⟩ w11 fun n18 =>
 slL p13 l14 c15 1 (some n16) (some (IntKind.i64.wrap (n17 + n18))) none fun p19 l20 c21 =>
 CV P F.slices_Clone__byte_byte [.slice p19 l20 c21] w11 fun v22 w23 =>
 ∃ (p24 : Option Addr) (l25 c26 : Nat), v22 = .slice p24 l25 c26 ∧
 Q (.tuple [.slice p24 l25 c26, .int .i64 0].toArray) w23)
def mem_Mem_Bytes_ann : Nat → Option LoopSpec := fun
  | 14 => some (ordSpec [0, 1, 2, 3, 4, 5, 6, 7, 8, 9, 10, 11, 12, 13, 14])
  | _ => none
theorem mem_Mem_Bytes_eq (a0 : Option Addr) (a1_0 : Int) (a1_1 : Int) (w : World) (Q : Value → World → Prop) : fnX P mem_Mem_Bytes_ann Try.f17 [.pointer a0, .agg [.int .i64 a1_0, .int .i64 a1_1].toArray] w Q = mem_Mem_Bytes a0 a1_0 a1_1 w Q := by kernel_rfl
theorem mem_Mem_Bytes_cv {a0 : Option Addr} {a1_0 : Int} {a1_1 : Int} {w : World} {Q : Value → World → Prop} (h : mem_Mem_Bytes a0 a1_0 a1_1 w Q) : CV P F.mem_Mem_Bytes [.pointer a0, .agg [.int .i64 a1_0, .int .i64 a1_1].toArray] w Q := CV_of mixed Try.func17 (mem_Mem_Bytes_eq a0 a1_0 a1_1 w Q ▸ h)

/- 18 (*crier/mem.Mem).Copy -/

def mem_Mem_Copy (a0 : Option Addr) (w : World) (Q : Value → World → Prop) : Prop :=
 nn a0 fun a2 =>
 ldL a2 w fun p3 l4 c5 =>
 CV P F.slices_Clone__byte_byte [.slice p3 l4 c5] w fun v6 w7 =>
 ∃ (p8 : Option Addr) (l9 c10 : Nat), v6 = .slice p8 l9 c10 ∧
 alc [.slice p8 l9 c10] T.t62 w7 fun b11 w12 =>
 Q (.pointer (some ⟨b11, 0, none⟩)) w12
def mem_Mem_Copy_ann : Nat → Option LoopSpec := fun _ => none
theorem mem_Mem_Copy_eq (a0 : Option Addr) (w : World) (Q : Value → World → Prop) : fnX P mem_Mem_Copy_ann Try.f18 [.pointer a0] w Q = mem_Mem_Copy a0 w Q := by kernel_rfl
theorem mem_Mem_Copy_cv {a0 : Option Addr} {w : World} {Q : Value → World → Prop} (h : mem_Mem_Copy a0 w Q) : CV P F.mem_Mem_Copy [.pointer a0] w Q := CV_of mixed Try.func18 (mem_Mem_Copy_eq a0 w Q ▸ h)

/- 19 (*crier/mem.Mem).Size -/

def mem_Mem_Size (a0 : Option Addr) (w : World) (Q : Value → World → Prop) : Prop :=
 nn a0 fun a2 =>
 ldL a2 w fun p3 l4 c5 =>
 Q (.int .i64 ((l4 : Nat) : Int)) w
def mem_Mem_Size_ann : Nat → Option LoopSpec := fun _ => none
theorem mem_Mem_Size_eq (a0 : Option Addr) (w : World) (Q : Value → World → Prop) : fnX P mem_Mem_Size_ann Try.f19 [.pointer a0] w Q = mem_Mem_Size a0 w Q := by kernel_rfl
theorem mem_Mem_Size_cv {a0 : Option Addr} {w : World} {Q : Value → World → Prop} (h : mem_Mem_Size a0 w Q) : CV P F.mem_Mem_Size [.pointer a0] w Q := CV_of mixed Try.func19 (mem_Mem_Size_eq a0 w Q ▸ h)

/- 20 (*crier/mem.Mem).Wipe -/

def mem_Mem_Wipe (a0 : Option Addr) (a1_0 : Int) (a1_1 : Int) (w : World) (Q : Value → World → Prop) : Prop :=
 alc [.int .i64 a1_0, .int .i64 a1_1] T.t23 w fun b4 w5 =>
 ldI .i64 ⟨b4, 0, none⟩ w5 fun n6 =>
 ldI .i64 ⟨b4, 1, none⟩ w5 fun n7 =>
 CV P F.mem_Mem_Holds [.pointer a0, .agg [.int .i64 n6, .int .i64 n7].toArray] w5 fun v8 w9 =>
 ∃ b10 : Bool, v8 = .bool b10 ∧
 cnd (!b10)
 (Q (.int .i64 42) w9)
 (drw w9 fun w11 =>
 nn a0 fun a12 =>
 ldL a12 w11 fun p13 l14 c15 =>
 ldI .i64 ⟨b4, 0, none⟩ w11 fun n16 =>
 ldI .i64 ⟨b4, 0, none⟩ w11 fun n17 =>
 ldI .i64 ⟨b4, 1, none⟩ w11 fun n18 =>
 slL p13 l14 c15 1 (some n16) (some (IntKind.i64.wrap (n17 + n18))) none fun p19 l20 c21 =>
 runV P (Builtin.clear_ #[T.t34] T.t0 [.slice p19 l20 c21].toArray) w11 fun v22 w23 => v22 = undef ∧
 Q (.int .i64 0) w23)
def mem_Mem_Wipe_ann : Nat → Option LoopSpec := fun
  | 14 => some (ordSpec [0, 1, 2, 3, 4, 5, 6, 7, 8, 9, 10, 11, 12])
  | _ => none
theorem mem_Mem_Wipe_eq (a0 : Option Addr) (a1_0 : Int) (a1_1 : Int) (w : World) (Q : Value → World → Prop) : fnX P mem_Mem_Wipe_ann Try.f20 [.pointer a0, .agg [.int .i64 a1_0, .int .i64 a1_1].toArray] w Q = mem_Mem_Wipe a0 a1_0 a1_1 w Q := by kernel_rfl
theorem mem_Mem_Wipe_cv {a0 : Option Addr} {a1_0 : Int} {a1_1 : Int} {w : World} {Q : Value → World → Prop} (h : mem_Mem_Wipe a0 a1_0 a1_1 w Q) : CV P F.mem_Mem_Wipe [.pointer a0, .agg [.int .i64 a1_0, .int .i64 a1_1].toArray] w Q := CV_of mixed Try.func20 (mem_Mem_Wipe_eq a0 a1_0 a1_1 w Q ▸ h)

/- 21 crier/crierlaw04.Model -/

def crierlaw04_Model (a0 : Option Addr) (a1_0 : Int) (a1_1 : Int) (a1_2 : Int) (a1_3 : Int) (a1_4 : Int) (a1_5 : Int) (a1_6 : Option Addr) (a1_6_n : Nat) (a1_6_c : Nat) (w : World) (Q : Value → World → Prop) : Prop :=
 alc [.int .i64 a1_0, .int .i64 a1_1, .int .i64 a1_2, .int .i64 a1_3, .int .i64 a1_4, .int .u64 a1_5, .slice a1_6 a1_6_n a1_6_c] T.t36 w fun b11 w12 =>
 ldI .i64 ⟨b11, 0, none⟩ w12 fun n13 =>
 cnd (n13 == 1)
 (ldI .i64 ⟨b11, 1, none⟩ w12 fun n14 =>
 ldI .i64 ⟨b11, 2, none⟩ w12 fun n15 =>
 ldI .i64 ⟨b11, 3, none⟩ w12 fun n16 =>
 ldI .i64 ⟨b11, 4, none⟩ w12 fun n17 =>
 ldI .u64 ⟨b11, 5, none⟩ w12 fun n18 =>
 CV P F.crierref04_Mem_Write [.pointer a0, .agg [.int .i64 n14, .int .i64 n15].toArray, .int .i64 n16, .int .i64 n17, .int .u64 n18] w12 fun v19 w20 =>
 ∃ n21 : Int, v19 = .int .i64 n21 ∧
 Q (.int .i64 n21) w20)
 (cnd (n13 == 2)
 (ldI .i64 ⟨b11, 1, none⟩ w12 fun n22 =>
 ldI .i64 ⟨b11, 2, none⟩ w12 fun n23 =>
 ldL ⟨b11, 6, none⟩ w12 fun p24 l25 c26 =>
 CV P F.crierref04_Mem_Put [.pointer a0, .agg [.int .i64 n22, .int .i64 n23].toArray, .slice p24 l25 c26] w12 fun v27 w28 =>
 ∃ n29 : Int, v27 = .int .i64 n29 ∧
 Q (.int .i64 n29) w28)
 (cnd (n13 == 3)
 (ldI .i64 ⟨b11, 1, none⟩ w12 fun n30 =>
 ldI .i64 ⟨b11, 2, none⟩ w12 fun n31 =>
 CV P F.crierref04_Mem_Wipe [.pointer a0, .agg [.int .i64 n30, .int .i64 n31].toArray] w12 fun v32 w33 =>
 ∃ n34 : Int, v32 = .int .i64 n34 ∧
 Q (.int .i64 n34) w33)
 (Q (.int .i64 0) w12)))
def crierlaw04_Model_ann : Nat → Option LoopSpec := fun _ => none
theorem crierlaw04_Model_eq (a0 : Option Addr) (a1_0 : Int) (a1_1 : Int) (a1_2 : Int) (a1_3 : Int) (a1_4 : Int) (a1_5 : Int) (a1_6 : Option Addr) (a1_6_n : Nat) (a1_6_c : Nat) (w : World) (Q : Value → World → Prop) : fnX P crierlaw04_Model_ann Try.f21 [.pointer a0, .agg [.int .i64 a1_0, .int .i64 a1_1, .int .i64 a1_2, .int .i64 a1_3, .int .i64 a1_4, .int .u64 a1_5, .slice a1_6 a1_6_n a1_6_c].toArray] w Q = crierlaw04_Model a0 a1_0 a1_1 a1_2 a1_3 a1_4 a1_5 a1_6 a1_6_n a1_6_c w Q := by kernel_rfl
theorem crierlaw04_Model_cv {a0 : Option Addr} {a1_0 : Int} {a1_1 : Int} {a1_2 : Int} {a1_3 : Int} {a1_4 : Int} {a1_5 : Int} {a1_6 : Option Addr} {a1_6_n : Nat} {a1_6_c : Nat} {w : World} {Q : Value → World → Prop} (h : crierlaw04_Model a0 a1_0 a1_1 a1_2 a1_3 a1_4 a1_5 a1_6 a1_6_n a1_6_c w Q) : CV P F.crierlaw04_Model [.pointer a0, .agg [.int .i64 a1_0, .int .i64 a1_1, .int .i64 a1_2, .int .i64 a1_3, .int .i64 a1_4, .int .u64 a1_5, .slice a1_6 a1_6_n a1_6_c].toArray] w Q := CV_of mixed Try.func21 (crierlaw04_Model_eq a0 a1_0 a1_1 a1_2 a1_3 a1_4 a1_5 a1_6 a1_6_n a1_6_c w Q ▸ h)

/- 22 crier/crierlaw04.Same -/
def crierlaw04_Same_J7 : LoopSpec where
  S := Bool
  emb := fun s => [(4, .bool s)]
  ext := fun t => match getL t 4 with
    | some (.bool y13) => some (y13)
    | _ => none
  slots := [4]
  fits := fun _ => rfl
  ok := by
    intro t s h x hx
    (try dsimp only at h hx)
    split at h
    · cases h
      simp only [List.mem_cons, List.not_mem_nil, or_false] at hx
      rcases hx with rfl <;> assumption
    · cases h

def crierlaw04_Same_j0 (Q : Value → World → Prop) (b14 : Bool) (w15 : World) : Prop :=
 Q (.bool b14) w15

def crierlaw04_Same (a0 : Option Addr) (a1 : Option Addr) (w : World) (Q : Value → World → Prop) : Prop :=
 nn a1 fun a3 =>
 ldL a3 w fun p4 l5 c6 =>
 CV P F.mem_Mem_Bytes [.pointer a0, .agg [.int .i64 0, .int .i64 ((l5 : Nat) : Int)].toArray] w fun v7 w8 =>
 ∃ (p9 : Option Addr) (l10 c11 : Nat), ∃ n12 : Int, v7 = .tuple [.slice p9 l10 c11, .int .i64 n12].toArray ∧
 JoinT (fun (J16 : crierlaw04_Same_J7.S → World → Prop) =>
  drw w8 fun w17 =>
  nn a1 fun a18 =>
  ldL a18 w17 fun p19 l20 c21 =>
  CV P F.mem_Mem_Size [.pointer a0] w17 fun v22 w23 =>
  ∃ n24 : Int, v22 = .int .i64 n24 ∧
  (((.int .i64 ((l20 : Nat) : Int) : Value) = .int .i64 ((l20 : Nat) : Int))) ∧
  (ldL a18 w23 fun p25 l26 c27 =>
  ((.slice p25 l26 c27 : Value) = .slice p19 l20 c21)) ∧
  cnd (n24 == ((l20 : Nat) : Int))
  (cnd (n12 == 0)
  (X.runT P (Conv.bytesToString (.slice p9 l10 c11)) w23 fun s28 =>
  nn a1 fun a29 =>
  ldL a29 w23 fun p30 l31 c32 =>
  X.runT P (Conv.bytesToString (.slice p30 l31 c32)) w23 fun s33 =>
  J16 ((((s28 : ByteArray).toList == (s33 : ByteArray).toList) : Bool)) w23)
  (J16 ((false : Bool)) w23))
  (J16 ((false : Bool)) w23))
  fun (s34 : crierlaw04_Same_J7.S) w35 => crierlaw04_Same_j0 Q s34 w35
def crierlaw04_Same_ann : Nat → Option LoopSpec := fun
  | 7 => some crierlaw04_Same_J7
  | 14 => some (ordSpec [0, 2, 3, 4, 5, 6, 1, 7, 8, 9, 10, 11, 12, 13, 14, 15, 16, 17, 18, 19, 20, 21, 22])
  | _ => none
theorem crierlaw04_Same_eq (a0 : Option Addr) (a1 : Option Addr) (w : World) (Q : Value → World → Prop) : fnX P crierlaw04_Same_ann Try.f22 [.pointer a0, .pointer a1] w Q = crierlaw04_Same a0 a1 w Q := by kernel_rfl
theorem crierlaw04_Same_cv {a0 : Option Addr} {a1 : Option Addr} {w : World} {Q : Value → World → Prop} (h : crierlaw04_Same a0 a1 w Q) : CV P F.crierlaw04_Same [.pointer a0, .pointer a1] w Q := CV_of mixed Try.func22 (crierlaw04_Same_eq a0 a1 w Q ▸ h)

/- 23 (*crier/crierref04.Mem).Read -/
def crierref04_Mem_Read_L506 : LoopSpec where
  S := Int × Int
  emb := fun s => [(11, .int .u64 s.1), (12, .int .i64 s.2)]
  ext := fun t => match getL t 11, getL t 12 with
    | some (.int .u64 y17), some (.int .i64 y18) => some (y17, y18)
    | _, _ => none
  slots := [11, 12]
  fits := fun _ => rfl
  ok := by
    intro t s h x hx
    (try dsimp only at h hx)
    split at h
    · cases h
      simp only [List.mem_cons, List.not_mem_nil, or_false] at hx
      rcases hx with rfl | rfl <;> assumption
    · cases h

def crierref04_Mem_Read_l0 (a0 : Option Addr) (a2 : Int) (Q : Value → World → Prop) (b6 : Nat) (n19 : Int) (n20 : Int) (w21 : World) (A22 : crierref04_Mem_Read_L506.S → World → Prop) : Prop :=
 cnd (decide (n20 ≥ 0))
 (drw w21 fun w23 =>
 nn a0 fun a24 =>
 ldL a24 w23 fun p25 l26 c27 =>
 ldI .i64 ⟨b6, 0, none⟩ w23 fun n28 =>
 ix (IntKind.i64.wrap ((IntKind.i64.wrap (n28 + a2)) + n20)) l26 fun j29 => nn p25 fun a30 =>
 ldI .u8 (a30.add (j29 * 1)) w23 fun n31 =>
 A22 (((IntKind.u64.wrap ((IntKind.u64.wrap (n19 * 256)) + (IntKind.u64.wrap (n31)))) : Int), ((IntKind.i64.wrap (n20 - 1)) : Int)) w23)
 (Q (.tuple [.int .u64 n19, .int .i64 0].toArray) w21)

def crierref04_Mem_Read (a0 : Option Addr) (a1_0 : Int) (a1_1 : Int) (a2 : Int) (a3 : Int) (w : World) (Q : Value → World → Prop) : Prop :=
 alc [.int .i64 a1_0, .int .i64 a1_1] T.t23 w fun b6 w7 =>
 ldI .i64 ⟨b6, 0, none⟩ w7 fun n8 =>
 ldI .i64 ⟨b6, 1, none⟩ w7 fun n9 =>
 CV P F.crierref04_Mem_Holds [.pointer a0, .agg [.int .i64 n8, .int .i64 n9].toArray] w7 fun v10 w11 =>
 ∃ b12 : Bool, v10 = .bool b12 ∧
 cnd (!b12)
 (Q (.tuple [.int .u64 0, .int .i64 42].toArray) w11)
 (ldI .i64 ⟨b6, 1, none⟩ w11 fun n13 =>
 CV P F.crierref04_May [.int .i64 n13, .int .i64 a2, .int .i64 a3] w11 fun v14 w15 =>
 ∃ n16 : Int, v14 = .int .i64 n16 ∧
 cnd (n16 != 0)
 (Q (.tuple [.int .u64 0, .int .i64 n16].toArray) w15)
 (LoopT (fun (s32 : crierref04_Mem_Read_L506.S) w33 A34 => crierref04_Mem_Read_l0 a0 a2 Q b6 s32.1 s32.2 w33 A34) ((0 : Int), ((IntKind.i64.wrap (a3 - 1)) : Int)) w15))
def crierref04_Mem_Read_ann : Nat → Option LoopSpec := fun
  | 506 => some crierref04_Mem_Read_L506
  | 8100 => some (ordSpec [0, 1, 2, 3, 4, 5, 6, 7, 8, 9, 10, 11, 12, 13, 14, 15, 16])
  | _ => none
theorem crierref04_Mem_Read_eq (a0 : Option Addr) (a1_0 : Int) (a1_1 : Int) (a2 : Int) (a3 : Int) (w : World) (Q : Value → World → Prop) : fnX P crierref04_Mem_Read_ann Try.f23 [.pointer a0, .agg [.int .i64 a1_0, .int .i64 a1_1].toArray, .int .i64 a2, .int .i64 a3] w Q = crierref04_Mem_Read a0 a1_0 a1_1 a2 a3 w Q := by kernel_rfl
theorem crierref04_Mem_Read_cv {a0 : Option Addr} {a1_0 : Int} {a1_1 : Int} {a2 : Int} {a3 : Int} {w : World} {Q : Value → World → Prop} (h : crierref04_Mem_Read a0 a1_0 a1_1 a2 a3 w Q) : CV P F.crierref04_Mem_Read [.pointer a0, .agg [.int .i64 a1_0, .int .i64 a1_1].toArray, .int .i64 a2, .int .i64 a3] w Q := CV_of mixed Try.func23 (crierref04_Mem_Read_eq a0 a1_0 a1_1 a2 a3 w Q ▸ h)

/- 24 (*crier/crierref04.Mem).Bytes -/

def crierref04_Mem_Bytes (a0 : Option Addr) (a1_0 : Int) (a1_1 : Int) (w : World) (Q : Value → World → Prop) : Prop :=
 alc [.int .i64 a1_0, .int .i64 a1_1] T.t23 w fun b4 w5 =>
 ldI .i64 ⟨b4, 0, none⟩ w5 fun n6 =>
 ldI .i64 ⟨b4, 1, none⟩ w5 fun n7 =>
 CV P F.crierref04_Mem_Holds [.pointer a0, .agg [.int .i64 n6, .int .i64 n7].toArray] w5 fun v8 w9 =>
 ∃ b10 : Bool, v8 = .bool b10 ∧
 cnd (!b10)
 (Q (.tuple [.slice none 0 0, .int .i64 42].toArray) w9)
 (drw w9 fun w11 =>
 nn a0 fun a12 =>
 ldL a12 w11 fun p13 l14 c15 =>
 ldI .i64 ⟨b4, 0, none⟩ w11 fun n16 =>
 ldI .i64 ⟨b4, 0, none⟩ w11 fun n17 =>
 ldI .i64 ⟨b4, 1, none⟩ w11 fun n18 =>
 slL p13 l14 c15 1 (some n16) (some (IntKind.i64.wrap (n17 + n18))) none fun p19 l20 c21 =>
 runS P (Builtin.append_ #[T.t34, T.t34] T.t34 [.slice none 0 0, .slice p19 l20 c21].toArray) w11 fun p22 l23 c24 w25 =>
 Q (.tuple [.slice p22 l23 c24, .int .i64 0].toArray) w25)
def crierref04_Mem_Bytes_ann : Nat → Option LoopSpec := fun
  | 30 => some (ordSpec [0, 1, 2, 3, 4, 5, 6, 7, 8, 9, 10, 11, 12, 13, 14])
  | _ => none
theorem crierref04_Mem_Bytes_eq (a0 : Option Addr) (a1_0 : Int) (a1_1 : Int) (w : World) (Q : Value → World → Prop) : fnX P crierref04_Mem_Bytes_ann Try.f24 [.pointer a0, .agg [.int .i64 a1_0, .int .i64 a1_1].toArray] w Q = crierref04_Mem_Bytes a0 a1_0 a1_1 w Q := by kernel_rfl
theorem crierref04_Mem_Bytes_cv {a0 : Option Addr} {a1_0 : Int} {a1_1 : Int} {w : World} {Q : Value → World → Prop} (h : crierref04_Mem_Bytes a0 a1_0 a1_1 w Q) : CV P F.crierref04_Mem_Bytes [.pointer a0, .agg [.int .i64 a1_0, .int .i64 a1_1].toArray] w Q := CV_of mixed Try.func24 (crierref04_Mem_Bytes_eq a0 a1_0 a1_1 w Q ▸ h)

/- 25 (*crier/mem.Mem).Holds -/
def mem_Mem_Holds_J3 : LoopSpec where
  S := Bool
  emb := fun s => [(4, .bool s)]
  ext := fun t => match getL t 4 with
    | some (.bool y6) => some (y6)
    | _ => none
  slots := [4]
  fits := fun _ => rfl
  ok := by
    intro t s h x hx
    (try dsimp only at h hx)
    split at h
    · cases h
      simp only [List.mem_cons, List.not_mem_nil, or_false] at hx
      rcases hx with rfl <;> assumption
    · cases h

def mem_Mem_Holds_j0 (Q : Value → World → Prop) (b7 : Bool) (w8 : World) : Prop :=
 Q (.bool b7) w8

def mem_Mem_Holds (a0 : Option Addr) (a1_0 : Int) (a1_1 : Int) (w : World) (Q : Value → World → Prop) : Prop :=
 alc [.int .i64 a1_0, .int .i64 a1_1] T.t23 w fun b4 w5 =>
 JoinT (fun (J9 : mem_Mem_Holds_J3.S → World → Prop) =>
  drw w5 fun w10 =>
  ldI .i64 ⟨b4, 0, none⟩ w10 fun n11 =>
  cnd (decide (n11 ≥ 0))
  (ldI .i64 ⟨b4, 1, none⟩ w10 fun n12 =>
  cnd (decide (n12 ≥ 0))
  (ldI .i64 ⟨b4, 1, none⟩ w10 fun n13 =>
  nn a0 fun a14 =>
  ldL a14 w10 fun p15 l16 c17 =>
  cnd (decide (n13 ≤ ((l16 : Nat) : Int)))
  (ldI .i64 ⟨b4, 0, none⟩ w10 fun n18 =>
  nn a0 fun a19 =>
  ldL a19 w10 fun p20 l21 c22 =>
  ldI .i64 ⟨b4, 1, none⟩ w10 fun n23 =>
  J9 (((decide (n18 ≤ (IntKind.i64.wrap (((l21 : Nat) : Int) - n23)))) : Bool)) w10)
  (J9 ((false : Bool)) w10))
  (J9 ((false : Bool)) w10))
  (J9 ((false : Bool)) w10))
  fun (s24 : mem_Mem_Holds_J3.S) w25 => mem_Mem_Holds_j0 Q s24 w25
def mem_Mem_Holds_ann : Nat → Option LoopSpec := fun
  | 3 => some mem_Mem_Holds_J3
  | 6 => some (ordSpec [0, 1, 2, 3, 4, 5, 6, 7, 8, 9, 10, 11, 12, 13, 14, 15, 16, 17, 18, 19, 20, 21, 22, 23, 24, 25, 26, 27, 28, 29, 30, 31])
  | _ => none
theorem mem_Mem_Holds_eq (a0 : Option Addr) (a1_0 : Int) (a1_1 : Int) (w : World) (Q : Value → World → Prop) : fnX P mem_Mem_Holds_ann Try.f25 [.pointer a0, .agg [.int .i64 a1_0, .int .i64 a1_1].toArray] w Q = mem_Mem_Holds a0 a1_0 a1_1 w Q := by kernel_rfl
theorem mem_Mem_Holds_cv {a0 : Option Addr} {a1_0 : Int} {a1_1 : Int} {w : World} {Q : Value → World → Prop} (h : mem_Mem_Holds a0 a1_0 a1_1 w Q) : CV P F.mem_Mem_Holds [.pointer a0, .agg [.int .i64 a1_0, .int .i64 a1_1].toArray] w Q := CV_of mixed Try.func25 (mem_Mem_Holds_eq a0 a1_0 a1_1 w Q ▸ h)

/- 26 (*crier/crierref04.Mem).Holds -/
def crierref04_Mem_Holds_J3 : LoopSpec where
  S := Bool
  emb := fun s => [(4, .bool s)]
  ext := fun t => match getL t 4 with
    | some (.bool y6) => some (y6)
    | _ => none
  slots := [4]
  fits := fun _ => rfl
  ok := by
    intro t s h x hx
    (try dsimp only at h hx)
    split at h
    · cases h
      simp only [List.mem_cons, List.not_mem_nil, or_false] at hx
      rcases hx with rfl <;> assumption
    · cases h

def crierref04_Mem_Holds_j0 (Q : Value → World → Prop) (b7 : Bool) (w8 : World) : Prop :=
 Q (.bool b7) w8

def crierref04_Mem_Holds (a0 : Option Addr) (a1_0 : Int) (a1_1 : Int) (w : World) (Q : Value → World → Prop) : Prop :=
 alc [.int .i64 a1_0, .int .i64 a1_1] T.t23 w fun b4 w5 =>
 JoinT (fun (J9 : crierref04_Mem_Holds_J3.S → World → Prop) =>
  drw w5 fun w10 =>
  ldI .i64 ⟨b4, 0, none⟩ w10 fun n11 =>
  cnd (decide (n11 ≥ 0))
  (ldI .i64 ⟨b4, 1, none⟩ w10 fun n12 =>
  cnd (decide (n12 ≥ 0))
  (ldI .i64 ⟨b4, 1, none⟩ w10 fun n13 =>
  nn a0 fun a14 =>
  ldL a14 w10 fun p15 l16 c17 =>
  cnd (decide (n13 ≤ ((l16 : Nat) : Int)))
  (ldI .i64 ⟨b4, 0, none⟩ w10 fun n18 =>
  nn a0 fun a19 =>
  ldL a19 w10 fun p20 l21 c22 =>
  ldI .i64 ⟨b4, 1, none⟩ w10 fun n23 =>
  J9 (((decide (n18 ≤ (IntKind.i64.wrap (((l21 : Nat) : Int) - n23)))) : Bool)) w10)
  (J9 ((false : Bool)) w10))
  (J9 ((false : Bool)) w10))
  (J9 ((false : Bool)) w10))
  fun (s24 : crierref04_Mem_Holds_J3.S) w25 => crierref04_Mem_Holds_j0 Q s24 w25
def crierref04_Mem_Holds_ann : Nat → Option LoopSpec := fun
  | 3 => some crierref04_Mem_Holds_J3
  | 6 => some (ordSpec [0, 1, 2, 3, 4, 5, 6, 7, 8, 9, 10, 11, 12, 13, 14, 15, 16, 17, 18, 19, 20, 21, 22, 23, 24, 25, 26, 27, 28, 29, 30, 31])
  | _ => none
theorem crierref04_Mem_Holds_eq (a0 : Option Addr) (a1_0 : Int) (a1_1 : Int) (w : World) (Q : Value → World → Prop) : fnX P crierref04_Mem_Holds_ann Try.f26 [.pointer a0, .agg [.int .i64 a1_0, .int .i64 a1_1].toArray] w Q = crierref04_Mem_Holds a0 a1_0 a1_1 w Q := by kernel_rfl
theorem crierref04_Mem_Holds_cv {a0 : Option Addr} {a1_0 : Int} {a1_1 : Int} {w : World} {Q : Value → World → Prop} (h : crierref04_Mem_Holds a0 a1_0 a1_1 w Q) : CV P F.crierref04_Mem_Holds [.pointer a0, .agg [.int .i64 a1_0, .int .i64 a1_1].toArray] w Q := CV_of mixed Try.func26 (crierref04_Mem_Holds_eq a0 a1_0 a1_1 w Q ▸ h)

/- 27 crier/mem.New -/
def mem_New_J6 : LoopSpec where
  S := Bool
  emb := fun s => [(9, .bool s)]
  ext := fun t => match getL t 9 with
    | some (.bool y2) => some (y2)
    | _ => none
  slots := [9]
  fits := fun _ => rfl
  ok := by
    intro t s h x hx
    (try dsimp only at h hx)
    split at h
    · cases h
      simp only [List.mem_cons, List.not_mem_nil, or_false] at hx
      rcases hx with rfl <;> assumption
    · cases h

def mem_New_j0 (a0 : Int) (Q : Value → World → Prop) (b3 : Bool) (w4 : World) : Prop :=
 cnd b3
 (Q (.tuple [.pointer none, .int .i64 1].toArray) w4)
 (runS P (Instr.makeSlice T.t34 (.int .i64 a0) (.int .i64 a0)) w4 fun p5 l6 c7 w8 =>
 alc [.slice p5 l6 c7] T.t62 w8 fun b9 w10 =>
 Q (.tuple [.pointer (some ⟨b9, 0, none⟩), .int .i64 0].toArray) w10)

def mem_New (a0 : Int) (w : World) (Q : Value → World → Prop) : Prop :=
 JoinT (fun (J11 : mem_New_J6.S → World → Prop) =>
  cnd (decide (a0 < 0))
  (J11 ((true : Bool)) w)
  (J11 (((decide (a0 > 131072)) : Bool)) w))
  fun (s12 : mem_New_J6.S) w13 => mem_New_j0 a0 Q s12 w13
def mem_New_ann : Nat → Option LoopSpec := fun
  | 6 => some mem_New_J6
  | _ => none
theorem mem_New_eq (a0 : Int) (w : World) (Q : Value → World → Prop) : fnX P mem_New_ann Try.f27 [.int .i64 a0] w Q = mem_New a0 w Q := by kernel_rfl
theorem mem_New_cv {a0 : Int} {w : World} {Q : Value → World → Prop} (h : mem_New a0 w Q) : CV P F.mem_New [.int .i64 a0] w Q := CV_of mixed Try.func27 (mem_New_eq a0 w Q ▸ h)

/- 28 crier/mem.fair -/
def mem_fair_J3 : LoopSpec where
  S := Bool
  emb := fun s => [(2, .bool s)]
  ext := fun t => match getL t 2 with
    | some (.bool y5) => some (y5)
    | _ => none
  slots := [2]
  fits := fun _ => rfl
  ok := by
    intro t s h x hx
    (try dsimp only at h hx)
    split at h
    · cases h
      simp only [List.mem_cons, List.not_mem_nil, or_false] at hx
      rcases hx with rfl <;> assumption
    · cases h

def mem_fair_j0 (Q : Value → World → Prop) (b6 : Bool) (w7 : World) : Prop :=
 Q (.bool b6) w7

def mem_fair (a0_0 : Int) (a0_1 : Int) (w : World) (Q : Value → World → Prop) : Prop :=
 alc [.int .i64 a0_0, .int .i64 a0_1] T.t23 w fun b3 w4 =>
 JoinT (fun (J8 : mem_fair_J3.S → World → Prop) =>
  ldI .i64 ⟨b3, 0, none⟩ w4 fun n9 =>
  cnd (decide (n9 ≥ 0))
  (ldI .i64 ⟨b3, 0, none⟩ w4 fun n10 =>
  cnd (decide (n10 ≤ 1099511627776))
  (ldI .i64 ⟨b3, 1, none⟩ w4 fun n11 =>
  cnd (decide (n11 ≥ 0))
  (ldI .i64 ⟨b3, 1, none⟩ w4 fun n12 =>
  J8 (((decide (n12 ≤ 1099511627776)) : Bool)) w4)
  (J8 ((false : Bool)) w4))
  (J8 ((false : Bool)) w4))
  (J8 ((false : Bool)) w4))
  fun (s13 : mem_fair_J3.S) w14 => mem_fair_j0 Q s13 w14
def mem_fair_ann : Nat → Option LoopSpec := fun
  | 3 => some mem_fair_J3
  | _ => none
theorem mem_fair_eq (a0_0 : Int) (a0_1 : Int) (w : World) (Q : Value → World → Prop) : fnX P mem_fair_ann Try.f28 [.agg [.int .i64 a0_0, .int .i64 a0_1].toArray] w Q = mem_fair a0_0 a0_1 w Q := by kernel_rfl
theorem mem_fair_cv {a0_0 : Int} {a0_1 : Int} {w : World} {Q : Value → World → Prop} (h : mem_fair a0_0 a0_1 w Q) : CV P F.mem_fair [.agg [.int .i64 a0_0, .int .i64 a0_1].toArray] w Q := CV_of mixed Try.func28 (mem_fair_eq a0_0 a0_1 w Q ▸ h)

/- 29 (*crier/mem.Mem).Put -/
def mem_Mem_Put_J6 : LoopSpec where
  S := Bool
  emb := fun s => [(17, .bool s)]
  ext := fun t => match getL t 17 with
    | some (.bool y9) => some (y9)
    | _ => none
  slots := [17]
  fits := fun _ => rfl
  ok := by
    intro t s h x hx
    (try dsimp only at h hx)
    split at h
    · cases h
      simp only [List.mem_cons, List.not_mem_nil, or_false] at hx
      rcases hx with rfl <;> assumption
    · cases h

def mem_Mem_Put_j0 (a0 : Option Addr) (a2 : Option Addr) (a2_n : Nat) (a2_c : Nat) (Q : Value → World → Prop) (b7 : Nat) (b10 : Bool) (w11 : World) : Prop :=
 cnd b10
 (Q (.int .i64 42) w11)
 (drw w11 fun w12 =>
 nn a0 fun a13 =>
 ldL a13 w12 fun p14 l15 c16 =>
 ldI .i64 ⟨b7, 0, none⟩ w12 fun n17 =>
 slL p14 l15 c16 1 (some n17) none none fun p18 l19 c20 =>
 runI P (Builtin.copy_ #[T.t34, T.t34] T.t3 [.slice p18 l19 c20, .slice a2 a2_n a2_c].toArray) w12 fun n21 w22 =>
 Q (.int .i64 0) w22)

def mem_Mem_Put (a0 : Option Addr) (a1_0 : Int) (a1_1 : Int) (a2 : Option Addr) (a2_n : Nat) (a2_c : Nat) (w : World) (Q : Value → World → Prop) : Prop :=
 alc [.int .i64 a1_0, .int .i64 a1_1] T.t23 w fun b7 w8 =>
 JoinT (fun (J23 : mem_Mem_Put_J6.S → World → Prop) =>
  ldI .i64 ⟨b7, 0, none⟩ w8 fun n24 =>
  ldI .i64 ⟨b7, 1, none⟩ w8 fun n25 =>
  CV P F.mem_Mem_Holds [.pointer a0, .agg [.int .i64 n24, .int .i64 n25].toArray] w8 fun v26 w27 =>
  ∃ b28 : Bool, v26 = .bool b28 ∧
  cnd (!b28)
  (J23 ((true : Bool)) w27)
  (ldI .i64 ⟨b7, 1, none⟩ w27 fun n29 =>
  J23 (((decide (((a2_n : Nat) : Int) > n29)) : Bool)) w27))
  fun (s30 : mem_Mem_Put_J6.S) w31 => mem_Mem_Put_j0 a0 a2 a2_n a2_c Q b7 s30 w31
def mem_Mem_Put_ann : Nat → Option LoopSpec := fun
  | 6 => some mem_Mem_Put_J6
  | 14 => some (ordSpec [0, 1, 2, 3, 4, 5, 6, 7, 8])
  | _ => none
theorem mem_Mem_Put_eq (a0 : Option Addr) (a1_0 : Int) (a1_1 : Int) (a2 : Option Addr) (a2_n : Nat) (a2_c : Nat) (w : World) (Q : Value → World → Prop) : fnX P mem_Mem_Put_ann Try.f29 [.pointer a0, .agg [.int .i64 a1_0, .int .i64 a1_1].toArray, .slice a2 a2_n a2_c] w Q = mem_Mem_Put a0 a1_0 a1_1 a2 a2_n a2_c w Q := by kernel_rfl
theorem mem_Mem_Put_cv {a0 : Option Addr} {a1_0 : Int} {a1_1 : Int} {a2 : Option Addr} {a2_n : Nat} {a2_c : Nat} {w : World} {Q : Value → World → Prop} (h : mem_Mem_Put a0 a1_0 a1_1 a2 a2_n a2_c w Q) : CV P F.mem_Mem_Put [.pointer a0, .agg [.int .i64 a1_0, .int .i64 a1_1].toArray, .slice a2 a2_n a2_c] w Q := CV_of mixed Try.func29 (mem_Mem_Put_eq a0 a1_0 a1_1 a2 a2_n a2_c w Q ▸ h)

/- 30 (*crier/mem.Mem).part -/

def mem_Mem_part (a0 : Option Addr) (a1_0 : Int) (a1_1 : Int) (a2 : Int) (a3 : Int) (w : World) (Q : Value → World → Prop) : Prop :=
 alc [.int .i64 a1_0, .int .i64 a1_1] T.t23 w fun b6 w7 =>
 ldI .i64 ⟨b6, 0, none⟩ w7 fun n8 =>
 ldI .i64 ⟨b6, 1, none⟩ w7 fun n9 =>
 CV P F.mem_Mem_Holds [.pointer a0, .agg [.int .i64 n8, .int .i64 n9].toArray] w7 fun v10 w11 =>
 ∃ b12 : Bool, v10 = .bool b12 ∧
 cnd (!b12)
 (Q (.tuple [.slice none 0 0, .int .i64 42].toArray) w11)
 (ldI .i64 ⟨b6, 1, none⟩ w11 fun n13 =>
 CV P F.mem_May [.int .i64 n13, .int .i64 a2, .int .i64 a3] w11 fun v14 w15 =>
 ∃ n16 : Int, v14 = .int .i64 n16 ∧
 cnd (n16 != 0)
 (Q (.tuple [.slice none 0 0, .int .i64 n16].toArray) w15)
 (drw w15 fun w17 =>
 nn a0 fun a18 =>
 ldL a18 w17 fun p19 l20 c21 =>
 ldI .i64 ⟨b6, 0, none⟩ w17 fun n22 =>
 ldI .i64 ⟨b6, 0, none⟩ w17 fun n23 =>
 slL p19 l20 c21 1 (some (IntKind.i64.wrap (n22 + a2))) (some (IntKind.i64.wrap ((IntKind.i64.wrap (n23 + a2)) + a3))) none fun p24 l25 c26 =>
 Q (.tuple [.slice p24 l25 c26, .int .i64 0].toArray) w17))
def mem_Mem_part_ann : Nat → Option LoopSpec := fun
  | 30 => some (ordSpec [0, 1, 2, 3, 4, 5, 6, 7, 8, 9, 10, 11, 12, 13, 14, 15, 16])
  | _ => none
theorem mem_Mem_part_eq (a0 : Option Addr) (a1_0 : Int) (a1_1 : Int) (a2 : Int) (a3 : Int) (w : World) (Q : Value → World → Prop) : fnX P mem_Mem_part_ann Try.f30 [.pointer a0, .agg [.int .i64 a1_0, .int .i64 a1_1].toArray, .int .i64 a2, .int .i64 a3] w Q = mem_Mem_part a0 a1_0 a1_1 a2 a3 w Q := by kernel_rfl
theorem mem_Mem_part_cv {a0 : Option Addr} {a1_0 : Int} {a1_1 : Int} {a2 : Int} {a3 : Int} {w : World} {Q : Value → World → Prop} (h : mem_Mem_part a0 a1_0 a1_1 a2 a3 w Q) : CV P F.mem_Mem_part [.pointer a0, .agg [.int .i64 a1_0, .int .i64 a1_1].toArray, .int .i64 a2, .int .i64 a3] w Q := CV_of mixed Try.func30 (mem_Mem_part_eq a0 a1_0 a1_1 a2 a3 w Q ▸ h)

/- 31 crier/crierref04.fair -/
def crierref04_fair_J3 : LoopSpec where
  S := Bool
  emb := fun s => [(2, .bool s)]
  ext := fun t => match getL t 2 with
    | some (.bool y5) => some (y5)
    | _ => none
  slots := [2]
  fits := fun _ => rfl
  ok := by
    intro t s h x hx
    (try dsimp only at h hx)
    split at h
    · cases h
      simp only [List.mem_cons, List.not_mem_nil, or_false] at hx
      rcases hx with rfl <;> assumption
    · cases h

def crierref04_fair_j0 (Q : Value → World → Prop) (b6 : Bool) (w7 : World) : Prop :=
 Q (.bool b6) w7

def crierref04_fair (a0_0 : Int) (a0_1 : Int) (w : World) (Q : Value → World → Prop) : Prop :=
 alc [.int .i64 a0_0, .int .i64 a0_1] T.t23 w fun b3 w4 =>
 JoinT (fun (J8 : crierref04_fair_J3.S → World → Prop) =>
  ldI .i64 ⟨b3, 0, none⟩ w4 fun n9 =>
  cnd (decide (n9 ≥ 0))
  (ldI .i64 ⟨b3, 0, none⟩ w4 fun n10 =>
  cnd (decide (n10 ≤ 1099511627776))
  (ldI .i64 ⟨b3, 1, none⟩ w4 fun n11 =>
  cnd (decide (n11 ≥ 0))
  (ldI .i64 ⟨b3, 1, none⟩ w4 fun n12 =>
  J8 (((decide (n12 ≤ 1099511627776)) : Bool)) w4)
  (J8 ((false : Bool)) w4))
  (J8 ((false : Bool)) w4))
  (J8 ((false : Bool)) w4))
  fun (s13 : crierref04_fair_J3.S) w14 => crierref04_fair_j0 Q s13 w14
def crierref04_fair_ann : Nat → Option LoopSpec := fun
  | 3 => some crierref04_fair_J3
  | _ => none
theorem crierref04_fair_eq (a0_0 : Int) (a0_1 : Int) (w : World) (Q : Value → World → Prop) : fnX P crierref04_fair_ann Try.f31 [.agg [.int .i64 a0_0, .int .i64 a0_1].toArray] w Q = crierref04_fair a0_0 a0_1 w Q := by kernel_rfl
theorem crierref04_fair_cv {a0_0 : Int} {a0_1 : Int} {w : World} {Q : Value → World → Prop} (h : crierref04_fair a0_0 a0_1 w Q) : CV P F.crierref04_fair [.agg [.int .i64 a0_0, .int .i64 a0_1].toArray] w Q := CV_of mixed Try.func31 (crierref04_fair_eq a0_0 a0_1 w Q ▸ h)

/- 32 slices.Clone[[]byte,byte] -/

def slices_Clone__byte_byte (a0 : Option Addr) (a0_n : Nat) (a0_c : Nat) (w : World) (Q : Value → World → Prop) : Prop :=
 cnd (Option.isNone a0)
 (Q (.slice none 0 0) w)
 (alc [] T.t5 w fun b4 w5 =>
 runS P (Builtin.append_ #[T.t34, T.t34] T.t34 [.slice (some ⟨b4, 0, none⟩) 0 0, .slice a0 a0_n a0_c].toArray) w5 fun p6 l7 c8 w9 =>
 Q (.slice p6 l7 c8) w9)
def slices_Clone__byte_byte_ann : Nat → Option LoopSpec := fun _ => none
theorem slices_Clone__byte_byte_eq (a0 : Option Addr) (a0_n : Nat) (a0_c : Nat) (w : World) (Q : Value → World → Prop) : fnX P slices_Clone__byte_byte_ann Try.f32 [.slice a0 a0_n a0_c] w Q = slices_Clone__byte_byte a0 a0_n a0_c w Q := by kernel_rfl
theorem slices_Clone__byte_byte_cv {a0 : Option Addr} {a0_n : Nat} {a0_c : Nat} {w : World} {Q : Value → World → Prop} (h : slices_Clone__byte_byte a0 a0_n a0_c w Q) : CV P F.slices_Clone__byte_byte [.slice a0 a0_n a0_c] w Q := CV_of mixed Try.func32 (slices_Clone__byte_byte_eq a0 a0_n a0_c w Q ▸ h)

/- 33 (*crier/crierref04.Mem).Write -/
def crierref04_Mem_Write_L250 : LoopSpec where
  S := Int × Int
  emb := fun s => [(4, .int .u64 s.1), (12, .int .i64 s.2)]
  ext := fun t => match getL t 4, getL t 12 with
    | some (.int .u64 y18), some (.int .i64 y19) => some (y18, y19)
    | _, _ => none
  slots := [4, 12]
  fits := fun _ => rfl
  ok := by
    intro t s h x hx
    (try dsimp only at h hx)
    split at h
    · cases h
      simp only [List.mem_cons, List.not_mem_nil, or_false] at hx
      rcases hx with rfl | rfl <;> assumption
    · cases h

def crierref04_Mem_Write_l0 (a0 : Option Addr) (a2 : Int) (a3 : Int) (Q : Value → World → Prop) (b7 : Nat) (n20 : Int) (n21 : Int) (w22 : World) (A23 : crierref04_Mem_Write_L250.S → World → Prop) : Prop :=
 cnd (decide (n21 < a3))
 (drw w22 fun w24 =>
 nn a0 fun a25 =>
 ldL a25 w24 fun p26 l27 c28 =>
 ldI .i64 ⟨b7, 0, none⟩ w24 fun n29 =>
 nz 256 <|
 ix (IntKind.i64.wrap ((IntKind.i64.wrap (n29 + a2)) + n21)) l27 fun j30 => nn p26 fun a31 =>
 st1 (.int .u8 (IntKind.u8.wrap ((Int.tmod n20 256)))) (a31.add (j30 * 1)) w24 fun w32 =>
 nz 256 <|
 A23 (((IntKind.u64.wrap (Int.tdiv n20 256)) : Int), ((IntKind.i64.wrap (n21 + 1)) : Int)) w32)
 (Q (.int .i64 0) w22)

def crierref04_Mem_Write (a0 : Option Addr) (a1_0 : Int) (a1_1 : Int) (a2 : Int) (a3 : Int) (a4 : Int) (w : World) (Q : Value → World → Prop) : Prop :=
 alc [.int .i64 a1_0, .int .i64 a1_1] T.t23 w fun b7 w8 =>
 ldI .i64 ⟨b7, 0, none⟩ w8 fun n9 =>
 ldI .i64 ⟨b7, 1, none⟩ w8 fun n10 =>
 CV P F.crierref04_Mem_Holds [.pointer a0, .agg [.int .i64 n9, .int .i64 n10].toArray] w8 fun v11 w12 =>
 ∃ b13 : Bool, v11 = .bool b13 ∧
 cnd (!b13)
 (Q (.int .i64 42) w12)
 (ldI .i64 ⟨b7, 1, none⟩ w12 fun n14 =>
 CV P F.crierref04_May [.int .i64 n14, .int .i64 a2, .int .i64 a3] w12 fun v15 w16 =>
 ∃ n17 : Int, v15 = .int .i64 n17 ∧
 cnd (n17 != 0)
 (Q (.int .i64 n17) w16)
 (LoopT (fun (s33 : crierref04_Mem_Write_L250.S) w34 A35 => crierref04_Mem_Write_l0 a0 a2 a3 Q b7 s33.1 s33.2 w34 A35) ((a4 : Int), (0 : Int)) w16))
def crierref04_Mem_Write_ann : Nat → Option LoopSpec := fun
  | 250 => some crierref04_Mem_Write_L250
  | 8008 => some (ordSpec [0, 1, 2, 3, 4, 5, 6, 7, 8, 9, 10, 11, 12, 13, 14])
  | _ => none
theorem crierref04_Mem_Write_eq (a0 : Option Addr) (a1_0 : Int) (a1_1 : Int) (a2 : Int) (a3 : Int) (a4 : Int) (w : World) (Q : Value → World → Prop) : fnX P crierref04_Mem_Write_ann Try.f33 [.pointer a0, .agg [.int .i64 a1_0, .int .i64 a1_1].toArray, .int .i64 a2, .int .i64 a3, .int .u64 a4] w Q = crierref04_Mem_Write a0 a1_0 a1_1 a2 a3 a4 w Q := by kernel_rfl
theorem crierref04_Mem_Write_cv {a0 : Option Addr} {a1_0 : Int} {a1_1 : Int} {a2 : Int} {a3 : Int} {a4 : Int} {w : World} {Q : Value → World → Prop} (h : crierref04_Mem_Write a0 a1_0 a1_1 a2 a3 a4 w Q) : CV P F.crierref04_Mem_Write [.pointer a0, .agg [.int .i64 a1_0, .int .i64 a1_1].toArray, .int .i64 a2, .int .i64 a3, .int .u64 a4] w Q := CV_of mixed Try.func33 (crierref04_Mem_Write_eq a0 a1_0 a1_1 a2 a3 a4 w Q ▸ h)

/- 34 (*crier/crierref04.Mem).Put -/
def crierref04_Mem_Put_J6 : LoopSpec where
  S := Bool
  emb := fun s => [(18, .bool s)]
  ext := fun t => match getL t 18 with
    | some (.bool y9) => some (y9)
    | _ => none
  slots := [18]
  fits := fun _ => rfl
  ok := by
    intro t s h x hx
    (try dsimp only at h hx)
    split at h
    · cases h
      simp only [List.mem_cons, List.not_mem_nil, or_false] at hx
      rcases hx with rfl <;> assumption
    · cases h

def crierref04_Mem_Put_L58 : LoopSpec where
  S := Int
  emb := fun s => [(7, .int .i64 s)]
  ext := fun t => match getL t 7 with
    | some (.int .i64 y12) => some (y12)
    | _ => none
  slots := [7]
  fits := fun _ => rfl
  ok := by
    intro t s h x hx
    (try dsimp only at h hx)
    split at h
    · cases h
      simp only [List.mem_cons, List.not_mem_nil, or_false] at hx
      rcases hx with rfl <;> assumption
    · cases h

def crierref04_Mem_Put_l0 (a0 : Option Addr) (a2 : Option Addr) (a2_n : Nat) (Q : Value → World → Prop) (b7 : Nat) (n13 : Int) (w14 : World) (A15 : crierref04_Mem_Put_L58.S → World → Prop) : Prop :=
 cnd (decide (n13 < ((a2_n : Nat) : Int)))
 (drw w14 fun w16 =>
 nn a0 fun a17 =>
 ldL a17 w16 fun p18 l19 c20 =>
 ldI .i64 ⟨b7, 0, none⟩ w16 fun n21 =>
 ix n13 a2_n fun j22 => nn a2 fun a23 =>
 ldI .u8 (a23.add (j22 * 1)) w16 fun n24 =>
 ix (IntKind.i64.wrap (n21 + n13)) l19 fun j25 => nn p18 fun a26 =>
 st1 (.int .u8 n24) (a26.add (j25 * 1)) w16 fun w27 =>
 A15 (((IntKind.i64.wrap (n13 + 1)) : Int)) w27)
 (Q (.int .i64 0) w14)

def crierref04_Mem_Put_j1 (a0 : Option Addr) (a2 : Option Addr) (a2_n : Nat) (Q : Value → World → Prop) (b7 : Nat) (b10 : Bool) (w11 : World) : Prop :=
 cnd b10
 (Q (.int .i64 42) w11)
 (LoopT (fun (s28 : crierref04_Mem_Put_L58.S) w29 A30 => crierref04_Mem_Put_l0 a0 a2 a2_n Q b7 s28 w29 A30) ((0 : Int)) w11)

def crierref04_Mem_Put (a0 : Option Addr) (a1_0 : Int) (a1_1 : Int) (a2 : Option Addr) (a2_n : Nat) (a2_c : Nat) (w : World) (Q : Value → World → Prop) : Prop :=
 alc [.int .i64 a1_0, .int .i64 a1_1] T.t23 w fun b7 w8 =>
 JoinT (fun (J31 : crierref04_Mem_Put_J6.S → World → Prop) =>
  ldI .i64 ⟨b7, 0, none⟩ w8 fun n32 =>
  ldI .i64 ⟨b7, 1, none⟩ w8 fun n33 =>
  CV P F.crierref04_Mem_Holds [.pointer a0, .agg [.int .i64 n32, .int .i64 n33].toArray] w8 fun v34 w35 =>
  ∃ b36 : Bool, v34 = .bool b36 ∧
  cnd (!b36)
  (J31 ((true : Bool)) w35)
  (ldI .i64 ⟨b7, 1, none⟩ w35 fun n37 =>
  J31 (((decide (((a2_n : Nat) : Int) > n37)) : Bool)) w35))
  fun (s38 : crierref04_Mem_Put_J6.S) w39 => crierref04_Mem_Put_j1 a0 a2 a2_n Q b7 s38 w39
def crierref04_Mem_Put_ann : Nat → Option LoopSpec := fun
  | 6 => some crierref04_Mem_Put_J6
  | 58 => some crierref04_Mem_Put_L58
  | 932 => some (ordSpec [0, 1, 2, 3, 4, 5, 6, 7, 8, 9, 10, 11, 12, 13])
  | _ => none
theorem crierref04_Mem_Put_eq (a0 : Option Addr) (a1_0 : Int) (a1_1 : Int) (a2 : Option Addr) (a2_n : Nat) (a2_c : Nat) (w : World) (Q : Value → World → Prop) : fnX P crierref04_Mem_Put_ann Try.f34 [.pointer a0, .agg [.int .i64 a1_0, .int .i64 a1_1].toArray, .slice a2 a2_n a2_c] w Q = crierref04_Mem_Put a0 a1_0 a1_1 a2 a2_n a2_c w Q := by kernel_rfl
theorem crierref04_Mem_Put_cv {a0 : Option Addr} {a1_0 : Int} {a1_1 : Int} {a2 : Option Addr} {a2_n : Nat} {a2_c : Nat} {w : World} {Q : Value → World → Prop} (h : crierref04_Mem_Put a0 a1_0 a1_1 a2 a2_n a2_c w Q) : CV P F.crierref04_Mem_Put [.pointer a0, .agg [.int .i64 a1_0, .int .i64 a1_1].toArray, .slice a2 a2_n a2_c] w Q := CV_of mixed Try.func34 (crierref04_Mem_Put_eq a0 a1_0 a1_1 a2 a2_n a2_c w Q ▸ h)

/- 35 (*crier/crierref04.Mem).Wipe -/
def crierref04_Mem_Wipe_L58 : LoopSpec where
  S := Int
  emb := fun s => [(5, .int .i64 s)]
  ext := fun t => match getL t 5 with
    | some (.int .i64 y11) => some (y11)
    | _ => none
  slots := [5]
  fits := fun _ => rfl
  ok := by
    intro t s h x hx
    (try dsimp only at h hx)
    split at h
    · cases h
      simp only [List.mem_cons, List.not_mem_nil, or_false] at hx
      rcases hx with rfl <;> assumption
    · cases h

def crierref04_Mem_Wipe_l0 (a0 : Option Addr) (Q : Value → World → Prop) (b4 : Nat) (n12 : Int) (w13 : World) (A14 : crierref04_Mem_Wipe_L58.S → World → Prop) : Prop :=
 ldI .i64 ⟨b4, 1, none⟩ w13 fun n15 =>
 cnd (decide (n12 < n15))
 (drw w13 fun w16 =>
 nn a0 fun a17 =>
 ldL a17 w16 fun p18 l19 c20 =>
 ldI .i64 ⟨b4, 0, none⟩ w16 fun n21 =>
 ix (IntKind.i64.wrap (n21 + n12)) l19 fun j22 => nn p18 fun a23 =>
 st1 (.int .u8 0) (a23.add (j22 * 1)) w16 fun w24 =>
 A14 (((IntKind.i64.wrap (n12 + 1)) : Int)) w24)
 (Q (.int .i64 0) w13)

def crierref04_Mem_Wipe (a0 : Option Addr) (a1_0 : Int) (a1_1 : Int) (w : World) (Q : Value → World → Prop) : Prop :=
 alc [.int .i64 a1_0, .int .i64 a1_1] T.t23 w fun b4 w5 =>
 ldI .i64 ⟨b4, 0, none⟩ w5 fun n6 =>
 ldI .i64 ⟨b4, 1, none⟩ w5 fun n7 =>
 CV P F.crierref04_Mem_Holds [.pointer a0, .agg [.int .i64 n6, .int .i64 n7].toArray] w5 fun v8 w9 =>
 ∃ b10 : Bool, v8 = .bool b10 ∧
 cnd (!b10)
 (Q (.int .i64 42) w9)
 (LoopT (fun (s25 : crierref04_Mem_Wipe_L58.S) w26 A27 => crierref04_Mem_Wipe_l0 a0 Q b4 s25 w26 A27) ((0 : Int)) w9)
def crierref04_Mem_Wipe_ann : Nat → Option LoopSpec := fun
  | 58 => some crierref04_Mem_Wipe_L58
  | 932 => some (ordSpec [0, 1, 2, 3, 4, 5, 6, 7, 8, 9])
  | _ => none
theorem crierref04_Mem_Wipe_eq (a0 : Option Addr) (a1_0 : Int) (a1_1 : Int) (w : World) (Q : Value → World → Prop) : fnX P crierref04_Mem_Wipe_ann Try.f35 [.pointer a0, .agg [.int .i64 a1_0, .int .i64 a1_1].toArray] w Q = crierref04_Mem_Wipe a0 a1_0 a1_1 w Q := by kernel_rfl
theorem crierref04_Mem_Wipe_cv {a0 : Option Addr} {a1_0 : Int} {a1_1 : Int} {w : World} {Q : Value → World → Prop} (h : crierref04_Mem_Wipe a0 a1_0 a1_1 w Q) : CV P F.crierref04_Mem_Wipe [.pointer a0, .agg [.int .i64 a1_0, .int .i64 a1_1].toArray] w Q := CV_of mixed Try.func35 (crierref04_Mem_Wipe_eq a0 a1_0 a1_1 w Q ▸ h)

/- 36 crier/crierref04.May -/
def crierref04_May_J6 : LoopSpec where
  S := Bool
  emb := fun s => [(16, .bool s)]
  ext := fun t => match getL t 16 with
    | some (.bool y4) => some (y4)
    | _ => none
  slots := [16]
  fits := fun _ => rfl
  ok := by
    intro t s h x hx
    (try dsimp only at h hx)
    split at h
    · cases h
      simp only [List.mem_cons, List.not_mem_nil, or_false] at hx
      rcases hx with rfl <;> assumption
    · cases h

def crierref04_May_J30 : LoopSpec where
  S := Bool
  emb := fun s => [(29, .bool s)]
  ext := fun t => match getL t 29 with
    | some (.bool y7) => some (y7)
    | _ => none
  slots := [29]
  fits := fun _ => rfl
  ok := by
    intro t s h x hx
    (try dsimp only at h hx)
    split at h
    · cases h
      simp only [List.mem_cons, List.not_mem_nil, or_false] at hx
      rcases hx with rfl <;> assumption
    · cases h

def crierref04_May_j0 (Q : Value → World → Prop) (b8 : Bool) (w9 : World) : Prop :=
 cnd b8
 (Q (.int .i64 42) w9)
 (Q (.int .i64 0) w9)

def crierref04_May_j1 (a0 : Int) (a1 : Int) (a2 : Int) (Q : Value → World → Prop) (b5 : Bool) (w6 : World) : Prop :=
 cnd b5
 (Q (.int .i64 40) w6)
 (nz a2 <|
 cnd ((Int.tmod a1 a2) != 0)
 (Q (.int .i64 41) w6)
 (JoinT (fun (J10 : crierref04_May_J30.S → World → Prop) =>
  cnd (decide (a1 < 0))
  (J10 ((true : Bool)) w6)
  (J10 (((decide (a1 > (IntKind.i64.wrap (a0 - a2)))) : Bool)) w6))
  fun (s11 : crierref04_May_J30.S) w12 => crierref04_May_j0 Q s11 w12))

def crierref04_May (a0 : Int) (a1 : Int) (a2 : Int) (w : World) (Q : Value → World → Prop) : Prop :=
 JoinT (fun (J13 : crierref04_May_J6.S → World → Prop) =>
  cnd (a2 != 1)
  (cnd (a2 != 4)
  (J13 (((a2 != 8) : Bool)) w)
  (J13 ((false : Bool)) w))
  (J13 ((false : Bool)) w))
  fun (s14 : crierref04_May_J6.S) w15 => crierref04_May_j1 a0 a1 a2 Q s14 w15
def crierref04_May_ann : Nat → Option LoopSpec := fun
  | 6 => some crierref04_May_J6
  | 30 => some crierref04_May_J30
  | _ => none
theorem crierref04_May_eq (a0 : Int) (a1 : Int) (a2 : Int) (w : World) (Q : Value → World → Prop) : fnX P crierref04_May_ann Try.f36 [.int .i64 a0, .int .i64 a1, .int .i64 a2] w Q = crierref04_May a0 a1 a2 w Q := by kernel_rfl
theorem crierref04_May_cv {a0 : Int} {a1 : Int} {a2 : Int} {w : World} {Q : Value → World → Prop} (h : crierref04_May a0 a1 a2 w Q) : CV P F.crierref04_May [.int .i64 a0, .int .i64 a1, .int .i64 a2] w Q := CV_of mixed Try.func36 (crierref04_May_eq a0 a1 a2 w Q ▸ h)

/- 37 crier/mem.May -/
def mem_May_J12 : LoopSpec where
  S := Bool
  emb := fun s => [(7, .bool s)]
  ext := fun t => match getL t 7 with
    | some (.bool y4) => some (y4)
    | _ => none
  slots := [7]
  fits := fun _ => rfl
  ok := by
    intro t s h x hx
    (try dsimp only at h hx)
    split at h
    · cases h
      simp only [List.mem_cons, List.not_mem_nil, or_false] at hx
      rcases hx with rfl <;> assumption
    · cases h

def mem_May_J207 : LoopSpec where
  S := Bool
  emb := fun s => [(23, .bool s)]
  ext := fun t => match getL t 23 with
    | some (.bool y7) => some (y7)
    | _ => none
  slots := [23]
  fits := fun _ => rfl
  ok := by
    intro t s h x hx
    (try dsimp only at h hx)
    split at h
    · cases h
      simp only [List.mem_cons, List.not_mem_nil, or_false] at hx
      rcases hx with rfl <;> assumption
    · cases h

def mem_May_j0 (Q : Value → World → Prop) (b8 : Bool) (w9 : World) : Prop :=
 cnd b8
 (Q (.int .i64 42) w9)
 (Q (.int .i64 0) w9)

def mem_May_j1 (a0 : Int) (a1 : Int) (a2 : Int) (Q : Value → World → Prop) (b5 : Bool) (w6 : World) : Prop :=
 cnd b5
 (Q (.int .i64 40) w6)
 (nz a2 <|
 cnd ((Int.tmod a1 a2) != 0)
 (Q (.int .i64 41) w6)
 (JoinT (fun (J10 : mem_May_J207.S → World → Prop) =>
  cnd (decide (a1 < 0))
  (J10 ((true : Bool)) w6)
  (J10 (((decide (a1 > (IntKind.i64.wrap (a0 - a2)))) : Bool)) w6))
  fun (s11 : mem_May_J207.S) w12 => mem_May_j0 Q s11 w12))

def mem_May (a0 : Int) (a1 : Int) (a2 : Int) (w : World) (Q : Value → World → Prop) : Prop :=
 JoinT (fun (J13 : mem_May_J12.S → World → Prop) =>
  cnd (a2 != 1)
  (cnd (a2 != 4)
  (J13 (((a2 != 8) : Bool)) w)
  (J13 ((false : Bool)) w))
  (J13 ((false : Bool)) w))
  fun (s14 : mem_May_J12.S) w15 => mem_May_j1 a0 a1 a2 Q s14 w15
def mem_May_ann : Nat → Option LoopSpec := fun
  | 12 => some mem_May_J12
  | 207 => some mem_May_J207
  | _ => none
theorem mem_May_eq (a0 : Int) (a1 : Int) (a2 : Int) (w : World) (Q : Value → World → Prop) : fnX P mem_May_ann Try.f37 [.int .i64 a0, .int .i64 a1, .int .i64 a2] w Q = mem_May a0 a1 a2 w Q := by kernel_rfl
theorem mem_May_cv {a0 : Int} {a1 : Int} {a2 : Int} {w : World} {Q : Value → World → Prop} (h : mem_May a0 a1 a2 w Q) : CV P F.mem_May [.int .i64 a0, .int .i64 a1, .int .i64 a2] w Q := CV_of mixed Try.func37 (mem_May_eq a0 a1 a2 w Q ▸ h)

end Go.Proofs.Ytbincfjaahjbiaa
