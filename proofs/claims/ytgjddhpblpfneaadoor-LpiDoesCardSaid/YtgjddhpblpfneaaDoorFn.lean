/-
  The functions' words, printed by Gen.lean out of the translation: each word's equation with the code is asked of the kernel.
-/
import Derived.Test.YtgjddhpblpfneaaDoorX8
import Derived.Test.YtgjddhpblpfneaaDoorChecked
namespace Go.Proofs.YtgjddhpblpfneaaDoor
open Go X
set_option maxRecDepth 100000
set_option linter.unusedVariables false
noncomputable abbrev P : Program := Tryd.prog
theorem mixed : P.follows .mixedOrders = true := Checked.mixed Tryd.checked
abbrev F.main_main : FuncId := 0
abbrev F.gosem_cut : FuncId := 1
abbrev F.gosem_cut_init : FuncId := 2
abbrev F.crierlaw15_LpiNews : FuncId := 3
abbrev F.crierlaw15_LpiMoves : FuncId := 4
abbrev F.crierlaw15_LpiBest : FuncId := 5
abbrev F.crierlaw15_LpiKnown : FuncId := 6
abbrev F.crierlaw15_LpiDoes : FuncId := 7
abbrev F.crierlaw15_awake : FuncId := 8
abbrev F.crierlaw04_New : FuncId := 9
abbrev F.lpi_New : FuncId := 10
abbrev F.crierref15_New : FuncId := 11
abbrev F.lpi_Lpis_On : FuncId := 12
abbrev F.lpi_Lpis_Many : FuncId := 13
abbrev F.crierlaw15_list : FuncId := 14
abbrev F.lpi_Lpis_Waiting : FuncId := 15
abbrev F.lpi_Lpis_Best : FuncId := 16
abbrev F.crierlaw15_played : FuncId := 17
abbrev F.lpi_MoveAll : FuncId := 18
abbrev F.lpi_Move : FuncId := 19
abbrev F.crierref01_Has : FuncId := 20
abbrev F.lpi_Lpis_Setup : FuncId := 21
abbrev F.lpi_Lpis_Has : FuncId := 22
abbrev F.mem_Mem_Write : FuncId := 23
abbrev F.lpi_Lpis_Inv : FuncId := 24
abbrev F.crierlaw15_begun : FuncId := 25
abbrev F.crierlaw15_alike : FuncId := 26
abbrev F.lpi_Lpis_Copy : FuncId := 27
abbrev F.mem_Mem_Copy : FuncId := 28
abbrev F.lpi_Lpis_Set : FuncId := 29
abbrev F.lpi_Lpis_Disable : FuncId := 30
abbrev F.lpi_Lpis_InvAll : FuncId := 31
abbrev F.crierlaw15_does : FuncId := 32
abbrev F.crierref15_Lpis_Has : FuncId := 33
abbrev F.mem_New : FuncId := 34
abbrev F.lpi_Lpis_Enable : FuncId := 35
abbrev F.mem_Mem_Read : FuncId := 36
abbrev F.mem_Mem_Holds : FuncId := 37
abbrev F.sets_Of_int : FuncId := 38
abbrev F.crierref04_Mem_Holds : FuncId := 39
abbrev F.lpi_Lpis_Waiting_1 : FuncId := 40
abbrev F.sets_Set_int_All : FuncId := 41
abbrev F.prio_Before : FuncId := 42
abbrev F.lpi_Lpis_index : FuncId := 43
abbrev F.prio_Real : FuncId := 44
abbrev F.sets_Set_int_Has : FuncId := 45
abbrev F.lpi_Lpis_stored : FuncId := 46
abbrev F.mem_Mem_part : FuncId := 47
abbrev F.mem_Mem_Put : FuncId := 48
abbrev F.crierref04_Mem_Put : FuncId := 49
abbrev F.crierref15_Lpis_Best : FuncId := 50
abbrev F.crierref01_Same : FuncId := 51
abbrev F.crierref15_Lpis_Waiting : FuncId := 52
abbrev F.crierref15_Lpis_Setup : FuncId := 53
abbrev F.crierlaw04_Same : FuncId := 54
abbrev F.slices_Clone__byte_byte : FuncId := 55
abbrev F.sets_Set_int_Copy : FuncId := 56
abbrev F.lpi_Lpis_store : FuncId := 57
abbrev F.sets_Set_int_Put : FuncId := 58
abbrev F.sets_Set_int_Take : FuncId := 59
abbrev F.crierref15_Lpis_Enable : FuncId := 60
abbrev F.crierref15_Lpis_Disable : FuncId := 61
abbrev F.crierref15_Lpis_Set : FuncId := 62
abbrev F.crierref15_Lpis_Inv : FuncId := 63
abbrev F.crierref15_Lpis_InvAll : FuncId := 64
abbrev F.crierref04_Mem_Write : FuncId := 65
abbrev F.crierref15_Move : FuncId := 66
abbrev F.crierref15_MoveAll : FuncId := 67
abbrev F.crierref15_Lpis_Of : FuncId := 68
abbrev F.crierref15_Lpis_bit : FuncId := 69
abbrev F.sets_Set_int_From : FuncId := 70
abbrev F.mem_May : FuncId := 71
abbrev F.crierref06_Before : FuncId := 72
abbrev F.crierref06_Real : FuncId := 73
abbrev F.mem_Mem_Bytes : FuncId := 74
abbrev F.mem_Mem_Size : FuncId := 75
abbrev F.slices_Clone__uint64_uint64 : FuncId := 76
abbrev F.crierref01_Put : FuncId := 77
abbrev F.crierref15_Lpis_put : FuncId := 78
abbrev F.crierref01_Take : FuncId := 79
abbrev F.crierref04_May : FuncId := 80
abbrev F.sets_Set_int_From_1 : FuncId := 81
abbrev F.math_bits_TrailingZeros64 : FuncId := 82
abbrev F.crierref06_bit : FuncId := 83
abbrev F.crierref01_May : FuncId := 84
abbrev F.runtime_boundsError_Error : FuncId := 85
abbrev F.runtime_boundsError_RuntimeError : FuncId := 86
abbrev F.runtime_errorString_Error : FuncId := 87
abbrev F.runtime_errorString_RuntimeError : FuncId := 88
abbrev F.runtime_plainError_Error : FuncId := 89
abbrev F.runtime_plainError_RuntimeError : FuncId := 90
abbrev F.runtime_errorAddressString_Error : FuncId := 91
abbrev F.runtime_errorAddressString_RuntimeError : FuncId := 92
abbrev F.runtime_TypeAssertionError_Error : FuncId := 93
abbrev F.runtime_TypeAssertionError_RuntimeError : FuncId := 94
abbrev F.runtime_PanicNilError_Error : FuncId := 95
abbrev F.runtime_PanicNilError_RuntimeError : FuncId := 96
abbrev F.internal_abi_Type_Align : FuncId := 97
abbrev F.internal_runtime_maps_unhashableTypeError_Error : FuncId := 98
abbrev F.internal_runtime_maps_unhashableTypeError_RuntimeError : FuncId := 99
abbrev F.crierref04_Mem_Copy : FuncId := 100
abbrev F.api_Errno_Error : FuncId := 101
abbrev F.sets_Set_int_Len : FuncId := 102
abbrev F.internal_abi_Kind_String : FuncId := 103
abbrev F.gosem_cut_vars : FuncId := 107
abbrev T.t0 : TypeId := 0
abbrev T.t1 : TypeId := 1
abbrev T.t2 : TypeId := 2
abbrev T.t3 : TypeId := 3
abbrev T.t4 : TypeId := 4
abbrev T.t5 : TypeId := 5
abbrev T.t6 : TypeId := 6
abbrev T.t7 : TypeId := 7
abbrev T.t8 : TypeId := 8
abbrev T.t9 : TypeId := 9
abbrev T.t10 : TypeId := 10
abbrev T.t11 : TypeId := 11
abbrev T.t12 : TypeId := 12
abbrev T.t13 : TypeId := 13
abbrev T.t14 : TypeId := 14
abbrev T.t15 : TypeId := 15
abbrev T.t16 : TypeId := 16
abbrev T.t17 : TypeId := 17
abbrev T.t18 : TypeId := 18
abbrev T.t19 : TypeId := 19
abbrev T.t20 : TypeId := 20
abbrev T.t21 : TypeId := 21
abbrev T.t22 : TypeId := 22
abbrev T.t23 : TypeId := 23
abbrev T.t24 : TypeId := 24
abbrev T.t25 : TypeId := 25
abbrev T.t26 : TypeId := 26
abbrev T.t27 : TypeId := 27
abbrev T.t28 : TypeId := 28
abbrev T.t29 : TypeId := 29
abbrev T.t30 : TypeId := 30
abbrev T.t31 : TypeId := 31
abbrev T.t32 : TypeId := 32
abbrev T.t33 : TypeId := 33
abbrev T.t34 : TypeId := 34
abbrev T.t35 : TypeId := 35
abbrev T.t36 : TypeId := 36
abbrev T.t37 : TypeId := 37
abbrev T.t38 : TypeId := 38
abbrev T.t39 : TypeId := 39
abbrev T.t40 : TypeId := 40
abbrev T.t41 : TypeId := 41
abbrev T.t42 : TypeId := 42
abbrev T.t43 : TypeId := 43
abbrev T.t44 : TypeId := 44
abbrev T.t45 : TypeId := 45
abbrev T.t46 : TypeId := 46
abbrev T.t47 : TypeId := 47
abbrev T.t48 : TypeId := 48
abbrev T.t49 : TypeId := 49
abbrev T.t50 : TypeId := 50
abbrev T.t51 : TypeId := 51
abbrev T.t52 : TypeId := 52
abbrev T.t53 : TypeId := 53
abbrev T.t54 : TypeId := 54
abbrev T.t55 : TypeId := 55
abbrev T.t56 : TypeId := 56
abbrev T.t57 : TypeId := 57
abbrev T.t58 : TypeId := 58
abbrev T.t59 : TypeId := 59
abbrev T.t60 : TypeId := 60
abbrev T.t61 : TypeId := 61
abbrev T.t62 : TypeId := 62
abbrev T.t63 : TypeId := 63
abbrev T.t64 : TypeId := 64
abbrev T.t65 : TypeId := 65
abbrev T.t66 : TypeId := 66
abbrev T.t67 : TypeId := 67
abbrev T.t68 : TypeId := 68
abbrev T.t69 : TypeId := 69
abbrev T.t70 : TypeId := 70
abbrev T.t71 : TypeId := 71
abbrev T.t72 : TypeId := 72
abbrev T.t73 : TypeId := 73
abbrev T.t74 : TypeId := 74
abbrev T.t75 : TypeId := 75
abbrev T.t76 : TypeId := 76
abbrev T.t77 : TypeId := 77
abbrev T.t78 : TypeId := 78
abbrev T.t79 : TypeId := 79
abbrev T.t80 : TypeId := 80
abbrev T.t81 : TypeId := 81
abbrev T.t82 : TypeId := 82
abbrev T.t83 : TypeId := 83
abbrev T.t84 : TypeId := 84
abbrev T.t85 : TypeId := 85
abbrev T.t86 : TypeId := 86
abbrev T.t87 : TypeId := 87
abbrev T.t88 : TypeId := 88
abbrev T.t89 : TypeId := 89
abbrev T.t90 : TypeId := 90
abbrev T.t91 : TypeId := 91
abbrev T.t92 : TypeId := 92
abbrev T.t93 : TypeId := 93
abbrev T.t94 : TypeId := 94
abbrev T.t95 : TypeId := 95
abbrev T.t96 : TypeId := 96
abbrev T.t97 : TypeId := 97
abbrev T.t98 : TypeId := 98
abbrev T.t99 : TypeId := 99
abbrev T.t100 : TypeId := 100
abbrev T.t101 : TypeId := 101
abbrev T.t102 : TypeId := 102
abbrev T.t103 : TypeId := 103
abbrev T.t104 : TypeId := 104
abbrev T.t105 : TypeId := 105
abbrev T.t106 : TypeId := 106
abbrev T.t107 : TypeId := 107
abbrev T.t108 : TypeId := 108
abbrev T.t109 : TypeId := 109
abbrev T.t110 : TypeId := 110
abbrev T.t111 : TypeId := 111
abbrev T.t112 : TypeId := 112
abbrev T.t113 : TypeId := 113
abbrev T.t114 : TypeId := 114
abbrev T.t115 : TypeId := 115
abbrev T.t116 : TypeId := 116
abbrev T.t117 : TypeId := 117
abbrev T.t118 : TypeId := 118
abbrev T.t119 : TypeId := 119
abbrev T.t120 : TypeId := 120
abbrev T.t121 : TypeId := 121
abbrev T.t122 : TypeId := 122
abbrev T.t123 : TypeId := 123
abbrev T.t124 : TypeId := 124
abbrev T.t125 : TypeId := 125
abbrev T.t126 : TypeId := 126
abbrev T.t127 : TypeId := 127
abbrev T.t128 : TypeId := 128
abbrev T.t129 : TypeId := 129
abbrev T.t130 : TypeId := 130
abbrev T.t131 : TypeId := 131
abbrev T.t132 : TypeId := 132
abbrev T.t133 : TypeId := 133
abbrev T.t134 : TypeId := 134
abbrev T.t135 : TypeId := 135
abbrev T.t136 : TypeId := 136
abbrev T.t137 : TypeId := 137
abbrev T.t138 : TypeId := 138
abbrev T.t139 : TypeId := 139
abbrev T.t140 : TypeId := 140
abbrev T.t141 : TypeId := 141
abbrev T.t142 : TypeId := 142
abbrev T.t143 : TypeId := 143
abbrev T.t144 : TypeId := 144
/- 3 crier/crierlaw15.LpiNews -/
def crierlaw15_LpiNews_J62 : LoopSpec where
  S := Bool
  emb := fun s => [(29, .bool s)]
  ext := fun t => match getL t 29 with
    | some (.bool y18) => some (y18)
    | _ => none
  slots := [29]
  fits := fun _ => rfl
  ok := by
    intro t s h x hx
    (try dsimp only at h hx)
    split at h
    · cases h
      simp only [List.mem_cons, List.not_mem_nil, or_false] at hx
      rcases hx with rfl <;> assumption
    · cases h

def crierlaw15_LpiNews_J510 : LoopSpec where
  S := Bool
  emb := fun s => [(55, .bool s)]
  ext := fun t => match getL t 55 with
    | some (.bool y37) => some (y37)
    | _ => none
  slots := [55]
  fits := fun _ => rfl
  ok := by
    intro t s h x hx
    (try dsimp only at h hx)
    split at h
    · cases h
      simp only [List.mem_cons, List.not_mem_nil, or_false] at hx
      rcases hx with rfl <;> assumption
    · cases h

def crierlaw15_LpiNews_J511 : LoopSpec where
  S := Bool
  emb := fun s => [(8, .bool s)]
  ext := fun t => match getL t 8 with
    | some (.bool y40) => some (y40)
    | _ => none
  slots := [8]
  fits := fun _ => rfl
  ok := by
    intro t s h x hx
    (try dsimp only at h hx)
    split at h
    · cases h
      simp only [List.mem_cons, List.not_mem_nil, or_false] at hx
      rcases hx with rfl <;> assumption
    · cases h

def crierlaw15_LpiNews_j0 (Q : Value → World → Prop) (b41 : Bool) (w42 : World) : Prop :=
 Q (.bool b41) w42

def crierlaw15_LpiNews_j1 (a1 : Int) (Q : Value → World → Prop) (p16 : Option Addr) (p27 : Option Addr) (b38 : Bool) (w39 : World) : Prop :=
 cnd b38
 (Q (.bool false) w39)
 (JoinT (fun (J43 : crierlaw15_LpiNews_J511.S → World → Prop) =>
  cnd (Option.isNone p27)
  (J43 ((true : Bool)) w39)
  (CV P F.lpi_Lpis_On [.pointer p27] w39 fun v44 w45 =>
  ∃ b46 : Bool, v44 = .bool b46 ∧
  cnd (!b46)
  (CV P F.lpi_Lpis_Many [.pointer p27] w45 fun v47 w48 =>
  ∃ n49 : Int, v47 = .int .i64 n49 ∧
  cnd (n49 == a1)
  (CV P F.lpi_Lpis_Waiting [.pointer p27, .pointer p16] w48 fun v50 w51 =>
  ∃ v52 : Value, v50 = v52 ∧
  CV P F.crierlaw15_list [v52] w51 fun v53 w54 =>
  ∃ (p55 : Option Addr) (l56 c57 : Nat), v53 = .slice p55 l56 c57 ∧
  cnd (((l56 : Nat) : Int) == 0)
  (CV P F.lpi_Lpis_Best [.pointer p27] w54 fun v58 w59 =>
  ∃ n60 : Int, ∃ n61 : Int, ∃ n62 : Int, ∃ b63 : Bool, v58 = .agg [.int .i64 n60, .int .i64 n61, .int .i64 n62, .bool b63].toArray ∧
  J43 (((!b63) : Bool)) w59)
  (J43 ((false : Bool)) w54))
  (J43 ((false : Bool)) w48))
  (J43 ((false : Bool)) w45)))
  fun (s64 : crierlaw15_LpiNews_J511.S) w65 => crierlaw15_LpiNews_j0 Q s64 w65)

def crierlaw15_LpiNews_j2 (a1 : Int) (Q : Value → World → Prop) (b7 : Nat) (b9 : Nat) (p16 : Option Addr) (p17 : Option Addr) (b19 : Bool) (w20 : World) : Prop :=
 cnd b19
 (Q (.bool false) w20)
 (ldI .i64 ⟨b7, 0, none⟩ w20 fun n21 =>
 ldI .i64 ⟨b7, 1, none⟩ w20 fun n22 =>
 ldI .i64 ⟨b9, 0, none⟩ w20 fun n23 =>
 ldI .i64 ⟨b9, 1, none⟩ w20 fun n24 =>
 CV P F.lpi_New [.pointer p16, .int .i64 a1, .agg [.int .i64 n21, .int .i64 n22].toArray, .agg [.int .i64 n23, .int .i64 n24].toArray] w20 fun v25 w26 =>
 ∃ p27 : Option Addr, ∃ n28 : Int, v25 = .tuple [.pointer p27, .int .i64 n28].toArray ∧
 ldI .i64 ⟨b7, 0, none⟩ w26 fun n29 =>
 ldI .i64 ⟨b7, 1, none⟩ w26 fun n30 =>
 ldI .i64 ⟨b9, 0, none⟩ w26 fun n31 =>
 ldI .i64 ⟨b9, 1, none⟩ w26 fun n32 =>
 CV P F.crierref15_New [.pointer p17, .int .i64 a1, .agg [.int .i64 n29, .int .i64 n30].toArray, .agg [.int .i64 n31, .int .i64 n32].toArray] w26 fun v33 w34 =>
 ∃ p35 : Option Addr, ∃ n36 : Int, v33 = .tuple [.pointer p35, .int .i64 n36].toArray ∧
 JoinT (fun (J66 : crierlaw15_LpiNews_J510.S → World → Prop) =>
  cnd (n28 != n36)
  (J66 ((true : Bool)) w34)
  (J66 (((!((Option.isNone p27) == (Option.isNone p35))) : Bool)) w34))
  fun (s67 : crierlaw15_LpiNews_J510.S) w68 => crierlaw15_LpiNews_j1 a1 Q p16 p27 s67 w68)

def crierlaw15_LpiNews (a0 : Int) (a1 : Int) (a2_0 : Int) (a2_1 : Int) (a3_0 : Int) (a3_1 : Int) (w : World) (Q : Value → World → Prop) : Prop :=
 alc [.int .i64 a2_0, .int .i64 a2_1] T.t23 w fun b7 w8 =>
 alc [.int .i64 a3_0, .int .i64 a3_1] T.t23 w8 fun b9 w10 =>
 CV P F.crierlaw15_awake [] w10 fun v11 w12 =>
 ∃ b13 : Bool, v11 = .bool b13 ∧
 cnd (!b13)
 (Q (.bool false) w12)
 (CV P F.crierlaw04_New [.int .i64 a0] w12 fun v14 w15 =>
 ∃ p16 : Option Addr, ∃ p17 : Option Addr, v14 = .tuple [.pointer p16, .pointer p17].toArray ∧
 JoinT (fun (J69 : crierlaw15_LpiNews_J62.S → World → Prop) =>
  cnd (!b13)
  (J69 ((true : Bool)) w15)
  (J69 (((Option.isNone p16) : Bool)) w15))
  fun (s70 : crierlaw15_LpiNews_J62.S) w71 => crierlaw15_LpiNews_j2 a1 Q b7 b9 p16 p17 s70 w71)
def crierlaw15_LpiNews_ann : Nat → Option LoopSpec := fun
  | 62 => some crierlaw15_LpiNews_J62
  | 510 => some crierlaw15_LpiNews_J510
  | 511 => some crierlaw15_LpiNews_J511
  | _ => none
theorem crierlaw15_LpiNews_eq (a0 : Int) (a1 : Int) (a2_0 : Int) (a2_1 : Int) (a3_0 : Int) (a3_1 : Int) (w : World) (Q : Value → World → Prop) : fnX P crierlaw15_LpiNews_ann Tryd.f3 [.int .i64 a0, .int .i64 a1, .agg [.int .i64 a2_0, .int .i64 a2_1].toArray, .agg [.int .i64 a3_0, .int .i64 a3_1].toArray] w Q = crierlaw15_LpiNews a0 a1 a2_0 a2_1 a3_0 a3_1 w Q := by kernel_rfl
theorem crierlaw15_LpiNews_cv {a0 : Int} {a1 : Int} {a2_0 : Int} {a2_1 : Int} {a3_0 : Int} {a3_1 : Int} {w : World} {Q : Value → World → Prop} (h : crierlaw15_LpiNews a0 a1 a2_0 a2_1 a3_0 a3_1 w Q) : CV P F.crierlaw15_LpiNews [.int .i64 a0, .int .i64 a1, .agg [.int .i64 a2_0, .int .i64 a2_1].toArray, .agg [.int .i64 a3_0, .int .i64 a3_1].toArray] w Q := CV_of mixed Tryd.func3 (crierlaw15_LpiNews_eq a0 a1 a2_0 a2_1 a3_0 a3_1 w Q ▸ h)

/- 4 crier/crierlaw15.LpiMoves -/
def crierlaw15_LpiMoves_J62 : LoopSpec where
  S := Bool
  emb := fun s => [(40, .bool s)]
  ext := fun t => match getL t 40 with
    | some (.bool y33) => some (y33)
    | _ => none
  slots := [40]
  fits := fun _ => rfl
  ok := by
    intro t s h x hx
    (try dsimp only at h hx)
    split at h
    · cases h
      simp only [List.mem_cons, List.not_mem_nil, or_false] at hx
      rcases hx with rfl <;> assumption
    · cases h

def crierlaw15_LpiMoves_J255 : LoopSpec where
  S := Int
  emb := fun s => [(18, .int .i64 s)]
  ext := fun t => match getL t 18 with
    | some (.int .i64 y63) => some (y63)
    | _ => none
  slots := [18]
  fits := fun _ => rfl
  ok := by
    intro t s h x hx
    (try dsimp only at h hx)
    split at h
    · cases h
      simp only [List.mem_cons, List.not_mem_nil, or_false] at hx
      rcases hx with rfl <;> assumption
    · cases h

def crierlaw15_LpiMoves_L8186 : LoopSpec where
  S := Int
  emb := fun s => [(21, .int .i64 s)]
  ext := fun t => match getL t 21 with
    | some (.int .i64 y93) => some (y93)
    | _ => none
  slots := [21]
  fits := fun _ => rfl
  ok := by
    intro t s h x hx
    (try dsimp only at h hx)
    split at h
    · cases h
      simp only [List.mem_cons, List.not_mem_nil, or_false] at hx
      rcases hx with rfl <;> assumption
    · cases h

def crierlaw15_LpiMoves_J130980 : LoopSpec where
  S := Bool
  emb := fun s => [(22, .bool s)]
  ext := fun t => match getL t 22 with
    | some (.bool y97) => some (y97)
    | _ => none
  slots := [22]
  fits := fun _ => rfl
  ok := by
    intro t s h x hx
    (try dsimp only at h hx)
    split at h
    · cases h
      simp only [List.mem_cons, List.not_mem_nil, or_false] at hx
      rcases hx with rfl <;> assumption
    · cases h

def crierlaw15_LpiMoves_J261961 : LoopSpec where
  S := Bool
  emb := fun s => [(135, .bool s)]
  ext := fun t => match getL t 135 with
    | some (.bool y100) => some (y100)
    | _ => none
  slots := [135]
  fits := fun _ => rfl
  ok := by
    intro t s h x hx
    (try dsimp only at h hx)
    split at h
    · cases h
      simp only [List.mem_cons, List.not_mem_nil, or_false] at hx
      rcases hx with rfl <;> assumption
    · cases h

def crierlaw15_LpiMoves_j0 (Q : Value → World → Prop) (n94 : Int) (A96 : crierlaw15_LpiMoves_L8186.S → World → Prop) (b101 : Bool) (w102 : World) : Prop :=
 cnd b101
 (Q (.bool false) w102)
 (A96 (((IntKind.i64.wrap (n94 + 1)) : Int)) w102)

def crierlaw15_LpiMoves_j1 (Q : Value → World → Prop) (p50 : Option Addr) (l51 : Nat) (p80 : Option Addr) (l81 : Nat) (c82 : Nat) (p90 : Option Addr) (l91 : Nat) (c92 : Nat) (n94 : Int) (A96 : crierlaw15_LpiMoves_L8186.S → World → Prop) (b98 : Bool) (w99 : World) : Prop :=
 JoinT (fun (J103 : crierlaw15_LpiMoves_J261961.S → World → Prop) =>
  ix n94 l51 fun j104 => nn p50 fun a105 =>
  ldI .i64 (a105.add (j104 * 1)) w99 fun n106 =>
  CV P F.crierref01_Has [.slice p80 l81 c82, .int .i64 n106] w99 fun v107 w108 =>
  ∃ b109 : Bool, v107 = .bool b109 ∧
  cnd (b109 == b98)
  (J103 ((true : Bool)) w108)
  (cnd b98
  (ix n94 l51 fun j110 => nn p50 fun a111 =>
  ldI .i64 (a111.add (j110 * 1)) w108 fun n112 =>
  CV P F.crierref01_Has [.slice p90 l91 c92, .int .i64 n112] w108 fun v113 w114 =>
  ∃ b115 : Bool, v113 = .bool b115 ∧
  J103 (((!b115) : Bool)) w114)
  (J103 ((false : Bool)) w108)))
  fun (s116 : crierlaw15_LpiMoves_J261961.S) w117 => crierlaw15_LpiMoves_j0 Q n94 A96 s116 w117

def crierlaw15_LpiMoves_L16378 : LoopSpec where
  S := Int
  emb := fun s => [(23, .int .i64 s)]
  ext := fun t => match getL t 23 with
    | some (.int .i64 y143) => some (y143)
    | _ => none
  slots := [23]
  fits := fun _ => rfl
  ok := by
    intro t s h x hx
    (try dsimp only at h hx)
    split at h
    · cases h
      simp only [List.mem_cons, List.not_mem_nil, or_false] at hx
      rcases hx with rfl <;> assumption
    · cases h

def crierlaw15_LpiMoves_J4095 : LoopSpec where
  S := Bool
  emb := fun s => [(12, .bool s)]
  ext := fun t => match getL t 12 with
    | some (.bool y153) => some (y153)
    | _ => none
  slots := [12]
  fits := fun _ => rfl
  ok := by
    intro t s h x hx
    (try dsimp only at h hx)
    split at h
    · cases h
      simp only [List.mem_cons, List.not_mem_nil, or_false] at hx
      rcases hx with rfl <;> assumption
    · cases h

def crierlaw15_LpiMoves_j2 (Q : Value → World → Prop) (b154 : Bool) (w155 : World) : Prop :=
 Q (.bool b154) w155

def crierlaw15_LpiMoves_l3 (Q : Value → World → Prop) (l51 : Nat) (p60 : Option Addr) (l61 : Nat) (n64 : Int) (l81 : Nat) (p90 : Option Addr) (l91 : Nat) (c92 : Nat) (n144 : Int) (w145 : World) (A146 : crierlaw15_LpiMoves_L16378.S → World → Prop) : Prop :=
 cnd (decide (n144 < ((l61 : Nat) : Int)))
 (ix n144 l61 fun j147 => nn p60 fun a148 =>
 ldI .i64 (a148.add (j147 * 1)) w145 fun n149 =>
 CV P F.crierref01_Has [.slice p90 l91 c92, .int .i64 n149] w145 fun v150 w151 =>
 ∃ b152 : Bool, v150 = .bool b152 ∧
 cnd (!b152)
 (Q (.bool false) w151)
 (A146 (((IntKind.i64.wrap (n144 + 1)) : Int)) w151))
 (JoinT (fun (J156 : crierlaw15_LpiMoves_J4095.S → World → Prop) =>
  cnd (((l81 : Nat) : Int) == (IntKind.i64.wrap (((l51 : Nat) : Int) - n64)))
  (J156 (((decide (((l91 : Nat) : Int) ≤ (IntKind.i64.wrap (((l61 : Nat) : Int) + n64)))) : Bool)) w145)
  (J156 ((false : Bool)) w145))
  fun (s157 : crierlaw15_LpiMoves_J4095.S) w158 => crierlaw15_LpiMoves_j2 Q s157 w158)

def crierlaw15_LpiMoves_l4 (a4 : Int) (a5 : Bool) (Q : Value → World → Prop) (b24 : Nat) (p50 : Option Addr) (l51 : Nat) (p60 : Option Addr) (l61 : Nat) (n64 : Int) (p80 : Option Addr) (l81 : Nat) (c82 : Nat) (p90 : Option Addr) (l91 : Nat) (c92 : Nat) (n94 : Int) (w95 : World) (A96 : crierlaw15_LpiMoves_L8186.S → World → Prop) : Prop :=
 cnd (decide (n94 < ((l51 : Nat) : Int)))
 (JoinT (fun (J118 : crierlaw15_LpiMoves_J130980.S → World → Prop) =>
  drw w95 fun w119 =>
  cnd a5
  (ix n94 l51 fun j120 => nn p50 fun a121 =>
  ldI .i64 (a121.add (j120 * 1)) w119 fun n122 =>
  ix 1 2 fun j123 =>
  ldP (Addr.add ⟨b24, 2, none⟩ (j123 * 1)) w119 fun p124 =>
  CV P F.lpi_Lpis_Many [.pointer p124] w119 fun v125 w126 =>
  ∃ n127 : Int, v125 = .int .i64 n127 ∧
  (ldI .i64 (a121.add (j120 * 1)) w126 fun n128 =>
  ((.int .i64 n128 : Value) = .int .i64 n122)) ∧
  J118 (((decide ((IntKind.i64.wrap (n122 - 8192)) < n127)) : Bool)) w126)
  (ix n94 l51 fun j129 => nn p50 fun a130 =>
  ldI .i64 (a130.add (j129 * 1)) w119 fun n131 =>
  cnd (n131 == a4)
  (ix n94 l51 fun j132 => nn p50 fun a133 =>
  ldI .i64 (a133.add (j132 * 1)) w119 fun n134 =>
  ix 1 2 fun j135 =>
  ldP (Addr.add ⟨b24, 2, none⟩ (j135 * 1)) w119 fun p136 =>
  CV P F.lpi_Lpis_Many [.pointer p136] w119 fun v137 w138 =>
  ∃ n139 : Int, v137 = .int .i64 n139 ∧
  (ldI .i64 (a133.add (j132 * 1)) w138 fun n140 =>
  ((.int .i64 n140 : Value) = .int .i64 n134)) ∧
  J118 (((decide ((IntKind.i64.wrap (n134 - 8192)) < n139)) : Bool)) w138)
  (J118 ((false : Bool)) w119)))
  fun (s141 : crierlaw15_LpiMoves_J130980.S) w142 => crierlaw15_LpiMoves_j1 Q p50 l51 p80 l81 c82 p90 l91 c92 n94 A96 s141 w142)
 (LoopT (fun (s159 : crierlaw15_LpiMoves_L16378.S) w160 A161 => crierlaw15_LpiMoves_l3 Q l51 p60 l61 n64 l81 p90 l91 c92 s159 w160 A161) ((0 : Int)) w95)

def crierlaw15_LpiMoves_j5 (a4 : Int) (a5 : Bool) (Q : Value → World → Prop) (b24 : Nat) (p50 : Option Addr) (l51 : Nat) (p60 : Option Addr) (l61 : Nat) (n64 : Int) (w65 : World) : Prop :=
 drw w65 fun w66 =>
 ix 0 2 fun j67 =>
 ldP (Addr.add ⟨b24, 2, none⟩ (j67 * 1)) w66 fun p68 =>
 ldP ⟨b24, 0, none⟩ w66 fun p69 =>
 ix 1 2 fun j70 =>
 ldP (Addr.add ⟨b24, 2, none⟩ (j70 * 1)) w66 fun p71 =>
 ldP ⟨b24, 0, none⟩ w66 fun p72 =>
 CV P F.lpi_Lpis_Waiting [.pointer p68, .pointer p69] w66 fun v73 w74 =>
 ∃ v75 : Value, v73 = v75 ∧
 (ldP ⟨b24, 0, none⟩ w74 fun p76 =>
 ((.pointer p76 : Value) = .pointer p72)) ∧
 (ldP (Addr.add ⟨b24, 2, none⟩ (j70 * 1)) w74 fun p77 =>
 ((.pointer p77 : Value) = .pointer p71)) ∧
 CV P F.crierlaw15_list [v75] w74 fun v78 w79 =>
 ∃ (p80 : Option Addr) (l81 c82 : Nat), v78 = .slice p80 l81 c82 ∧
 (ldP ⟨b24, 0, none⟩ w79 fun p83 =>
 ((.pointer p83 : Value) = .pointer p72)) ∧
 (ldP (Addr.add ⟨b24, 2, none⟩ (j70 * 1)) w79 fun p84 =>
 ((.pointer p84 : Value) = .pointer p71)) ∧
 CV P F.lpi_Lpis_Waiting [.pointer p71, .pointer p72] w79 fun v85 w86 =>
 ∃ v87 : Value, v85 = v87 ∧
 CV P F.crierlaw15_list [v87] w86 fun v88 w89 =>
 ∃ (p90 : Option Addr) (l91 c92 : Nat), v88 = .slice p90 l91 c92 ∧
 LoopT (fun (s162 : crierlaw15_LpiMoves_L8186.S) w163 A164 => crierlaw15_LpiMoves_l4 a4 a5 Q b24 p50 l51 p60 l61 n64 p80 l81 c82 p90 l91 c92 s162 w163 A164) ((0 : Int)) w89

def crierlaw15_LpiMoves_j6 (a4 : Int) (a5 : Bool) (Q : Value → World → Prop) (b24 : Nat) (b34 : Bool) (w35 : World) : Prop :=
 cnd b34
 (Q (.bool false) w35)
 (drw w35 fun w36 =>
 ix 0 2 fun j37 =>
 ldP (Addr.add ⟨b24, 2, none⟩ (j37 * 1)) w36 fun p38 =>
 ldP ⟨b24, 0, none⟩ w36 fun p39 =>
 ix 1 2 fun j40 =>
 ldP (Addr.add ⟨b24, 2, none⟩ (j40 * 1)) w36 fun p41 =>
 ldP ⟨b24, 0, none⟩ w36 fun p42 =>
 CV P F.lpi_Lpis_Waiting [.pointer p38, .pointer p39] w36 fun v43 w44 =>
 ∃ v45 : Value, v43 = v45 ∧
 (ldP ⟨b24, 0, none⟩ w44 fun p46 =>
 ((.pointer p46 : Value) = .pointer p42)) ∧
 (ldP (Addr.add ⟨b24, 2, none⟩ (j40 * 1)) w44 fun p47 =>
 ((.pointer p47 : Value) = .pointer p41)) ∧
 CV P F.crierlaw15_list [v45] w44 fun v48 w49 =>
 ∃ (p50 : Option Addr) (l51 c52 : Nat), v48 = .slice p50 l51 c52 ∧
 (ldP ⟨b24, 0, none⟩ w49 fun p53 =>
 ((.pointer p53 : Value) = .pointer p42)) ∧
 (ldP (Addr.add ⟨b24, 2, none⟩ (j40 * 1)) w49 fun p54 =>
 ((.pointer p54 : Value) = .pointer p41)) ∧
 CV P F.lpi_Lpis_Waiting [.pointer p41, .pointer p42] w49 fun v55 w56 =>
 ∃ v57 : Value, v55 = v57 ∧
 CV P F.crierlaw15_list [v57] w56 fun v58 w59 =>
 ∃ (p60 : Option Addr) (l61 c62 : Nat), v58 = .slice p60 l61 c62 ∧
 JoinT (fun (J165 : crierlaw15_LpiMoves_J255.S → World → Prop) =>
  cnd a5
  (ldP ⟨b24, 0, none⟩ w59 fun p166 =>
  ix 0 2 fun j167 =>
  ldP (Addr.add ⟨b24, 2, none⟩ (j167 * 1)) w59 fun p168 =>
  ix 1 2 fun j169 =>
  ldP (Addr.add ⟨b24, 2, none⟩ (j169 * 1)) w59 fun p170 =>
  CV P F.lpi_MoveAll [.pointer p166, .pointer p168, .pointer p170] w59 fun v171 w172 =>
  ∃ n173 : Int, v171 = .int .i64 n173 ∧
  J165 ((n173 : Int)) w172)
  (ldP ⟨b24, 0, none⟩ w59 fun p174 =>
  ix 0 2 fun j175 =>
  ldP (Addr.add ⟨b24, 2, none⟩ (j175 * 1)) w59 fun p176 =>
  ix 1 2 fun j177 =>
  ldP (Addr.add ⟨b24, 2, none⟩ (j177 * 1)) w59 fun p178 =>
  CV P F.lpi_Move [.pointer p174, .int .i64 a4, .pointer p176, .pointer p178] w59 fun v179 w180 =>
  ∃ b181 : Bool, v179 = .bool b181 ∧
  cnd b181
  (J165 ((1 : Int)) w180)
  (J165 ((0 : Int)) w180)))
  fun (s182 : crierlaw15_LpiMoves_J255.S) w183 => crierlaw15_LpiMoves_j5 a4 a5 Q b24 p50 l51 p60 l61 s182 w183)

def crierlaw15_LpiMoves (a0 : Int) (a1 : Int) (a2 : Option Addr) (a2_n : Nat) (a2_c : Nat) (a3 : Option Addr) (a3_n : Nat) (a3_c : Nat) (a4 : Int) (a5 : Bool) (w : World) (Q : Value → World → Prop) : Prop :=
 CV P F.crierlaw15_awake [] w fun v11 w12 =>
 ∃ b13 : Bool, v11 = .bool b13 ∧
 cnd (!b13)
 (Q (.bool false) w12)
 (CV P F.crierlaw15_played [.int .u8 a0, .int .u8 a1, .slice a2 a2_n a2_c, .slice a3 a3_n a3_c] w12 fun v14 w15 =>
 ∃ p16 : Option Addr, ∃ p17 : Option Addr, ∃ p18 : Option Addr, ∃ p19 : Option Addr, ∃ p20 : Option Addr, ∃ p21 : Option Addr, ∃ b22 : Bool, ∃ b23 : Bool, v14 = .tuple [.agg [.pointer p16, .pointer p17, .pointer p18, .pointer p19, .pointer p20, .pointer p21, .bool b22].toArray, .bool b23].toArray ∧
 alc [.pointer none, .pointer none, .pointer none, .pointer none, .pointer none, .pointer none, .bool false] T.t51 w15 fun b24 w25 =>
 st1 (.pointer p16) ⟨b24, 0, none⟩ w25 fun w26 =>
 st1 (.pointer p17) ⟨b24, 1, none⟩ w26 fun w27 =>
 st1 (.pointer p18) ⟨b24, 2, none⟩ w27 fun w28 =>
 st1 (.pointer p19) ⟨b24, 3, none⟩ w28 fun w29 =>
 st1 (.pointer p20) ⟨b24, 4, none⟩ w29 fun w30 =>
 st1 (.pointer p21) ⟨b24, 5, none⟩ w30 fun w31 =>
 st1 (.bool b22) ⟨b24, 6, none⟩ w31 fun w32 =>
 JoinT (fun (J184 : crierlaw15_LpiMoves_J62.S → World → Prop) =>
  cnd (!b13)
  (J184 ((true : Bool)) w32)
  (J184 (((!b23) : Bool)) w32))
  fun (s185 : crierlaw15_LpiMoves_J62.S) w186 => crierlaw15_LpiMoves_j6 a4 a5 Q b24 s185 w186)
def crierlaw15_LpiMoves_ann : Nat → Option LoopSpec := fun
  | 62 => some crierlaw15_LpiMoves_J62
  | 126 => some (ordSpec [0, 1, 2, 3, 4, 7, 8, 9, 10, 11, 5, 6, 12, 13, 14, 15])
  | 255 => some crierlaw15_LpiMoves_J255
  | 1022 => some (ordSpec [0, 1, 2, 3, 4, 7, 8, 9, 10, 11, 5, 6, 12, 13, 14, 15])
  | 8186 => some crierlaw15_LpiMoves_L8186
  | 130980 => some crierlaw15_LpiMoves_J130980
  | 261961 => some crierlaw15_LpiMoves_J261961
  | 261960 => some (ordSpec [0, 1, 2, 3, 4, 5, 6, 7, 8, 9, 10, 11, 12, 13, 14, 15, 16, 17, 18, 19, 20, 21])
  | 16378 => some crierlaw15_LpiMoves_L16378
  | 4095 => some crierlaw15_LpiMoves_J4095
  | _ => none
theorem crierlaw15_LpiMoves_eq (a0 : Int) (a1 : Int) (a2 : Option Addr) (a2_n : Nat) (a2_c : Nat) (a3 : Option Addr) (a3_n : Nat) (a3_c : Nat) (a4 : Int) (a5 : Bool) (w : World) (Q : Value → World → Prop) : fnX P crierlaw15_LpiMoves_ann Tryd.f4 [.int .u8 a0, .int .u8 a1, .slice a2 a2_n a2_c, .slice a3 a3_n a3_c, .int .i64 a4, .bool a5] w Q = crierlaw15_LpiMoves a0 a1 a2 a2_n a2_c a3 a3_n a3_c a4 a5 w Q := by kernel_rfl
theorem crierlaw15_LpiMoves_cv {a0 : Int} {a1 : Int} {a2 : Option Addr} {a2_n : Nat} {a2_c : Nat} {a3 : Option Addr} {a3_n : Nat} {a3_c : Nat} {a4 : Int} {a5 : Bool} {w : World} {Q : Value → World → Prop} (h : crierlaw15_LpiMoves a0 a1 a2 a2_n a2_c a3 a3_n a3_c a4 a5 w Q) : CV P F.crierlaw15_LpiMoves [.int .u8 a0, .int .u8 a1, .slice a2 a2_n a2_c, .slice a3 a3_n a3_c, .int .i64 a4, .bool a5] w Q := CV_of mixed Tryd.func4 (crierlaw15_LpiMoves_eq a0 a1 a2 a2_n a2_c a3 a3_n a3_c a4 a5 w Q ▸ h)

/- 5 crier/crierlaw15.LpiBest -/
def crierlaw15_LpiBest_J62 : LoopSpec where
  S := Bool
  emb := fun s => [(36, .bool s)]
  ext := fun t => match getL t 36 with
    | some (.bool y35) => some (y35)
    | _ => none
  slots := [36]
  fits := fun _ => rfl
  ok := by
    intro t s h x hx
    (try dsimp only at h hx)
    split at h
    · cases h
      simp only [List.mem_cons, List.not_mem_nil, or_false] at hx
      rcases hx with rfl <;> assumption
    · cases h

def crierlaw15_LpiBest_J16373 : LoopSpec where
  S := Unit
  emb := fun _ => []
  ext := fun _ => some ()
  slots := []
  fits := fun _ => rfl
  ok := by
    intro t s h x hx; cases hx

def crierlaw15_LpiBest_j0 (l73 : Nat) (r74 : Loop) (Q77 : Value → World → Prop) (w81 : World) : Prop :=
 recAt w81 l73 r74 .busy none ∧ setR w81 l73 r74 .ready none fun w82 => Q77 (.bool true) w82

def crierlaw15_LpiBest_J261975 : LoopSpec where
  S := Bool
  emb := fun s => [(83, .bool s)]
  ext := fun t => match getL t 83 with
    | some (.bool y91) => some (y91)
    | _ => none
  slots := [83]
  fits := fun _ => rfl
  ok := by
    intro t s h x hx
    (try dsimp only at h hx)
    split at h
    · cases h
      simp only [List.mem_cons, List.not_mem_nil, or_false] at hx
      rcases hx with rfl <;> assumption
    · cases h

def crierlaw15_LpiBest_j1 (b9 : Nat) (l73 : Nat) (r74 : Loop) (Q77 : Value → World → Prop) (J83 : crierlaw15_LpiBest_J16373.S → World → Prop) (b92 : Bool) (w93 : World) : Prop :=
 cnd b92
 (st1 (.bool false) ⟨b9, 0, none⟩ w93 fun w94 =>
 recAt w94 l73 r74 .busy none ∧ setR w94 l73 r74 .done (some .ret) fun w95 => Q77 (.bool false) w95)
 (J83 () w93)

def crierlaw15_LpiBest_r2 (b9 : Nat) (b42 : Nat) (b52 : Nat) (b65 : Nat) (l73 : Nat) (r74 : Loop) (vs75 : List Value) (w76 : World) (Q77 : Value → World → Prop) : Prop :=
 X.b1 vs75 fun v78 =>
 ∃ n79 : Int, v78 = .int .i64 n79 ∧
 recAt w76 l73 r74 .ready none ∧ setR w76 l73 r74 .busy none fun w80 =>
 JoinT (fun (J83 : crierlaw15_LpiBest_J16373.S → World → Prop) =>
  ldP ⟨b42, 0, none⟩ w80 fun p84 =>
  CV P F.lpi_Lpis_Setup [.pointer p84, .int .i64 n79] w80 fun v85 w86 =>
  ∃ b87 : Bool, ∃ n88 : Int, v85 = .tuple [.bool b87, .int .i64 n88].toArray ∧
  cnd (!b87)
  (J83 () w86)
  (ldI .i64 ⟨b65, 0, none⟩ w86 fun n89 =>
  st1 (.int .i64 (IntKind.i64.wrap (n89 + 1))) ⟨b65, 0, none⟩ w86 fun w90 =>
  JoinT (fun (J96 : crierlaw15_LpiBest_J261975.S → World → Prop) =>
   ldB ⟨b52, 3, none⟩ w90 fun b97 =>
   cnd (!b97)
   (J96 ((true : Bool)) w90)
   (ldI .i64 ⟨b52, 1, none⟩ w90 fun n98 =>
   cnd (decide (n88 < n98))
   (J96 ((true : Bool)) w90)
   (ldI .i64 ⟨b52, 1, none⟩ w90 fun n99 =>
   cnd (n88 == n99)
   (ldI .i64 ⟨b52, 0, none⟩ w90 fun n100 =>
   J96 (((decide (n79 < n100)) : Bool)) w90)
   (J96 ((false : Bool)) w90))))
   fun (s101 : crierlaw15_LpiBest_J261975.S) w102 => crierlaw15_LpiBest_j1 b9 l73 r74 Q77 J83 s101 w102))
  fun (s103 : crierlaw15_LpiBest_J16373.S) w104 => crierlaw15_LpiBest_j0 l73 r74 Q77 w104

def crierlaw15_LpiBest_J4095 : LoopSpec where
  S := Unit
  emb := fun _ => []
  ext := fun _ => some ()
  slots := []
  fits := fun _ => rfl
  ok := by
    intro t s h x hx; cases hx

def crierlaw15_LpiBest_j3 (Q : Value → World → Prop) (b9 : Nat) (mk105 : List Deferred) (w114 : World) : Prop :=
 takeX (mk105 ++ []) w114 fun w115 =>
 ldB ⟨b9, 0, none⟩ w115 fun b116 =>
 Q (.bool b116) w115

def crierlaw15_LpiBest_j4 (Q : Value → World → Prop) (b9 : Nat) (b26 : Nat) (b36 : Bool) (w37 : World) : Prop :=
 cnd b36
 (st1 (.bool false) ⟨b9, 0, none⟩ w37 fun w38 =>
 ldB ⟨b9, 0, none⟩ w38 fun b39 =>
 Q (.bool b39) w38)
 (ix 0 2 fun j40 =>
 ldP (Addr.add ⟨b26, 2, none⟩ (j40 * 1)) w37 fun p41 =>
 alc [.pointer none] T.t29 w37 fun b42 w43 =>
 st1 (.pointer p41) ⟨b42, 0, none⟩ w43 fun w44 =>
 ldP ⟨b42, 0, none⟩ w44 fun p45 =>
 CV P F.lpi_Lpis_Best [.pointer p45] w44 fun v46 w47 =>
 ∃ n48 : Int, ∃ n49 : Int, ∃ n50 : Int, ∃ b51 : Bool, v46 = .agg [.int .i64 n48, .int .i64 n49, .int .i64 n50, .bool b51].toArray ∧
 alc [.int .i64 0, .int .i64 0, .int .i64 0, .bool false] T.t43 w47 fun b52 w53 =>
 st1 (.int .i64 n48) ⟨b52, 0, none⟩ w53 fun w54 =>
 st1 (.int .i64 n49) ⟨b52, 1, none⟩ w54 fun w55 =>
 st1 (.int .i64 n50) ⟨b52, 2, none⟩ w55 fun w56 =>
 st1 (.bool b51) ⟨b52, 3, none⟩ w56 fun w57 =>
 ldP ⟨b42, 0, none⟩ w57 fun p58 =>
 CV P F.lpi_Lpis_On [.pointer p58] w57 fun v59 w60 =>
 ∃ b61 : Bool, v59 = .bool b61 ∧
 cnd (!b61)
 (ldB ⟨b52, 3, none⟩ w60 fun b62 =>
 st1 (.bool (!b62)) ⟨b9, 0, none⟩ w60 fun w63 =>
 ldB ⟨b9, 0, none⟩ w63 fun b64 =>
 Q (.bool b64) w63)
 (alc [.int .i64 0] T.t3 w60 fun b65 w66 =>
 st1 (.int .i64 0) ⟨b65, 0, none⟩ w66 fun w67 =>
 ldP ⟨b42, 0, none⟩ w67 fun p68 =>
 ldP ⟨b26, 0, none⟩ w67 fun p69 =>
 CV P F.lpi_Lpis_Waiting [.pointer p68, .pointer p69] w67 fun v70 w71 =>
 ∃ v72 : Value, v70 = v72 ∧
 RF P none 1 (v72) w71 (fun l73 r74 vs75 w76 Q77 => crierlaw15_LpiBest_r2 b9 b42 b52 b65 l73 r74 vs75 w76 Q77) fun mk105 jp106 w107 =>
 jmpX jp106
 (ldP ⟨b42, 0, none⟩ w107 fun p108 =>
 ldI .i64 ⟨b52, 0, none⟩ w107 fun n109 =>
 CV P F.lpi_Lpis_Setup [.pointer p108, .int .i64 n109] w107 fun v110 w111 =>
 ∃ b112 : Bool, ∃ n113 : Int, v110 = .tuple [.bool b112, .int .i64 n113].toArray ∧
 JoinT (fun (J117 : crierlaw15_LpiBest_J4095.S → World → Prop) =>
  ldB ⟨b52, 3, none⟩ w111 fun b118 =>
  ldI .i64 ⟨b65, 0, none⟩ w111 fun n119 =>
  cnd (b118 == (decide (n119 > 0)))
  (ldB ⟨b52, 3, none⟩ w111 fun b120 =>
  cnd (!b120)
  (st1 (.bool true) ⟨b9, 0, none⟩ w111 fun w121 =>
  J117 () w121)
  (cnd b112
  (ldI .i64 ⟨b52, 1, none⟩ w111 fun n122 =>
  cnd (n113 == n122)
  (ldI .i64 ⟨b52, 2, none⟩ w111 fun n123 =>
  cnd (n123 == 1)
  (ldP ⟨b42, 0, none⟩ w111 fun p124 =>
  ldP ⟨b26, 0, none⟩ w111 fun p125 =>
  ldI .i64 ⟨b52, 0, none⟩ w111 fun n126 =>
  CV P F.lpi_Lpis_Has [.pointer p124, .pointer p125, .int .i64 n126] w111 fun v127 w128 =>
  ∃ b129 : Bool, v127 = .bool b129 ∧
  st1 (.bool b129) ⟨b9, 0, none⟩ w128 fun w130 =>
  J117 () w130)
  (st1 (.bool false) ⟨b9, 0, none⟩ w111 fun w131 =>
  J117 () w131))
  (st1 (.bool false) ⟨b9, 0, none⟩ w111 fun w132 =>
  J117 () w132))
  (st1 (.bool false) ⟨b9, 0, none⟩ w111 fun w133 =>
  J117 () w133)))
  (st1 (.bool false) ⟨b9, 0, none⟩ w111 fun w134 =>
  J117 () w134))
  fun (s135 : crierlaw15_LpiBest_J4095.S) w136 => crierlaw15_LpiBest_j3 Q b9 mk105 w136)
 (takeX (mk105 ++ []) w107 fun w137 =>
 ldB ⟨b9, 0, none⟩ w137 fun b138 =>
 Q (.bool b138) w137)
 fun id139 => False))

def crierlaw15_LpiBest (a0 : Int) (a1 : Int) (a2 : Option Addr) (a2_n : Nat) (a2_c : Nat) (a3 : Option Addr) (a3_n : Nat) (a3_c : Nat) (w : World) (Q : Value → World → Prop) : Prop :=
 alc [.bool false] T.t4 w fun b9 w10 =>
 CV P F.crierlaw15_awake [] w10 fun v11 w12 =>
 ∃ b13 : Bool, v11 = .bool b13 ∧
 cnd (!b13)
 (st1 (.bool false) ⟨b9, 0, none⟩ w12 fun w14 =>
 ldB ⟨b9, 0, none⟩ w14 fun b15 =>
 Q (.bool b15) w14)
 (CV P F.crierlaw15_played [.int .u8 a0, .int .u8 a1, .slice a2 a2_n a2_c, .slice a3 a3_n a3_c] w12 fun v16 w17 =>
 ∃ p18 : Option Addr, ∃ p19 : Option Addr, ∃ p20 : Option Addr, ∃ p21 : Option Addr, ∃ p22 : Option Addr, ∃ p23 : Option Addr, ∃ b24 : Bool, ∃ b25 : Bool, v16 = .tuple [.agg [.pointer p18, .pointer p19, .pointer p20, .pointer p21, .pointer p22, .pointer p23, .bool b24].toArray, .bool b25].toArray ∧
 alc [.pointer none, .pointer none, .pointer none, .pointer none, .pointer none, .pointer none, .bool false] T.t51 w17 fun b26 w27 =>
 st1 (.pointer p18) ⟨b26, 0, none⟩ w27 fun w28 =>
 st1 (.pointer p19) ⟨b26, 1, none⟩ w28 fun w29 =>
 st1 (.pointer p20) ⟨b26, 2, none⟩ w29 fun w30 =>
 st1 (.pointer p21) ⟨b26, 3, none⟩ w30 fun w31 =>
 st1 (.pointer p22) ⟨b26, 4, none⟩ w31 fun w32 =>
 st1 (.pointer p23) ⟨b26, 5, none⟩ w32 fun w33 =>
 st1 (.bool b24) ⟨b26, 6, none⟩ w33 fun w34 =>
 JoinT (fun (J140 : crierlaw15_LpiBest_J62.S → World → Prop) =>
  cnd (!b13)
  (J140 ((true : Bool)) w34)
  (J140 (((!b25) : Bool)) w34))
  fun (s141 : crierlaw15_LpiBest_J62.S) w142 => crierlaw15_LpiBest_j4 Q b9 b26 s141 w142)
def crierlaw15_LpiBest_ann : Nat → Option LoopSpec := fun
  | 62 => some crierlaw15_LpiBest_J62
  | 16373 => some crierlaw15_LpiBest_J16373
  | 261975 => some crierlaw15_LpiBest_J261975
  | 4095 => some crierlaw15_LpiBest_J4095
  | _ => none
theorem crierlaw15_LpiBest_eq (a0 : Int) (a1 : Int) (a2 : Option Addr) (a2_n : Nat) (a2_c : Nat) (a3 : Option Addr) (a3_n : Nat) (a3_c : Nat) (w : World) (Q : Value → World → Prop) : fnX P crierlaw15_LpiBest_ann Tryd.f5 [.int .u8 a0, .int .u8 a1, .slice a2 a2_n a2_c, .slice a3 a3_n a3_c] w Q = crierlaw15_LpiBest a0 a1 a2 a2_n a2_c a3 a3_n a3_c w Q := by kernel_rfl
theorem crierlaw15_LpiBest_cv {a0 : Int} {a1 : Int} {a2 : Option Addr} {a2_n : Nat} {a2_c : Nat} {a3 : Option Addr} {a3_n : Nat} {a3_c : Nat} {w : World} {Q : Value → World → Prop} (h : crierlaw15_LpiBest a0 a1 a2 a2_n a2_c a3 a3_n a3_c w Q) : CV P F.crierlaw15_LpiBest [.int .u8 a0, .int .u8 a1, .slice a2 a2_n a2_c, .slice a3 a3_n a3_c] w Q := CV_of mixed Tryd.func5 (crierlaw15_LpiBest_eq a0 a1 a2 a2_n a2_c a3 a3_n a3_c w Q ▸ h)

/- 6 crier/crierlaw15.LpiKnown -/
def crierlaw15_LpiKnown_J62 : LoopSpec where
  S := Bool
  emb := fun s => [(42, .bool s)]
  ext := fun t => match getL t 42 with
    | some (.bool y33) => some (y33)
    | _ => none
  slots := [42]
  fits := fun _ => rfl
  ok := by
    intro t s h x hx
    (try dsimp only at h hx)
    split at h
    · cases h
      simp only [List.mem_cons, List.not_mem_nil, or_false] at hx
      rcases hx with rfl <;> assumption
    · cases h

def crierlaw15_LpiKnown_J8191 : LoopSpec where
  S := Bool
  emb := fun s => [(12, .bool s)]
  ext := fun t => match getL t 12 with
    | some (.bool y61) => some (y61)
    | _ => none
  slots := [12]
  fits := fun _ => rfl
  ok := by
    intro t s h x hx
    (try dsimp only at h hx)
    split at h
    · cases h
      simp only [List.mem_cons, List.not_mem_nil, or_false] at hx
      rcases hx with rfl <;> assumption
    · cases h

def crierlaw15_LpiKnown_j0 (Q : Value → World → Prop) (b62 : Bool) (w63 : World) : Prop :=
 Q (.bool b62) w63

def crierlaw15_LpiKnown_j1 (a4 : Int) (a5 : Int) (Q : Value → World → Prop) (b24 : Nat) (b34 : Bool) (w35 : World) : Prop :=
 cnd b34
 (Q (.bool false) w35)
 (ix 0 2 fun j36 =>
 ldP (Addr.add ⟨b24, 2, none⟩ (j36 * 1)) w35 fun p37 =>
 CV P F.lpi_Lpis_Many [.pointer p37] w35 fun v38 w39 =>
 ∃ n40 : Int, v38 = .int .i64 n40 ∧
 (nz (if n40 > 1 then n40 else 1) <|
 CV P F.lpi_Lpis_Setup [.pointer p37, .int .i64 (IntKind.i64.wrap (8192 + (Int.tmod (IntKind.i64.wrap (a4)) (if n40 > 1 then n40 else 1))))] w39 fun v41 w42 =>
 ∃ b43 : Bool, ∃ n44 : Int, v41 = .tuple [.bool b43, .int .i64 n44].toArray ∧
 ldP ⟨b24, 0, none⟩ w42 fun p45 =>
 CV P F.mem_Mem_Write [.pointer p45, .agg [.int .i64 0, .int .i64 200].toArray, .int .i64 (IntKind.i64.wrap ((IntKind.i64.wrap (8192 + (Int.tmod (IntKind.i64.wrap (a4)) (if n40 > 1 then n40 else 1)))) - 8192)), .int .i64 1, .int .u64 (IntKind.u64.wrap (a5))] w42 fun v46 w47 =>
 ∃ n48 : Int, v46 = .int .i64 n48 ∧
 CV P F.lpi_Lpis_Setup [.pointer p37, .int .i64 (IntKind.i64.wrap (8192 + (Int.tmod (IntKind.i64.wrap (a4)) (if n40 > 1 then n40 else 1))))] w47 fun v49 w50 =>
 ∃ b51 : Bool, ∃ n52 : Int, v49 = .tuple [.bool b51, .int .i64 n52].toArray ∧
 ldP ⟨b24, 0, none⟩ w50 fun p53 =>
 CV P F.lpi_Lpis_Inv [.pointer p37, .pointer p53, .int .i64 (IntKind.i64.wrap (8192 + (Int.tmod (IntKind.i64.wrap (a4)) (if n40 > 1 then n40 else 1))))] w50 fun v54 w55 =>
 ∃ n56 : Int, v54 = .int .i64 n56 ∧
 CV P F.lpi_Lpis_Setup [.pointer p37, .int .i64 (IntKind.i64.wrap (8192 + (Int.tmod (IntKind.i64.wrap (a4)) (if n40 > 1 then n40 else 1))))] w55 fun v57 w58 =>
 ∃ b59 : Bool, ∃ n60 : Int, v57 = .tuple [.bool b59, .int .i64 n60].toArray ∧
 JoinT (fun (J64 : crierlaw15_LpiKnown_J8191.S → World → Prop) =>
  cnd (n48 == 0)
  (cnd (b43 == b51)
  (cnd (n44 == n52)
  (cnd (n56 == 0)
  ((nz 2 <|
  cnd (b59 == ((Int.tmod a5 2) == 1))
  ((nz 8 <|
  J64 (((n60 == (IntKind.i64.wrap ((IntKind.i64.wrap (Int.tdiv (IntKind.i64.wrap (a5)) 8)) * 8))) : Bool)) w58))
  (J64 ((false : Bool)) w58)))
  (J64 ((false : Bool)) w58))
  (J64 ((false : Bool)) w58))
  (J64 ((false : Bool)) w58))
  (J64 ((false : Bool)) w58))
  fun (s65 : crierlaw15_LpiKnown_J8191.S) w66 => crierlaw15_LpiKnown_j0 Q s65 w66))

def crierlaw15_LpiKnown (a0 : Int) (a1 : Int) (a2 : Option Addr) (a2_n : Nat) (a2_c : Nat) (a3 : Option Addr) (a3_n : Nat) (a3_c : Nat) (a4 : Int) (a5 : Int) (w : World) (Q : Value → World → Prop) : Prop :=
 CV P F.crierlaw15_awake [] w fun v11 w12 =>
 ∃ b13 : Bool, v11 = .bool b13 ∧
 cnd (!b13)
 (Q (.bool false) w12)
 (CV P F.crierlaw15_played [.int .u8 a0, .int .u8 a1, .slice a2 a2_n a2_c, .slice a3 a3_n a3_c] w12 fun v14 w15 =>
 ∃ p16 : Option Addr, ∃ p17 : Option Addr, ∃ p18 : Option Addr, ∃ p19 : Option Addr, ∃ p20 : Option Addr, ∃ p21 : Option Addr, ∃ b22 : Bool, ∃ b23 : Bool, v14 = .tuple [.agg [.pointer p16, .pointer p17, .pointer p18, .pointer p19, .pointer p20, .pointer p21, .bool b22].toArray, .bool b23].toArray ∧
 alc [.pointer none, .pointer none, .pointer none, .pointer none, .pointer none, .pointer none, .bool false] T.t51 w15 fun b24 w25 =>
 st1 (.pointer p16) ⟨b24, 0, none⟩ w25 fun w26 =>
 st1 (.pointer p17) ⟨b24, 1, none⟩ w26 fun w27 =>
 st1 (.pointer p18) ⟨b24, 2, none⟩ w27 fun w28 =>
 st1 (.pointer p19) ⟨b24, 3, none⟩ w28 fun w29 =>
 st1 (.pointer p20) ⟨b24, 4, none⟩ w29 fun w30 =>
 st1 (.pointer p21) ⟨b24, 5, none⟩ w30 fun w31 =>
 st1 (.bool b22) ⟨b24, 6, none⟩ w31 fun w32 =>
 JoinT (fun (J67 : crierlaw15_LpiKnown_J62.S → World → Prop) =>
  cnd (!b13)
  (J67 ((true : Bool)) w32)
  (J67 (((!b23) : Bool)) w32))
  fun (s68 : crierlaw15_LpiKnown_J62.S) w69 => crierlaw15_LpiKnown_j1 a4 a5 Q b24 s68 w69)
def crierlaw15_LpiKnown_ann : Nat → Option LoopSpec := fun
  | 62 => some crierlaw15_LpiKnown_J62
  | 8191 => some crierlaw15_LpiKnown_J8191
  | _ => none
theorem crierlaw15_LpiKnown_eq (a0 : Int) (a1 : Int) (a2 : Option Addr) (a2_n : Nat) (a2_c : Nat) (a3 : Option Addr) (a3_n : Nat) (a3_c : Nat) (a4 : Int) (a5 : Int) (w : World) (Q : Value → World → Prop) : fnX P crierlaw15_LpiKnown_ann Tryd.f6 [.int .u8 a0, .int .u8 a1, .slice a2 a2_n a2_c, .slice a3 a3_n a3_c, .int .u8 a4, .int .u8 a5] w Q = crierlaw15_LpiKnown a0 a1 a2 a2_n a2_c a3 a3_n a3_c a4 a5 w Q := by kernel_rfl
theorem crierlaw15_LpiKnown_cv {a0 : Int} {a1 : Int} {a2 : Option Addr} {a2_n : Nat} {a2_c : Nat} {a3 : Option Addr} {a3_n : Nat} {a3_c : Nat} {a4 : Int} {a5 : Int} {w : World} {Q : Value → World → Prop} (h : crierlaw15_LpiKnown a0 a1 a2 a2_n a2_c a3 a3_n a3_c a4 a5 w Q) : CV P F.crierlaw15_LpiKnown [.int .u8 a0, .int .u8 a1, .slice a2 a2_n a2_c, .slice a3 a3_n a3_c, .int .u8 a4, .int .u8 a5] w Q := CV_of mixed Tryd.func6 (crierlaw15_LpiKnown_eq a0 a1 a2 a2_n a2_c a3 a3_n a3_c a4 a5 w Q ▸ h)

/- 7 crier/crierlaw15.LpiDoes -/
def crierlaw15_LpiDoes_J62 : LoopSpec where
  S := Bool
  emb := fun s => [(32, .bool s)]
  ext := fun t => match getL t 32 with
    | some (.bool y30) => some (y30)
    | _ => none
  slots := [32]
  fits := fun _ => rfl
  ok := by
    intro t s h x hx
    (try dsimp only at h hx)
    split at h
    · cases h
      simp only [List.mem_cons, List.not_mem_nil, or_false] at hx
      rcases hx with rfl <;> assumption
    · cases h

def crierlaw15_LpiDoes_L506 : LoopSpec where
  S := Int
  emb := fun s => [(11, .int .i64 s)]
  ext := fun t => match getL t 11 with
    | some (.int .i64 y33) => some (y33)
    | _ => none
  slots := [11]
  fits := fun _ => rfl
  ok := by
    intro t s h x hx
    (try dsimp only at h hx)
    split at h
    · cases h
      simp only [List.mem_cons, List.not_mem_nil, or_false] at hx
      rcases hx with rfl <;> assumption
    · cases h

def crierlaw15_LpiDoes_J16201 : LoopSpec where
  S := Unit
  emb := fun _ => []
  ext := fun _ => some ()
  slots := []
  fits := fun _ => rfl
  ok := by
    intro t s h x hx; cases hx

def crierlaw15_LpiDoes_J32403 : LoopSpec where
  S := Bool
  emb := fun s => [(109, .bool s)]
  ext := fun t => match getL t 109 with
    | some (.bool y52) => some (y52)
    | _ => none
  slots := [109]
  fits := fun _ => rfl
  ok := by
    intro t s h x hx
    (try dsimp only at h hx)
    split at h
    · cases h
      simp only [List.mem_cons, List.not_mem_nil, or_false] at hx
      rcases hx with rfl <;> assumption
    · cases h

def crierlaw15_LpiDoes_j0 (Q : Value → World → Prop) (n34 : Int) (A36 : crierlaw15_LpiDoes_L506.S → World → Prop) (b53 : Bool) (w54 : World) : Prop :=
 cnd b53
 (Q (.bool false) w54)
 (A36 (((IntKind.i64.wrap (n34 + 1)) : Int)) w54)

def crierlaw15_LpiDoes_j1 (Q : Value → World → Prop) (b21 : Nat) (n34 : Int) (A36 : crierlaw15_LpiDoes_L506.S → World → Prop) (b44 : Nat) (w51 : World) : Prop :=
 JoinT (fun (J55 : crierlaw15_LpiDoes_J32403.S → World → Prop) =>
  drw w51 fun w56 =>
  ldI .i64 ⟨b44, 0, none⟩ w56 fun n57 =>
  ldI .i64 ⟨b44, 1, none⟩ w56 fun n58 =>
  ldB ⟨b44, 2, none⟩ w56 fun b59 =>
  ldB ⟨b44, 3, none⟩ w56 fun b60 =>
  ldI .u8 ⟨b44, 4, none⟩ w56 fun n61 =>
  CV P F.crierlaw15_does [.pointer (some ⟨b21, 0, none⟩), .agg [.int .i64 n57, .int .i64 n58, .bool b59, .bool b60, .int .u8 n61].toArray] w56 fun v62 w63 =>
  ∃ b64 : Bool, v62 = .bool b64 ∧
  cnd (!b64)
  (J55 ((true : Bool)) w63)
  (CV P F.crierlaw15_alike [.pointer (some ⟨b21, 0, none⟩)] w63 fun v65 w66 =>
  ∃ b67 : Bool, v65 = .bool b67 ∧
  cnd (!b67)
  (J55 ((true : Bool)) w66)
  (ix 0 2 fun j68 =>
  ldP (Addr.add ⟨b21, 2, none⟩ (j68 * 1)) w66 fun p69 =>
  ldP ⟨b21, 0, none⟩ w66 fun p70 =>
  ldI .i64 ⟨b44, 1, none⟩ w66 fun n71 =>
  ix 0 2 fun j72 =>
  ldP (Addr.add ⟨b21, 4, none⟩ (j72 * 1)) w66 fun p73 =>
  ldP ⟨b21, 1, none⟩ w66 fun p74 =>
  ldI .i64 ⟨b44, 1, none⟩ w66 fun n75 =>
  CV P F.lpi_Lpis_Has [.pointer p69, .pointer p70, .int .i64 n71] w66 fun v76 w77 =>
  ∃ b78 : Bool, v76 = .bool b78 ∧
  (ldI .i64 ⟨b44, 1, none⟩ w77 fun n79 =>
  ((.int .i64 n79 : Value) = .int .i64 n75)) ∧
  (ldP ⟨b21, 1, none⟩ w77 fun p80 =>
  ((.pointer p80 : Value) = .pointer p74)) ∧
  (ldP (Addr.add ⟨b21, 4, none⟩ (j72 * 1)) w77 fun p81 =>
  ((.pointer p81 : Value) = .pointer p73)) ∧
  CV P F.crierref15_Lpis_Has [.pointer p73, .pointer p74, .int .i64 n75] w77 fun v82 w83 =>
  ∃ b84 : Bool, v82 = .bool b84 ∧
  J55 (((!(b78 == b84)) : Bool)) w83)))
  fun (s85 : crierlaw15_LpiDoes_J32403.S) w86 => crierlaw15_LpiDoes_j0 Q n34 A36 s85 w86

def crierlaw15_LpiDoes_J518442 : LoopSpec where
  S := Bool
  emb := fun s => [(58, .bool s)]
  ext := fun t => match getL t 58 with
    | some (.bool y100) => some (y100)
    | _ => none
  slots := [58]
  fits := fun _ => rfl
  ok := by
    intro t s h x hx
    (try dsimp only at h hx)
    split at h
    · cases h
      simp only [List.mem_cons, List.not_mem_nil, or_false] at hx
      rcases hx with rfl <;> assumption
    · cases h

def crierlaw15_LpiDoes_j2 (Q : Value → World → Prop) (b21 : Nat) (b44 : Nat) (J87 : crierlaw15_LpiDoes_J16201.S → World → Prop) (p95 : Option Addr) (p99 : Option Addr) (b101 : Bool) (w102 : World) : Prop :=
 cnd b101
 (Q (.bool false) w102)
 (ix 0 2 fun j103 =>
 ldP (Addr.add ⟨b21, 2, none⟩ (j103 * 1)) w102 fun p104 =>
 ldP ⟨b21, 0, none⟩ w102 fun p105 =>
 ldB ⟨b44, 2, none⟩ w102 fun b106 =>
 CV P F.lpi_Lpis_Set [.pointer p104, .pointer p105, .int .i64 8192, .bool b106] w102 fun v107 w108 =>
 ∃ b109 : Bool, ∃ n110 : Int, v107 = .tuple [.bool b109, .int .i64 n110].toArray ∧
 ix 0 2 fun j111 =>
 ldP (Addr.add ⟨b21, 2, none⟩ (j111 * 1)) w108 fun p112 =>
 ldP ⟨b21, 0, none⟩ w108 fun p113 =>
 CV P F.lpi_Lpis_Disable [.pointer p112, .pointer p113] w108 fun v114 w115 =>
 v114 = .tuple [].toArray ∧
 ix 0 2 fun j116 =>
 ldP (Addr.add ⟨b21, 2, none⟩ (j116 * 1)) w115 fun p117 =>
 ldP ⟨b21, 0, none⟩ w115 fun p118 =>
 CV P F.lpi_Lpis_InvAll [.pointer p117, .pointer p118] w115 fun v119 w120 =>
 v119 = .tuple [].toArray ∧
 ix 0 2 fun j121 =>
 st1 (.pointer p95) (Addr.add ⟨b21, 2, none⟩ (j121 * 1)) w120 fun w122 =>
 st1 (.pointer p99) ⟨b21, 0, none⟩ w122 fun w123 =>
 J87 () w123)

def crierlaw15_LpiDoes_l3 (a3 : Option Addr) (a3_n : Nat) (Q : Value → World → Prop) (b21 : Nat) (n34 : Int) (w35 : World) (A36 : crierlaw15_LpiDoes_L506.S → World → Prop) : Prop :=
 cnd (decide (n34 < ((a3_n : Nat) : Int)))
 (ix n34 a3_n fun j37 => nn a3 fun a38 =>
 ldI .i64 (a38.add (j37 * 5)) w35 fun n39 =>
 ldI .i64 ((a38.add (j37 * 5)).add 1) w35 fun n40 =>
 ldB ((a38.add (j37 * 5)).add 2) w35 fun b41 =>
 ldB ((a38.add (j37 * 5)).add 3) w35 fun b42 =>
 ldI .u8 ((a38.add (j37 * 5)).add 4) w35 fun n43 =>
 alc [.int .i64 0, .int .i64 0, .bool false, .bool false, .int .u8 0] T.t70 w35 fun b44 w45 =>
 st1 (.int .i64 n39) ⟨b44, 0, none⟩ w45 fun w46 =>
 st1 (.int .i64 n40) ⟨b44, 1, none⟩ w46 fun w47 =>
 st1 (.bool b41) ⟨b44, 2, none⟩ w47 fun w48 =>
 st1 (.bool b42) ⟨b44, 3, none⟩ w48 fun w49 =>
 st1 (.int .u8 n43) ⟨b44, 4, none⟩ w49 fun w50 =>
 JoinT (fun (J87 : crierlaw15_LpiDoes_J16201.S → World → Prop) =>
  ldI .i64 ⟨b44, 0, none⟩ w50 fun n88 =>
  cnd (n88 == 9)
  (drw w50 fun w89 =>
  ix 0 2 fun j90 =>
  ldP (Addr.add ⟨b21, 2, none⟩ (j90 * 1)) w89 fun p91 =>
  ldP ⟨b21, 0, none⟩ w89 fun p92 =>
  CV P F.lpi_Lpis_Copy [.pointer p91] w89 fun v93 w94 =>
  ∃ p95 : Option Addr, v93 = .pointer p95 ∧
  (ldP ⟨b21, 0, none⟩ w94 fun p96 =>
  ((.pointer p96 : Value) = .pointer p92)) ∧
  CV P F.mem_Mem_Copy [.pointer p92] w94 fun v97 w98 =>
  ∃ p99 : Option Addr, v97 = .pointer p99 ∧
  JoinT (fun (J124 : crierlaw15_LpiDoes_J518442.S → World → Prop) =>
   cnd (Option.isNone p95)
   (J124 ((true : Bool)) w98)
   (J124 (((Option.isNone p99) : Bool)) w98))
   fun (s125 : crierlaw15_LpiDoes_J518442.S) w126 => crierlaw15_LpiDoes_j2 Q b21 b44 J87 p95 p99 s125 w126)
  (J87 () w50))
  fun (s127 : crierlaw15_LpiDoes_J16201.S) w128 => crierlaw15_LpiDoes_j1 Q b21 n34 A36 b44 w128)
 (Q (.bool true) w35)

def crierlaw15_LpiDoes_j4 (a3 : Option Addr) (a3_n : Nat) (Q : Value → World → Prop) (b21 : Nat) (b31 : Bool) (w32 : World) : Prop :=
 cnd b31
 (Q (.bool false) w32)
 (LoopT (fun (s129 : crierlaw15_LpiDoes_L506.S) w130 A131 => crierlaw15_LpiDoes_l3 a3 a3_n Q b21 s129 w130 A131) ((0 : Int)) w32)

def crierlaw15_LpiDoes (a0 : Int) (a1 : Int) (a2 : Option Addr) (a2_n : Nat) (a2_c : Nat) (a3 : Option Addr) (a3_n : Nat) (a3_c : Nat) (w : World) (Q : Value → World → Prop) : Prop :=
 CV P F.crierlaw15_awake [] w fun v9 w10 =>
 ∃ b11 : Bool, v9 = .bool b11 ∧
 cnd (!b11)
 (Q (.bool false) w10)
 (CV P F.crierlaw15_begun [.int .u8 a0, .int .u8 a1, .slice a2 a2_n a2_c] w10 fun v12 w13 =>
 ∃ p14 : Option Addr, ∃ p15 : Option Addr, ∃ p16 : Option Addr, ∃ p17 : Option Addr, ∃ p18 : Option Addr, ∃ p19 : Option Addr, ∃ b20 : Bool, v12 = .agg [.pointer p14, .pointer p15, .pointer p16, .pointer p17, .pointer p18, .pointer p19, .bool b20].toArray ∧
 alc [.pointer none, .pointer none, .pointer none, .pointer none, .pointer none, .pointer none, .bool false] T.t51 w13 fun b21 w22 =>
 st1 (.pointer p14) ⟨b21, 0, none⟩ w22 fun w23 =>
 st1 (.pointer p15) ⟨b21, 1, none⟩ w23 fun w24 =>
 st1 (.pointer p16) ⟨b21, 2, none⟩ w24 fun w25 =>
 st1 (.pointer p17) ⟨b21, 3, none⟩ w25 fun w26 =>
 st1 (.pointer p18) ⟨b21, 4, none⟩ w26 fun w27 =>
 st1 (.pointer p19) ⟨b21, 5, none⟩ w27 fun w28 =>
 st1 (.bool b20) ⟨b21, 6, none⟩ w28 fun w29 =>
 JoinT (fun (J132 : crierlaw15_LpiDoes_J62.S → World → Prop) =>
  cnd (!b11)
  (J132 ((true : Bool)) w29)
  (ldB ⟨b21, 6, none⟩ w29 fun b133 =>
  cnd (!b133)
  (J132 ((true : Bool)) w29)
  (CV P F.crierlaw15_alike [.pointer (some ⟨b21, 0, none⟩)] w29 fun v134 w135 =>
  ∃ b136 : Bool, v134 = .bool b136 ∧
  J132 (((!b136) : Bool)) w135)))
  fun (s137 : crierlaw15_LpiDoes_J62.S) w138 => crierlaw15_LpiDoes_j4 a3 a3_n Q b21 s137 w138)
def crierlaw15_LpiDoes_ann : Nat → Option LoopSpec := fun
  | 62 => some crierlaw15_LpiDoes_J62
  | 506 => some crierlaw15_LpiDoes_L506
  | 16201 => some crierlaw15_LpiDoes_J16201
  | 32403 => some crierlaw15_LpiDoes_J32403
  | 64806 => some (ordSpec [0, 1, 2, 3, 4, 5, 6, 7, 8, 9, 10, 11, 12, 13, 14, 16, 17, 18, 19, 20, 21, 22, 15, 23, 24, 25])
  | 259220 => some (ordSpec [0, 1, 2, 4, 5, 3, 6, 7, 8])
  | 518442 => some crierlaw15_LpiDoes_J518442
  | _ => none
theorem crierlaw15_LpiDoes_eq (a0 : Int) (a1 : Int) (a2 : Option Addr) (a2_n : Nat) (a2_c : Nat) (a3 : Option Addr) (a3_n : Nat) (a3_c : Nat) (w : World) (Q : Value → World → Prop) : fnX P crierlaw15_LpiDoes_ann Tryd.f7 [.int .u8 a0, .int .u8 a1, .slice a2 a2_n a2_c, .slice a3 a3_n a3_c] w Q = crierlaw15_LpiDoes a0 a1 a2 a2_n a2_c a3 a3_n a3_c w Q := by kernel_rfl
theorem crierlaw15_LpiDoes_cv {a0 : Int} {a1 : Int} {a2 : Option Addr} {a2_n : Nat} {a2_c : Nat} {a3 : Option Addr} {a3_n : Nat} {a3_c : Nat} {w : World} {Q : Value → World → Prop} (h : crierlaw15_LpiDoes a0 a1 a2 a2_n a2_c a3 a3_n a3_c w Q) : CV P F.crierlaw15_LpiDoes [.int .u8 a0, .int .u8 a1, .slice a2 a2_n a2_c, .slice a3 a3_n a3_c] w Q := CV_of mixed Tryd.func7 (crierlaw15_LpiDoes_eq a0 a1 a2 a2_n a2_c a3 a3_n a3_c w Q ▸ h)

/- 8 crier/crierlaw15.awake -/
def crierlaw15_awake_J510 : LoopSpec where
  S := Bool
  emb := fun s => [(39, .bool s)]
  ext := fun t => match getL t 39 with
    | some (.bool y23) => some (y23)
    | _ => none
  slots := [39]
  fits := fun _ => rfl
  ok := by
    intro t s h x hx
    (try dsimp only at h hx)
    split at h
    · cases h
      simp only [List.mem_cons, List.not_mem_nil, or_false] at hx
      rcases hx with rfl <;> assumption
    · cases h

def crierlaw15_awake_J131071 : LoopSpec where
  S := Bool
  emb := fun s => [(0, .bool s)]
  ext := fun t => match getL t 0 with
    | some (.bool y74) => some (y74)
    | _ => none
  slots := [0]
  fits := fun _ => rfl
  ok := by
    intro t s h x hx
    (try dsimp only at h hx)
    split at h
    · cases h
      simp only [List.mem_cons, List.not_mem_nil, or_false] at hx
      rcases hx with rfl <;> assumption
    · cases h

def crierlaw15_awake_j0 (Q : Value → World → Prop) (b75 : Bool) (w76 : World) : Prop :=
 Q (.bool b75) w76

def crierlaw15_awake_j1 (Q : Value → World → Prop) (p3 : Option Addr) (b5 : Nat) (p21 : Option Addr) (b24 : Bool) (w25 : World) : Prop :=
 cnd b24
 (Q (.bool false) w25)
 (CV P F.lpi_Lpis_Enable [.pointer p21, .pointer p3] w25 fun v26 w27 =>
 v26 = .tuple [].toArray ∧
 CV P F.lpi_Lpis_Best [.pointer p21] w27 fun v28 w29 =>
 ∃ n30 : Int, ∃ n31 : Int, ∃ n32 : Int, ∃ b33 : Bool, v28 = .agg [.int .i64 n30, .int .i64 n31, .int .i64 n32, .bool b33].toArray ∧
 alc [.int .i64 0, .int .i64 0, .int .i64 0, .bool false] T.t43 w29 fun b34 w35 =>
 st1 (.int .i64 n30) ⟨b34, 0, none⟩ w35 fun w36 =>
 st1 (.int .i64 n31) ⟨b34, 1, none⟩ w36 fun w37 =>
 st1 (.int .i64 n32) ⟨b34, 2, none⟩ w37 fun w38 =>
 st1 (.bool b33) ⟨b34, 3, none⟩ w38 fun w39 =>
 ldI .i64 ⟨b5, 0, none⟩ w39 fun n40 =>
 ldI .i64 ⟨b5, 1, none⟩ w39 fun n41 =>
 CV P F.mem_Mem_Read [.pointer p3, .agg [.int .i64 n40, .int .i64 n41].toArray, .int .i64 16, .int .i64 1] w39 fun v42 w43 =>
 ∃ n44 : Int, ∃ n45 : Int, v42 = .tuple [.int .u64 n44, .int .i64 n45].toArray ∧
 CV P F.lpi_Lpis_Set [.pointer p21, .pointer p3, .int .i64 8195, .bool false] w43 fun v46 w47 =>
 ∃ b48 : Bool, ∃ n49 : Int, v46 = .tuple [.bool b48, .int .i64 n49].toArray ∧
 CV P F.lpi_Lpis_Best [.pointer p21] w47 fun v50 w51 =>
 ∃ n52 : Int, ∃ n53 : Int, ∃ n54 : Int, ∃ b55 : Bool, v50 = .agg [.int .i64 n52, .int .i64 n53, .int .i64 n54, .bool b55].toArray ∧
 alc [.int .i64 0, .int .i64 0, .int .i64 0, .bool false] T.t43 w51 fun b56 w57 =>
 st1 (.int .i64 n52) ⟨b56, 0, none⟩ w57 fun w58 =>
 st1 (.int .i64 n53) ⟨b56, 1, none⟩ w58 fun w59 =>
 st1 (.int .i64 n54) ⟨b56, 2, none⟩ w59 fun w60 =>
 st1 (.bool b55) ⟨b56, 3, none⟩ w60 fun w61 =>
 CV P F.lpi_Lpis_Set [.pointer p21, .pointer p3, .int .i64 8200, .bool true] w61 fun v62 w63 =>
 ∃ b64 : Bool, ∃ n65 : Int, v62 = .tuple [.bool b64, .int .i64 n65].toArray ∧
 CV P F.lpi_Lpis_Disable [.pointer p21, .pointer p3] w63 fun v66 w67 =>
 v66 = .tuple [].toArray ∧
 ldI .i64 ⟨b5, 0, none⟩ w67 fun n68 =>
 ldI .i64 ⟨b5, 1, none⟩ w67 fun n69 =>
 CV P F.mem_Mem_Read [.pointer p3, .agg [.int .i64 n68, .int .i64 n69].toArray, .int .i64 17, .int .i64 1] w67 fun v70 w71 =>
 ∃ n72 : Int, ∃ n73 : Int, v70 = .tuple [.int .u64 n72, .int .i64 n73].toArray ∧
 JoinT (fun (J77 : crierlaw15_awake_J131071.S → World → Prop) =>
  ldI .i64 ⟨b34, 0, none⟩ w71 fun n78 =>
  ldI .i64 ⟨b34, 1, none⟩ w71 fun n79 =>
  ldI .i64 ⟨b34, 2, none⟩ w71 fun n80 =>
  ldB ⟨b34, 3, none⟩ w71 fun b81 =>
  eqA P .eql T.t43 (.agg [.int .i64 n78, .int .i64 n79, .int .i64 n80, .bool b81].toArray) (.agg [.int .i64 8195, .int .i64 160, .int .i64 1, .bool true].toArray) w71 fun b82 =>
  cnd b82
  (cnd (n44 == 0)
  (cnd b48
  (cnd (n49 == 0)
  (ldB ⟨b56, 3, none⟩ w71 fun b83 =>
  cnd (!b83)
  (J77 (((n72 == 1) : Bool)) w71)
  (J77 ((false : Bool)) w71))
  (J77 ((false : Bool)) w71))
  (J77 ((false : Bool)) w71))
  (J77 ((false : Bool)) w71))
  (J77 ((false : Bool)) w71))
  fun (s84 : crierlaw15_awake_J131071.S) w85 => crierlaw15_awake_j0 Q s84 w85)

def crierlaw15_awake (w : World) (Q : Value → World → Prop) : Prop :=
 CV P F.mem_New [.int .i64 32] w fun v1 w2 =>
 ∃ p3 : Option Addr, ∃ n4 : Int, v1 = .tuple [.pointer p3, .int .i64 n4].toArray ∧
 cnd (Option.isNone p3)
 (Q (.bool false) w2)
 (alc [.int .i64 0, .int .i64 0] T.t23 w2 fun b5 w6 =>
 st1 (.int .i64 0) ⟨b5, 0, none⟩ w6 fun w7 =>
 st1 (.int .i64 32) ⟨b5, 1, none⟩ w7 fun w8 =>
 ldI .i64 ⟨b5, 0, none⟩ w8 fun n9 =>
 ldI .i64 ⟨b5, 1, none⟩ w8 fun n10 =>
 CV P F.mem_Mem_Write [.pointer p3, .agg [.int .i64 n9, .int .i64 n10].toArray, .int .i64 3, .int .i64 1, .int .u64 161] w8 fun v11 w12 =>
 ∃ n13 : Int, v11 = .int .i64 n13 ∧
 ldI .i64 ⟨b5, 0, none⟩ w12 fun n14 =>
 ldI .i64 ⟨b5, 1, none⟩ w12 fun n15 =>
 CV P F.mem_Mem_Write [.pointer p3, .agg [.int .i64 n14, .int .i64 n15].toArray, .int .i64 16, .int .i64 1, .int .u64 8] w12 fun v16 w17 =>
 ∃ n18 : Int, v16 = .int .i64 n18 ∧
 CV P F.lpi_New [.pointer p3, .int .i64 16, .agg [.int .i64 0, .int .i64 16].toArray, .agg [.int .i64 16, .int .i64 2].toArray] w17 fun v19 w20 =>
 ∃ p21 : Option Addr, ∃ n22 : Int, v19 = .tuple [.pointer p21, .int .i64 n22].toArray ∧
 JoinT (fun (J86 : crierlaw15_awake_J510.S → World → Prop) =>
  cnd (Option.isNone p21)
  (J86 ((true : Bool)) w20)
  (J86 (((n22 != 0) : Bool)) w20))
  fun (s87 : crierlaw15_awake_J510.S) w88 => crierlaw15_awake_j1 Q p3 b5 p21 s87 w88)
def crierlaw15_awake_ann : Nat → Option LoopSpec := fun
  | 510 => some crierlaw15_awake_J510
  | 131071 => some crierlaw15_awake_J131071
  | _ => none
theorem crierlaw15_awake_eq (w : World) (Q : Value → World → Prop) : fnX P crierlaw15_awake_ann Tryd.f8 [] w Q = crierlaw15_awake w Q := by kernel_rfl
theorem crierlaw15_awake_cv {w : World} {Q : Value → World → Prop} (h : crierlaw15_awake w Q) : CV P F.crierlaw15_awake [] w Q := CV_of mixed Tryd.func8 (crierlaw15_awake_eq w Q ▸ h)

/- 9 crier/crierlaw04.New -/
def crierlaw04_New_J3 : LoopSpec where
  S := Int
  emb := fun s => [(0, .int .i64 s)]
  ext := fun t => match getL t 0 with
    | some (.int .i64 y2) => some (y2)
    | _ => none
  slots := [0]
  fits := fun _ => rfl
  ok := by
    intro t s h x hx
    (try dsimp only at h hx)
    split at h
    · cases h
      simp only [List.mem_cons, List.not_mem_nil, or_false] at hx
      rcases hx with rfl <;> assumption
    · cases h

def crierlaw04_New_j0 (Q : Value → World → Prop) (n3 : Int) (w4 : World) : Prop :=
 CV P F.mem_New [.int .i64 n3] w4 fun v5 w6 =>
 ∃ p7 : Option Addr, ∃ n8 : Int, v5 = .tuple [.pointer p7, .int .i64 n8].toArray ∧
 cnd (n8 != 0)
 (Q (.tuple [.pointer none, .pointer none].toArray) w6)
 (drw w6 fun w9 =>
 runS P (Instr.makeSlice T.t46 (.int .i64 n3) (.int .i64 n3)) w9 fun p10 l11 c12 w13 =>
 alc [.slice p10 l11 c12] T.t83 w13 fun b14 w15 =>
 Q (.tuple [.pointer p7, .pointer (some ⟨b14, 0, none⟩)].toArray) w15)

def crierlaw04_New_J6 : LoopSpec where
  S := Bool
  emb := fun s => [(11, .bool s)]
  ext := fun t => match getL t 11 with
    | some (.bool y17) => some (y17)
    | _ => none
  slots := [11]
  fits := fun _ => rfl
  ok := by
    intro t s h x hx
    (try dsimp only at h hx)
    split at h
    · cases h
      simp only [List.mem_cons, List.not_mem_nil, or_false] at hx
      rcases hx with rfl <;> assumption
    · cases h

def crierlaw04_New_j1 (a0 : Int) (J16 : crierlaw04_New_J3.S → World → Prop) (b18 : Bool) (w19 : World) : Prop :=
 cnd b18
 (J16 ((200 : Int)) w19)
 (J16 ((a0 : Int)) w19)

def crierlaw04_New (a0 : Int) (w : World) (Q : Value → World → Prop) : Prop :=
 JoinT (fun (J16 : crierlaw04_New_J3.S → World → Prop) =>
  JoinT (fun (J20 : crierlaw04_New_J6.S → World → Prop) =>
   cnd (decide (a0 < 0))
   (J20 ((true : Bool)) w)
   (J20 (((decide (a0 > 4096)) : Bool)) w))
   fun (s21 : crierlaw04_New_J6.S) w22 => crierlaw04_New_j1 a0 J16 s21 w22)
  fun (s23 : crierlaw04_New_J3.S) w24 => crierlaw04_New_j0 Q s23 w24
def crierlaw04_New_ann : Nat → Option LoopSpec := fun
  | 3 => some crierlaw04_New_J3
  | 62 => some (ordSpec [0, 1, 5, 2, 3, 4, 6])
  | 6 => some crierlaw04_New_J6
  | _ => none
theorem crierlaw04_New_eq (a0 : Int) (w : World) (Q : Value → World → Prop) : fnX P crierlaw04_New_ann Tryd.f9 [.int .i64 a0] w Q = crierlaw04_New a0 w Q := by kernel_rfl
theorem crierlaw04_New_cv {a0 : Int} {w : World} {Q : Value → World → Prop} (h : crierlaw04_New a0 w Q) : CV P F.crierlaw04_New [.int .i64 a0] w Q := CV_of mixed Tryd.func9 (crierlaw04_New_eq a0 w Q ▸ h)

/- 10 crier/lpi.New -/
def lpi_New_J6 : LoopSpec where
  S := Bool
  emb := fun s => [(15, .bool s)]
  ext := fun t => match getL t 15 with
    | some (.bool y11) => some (y11)
    | _ => none
  slots := [15]
  fits := fun _ => rfl
  ok := by
    intro t s h x hx
    (try dsimp only at h hx)
    split at h
    · cases h
      simp only [List.mem_cons, List.not_mem_nil, or_false] at hx
      rcases hx with rfl <;> assumption
    · cases h

def lpi_New_J14 : LoopSpec where
  S := Bool
  emb := fun s => [(39, .bool s)]
  ext := fun t => match getL t 39 with
    | some (.bool y14) => some (y14)
    | _ => none
  slots := [39]
  fits := fun _ => rfl
  ok := by
    intro t s h x hx
    (try dsimp only at h hx)
    split at h
    · cases h
      simp only [List.mem_cons, List.not_mem_nil, or_false] at hx
      rcases hx with rfl <;> assumption
    · cases h

def lpi_New_J15 : LoopSpec where
  S := Nat × Int
  emb := fun s => [(8, .pointer (some ⟨s.1, 0, none⟩)), (9, .int .i64 s.2)]
  ext := fun t => match getL t 8, getL t 9 with
    | some (.pointer (some ⟨y17, 0, none⟩)), some (.int .i64 y18) => some (y17, y18)
    | _, _ => none
  slots := [8, 9]
  fits := fun _ => rfl
  ok := by
    intro t s h x hx
    (try dsimp only at h hx)
    split at h
    · cases h
      simp only [List.mem_cons, List.not_mem_nil, or_false] at hx
      rcases hx with rfl | rfl <;> assumption
    · cases h

def lpi_New_j0 (Q : Value → World → Prop) (b19 : Nat) (n20 : Int) (w21 : World) : Prop :=
 Q (.tuple [.pointer (some ⟨b19, 0, none⟩), .int .i64 n20].toArray) w21

def lpi_New_j1 (a1 : Int) (Q : Value → World → Prop) (b7 : Nat) (b9 : Nat) (b15 : Bool) (w16 : World) : Prop :=
 cnd b15
 (Q (.tuple [.pointer none, .int .i64 42].toArray) w16)
 (JoinT (fun (J22 : lpi_New_J15.S → World → Prop) =>
  drw w16 fun w23 =>
  ldI .i64 ⟨b7, 0, none⟩ w23 fun n24 =>
  ldI .i64 ⟨b7, 1, none⟩ w23 fun n25 =>
  ldI .i64 ⟨b9, 0, none⟩ w23 fun n26 =>
  ldI .i64 ⟨b9, 1, none⟩ w23 fun n27 =>
  (runS P (Instr.makeSlice T.t46 (.int .i64 a1) (.int .i64 a1)) w23 fun p28 l29 c30 w31 =>
  (ldI .i64 ⟨b9, 0, none⟩ w31 fun n32 =>
  ldI .i64 ⟨b9, 1, none⟩ w31 fun n33 =>
  ((.agg [.int .i64 n32, .int .i64 n33].toArray : Value) = .agg [.int .i64 n26, .int .i64 n27].toArray)) ∧
  (ldI .i64 ⟨b7, 0, none⟩ w31 fun n34 =>
  ldI .i64 ⟨b7, 1, none⟩ w31 fun n35 =>
  ((.agg [.int .i64 n34, .int .i64 n35].toArray : Value) = .agg [.int .i64 n24, .int .i64 n25].toArray)) ∧
  CV P F.sets_Of_int [.slice none 0 0] w31 fun v36 w37 =>
  ∃ p38 : Option Addr, v36 = .pointer p38 ∧
  (ldI .i64 ⟨b9, 0, none⟩ w37 fun n39 =>
  ldI .i64 ⟨b9, 1, none⟩ w37 fun n40 =>
  ((.agg [.int .i64 n39, .int .i64 n40].toArray : Value) = .agg [.int .i64 n26, .int .i64 n27].toArray)) ∧
  (ldI .i64 ⟨b7, 0, none⟩ w37 fun n41 =>
  ldI .i64 ⟨b7, 1, none⟩ w37 fun n42 =>
  ((.agg [.int .i64 n41, .int .i64 n42].toArray : Value) = .agg [.int .i64 n24, .int .i64 n25].toArray)) ∧
  alc [.int .i64 a1, .bool false, .int .i64 n24, .int .i64 n25, .int .i64 n26, .int .i64 n27, .slice p28 l29 c30, .pointer p38] T.t88 w37 fun b43 w44 =>
  J22 ((b43 : Nat), (0 : Int)) w44) ∧
  (CV P F.sets_Of_int [.slice none 0 0] w23 fun v45 w46 =>
  ∃ p47 : Option Addr, v45 = .pointer p47 ∧
  (ldI .i64 ⟨b9, 0, none⟩ w46 fun n48 =>
  ldI .i64 ⟨b9, 1, none⟩ w46 fun n49 =>
  ((.agg [.int .i64 n48, .int .i64 n49].toArray : Value) = .agg [.int .i64 n26, .int .i64 n27].toArray)) ∧
  (ldI .i64 ⟨b7, 0, none⟩ w46 fun n50 =>
  ldI .i64 ⟨b7, 1, none⟩ w46 fun n51 =>
  ((.agg [.int .i64 n50, .int .i64 n51].toArray : Value) = .agg [.int .i64 n24, .int .i64 n25].toArray)) ∧
  runS P (Instr.makeSlice T.t46 (.int .i64 a1) (.int .i64 a1)) w46 fun p52 l53 c54 w55 =>
  (ldI .i64 ⟨b9, 0, none⟩ w55 fun n56 =>
  ldI .i64 ⟨b9, 1, none⟩ w55 fun n57 =>
  ((.agg [.int .i64 n56, .int .i64 n57].toArray : Value) = .agg [.int .i64 n26, .int .i64 n27].toArray)) ∧
  (ldI .i64 ⟨b7, 0, none⟩ w55 fun n58 =>
  ldI .i64 ⟨b7, 1, none⟩ w55 fun n59 =>
  ((.agg [.int .i64 n58, .int .i64 n59].toArray : Value) = .agg [.int .i64 n24, .int .i64 n25].toArray)) ∧
  alc [.int .i64 a1, .bool false, .int .i64 n24, .int .i64 n25, .int .i64 n26, .int .i64 n27, .slice p52 l53 c54, .pointer p47] T.t88 w55 fun b60 w61 =>
  J22 ((b60 : Nat), (0 : Int)) w61))
  fun (s62 : lpi_New_J15.S) w63 => lpi_New_j0 Q s62.1 s62.2 w63)

def lpi_New_j2 (a0 : Option Addr) (a1 : Int) (Q : Value → World → Prop) (b7 : Nat) (b9 : Nat) (b12 : Bool) (w13 : World) : Prop :=
 cnd b12
 (Q (.tuple [.pointer none, .int .i64 1].toArray) w13)
 (JoinT (fun (J64 : lpi_New_J14.S → World → Prop) =>
  ldI .i64 ⟨b7, 0, none⟩ w13 fun n65 =>
  ldI .i64 ⟨b7, 1, none⟩ w13 fun n66 =>
  CV P F.mem_Mem_Holds [.pointer a0, .agg [.int .i64 n65, .int .i64 n66].toArray] w13 fun v67 w68 =>
  ∃ b69 : Bool, v67 = .bool b69 ∧
  cnd (!b69)
  (J64 ((true : Bool)) w68)
  (ldI .i64 ⟨b9, 0, none⟩ w68 fun n70 =>
  ldI .i64 ⟨b9, 1, none⟩ w68 fun n71 =>
  CV P F.mem_Mem_Holds [.pointer a0, .agg [.int .i64 n70, .int .i64 n71].toArray] w68 fun v72 w73 =>
  ∃ b74 : Bool, v72 = .bool b74 ∧
  cnd (!b74)
  (J64 ((true : Bool)) w73)
  (ldI .i64 ⟨b7, 1, none⟩ w73 fun n75 =>
  cnd (decide (n75 < a1))
  (J64 ((true : Bool)) w73)
  (ldI .i64 ⟨b9, 1, none⟩ w73 fun n76 =>
  (nz 8 <|
  J64 (((decide (n76 < (IntKind.i64.wrap (Int.tdiv (IntKind.i64.wrap (a1 + 7)) 8)))) : Bool)) w73)))))
  fun (s77 : lpi_New_J14.S) w78 => lpi_New_j1 a1 Q b7 b9 s77 w78)

def lpi_New (a0 : Option Addr) (a1 : Int) (a2_0 : Int) (a2_1 : Int) (a3_0 : Int) (a3_1 : Int) (w : World) (Q : Value → World → Prop) : Prop :=
 alc [.int .i64 a2_0, .int .i64 a2_1] T.t23 w fun b7 w8 =>
 alc [.int .i64 a3_0, .int .i64 a3_1] T.t23 w8 fun b9 w10 =>
 JoinT (fun (J79 : lpi_New_J6.S → World → Prop) =>
  cnd (decide (a1 < 1))
  (J79 ((true : Bool)) w10)
  (J79 (((decide (a1 > 512)) : Bool)) w10))
  fun (s80 : lpi_New_J6.S) w81 => lpi_New_j2 a0 a1 Q b7 b9 s80 w81
def lpi_New_ann : Nat → Option LoopSpec := fun
  | 6 => some lpi_New_J6
  | 14 => some lpi_New_J14
  | 15 => some lpi_New_J15
  | 30 => some (ordSpec [])
  | _ => none
theorem lpi_New_eq (a0 : Option Addr) (a1 : Int) (a2_0 : Int) (a2_1 : Int) (a3_0 : Int) (a3_1 : Int) (w : World) (Q : Value → World → Prop) : fnX P lpi_New_ann Tryd.f10 [.pointer a0, .int .i64 a1, .agg [.int .i64 a2_0, .int .i64 a2_1].toArray, .agg [.int .i64 a3_0, .int .i64 a3_1].toArray] w Q = lpi_New a0 a1 a2_0 a2_1 a3_0 a3_1 w Q := by kernel_rfl
theorem lpi_New_cv {a0 : Option Addr} {a1 : Int} {a2_0 : Int} {a2_1 : Int} {a3_0 : Int} {a3_1 : Int} {w : World} {Q : Value → World → Prop} (h : lpi_New a0 a1 a2_0 a2_1 a3_0 a3_1 w Q) : CV P F.lpi_New [.pointer a0, .int .i64 a1, .agg [.int .i64 a2_0, .int .i64 a2_1].toArray, .agg [.int .i64 a3_0, .int .i64 a3_1].toArray] w Q := CV_of mixed Tryd.func10 (lpi_New_eq a0 a1 a2_0 a2_1 a3_0 a3_1 w Q ▸ h)

/- 11 crier/crierref15.New -/
def crierref15_New_J6 : LoopSpec where
  S := Bool
  emb := fun s => [(15, .bool s)]
  ext := fun t => match getL t 15 with
    | some (.bool y11) => some (y11)
    | _ => none
  slots := [15]
  fits := fun _ => rfl
  ok := by
    intro t s h x hx
    (try dsimp only at h hx)
    split at h
    · cases h
      simp only [List.mem_cons, List.not_mem_nil, or_false] at hx
      rcases hx with rfl <;> assumption
    · cases h

def crierref15_New_J14 : LoopSpec where
  S := Bool
  emb := fun s => [(38, .bool s)]
  ext := fun t => match getL t 38 with
    | some (.bool y14) => some (y14)
    | _ => none
  slots := [38]
  fits := fun _ => rfl
  ok := by
    intro t s h x hx
    (try dsimp only at h hx)
    split at h
    · cases h
      simp only [List.mem_cons, List.not_mem_nil, or_false] at hx
      rcases hx with rfl <;> assumption
    · cases h

def crierref15_New_j0 (a1 : Int) (Q : Value → World → Prop) (b7 : Nat) (b9 : Nat) (b15 : Bool) (w16 : World) : Prop :=
 cnd b15
 (Q (.tuple [.pointer none, .int .i64 42].toArray) w16)
 (drw w16 fun w17 =>
 ldI .i64 ⟨b7, 0, none⟩ w17 fun n18 =>
 ldI .i64 ⟨b7, 1, none⟩ w17 fun n19 =>
 ldI .i64 ⟨b9, 0, none⟩ w17 fun n20 =>
 ldI .i64 ⟨b9, 1, none⟩ w17 fun n21 =>
 runS P (Instr.makeSlice T.t46 (.int .i64 a1) (.int .i64 a1)) w17 fun p22 l23 c24 w25 =>
 (ldI .i64 ⟨b9, 0, none⟩ w25 fun n26 =>
 ldI .i64 ⟨b9, 1, none⟩ w25 fun n27 =>
 ((.agg [.int .i64 n26, .int .i64 n27].toArray : Value) = .agg [.int .i64 n20, .int .i64 n21].toArray)) ∧
 (ldI .i64 ⟨b7, 0, none⟩ w25 fun n28 =>
 ldI .i64 ⟨b7, 1, none⟩ w25 fun n29 =>
 ((.agg [.int .i64 n28, .int .i64 n29].toArray : Value) = .agg [.int .i64 n18, .int .i64 n19].toArray)) ∧
 alc [.int .i64 a1, .bool false, .int .i64 n18, .int .i64 n19, .int .i64 n20, .int .i64 n21, .slice p22 l23 c24, .slice none 0 0] T.t90 w25 fun b30 w31 =>
 Q (.tuple [.pointer (some ⟨b30, 0, none⟩), .int .i64 0].toArray) w31)

def crierref15_New_j1 (a0 : Option Addr) (a1 : Int) (Q : Value → World → Prop) (b7 : Nat) (b9 : Nat) (b12 : Bool) (w13 : World) : Prop :=
 cnd b12
 (Q (.tuple [.pointer none, .int .i64 1].toArray) w13)
 (JoinT (fun (J32 : crierref15_New_J14.S → World → Prop) =>
  ldI .i64 ⟨b7, 0, none⟩ w13 fun n33 =>
  ldI .i64 ⟨b7, 1, none⟩ w13 fun n34 =>
  CV P F.crierref04_Mem_Holds [.pointer a0, .agg [.int .i64 n33, .int .i64 n34].toArray] w13 fun v35 w36 =>
  ∃ b37 : Bool, v35 = .bool b37 ∧
  cnd (!b37)
  (J32 ((true : Bool)) w36)
  (ldI .i64 ⟨b9, 0, none⟩ w36 fun n38 =>
  ldI .i64 ⟨b9, 1, none⟩ w36 fun n39 =>
  CV P F.crierref04_Mem_Holds [.pointer a0, .agg [.int .i64 n38, .int .i64 n39].toArray] w36 fun v40 w41 =>
  ∃ b42 : Bool, v40 = .bool b42 ∧
  cnd (!b42)
  (J32 ((true : Bool)) w41)
  (ldI .i64 ⟨b7, 1, none⟩ w41 fun n43 =>
  cnd (decide (n43 < a1))
  (J32 ((true : Bool)) w41)
  (ldI .i64 ⟨b9, 1, none⟩ w41 fun n44 =>
  J32 (((decide ((IntKind.i64.wrap (8 * n44)) < a1)) : Bool)) w41))))
  fun (s45 : crierref15_New_J14.S) w46 => crierref15_New_j0 a1 Q b7 b9 s45 w46)

def crierref15_New (a0 : Option Addr) (a1 : Int) (a2_0 : Int) (a2_1 : Int) (a3_0 : Int) (a3_1 : Int) (w : World) (Q : Value → World → Prop) : Prop :=
 alc [.int .i64 a2_0, .int .i64 a2_1] T.t23 w fun b7 w8 =>
 alc [.int .i64 a3_0, .int .i64 a3_1] T.t23 w8 fun b9 w10 =>
 JoinT (fun (J47 : crierref15_New_J6.S → World → Prop) =>
  cnd (decide (a1 < 1))
  (J47 ((true : Bool)) w10)
  (J47 (((decide (a1 > 512)) : Bool)) w10))
  fun (s48 : crierref15_New_J6.S) w49 => crierref15_New_j1 a0 a1 Q b7 b9 s48 w49
def crierref15_New_ann : Nat → Option LoopSpec := fun
  | 6 => some crierref15_New_J6
  | 14 => some crierref15_New_J14
  | 30 => some (ordSpec [0, 1, 2, 3, 4, 5, 6, 7, 8])
  | _ => none
theorem crierref15_New_eq (a0 : Option Addr) (a1 : Int) (a2_0 : Int) (a2_1 : Int) (a3_0 : Int) (a3_1 : Int) (w : World) (Q : Value → World → Prop) : fnX P crierref15_New_ann Tryd.f11 [.pointer a0, .int .i64 a1, .agg [.int .i64 a2_0, .int .i64 a2_1].toArray, .agg [.int .i64 a3_0, .int .i64 a3_1].toArray] w Q = crierref15_New a0 a1 a2_0 a2_1 a3_0 a3_1 w Q := by kernel_rfl
theorem crierref15_New_cv {a0 : Option Addr} {a1 : Int} {a2_0 : Int} {a2_1 : Int} {a3_0 : Int} {a3_1 : Int} {w : World} {Q : Value → World → Prop} (h : crierref15_New a0 a1 a2_0 a2_1 a3_0 a3_1 w Q) : CV P F.crierref15_New [.pointer a0, .int .i64 a1, .agg [.int .i64 a2_0, .int .i64 a2_1].toArray, .agg [.int .i64 a3_0, .int .i64 a3_1].toArray] w Q := CV_of mixed Tryd.func11 (crierref15_New_eq a0 a1 a2_0 a2_1 a3_0 a3_1 w Q ▸ h)

/- 12 (*crier/lpi.Lpis).On -/

def lpi_Lpis_On (a0 : Option Addr) (w : World) (Q : Value → World → Prop) : Prop :=
 nn a0 fun a2 =>
 ldB (a2.add 1) w fun b3 =>
 Q (.bool b3) w
def lpi_Lpis_On_ann : Nat → Option LoopSpec := fun _ => none
theorem lpi_Lpis_On_eq (a0 : Option Addr) (w : World) (Q : Value → World → Prop) : fnX P lpi_Lpis_On_ann Tryd.f12 [.pointer a0] w Q = lpi_Lpis_On a0 w Q := by kernel_rfl
theorem lpi_Lpis_On_cv {a0 : Option Addr} {w : World} {Q : Value → World → Prop} (h : lpi_Lpis_On a0 w Q) : CV P F.lpi_Lpis_On [.pointer a0] w Q := CV_of mixed Tryd.func12 (lpi_Lpis_On_eq a0 w Q ▸ h)

/- 13 (*crier/lpi.Lpis).Many -/

def lpi_Lpis_Many (a0 : Option Addr) (w : World) (Q : Value → World → Prop) : Prop :=
 nn a0 fun a2 =>
 ldI .i64 a2 w fun n3 =>
 Q (.int .i64 n3) w
def lpi_Lpis_Many_ann : Nat → Option LoopSpec := fun _ => none
theorem lpi_Lpis_Many_eq (a0 : Option Addr) (w : World) (Q : Value → World → Prop) : fnX P lpi_Lpis_Many_ann Tryd.f13 [.pointer a0] w Q = lpi_Lpis_Many a0 w Q := by kernel_rfl
theorem lpi_Lpis_Many_cv {a0 : Option Addr} {w : World} {Q : Value → World → Prop} (h : lpi_Lpis_Many a0 w Q) : CV P F.lpi_Lpis_Many [.pointer a0] w Q := CV_of mixed Tryd.func13 (lpi_Lpis_Many_eq a0 w Q ▸ h)

/- 14 crier/crierlaw15.list -/
def crierlaw15_list_J29 : LoopSpec where
  S := Unit
  emb := fun _ => []
  ext := fun _ => some ()
  slots := []
  fits := fun _ => rfl
  ok := by
    intro t s h x hx; cases hx

def crierlaw15_list_j0 (Q : Value → World → Prop) (b2 : Nat) (w4 : World) (ds5 : List Deferred) : Prop :=
 ldL ⟨b2, 0, none⟩ w4 fun p6 l7 c8 =>
 takeX ds5 w4 fun w9 =>
 Q (.slice p6 l7 c8) w9

def crierlaw15_list_r1 (b2 : Nat) (l11 : Nat) (r12 : Loop) (vs13 : List Value) (w14 : World) (Q15 : Value → World → Prop) : Prop :=
 X.b1 vs13 fun v16 =>
 ∃ n17 : Int, v16 = .int .i64 n17 ∧
 recAt w14 l11 r12 .ready none ∧ setR w14 l11 r12 .busy none fun w18 =>
 ldL ⟨b2, 0, none⟩ w18 fun p19 l20 c21 =>
 alc [.int .i64 n17] T.t3 w18 fun b22 w23 =>
 runS P (Builtin.append_ #[T.t37, T.t37] T.t37 [.slice p19 l20 c21, .slice (some ⟨b22, 0, none⟩) 1 1].toArray) w23 fun p24 l25 c26 w27 =>
 st1 (.slice p24 l25 c26) ⟨b2, 0, none⟩ w27 fun w28 =>
 ldL ⟨b2, 0, none⟩ w28 fun p29 l30 c31 =>
 cnd (decide (((l30 : Nat) : Int) > 2000))
 (recAt w28 l11 r12 .busy none ∧ setR w28 l11 r12 .done (some (.exit 0)) fun w32 => Q15 (.bool false) w32)
 (recAt w28 l11 r12 .busy none ∧ setR w28 l11 r12 .ready none fun w33 => Q15 (.bool true) w33)

def crierlaw15_list (a0 : Value) (w : World) (Q : Value → World → Prop) : Prop :=
 alc [.slice none 0 0] T.t37 w fun b2 w3 =>
 JoinT (fun (J10 : crierlaw15_list_J29.S × List Deferred → World → Prop) =>
  RF P none 1 (a0) w3 (fun l11 r12 vs13 w14 Q15 => crierlaw15_list_r1 b2 l11 r12 vs13 w14 Q15) fun mk34 jp35 w36 =>
  jmpX jp35
  (J10 ((), (mk34 ++ [])) w36)
  (takeX (mk34 ++ []) w36 fun w37 =>
  Q (.slice none 0 0) w37)
  fun id38 => (id38 = 0 → (J10 ((), (mk34 ++ [])) w36)) ∧ (id38 ≠ 0 → (False)))
  fun (s39 : crierlaw15_list_J29.S × List Deferred) w40 => crierlaw15_list_j0 Q b2 w40 s39.2
def crierlaw15_list_ann : Nat → Option LoopSpec := fun
  | 29 => some crierlaw15_list_J29
  | _ => none
theorem crierlaw15_list_eq (a0 : Value) (w : World) (Q : Value → World → Prop) : fnX P crierlaw15_list_ann Tryd.f14 [a0] w Q = crierlaw15_list a0 w Q := by kernel_rfl
theorem crierlaw15_list_cv {a0 : Value} {w : World} {Q : Value → World → Prop} (h : crierlaw15_list a0 w Q) : CV P F.crierlaw15_list [a0] w Q := CV_of mixed Tryd.func14 (crierlaw15_list_eq a0 w Q ▸ h)

/- 15 (*crier/lpi.Lpis).Waiting -/

def lpi_Lpis_Waiting (a0 : Option Addr) (a1 : Option Addr) (w : World) (Q : Value → World → Prop) : Prop :=
 alc [.pointer a0] T.t29 w fun b3 w4 =>
 alc [.pointer a1] T.t25 w4 fun b5 w6 =>
 Q (.func (.func F.lpi_Lpis_Waiting_1) [].toArray [.pointer (some ⟨b3, 0, none⟩), .pointer (some ⟨b5, 0, none⟩)].toArray) w6
def lpi_Lpis_Waiting_ann : Nat → Option LoopSpec := fun _ => none
theorem lpi_Lpis_Waiting_eq (a0 : Option Addr) (a1 : Option Addr) (w : World) (Q : Value → World → Prop) : fnX P lpi_Lpis_Waiting_ann Tryd.f15 [.pointer a0, .pointer a1] w Q = lpi_Lpis_Waiting a0 a1 w Q := by kernel_rfl
theorem lpi_Lpis_Waiting_cv {a0 : Option Addr} {a1 : Option Addr} {w : World} {Q : Value → World → Prop} (h : lpi_Lpis_Waiting a0 a1 w Q) : CV P F.lpi_Lpis_Waiting [.pointer a0, .pointer a1] w Q := CV_of mixed Tryd.func15 (lpi_Lpis_Waiting_eq a0 a1 w Q ▸ h)

/- 16 (*crier/lpi.Lpis).Best -/
def lpi_Lpis_Best_J117 : LoopSpec where
  S := Unit
  emb := fun _ => []
  ext := fun _ => some ()
  slots := []
  fits := fun _ => rfl
  ok := by
    intro t s h x hx; cases hx

def lpi_Lpis_Best_j0 (l14 : Nat) (r15 : Loop) (Q18 : Value → World → Prop) (w22 : World) : Prop :=
 recAt w22 l14 r15 .busy none ∧ setR w22 l14 r15 .ready none fun w23 => Q18 (.bool true) w23

def lpi_Lpis_Best_J939 : LoopSpec where
  S := Bool
  emb := fun s => [(36, .bool s)]
  ext := fun t => match getL t 36 with
    | some (.bool y30) => some (y30)
    | _ => none
  slots := [36]
  fits := fun _ => rfl
  ok := by
    intro t s h x hx
    (try dsimp only at h hx)
    split at h
    · cases h
      simp only [List.mem_cons, List.not_mem_nil, or_false] at hx
      rcases hx with rfl <;> assumption
    · cases h

def lpi_Lpis_Best_j1 (b6 : Nat) (n20 : Int) (J24 : lpi_Lpis_Best_J117.S → World → Prop) (n29 : Int) (b31 : Bool) (w32 : World) : Prop :=
 cnd b31
 (st1 (.int .i64 (IntKind.i64.wrap (8192 + n20))) ⟨b6, 0, none⟩ w32 fun w33 =>
 st1 (.int .i64 n29) ⟨b6, 1, none⟩ w33 fun w34 =>
 st1 (.int .i64 1) ⟨b6, 2, none⟩ w34 fun w35 =>
 st1 (.bool true) ⟨b6, 3, none⟩ w35 fun w36 =>
 J24 () w36)
 (J24 () w32)

def lpi_Lpis_Best_r2 (b2 : Nat) (b6 : Nat) (l14 : Nat) (r15 : Loop) (vs16 : List Value) (w17 : World) (Q18 : Value → World → Prop) : Prop :=
 X.b1 vs16 fun v19 =>
 ∃ n20 : Int, v19 = .int .i64 n20 ∧
 recAt w17 l14 r15 .ready none ∧ setR w17 l14 r15 .busy none fun w21 =>
 JoinT (fun (J24 : lpi_Lpis_Best_J117.S → World → Prop) =>
  ldP ⟨b2, 0, none⟩ w21 fun p25 =>
  CV P F.lpi_Lpis_Setup [.pointer p25, .int .i64 (IntKind.i64.wrap (8192 + n20))] w21 fun v26 w27 =>
  ∃ b28 : Bool, ∃ n29 : Int, v26 = .tuple [.bool b28, .int .i64 n29].toArray ∧
  JoinT (fun (J37 : lpi_Lpis_Best_J939.S → World → Prop) =>
   cnd b28
   (ldB ⟨b6, 3, none⟩ w27 fun b38 =>
   cnd (!b38)
   (J37 ((true : Bool)) w27)
   (ldI .i64 ⟨b6, 1, none⟩ w27 fun n39 =>
   ldI .i64 ⟨b6, 0, none⟩ w27 fun n40 =>
   CV P F.prio_Before [.int .i64 n29, .int .i64 (IntKind.i64.wrap (8192 + n20)), .int .i64 n39, .int .i64 n40] w27 fun v41 w42 =>
   ∃ b43 : Bool, v41 = .bool b43 ∧
   J37 ((b43 : Bool)) w42))
   (J37 ((false : Bool)) w27))
   fun (s44 : lpi_Lpis_Best_J939.S) w45 => lpi_Lpis_Best_j1 b6 n20 J24 n29 s44 w45)
  fun (s46 : lpi_Lpis_Best_J117.S) w47 => lpi_Lpis_Best_j0 l14 r15 Q18 w47

def lpi_Lpis_Best (a0 : Option Addr) (w : World) (Q : Value → World → Prop) : Prop :=
 alc [.pointer a0] T.t29 w fun b2 w3 =>
 alc [.int .i64 0, .int .i64 0, .int .i64 0, .bool false] T.t43 w3 fun b4 w5 =>
 alc [.int .i64 0, .int .i64 0, .int .i64 0, .bool false] T.t43 w5 fun b6 w7 =>
 ldP ⟨b2, 0, none⟩ w7 fun p8 =>
 nn p8 fun a9 =>
 ldP (a9.add 7) w7 fun p10 =>
 CV P F.sets_Set_int_All [.pointer p10] w7 fun v11 w12 =>
 ∃ v13 : Value, v11 = v13 ∧
 RF P none 1 (v13) w12 (fun l14 r15 vs16 w17 Q18 => lpi_Lpis_Best_r2 b2 b6 l14 r15 vs16 w17 Q18) fun mk48 jp49 w50 =>
 jmpX jp49
 (ldI .i64 ⟨b6, 0, none⟩ w50 fun n51 =>
 ldI .i64 ⟨b6, 1, none⟩ w50 fun n52 =>
 ldI .i64 ⟨b6, 2, none⟩ w50 fun n53 =>
 ldB ⟨b6, 3, none⟩ w50 fun b54 =>
 st1 (.int .i64 n51) ⟨b4, 0, none⟩ w50 fun w55 =>
 st1 (.int .i64 n52) ⟨b4, 1, none⟩ w55 fun w56 =>
 st1 (.int .i64 n53) ⟨b4, 2, none⟩ w56 fun w57 =>
 st1 (.bool b54) ⟨b4, 3, none⟩ w57 fun w58 =>
 takeX (mk48 ++ []) w58 fun w59 =>
 ldI .i64 ⟨b4, 0, none⟩ w59 fun n60 =>
 ldI .i64 ⟨b4, 1, none⟩ w59 fun n61 =>
 ldI .i64 ⟨b4, 2, none⟩ w59 fun n62 =>
 ldB ⟨b4, 3, none⟩ w59 fun b63 =>
 Q (.agg [.int .i64 n60, .int .i64 n61, .int .i64 n62, .bool b63].toArray) w59)
 (takeX (mk48 ++ []) w50 fun w64 =>
 ldI .i64 ⟨b4, 0, none⟩ w64 fun n65 =>
 ldI .i64 ⟨b4, 1, none⟩ w64 fun n66 =>
 ldI .i64 ⟨b4, 2, none⟩ w64 fun n67 =>
 ldB ⟨b4, 3, none⟩ w64 fun b68 =>
 Q (.agg [.int .i64 n65, .int .i64 n66, .int .i64 n67, .bool b68].toArray) w64)
 fun id69 => False
def lpi_Lpis_Best_ann : Nat → Option LoopSpec := fun
  | 117 => some lpi_Lpis_Best_J117
  | 939 => some lpi_Lpis_Best_J939
  | _ => none
theorem lpi_Lpis_Best_eq (a0 : Option Addr) (w : World) (Q : Value → World → Prop) : fnX P lpi_Lpis_Best_ann Tryd.f16 [.pointer a0] w Q = lpi_Lpis_Best a0 w Q := by kernel_rfl
theorem lpi_Lpis_Best_cv {a0 : Option Addr} {w : World} {Q : Value → World → Prop} (h : lpi_Lpis_Best a0 w Q) : CV P F.lpi_Lpis_Best [.pointer a0] w Q := CV_of mixed Tryd.func16 (lpi_Lpis_Best_eq a0 w Q ▸ h)

/- 17 crier/crierlaw15.played -/
def crierlaw15_played_L58 : LoopSpec where
  S := Int
  emb := fun s => [(11, .int .i64 s)]
  ext := fun t => match getL t 11 with
    | some (.int .i64 y29) => some (y29)
    | _ => none
  slots := [11]
  fits := fun _ => rfl
  ok := by
    intro t s h x hx
    (try dsimp only at h hx)
    split at h
    · cases h
      simp only [List.mem_cons, List.not_mem_nil, or_false] at hx
      rcases hx with rfl <;> assumption
    · cases h

def crierlaw15_played_J232 : LoopSpec where
  S := Bool
  emb := fun s => [(23, .bool s)]
  ext := fun t => match getL t 23 with
    | some (.bool y33) => some (y33)
    | _ => none
  slots := [23]
  fits := fun _ => rfl
  ok := by
    intro t s h x hx
    (try dsimp only at h hx)
    split at h
    · cases h
      simp only [List.mem_cons, List.not_mem_nil, or_false] at hx
      rcases hx with rfl <;> assumption
    · cases h

def crierlaw15_played_j0 (a3 : Option Addr) (a3_n : Nat) (Q : Value → World → Prop) (b9 : Nat) (b20 : Nat) (n30 : Int) (A32 : crierlaw15_played_L58.S → World → Prop) (b34 : Bool) (w35 : World) : Prop :=
 cnd b34
 (ix n30 a3_n fun j36 => nn a3 fun a37 =>
 ldI .i64 (a37.add (j36 * 5)) w35 fun n38 =>
 ldI .i64 ((a37.add (j36 * 5)).add 1) w35 fun n39 =>
 ldB ((a37.add (j36 * 5)).add 2) w35 fun b40 =>
 ldB ((a37.add (j36 * 5)).add 3) w35 fun b41 =>
 ldI .u8 ((a37.add (j36 * 5)).add 4) w35 fun n42 =>
 CV P F.crierlaw15_does [.pointer (some ⟨b20, 0, none⟩), .agg [.int .i64 n38, .int .i64 n39, .bool b40, .bool b41, .int .u8 n42].toArray] w35 fun v43 w44 =>
 ∃ b45 : Bool, v43 = .bool b45 ∧
 A32 (((IntKind.i64.wrap (n30 + 1)) : Int)) w44)
 (drw w35 fun w46 =>
 ldP ⟨b20, 0, none⟩ w46 fun p47 =>
 ldP ⟨b20, 1, none⟩ w46 fun p48 =>
 ldP ⟨b20, 2, none⟩ w46 fun p49 =>
 ldP ⟨b20, 3, none⟩ w46 fun p50 =>
 ldP ⟨b20, 4, none⟩ w46 fun p51 =>
 ldP ⟨b20, 5, none⟩ w46 fun p52 =>
 ldB ⟨b20, 6, none⟩ w46 fun b53 =>
 ldB ⟨b20, 6, none⟩ w46 fun b54 =>
 st1 (.pointer p47) ⟨b9, 0, none⟩ w46 fun w55 =>
 st1 (.pointer p48) ⟨b9, 1, none⟩ w55 fun w56 =>
 st1 (.pointer p49) ⟨b9, 2, none⟩ w56 fun w57 =>
 st1 (.pointer p50) ⟨b9, 3, none⟩ w57 fun w58 =>
 st1 (.pointer p51) ⟨b9, 4, none⟩ w58 fun w59 =>
 st1 (.pointer p52) ⟨b9, 5, none⟩ w59 fun w60 =>
 st1 (.bool b53) ⟨b9, 6, none⟩ w60 fun w61 =>
 (ldB ⟨b20, 6, none⟩ w61 fun b62 =>
 ((.bool b62 : Value) = .bool b54)) ∧
 ldP ⟨b9, 0, none⟩ w61 fun p63 =>
 ldP ⟨b9, 1, none⟩ w61 fun p64 =>
 ldP ⟨b9, 2, none⟩ w61 fun p65 =>
 ldP ⟨b9, 3, none⟩ w61 fun p66 =>
 ldP ⟨b9, 4, none⟩ w61 fun p67 =>
 ldP ⟨b9, 5, none⟩ w61 fun p68 =>
 ldB ⟨b9, 6, none⟩ w61 fun b69 =>
 Q (.tuple [.agg [.pointer p63, .pointer p64, .pointer p65, .pointer p66, .pointer p67, .pointer p68, .bool b69].toArray, .bool b54].toArray) w61)

def crierlaw15_played_l1 (a3 : Option Addr) (a3_n : Nat) (Q : Value → World → Prop) (b9 : Nat) (b20 : Nat) (n30 : Int) (w31 : World) (A32 : crierlaw15_played_L58.S → World → Prop) : Prop :=
 JoinT (fun (J70 : crierlaw15_played_J232.S → World → Prop) =>
  ldB ⟨b20, 6, none⟩ w31 fun b71 =>
  cnd b71
  (J70 (((decide (n30 < ((a3_n : Nat) : Int))) : Bool)) w31)
  (J70 ((false : Bool)) w31))
  fun (s72 : crierlaw15_played_J232.S) w73 => crierlaw15_played_j0 a3 a3_n Q b9 b20 n30 A32 s72 w73

def crierlaw15_played (a0 : Int) (a1 : Int) (a2 : Option Addr) (a2_n : Nat) (a2_c : Nat) (a3 : Option Addr) (a3_n : Nat) (a3_c : Nat) (w : World) (Q : Value → World → Prop) : Prop :=
 alc [.pointer none, .pointer none, .pointer none, .pointer none, .pointer none, .pointer none, .bool false] T.t51 w fun b9 w10 =>
 CV P F.crierlaw15_begun [.int .u8 a0, .int .u8 a1, .slice a2 a2_n a2_c] w10 fun v11 w12 =>
 ∃ p13 : Option Addr, ∃ p14 : Option Addr, ∃ p15 : Option Addr, ∃ p16 : Option Addr, ∃ p17 : Option Addr, ∃ p18 : Option Addr, ∃ b19 : Bool, v11 = .agg [.pointer p13, .pointer p14, .pointer p15, .pointer p16, .pointer p17, .pointer p18, .bool b19].toArray ∧
 alc [.pointer none, .pointer none, .pointer none, .pointer none, .pointer none, .pointer none, .bool false] T.t51 w12 fun b20 w21 =>
 st1 (.pointer p13) ⟨b20, 0, none⟩ w21 fun w22 =>
 st1 (.pointer p14) ⟨b20, 1, none⟩ w22 fun w23 =>
 st1 (.pointer p15) ⟨b20, 2, none⟩ w23 fun w24 =>
 st1 (.pointer p16) ⟨b20, 3, none⟩ w24 fun w25 =>
 st1 (.pointer p17) ⟨b20, 4, none⟩ w25 fun w26 =>
 st1 (.pointer p18) ⟨b20, 5, none⟩ w26 fun w27 =>
 st1 (.bool b19) ⟨b20, 6, none⟩ w27 fun w28 =>
 LoopT (fun (s74 : crierlaw15_played_L58.S) w75 A76 => crierlaw15_played_l1 a3 a3_n Q b9 b20 s74 w75 A76) ((0 : Int)) w28
def crierlaw15_played_ann : Nat → Option LoopSpec := fun
  | 58 => some crierlaw15_played_L58
  | 232 => some crierlaw15_played_J232
  | 30 => some (ordSpec [0, 1, 2, 3, 4])
  | _ => none
theorem crierlaw15_played_eq (a0 : Int) (a1 : Int) (a2 : Option Addr) (a2_n : Nat) (a2_c : Nat) (a3 : Option Addr) (a3_n : Nat) (a3_c : Nat) (w : World) (Q : Value → World → Prop) : fnX P crierlaw15_played_ann Tryd.f17 [.int .u8 a0, .int .u8 a1, .slice a2 a2_n a2_c, .slice a3 a3_n a3_c] w Q = crierlaw15_played a0 a1 a2 a2_n a2_c a3 a3_n a3_c w Q := by kernel_rfl
theorem crierlaw15_played_cv {a0 : Int} {a1 : Int} {a2 : Option Addr} {a2_n : Nat} {a2_c : Nat} {a3 : Option Addr} {a3_n : Nat} {a3_c : Nat} {w : World} {Q : Value → World → Prop} (h : crierlaw15_played a0 a1 a2 a2_n a2_c a3 a3_n a3_c w Q) : CV P F.crierlaw15_played [.int .u8 a0, .int .u8 a1, .slice a2 a2_n a2_c, .slice a3 a3_n a3_c] w Q := CV_of mixed Tryd.func17 (crierlaw15_played_eq a0 a1 a2 a2_n a2_c a3 a3_n a3_c w Q ▸ h)

/- 18 crier/lpi.MoveAll -/
def lpi_MoveAll_J117 : LoopSpec where
  S := Unit
  emb := fun _ => []
  ext := fun _ => some ()
  slots := []
  fits := fun _ => rfl
  ok := by
    intro t s h x hx; cases hx

def lpi_MoveAll_j0 (l18 : Nat) (r19 : Loop) (Q22 : Value → World → Prop) (w26 : World) : Prop :=
 recAt w26 l18 r19 .busy none ∧ setR w26 l18 r19 .ready none fun w27 => Q22 (.bool true) w27

def lpi_MoveAll_r1 (b4 : Nat) (b6 : Nat) (b8 : Nat) (b10 : Nat) (l18 : Nat) (r19 : Loop) (vs20 : List Value) (w21 : World) (Q22 : Value → World → Prop) : Prop :=
 X.b1 vs20 fun v23 =>
 ∃ n24 : Int, v23 = .int .i64 n24 ∧
 recAt w21 l18 r19 .ready none ∧ setR w21 l18 r19 .busy none fun w25 =>
 JoinT (fun (J28 : lpi_MoveAll_J117.S → World → Prop) =>
  ldP ⟨b4, 0, none⟩ w25 fun p29 =>
  ldP ⟨b6, 0, none⟩ w25 fun p30 =>
  ldP ⟨b8, 0, none⟩ w25 fun p31 =>
  CV P F.lpi_Move [.pointer p29, .int .i64 n24, .pointer p30, .pointer p31] w25 fun v32 w33 =>
  ∃ b34 : Bool, v32 = .bool b34 ∧
  cnd b34
  (ldI .i64 ⟨b10, 0, none⟩ w33 fun n35 =>
  st1 (.int .i64 (IntKind.i64.wrap (n35 + 1))) ⟨b10, 0, none⟩ w33 fun w36 =>
  J28 () w36)
  (J28 () w33))
  fun (s37 : lpi_MoveAll_J117.S) w38 => lpi_MoveAll_j0 l18 r19 Q22 w38

def lpi_MoveAll (a0 : Option Addr) (a1 : Option Addr) (a2 : Option Addr) (w : World) (Q : Value → World → Prop) : Prop :=
 alc [.pointer a0] T.t25 w fun b4 w5 =>
 alc [.pointer a1] T.t29 w5 fun b6 w7 =>
 alc [.pointer a2] T.t29 w7 fun b8 w9 =>
 alc [.int .i64 0] T.t3 w9 fun b10 w11 =>
 st1 (.int .i64 0) ⟨b10, 0, none⟩ w11 fun w12 =>
 ldP ⟨b6, 0, none⟩ w12 fun p13 =>
 ldP ⟨b4, 0, none⟩ w12 fun p14 =>
 CV P F.lpi_Lpis_Waiting [.pointer p13, .pointer p14] w12 fun v15 w16 =>
 ∃ v17 : Value, v15 = v17 ∧
 RF P none 1 (v17) w16 (fun l18 r19 vs20 w21 Q22 => lpi_MoveAll_r1 b4 b6 b8 b10 l18 r19 vs20 w21 Q22) fun mk39 jp40 w41 =>
 jmpX jp40
 (ldI .i64 ⟨b10, 0, none⟩ w41 fun n42 =>
 takeX (mk39 ++ []) w41 fun w43 =>
 Q (.int .i64 n42) w43)
 (takeX (mk39 ++ []) w41 fun w44 =>
 Q (.int .i64 0) w44)
 fun id45 => False
def lpi_MoveAll_ann : Nat → Option LoopSpec := fun
  | 117 => some lpi_MoveAll_J117
  | _ => none
theorem lpi_MoveAll_eq (a0 : Option Addr) (a1 : Option Addr) (a2 : Option Addr) (w : World) (Q : Value → World → Prop) : fnX P lpi_MoveAll_ann Tryd.f18 [.pointer a0, .pointer a1, .pointer a2] w Q = lpi_MoveAll a0 a1 a2 w Q := by kernel_rfl
theorem lpi_MoveAll_cv {a0 : Option Addr} {a1 : Option Addr} {a2 : Option Addr} {w : World} {Q : Value → World → Prop} (h : lpi_MoveAll a0 a1 a2 w Q) : CV P F.lpi_MoveAll [.pointer a0, .pointer a1, .pointer a2] w Q := CV_of mixed Tryd.func18 (lpi_MoveAll_eq a0 a1 a2 w Q ▸ h)

/- 19 crier/lpi.Move -/
def lpi_Move_J6 : LoopSpec where
  S := Bool
  emb := fun s => [(20, .bool s)]
  ext := fun t => match getL t 20 with
    | some (.bool y5) => some (y5)
    | _ => none
  slots := [20]
  fits := fun _ => rfl
  ok := by
    intro t s h x hx
    (try dsimp only at h hx)
    split at h
    · cases h
      simp only [List.mem_cons, List.not_mem_nil, or_false] at hx
      rcases hx with rfl <;> assumption
    · cases h

def lpi_Move_j0 (a0 : Option Addr) (a1 : Int) (a2 : Option Addr) (a3 : Option Addr) (Q : Value → World → Prop) (b6 : Bool) (w7 : World) : Prop :=
 cnd b6
 (Q (.bool false) w7)
 (CV P F.lpi_Lpis_index [.pointer a3, .int .i64 a1] w7 fun v8 w9 =>
 ∃ n10 : Int, ∃ b11 : Bool, v8 = .tuple [.int .i64 n10, .bool b11].toArray ∧
 cnd (!b11)
 (Q (.bool false) w9)
 (CV P F.lpi_Lpis_Set [.pointer a2, .pointer a0, .int .i64 a1, .bool false] w9 fun v12 w13 =>
 ∃ b14 : Bool, ∃ n15 : Int, v12 = .tuple [.bool b14, .int .i64 n15].toArray ∧
 CV P F.lpi_Lpis_Set [.pointer a3, .pointer a0, .int .i64 a1, .bool true] w13 fun v16 w17 =>
 ∃ b18 : Bool, ∃ n19 : Int, v16 = .tuple [.bool b18, .int .i64 n19].toArray ∧
 Q (.bool true) w17))

def lpi_Move (a0 : Option Addr) (a1 : Int) (a2 : Option Addr) (a3 : Option Addr) (w : World) (Q : Value → World → Prop) : Prop :=
 JoinT (fun (J20 : lpi_Move_J6.S → World → Prop) =>
  eqPP P T.t29 a2 a3 w fun b21 =>
  cnd b21
  (J20 ((true : Bool)) w)
  (CV P F.lpi_Lpis_Has [.pointer a2, .pointer a0, .int .i64 a1] w fun v22 w23 =>
  ∃ b24 : Bool, v22 = .bool b24 ∧
  J20 (((!b24) : Bool)) w23))
  fun (s25 : lpi_Move_J6.S) w26 => lpi_Move_j0 a0 a1 a2 a3 Q s25 w26
def lpi_Move_ann : Nat → Option LoopSpec := fun
  | 6 => some lpi_Move_J6
  | _ => none
theorem lpi_Move_eq (a0 : Option Addr) (a1 : Int) (a2 : Option Addr) (a3 : Option Addr) (w : World) (Q : Value → World → Prop) : fnX P lpi_Move_ann Tryd.f19 [.pointer a0, .int .i64 a1, .pointer a2, .pointer a3] w Q = lpi_Move a0 a1 a2 a3 w Q := by kernel_rfl
theorem lpi_Move_cv {a0 : Option Addr} {a1 : Int} {a2 : Option Addr} {a3 : Option Addr} {w : World} {Q : Value → World → Prop} (h : lpi_Move a0 a1 a2 a3 w Q) : CV P F.lpi_Move [.pointer a0, .int .i64 a1, .pointer a2, .pointer a3] w Q := CV_of mixed Tryd.func19 (lpi_Move_eq a0 a1 a2 a3 w Q ▸ h)

/- 20 crier/crierref01.Has -/
def crierref01_Has_L26 : LoopSpec where
  S := Int
  emb := fun s => [(5, .int .i64 s)]
  ext := fun t => match getL t 5 with
    | some (.int .i64 y5) => some (y5)
    | _ => none
  slots := [5]
  fits := fun _ => rfl
  ok := by
    intro t s h x hx
    (try dsimp only at h hx)
    split at h
    · cases h
      simp only [List.mem_cons, List.not_mem_nil, or_false] at hx
      rcases hx with rfl <;> assumption
    · cases h

def crierref01_Has_l0 (a0 : Option Addr) (a0_n : Nat) (a1 : Int) (Q : Value → World → Prop) (n6 : Int) (w7 : World) (A8 : crierref01_Has_L26.S → World → Prop) : Prop :=
 cnd (decide (n6 < ((a0_n : Nat) : Int)))
 (ix n6 a0_n fun j9 => nn a0 fun a10 =>
 ldI .i64 (a10.add (j9 * 1)) w7 fun n11 =>
 cnd (n11 == a1)
 (Q (.bool true) w7)
 (A8 (((IntKind.i64.wrap (n6 + 1)) : Int)) w7))
 (Q (.bool false) w7)

def crierref01_Has (a0 : Option Addr) (a0_n : Nat) (a0_c : Nat) (a1 : Int) (w : World) (Q : Value → World → Prop) : Prop :=
 LoopT (fun (s12 : crierref01_Has_L26.S) w13 A14 => crierref01_Has_l0 a0 a0_n a1 Q s12 w13 A14) ((0 : Int)) w
def crierref01_Has_ann : Nat → Option LoopSpec := fun
  | 26 => some crierref01_Has_L26
  | _ => none
theorem crierref01_Has_eq (a0 : Option Addr) (a0_n : Nat) (a0_c : Nat) (a1 : Int) (w : World) (Q : Value → World → Prop) : fnX P crierref01_Has_ann Tryd.f20 [.slice a0 a0_n a0_c, .int .i64 a1] w Q = crierref01_Has a0 a0_n a0_c a1 w Q := by kernel_rfl
theorem crierref01_Has_cv {a0 : Option Addr} {a0_n : Nat} {a0_c : Nat} {a1 : Int} {w : World} {Q : Value → World → Prop} (h : crierref01_Has a0 a0_n a0_c a1 w Q) : CV P F.crierref01_Has [.slice a0 a0_n a0_c, .int .i64 a1] w Q := CV_of mixed Tryd.func20 (crierref01_Has_eq a0 a0_n a0_c a1 w Q ▸ h)

/- 21 (*crier/lpi.Lpis).Setup -/

def lpi_Lpis_Setup (a0 : Option Addr) (a1 : Int) (w : World) (Q : Value → World → Prop) : Prop :=
 CV P F.lpi_Lpis_index [.pointer a0, .int .i64 a1] w fun v3 w4 =>
 ∃ n5 : Int, ∃ b6 : Bool, v3 = .tuple [.int .i64 n5, .bool b6].toArray ∧
 cnd (!b6)
 (Q (.tuple [.bool false, .int .i64 0].toArray) w4)
 (drw w4 fun w7 =>
 nn a0 fun a8 =>
 ldL (a8.add 6) w7 fun p9 l10 c11 =>
 ix n5 l10 fun j12 => nn p9 fun a13 =>
 ldI .u8 (a13.add (j12 * 1)) w7 fun n14 =>
 nn a0 fun a15 =>
 ldL (a15.add 6) w7 fun p16 l17 c18 =>
 ix n5 l17 fun j19 => nn p16 fun a20 =>
 ldI .u8 (a20.add (j19 * 1)) w7 fun n21 =>
 CV P F.prio_Real [.int .i64 (IntKind.i64.wrap (n21))] w7 fun v22 w23 =>
 ∃ n24 : Int, v22 = .int .i64 n24 ∧
 (ldI .u8 (a13.add (j12 * 1)) w23 fun n25 =>
 ((.int .u8 n25 : Value) = .int .u8 n14)) ∧
 (ldL (a8.add 6) w23 fun p26 l27 c28 =>
 ((.slice p26 l27 c28 : Value) = .slice p9 l10 c11)) ∧
 Q (.tuple [.bool ((bitX .and .u8 n14 1) == 1), .int .i64 n24].toArray) w23)
def lpi_Lpis_Setup_ann : Nat → Option LoopSpec := fun
  | 30 => some (ordSpec [0, 1, 2, 3, 4, 5, 6, 7, 8, 9, 10, 11, 12, 13, 14, 15, 16, 17, 18, 19])
  | _ => none
theorem lpi_Lpis_Setup_eq (a0 : Option Addr) (a1 : Int) (w : World) (Q : Value → World → Prop) : fnX P lpi_Lpis_Setup_ann Tryd.f21 [.pointer a0, .int .i64 a1] w Q = lpi_Lpis_Setup a0 a1 w Q := by kernel_rfl
theorem lpi_Lpis_Setup_cv {a0 : Option Addr} {a1 : Int} {w : World} {Q : Value → World → Prop} (h : lpi_Lpis_Setup a0 a1 w Q) : CV P F.lpi_Lpis_Setup [.pointer a0, .int .i64 a1] w Q := CV_of mixed Tryd.func21 (lpi_Lpis_Setup_eq a0 a1 w Q ▸ h)

/- 22 (*crier/lpi.Lpis).Has -/
def lpi_Lpis_Has_J7 : LoopSpec where
  S := Bool
  emb := fun s => [(6, .bool s)]
  ext := fun t => match getL t 6 with
    | some (.bool y8) => some (y8)
    | _ => none
  slots := [6]
  fits := fun _ => rfl
  ok := by
    intro t s h x hx
    (try dsimp only at h hx)
    split at h
    · cases h
      simp only [List.mem_cons, List.not_mem_nil, or_false] at hx
      rcases hx with rfl <;> assumption
    · cases h

def lpi_Lpis_Has_j0 (Q : Value → World → Prop) (b9 : Bool) (w10 : World) : Prop :=
 Q (.bool b9) w10

def lpi_Lpis_Has (a0 : Option Addr) (a1 : Option Addr) (a2 : Int) (w : World) (Q : Value → World → Prop) : Prop :=
 CV P F.lpi_Lpis_index [.pointer a0, .int .i64 a2] w fun v4 w5 =>
 ∃ n6 : Int, ∃ b7 : Bool, v4 = .tuple [.int .i64 n6, .bool b7].toArray ∧
 JoinT (fun (J11 : lpi_Lpis_Has_J7.S → World → Prop) =>
  cnd b7
  (nn a0 fun a12 =>
  ldB (a12.add 1) w5 fun b13 =>
  cnd b13
  (nn a0 fun a14 =>
  ldP (a14.add 7) w5 fun p15 =>
  CV P F.sets_Set_int_Has [.pointer p15, .int .i64 n6] w5 fun v16 w17 =>
  ∃ b18 : Bool, v16 = .bool b18 ∧
  cnd b18
  (J11 ((true : Bool)) w17)
  (nn a0 fun a19 =>
  ldB (a19.add 1) w17 fun b20 =>
  cnd (!b20)
  (CV P F.lpi_Lpis_stored [.pointer a0, .pointer a1, .int .i64 n6] w17 fun v21 w22 =>
  ∃ b23 : Bool, v21 = .bool b23 ∧
  J11 ((b23 : Bool)) w22)
  (J11 ((false : Bool)) w17)))
  (nn a0 fun a24 =>
  ldB (a24.add 1) w5 fun b25 =>
  cnd (!b25)
  (CV P F.lpi_Lpis_stored [.pointer a0, .pointer a1, .int .i64 n6] w5 fun v26 w27 =>
  ∃ b28 : Bool, v26 = .bool b28 ∧
  J11 ((b28 : Bool)) w27)
  (J11 ((false : Bool)) w5)))
  (J11 ((false : Bool)) w5))
  fun (s29 : lpi_Lpis_Has_J7.S) w30 => lpi_Lpis_Has_j0 Q s29 w30
def lpi_Lpis_Has_ann : Nat → Option LoopSpec := fun
  | 7 => some lpi_Lpis_Has_J7
  | _ => none
theorem lpi_Lpis_Has_eq (a0 : Option Addr) (a1 : Option Addr) (a2 : Int) (w : World) (Q : Value → World → Prop) : fnX P lpi_Lpis_Has_ann Tryd.f22 [.pointer a0, .pointer a1, .int .i64 a2] w Q = lpi_Lpis_Has a0 a1 a2 w Q := by kernel_rfl
theorem lpi_Lpis_Has_cv {a0 : Option Addr} {a1 : Option Addr} {a2 : Int} {w : World} {Q : Value → World → Prop} (h : lpi_Lpis_Has a0 a1 a2 w Q) : CV P F.lpi_Lpis_Has [.pointer a0, .pointer a1, .int .i64 a2] w Q := CV_of mixed Tryd.func22 (lpi_Lpis_Has_eq a0 a1 a2 w Q ▸ h)

/- 23 (*crier/mem.Mem).Write -/
def mem_Mem_Write_L58 : LoopSpec where
  S := Int
  emb := fun s => [(24, .int .i64 s)]
  ext := fun t => match getL t 24 with
    | some (.int .i64 y17) => some (y17)
    | _ => none
  slots := [24]
  fits := fun _ => rfl
  ok := by
    intro t s h x hx
    (try dsimp only at h hx)
    split at h
    · cases h
      simp only [List.mem_cons, List.not_mem_nil, or_false] at hx
      rcases hx with rfl <;> assumption
    · cases h

def mem_Mem_Write_l0 (a4 : Int) (Q : Value → World → Prop) (p13 : Option Addr) (l14 : Nat) (n16 : Int) (n18 : Int) (w19 : World) (A20 : mem_Mem_Write_L58.S → World → Prop) : Prop :=
 cnd (decide (n18 < ((l14 : Nat) : Int)))
 ((nng (IntKind.i64.wrap (8 * n18)) <|
 ix n18 l14 fun j21 => nn p13 fun a22 =>
 st1 (.int .u8 (IntKind.u8.wrap ((Int.fdiv a4 (2 ^ min (Int.toNat (IntKind.i64.wrap (8 * n18))) (IntKind.u64.bits)))))) (a22.add (j21 * 1)) w19 fun w23 =>
 A20 (((IntKind.i64.wrap (n18 + 1)) : Int)) w23))
 (Q (.int .i64 n16) w19)

def mem_Mem_Write (a0 : Option Addr) (a1_0 : Int) (a1_1 : Int) (a2 : Int) (a3 : Int) (a4 : Int) (w : World) (Q : Value → World → Prop) : Prop :=
 alc [.int .i64 a1_0, .int .i64 a1_1] T.t23 w fun b7 w8 =>
 ldI .i64 ⟨b7, 0, none⟩ w8 fun n9 =>
 ldI .i64 ⟨b7, 1, none⟩ w8 fun n10 =>
 CV P F.mem_Mem_part [.pointer a0, .agg [.int .i64 n9, .int .i64 n10].toArray, .int .i64 a2, .int .i64 a3] w8 fun v11 w12 =>
 ∃ (p13 : Option Addr) (l14 c15 : Nat), ∃ n16 : Int, v11 = .tuple [.slice p13 l14 c15, .int .i64 n16].toArray ∧
 LoopT (fun (s24 : mem_Mem_Write_L58.S) w25 A26 => mem_Mem_Write_l0 a4 Q p13 l14 n16 s24 w25 A26) ((0 : Int)) w12
def mem_Mem_Write_ann : Nat → Option LoopSpec := fun
  | 58 => some mem_Mem_Write_L58
  | _ => none
theorem mem_Mem_Write_eq (a0 : Option Addr) (a1_0 : Int) (a1_1 : Int) (a2 : Int) (a3 : Int) (a4 : Int) (w : World) (Q : Value → World → Prop) : fnX P mem_Mem_Write_ann Tryd.f23 [.pointer a0, .agg [.int .i64 a1_0, .int .i64 a1_1].toArray, .int .i64 a2, .int .i64 a3, .int .u64 a4] w Q = mem_Mem_Write a0 a1_0 a1_1 a2 a3 a4 w Q := by kernel_rfl
theorem mem_Mem_Write_cv {a0 : Option Addr} {a1_0 : Int} {a1_1 : Int} {a2 : Int} {a3 : Int} {a4 : Int} {w : World} {Q : Value → World → Prop} (h : mem_Mem_Write a0 a1_0 a1_1 a2 a3 a4 w Q) : CV P F.mem_Mem_Write [.pointer a0, .agg [.int .i64 a1_0, .int .i64 a1_1].toArray, .int .i64 a2, .int .i64 a3, .int .u64 a4] w Q := CV_of mixed Tryd.func23 (mem_Mem_Write_eq a0 a1_0 a1_1 a2 a3 a4 w Q ▸ h)

/- 24 (*crier/lpi.Lpis).Inv -/

def lpi_Lpis_Inv (a0 : Option Addr) (a1 : Option Addr) (a2 : Int) (w : World) (Q : Value → World → Prop) : Prop :=
 CV P F.lpi_Lpis_index [.pointer a0, .int .i64 a2] w fun v4 w5 =>
 ∃ n6 : Int, ∃ b7 : Bool, v4 = .tuple [.int .i64 n6, .bool b7].toArray ∧
 cnd (!b7)
 (Q (.int .i64 150) w5)
 (nn a0 fun a8 =>
 ldI .i64 (a8.add 2) w5 fun n9 =>
 ldI .i64 ((a8.add 2).add 1) w5 fun n10 =>
 CV P F.mem_Mem_Read [.pointer a1, .agg [.int .i64 n9, .int .i64 n10].toArray, .int .i64 n6, .int .i64 1] w5 fun v11 w12 =>
 ∃ n13 : Int, ∃ n14 : Int, v11 = .tuple [.int .u64 n13, .int .i64 n14].toArray ∧
 nn a0 fun a15 =>
 ldL (a15.add 6) w12 fun p16 l17 c18 =>
 ix n6 l17 fun j19 => nn p16 fun a20 =>
 st1 (.int .u8 (IntKind.u8.wrap (n13))) (a20.add (j19 * 1)) w12 fun w21 =>
 Q (.int .i64 0) w21)
def lpi_Lpis_Inv_ann : Nat → Option LoopSpec := fun _ => none
theorem lpi_Lpis_Inv_eq (a0 : Option Addr) (a1 : Option Addr) (a2 : Int) (w : World) (Q : Value → World → Prop) : fnX P lpi_Lpis_Inv_ann Tryd.f24 [.pointer a0, .pointer a1, .int .i64 a2] w Q = lpi_Lpis_Inv a0 a1 a2 w Q := by kernel_rfl
theorem lpi_Lpis_Inv_cv {a0 : Option Addr} {a1 : Option Addr} {a2 : Int} {w : World} {Q : Value → World → Prop} (h : lpi_Lpis_Inv a0 a1 a2 w Q) : CV P F.lpi_Lpis_Inv [.pointer a0, .pointer a1, .int .i64 a2] w Q := CV_of mixed Tryd.func24 (lpi_Lpis_Inv_eq a0 a1 a2 w Q ▸ h)

/- 25 crier/crierlaw15.begun -/
def crierlaw15_begun_J31 : LoopSpec where
  S := (Option Addr × Nat × Nat)
  emb := fun s => [(2, .slice s.1 s.2.1 s.2.2)]
  ext := fun t => match getL t 2 with
    | some (.slice y38 y39 y40) => some ((y38, y39, y40))
    | _ => none
  slots := [2]
  fits := fun _ => rfl
  ok := by
    intro t s h x hx
    (try dsimp only at h hx)
    split at h
    · cases h
      simp only [List.mem_cons, List.not_mem_nil, or_false] at hx
      rcases hx with rfl <;> assumption
    · cases h

def crierlaw15_begun_L4090 : LoopSpec where
  S := Int
  emb := fun s => [(9, .int .i64 s)]
  ext := fun t => match getL t 9 with
    | some (.int .i64 y57) => some (y57)
    | _ => none
  slots := [9]
  fits := fun _ => rfl
  ok := by
    intro t s h x hx
    (try dsimp only at h hx)
    split at h
    · cases h
      simp only [List.mem_cons, List.not_mem_nil, or_false] at hx
      rcases hx with rfl <;> assumption
    · cases h

def crierlaw15_begun_J1023 : LoopSpec where
  S := Unit
  emb := fun _ => []
  ext := fun _ => some ()
  slots := []
  fits := fun _ => rfl
  ok := by
    intro t s h x hx; cases hx

def crierlaw15_begun_j0 (Q : Value → World → Prop) (b6 : Nat) (b8 : Nat) (w97 : World) : Prop :=
 ldP ⟨b8, 0, none⟩ w97 fun p98 =>
 ldP ⟨b8, 1, none⟩ w97 fun p99 =>
 ldP ⟨b8, 2, none⟩ w97 fun p100 =>
 ldP ⟨b8, 3, none⟩ w97 fun p101 =>
 ldP ⟨b8, 4, none⟩ w97 fun p102 =>
 ldP ⟨b8, 5, none⟩ w97 fun p103 =>
 ldB ⟨b8, 6, none⟩ w97 fun b104 =>
 st1 (.pointer p98) ⟨b6, 0, none⟩ w97 fun w105 =>
 st1 (.pointer p99) ⟨b6, 1, none⟩ w105 fun w106 =>
 st1 (.pointer p100) ⟨b6, 2, none⟩ w106 fun w107 =>
 st1 (.pointer p101) ⟨b6, 3, none⟩ w107 fun w108 =>
 st1 (.pointer p102) ⟨b6, 4, none⟩ w108 fun w109 =>
 st1 (.pointer p103) ⟨b6, 5, none⟩ w109 fun w110 =>
 st1 (.bool b104) ⟨b6, 6, none⟩ w110 fun w111 =>
 ldP ⟨b6, 0, none⟩ w111 fun p112 =>
 ldP ⟨b6, 1, none⟩ w111 fun p113 =>
 ldP ⟨b6, 2, none⟩ w111 fun p114 =>
 ldP ⟨b6, 3, none⟩ w111 fun p115 =>
 ldP ⟨b6, 4, none⟩ w111 fun p116 =>
 ldP ⟨b6, 5, none⟩ w111 fun p117 =>
 ldB ⟨b6, 6, none⟩ w111 fun b118 =>
 Q (.agg [.pointer p112, .pointer p113, .pointer p114, .pointer p115, .pointer p116, .pointer p117, .bool b118].toArray) w111

def crierlaw15_begun_l1 (Q : Value → World → Prop) (b6 : Nat) (b8 : Nat) (b53 : Nat) (n58 : Int) (w59 : World) (A60 : crierlaw15_begun_L4090.S → World → Prop) : Prop :=
 cnd (decide (n58 < 2))
 (alc [.int .i64 0, .int .i64 0] T.t23 w59 fun b61 w62 =>
 alc [.int .i64 0, .int .i64 0] T.t23 w62 fun b63 w64 =>
 st1 (.int .i64 (IntKind.i64.wrap (80 * n58))) ⟨b61, 0, none⟩ w64 fun w65 =>
 st1 (.int .i64 70) ⟨b61, 1, none⟩ w65 fun w66 =>
 st1 (.int .i64 (IntKind.i64.wrap (160 + (IntKind.i64.wrap (20 * n58))))) ⟨b63, 0, none⟩ w66 fun w67 =>
 st1 (.int .i64 9) ⟨b63, 1, none⟩ w67 fun w68 =>
 drw w68 fun w69 =>
 ldP ⟨b8, 0, none⟩ w69 fun p70 =>
 ix n58 2 fun j71 =>
 ldI .i64 (Addr.add ⟨b53, 0, none⟩ (j71 * 1)) w69 fun n72 =>
 ldI .i64 ⟨b61, 0, none⟩ w69 fun n73 =>
 ldI .i64 ⟨b61, 1, none⟩ w69 fun n74 =>
 ldI .i64 ⟨b63, 0, none⟩ w69 fun n75 =>
 ldI .i64 ⟨b63, 1, none⟩ w69 fun n76 =>
 CV P F.lpi_New [.pointer p70, .int .i64 n72, .agg [.int .i64 n73, .int .i64 n74].toArray, .agg [.int .i64 n75, .int .i64 n76].toArray] w69 fun v77 w78 =>
 ∃ p79 : Option Addr, ∃ n80 : Int, v77 = .tuple [.pointer p79, .int .i64 n80].toArray ∧
 ix n58 2 fun j81 =>
 st1 (.pointer p79) (Addr.add ⟨b8, 2, none⟩ (j81 * 1)) w78 fun w82 =>
 drw w82 fun w83 =>
 ldP ⟨b8, 1, none⟩ w83 fun p84 =>
 ix n58 2 fun j85 =>
 ldI .i64 (Addr.add ⟨b53, 0, none⟩ (j85 * 1)) w83 fun n86 =>
 ldI .i64 ⟨b61, 0, none⟩ w83 fun n87 =>
 ldI .i64 ⟨b61, 1, none⟩ w83 fun n88 =>
 ldI .i64 ⟨b63, 0, none⟩ w83 fun n89 =>
 ldI .i64 ⟨b63, 1, none⟩ w83 fun n90 =>
 CV P F.crierref15_New [.pointer p84, .int .i64 n86, .agg [.int .i64 n87, .int .i64 n88].toArray, .agg [.int .i64 n89, .int .i64 n90].toArray] w83 fun v91 w92 =>
 ∃ p93 : Option Addr, ∃ n94 : Int, v91 = .tuple [.pointer p93, .int .i64 n94].toArray ∧
 ix n58 2 fun j95 =>
 st1 (.pointer p93) (Addr.add ⟨b8, 4, none⟩ (j95 * 1)) w92 fun w96 =>
 A60 (((IntKind.i64.wrap (n58 + 1)) : Int)) w96)
 (JoinT (fun (J119 : crierlaw15_begun_J1023.S → World → Prop) =>
  ix 0 2 fun j120 =>
  ldP (Addr.add ⟨b8, 2, none⟩ (j120 * 1)) w59 fun p121 =>
  cnd (!(Option.isNone p121))
  (ix 1 2 fun j122 =>
  ldP (Addr.add ⟨b8, 2, none⟩ (j122 * 1)) w59 fun p123 =>
  st1 (.bool (!(Option.isNone p123))) ⟨b8, 6, none⟩ w59 fun w124 =>
  J119 () w124)
  (st1 (.bool false) ⟨b8, 6, none⟩ w59 fun w125 =>
  J119 () w125))
  fun (s126 : crierlaw15_begun_J1023.S) w127 => crierlaw15_begun_j0 Q b6 b8 w127)

def crierlaw15_begun_j2 (a0 : Int) (a1 : Int) (Q : Value → World → Prop) (b6 : Nat) (b8 : Nat) (p41 : Option Addr) (l42 : Nat) (c43 : Nat) (w44 : World) : Prop :=
 ldP ⟨b8, 0, none⟩ w44 fun p45 =>
 CV P F.mem_Mem_Put [.pointer p45, .agg [.int .i64 0, .int .i64 200].toArray, .slice p41 l42 c43] w44 fun v46 w47 =>
 ∃ n48 : Int, v46 = .int .i64 n48 ∧
 ldP ⟨b8, 1, none⟩ w47 fun p49 =>
 CV P F.crierref04_Mem_Put [.pointer p49, .agg [.int .i64 0, .int .i64 200].toArray, .slice p41 l42 c43] w47 fun v50 w51 =>
 ∃ n52 : Int, v50 = .int .i64 n52 ∧
 (nz 70 <|
 (nz 70 <|
 alc [.int .i64 0, .int .i64 0] T.t101 w51 fun b53 w54 =>
 st1 (.int .i64 (IntKind.i64.wrap (1 + (IntKind.i64.wrap ((Int.tmod a0 70)))))) ⟨b53, 0, none⟩ w54 fun w55 =>
 st1 (.int .i64 (IntKind.i64.wrap (1 + (IntKind.i64.wrap ((Int.tmod a1 70)))))) ⟨b53, 1, none⟩ w55 fun w56 =>
 LoopT (fun (s128 : crierlaw15_begun_L4090.S) w129 A130 => crierlaw15_begun_l1 Q b6 b8 b53 s128 w129 A130) ((0 : Int)) w56))

def crierlaw15_begun (a0 : Int) (a1 : Int) (a2 : Option Addr) (a2_n : Nat) (a2_c : Nat) (w : World) (Q : Value → World → Prop) : Prop :=
 alc [.pointer none, .pointer none, .pointer none, .pointer none, .pointer none, .pointer none, .bool false] T.t51 w fun b6 w7 =>
 alc [.pointer none, .pointer none, .pointer none, .pointer none, .pointer none, .pointer none, .bool false] T.t51 w7 fun b8 w9 =>
 CV P F.crierlaw04_New [.int .i64 200] w9 fun v10 w11 =>
 ∃ p12 : Option Addr, ∃ p13 : Option Addr, v10 = .tuple [.pointer p12, .pointer p13].toArray ∧
 st1 (.pointer p12) ⟨b8, 0, none⟩ w11 fun w14 =>
 st1 (.pointer p13) ⟨b8, 1, none⟩ w14 fun w15 =>
 ldP ⟨b8, 0, none⟩ w15 fun p16 =>
 cnd (Option.isNone p16)
 (ldP ⟨b8, 0, none⟩ w15 fun p17 =>
 ldP ⟨b8, 1, none⟩ w15 fun p18 =>
 ldP ⟨b8, 2, none⟩ w15 fun p19 =>
 ldP ⟨b8, 3, none⟩ w15 fun p20 =>
 ldP ⟨b8, 4, none⟩ w15 fun p21 =>
 ldP ⟨b8, 5, none⟩ w15 fun p22 =>
 ldB ⟨b8, 6, none⟩ w15 fun b23 =>
 st1 (.pointer p17) ⟨b6, 0, none⟩ w15 fun w24 =>
 st1 (.pointer p18) ⟨b6, 1, none⟩ w24 fun w25 =>
 st1 (.pointer p19) ⟨b6, 2, none⟩ w25 fun w26 =>
 st1 (.pointer p20) ⟨b6, 3, none⟩ w26 fun w27 =>
 st1 (.pointer p21) ⟨b6, 4, none⟩ w27 fun w28 =>
 st1 (.pointer p22) ⟨b6, 5, none⟩ w28 fun w29 =>
 st1 (.bool b23) ⟨b6, 6, none⟩ w29 fun w30 =>
 ldP ⟨b6, 0, none⟩ w30 fun p31 =>
 ldP ⟨b6, 1, none⟩ w30 fun p32 =>
 ldP ⟨b6, 2, none⟩ w30 fun p33 =>
 ldP ⟨b6, 3, none⟩ w30 fun p34 =>
 ldP ⟨b6, 4, none⟩ w30 fun p35 =>
 ldP ⟨b6, 5, none⟩ w30 fun p36 =>
 ldB ⟨b6, 6, none⟩ w30 fun b37 =>
 Q (.agg [.pointer p31, .pointer p32, .pointer p33, .pointer p34, .pointer p35, .pointer p36, .bool b37].toArray) w30)
 (JoinT (fun (J131 : crierlaw15_begun_J31.S → World → Prop) =>
  cnd (decide (((a2_n : Nat) : Int) > 200))
  (slL a2 a2_n a2_c 1 none (some 200) none fun p132 l133 c134 =>
  J131 (((p132 : Option Addr), (l133 : Nat), (c134 : Nat))) w15)
  (J131 (((a2 : Option Addr), (a2_n : Nat), (a2_c : Nat))) w15))
  fun (s135 : crierlaw15_begun_J31.S) w136 => crierlaw15_begun_j2 a0 a1 Q b6 b8 s135.1 s135.2.1 s135.2.2 w136)
def crierlaw15_begun_ann : Nat → Option LoopSpec := fun
  | 31 => some crierlaw15_begun_J31
  | 4090 => some crierlaw15_begun_L4090
  | 261778 => some (ordSpec [0, 1, 2, 3, 4, 5, 6, 7, 12, 8, 9, 10, 11, 13, 14])
  | 261779 => some (ordSpec [0, 1, 2, 3, 4, 5, 6, 7, 12, 8, 9, 10, 11, 13, 14])
  | 1023 => some crierlaw15_begun_J1023
  | _ => none
theorem crierlaw15_begun_eq (a0 : Int) (a1 : Int) (a2 : Option Addr) (a2_n : Nat) (a2_c : Nat) (w : World) (Q : Value → World → Prop) : fnX P crierlaw15_begun_ann Tryd.f25 [.int .u8 a0, .int .u8 a1, .slice a2 a2_n a2_c] w Q = crierlaw15_begun a0 a1 a2 a2_n a2_c w Q := by kernel_rfl
theorem crierlaw15_begun_cv {a0 : Int} {a1 : Int} {a2 : Option Addr} {a2_n : Nat} {a2_c : Nat} {w : World} {Q : Value → World → Prop} (h : crierlaw15_begun a0 a1 a2 a2_n a2_c w Q) : CV P F.crierlaw15_begun [.int .u8 a0, .int .u8 a1, .slice a2 a2_n a2_c] w Q := CV_of mixed Tryd.func25 (crierlaw15_begun_eq a0 a1 a2 a2_n a2_c w Q ▸ h)

/- 26 crier/crierlaw15.alike -/
def crierlaw15_alike_L26 : LoopSpec where
  S := Int
  emb := fun s => [(3, .int .i64 s)]
  ext := fun t => match getL t 3 with
    | some (.int .i64 y2) => some (y2)
    | _ => none
  slots := [3]
  fits := fun _ => rfl
  ok := by
    intro t s h x hx
    (try dsimp only at h hx)
    split at h
    · cases h
      simp only [List.mem_cons, List.not_mem_nil, or_false] at hx
      rcases hx with rfl <;> assumption
    · cases h

def crierlaw15_alike_J1682 : LoopSpec where
  S := Bool
  emb := fun s => [(66, .bool s)]
  ext := fun t => match getL t 66 with
    | some (.bool y13) => some (y13)
    | _ => none
  slots := [66]
  fits := fun _ => rfl
  ok := by
    intro t s h x hx
    (try dsimp only at h hx)
    split at h
    · cases h
      simp only [List.mem_cons, List.not_mem_nil, or_false] at hx
      rcases hx with rfl <;> assumption
    · cases h

def crierlaw15_alike_L6734 : LoopSpec where
  S := Int
  emb := fun s => [(6, .int .i64 s)]
  ext := fun t => match getL t 6 with
    | some (.int .i64 y16) => some (y16)
    | _ => none
  slots := [6]
  fits := fun _ => rfl
  ok := by
    intro t s h x hx
    (try dsimp only at h hx)
    split at h
    · cases h
      simp only [List.mem_cons, List.not_mem_nil, or_false] at hx
      rcases hx with rfl <;> assumption
    · cases h

def crierlaw15_alike_J430995 : LoopSpec where
  S := Bool
  emb := fun s => [(112, .bool s)]
  ext := fun t => match getL t 112 with
    | some (.bool y30) => some (y30)
    | _ => none
  slots := [112]
  fits := fun _ => rfl
  ok := by
    intro t s h x hx
    (try dsimp only at h hx)
    split at h
    · cases h
      simp only [List.mem_cons, List.not_mem_nil, or_false] at hx
      rcases hx with rfl <;> assumption
    · cases h

def crierlaw15_alike_j0 (Q : Value → World → Prop) (n17 : Int) (A19 : crierlaw15_alike_L6734.S → World → Prop) (b31 : Bool) (w32 : World) : Prop :=
 cnd b31
 (Q (.bool false) w32)
 (A19 (((IntKind.i64.wrap (n17 + 1)) : Int)) w32)

def crierlaw15_alike_l1 (a0 : Option Addr) (Q : Value → World → Prop) (n3 : Int) (A5 : crierlaw15_alike_L26.S → World → Prop) (p9 : Option Addr) (p12 : Option Addr) (n17 : Int) (w18 : World) (A19 : crierlaw15_alike_L6734.S → World → Prop) : Prop :=
 nn p12 fun a20 =>
 ldI .i64 a20 w18 fun n21 =>
 cnd (decide (n17 ≤ (IntKind.i64.wrap (8192 + n21))))
 (CV P F.lpi_Lpis_Setup [.pointer p9, .int .i64 n17] w18 fun v22 w23 =>
 ∃ b24 : Bool, ∃ n25 : Int, v22 = .tuple [.bool b24, .int .i64 n25].toArray ∧
 CV P F.crierref15_Lpis_Setup [.pointer p12, .int .i64 n17] w23 fun v26 w27 =>
 ∃ b28 : Bool, ∃ n29 : Int, v26 = .tuple [.bool b28, .int .i64 n29].toArray ∧
 JoinT (fun (J33 : crierlaw15_alike_J430995.S → World → Prop) =>
  drw w27 fun w34 =>
  cnd (!(b24 == b28))
  (J33 ((true : Bool)) w34)
  (cnd (n25 != n29)
  (J33 ((true : Bool)) w34)
  (nn a0 fun a35 =>
  ldP a35 w34 fun p36 =>
  nn a0 fun a37 =>
  ldP (a37.add 1) w34 fun p38 =>
  CV P F.lpi_Lpis_Has [.pointer p9, .pointer p36, .int .i64 n17] w34 fun v39 w40 =>
  ∃ b41 : Bool, v39 = .bool b41 ∧
  (ldP (a37.add 1) w40 fun p42 =>
  ((.pointer p42 : Value) = .pointer p38)) ∧
  CV P F.crierref15_Lpis_Has [.pointer p12, .pointer p38, .int .i64 n17] w40 fun v43 w44 =>
  ∃ b45 : Bool, v43 = .bool b45 ∧
  J33 (((!(b41 == b45)) : Bool)) w44)))
  fun (s46 : crierlaw15_alike_J430995.S) w47 => crierlaw15_alike_j0 Q n17 A19 s46 w47)
 (A5 (((IntKind.i64.wrap (n3 + 1)) : Int)) w18)

def crierlaw15_alike_j2 (a0 : Option Addr) (Q : Value → World → Prop) (n3 : Int) (A5 : crierlaw15_alike_L26.S → World → Prop) (p9 : Option Addr) (p12 : Option Addr) (b14 : Bool) (w15 : World) : Prop :=
 cnd b14
 (Q (.bool false) w15)
 (LoopT (fun (s48 : crierlaw15_alike_L6734.S) w49 A50 => crierlaw15_alike_l1 a0 Q n3 A5 p9 p12 s48 w49 A50) ((8191 : Int)) w15)

def crierlaw15_alike_l3 (a0 : Option Addr) (Q : Value → World → Prop) (n3 : Int) (w4 : World) (A5 : crierlaw15_alike_L26.S → World → Prop) : Prop :=
 cnd (decide (n3 < 2))
 (drw w4 fun w6 =>
 nn a0 fun a7 =>
 ix n3 2 fun j8 =>
 ldP (Addr.add (a7.add 2) (j8 * 1)) w6 fun p9 =>
 nn a0 fun a10 =>
 ix n3 2 fun j11 =>
 ldP (Addr.add (a10.add 4) (j11 * 1)) w6 fun p12 =>
 JoinT (fun (J51 : crierlaw15_alike_J1682.S → World → Prop) =>
  drw w6 fun w52 =>
  nn p12 fun a53 =>
  ldB (a53.add 1) w52 fun b54 =>
  CV P F.lpi_Lpis_On [.pointer p9] w52 fun v55 w56 =>
  ∃ b57 : Bool, v55 = .bool b57 ∧
  (ldB (a53.add 1) w56 fun b58 =>
  ((.bool b58 : Value) = .bool b54)) ∧
  cnd (!(b57 == b54))
  (J51 ((true : Bool)) w56)
  (nn p12 fun a59 =>
  ldI .i64 a59 w56 fun n60 =>
  CV P F.lpi_Lpis_Many [.pointer p9] w56 fun v61 w62 =>
  ∃ n63 : Int, v61 = .int .i64 n63 ∧
  (ldI .i64 a59 w62 fun n64 =>
  ((.int .i64 n64 : Value) = .int .i64 n60)) ∧
  cnd (n63 != n60)
  (J51 ((true : Bool)) w62)
  (CV P F.lpi_Lpis_Best [.pointer p9] w62 fun v65 w66 =>
  ∃ n67 : Int, ∃ n68 : Int, ∃ n69 : Int, ∃ b70 : Bool, v65 = .agg [.int .i64 n67, .int .i64 n68, .int .i64 n69, .bool b70].toArray ∧
  CV P F.crierref15_Lpis_Best [.pointer p12] w66 fun v71 w72 =>
  ∃ n73 : Int, ∃ n74 : Int, ∃ n75 : Int, ∃ b76 : Bool, v71 = .agg [.int .i64 n73, .int .i64 n74, .int .i64 n75, .bool b76].toArray ∧
  eqA P .neq T.t43 (.agg [.int .i64 n67, .int .i64 n68, .int .i64 n69, .bool b70].toArray) (.agg [.int .i64 n73, .int .i64 n74, .int .i64 n75, .bool b76].toArray) w72 fun b77 =>
  cnd b77
  (J51 ((true : Bool)) w72)
  (nn a0 fun a78 =>
  ldP a78 w72 fun p79 =>
  nn a0 fun a80 =>
  ldP (a80.add 1) w72 fun p81 =>
  CV P F.lpi_Lpis_Waiting [.pointer p9, .pointer p79] w72 fun v82 w83 =>
  ∃ v84 : Value, v82 = v84 ∧
  (ldP (a80.add 1) w83 fun p85 =>
  ((.pointer p85 : Value) = .pointer p81)) ∧
  CV P F.crierlaw15_list [v84] w83 fun v86 w87 =>
  ∃ (p88 : Option Addr) (l89 c90 : Nat), v86 = .slice p88 l89 c90 ∧
  (ldP (a80.add 1) w87 fun p91 =>
  ((.pointer p91 : Value) = .pointer p81)) ∧
  CV P F.crierref15_Lpis_Waiting [.pointer p12, .pointer p81] w87 fun v92 w93 =>
  ∃ (p94 : Option Addr) (l95 c96 : Nat), v92 = .slice p94 l95 c96 ∧
  CV P F.crierref01_Same [.slice p88 l89 c90, .slice p94 l95 c96] w93 fun v97 w98 =>
  ∃ b99 : Bool, v97 = .bool b99 ∧
  J51 (((!b99) : Bool)) w98))))
  fun (s100 : crierlaw15_alike_J1682.S) w101 => crierlaw15_alike_j2 a0 Q n3 A5 p9 p12 s100 w101)
 (drw w4 fun w102 =>
 nn a0 fun a103 =>
 ldP a103 w102 fun p104 =>
 nn a0 fun a105 =>
 ldP (a105.add 1) w102 fun p106 =>
 CV P F.crierlaw04_Same [.pointer p104, .pointer p106] w102 fun v107 w108 =>
 ∃ b109 : Bool, v107 = .bool b109 ∧
 Q (.bool b109) w108)

def crierlaw15_alike (a0 : Option Addr) (w : World) (Q : Value → World → Prop) : Prop :=
 LoopT (fun (s110 : crierlaw15_alike_L26.S) w111 A112 => crierlaw15_alike_l3 a0 Q s110 w111 A112) ((0 : Int)) w
def crierlaw15_alike_ann : Nat → Option LoopSpec := fun
  | 26 => some crierlaw15_alike_L26
  | 840 => some (ordSpec [0, 1, 2, 3, 4, 5, 6, 7, 8, 9, 10, 11, 12, 13])
  | 1682 => some crierlaw15_alike_J1682
  | 6734 => some crierlaw15_alike_L6734
  | 430995 => some crierlaw15_alike_J430995
  | 861990 => some (ordSpec [0, 1, 2, 3, 4, 5, 6, 7, 8, 9, 10, 11, 12, 13, 14, 16, 17, 18, 19, 20, 21, 15, 22, 23, 24])
  | 3364 => some (ordSpec [0, 2, 3, 4, 5, 1, 6, 7, 8, 10, 11, 12, 13, 9, 14, 15, 16, 17, 19, 18, 20, 21, 22, 23, 24, 25, 26, 27, 28, 31, 32, 33, 34, 35, 29, 30, 36, 37, 38, 39])
  | 14 => some (ordSpec [0, 1, 2, 3, 4, 5, 6, 7, 8, 9])
  | _ => none
theorem crierlaw15_alike_eq (a0 : Option Addr) (w : World) (Q : Value → World → Prop) : fnX P crierlaw15_alike_ann Tryd.f26 [.pointer a0] w Q = crierlaw15_alike a0 w Q := by kernel_rfl
theorem crierlaw15_alike_cv {a0 : Option Addr} {w : World} {Q : Value → World → Prop} (h : crierlaw15_alike a0 w Q) : CV P F.crierlaw15_alike [.pointer a0] w Q := CV_of mixed Tryd.func26 (crierlaw15_alike_eq a0 w Q ▸ h)

/- 27 (*crier/lpi.Lpis).Copy -/

def lpi_Lpis_Copy (a0 : Option Addr) (w : World) (Q : Value → World → Prop) : Prop :=
 nn a0 fun a2 =>
 ldI .i64 a2 w fun n3 =>
 ldB (a2.add 1) w fun b4 =>
 ldI .i64 (a2.add 2) w fun n5 =>
 ldI .i64 (a2.add 3) w fun n6 =>
 ldI .i64 (a2.add 4) w fun n7 =>
 ldI .i64 (a2.add 5) w fun n8 =>
 ldL (a2.add 6) w fun p9 l10 c11 =>
 ldP (a2.add 7) w fun p12 =>
 alc [.int .i64 0, .bool false, .int .i64 0, .int .i64 0, .int .i64 0, .int .i64 0, .slice none 0 0, .pointer none] T.t88 w fun b13 w14 =>
 st1 (.int .i64 n3) ⟨b13, 0, none⟩ w14 fun w15 =>
 st1 (.bool b4) ⟨b13, 1, none⟩ w15 fun w16 =>
 st1 (.int .i64 n5) ⟨b13, 2, none⟩ w16 fun w17 =>
 st1 (.int .i64 n6) ⟨b13, 3, none⟩ w17 fun w18 =>
 st1 (.int .i64 n7) ⟨b13, 4, none⟩ w18 fun w19 =>
 st1 (.int .i64 n8) ⟨b13, 5, none⟩ w19 fun w20 =>
 st1 (.slice p9 l10 c11) ⟨b13, 6, none⟩ w20 fun w21 =>
 st1 (.pointer p12) ⟨b13, 7, none⟩ w21 fun w22 =>
 drw w22 fun w23 =>
 nn a0 fun a24 =>
 ldL (a24.add 6) w23 fun p25 l26 c27 =>
 nn a0 fun a28 =>
 ldP (a28.add 7) w23 fun p29 =>
 CV P F.slices_Clone__byte_byte [.slice p25 l26 c27] w23 fun v30 w31 =>
 ∃ (p32 : Option Addr) (l33 c34 : Nat), v30 = .slice p32 l33 c34 ∧
 (ldP (a28.add 7) w31 fun p35 =>
 ((.pointer p35 : Value) = .pointer p29)) ∧
 CV P F.sets_Set_int_Copy [.pointer p29] w31 fun v36 w37 =>
 ∃ p38 : Option Addr, v36 = .pointer p38 ∧
 st1 (.slice p32 l33 c34) ⟨b13, 6, none⟩ w37 fun w39 =>
 st1 (.pointer p38) ⟨b13, 7, none⟩ w39 fun w40 =>
 Q (.pointer (some ⟨b13, 0, none⟩)) w40
def lpi_Lpis_Copy_ann : Nat → Option LoopSpec := fun
  | 14 => some (ordSpec [0, 1, 2, 3, 5, 6, 7, 8, 4, 9, 10, 11, 12, 13])
  | _ => none
theorem lpi_Lpis_Copy_eq (a0 : Option Addr) (w : World) (Q : Value → World → Prop) : fnX P lpi_Lpis_Copy_ann Tryd.f27 [.pointer a0] w Q = lpi_Lpis_Copy a0 w Q := by kernel_rfl
theorem lpi_Lpis_Copy_cv {a0 : Option Addr} {w : World} {Q : Value → World → Prop} (h : lpi_Lpis_Copy a0 w Q) : CV P F.lpi_Lpis_Copy [.pointer a0] w Q := CV_of mixed Tryd.func27 (lpi_Lpis_Copy_eq a0 w Q ▸ h)

/- 28 (*crier/mem.Mem).Copy -/

def mem_Mem_Copy (a0 : Option Addr) (w : World) (Q : Value → World → Prop) : Prop :=
 nn a0 fun a2 =>
 ldL a2 w fun p3 l4 c5 =>
 CV P F.slices_Clone__byte_byte [.slice p3 l4 c5] w fun v6 w7 =>
 ∃ (p8 : Option Addr) (l9 c10 : Nat), v6 = .slice p8 l9 c10 ∧
 alc [.slice p8 l9 c10] T.t108 w7 fun b11 w12 =>
 Q (.pointer (some ⟨b11, 0, none⟩)) w12
def mem_Mem_Copy_ann : Nat → Option LoopSpec := fun _ => none
theorem mem_Mem_Copy_eq (a0 : Option Addr) (w : World) (Q : Value → World → Prop) : fnX P mem_Mem_Copy_ann Tryd.f28 [.pointer a0] w Q = mem_Mem_Copy a0 w Q := by kernel_rfl
theorem mem_Mem_Copy_cv {a0 : Option Addr} {w : World} {Q : Value → World → Prop} (h : mem_Mem_Copy a0 w Q) : CV P F.mem_Mem_Copy [.pointer a0] w Q := CV_of mixed Tryd.func28 (mem_Mem_Copy_eq a0 w Q ▸ h)

/- 29 (*crier/lpi.Lpis).Set -/
def lpi_Lpis_Set_J62 : LoopSpec where
  S := Unit
  emb := fun _ => []
  ext := fun _ => some ()
  slots := []
  fits := fun _ => rfl
  ok := by
    intro t s h x hx; cases hx

def lpi_Lpis_Set_j0 (Q : Value → World → Prop) (b11 : Bool) (w12 : World) : Prop :=
 Q (.tuple [.bool b11, .int .i64 0].toArray) w12

def lpi_Lpis_Set (a0 : Option Addr) (a1 : Option Addr) (a2 : Int) (a3 : Bool) (w : World) (Q : Value → World → Prop) : Prop :=
 CV P F.lpi_Lpis_index [.pointer a0, .int .i64 a2] w fun v5 w6 =>
 ∃ n7 : Int, ∃ b8 : Bool, v5 = .tuple [.int .i64 n7, .bool b8].toArray ∧
 cnd (!b8)
 (Q (.tuple [.bool false, .int .i64 150].toArray) w6)
 (CV P F.lpi_Lpis_Has [.pointer a0, .pointer a1, .int .i64 a2] w6 fun v9 w10 =>
 ∃ b11 : Bool, v9 = .bool b11 ∧
 JoinT (fun (J13 : lpi_Lpis_Set_J62.S → World → Prop) =>
  nn a0 fun a14 =>
  ldB (a14.add 1) w10 fun b15 =>
  cnd (!b15)
  (CV P F.lpi_Lpis_store [.pointer a0, .pointer a1, .int .i64 n7, .bool a3] w10 fun v16 w17 =>
  v16 = .tuple [].toArray ∧
  J13 () w17)
  (cnd a3
  (nn a0 fun a18 =>
  ldP (a18.add 7) w10 fun p19 =>
  CV P F.sets_Set_int_Put [.pointer p19, .int .i64 n7] w10 fun v20 w21 =>
  ∃ b22 : Bool, v20 = .bool b22 ∧
  J13 () w21)
  (nn a0 fun a23 =>
  ldP (a23.add 7) w10 fun p24 =>
  CV P F.sets_Set_int_Take [.pointer p24, .int .i64 n7] w10 fun v25 w26 =>
  ∃ b27 : Bool, v25 = .bool b27 ∧
  J13 () w26)))
  fun (s28 : lpi_Lpis_Set_J62.S) w29 => lpi_Lpis_Set_j0 Q b11 w29)
def lpi_Lpis_Set_ann : Nat → Option LoopSpec := fun
  | 62 => some lpi_Lpis_Set_J62
  | _ => none
theorem lpi_Lpis_Set_eq (a0 : Option Addr) (a1 : Option Addr) (a2 : Int) (a3 : Bool) (w : World) (Q : Value → World → Prop) : fnX P lpi_Lpis_Set_ann Tryd.f29 [.pointer a0, .pointer a1, .int .i64 a2, .bool a3] w Q = lpi_Lpis_Set a0 a1 a2 a3 w Q := by kernel_rfl
theorem lpi_Lpis_Set_cv {a0 : Option Addr} {a1 : Option Addr} {a2 : Int} {a3 : Bool} {w : World} {Q : Value → World → Prop} (h : lpi_Lpis_Set a0 a1 a2 a3 w Q) : CV P F.lpi_Lpis_Set [.pointer a0, .pointer a1, .int .i64 a2, .bool a3] w Q := CV_of mixed Tryd.func29 (lpi_Lpis_Set_eq a0 a1 a2 a3 w Q ▸ h)

/- 30 (*crier/lpi.Lpis).Disable -/
def lpi_Lpis_Disable_r0 (b3 : Nat) (b5 : Nat) (l13 : Nat) (r14 : Loop) (vs15 : List Value) (w16 : World) (Q17 : Value → World → Prop) : Prop :=
 X.b1 vs15 fun v18 =>
 ∃ n19 : Int, v18 = .int .i64 n19 ∧
 recAt w16 l13 r14 .ready none ∧ setR w16 l13 r14 .busy none fun w20 =>
 ldP ⟨b3, 0, none⟩ w20 fun p21 =>
 nn p21 fun a22 =>
 ldP (a22.add 7) w20 fun p23 =>
 CV P F.sets_Set_int_Take [.pointer p23, .int .i64 n19] w20 fun v24 w25 =>
 ∃ b26 : Bool, v24 = .bool b26 ∧
 ldP ⟨b3, 0, none⟩ w25 fun p27 =>
 ldP ⟨b5, 0, none⟩ w25 fun p28 =>
 CV P F.lpi_Lpis_store [.pointer p27, .pointer p28, .int .i64 n19, .bool true] w25 fun v29 w30 =>
 v29 = .tuple [].toArray ∧
 recAt w30 l13 r14 .busy none ∧ setR w30 l13 r14 .ready none fun w31 => Q17 (.bool true) w31

def lpi_Lpis_Disable (a0 : Option Addr) (a1 : Option Addr) (w : World) (Q : Value → World → Prop) : Prop :=
 alc [.pointer a0] T.t29 w fun b3 w4 =>
 alc [.pointer a1] T.t25 w4 fun b5 w6 =>
 ldP ⟨b3, 0, none⟩ w6 fun p7 =>
 nn p7 fun a8 =>
 ldP (a8.add 7) w6 fun p9 =>
 CV P F.sets_Set_int_All [.pointer p9] w6 fun v10 w11 =>
 ∃ v12 : Value, v10 = v12 ∧
 RF P none 1 (v12) w11 (fun l13 r14 vs15 w16 Q17 => lpi_Lpis_Disable_r0 b3 b5 l13 r14 vs15 w16 Q17) fun mk32 jp33 w34 =>
 jmpX jp33
 (ldP ⟨b3, 0, none⟩ w34 fun p35 =>
 nn p35 fun a36 =>
 st1 (.bool false) (a36.add 1) w34 fun w37 =>
 takeX (mk32 ++ []) w37 fun w38 =>
 Q (.tuple [].toArray) w38)
 (takeX (mk32 ++ []) w34 fun w39 =>
 Q (.tuple [].toArray) w39)
 fun id40 => False
def lpi_Lpis_Disable_ann : Nat → Option LoopSpec := fun _ => none
theorem lpi_Lpis_Disable_eq (a0 : Option Addr) (a1 : Option Addr) (w : World) (Q : Value → World → Prop) : fnX P lpi_Lpis_Disable_ann Tryd.f30 [.pointer a0, .pointer a1] w Q = lpi_Lpis_Disable a0 a1 w Q := by kernel_rfl
theorem lpi_Lpis_Disable_cv {a0 : Option Addr} {a1 : Option Addr} {w : World} {Q : Value → World → Prop} (h : lpi_Lpis_Disable a0 a1 w Q) : CV P F.lpi_Lpis_Disable [.pointer a0, .pointer a1] w Q := CV_of mixed Tryd.func30 (lpi_Lpis_Disable_eq a0 a1 w Q ▸ h)

/- 31 (*crier/lpi.Lpis).InvAll -/
def lpi_Lpis_InvAll_L6 : LoopSpec where
  S := Int
  emb := fun s => [(9, .int .i64 s)]
  ext := fun t => match getL t 9 with
    | some (.int .i64 y5) => some (y5)
    | _ => none
  slots := [9]
  fits := fun _ => rfl
  ok := by
    intro t s h x hx
    (try dsimp only at h hx)
    split at h
    · cases h
      simp only [List.mem_cons, List.not_mem_nil, or_false] at hx
      rcases hx with rfl <;> assumption
    · cases h

def lpi_Lpis_InvAll_l0 (a0 : Option Addr) (a1 : Option Addr) (Q : Value → World → Prop) (n4 : Int) (n6 : Int) (w7 : World) (A8 : lpi_Lpis_InvAll_L6.S → World → Prop) : Prop :=
 cnd (decide (n6 < n4))
 (CV P F.lpi_Lpis_Inv [.pointer a0, .pointer a1, .int .i64 (IntKind.i64.wrap (8192 + n6))] w7 fun v9 w10 =>
 ∃ n11 : Int, v9 = .int .i64 n11 ∧
 A8 (((IntKind.i64.wrap (n6 + 1)) : Int)) w10)
 (Q (.tuple [].toArray) w7)

def lpi_Lpis_InvAll (a0 : Option Addr) (a1 : Option Addr) (w : World) (Q : Value → World → Prop) : Prop :=
 nn a0 fun a3 =>
 ldI .i64 a3 w fun n4 =>
 LoopT (fun (s12 : lpi_Lpis_InvAll_L6.S) w13 A14 => lpi_Lpis_InvAll_l0 a0 a1 Q n4 s12 w13 A14) ((0 : Int)) w
def lpi_Lpis_InvAll_ann : Nat → Option LoopSpec := fun
  | 6 => some lpi_Lpis_InvAll_L6
  | _ => none
theorem lpi_Lpis_InvAll_eq (a0 : Option Addr) (a1 : Option Addr) (w : World) (Q : Value → World → Prop) : fnX P lpi_Lpis_InvAll_ann Tryd.f31 [.pointer a0, .pointer a1] w Q = lpi_Lpis_InvAll a0 a1 w Q := by kernel_rfl
theorem lpi_Lpis_InvAll_cv {a0 : Option Addr} {a1 : Option Addr} {w : World} {Q : Value → World → Prop} (h : lpi_Lpis_InvAll a0 a1 w Q) : CV P F.lpi_Lpis_InvAll [.pointer a0, .pointer a1] w Q := CV_of mixed Tryd.func31 (lpi_Lpis_InvAll_eq a0 a1 w Q ▸ h)

/- 32 crier/crierlaw15.does -/
def crierlaw15_does_J7 : LoopSpec where
  S := Int
  emb := fun s => [(5, .int .i64 s)]
  ext := fun t => match getL t 5 with
    | some (.int .i64 y9) => some (y9)
    | _ => none
  slots := [5]
  fits := fun _ => rfl
  ok := by
    intro t s h x hx
    (try dsimp only at h hx)
    split at h
    · cases h
      simp only [List.mem_cons, List.not_mem_nil, or_false] at hx
      rcases hx with rfl <;> assumption
    · cases h

def crierlaw15_does_J125 : LoopSpec where
  S := Unit
  emb := fun _ => []
  ext := fun _ => some ()
  slots := []
  fits := fun _ => rfl
  ok := by
    intro t s h x hx; cases hx

def crierlaw15_does_j0 (Q : Value → World → Prop) (w20 : World) : Prop :=
 Q (.bool true) w20

def crierlaw15_does_J64251 : LoopSpec where
  S := Bool
  emb := fun s => [(4, .bool s)]
  ext := fun t => match getL t 4 with
    | some (.bool y56) => some (y56)
    | _ => none
  slots := [4]
  fits := fun _ => rfl
  ok := by
    intro t s h x hx
    (try dsimp only at h hx)
    split at h
    · cases h
      simp only [List.mem_cons, List.not_mem_nil, or_false] at hx
      rcases hx with rfl <;> assumption
    · cases h

def crierlaw15_does_j1 (Q : Value → World → Prop) (b57 : Bool) (w58 : World) : Prop :=
 Q (.bool b57) w58

def crierlaw15_does_J4112382 : LoopSpec where
  S := Bool
  emb := fun s => [(4, .bool s)]
  ext := fun t => match getL t 4 with
    | some (.bool y101) => some (y101)
    | _ => none
  slots := [4]
  fits := fun _ => rfl
  ok := by
    intro t s h x hx
    (try dsimp only at h hx)
    split at h
    · cases h
      simp only [List.mem_cons, List.not_mem_nil, or_false] at hx
      rcases hx with rfl <;> assumption
    · cases h

def crierlaw15_does_j2 (Q : Value → World → Prop) (b102 : Bool) (w103 : World) : Prop :=
 Q (.bool b102) w103

def crierlaw15_does_J16449534 : LoopSpec where
  S := Bool
  emb := fun s => [(4, .bool s)]
  ext := fun t => match getL t 4 with
    | some (.bool y135) => some (y135)
    | _ => none
  slots := [4]
  fits := fun _ => rfl
  ok := by
    intro t s h x hx
    (try dsimp only at h hx)
    split at h
    · cases h
      simp only [List.mem_cons, List.not_mem_nil, or_false] at hx
      rcases hx with rfl <;> assumption
    · cases h

def crierlaw15_does_j3 (Q : Value → World → Prop) (b136 : Bool) (w137 : World) : Prop :=
 Q (.bool b136) w137

def crierlaw15_does_j4 (a0 : Option Addr) (Q : Value → World → Prop) (b7 : Nat) (n10 : Int) (w11 : World) : Prop :=
 drw w11 fun w12 =>
 nn a0 fun a13 =>
 ix n10 2 fun j14 =>
 ldP (Addr.add (a13.add 2) (j14 * 1)) w12 fun p15 =>
 nn a0 fun a16 =>
 ix n10 2 fun j17 =>
 ldP (Addr.add (a16.add 4) (j17 * 1)) w12 fun p18 =>
 ldI .i64 ⟨b7, 0, none⟩ w12 fun n19 =>
 JoinT (fun (J21 : crierlaw15_does_J125.S → World → Prop) =>
  cnd (n19 == 1)
  (nn a0 fun a22 =>
  ldP a22 w12 fun p23 =>
  CV P F.lpi_Lpis_Enable [.pointer p15, .pointer p23] w12 fun v24 w25 =>
  v24 = .tuple [].toArray ∧
  nn a0 fun a26 =>
  ldP (a26.add 1) w25 fun p27 =>
  CV P F.crierref15_Lpis_Enable [.pointer p18, .pointer p27] w25 fun v28 w29 =>
  v28 = .tuple [].toArray ∧
  J21 () w29)
  (cnd (n19 == 2)
  (nn a0 fun a30 =>
  ldP a30 w12 fun p31 =>
  CV P F.lpi_Lpis_Disable [.pointer p15, .pointer p31] w12 fun v32 w33 =>
  v32 = .tuple [].toArray ∧
  nn a0 fun a34 =>
  ldP (a34.add 1) w33 fun p35 =>
  CV P F.crierref15_Lpis_Disable [.pointer p18, .pointer p35] w33 fun v36 w37 =>
  v36 = .tuple [].toArray ∧
  J21 () w37)
  (cnd (n19 == 3)
  (drw w12 fun w38 =>
  nn a0 fun a39 =>
  ldP a39 w38 fun p40 =>
  ldI .i64 ⟨b7, 1, none⟩ w38 fun n41 =>
  ldB ⟨b7, 2, none⟩ w38 fun b42 =>
  CV P F.lpi_Lpis_Set [.pointer p15, .pointer p40, .int .i64 n41, .bool b42] w38 fun v43 w44 =>
  ∃ b45 : Bool, ∃ n46 : Int, v43 = .tuple [.bool b45, .int .i64 n46].toArray ∧
  drw w44 fun w47 =>
  nn a0 fun a48 =>
  ldP (a48.add 1) w47 fun p49 =>
  ldI .i64 ⟨b7, 1, none⟩ w47 fun n50 =>
  ldB ⟨b7, 2, none⟩ w47 fun b51 =>
  CV P F.crierref15_Lpis_Set [.pointer p18, .pointer p49, .int .i64 n50, .bool b51] w47 fun v52 w53 =>
  ∃ b54 : Bool, ∃ n55 : Int, v52 = .tuple [.bool b54, .int .i64 n55].toArray ∧
  JoinT (fun (J59 : crierlaw15_does_J64251.S → World → Prop) =>
   cnd (b45 == b54)
   (J59 (((n46 == n55) : Bool)) w53)
   (J59 ((false : Bool)) w53))
   fun (s60 : crierlaw15_does_J64251.S) w61 => crierlaw15_does_j1 Q s60 w61)
  (cnd (n19 == 4)
  (drw w12 fun w62 =>
  nn a0 fun a63 =>
  ldP a63 w62 fun p64 =>
  ldI .i64 ⟨b7, 1, none⟩ w62 fun n65 =>
  nn a0 fun a66 =>
  ldP (a66.add 1) w62 fun p67 =>
  ldI .i64 ⟨b7, 1, none⟩ w62 fun n68 =>
  CV P F.lpi_Lpis_Inv [.pointer p15, .pointer p64, .int .i64 n65] w62 fun v69 w70 =>
  ∃ n71 : Int, v69 = .int .i64 n71 ∧
  (ldI .i64 ⟨b7, 1, none⟩ w70 fun n72 =>
  ((.int .i64 n72 : Value) = .int .i64 n68)) ∧
  (ldP (a66.add 1) w70 fun p73 =>
  ((.pointer p73 : Value) = .pointer p67)) ∧
  CV P F.crierref15_Lpis_Inv [.pointer p18, .pointer p67, .int .i64 n68] w70 fun v74 w75 =>
  ∃ n76 : Int, v74 = .int .i64 n76 ∧
  Q (.bool (n71 == n76)) w75)
  (cnd (n19 == 5)
  (nn a0 fun a77 =>
  ldP a77 w12 fun p78 =>
  CV P F.lpi_Lpis_InvAll [.pointer p15, .pointer p78] w12 fun v79 w80 =>
  v79 = .tuple [].toArray ∧
  nn a0 fun a81 =>
  ldP (a81.add 1) w80 fun p82 =>
  CV P F.crierref15_Lpis_InvAll [.pointer p18, .pointer p82] w80 fun v83 w84 =>
  v83 = .tuple [].toArray ∧
  J21 () w84)
  (cnd (n19 == 6)
  (drw w12 fun w85 =>
  nn a0 fun a86 =>
  ldP a86 w85 fun p87 =>
  ldI .i64 ⟨b7, 1, none⟩ w85 fun n88 =>
  ldI .u8 ⟨b7, 4, none⟩ w85 fun n89 =>
  CV P F.mem_Mem_Write [.pointer p87, .agg [.int .i64 0, .int .i64 200].toArray, .int .i64 (IntKind.i64.wrap (n88 - 8192)), .int .i64 1, .int .u64 (IntKind.u64.wrap (n89))] w85 fun v90 w91 =>
  ∃ n92 : Int, v90 = .int .i64 n92 ∧
  drw w91 fun w93 =>
  nn a0 fun a94 =>
  ldP (a94.add 1) w93 fun p95 =>
  ldI .i64 ⟨b7, 1, none⟩ w93 fun n96 =>
  ldI .u8 ⟨b7, 4, none⟩ w93 fun n97 =>
  CV P F.crierref04_Mem_Write [.pointer p95, .agg [.int .i64 0, .int .i64 200].toArray, .int .i64 (IntKind.i64.wrap (n96 - 8192)), .int .i64 1, .int .u64 (IntKind.u64.wrap (n97))] w93 fun v98 w99 =>
  ∃ n100 : Int, v98 = .int .i64 n100 ∧
  J21 () w99)
  (cnd (n19 == 7)
  (JoinT (fun (J104 : crierlaw15_does_J4112382.S → World → Prop) =>
   drw w12 fun w105 =>
   nn a0 fun a106 =>
   ldP a106 w105 fun p107 =>
   ldI .i64 ⟨b7, 1, none⟩ w105 fun n108 =>
   nn a0 fun a109 =>
   ix (IntKind.i64.wrap (1 - n10)) 2 fun j110 =>
   ldP (Addr.add (a109.add 2) (j110 * 1)) w105 fun p111 =>
   nn a0 fun a112 =>
   ldP (a112.add 1) w105 fun p113 =>
   ldI .i64 ⟨b7, 1, none⟩ w105 fun n114 =>
   nn a0 fun a115 =>
   ix (IntKind.i64.wrap (1 - n10)) 2 fun j116 =>
   ldP (Addr.add (a115.add 4) (j116 * 1)) w105 fun p117 =>
   CV P F.lpi_Move [.pointer p107, .int .i64 n108, .pointer p15, .pointer p111] w105 fun v118 w119 =>
   ∃ b120 : Bool, v118 = .bool b120 ∧
   (ldP (Addr.add (a115.add 4) (j116 * 1)) w119 fun p121 =>
   ((.pointer p121 : Value) = .pointer p117)) ∧
   (ldI .i64 ⟨b7, 1, none⟩ w119 fun n122 =>
   ((.int .i64 n122 : Value) = .int .i64 n114)) ∧
   (ldP (a112.add 1) w119 fun p123 =>
   ((.pointer p123 : Value) = .pointer p113)) ∧
   CV P F.crierref15_Move [.pointer p113, .int .i64 n114, .pointer p18, .pointer p117, .bool true] w119 fun v124 w125 =>
   ∃ b126 : Bool, v124 = .bool b126 ∧
   cnd (b120 == b126)
   (nn a0 fun a127 =>
   ldP a127 w125 fun p128 =>
   ldI .i64 ⟨b7, 1, none⟩ w125 fun n129 =>
   CV P F.lpi_Move [.pointer p128, .int .i64 n129, .pointer p15, .pointer p15] w125 fun v130 w131 =>
   ∃ b132 : Bool, v130 = .bool b132 ∧
   J104 (((!b132) : Bool)) w131)
   (J104 ((false : Bool)) w125))
   fun (s133 : crierlaw15_does_J4112382.S) w134 => crierlaw15_does_j2 Q s133 w134)
  (cnd (n19 == 8)
  (JoinT (fun (J138 : crierlaw15_does_J16449534.S → World → Prop) =>
   drw w12 fun w139 =>
   nn a0 fun a140 =>
   ldP a140 w139 fun p141 =>
   nn a0 fun a142 =>
   ix (IntKind.i64.wrap (1 - n10)) 2 fun j143 =>
   ldP (Addr.add (a142.add 2) (j143 * 1)) w139 fun p144 =>
   nn a0 fun a145 =>
   ldP (a145.add 1) w139 fun p146 =>
   nn a0 fun a147 =>
   ix (IntKind.i64.wrap (1 - n10)) 2 fun j148 =>
   ldP (Addr.add (a147.add 4) (j148 * 1)) w139 fun p149 =>
   CV P F.lpi_MoveAll [.pointer p141, .pointer p15, .pointer p144] w139 fun v150 w151 =>
   ∃ n152 : Int, v150 = .int .i64 n152 ∧
   (ldP (Addr.add (a147.add 4) (j148 * 1)) w151 fun p153 =>
   ((.pointer p153 : Value) = .pointer p149)) ∧
   (ldP (a145.add 1) w151 fun p154 =>
   ((.pointer p154 : Value) = .pointer p146)) ∧
   CV P F.crierref15_MoveAll [.pointer p146, .pointer p18, .pointer p149, .bool true] w151 fun v155 w156 =>
   ∃ n157 : Int, v155 = .int .i64 n157 ∧
   cnd (n152 == n157)
   (nn a0 fun a158 =>
   ldP a158 w156 fun p159 =>
   CV P F.lpi_MoveAll [.pointer p159, .pointer p15, .pointer p15] w156 fun v160 w161 =>
   ∃ n162 : Int, v160 = .int .i64 n162 ∧
   J138 (((n162 == 0) : Bool)) w161)
   (J138 ((false : Bool)) w156))
   fun (s163 : crierlaw15_does_J16449534.S) w164 => crierlaw15_does_j3 Q s163 w164)
  (J21 () w12)))))))))
  fun (s165 : crierlaw15_does_J125.S) w166 => crierlaw15_does_j0 Q w166

def crierlaw15_does (a0 : Option Addr) (a1_0 : Int) (a1_1 : Int) (a1_2 : Bool) (a1_3 : Bool) (a1_4 : Int) (w : World) (Q : Value → World → Prop) : Prop :=
 alc [.int .i64 a1_0, .int .i64 a1_1, .bool a1_2, .bool a1_3, .int .u8 a1_4] T.t70 w fun b7 w8 =>
 JoinT (fun (J167 : crierlaw15_does_J7.S → World → Prop) =>
  ldB ⟨b7, 3, none⟩ w8 fun b168 =>
  cnd b168
  (J167 ((1 : Int)) w8)
  (J167 ((0 : Int)) w8))
  fun (s169 : crierlaw15_does_J7.S) w170 => crierlaw15_does_j4 a0 Q b7 s169 w170
def crierlaw15_does_ann : Nat → Option LoopSpec := fun
  | 7 => some crierlaw15_does_J7
  | 30 => some (ordSpec [0, 1, 2, 3, 4, 5, 6, 7, 8, 9, 10, 11, 12, 13])
  | 125 => some crierlaw15_does_J125
  | 32124 => some (ordSpec [0, 1, 2, 3, 4, 5, 6, 7, 8, 9, 10, 11, 12, 13, 14])
  | 64250 => some (ordSpec [0, 1, 2, 3, 4, 5, 6, 7, 8, 9, 10, 11, 12, 13, 14])
  | 64251 => some crierlaw15_does_J64251
  | 128508 => some (ordSpec [0, 1, 2, 3, 4, 5, 6, 8, 9, 10, 11, 12, 13, 14, 7, 15, 16, 17])
  | 2056188 => some (ordSpec [0, 1, 2, 3, 4, 5, 6, 7, 8, 9, 10, 11])
  | 2056189 => some (ordSpec [0, 1, 2, 3, 4, 5, 6, 7, 8, 9, 10, 11])
  | 4112382 => some crierlaw15_does_J4112382
  | 8224764 => some (ordSpec [0, 1, 2, 3, 4, 5, 6, 7, 8, 9, 10, 11, 12, 13, 15, 16, 17, 18, 19, 20, 21, 22, 23, 24, 25, 26, 27, 28, 14, 29, 30, 31, 32, 33, 34, 35, 36, 37, 38, 39, 40, 41, 42, 43])
  | 16449534 => some crierlaw15_does_J16449534
  | 32899068 => some (ordSpec [0, 1, 2, 3, 4, 5, 6, 7, 8, 9, 10, 11, 13, 14, 15, 16, 17, 18, 19, 20, 21, 22, 23, 24, 12, 25, 26, 27, 28, 29, 30, 31, 32, 33, 34, 35, 36, 37])
  | _ => none
theorem crierlaw15_does_eq (a0 : Option Addr) (a1_0 : Int) (a1_1 : Int) (a1_2 : Bool) (a1_3 : Bool) (a1_4 : Int) (w : World) (Q : Value → World → Prop) : fnX P crierlaw15_does_ann Tryd.f32 [.pointer a0, .agg [.int .i64 a1_0, .int .i64 a1_1, .bool a1_2, .bool a1_3, .int .u8 a1_4].toArray] w Q = crierlaw15_does a0 a1_0 a1_1 a1_2 a1_3 a1_4 w Q := by kernel_rfl
theorem crierlaw15_does_cv {a0 : Option Addr} {a1_0 : Int} {a1_1 : Int} {a1_2 : Bool} {a1_3 : Bool} {a1_4 : Int} {w : World} {Q : Value → World → Prop} (h : crierlaw15_does a0 a1_0 a1_1 a1_2 a1_3 a1_4 w Q) : CV P F.crierlaw15_does [.pointer a0, .agg [.int .i64 a1_0, .int .i64 a1_1, .bool a1_2, .bool a1_3, .int .u8 a1_4].toArray] w Q := CV_of mixed Tryd.func32 (crierlaw15_does_eq a0 a1_0 a1_1 a1_2 a1_3 a1_4 w Q ▸ h)

/- 33 (*crier/crierref15.Lpis).Has -/

def crierref15_Lpis_Has (a0 : Option Addr) (a1 : Option Addr) (a2 : Int) (w : World) (Q : Value → World → Prop) : Prop :=
 CV P F.crierref15_Lpis_Of [.pointer a0, .int .i64 a2] w fun v4 w5 =>
 ∃ b6 : Bool, v4 = .bool b6 ∧
 cnd (!b6)
 (Q (.bool false) w5)
 (nn a0 fun a7 =>
 ldB (a7.add 1) w5 fun b8 =>
 cnd b8
 (nn a0 fun a9 =>
 ldL (a9.add 7) w5 fun p10 l11 c12 =>
 CV P F.crierref01_Has [.slice p10 l11 c12, .int .i64 (IntKind.i64.wrap (a2 - 8192))] w5 fun v13 w14 =>
 ∃ b15 : Bool, v13 = .bool b15 ∧
 Q (.bool b15) w14)
 (CV P F.crierref15_Lpis_bit [.pointer a0, .pointer a1, .int .i64 (IntKind.i64.wrap (a2 - 8192))] w5 fun v16 w17 =>
 ∃ b18 : Bool, v16 = .bool b18 ∧
 Q (.bool b18) w17))
def crierref15_Lpis_Has_ann : Nat → Option LoopSpec := fun _ => none
theorem crierref15_Lpis_Has_eq (a0 : Option Addr) (a1 : Option Addr) (a2 : Int) (w : World) (Q : Value → World → Prop) : fnX P crierref15_Lpis_Has_ann Tryd.f33 [.pointer a0, .pointer a1, .int .i64 a2] w Q = crierref15_Lpis_Has a0 a1 a2 w Q := by kernel_rfl
theorem crierref15_Lpis_Has_cv {a0 : Option Addr} {a1 : Option Addr} {a2 : Int} {w : World} {Q : Value → World → Prop} (h : crierref15_Lpis_Has a0 a1 a2 w Q) : CV P F.crierref15_Lpis_Has [.pointer a0, .pointer a1, .int .i64 a2] w Q := CV_of mixed Tryd.func33 (crierref15_Lpis_Has_eq a0 a1 a2 w Q ▸ h)

/- 34 crier/mem.New -/
def mem_New_J6 : LoopSpec where
  S := Bool
  emb := fun s => [(9, .bool s)]
  ext := fun t => match getL t 9 with
    | some (.bool y2) => some (y2)
    | _ => none
  slots := [9]
  fits := fun _ => rfl
  ok := by
    intro t s h x hx
    (try dsimp only at h hx)
    split at h
    · cases h
      simp only [List.mem_cons, List.not_mem_nil, or_false] at hx
      rcases hx with rfl <;> assumption
    · cases h

def mem_New_j0 (a0 : Int) (Q : Value → World → Prop) (b3 : Bool) (w4 : World) : Prop :=
 cnd b3
 (Q (.tuple [.pointer none, .int .i64 1].toArray) w4)
 (runS P (Instr.makeSlice T.t46 (.int .i64 a0) (.int .i64 a0)) w4 fun p5 l6 c7 w8 =>
 alc [.slice p5 l6 c7] T.t108 w8 fun b9 w10 =>
 Q (.tuple [.pointer (some ⟨b9, 0, none⟩), .int .i64 0].toArray) w10)

def mem_New (a0 : Int) (w : World) (Q : Value → World → Prop) : Prop :=
 JoinT (fun (J11 : mem_New_J6.S → World → Prop) =>
  cnd (decide (a0 < 0))
  (J11 ((true : Bool)) w)
  (J11 (((decide (a0 > 131072)) : Bool)) w))
  fun (s12 : mem_New_J6.S) w13 => mem_New_j0 a0 Q s12 w13
def mem_New_ann : Nat → Option LoopSpec := fun
  | 6 => some mem_New_J6
  | _ => none
theorem mem_New_eq (a0 : Int) (w : World) (Q : Value → World → Prop) : fnX P mem_New_ann Tryd.f34 [.int .i64 a0] w Q = mem_New a0 w Q := by kernel_rfl
theorem mem_New_cv {a0 : Int} {w : World} {Q : Value → World → Prop} (h : mem_New a0 w Q) : CV P F.mem_New [.int .i64 a0] w Q := CV_of mixed Tryd.func34 (mem_New_eq a0 w Q ▸ h)

/- 35 (*crier/lpi.Lpis).Enable -/
def lpi_Lpis_Enable_L58 : LoopSpec where
  S := Int
  emb := fun s => [(16, .int .i64 s)]
  ext := fun t => match getL t 16 with
    | some (.int .i64 y9) => some (y9)
    | _ => none
  slots := [16]
  fits := fun _ => rfl
  ok := by
    intro t s h x hx
    (try dsimp only at h hx)
    split at h
    · cases h
      simp only [List.mem_cons, List.not_mem_nil, or_false] at hx
      rcases hx with rfl <;> assumption
    · cases h

def lpi_Lpis_Enable_J934 : LoopSpec where
  S := Unit
  emb := fun _ => []
  ext := fun _ => some ()
  slots := []
  fits := fun _ => rfl
  ok := by
    intro t s h x hx; cases hx

def lpi_Lpis_Enable_j0 (n10 : Int) (A12 : lpi_Lpis_Enable_L58.S → World → Prop) (w13 : World) : Prop :=
 A12 (((IntKind.i64.wrap (n10 + 1)) : Int)) w13

def lpi_Lpis_Enable_l1 (a0 : Option Addr) (a1 : Option Addr) (Q : Value → World → Prop) (n8 : Int) (n10 : Int) (w11 : World) (A12 : lpi_Lpis_Enable_L58.S → World → Prop) : Prop :=
 cnd (decide (n10 < n8))
 (JoinT (fun (J14 : lpi_Lpis_Enable_J934.S → World → Prop) =>
  CV P F.lpi_Lpis_stored [.pointer a0, .pointer a1, .int .i64 n10] w11 fun v15 w16 =>
  ∃ b17 : Bool, v15 = .bool b17 ∧
  cnd b17
  (nn a0 fun a18 =>
  ldP (a18.add 7) w16 fun p19 =>
  CV P F.sets_Set_int_Put [.pointer p19, .int .i64 n10] w16 fun v20 w21 =>
  ∃ b22 : Bool, v20 = .bool b22 ∧
  CV P F.lpi_Lpis_store [.pointer a0, .pointer a1, .int .i64 n10, .bool false] w21 fun v23 w24 =>
  v23 = .tuple [].toArray ∧
  J14 () w24)
  (J14 () w16))
  fun (s25 : lpi_Lpis_Enable_J934.S) w26 => lpi_Lpis_Enable_j0 n10 A12 w26)
 (CV P F.lpi_Lpis_InvAll [.pointer a0, .pointer a1] w11 fun v27 w28 =>
 v27 = .tuple [].toArray ∧
 Q (.tuple [].toArray) w28)

def lpi_Lpis_Enable (a0 : Option Addr) (a1 : Option Addr) (w : World) (Q : Value → World → Prop) : Prop :=
 nn a0 fun a3 =>
 ldB (a3.add 1) w fun b4 =>
 cnd b4
 (Q (.tuple [].toArray) w)
 (nn a0 fun a5 =>
 st1 (.bool true) (a5.add 1) w fun w6 =>
 nn a0 fun a7 =>
 ldI .i64 a7 w6 fun n8 =>
 LoopT (fun (s29 : lpi_Lpis_Enable_L58.S) w30 A31 => lpi_Lpis_Enable_l1 a0 a1 Q n8 s29 w30 A31) ((0 : Int)) w6)
def lpi_Lpis_Enable_ann : Nat → Option LoopSpec := fun
  | 58 => some lpi_Lpis_Enable_L58
  | 934 => some lpi_Lpis_Enable_J934
  | _ => none
theorem lpi_Lpis_Enable_eq (a0 : Option Addr) (a1 : Option Addr) (w : World) (Q : Value → World → Prop) : fnX P lpi_Lpis_Enable_ann Tryd.f35 [.pointer a0, .pointer a1] w Q = lpi_Lpis_Enable a0 a1 w Q := by kernel_rfl
theorem lpi_Lpis_Enable_cv {a0 : Option Addr} {a1 : Option Addr} {w : World} {Q : Value → World → Prop} (h : lpi_Lpis_Enable a0 a1 w Q) : CV P F.lpi_Lpis_Enable [.pointer a0, .pointer a1] w Q := CV_of mixed Tryd.func35 (lpi_Lpis_Enable_eq a0 a1 w Q ▸ h)

/- 36 (*crier/mem.Mem).Read -/
def mem_Mem_Read_L122 : LoopSpec where
  S := Int × Int
  emb := fun s => [(12, .int .u64 s.1), (25, .int .i64 s.2)]
  ext := fun t => match getL t 12, getL t 25 with
    | some (.int .u64 y16), some (.int .i64 y17) => some (y16, y17)
    | _, _ => none
  slots := [12, 25]
  fits := fun _ => rfl
  ok := by
    intro t s h x hx
    (try dsimp only at h hx)
    split at h
    · cases h
      simp only [List.mem_cons, List.not_mem_nil, or_false] at hx
      rcases hx with rfl | rfl <;> assumption
    · cases h

def mem_Mem_Read_l0 (Q : Value → World → Prop) (p12 : Option Addr) (l13 : Nat) (n15 : Int) (n18 : Int) (n19 : Int) (w20 : World) (A21 : mem_Mem_Read_L122.S → World → Prop) : Prop :=
 cnd (decide (n19 < ((l13 : Nat) : Int)))
 (ix n19 l13 fun j22 => nn p12 fun a23 =>
 ldI .u8 (a23.add (j22 * 1)) w20 fun n24 =>
 (nng (IntKind.i64.wrap (8 * n19)) <|
 A21 (((bitX .or .u64 n18 (IntKind.u64.wrap ((IntKind.u64.wrap (n24)) * 2 ^ min (Int.toNat (IntKind.i64.wrap (8 * n19))) (IntKind.u64.bits)))) : Int), ((IntKind.i64.wrap (n19 + 1)) : Int)) w20))
 (Q (.tuple [.int .u64 n18, .int .i64 n15].toArray) w20)

def mem_Mem_Read (a0 : Option Addr) (a1_0 : Int) (a1_1 : Int) (a2 : Int) (a3 : Int) (w : World) (Q : Value → World → Prop) : Prop :=
 alc [.int .i64 a1_0, .int .i64 a1_1] T.t23 w fun b6 w7 =>
 ldI .i64 ⟨b6, 0, none⟩ w7 fun n8 =>
 ldI .i64 ⟨b6, 1, none⟩ w7 fun n9 =>
 CV P F.mem_Mem_part [.pointer a0, .agg [.int .i64 n8, .int .i64 n9].toArray, .int .i64 a2, .int .i64 a3] w7 fun v10 w11 =>
 ∃ (p12 : Option Addr) (l13 c14 : Nat), ∃ n15 : Int, v10 = .tuple [.slice p12 l13 c14, .int .i64 n15].toArray ∧
 LoopT (fun (s25 : mem_Mem_Read_L122.S) w26 A27 => mem_Mem_Read_l0 Q p12 l13 n15 s25.1 s25.2 w26 A27) ((0 : Int), (0 : Int)) w11
def mem_Mem_Read_ann : Nat → Option LoopSpec := fun
  | 122 => some mem_Mem_Read_L122
  | _ => none
theorem mem_Mem_Read_eq (a0 : Option Addr) (a1_0 : Int) (a1_1 : Int) (a2 : Int) (a3 : Int) (w : World) (Q : Value → World → Prop) : fnX P mem_Mem_Read_ann Tryd.f36 [.pointer a0, .agg [.int .i64 a1_0, .int .i64 a1_1].toArray, .int .i64 a2, .int .i64 a3] w Q = mem_Mem_Read a0 a1_0 a1_1 a2 a3 w Q := by kernel_rfl
theorem mem_Mem_Read_cv {a0 : Option Addr} {a1_0 : Int} {a1_1 : Int} {a2 : Int} {a3 : Int} {w : World} {Q : Value → World → Prop} (h : mem_Mem_Read a0 a1_0 a1_1 a2 a3 w Q) : CV P F.mem_Mem_Read [.pointer a0, .agg [.int .i64 a1_0, .int .i64 a1_1].toArray, .int .i64 a2, .int .i64 a3] w Q := CV_of mixed Tryd.func36 (mem_Mem_Read_eq a0 a1_0 a1_1 a2 a3 w Q ▸ h)

/- 37 (*crier/mem.Mem).Holds -/
def mem_Mem_Holds_J3 : LoopSpec where
  S := Bool
  emb := fun s => [(4, .bool s)]
  ext := fun t => match getL t 4 with
    | some (.bool y6) => some (y6)
    | _ => none
  slots := [4]
  fits := fun _ => rfl
  ok := by
    intro t s h x hx
    (try dsimp only at h hx)
    split at h
    · cases h
      simp only [List.mem_cons, List.not_mem_nil, or_false] at hx
      rcases hx with rfl <;> assumption
    · cases h

def mem_Mem_Holds_j0 (Q : Value → World → Prop) (b7 : Bool) (w8 : World) : Prop :=
 Q (.bool b7) w8

def mem_Mem_Holds (a0 : Option Addr) (a1_0 : Int) (a1_1 : Int) (w : World) (Q : Value → World → Prop) : Prop :=
 alc [.int .i64 a1_0, .int .i64 a1_1] T.t23 w fun b4 w5 =>
 JoinT (fun (J9 : mem_Mem_Holds_J3.S → World → Prop) =>
  drw w5 fun w10 =>
  ldI .i64 ⟨b4, 0, none⟩ w10 fun n11 =>
  cnd (decide (n11 ≥ 0))
  (ldI .i64 ⟨b4, 1, none⟩ w10 fun n12 =>
  cnd (decide (n12 ≥ 0))
  (ldI .i64 ⟨b4, 1, none⟩ w10 fun n13 =>
  nn a0 fun a14 =>
  ldL a14 w10 fun p15 l16 c17 =>
  cnd (decide (n13 ≤ ((l16 : Nat) : Int)))
  (ldI .i64 ⟨b4, 0, none⟩ w10 fun n18 =>
  nn a0 fun a19 =>
  ldL a19 w10 fun p20 l21 c22 =>
  ldI .i64 ⟨b4, 1, none⟩ w10 fun n23 =>
  J9 (((decide (n18 ≤ (IntKind.i64.wrap (((l21 : Nat) : Int) - n23)))) : Bool)) w10)
  (J9 ((false : Bool)) w10))
  (J9 ((false : Bool)) w10))
  (J9 ((false : Bool)) w10))
  fun (s24 : mem_Mem_Holds_J3.S) w25 => mem_Mem_Holds_j0 Q s24 w25
def mem_Mem_Holds_ann : Nat → Option LoopSpec := fun
  | 3 => some mem_Mem_Holds_J3
  | 6 => some (ordSpec [0, 1, 2, 3, 4, 5, 6, 7, 8, 9, 10, 11, 12, 13, 14, 15, 16, 17, 18, 19, 20, 21, 22, 23, 24, 25, 26, 27, 28, 29, 30, 31])
  | _ => none
theorem mem_Mem_Holds_eq (a0 : Option Addr) (a1_0 : Int) (a1_1 : Int) (w : World) (Q : Value → World → Prop) : fnX P mem_Mem_Holds_ann Tryd.f37 [.pointer a0, .agg [.int .i64 a1_0, .int .i64 a1_1].toArray] w Q = mem_Mem_Holds a0 a1_0 a1_1 w Q := by kernel_rfl
theorem mem_Mem_Holds_cv {a0 : Option Addr} {a1_0 : Int} {a1_1 : Int} {w : World} {Q : Value → World → Prop} (h : mem_Mem_Holds a0 a1_0 a1_1 w Q) : CV P F.mem_Mem_Holds [.pointer a0, .agg [.int .i64 a1_0, .int .i64 a1_1].toArray] w Q := CV_of mixed Tryd.func37 (mem_Mem_Holds_eq a0 a1_0 a1_1 w Q ▸ h)

/- 38 crier/sets.Of[int] -/
def sets_Of_int_L58 : LoopSpec where
  S := Int
  emb := fun s => [(10, .int .i64 s)]
  ext := fun t => match getL t 10 with
    | some (.int .i64 y6) => some (y6)
    | _ => none
  slots := [10]
  fits := fun _ => rfl
  ok := by
    intro t s h x hx
    (try dsimp only at h hx)
    split at h
    · cases h
      simp only [List.mem_cons, List.not_mem_nil, or_false] at hx
      rcases hx with rfl <;> assumption
    · cases h

def sets_Of_int_l0 (a0 : Option Addr) (a0_n : Nat) (Q : Value → World → Prop) (b4 : Nat) (n7 : Int) (w8 : World) (A9 : sets_Of_int_L58.S → World → Prop) : Prop :=
 cnd (decide (n7 < ((a0_n : Nat) : Int)))
 (ix n7 a0_n fun j10 => nn a0 fun a11 =>
 ldI .i64 (a11.add (j10 * 1)) w8 fun n12 =>
 CV P F.sets_Set_int_Put [.pointer (some ⟨b4, 0, none⟩), .int .i64 n12] w8 fun v13 w14 =>
 ∃ b15 : Bool, v13 = .bool b15 ∧
 A9 (((IntKind.i64.wrap (n7 + 1)) : Int)) w14)
 (Q (.pointer (some ⟨b4, 0, none⟩)) w8)

def sets_Of_int (a0 : Option Addr) (a0_n : Nat) (a0_c : Nat) (w : World) (Q : Value → World → Prop) : Prop :=
 alc [.slice none 0 0] T.t117 w fun b4 w5 =>
 LoopT (fun (s16 : sets_Of_int_L58.S) w17 A18 => sets_Of_int_l0 a0 a0_n Q b4 s16 w17 A18) ((0 : Int)) w5
def sets_Of_int_ann : Nat → Option LoopSpec := fun
  | 58 => some sets_Of_int_L58
  | _ => none
theorem sets_Of_int_eq (a0 : Option Addr) (a0_n : Nat) (a0_c : Nat) (w : World) (Q : Value → World → Prop) : fnX P sets_Of_int_ann Tryd.f38 [.slice a0 a0_n a0_c] w Q = sets_Of_int a0 a0_n a0_c w Q := by kernel_rfl
theorem sets_Of_int_cv {a0 : Option Addr} {a0_n : Nat} {a0_c : Nat} {w : World} {Q : Value → World → Prop} (h : sets_Of_int a0 a0_n a0_c w Q) : CV P F.sets_Of_int [.slice a0 a0_n a0_c] w Q := CV_of mixed Tryd.func38 (sets_Of_int_eq a0 a0_n a0_c w Q ▸ h)

/- 39 (*crier/crierref04.Mem).Holds -/
def crierref04_Mem_Holds_J3 : LoopSpec where
  S := Bool
  emb := fun s => [(4, .bool s)]
  ext := fun t => match getL t 4 with
    | some (.bool y6) => some (y6)
    | _ => none
  slots := [4]
  fits := fun _ => rfl
  ok := by
    intro t s h x hx
    (try dsimp only at h hx)
    split at h
    · cases h
      simp only [List.mem_cons, List.not_mem_nil, or_false] at hx
      rcases hx with rfl <;> assumption
    · cases h

def crierref04_Mem_Holds_j0 (Q : Value → World → Prop) (b7 : Bool) (w8 : World) : Prop :=
 Q (.bool b7) w8

def crierref04_Mem_Holds (a0 : Option Addr) (a1_0 : Int) (a1_1 : Int) (w : World) (Q : Value → World → Prop) : Prop :=
 alc [.int .i64 a1_0, .int .i64 a1_1] T.t23 w fun b4 w5 =>
 JoinT (fun (J9 : crierref04_Mem_Holds_J3.S → World → Prop) =>
  drw w5 fun w10 =>
  ldI .i64 ⟨b4, 0, none⟩ w10 fun n11 =>
  cnd (decide (n11 ≥ 0))
  (ldI .i64 ⟨b4, 1, none⟩ w10 fun n12 =>
  cnd (decide (n12 ≥ 0))
  (ldI .i64 ⟨b4, 1, none⟩ w10 fun n13 =>
  nn a0 fun a14 =>
  ldL a14 w10 fun p15 l16 c17 =>
  cnd (decide (n13 ≤ ((l16 : Nat) : Int)))
  (ldI .i64 ⟨b4, 0, none⟩ w10 fun n18 =>
  nn a0 fun a19 =>
  ldL a19 w10 fun p20 l21 c22 =>
  ldI .i64 ⟨b4, 1, none⟩ w10 fun n23 =>
  J9 (((decide (n18 ≤ (IntKind.i64.wrap (((l21 : Nat) : Int) - n23)))) : Bool)) w10)
  (J9 ((false : Bool)) w10))
  (J9 ((false : Bool)) w10))
  (J9 ((false : Bool)) w10))
  fun (s24 : crierref04_Mem_Holds_J3.S) w25 => crierref04_Mem_Holds_j0 Q s24 w25
def crierref04_Mem_Holds_ann : Nat → Option LoopSpec := fun
  | 3 => some crierref04_Mem_Holds_J3
  | 6 => some (ordSpec [0, 1, 2, 3, 4, 5, 6, 7, 8, 9, 10, 11, 12, 13, 14, 15, 16, 17, 18, 19, 20, 21, 22, 23, 24, 25, 26, 27, 28, 29, 30, 31])
  | _ => none
theorem crierref04_Mem_Holds_eq (a0 : Option Addr) (a1_0 : Int) (a1_1 : Int) (w : World) (Q : Value → World → Prop) : fnX P crierref04_Mem_Holds_ann Tryd.f39 [.pointer a0, .agg [.int .i64 a1_0, .int .i64 a1_1].toArray] w Q = crierref04_Mem_Holds a0 a1_0 a1_1 w Q := by kernel_rfl
theorem crierref04_Mem_Holds_cv {a0 : Option Addr} {a1_0 : Int} {a1_1 : Int} {w : World} {Q : Value → World → Prop} (h : crierref04_Mem_Holds a0 a1_0 a1_1 w Q) : CV P F.crierref04_Mem_Holds [.pointer a0, .agg [.int .i64 a1_0, .int .i64 a1_1].toArray] w Q := CV_of mixed Tryd.func39 (crierref04_Mem_Holds_eq a0 a1_0 a1_1 w Q ▸ h)

/- 40 (*crier/lpi.Lpis).Waiting$1 -/
def lpi_Lpis_Waiting_1_L6 : LoopSpec where
  S := Int
  emb := fun s => [(10, .int .i64 s)]
  ext := fun t => match getL t 10 with
    | some (.int .i64 y7) => some (y7)
    | _ => none
  slots := [10]
  fits := fun _ => rfl
  ok := by
    intro t s h x hx
    (try dsimp only at h hx)
    split at h
    · cases h
      simp only [List.mem_cons, List.not_mem_nil, or_false] at hx
      rcases hx with rfl <;> assumption
    · cases h

def lpi_Lpis_Waiting_1_J819 : LoopSpec where
  S := Bool
  emb := fun s => [(24, .bool s)]
  ext := fun t => match getL t 24 with
    | some (.bool y11) => some (y11)
    | _ => none
  slots := [24]
  fits := fun _ => rfl
  ok := by
    intro t s h x hx
    (try dsimp only at h hx)
    split at h
    · cases h
      simp only [List.mem_cons, List.not_mem_nil, or_false] at hx
      rcases hx with rfl <;> assumption
    · cases h

def lpi_Lpis_Waiting_1_j0 (Q : Value → World → Prop) (n8 : Int) (A10 : lpi_Lpis_Waiting_1_L6.S → World → Prop) (b12 : Bool) (w13 : World) : Prop :=
 cnd b12
 (Q (.tuple [].toArray) w13)
 (A10 (((IntKind.i64.wrap (n8 + 1)) : Int)) w13)

def lpi_Lpis_Waiting_1_l1 (a0 : Value) (f0 : Addr) (f1 : Addr) (Q : Value → World → Prop) (n6 : Int) (n8 : Int) (w9 : World) (A10 : lpi_Lpis_Waiting_1_L6.S → World → Prop) : Prop :=
 cnd (decide (n8 < n6))
 (JoinT (fun (J14 : lpi_Lpis_Waiting_1_J819.S → World → Prop) =>
  ldP f0 w9 fun p15 =>
  ldP f1 w9 fun p16 =>
  CV P F.lpi_Lpis_Has [.pointer p15, .pointer p16, .int .i64 (IntKind.i64.wrap (8192 + n8))] w9 fun v17 w18 =>
  ∃ b19 : Bool, v17 = .bool b19 ∧
  cnd b19
  (callVal P a0 [.int .i64 (IntKind.i64.wrap (8192 + n8))] w18 fun v20 w21 =>
  ∃ b22 : Bool, v20 = .bool b22 ∧
  J14 (((!b22) : Bool)) w21)
  (J14 ((false : Bool)) w18))
  fun (s23 : lpi_Lpis_Waiting_1_J819.S) w24 => lpi_Lpis_Waiting_1_j0 Q n8 A10 s23 w24)
 (Q (.tuple [].toArray) w9)

def lpi_Lpis_Waiting_1 (a0 : Value) (f0 : Addr) (f1 : Addr) (w : World) (Q : Value → World → Prop) : Prop :=
 ldP f0 w fun p4 =>
 nn p4 fun a5 =>
 ldI .i64 a5 w fun n6 =>
 LoopT (fun (s25 : lpi_Lpis_Waiting_1_L6.S) w26 A27 => lpi_Lpis_Waiting_1_l1 a0 f0 f1 Q n6 s25 w26 A27) ((0 : Int)) w
def lpi_Lpis_Waiting_1_ann : Nat → Option LoopSpec := fun
  | 6 => some lpi_Lpis_Waiting_1_L6
  | 819 => some lpi_Lpis_Waiting_1_J819
  | _ => none
theorem lpi_Lpis_Waiting_1_eq (a0 : Value) (f0 : Addr) (f1 : Addr) (w : World) (Q : Value → World → Prop) : fnX P lpi_Lpis_Waiting_1_ann Tryd.f40 [a0, .pointer (some f0), .pointer (some f1)] w Q = lpi_Lpis_Waiting_1 a0 f0 f1 w Q := by kernel_rfl
theorem lpi_Lpis_Waiting_1_cv {a0 : Value} {f0 : Addr} {f1 : Addr} {w : World} {Q : Value → World → Prop} (h : lpi_Lpis_Waiting_1 a0 f0 f1 w Q) : CV P F.lpi_Lpis_Waiting_1 [a0, .pointer (some f0), .pointer (some f1)] w Q := CV_of mixed Tryd.func40 (lpi_Lpis_Waiting_1_eq a0 f0 f1 w Q ▸ h)

/- 41 (*crier/sets.Set[int]).All -/

def sets_Set_int_All (a0 : Option Addr) (w : World) (Q : Value → World → Prop) : Prop :=
 CV P F.sets_Set_int_From [.pointer a0, .int .i64 0] w fun v2 w3 =>
 ∃ v4 : Value, v2 = v4 ∧
 Q (v4) w3
def sets_Set_int_All_ann : Nat → Option LoopSpec := fun _ => none
theorem sets_Set_int_All_eq (a0 : Option Addr) (w : World) (Q : Value → World → Prop) : fnX P sets_Set_int_All_ann Tryd.f41 [.pointer a0] w Q = sets_Set_int_All a0 w Q := by kernel_rfl
theorem sets_Set_int_All_cv {a0 : Option Addr} {w : World} {Q : Value → World → Prop} (h : sets_Set_int_All a0 w Q) : CV P F.sets_Set_int_All [.pointer a0] w Q := CV_of mixed Tryd.func41 (sets_Set_int_All_eq a0 w Q ▸ h)

/- 42 crier/prio.Before -/
def prio_Before_J3 : LoopSpec where
  S := Bool
  emb := fun s => [(8, .bool s)]
  ext := fun t => match getL t 8 with
    | some (.bool y5) => some (y5)
    | _ => none
  slots := [8]
  fits := fun _ => rfl
  ok := by
    intro t s h x hx
    (try dsimp only at h hx)
    split at h
    · cases h
      simp only [List.mem_cons, List.not_mem_nil, or_false] at hx
      rcases hx with rfl <;> assumption
    · cases h

def prio_Before_j0 (Q : Value → World → Prop) (b6 : Bool) (w7 : World) : Prop :=
 Q (.bool b6) w7

def prio_Before (a0 : Int) (a1 : Int) (a2 : Int) (a3 : Int) (w : World) (Q : Value → World → Prop) : Prop :=
 JoinT (fun (J8 : prio_Before_J3.S → World → Prop) =>
  cnd (decide (a0 < a2))
  (J8 ((true : Bool)) w)
  (cnd (a0 == a2)
  (J8 (((decide (a1 < a3)) : Bool)) w)
  (J8 ((false : Bool)) w)))
  fun (s9 : prio_Before_J3.S) w10 => prio_Before_j0 Q s9 w10
def prio_Before_ann : Nat → Option LoopSpec := fun
  | 3 => some prio_Before_J3
  | _ => none
theorem prio_Before_eq (a0 : Int) (a1 : Int) (a2 : Int) (a3 : Int) (w : World) (Q : Value → World → Prop) : fnX P prio_Before_ann Tryd.f42 [.int .i64 a0, .int .i64 a1, .int .i64 a2, .int .i64 a3] w Q = prio_Before a0 a1 a2 a3 w Q := by kernel_rfl
theorem prio_Before_cv {a0 : Int} {a1 : Int} {a2 : Int} {a3 : Int} {w : World} {Q : Value → World → Prop} (h : prio_Before a0 a1 a2 a3 w Q) : CV P F.prio_Before [.int .i64 a0, .int .i64 a1, .int .i64 a2, .int .i64 a3] w Q := CV_of mixed Tryd.func42 (prio_Before_eq a0 a1 a2 a3 w Q ▸ h)

/- 43 (*crier/lpi.Lpis).index -/
def lpi_Lpis_index_J3 : LoopSpec where
  S := Int × Bool
  emb := fun s => [(4, .int .i64 s.1), (5, .bool s.2)]
  ext := fun t => match getL t 4, getL t 5 with
    | some (.int .i64 y3), some (.bool y4) => some (y3, y4)
    | _, _ => none
  slots := [4, 5]
  fits := fun _ => rfl
  ok := by
    intro t s h x hx
    (try dsimp only at h hx)
    split at h
    · cases h
      simp only [List.mem_cons, List.not_mem_nil, or_false] at hx
      rcases hx with rfl | rfl <;> assumption
    · cases h

def lpi_Lpis_index_j0 (Q : Value → World → Prop) (n5 : Int) (b6 : Bool) (w7 : World) : Prop :=
 Q (.tuple [.int .i64 n5, .bool b6].toArray) w7

def lpi_Lpis_index (a0 : Option Addr) (a1 : Int) (w : World) (Q : Value → World → Prop) : Prop :=
 JoinT (fun (J8 : lpi_Lpis_index_J3.S → World → Prop) =>
  drw w fun w9 =>
  cnd (decide (a1 ≥ 8192))
  (nn a0 fun a10 =>
  ldI .i64 a10 w9 fun n11 =>
  J8 (((IntKind.i64.wrap (a1 - 8192)) : Int), ((decide ((IntKind.i64.wrap (a1 - 8192)) < n11)) : Bool)) w9)
  (J8 (((IntKind.i64.wrap (a1 - 8192)) : Int), (false : Bool)) w9))
  fun (s12 : lpi_Lpis_index_J3.S) w13 => lpi_Lpis_index_j0 Q s12.1 s12.2 w13
def lpi_Lpis_index_ann : Nat → Option LoopSpec := fun
  | 3 => some lpi_Lpis_index_J3
  | 6 => some (ordSpec [0, 1, 2, 3, 4, 5, 6, 7, 8, 9, 10, 11, 12, 13, 14])
  | _ => none
theorem lpi_Lpis_index_eq (a0 : Option Addr) (a1 : Int) (w : World) (Q : Value → World → Prop) : fnX P lpi_Lpis_index_ann Tryd.f43 [.pointer a0, .int .i64 a1] w Q = lpi_Lpis_index a0 a1 w Q := by kernel_rfl
theorem lpi_Lpis_index_cv {a0 : Option Addr} {a1 : Int} {w : World} {Q : Value → World → Prop} (h : lpi_Lpis_index a0 a1 w Q) : CV P F.lpi_Lpis_index [.pointer a0, .int .i64 a1] w Q := CV_of mixed Tryd.func43 (lpi_Lpis_index_eq a0 a1 w Q ▸ h)

/- 44 crier/prio.Real -/

def prio_Real (a0 : Int) (w : World) (Q : Value → World → Prop) : Prop :=
 Q (.int .i64 (bitX .and .i64 a0 248)) w
def prio_Real_ann : Nat → Option LoopSpec := fun _ => none
theorem prio_Real_eq (a0 : Int) (w : World) (Q : Value → World → Prop) : fnX P prio_Real_ann Tryd.f44 [.int .i64 a0] w Q = prio_Real a0 w Q := by kernel_rfl
theorem prio_Real_cv {a0 : Int} {w : World} {Q : Value → World → Prop} (h : prio_Real a0 w Q) : CV P F.prio_Real [.int .i64 a0] w Q := CV_of mixed Tryd.func44 (prio_Real_eq a0 w Q ▸ h)

/- 45 (*crier/sets.Set[int]).Has -/
def sets_Set_int_Has_J3 : LoopSpec where
  S := Bool
  emb := fun s => [(4, .bool s)]
  ext := fun t => match getL t 4 with
    | some (.bool y3) => some (y3)
    | _ => none
  slots := [4]
  fits := fun _ => rfl
  ok := by
    intro t s h x hx
    (try dsimp only at h hx)
    split at h
    · cases h
      simp only [List.mem_cons, List.not_mem_nil, or_false] at hx
      rcases hx with rfl <;> assumption
    · cases h

def sets_Set_int_Has_j0 (Q : Value → World → Prop) (b4 : Bool) (w5 : World) : Prop :=
 Q (.bool b4) w5

def sets_Set_int_Has (a0 : Option Addr) (a1 : Int) (w : World) (Q : Value → World → Prop) : Prop :=
 JoinT (fun (J6 : sets_Set_int_Has_J3.S → World → Prop) =>
  cnd (decide (a1 ≥ 0))
  (nn a0 fun a7 =>
  ldL a7 w fun p8 l9 c10 =>
  cnd (decide (a1 < (IntKind.i64.wrap (64 * ((l9 : Nat) : Int)))))
  (nn a0 fun a11 =>
  ldL a11 w fun p12 l13 c14 =>
  (nz 64 <|
  ix (IntKind.i64.wrap (Int.tdiv a1 64)) l13 fun j15 => nn p12 fun a16 =>
  ldI .u64 (a16.add (j15 * 1)) w fun n17 =>
  (nz 64 <|
  (nng (Int.tmod (IntKind.u64.wrap (a1)) 64) <|
  J6 ((((bitX .and .u64 (Int.fdiv n17 (2 ^ min (Int.toNat (Int.tmod (IntKind.u64.wrap (a1)) 64)) (IntKind.u64.bits))) 1) == 1) : Bool)) w))))
  (J6 ((false : Bool)) w))
  (J6 ((false : Bool)) w))
  fun (s18 : sets_Set_int_Has_J3.S) w19 => sets_Set_int_Has_j0 Q s18 w19
def sets_Set_int_Has_ann : Nat → Option LoopSpec := fun
  | 3 => some sets_Set_int_Has_J3
  | _ => none
theorem sets_Set_int_Has_eq (a0 : Option Addr) (a1 : Int) (w : World) (Q : Value → World → Prop) : fnX P sets_Set_int_Has_ann Tryd.f45 [.pointer a0, .int .i64 a1] w Q = sets_Set_int_Has a0 a1 w Q := by kernel_rfl
theorem sets_Set_int_Has_cv {a0 : Option Addr} {a1 : Int} {w : World} {Q : Value → World → Prop} (h : sets_Set_int_Has a0 a1 w Q) : CV P F.sets_Set_int_Has [.pointer a0, .int .i64 a1] w Q := CV_of mixed Tryd.func45 (sets_Set_int_Has_eq a0 a1 w Q ▸ h)

/- 46 (*crier/lpi.Lpis).stored -/

def lpi_Lpis_stored (a0 : Option Addr) (a1 : Option Addr) (a2 : Int) (w : World) (Q : Value → World → Prop) : Prop :=
 nn a0 fun a4 =>
 ldI .i64 (a4.add 4) w fun n5 =>
 ldI .i64 ((a4.add 4).add 1) w fun n6 =>
 (nz 8 <|
 CV P F.mem_Mem_Read [.pointer a1, .agg [.int .i64 n5, .int .i64 n6].toArray, .int .i64 (IntKind.i64.wrap (Int.tdiv a2 8)), .int .i64 1] w fun v7 w8 =>
 ∃ n9 : Int, ∃ n10 : Int, v7 = .tuple [.int .u64 n9, .int .i64 n10].toArray ∧
 (nz 8 <|
 (nng (Int.tmod a2 8) <|
 Q (.bool ((bitX .and .u64 (Int.fdiv n9 (2 ^ min (Int.toNat (Int.tmod a2 8)) (IntKind.u64.bits))) 1) == 1)) w8)))
def lpi_Lpis_stored_ann : Nat → Option LoopSpec := fun _ => none
theorem lpi_Lpis_stored_eq (a0 : Option Addr) (a1 : Option Addr) (a2 : Int) (w : World) (Q : Value → World → Prop) : fnX P lpi_Lpis_stored_ann Tryd.f46 [.pointer a0, .pointer a1, .int .i64 a2] w Q = lpi_Lpis_stored a0 a1 a2 w Q := by kernel_rfl
theorem lpi_Lpis_stored_cv {a0 : Option Addr} {a1 : Option Addr} {a2 : Int} {w : World} {Q : Value → World → Prop} (h : lpi_Lpis_stored a0 a1 a2 w Q) : CV P F.lpi_Lpis_stored [.pointer a0, .pointer a1, .int .i64 a2] w Q := CV_of mixed Tryd.func46 (lpi_Lpis_stored_eq a0 a1 a2 w Q ▸ h)

/- 47 (*crier/mem.Mem).part -/

def mem_Mem_part (a0 : Option Addr) (a1_0 : Int) (a1_1 : Int) (a2 : Int) (a3 : Int) (w : World) (Q : Value → World → Prop) : Prop :=
 alc [.int .i64 a1_0, .int .i64 a1_1] T.t23 w fun b6 w7 =>
 ldI .i64 ⟨b6, 0, none⟩ w7 fun n8 =>
 ldI .i64 ⟨b6, 1, none⟩ w7 fun n9 =>
 CV P F.mem_Mem_Holds [.pointer a0, .agg [.int .i64 n8, .int .i64 n9].toArray] w7 fun v10 w11 =>
 ∃ b12 : Bool, v10 = .bool b12 ∧
 cnd (!b12)
 (Q (.tuple [.slice none 0 0, .int .i64 42].toArray) w11)
 (ldI .i64 ⟨b6, 1, none⟩ w11 fun n13 =>
 CV P F.mem_May [.int .i64 n13, .int .i64 a2, .int .i64 a3] w11 fun v14 w15 =>
 ∃ n16 : Int, v14 = .int .i64 n16 ∧
 cnd (n16 != 0)
 (Q (.tuple [.slice none 0 0, .int .i64 n16].toArray) w15)
 (drw w15 fun w17 =>
 nn a0 fun a18 =>
 ldL a18 w17 fun p19 l20 c21 =>
 ldI .i64 ⟨b6, 0, none⟩ w17 fun n22 =>
 ldI .i64 ⟨b6, 0, none⟩ w17 fun n23 =>
 slL p19 l20 c21 1 (some (IntKind.i64.wrap (n22 + a2))) (some (IntKind.i64.wrap ((IntKind.i64.wrap (n23 + a2)) + a3))) none fun p24 l25 c26 =>
 Q (.tuple [.slice p24 l25 c26, .int .i64 0].toArray) w17))
def mem_Mem_part_ann : Nat → Option LoopSpec := fun
  | 30 => some (ordSpec [0, 1, 2, 3, 4, 5, 6, 7, 8, 9, 10, 11, 12, 13, 14, 15, 16])
  | _ => none
theorem mem_Mem_part_eq (a0 : Option Addr) (a1_0 : Int) (a1_1 : Int) (a2 : Int) (a3 : Int) (w : World) (Q : Value → World → Prop) : fnX P mem_Mem_part_ann Tryd.f47 [.pointer a0, .agg [.int .i64 a1_0, .int .i64 a1_1].toArray, .int .i64 a2, .int .i64 a3] w Q = mem_Mem_part a0 a1_0 a1_1 a2 a3 w Q := by kernel_rfl
theorem mem_Mem_part_cv {a0 : Option Addr} {a1_0 : Int} {a1_1 : Int} {a2 : Int} {a3 : Int} {w : World} {Q : Value → World → Prop} (h : mem_Mem_part a0 a1_0 a1_1 a2 a3 w Q) : CV P F.mem_Mem_part [.pointer a0, .agg [.int .i64 a1_0, .int .i64 a1_1].toArray, .int .i64 a2, .int .i64 a3] w Q := CV_of mixed Tryd.func47 (mem_Mem_part_eq a0 a1_0 a1_1 a2 a3 w Q ▸ h)

/- 48 (*crier/mem.Mem).Put -/
def mem_Mem_Put_J6 : LoopSpec where
  S := Bool
  emb := fun s => [(17, .bool s)]
  ext := fun t => match getL t 17 with
    | some (.bool y9) => some (y9)
    | _ => none
  slots := [17]
  fits := fun _ => rfl
  ok := by
    intro t s h x hx
    (try dsimp only at h hx)
    split at h
    · cases h
      simp only [List.mem_cons, List.not_mem_nil, or_false] at hx
      rcases hx with rfl <;> assumption
    · cases h

def mem_Mem_Put_j0 (a0 : Option Addr) (a2 : Option Addr) (a2_n : Nat) (a2_c : Nat) (Q : Value → World → Prop) (b7 : Nat) (b10 : Bool) (w11 : World) : Prop :=
 cnd b10
 (Q (.int .i64 42) w11)
 (drw w11 fun w12 =>
 nn a0 fun a13 =>
 ldL a13 w12 fun p14 l15 c16 =>
 ldI .i64 ⟨b7, 0, none⟩ w12 fun n17 =>
 slL p14 l15 c16 1 (some n17) none none fun p18 l19 c20 =>
 runI P (Builtin.copy_ #[T.t46, T.t46] T.t3 [.slice p18 l19 c20, .slice a2 a2_n a2_c].toArray) w12 fun n21 w22 =>
 Q (.int .i64 0) w22)

def mem_Mem_Put (a0 : Option Addr) (a1_0 : Int) (a1_1 : Int) (a2 : Option Addr) (a2_n : Nat) (a2_c : Nat) (w : World) (Q : Value → World → Prop) : Prop :=
 alc [.int .i64 a1_0, .int .i64 a1_1] T.t23 w fun b7 w8 =>
 JoinT (fun (J23 : mem_Mem_Put_J6.S → World → Prop) =>
  ldI .i64 ⟨b7, 0, none⟩ w8 fun n24 =>
  ldI .i64 ⟨b7, 1, none⟩ w8 fun n25 =>
  CV P F.mem_Mem_Holds [.pointer a0, .agg [.int .i64 n24, .int .i64 n25].toArray] w8 fun v26 w27 =>
  ∃ b28 : Bool, v26 = .bool b28 ∧
  cnd (!b28)
  (J23 ((true : Bool)) w27)
  (ldI .i64 ⟨b7, 1, none⟩ w27 fun n29 =>
  J23 (((decide (((a2_n : Nat) : Int) > n29)) : Bool)) w27))
  fun (s30 : mem_Mem_Put_J6.S) w31 => mem_Mem_Put_j0 a0 a2 a2_n a2_c Q b7 s30 w31
def mem_Mem_Put_ann : Nat → Option LoopSpec := fun
  | 6 => some mem_Mem_Put_J6
  | 14 => some (ordSpec [0, 1, 2, 3, 4, 5, 6, 7, 8])
  | _ => none
theorem mem_Mem_Put_eq (a0 : Option Addr) (a1_0 : Int) (a1_1 : Int) (a2 : Option Addr) (a2_n : Nat) (a2_c : Nat) (w : World) (Q : Value → World → Prop) : fnX P mem_Mem_Put_ann Tryd.f48 [.pointer a0, .agg [.int .i64 a1_0, .int .i64 a1_1].toArray, .slice a2 a2_n a2_c] w Q = mem_Mem_Put a0 a1_0 a1_1 a2 a2_n a2_c w Q := by kernel_rfl
theorem mem_Mem_Put_cv {a0 : Option Addr} {a1_0 : Int} {a1_1 : Int} {a2 : Option Addr} {a2_n : Nat} {a2_c : Nat} {w : World} {Q : Value → World → Prop} (h : mem_Mem_Put a0 a1_0 a1_1 a2 a2_n a2_c w Q) : CV P F.mem_Mem_Put [.pointer a0, .agg [.int .i64 a1_0, .int .i64 a1_1].toArray, .slice a2 a2_n a2_c] w Q := CV_of mixed Tryd.func48 (mem_Mem_Put_eq a0 a1_0 a1_1 a2 a2_n a2_c w Q ▸ h)

/- 49 (*crier/crierref04.Mem).Put -/
def crierref04_Mem_Put_J6 : LoopSpec where
  S := Bool
  emb := fun s => [(18, .bool s)]
  ext := fun t => match getL t 18 with
    | some (.bool y9) => some (y9)
    | _ => none
  slots := [18]
  fits := fun _ => rfl
  ok := by
    intro t s h x hx
    (try dsimp only at h hx)
    split at h
    · cases h
      simp only [List.mem_cons, List.not_mem_nil, or_false] at hx
      rcases hx with rfl <;> assumption
    · cases h

def crierref04_Mem_Put_L58 : LoopSpec where
  S := Int
  emb := fun s => [(7, .int .i64 s)]
  ext := fun t => match getL t 7 with
    | some (.int .i64 y12) => some (y12)
    | _ => none
  slots := [7]
  fits := fun _ => rfl
  ok := by
    intro t s h x hx
    (try dsimp only at h hx)
    split at h
    · cases h
      simp only [List.mem_cons, List.not_mem_nil, or_false] at hx
      rcases hx with rfl <;> assumption
    · cases h

def crierref04_Mem_Put_l0 (a0 : Option Addr) (a2 : Option Addr) (a2_n : Nat) (Q : Value → World → Prop) (b7 : Nat) (n13 : Int) (w14 : World) (A15 : crierref04_Mem_Put_L58.S → World → Prop) : Prop :=
 cnd (decide (n13 < ((a2_n : Nat) : Int)))
 (drw w14 fun w16 =>
 nn a0 fun a17 =>
 ldL a17 w16 fun p18 l19 c20 =>
 ldI .i64 ⟨b7, 0, none⟩ w16 fun n21 =>
 ix n13 a2_n fun j22 => nn a2 fun a23 =>
 ldI .u8 (a23.add (j22 * 1)) w16 fun n24 =>
 ix (IntKind.i64.wrap (n21 + n13)) l19 fun j25 => nn p18 fun a26 =>
 st1 (.int .u8 n24) (a26.add (j25 * 1)) w16 fun w27 =>
 A15 (((IntKind.i64.wrap (n13 + 1)) : Int)) w27)
 (Q (.int .i64 0) w14)

def crierref04_Mem_Put_j1 (a0 : Option Addr) (a2 : Option Addr) (a2_n : Nat) (Q : Value → World → Prop) (b7 : Nat) (b10 : Bool) (w11 : World) : Prop :=
 cnd b10
 (Q (.int .i64 42) w11)
 (LoopT (fun (s28 : crierref04_Mem_Put_L58.S) w29 A30 => crierref04_Mem_Put_l0 a0 a2 a2_n Q b7 s28 w29 A30) ((0 : Int)) w11)

def crierref04_Mem_Put (a0 : Option Addr) (a1_0 : Int) (a1_1 : Int) (a2 : Option Addr) (a2_n : Nat) (a2_c : Nat) (w : World) (Q : Value → World → Prop) : Prop :=
 alc [.int .i64 a1_0, .int .i64 a1_1] T.t23 w fun b7 w8 =>
 JoinT (fun (J31 : crierref04_Mem_Put_J6.S → World → Prop) =>
  ldI .i64 ⟨b7, 0, none⟩ w8 fun n32 =>
  ldI .i64 ⟨b7, 1, none⟩ w8 fun n33 =>
  CV P F.crierref04_Mem_Holds [.pointer a0, .agg [.int .i64 n32, .int .i64 n33].toArray] w8 fun v34 w35 =>
  ∃ b36 : Bool, v34 = .bool b36 ∧
  cnd (!b36)
  (J31 ((true : Bool)) w35)
  (ldI .i64 ⟨b7, 1, none⟩ w35 fun n37 =>
  J31 (((decide (((a2_n : Nat) : Int) > n37)) : Bool)) w35))
  fun (s38 : crierref04_Mem_Put_J6.S) w39 => crierref04_Mem_Put_j1 a0 a2 a2_n Q b7 s38 w39
def crierref04_Mem_Put_ann : Nat → Option LoopSpec := fun
  | 6 => some crierref04_Mem_Put_J6
  | 58 => some crierref04_Mem_Put_L58
  | 932 => some (ordSpec [0, 1, 2, 3, 4, 5, 6, 7, 8, 9, 10, 11, 12, 13])
  | _ => none
theorem crierref04_Mem_Put_eq (a0 : Option Addr) (a1_0 : Int) (a1_1 : Int) (a2 : Option Addr) (a2_n : Nat) (a2_c : Nat) (w : World) (Q : Value → World → Prop) : fnX P crierref04_Mem_Put_ann Tryd.f49 [.pointer a0, .agg [.int .i64 a1_0, .int .i64 a1_1].toArray, .slice a2 a2_n a2_c] w Q = crierref04_Mem_Put a0 a1_0 a1_1 a2 a2_n a2_c w Q := by kernel_rfl
theorem crierref04_Mem_Put_cv {a0 : Option Addr} {a1_0 : Int} {a1_1 : Int} {a2 : Option Addr} {a2_n : Nat} {a2_c : Nat} {w : World} {Q : Value → World → Prop} (h : crierref04_Mem_Put a0 a1_0 a1_1 a2 a2_n a2_c w Q) : CV P F.crierref04_Mem_Put [.pointer a0, .agg [.int .i64 a1_0, .int .i64 a1_1].toArray, .slice a2 a2_n a2_c] w Q := CV_of mixed Tryd.func49 (crierref04_Mem_Put_eq a0 a1_0 a1_1 a2 a2_n a2_c w Q ▸ h)

/- 50 (*crier/crierref15.Lpis).Best -/
def crierref15_Lpis_Best_L58 : LoopSpec where
  S := Int
  emb := fun s => [(4, .int .i64 s)]
  ext := fun t => match getL t 4 with
    | some (.int .i64 y6) => some (y6)
    | _ => none
  slots := [4]
  fits := fun _ => rfl
  ok := by
    intro t s h x hx
    (try dsimp only at h hx)
    split at h
    · cases h
      simp only [List.mem_cons, List.not_mem_nil, or_false] at hx
      rcases hx with rfl <;> assumption
    · cases h

def crierref15_Lpis_Best_J232 : LoopSpec where
  S := Bool
  emb := fun s => [(20, .bool s)]
  ext := fun t => match getL t 20 with
    | some (.bool y10) => some (y10)
    | _ => none
  slots := [20]
  fits := fun _ => rfl
  ok := by
    intro t s h x hx
    (try dsimp only at h hx)
    split at h
    · cases h
      simp only [List.mem_cons, List.not_mem_nil, or_false] at hx
      rcases hx with rfl <;> assumption
    · cases h

def crierref15_Lpis_Best_J466 : LoopSpec where
  S := Unit
  emb := fun _ => []
  ext := fun _ => some ()
  slots := []
  fits := fun _ => rfl
  ok := by
    intro t s h x hx; cases hx

def crierref15_Lpis_Best_j0 (n7 : Int) (A9 : crierref15_Lpis_Best_L58.S → World → Prop) (w13 : World) : Prop :=
 A9 (((IntKind.i64.wrap (n7 + 1)) : Int)) w13

def crierref15_Lpis_Best_J3731 : LoopSpec where
  S := Bool
  emb := fun s => [(51, .bool s)]
  ext := fun t => match getL t 51 with
    | some (.bool y26) => some (y26)
    | _ => none
  slots := [51]
  fits := fun _ => rfl
  ok := by
    intro t s h x hx
    (try dsimp only at h hx)
    split at h
    · cases h
      simp only [List.mem_cons, List.not_mem_nil, or_false] at hx
      rcases hx with rfl <;> assumption
    · cases h

def crierref15_Lpis_Best_j1 (b4 : Nat) (J14 : crierref15_Lpis_Best_J466.S → World → Prop) (n21 : Int) (n25 : Int) (b27 : Bool) (w28 : World) : Prop :=
 cnd b27
 (st1 (.int .i64 (IntKind.i64.wrap (8192 + n21))) ⟨b4, 0, none⟩ w28 fun w29 =>
 st1 (.int .i64 n25) ⟨b4, 1, none⟩ w29 fun w30 =>
 st1 (.int .i64 1) ⟨b4, 2, none⟩ w30 fun w31 =>
 st1 (.bool true) ⟨b4, 3, none⟩ w31 fun w32 =>
 J14 () w32)
 (J14 () w28)

def crierref15_Lpis_Best_j2 (a0 : Option Addr) (Q : Value → World → Prop) (b2 : Nat) (b4 : Nat) (n7 : Int) (A9 : crierref15_Lpis_Best_L58.S → World → Prop) (b11 : Bool) (w12 : World) : Prop :=
 cnd b11
 (JoinT (fun (J14 : crierref15_Lpis_Best_J466.S → World → Prop) =>
  nn a0 fun a15 =>
  ldL (a15.add 7) w12 fun p16 l17 c18 =>
  ix n7 l17 fun j19 => nn p16 fun a20 =>
  ldI .i64 (a20.add (j19 * 1)) w12 fun n21 =>
  CV P F.crierref15_Lpis_Setup [.pointer a0, .int .i64 (IntKind.i64.wrap (8192 + n21))] w12 fun v22 w23 =>
  ∃ b24 : Bool, ∃ n25 : Int, v22 = .tuple [.bool b24, .int .i64 n25].toArray ∧
  JoinT (fun (J33 : crierref15_Lpis_Best_J3731.S → World → Prop) =>
   cnd b24
   (ldB ⟨b4, 3, none⟩ w23 fun b34 =>
   cnd (!b34)
   (J33 ((true : Bool)) w23)
   (ldI .i64 ⟨b4, 1, none⟩ w23 fun n35 =>
   ldI .i64 ⟨b4, 0, none⟩ w23 fun n36 =>
   CV P F.crierref06_Before [.int .i64 n25, .int .i64 (IntKind.i64.wrap (8192 + n21)), .int .i64 n35, .int .i64 n36] w23 fun v37 w38 =>
   ∃ b39 : Bool, v37 = .bool b39 ∧
   J33 ((b39 : Bool)) w38))
   (J33 ((false : Bool)) w23))
   fun (s40 : crierref15_Lpis_Best_J3731.S) w41 => crierref15_Lpis_Best_j1 b4 J14 n21 n25 s40 w41)
  fun (s42 : crierref15_Lpis_Best_J466.S) w43 => crierref15_Lpis_Best_j0 n7 A9 w43)
 (ldI .i64 ⟨b4, 0, none⟩ w12 fun n44 =>
 ldI .i64 ⟨b4, 1, none⟩ w12 fun n45 =>
 ldI .i64 ⟨b4, 2, none⟩ w12 fun n46 =>
 ldB ⟨b4, 3, none⟩ w12 fun b47 =>
 st1 (.int .i64 n44) ⟨b2, 0, none⟩ w12 fun w48 =>
 st1 (.int .i64 n45) ⟨b2, 1, none⟩ w48 fun w49 =>
 st1 (.int .i64 n46) ⟨b2, 2, none⟩ w49 fun w50 =>
 st1 (.bool b47) ⟨b2, 3, none⟩ w50 fun w51 =>
 ldI .i64 ⟨b2, 0, none⟩ w51 fun n52 =>
 ldI .i64 ⟨b2, 1, none⟩ w51 fun n53 =>
 ldI .i64 ⟨b2, 2, none⟩ w51 fun n54 =>
 ldB ⟨b2, 3, none⟩ w51 fun b55 =>
 Q (.agg [.int .i64 n52, .int .i64 n53, .int .i64 n54, .bool b55].toArray) w51)

def crierref15_Lpis_Best_l3 (a0 : Option Addr) (Q : Value → World → Prop) (b2 : Nat) (b4 : Nat) (n7 : Int) (w8 : World) (A9 : crierref15_Lpis_Best_L58.S → World → Prop) : Prop :=
 JoinT (fun (J56 : crierref15_Lpis_Best_J232.S → World → Prop) =>
  nn a0 fun a57 =>
  ldL (a57.add 7) w8 fun p58 l59 c60 =>
  cnd (decide (n7 < ((l59 : Nat) : Int)))
  (nn a0 fun a61 =>
  ldB (a61.add 1) w8 fun b62 =>
  J56 ((b62 : Bool)) w8)
  (J56 ((false : Bool)) w8))
  fun (s63 : crierref15_Lpis_Best_J232.S) w64 => crierref15_Lpis_Best_j2 a0 Q b2 b4 n7 A9 s63 w64

def crierref15_Lpis_Best (a0 : Option Addr) (w : World) (Q : Value → World → Prop) : Prop :=
 alc [.int .i64 0, .int .i64 0, .int .i64 0, .bool false] T.t43 w fun b2 w3 =>
 alc [.int .i64 0, .int .i64 0, .int .i64 0, .bool false] T.t43 w3 fun b4 w5 =>
 LoopT (fun (s65 : crierref15_Lpis_Best_L58.S) w66 A67 => crierref15_Lpis_Best_l3 a0 Q b2 b4 s65 w66 A67) ((0 : Int)) w5
def crierref15_Lpis_Best_ann : Nat → Option LoopSpec := fun
  | 58 => some crierref15_Lpis_Best_L58
  | 232 => some crierref15_Lpis_Best_J232
  | 466 => some crierref15_Lpis_Best_J466
  | 3731 => some crierref15_Lpis_Best_J3731
  | _ => none
theorem crierref15_Lpis_Best_eq (a0 : Option Addr) (w : World) (Q : Value → World → Prop) : fnX P crierref15_Lpis_Best_ann Tryd.f50 [.pointer a0] w Q = crierref15_Lpis_Best a0 w Q := by kernel_rfl
theorem crierref15_Lpis_Best_cv {a0 : Option Addr} {w : World} {Q : Value → World → Prop} (h : crierref15_Lpis_Best a0 w Q) : CV P F.crierref15_Lpis_Best [.pointer a0] w Q := CV_of mixed Tryd.func50 (crierref15_Lpis_Best_eq a0 w Q ▸ h)

/- 51 crier/crierref01.Same -/
def crierref01_Same_L58 : LoopSpec where
  S := Int
  emb := fun s => [(5, .int .i64 s)]
  ext := fun t => match getL t 5 with
    | some (.int .i64 y7) => some (y7)
    | _ => none
  slots := [5]
  fits := fun _ => rfl
  ok := by
    intro t s h x hx
    (try dsimp only at h hx)
    split at h
    · cases h
      simp only [List.mem_cons, List.not_mem_nil, or_false] at hx
      rcases hx with rfl <;> assumption
    · cases h

def crierref01_Same_l0 (a0 : Option Addr) (a0_n : Nat) (a1 : Option Addr) (a1_n : Nat) (Q : Value → World → Prop) (n8 : Int) (w9 : World) (A10 : crierref01_Same_L58.S → World → Prop) : Prop :=
 cnd (decide (n8 < ((a0_n : Nat) : Int)))
 (drw w9 fun w11 =>
 ix n8 a0_n fun j12 => nn a0 fun a13 =>
 ldI .i64 (a13.add (j12 * 1)) w11 fun n14 =>
 ix n8 a1_n fun j15 => nn a1 fun a16 =>
 ldI .i64 (a16.add (j15 * 1)) w11 fun n17 =>
 cnd (n14 != n17)
 (Q (.bool false) w11)
 (A10 (((IntKind.i64.wrap (n8 + 1)) : Int)) w11))
 (Q (.bool true) w9)

def crierref01_Same (a0 : Option Addr) (a0_n : Nat) (a0_c : Nat) (a1 : Option Addr) (a1_n : Nat) (a1_c : Nat) (w : World) (Q : Value → World → Prop) : Prop :=
 cnd (((a0_n : Nat) : Int) != ((a1_n : Nat) : Int))
 (Q (.bool false) w)
 (LoopT (fun (s18 : crierref01_Same_L58.S) w19 A20 => crierref01_Same_l0 a0 a0_n a1 a1_n Q s18 w19 A20) ((0 : Int)) w)
def crierref01_Same_ann : Nat → Option LoopSpec := fun
  | 58 => some crierref01_Same_L58
  | 1864 => some (ordSpec [0, 1, 2, 3, 4, 5, 6, 7, 8])
  | _ => none
theorem crierref01_Same_eq (a0 : Option Addr) (a0_n : Nat) (a0_c : Nat) (a1 : Option Addr) (a1_n : Nat) (a1_c : Nat) (w : World) (Q : Value → World → Prop) : fnX P crierref01_Same_ann Tryd.f51 [.slice a0 a0_n a0_c, .slice a1 a1_n a1_c] w Q = crierref01_Same a0 a0_n a0_c a1 a1_n a1_c w Q := by kernel_rfl
theorem crierref01_Same_cv {a0 : Option Addr} {a0_n : Nat} {a0_c : Nat} {a1 : Option Addr} {a1_n : Nat} {a1_c : Nat} {w : World} {Q : Value → World → Prop} (h : crierref01_Same a0 a0_n a0_c a1 a1_n a1_c w Q) : CV P F.crierref01_Same [.slice a0 a0_n a0_c, .slice a1 a1_n a1_c] w Q := CV_of mixed Tryd.func51 (crierref01_Same_eq a0 a0_n a0_c a1 a1_n a1_c w Q ▸ h)

/- 52 (*crier/crierref15.Lpis).Waiting -/
def crierref15_Lpis_Waiting_L58 : LoopSpec where
  S := (Option Addr × Nat × Nat) × Int
  emb := fun s => [(5, .slice s.1.1 s.1.2.1 s.1.2.2), (6, .int .i64 s.2)]
  ext := fun t => match getL t 5, getL t 6 with
    | some (.slice y3 y4 y5), some (.int .i64 y6) => some ((y3, y4, y5), y6)
    | _, _ => none
  slots := [5, 6]
  fits := fun _ => rfl
  ok := by
    intro t s h x hx
    (try dsimp only at h hx)
    split at h
    · cases h
      simp only [List.mem_cons, List.not_mem_nil, or_false] at hx
      rcases hx with rfl | rfl <;> assumption
    · cases h

def crierref15_Lpis_Waiting_J466 : LoopSpec where
  S := (Option Addr × Nat × Nat)
  emb := fun s => [(5, .slice s.1 s.2.1 s.2.2)]
  ext := fun t => match getL t 5 with
    | some (.slice y15 y16 y17) => some ((y15, y16, y17))
    | _ => none
  slots := [5]
  fits := fun _ => rfl
  ok := by
    intro t s h x hx
    (try dsimp only at h hx)
    split at h
    · cases h
      simp only [List.mem_cons, List.not_mem_nil, or_false] at hx
      rcases hx with rfl <;> assumption
    · cases h

def crierref15_Lpis_Waiting_j0 (n10 : Int) (A12 : crierref15_Lpis_Waiting_L58.S → World → Prop) (p18 : Option Addr) (l19 : Nat) (c20 : Nat) (w21 : World) : Prop :=
 A12 (((p18 : Option Addr), (l19 : Nat), (c20 : Nat)), ((IntKind.i64.wrap (n10 + 1)) : Int)) w21

def crierref15_Lpis_Waiting_l1 (a0 : Option Addr) (a1 : Option Addr) (Q : Value → World → Prop) (p7 : Option Addr) (l8 : Nat) (c9 : Nat) (n10 : Int) (w11 : World) (A12 : crierref15_Lpis_Waiting_L58.S → World → Prop) : Prop :=
 nn a0 fun a13 =>
 ldI .i64 a13 w11 fun n14 =>
 cnd (decide (n10 < (IntKind.i64.wrap (8192 + n14))))
 (JoinT (fun (J22 : crierref15_Lpis_Waiting_J466.S → World → Prop) =>
  CV P F.crierref15_Lpis_Has [.pointer a0, .pointer a1, .int .i64 n10] w11 fun v23 w24 =>
  ∃ b25 : Bool, v23 = .bool b25 ∧
  cnd b25
  (alc [.int .i64 n10] T.t3 w24 fun b26 w27 =>
  runS P (Builtin.append_ #[T.t37, T.t37] T.t37 [.slice p7 l8 c9, .slice (some ⟨b26, 0, none⟩) 1 1].toArray) w27 fun p28 l29 c30 w31 =>
  J22 (((p28 : Option Addr), (l29 : Nat), (c30 : Nat))) w31)
  (J22 (((p7 : Option Addr), (l8 : Nat), (c9 : Nat))) w24))
  fun (s32 : crierref15_Lpis_Waiting_J466.S) w33 => crierref15_Lpis_Waiting_j0 n10 A12 s32.1 s32.2.1 s32.2.2 w33)
 (Q (.slice p7 l8 c9) w11)

def crierref15_Lpis_Waiting (a0 : Option Addr) (a1 : Option Addr) (w : World) (Q : Value → World → Prop) : Prop :=
 LoopT (fun (s34 : crierref15_Lpis_Waiting_L58.S) w35 A36 => crierref15_Lpis_Waiting_l1 a0 a1 Q s34.1.1 s34.1.2.1 s34.1.2.2 s34.2 w35 A36) (((none : Option Addr), (0 : Nat), (0 : Nat)), (8192 : Int)) w
def crierref15_Lpis_Waiting_ann : Nat → Option LoopSpec := fun
  | 58 => some crierref15_Lpis_Waiting_L58
  | 466 => some crierref15_Lpis_Waiting_J466
  | _ => none
theorem crierref15_Lpis_Waiting_eq (a0 : Option Addr) (a1 : Option Addr) (w : World) (Q : Value → World → Prop) : fnX P crierref15_Lpis_Waiting_ann Tryd.f52 [.pointer a0, .pointer a1] w Q = crierref15_Lpis_Waiting a0 a1 w Q := by kernel_rfl
theorem crierref15_Lpis_Waiting_cv {a0 : Option Addr} {a1 : Option Addr} {w : World} {Q : Value → World → Prop} (h : crierref15_Lpis_Waiting a0 a1 w Q) : CV P F.crierref15_Lpis_Waiting [.pointer a0, .pointer a1] w Q := CV_of mixed Tryd.func52 (crierref15_Lpis_Waiting_eq a0 a1 w Q ▸ h)

/- 53 (*crier/crierref15.Lpis).Setup -/

def crierref15_Lpis_Setup (a0 : Option Addr) (a1 : Int) (w : World) (Q : Value → World → Prop) : Prop :=
 CV P F.crierref15_Lpis_Of [.pointer a0, .int .i64 a1] w fun v3 w4 =>
 ∃ b5 : Bool, v3 = .bool b5 ∧
 cnd (!b5)
 (Q (.tuple [.bool false, .int .i64 0].toArray) w4)
 (nn a0 fun a6 =>
 ldL (a6.add 6) w4 fun p7 l8 c9 =>
 ix (IntKind.i64.wrap (a1 - 8192)) l8 fun j10 => nn p7 fun a11 =>
 ldI .u8 (a11.add (j10 * 1)) w4 fun n12 =>
 (nz 2 <|
 CV P F.crierref06_Real [.int .i64 (IntKind.i64.wrap (n12))] w4 fun v13 w14 =>
 ∃ n15 : Int, v13 = .int .i64 n15 ∧
 Q (.tuple [.bool ((Int.tmod (IntKind.i64.wrap (n12)) 2) == 1), .int .i64 n15].toArray) w14))
def crierref15_Lpis_Setup_ann : Nat → Option LoopSpec := fun _ => none
theorem crierref15_Lpis_Setup_eq (a0 : Option Addr) (a1 : Int) (w : World) (Q : Value → World → Prop) : fnX P crierref15_Lpis_Setup_ann Tryd.f53 [.pointer a0, .int .i64 a1] w Q = crierref15_Lpis_Setup a0 a1 w Q := by kernel_rfl
theorem crierref15_Lpis_Setup_cv {a0 : Option Addr} {a1 : Int} {w : World} {Q : Value → World → Prop} (h : crierref15_Lpis_Setup a0 a1 w Q) : CV P F.crierref15_Lpis_Setup [.pointer a0, .int .i64 a1] w Q := CV_of mixed Tryd.func53 (crierref15_Lpis_Setup_eq a0 a1 w Q ▸ h)

/- 54 crier/crierlaw04.Same -/
def crierlaw04_Same_J7 : LoopSpec where
  S := Bool
  emb := fun s => [(4, .bool s)]
  ext := fun t => match getL t 4 with
    | some (.bool y13) => some (y13)
    | _ => none
  slots := [4]
  fits := fun _ => rfl
  ok := by
    intro t s h x hx
    (try dsimp only at h hx)
    split at h
    · cases h
      simp only [List.mem_cons, List.not_mem_nil, or_false] at hx
      rcases hx with rfl <;> assumption
    · cases h

def crierlaw04_Same_j0 (Q : Value → World → Prop) (b14 : Bool) (w15 : World) : Prop :=
 Q (.bool b14) w15

def crierlaw04_Same (a0 : Option Addr) (a1 : Option Addr) (w : World) (Q : Value → World → Prop) : Prop :=
 nn a1 fun a3 =>
 ldL a3 w fun p4 l5 c6 =>
 CV P F.mem_Mem_Bytes [.pointer a0, .agg [.int .i64 0, .int .i64 ((l5 : Nat) : Int)].toArray] w fun v7 w8 =>
 ∃ (p9 : Option Addr) (l10 c11 : Nat), ∃ n12 : Int, v7 = .tuple [.slice p9 l10 c11, .int .i64 n12].toArray ∧
 JoinT (fun (J16 : crierlaw04_Same_J7.S → World → Prop) =>
  drw w8 fun w17 =>
  nn a1 fun a18 =>
  ldL a18 w17 fun p19 l20 c21 =>
  CV P F.mem_Mem_Size [.pointer a0] w17 fun v22 w23 =>
  ∃ n24 : Int, v22 = .int .i64 n24 ∧
  (((.int .i64 ((l20 : Nat) : Int) : Value) = .int .i64 ((l20 : Nat) : Int))) ∧
  (ldL a18 w23 fun p25 l26 c27 =>
  ((.slice p25 l26 c27 : Value) = .slice p19 l20 c21)) ∧
  cnd (n24 == ((l20 : Nat) : Int))
  (cnd (n12 == 0)
  (X.runT P (Conv.bytesToString (.slice p9 l10 c11)) w23 fun s28 =>
  nn a1 fun a29 =>
  ldL a29 w23 fun p30 l31 c32 =>
  X.runT P (Conv.bytesToString (.slice p30 l31 c32)) w23 fun s33 =>
  J16 ((((s28 : ByteArray).toList == (s33 : ByteArray).toList) : Bool)) w23)
  (J16 ((false : Bool)) w23))
  (J16 ((false : Bool)) w23))
  fun (s34 : crierlaw04_Same_J7.S) w35 => crierlaw04_Same_j0 Q s34 w35
def crierlaw04_Same_ann : Nat → Option LoopSpec := fun
  | 7 => some crierlaw04_Same_J7
  | 14 => some (ordSpec [0, 2, 3, 4, 5, 6, 1, 7, 8, 9, 10, 11, 12, 13, 14, 15, 16, 17, 18, 19, 20, 21, 22])
  | _ => none
theorem crierlaw04_Same_eq (a0 : Option Addr) (a1 : Option Addr) (w : World) (Q : Value → World → Prop) : fnX P crierlaw04_Same_ann Tryd.f54 [.pointer a0, .pointer a1] w Q = crierlaw04_Same a0 a1 w Q := by kernel_rfl
theorem crierlaw04_Same_cv {a0 : Option Addr} {a1 : Option Addr} {w : World} {Q : Value → World → Prop} (h : crierlaw04_Same a0 a1 w Q) : CV P F.crierlaw04_Same [.pointer a0, .pointer a1] w Q := CV_of mixed Tryd.func54 (crierlaw04_Same_eq a0 a1 w Q ▸ h)

/- 55 slices.Clone[[]byte,byte] -/

def slices_Clone__byte_byte (a0 : Option Addr) (a0_n : Nat) (a0_c : Nat) (w : World) (Q : Value → World → Prop) : Prop :=
 cnd (Option.isNone a0)
 (Q (.slice none 0 0) w)
 (alc [] T.t5 w fun b4 w5 =>
 runS P (Builtin.append_ #[T.t46, T.t46] T.t46 [.slice (some ⟨b4, 0, none⟩) 0 0, .slice a0 a0_n a0_c].toArray) w5 fun p6 l7 c8 w9 =>
 Q (.slice p6 l7 c8) w9)
def slices_Clone__byte_byte_ann : Nat → Option LoopSpec := fun _ => none
theorem slices_Clone__byte_byte_eq (a0 : Option Addr) (a0_n : Nat) (a0_c : Nat) (w : World) (Q : Value → World → Prop) : fnX P slices_Clone__byte_byte_ann Tryd.f55 [.slice a0 a0_n a0_c] w Q = slices_Clone__byte_byte a0 a0_n a0_c w Q := by kernel_rfl
theorem slices_Clone__byte_byte_cv {a0 : Option Addr} {a0_n : Nat} {a0_c : Nat} {w : World} {Q : Value → World → Prop} (h : slices_Clone__byte_byte a0 a0_n a0_c w Q) : CV P F.slices_Clone__byte_byte [.slice a0 a0_n a0_c] w Q := CV_of mixed Tryd.func55 (slices_Clone__byte_byte_eq a0 a0_n a0_c w Q ▸ h)

/- 56 (*crier/sets.Set[int]).Copy -/

def sets_Set_int_Copy (a0 : Option Addr) (w : World) (Q : Value → World → Prop) : Prop :=
 nn a0 fun a2 =>
 ldL a2 w fun p3 l4 c5 =>
 CV P F.slices_Clone__uint64_uint64 [.slice p3 l4 c5] w fun v6 w7 =>
 ∃ (p8 : Option Addr) (l9 c10 : Nat), v6 = .slice p8 l9 c10 ∧
 alc [.slice p8 l9 c10] T.t117 w7 fun b11 w12 =>
 Q (.pointer (some ⟨b11, 0, none⟩)) w12
def sets_Set_int_Copy_ann : Nat → Option LoopSpec := fun _ => none
theorem sets_Set_int_Copy_eq (a0 : Option Addr) (w : World) (Q : Value → World → Prop) : fnX P sets_Set_int_Copy_ann Tryd.f56 [.pointer a0] w Q = sets_Set_int_Copy a0 w Q := by kernel_rfl
theorem sets_Set_int_Copy_cv {a0 : Option Addr} {w : World} {Q : Value → World → Prop} (h : sets_Set_int_Copy a0 w Q) : CV P F.sets_Set_int_Copy [.pointer a0] w Q := CV_of mixed Tryd.func56 (sets_Set_int_Copy_eq a0 w Q ▸ h)

/- 57 (*crier/lpi.Lpis).store -/
def lpi_Lpis_store_J7 : LoopSpec where
  S := Int
  emb := fun s => [(8, .int .u64 s)]
  ext := fun t => match getL t 8 with
    | some (.int .u64 y12) => some (y12)
    | _ => none
  slots := [8]
  fits := fun _ => rfl
  ok := by
    intro t s h x hx
    (try dsimp only at h hx)
    split at h
    · cases h
      simp only [List.mem_cons, List.not_mem_nil, or_false] at hx
      rcases hx with rfl <;> assumption
    · cases h

def lpi_Lpis_store_j0 (a0 : Option Addr) (a1 : Option Addr) (a2 : Int) (Q : Value → World → Prop) (n13 : Int) (w14 : World) : Prop :=
 nn a0 fun a15 =>
 ldI .i64 (a15.add 4) w14 fun n16 =>
 ldI .i64 ((a15.add 4).add 1) w14 fun n17 =>
 (nz 8 <|
 CV P F.mem_Mem_Write [.pointer a1, .agg [.int .i64 n16, .int .i64 n17].toArray, .int .i64 (IntKind.i64.wrap (Int.tdiv a2 8)), .int .i64 1, .int .u64 n13] w14 fun v18 w19 =>
 ∃ n20 : Int, v18 = .int .i64 n20 ∧
 Q (.tuple [].toArray) w19)

def lpi_Lpis_store (a0 : Option Addr) (a1 : Option Addr) (a2 : Int) (a3 : Bool) (w : World) (Q : Value → World → Prop) : Prop :=
 nn a0 fun a5 =>
 ldI .i64 (a5.add 4) w fun n6 =>
 ldI .i64 ((a5.add 4).add 1) w fun n7 =>
 (nz 8 <|
 CV P F.mem_Mem_Read [.pointer a1, .agg [.int .i64 n6, .int .i64 n7].toArray, .int .i64 (IntKind.i64.wrap (Int.tdiv a2 8)), .int .i64 1] w fun v8 w9 =>
 ∃ n10 : Int, ∃ n11 : Int, v8 = .tuple [.int .u64 n10, .int .i64 n11].toArray ∧
 (nz 8 <|
 (nng (Int.tmod a2 8) <|
 JoinT (fun (J21 : lpi_Lpis_store_J7.S → World → Prop) =>
  cnd a3
  ((nz 8 <|
  (nng (Int.tmod a2 8) <|
  J21 (((bitX .or .u64 (bitX .andNot .u64 n10 (IntKind.u64.wrap (1 * 2 ^ min (Int.toNat (Int.tmod a2 8)) (IntKind.u64.bits)))) (IntKind.u64.wrap (1 * 2 ^ min (Int.toNat (Int.tmod a2 8)) (IntKind.u64.bits)))) : Int)) w9)))
  (J21 (((bitX .andNot .u64 n10 (IntKind.u64.wrap (1 * 2 ^ min (Int.toNat (Int.tmod a2 8)) (IntKind.u64.bits)))) : Int)) w9))
  fun (s22 : lpi_Lpis_store_J7.S) w23 => lpi_Lpis_store_j0 a0 a1 a2 Q s22 w23)))
def lpi_Lpis_store_ann : Nat → Option LoopSpec := fun
  | 7 => some lpi_Lpis_store_J7
  | _ => none
theorem lpi_Lpis_store_eq (a0 : Option Addr) (a1 : Option Addr) (a2 : Int) (a3 : Bool) (w : World) (Q : Value → World → Prop) : fnX P lpi_Lpis_store_ann Tryd.f57 [.pointer a0, .pointer a1, .int .i64 a2, .bool a3] w Q = lpi_Lpis_store a0 a1 a2 a3 w Q := by kernel_rfl
theorem lpi_Lpis_store_cv {a0 : Option Addr} {a1 : Option Addr} {a2 : Int} {a3 : Bool} {w : World} {Q : Value → World → Prop} (h : lpi_Lpis_store a0 a1 a2 a3 w Q) : CV P F.lpi_Lpis_store [.pointer a0, .pointer a1, .int .i64 a2, .bool a3] w Q := CV_of mixed Tryd.func57 (lpi_Lpis_store_eq a0 a1 a2 a3 w Q ▸ h)

/- 58 (*crier/sets.Set[int]).Put -/
def sets_Set_int_Put_J6 : LoopSpec where
  S := Bool
  emb := fun s => [(15, .bool s)]
  ext := fun t => match getL t 15 with
    | some (.bool y3) => some (y3)
    | _ => none
  slots := [15]
  fits := fun _ => rfl
  ok := by
    intro t s h x hx
    (try dsimp only at h hx)
    split at h
    · cases h
      simp only [List.mem_cons, List.not_mem_nil, or_false] at hx
      rcases hx with rfl <;> assumption
    · cases h

def sets_Set_int_Put_L28 : LoopSpec where
  S := Unit
  emb := fun _ => []
  ext := fun _ => some ()
  slots := []
  fits := fun _ => rfl
  ok := by
    intro t s h x hx; cases hx

def sets_Set_int_Put_l0 (a0 : Option Addr) (a1 : Int) (Q : Value → World → Prop) (w6 : World) (A7 : sets_Set_int_Put_L28.S → World → Prop) : Prop :=
 nn a0 fun a8 =>
 ldL a8 w6 fun p9 l10 c11 =>
 (nz 64 <|
 cnd (decide (((l10 : Nat) : Int) ≤ (IntKind.i64.wrap (Int.tdiv a1 64))))
 (nn a0 fun a12 =>
 ldL a12 w6 fun p13 l14 c15 =>
 alc [.int .u64 0] T.t63 w6 fun b16 w17 =>
 runS P (Builtin.append_ #[T.t115, T.t115] T.t115 [.slice p13 l14 c15, .slice (some ⟨b16, 0, none⟩) 1 1].toArray) w17 fun p18 l19 c20 w21 =>
 nn a0 fun a22 =>
 st1 (.slice p18 l19 c20) a22 w21 fun w23 =>
 A7 () w23)
 (nn a0 fun a24 =>
 ldL a24 w6 fun p25 l26 c27 =>
 (nz 64 <|
 ix (IntKind.i64.wrap (Int.tdiv a1 64)) l26 fun j28 => nn p25 fun a29 =>
 ldI .u64 (a29.add (j28 * 1)) w6 fun n30 =>
 (nz 64 <|
 (nng (Int.tmod (IntKind.u64.wrap (a1)) 64) <|
 ix (IntKind.i64.wrap (Int.tdiv a1 64)) l26 fun j31 => nn p25 fun a32 =>
 st1 (.int .u64 (bitX .or .u64 n30 (IntKind.u64.wrap (1 * 2 ^ min (Int.toNat (Int.tmod (IntKind.u64.wrap (a1)) 64)) (IntKind.u64.bits))))) (a32.add (j31 * 1)) w6 fun w33 =>
 Q (.bool true) w33)))))

def sets_Set_int_Put_j1 (a0 : Option Addr) (a1 : Int) (Q : Value → World → Prop) (b4 : Bool) (w5 : World) : Prop :=
 cnd b4
 (Q (.bool false) w5)
 (LoopT (fun (s34 : sets_Set_int_Put_L28.S) w35 A36 => sets_Set_int_Put_l0 a0 a1 Q w35 A36) () w5)

def sets_Set_int_Put (a0 : Option Addr) (a1 : Int) (w : World) (Q : Value → World → Prop) : Prop :=
 JoinT (fun (J37 : sets_Set_int_Put_J6.S → World → Prop) =>
  cnd (decide (a1 < 0))
  (J37 ((true : Bool)) w)
  (cnd (decide (a1 ≥ 16384))
  (J37 ((true : Bool)) w)
  (CV P F.sets_Set_int_Has [.pointer a0, .int .i64 a1] w fun v38 w39 =>
  ∃ b40 : Bool, v38 = .bool b40 ∧
  J37 ((b40 : Bool)) w39)))
  fun (s41 : sets_Set_int_Put_J6.S) w42 => sets_Set_int_Put_j1 a0 a1 Q s41 w42
def sets_Set_int_Put_ann : Nat → Option LoopSpec := fun
  | 6 => some sets_Set_int_Put_J6
  | 28 => some sets_Set_int_Put_L28
  | _ => none
theorem sets_Set_int_Put_eq (a0 : Option Addr) (a1 : Int) (w : World) (Q : Value → World → Prop) : fnX P sets_Set_int_Put_ann Tryd.f58 [.pointer a0, .int .i64 a1] w Q = sets_Set_int_Put a0 a1 w Q := by kernel_rfl
theorem sets_Set_int_Put_cv {a0 : Option Addr} {a1 : Int} {w : World} {Q : Value → World → Prop} (h : sets_Set_int_Put a0 a1 w Q) : CV P F.sets_Set_int_Put [.pointer a0, .int .i64 a1] w Q := CV_of mixed Tryd.func58 (sets_Set_int_Put_eq a0 a1 w Q ▸ h)

/- 59 (*crier/sets.Set[int]).Take -/

def sets_Set_int_Take (a0 : Option Addr) (a1 : Int) (w : World) (Q : Value → World → Prop) : Prop :=
 CV P F.sets_Set_int_Has [.pointer a0, .int .i64 a1] w fun v3 w4 =>
 ∃ b5 : Bool, v3 = .bool b5 ∧
 cnd (!b5)
 (Q (.bool false) w4)
 (nn a0 fun a6 =>
 ldL a6 w4 fun p7 l8 c9 =>
 (nz 64 <|
 ix (IntKind.i64.wrap (Int.tdiv a1 64)) l8 fun j10 => nn p7 fun a11 =>
 ldI .u64 (a11.add (j10 * 1)) w4 fun n12 =>
 (nz 64 <|
 (nng (Int.tmod (IntKind.u64.wrap (a1)) 64) <|
 ix (IntKind.i64.wrap (Int.tdiv a1 64)) l8 fun j13 => nn p7 fun a14 =>
 st1 (.int .u64 (bitX .andNot .u64 n12 (IntKind.u64.wrap (1 * 2 ^ min (Int.toNat (Int.tmod (IntKind.u64.wrap (a1)) 64)) (IntKind.u64.bits))))) (a14.add (j13 * 1)) w4 fun w15 =>
 Q (.bool true) w15))))
def sets_Set_int_Take_ann : Nat → Option LoopSpec := fun _ => none
theorem sets_Set_int_Take_eq (a0 : Option Addr) (a1 : Int) (w : World) (Q : Value → World → Prop) : fnX P sets_Set_int_Take_ann Tryd.f59 [.pointer a0, .int .i64 a1] w Q = sets_Set_int_Take a0 a1 w Q := by kernel_rfl
theorem sets_Set_int_Take_cv {a0 : Option Addr} {a1 : Int} {w : World} {Q : Value → World → Prop} (h : sets_Set_int_Take a0 a1 w Q) : CV P F.sets_Set_int_Take [.pointer a0, .int .i64 a1] w Q := CV_of mixed Tryd.func59 (sets_Set_int_Take_eq a0 a1 w Q ▸ h)

/- 60 (*crier/crierref15.Lpis).Enable -/
def crierref15_Lpis_Enable_L58 : LoopSpec where
  S := Int
  emb := fun s => [(4, .int .i64 s)]
  ext := fun t => match getL t 4 with
    | some (.int .i64 y7) => some (y7)
    | _ => none
  slots := [4]
  fits := fun _ => rfl
  ok := by
    intro t s h x hx
    (try dsimp only at h hx)
    split at h
    · cases h
      simp only [List.mem_cons, List.not_mem_nil, or_false] at hx
      rcases hx with rfl <;> assumption
    · cases h

def crierref15_Lpis_Enable_J932 : LoopSpec where
  S := Unit
  emb := fun _ => []
  ext := fun _ => some ()
  slots := []
  fits := fun _ => rfl
  ok := by
    intro t s h x hx; cases hx

def crierref15_Lpis_Enable_j0 (a0 : Option Addr) (a1 : Option Addr) (n8 : Int) (A10 : crierref15_Lpis_Enable_L58.S → World → Prop) (w13 : World) : Prop :=
 CV P F.crierref15_Lpis_put [.pointer a0, .pointer a1, .int .i64 n8, .bool false] w13 fun v14 w15 =>
 v14 = .tuple [].toArray ∧
 A10 (((IntKind.i64.wrap (n8 + 1)) : Int)) w15

def crierref15_Lpis_Enable_l1 (a0 : Option Addr) (a1 : Option Addr) (Q : Value → World → Prop) (n8 : Int) (w9 : World) (A10 : crierref15_Lpis_Enable_L58.S → World → Prop) : Prop :=
 nn a0 fun a11 =>
 ldI .i64 a11 w9 fun n12 =>
 cnd (decide (n8 < n12))
 (JoinT (fun (J16 : crierref15_Lpis_Enable_J932.S → World → Prop) =>
  CV P F.crierref15_Lpis_bit [.pointer a0, .pointer a1, .int .i64 n8] w9 fun v17 w18 =>
  ∃ b19 : Bool, v17 = .bool b19 ∧
  cnd b19
  (nn a0 fun a20 =>
  ldL (a20.add 7) w18 fun p21 l22 c23 =>
  CV P F.crierref01_Put [.slice p21 l22 c23, .int .i64 n8] w18 fun v24 w25 =>
  ∃ (p26 : Option Addr) (l27 c28 : Nat), v24 = .slice p26 l27 c28 ∧
  nn a0 fun a29 =>
  st1 (.slice p26 l27 c28) (a29.add 7) w25 fun w30 =>
  J16 () w30)
  (J16 () w18))
  fun (s31 : crierref15_Lpis_Enable_J932.S) w32 => crierref15_Lpis_Enable_j0 a0 a1 n8 A10 w32)
 (nn a0 fun a33 =>
 st1 (.bool true) (a33.add 1) w9 fun w34 =>
 CV P F.crierref15_Lpis_InvAll [.pointer a0, .pointer a1] w34 fun v35 w36 =>
 v35 = .tuple [].toArray ∧
 Q (.tuple [].toArray) w36)

def crierref15_Lpis_Enable (a0 : Option Addr) (a1 : Option Addr) (w : World) (Q : Value → World → Prop) : Prop :=
 nn a0 fun a3 =>
 ldB (a3.add 1) w fun b4 =>
 cnd b4
 (Q (.tuple [].toArray) w)
 (nn a0 fun a5 =>
 st1 (.slice none 0 0) (a5.add 7) w fun w6 =>
 LoopT (fun (s37 : crierref15_Lpis_Enable_L58.S) w38 A39 => crierref15_Lpis_Enable_l1 a0 a1 Q s37 w38 A39) ((0 : Int)) w6)
def crierref15_Lpis_Enable_ann : Nat → Option LoopSpec := fun
  | 58 => some crierref15_Lpis_Enable_L58
  | 932 => some crierref15_Lpis_Enable_J932
  | _ => none
theorem crierref15_Lpis_Enable_eq (a0 : Option Addr) (a1 : Option Addr) (w : World) (Q : Value → World → Prop) : fnX P crierref15_Lpis_Enable_ann Tryd.f60 [.pointer a0, .pointer a1] w Q = crierref15_Lpis_Enable a0 a1 w Q := by kernel_rfl
theorem crierref15_Lpis_Enable_cv {a0 : Option Addr} {a1 : Option Addr} {w : World} {Q : Value → World → Prop} (h : crierref15_Lpis_Enable a0 a1 w Q) : CV P F.crierref15_Lpis_Enable [.pointer a0, .pointer a1] w Q := CV_of mixed Tryd.func60 (crierref15_Lpis_Enable_eq a0 a1 w Q ▸ h)

/- 61 (*crier/crierref15.Lpis).Disable -/
def crierref15_Lpis_Disable_L26 : LoopSpec where
  S := Int
  emb := fun s => [(4, .int .i64 s)]
  ext := fun t => match getL t 4 with
    | some (.int .i64 y5) => some (y5)
    | _ => none
  slots := [4]
  fits := fun _ => rfl
  ok := by
    intro t s h x hx
    (try dsimp only at h hx)
    split at h
    · cases h
      simp only [List.mem_cons, List.not_mem_nil, or_false] at hx
      rcases hx with rfl <;> assumption
    · cases h

def crierref15_Lpis_Disable_l0 (a0 : Option Addr) (a1 : Option Addr) (Q : Value → World → Prop) (n6 : Int) (w7 : World) (A8 : crierref15_Lpis_Disable_L26.S → World → Prop) : Prop :=
 nn a0 fun a9 =>
 ldL (a9.add 7) w7 fun p10 l11 c12 =>
 cnd (decide (n6 < ((l11 : Nat) : Int)))
 (nn a0 fun a13 =>
 ldL (a13.add 7) w7 fun p14 l15 c16 =>
 ix n6 l15 fun j17 => nn p14 fun a18 =>
 ldI .i64 (a18.add (j17 * 1)) w7 fun n19 =>
 CV P F.crierref15_Lpis_put [.pointer a0, .pointer a1, .int .i64 n19, .bool true] w7 fun v20 w21 =>
 v20 = .tuple [].toArray ∧
 A8 (((IntKind.i64.wrap (n6 + 1)) : Int)) w21)
 (nn a0 fun a22 =>
 st1 (.slice none 0 0) (a22.add 7) w7 fun w23 =>
 nn a0 fun a24 =>
 st1 (.bool false) (a24.add 1) w23 fun w25 =>
 Q (.tuple [].toArray) w25)

def crierref15_Lpis_Disable (a0 : Option Addr) (a1 : Option Addr) (w : World) (Q : Value → World → Prop) : Prop :=
 nn a0 fun a3 =>
 ldB (a3.add 1) w fun b4 =>
 cnd (!b4)
 (Q (.tuple [].toArray) w)
 (LoopT (fun (s26 : crierref15_Lpis_Disable_L26.S) w27 A28 => crierref15_Lpis_Disable_l0 a0 a1 Q s26 w27 A28) ((0 : Int)) w)
def crierref15_Lpis_Disable_ann : Nat → Option LoopSpec := fun
  | 26 => some crierref15_Lpis_Disable_L26
  | _ => none
theorem crierref15_Lpis_Disable_eq (a0 : Option Addr) (a1 : Option Addr) (w : World) (Q : Value → World → Prop) : fnX P crierref15_Lpis_Disable_ann Tryd.f61 [.pointer a0, .pointer a1] w Q = crierref15_Lpis_Disable a0 a1 w Q := by kernel_rfl
theorem crierref15_Lpis_Disable_cv {a0 : Option Addr} {a1 : Option Addr} {w : World} {Q : Value → World → Prop} (h : crierref15_Lpis_Disable a0 a1 w Q) : CV P F.crierref15_Lpis_Disable [.pointer a0, .pointer a1] w Q := CV_of mixed Tryd.func61 (crierref15_Lpis_Disable_eq a0 a1 w Q ▸ h)

/- 62 (*crier/crierref15.Lpis).Set -/
def crierref15_Lpis_Set_J63 : LoopSpec where
  S := Unit
  emb := fun _ => []
  ext := fun _ => some ()
  slots := []
  fits := fun _ => rfl
  ok := by
    intro t s h x hx; cases hx

def crierref15_Lpis_Set_j0 (Q : Value → World → Prop) (b10 : Bool) (w26 : World) : Prop :=
 Q (.tuple [.bool b10, .int .i64 0].toArray) w26

def crierref15_Lpis_Set (a0 : Option Addr) (a1 : Option Addr) (a2 : Int) (a3 : Bool) (w : World) (Q : Value → World → Prop) : Prop :=
 CV P F.crierref15_Lpis_Of [.pointer a0, .int .i64 a2] w fun v5 w6 =>
 ∃ b7 : Bool, v5 = .bool b7 ∧
 cnd (!b7)
 (Q (.tuple [.bool false, .int .i64 150].toArray) w6)
 (CV P F.crierref15_Lpis_Has [.pointer a0, .pointer a1, .int .i64 a2] w6 fun v8 w9 =>
 ∃ b10 : Bool, v8 = .bool b10 ∧
 nn a0 fun a11 =>
 ldB (a11.add 1) w9 fun b12 =>
 cnd (!b12)
 (CV P F.crierref15_Lpis_put [.pointer a0, .pointer a1, .int .i64 (IntKind.i64.wrap (a2 - 8192)), .bool a3] w9 fun v13 w14 =>
 v13 = .tuple [].toArray ∧
 Q (.tuple [.bool b10, .int .i64 0].toArray) w14)
 (nn a0 fun a15 =>
 ldL (a15.add 7) w9 fun p16 l17 c18 =>
 CV P F.crierref01_Take [.slice p16 l17 c18, .int .i64 (IntKind.i64.wrap (a2 - 8192))] w9 fun v19 w20 =>
 ∃ (p21 : Option Addr) (l22 c23 : Nat), v19 = .slice p21 l22 c23 ∧
 nn a0 fun a24 =>
 st1 (.slice p21 l22 c23) (a24.add 7) w20 fun w25 =>
 JoinT (fun (J27 : crierref15_Lpis_Set_J63.S → World → Prop) =>
  cnd a3
  (nn a0 fun a28 =>
  ldL (a28.add 7) w25 fun p29 l30 c31 =>
  CV P F.crierref01_Put [.slice p29 l30 c31, .int .i64 (IntKind.i64.wrap (a2 - 8192))] w25 fun v32 w33 =>
  ∃ (p34 : Option Addr) (l35 c36 : Nat), v32 = .slice p34 l35 c36 ∧
  nn a0 fun a37 =>
  st1 (.slice p34 l35 c36) (a37.add 7) w33 fun w38 =>
  J27 () w38)
  (J27 () w25))
  fun (s39 : crierref15_Lpis_Set_J63.S) w40 => crierref15_Lpis_Set_j0 Q b10 w40))
def crierref15_Lpis_Set_ann : Nat → Option LoopSpec := fun
  | 63 => some crierref15_Lpis_Set_J63
  | _ => none
theorem crierref15_Lpis_Set_eq (a0 : Option Addr) (a1 : Option Addr) (a2 : Int) (a3 : Bool) (w : World) (Q : Value → World → Prop) : fnX P crierref15_Lpis_Set_ann Tryd.f62 [.pointer a0, .pointer a1, .int .i64 a2, .bool a3] w Q = crierref15_Lpis_Set a0 a1 a2 a3 w Q := by kernel_rfl
theorem crierref15_Lpis_Set_cv {a0 : Option Addr} {a1 : Option Addr} {a2 : Int} {a3 : Bool} {w : World} {Q : Value → World → Prop} (h : crierref15_Lpis_Set a0 a1 a2 a3 w Q) : CV P F.crierref15_Lpis_Set [.pointer a0, .pointer a1, .int .i64 a2, .bool a3] w Q := CV_of mixed Tryd.func62 (crierref15_Lpis_Set_eq a0 a1 a2 a3 w Q ▸ h)

/- 63 (*crier/crierref15.Lpis).Inv -/

def crierref15_Lpis_Inv (a0 : Option Addr) (a1 : Option Addr) (a2 : Int) (w : World) (Q : Value → World → Prop) : Prop :=
 CV P F.crierref15_Lpis_Of [.pointer a0, .int .i64 a2] w fun v4 w5 =>
 ∃ b6 : Bool, v4 = .bool b6 ∧
 cnd (!b6)
 (Q (.int .i64 150) w5)
 (drw w5 fun w7 =>
 nn a0 fun a8 =>
 ldL (a8.add 6) w7 fun p9 l10 c11 =>
 nn a1 fun a12 =>
 ldL a12 w7 fun p13 l14 c15 =>
 nn a0 fun a16 =>
 ldI .i64 (a16.add 2) w7 fun n17 =>
 ix (IntKind.i64.wrap ((IntKind.i64.wrap (n17 + a2)) - 8192)) l14 fun j18 => nn p13 fun a19 =>
 ldI .u8 (a19.add (j18 * 1)) w7 fun n20 =>
 ix (IntKind.i64.wrap (a2 - 8192)) l10 fun j21 => nn p9 fun a22 =>
 st1 (.int .u8 n20) (a22.add (j21 * 1)) w7 fun w23 =>
 Q (.int .i64 0) w23)
def crierref15_Lpis_Inv_ann : Nat → Option LoopSpec := fun
  | 14 => some (ordSpec [0, 1, 2, 3, 4, 5, 6, 7, 8, 9, 10, 11, 12, 13, 14, 15, 16, 17, 18, 19, 20, 21])
  | _ => none
theorem crierref15_Lpis_Inv_eq (a0 : Option Addr) (a1 : Option Addr) (a2 : Int) (w : World) (Q : Value → World → Prop) : fnX P crierref15_Lpis_Inv_ann Tryd.f63 [.pointer a0, .pointer a1, .int .i64 a2] w Q = crierref15_Lpis_Inv a0 a1 a2 w Q := by kernel_rfl
theorem crierref15_Lpis_Inv_cv {a0 : Option Addr} {a1 : Option Addr} {a2 : Int} {w : World} {Q : Value → World → Prop} (h : crierref15_Lpis_Inv a0 a1 a2 w Q) : CV P F.crierref15_Lpis_Inv [.pointer a0, .pointer a1, .int .i64 a2] w Q := CV_of mixed Tryd.func63 (crierref15_Lpis_Inv_eq a0 a1 a2 w Q ▸ h)

/- 64 (*crier/crierref15.Lpis).InvAll -/
def crierref15_Lpis_InvAll_L6 : LoopSpec where
  S := Int
  emb := fun s => [(4, .int .i64 s)]
  ext := fun t => match getL t 4 with
    | some (.int .i64 y3) => some (y3)
    | _ => none
  slots := [4]
  fits := fun _ => rfl
  ok := by
    intro t s h x hx
    (try dsimp only at h hx)
    split at h
    · cases h
      simp only [List.mem_cons, List.not_mem_nil, or_false] at hx
      rcases hx with rfl <;> assumption
    · cases h

def crierref15_Lpis_InvAll_l0 (a0 : Option Addr) (a1 : Option Addr) (Q : Value → World → Prop) (n4 : Int) (w5 : World) (A6 : crierref15_Lpis_InvAll_L6.S → World → Prop) : Prop :=
 nn a0 fun a7 =>
 ldI .i64 a7 w5 fun n8 =>
 cnd (decide (n4 < n8))
 (drw w5 fun w9 =>
 nn a0 fun a10 =>
 ldL (a10.add 6) w9 fun p11 l12 c13 =>
 nn a1 fun a14 =>
 ldL a14 w9 fun p15 l16 c17 =>
 nn a0 fun a18 =>
 ldI .i64 (a18.add 2) w9 fun n19 =>
 ix (IntKind.i64.wrap (n19 + n4)) l16 fun j20 => nn p15 fun a21 =>
 ldI .u8 (a21.add (j20 * 1)) w9 fun n22 =>
 ix n4 l12 fun j23 => nn p11 fun a24 =>
 st1 (.int .u8 n22) (a24.add (j23 * 1)) w9 fun w25 =>
 A6 (((IntKind.i64.wrap (n4 + 1)) : Int)) w25)
 (Q (.tuple [].toArray) w5)

def crierref15_Lpis_InvAll (a0 : Option Addr) (a1 : Option Addr) (w : World) (Q : Value → World → Prop) : Prop :=
 LoopT (fun (s26 : crierref15_Lpis_InvAll_L6.S) w27 A28 => crierref15_Lpis_InvAll_l0 a0 a1 Q s26 w27 A28) ((0 : Int)) w
def crierref15_Lpis_InvAll_ann : Nat → Option LoopSpec := fun
  | 6 => some crierref15_Lpis_InvAll_L6
  | 100 => some (ordSpec [0, 1, 2, 3, 4, 5, 6, 7, 8, 9, 10, 11, 12, 13, 14, 15, 16, 17, 18, 19])
  | _ => none
theorem crierref15_Lpis_InvAll_eq (a0 : Option Addr) (a1 : Option Addr) (w : World) (Q : Value → World → Prop) : fnX P crierref15_Lpis_InvAll_ann Tryd.f64 [.pointer a0, .pointer a1] w Q = crierref15_Lpis_InvAll a0 a1 w Q := by kernel_rfl
theorem crierref15_Lpis_InvAll_cv {a0 : Option Addr} {a1 : Option Addr} {w : World} {Q : Value → World → Prop} (h : crierref15_Lpis_InvAll a0 a1 w Q) : CV P F.crierref15_Lpis_InvAll [.pointer a0, .pointer a1] w Q := CV_of mixed Tryd.func64 (crierref15_Lpis_InvAll_eq a0 a1 w Q ▸ h)

/- 65 (*crier/crierref04.Mem).Write -/
def crierref04_Mem_Write_L250 : LoopSpec where
  S := Int × Int
  emb := fun s => [(4, .int .u64 s.1), (12, .int .i64 s.2)]
  ext := fun t => match getL t 4, getL t 12 with
    | some (.int .u64 y18), some (.int .i64 y19) => some (y18, y19)
    | _, _ => none
  slots := [4, 12]
  fits := fun _ => rfl
  ok := by
    intro t s h x hx
    (try dsimp only at h hx)
    split at h
    · cases h
      simp only [List.mem_cons, List.not_mem_nil, or_false] at hx
      rcases hx with rfl | rfl <;> assumption
    · cases h

def crierref04_Mem_Write_l0 (a0 : Option Addr) (a2 : Int) (a3 : Int) (Q : Value → World → Prop) (b7 : Nat) (n20 : Int) (n21 : Int) (w22 : World) (A23 : crierref04_Mem_Write_L250.S → World → Prop) : Prop :=
 cnd (decide (n21 < a3))
 (drw w22 fun w24 =>
 nn a0 fun a25 =>
 ldL a25 w24 fun p26 l27 c28 =>
 ldI .i64 ⟨b7, 0, none⟩ w24 fun n29 =>
 (nz 256 <|
 ix (IntKind.i64.wrap ((IntKind.i64.wrap (n29 + a2)) + n21)) l27 fun j30 => nn p26 fun a31 =>
 st1 (.int .u8 (IntKind.u8.wrap ((Int.tmod n20 256)))) (a31.add (j30 * 1)) w24 fun w32 =>
 (nz 256 <|
 A23 (((IntKind.u64.wrap (Int.tdiv n20 256)) : Int), ((IntKind.i64.wrap (n21 + 1)) : Int)) w32)))
 (Q (.int .i64 0) w22)

def crierref04_Mem_Write (a0 : Option Addr) (a1_0 : Int) (a1_1 : Int) (a2 : Int) (a3 : Int) (a4 : Int) (w : World) (Q : Value → World → Prop) : Prop :=
 alc [.int .i64 a1_0, .int .i64 a1_1] T.t23 w fun b7 w8 =>
 ldI .i64 ⟨b7, 0, none⟩ w8 fun n9 =>
 ldI .i64 ⟨b7, 1, none⟩ w8 fun n10 =>
 CV P F.crierref04_Mem_Holds [.pointer a0, .agg [.int .i64 n9, .int .i64 n10].toArray] w8 fun v11 w12 =>
 ∃ b13 : Bool, v11 = .bool b13 ∧
 cnd (!b13)
 (Q (.int .i64 42) w12)
 (ldI .i64 ⟨b7, 1, none⟩ w12 fun n14 =>
 CV P F.crierref04_May [.int .i64 n14, .int .i64 a2, .int .i64 a3] w12 fun v15 w16 =>
 ∃ n17 : Int, v15 = .int .i64 n17 ∧
 cnd (n17 != 0)
 (Q (.int .i64 n17) w16)
 (LoopT (fun (s33 : crierref04_Mem_Write_L250.S) w34 A35 => crierref04_Mem_Write_l0 a0 a2 a3 Q b7 s33.1 s33.2 w34 A35) ((a4 : Int), (0 : Int)) w16))
def crierref04_Mem_Write_ann : Nat → Option LoopSpec := fun
  | 250 => some crierref04_Mem_Write_L250
  | 8008 => some (ordSpec [0, 1, 2, 3, 4, 5, 6, 7, 8, 9, 10, 11, 12, 13, 14])
  | _ => none
theorem crierref04_Mem_Write_eq (a0 : Option Addr) (a1_0 : Int) (a1_1 : Int) (a2 : Int) (a3 : Int) (a4 : Int) (w : World) (Q : Value → World → Prop) : fnX P crierref04_Mem_Write_ann Tryd.f65 [.pointer a0, .agg [.int .i64 a1_0, .int .i64 a1_1].toArray, .int .i64 a2, .int .i64 a3, .int .u64 a4] w Q = crierref04_Mem_Write a0 a1_0 a1_1 a2 a3 a4 w Q := by kernel_rfl
theorem crierref04_Mem_Write_cv {a0 : Option Addr} {a1_0 : Int} {a1_1 : Int} {a2 : Int} {a3 : Int} {a4 : Int} {w : World} {Q : Value → World → Prop} (h : crierref04_Mem_Write a0 a1_0 a1_1 a2 a3 a4 w Q) : CV P F.crierref04_Mem_Write [.pointer a0, .agg [.int .i64 a1_0, .int .i64 a1_1].toArray, .int .i64 a2, .int .i64 a3, .int .u64 a4] w Q := CV_of mixed Tryd.func65 (crierref04_Mem_Write_eq a0 a1_0 a1_1 a2 a3 a4 w Q ▸ h)

/- 66 crier/crierref15.Move -/
def crierref15_Move_J6 : LoopSpec where
  S := Bool
  emb := fun s => [(25, .bool s)]
  ext := fun t => match getL t 25 with
    | some (.bool y6) => some (y6)
    | _ => none
  slots := [25]
  fits := fun _ => rfl
  ok := by
    intro t s h x hx
    (try dsimp only at h hx)
    split at h
    · cases h
      simp only [List.mem_cons, List.not_mem_nil, or_false] at hx
      rcases hx with rfl <;> assumption
    · cases h

def crierref15_Move_j0 (a0 : Option Addr) (a1 : Int) (a2 : Option Addr) (a3 : Option Addr) (Q : Value → World → Prop) (b7 : Bool) (w8 : World) : Prop :=
 cnd b7
 (Q (.bool false) w8)
 (CV P F.crierref15_Lpis_Set [.pointer a2, .pointer a0, .int .i64 a1, .bool false] w8 fun v9 w10 =>
 ∃ b11 : Bool, ∃ n12 : Int, v9 = .tuple [.bool b11, .int .i64 n12].toArray ∧
 CV P F.crierref15_Lpis_Set [.pointer a3, .pointer a0, .int .i64 a1, .bool true] w10 fun v13 w14 =>
 ∃ b15 : Bool, ∃ n16 : Int, v13 = .tuple [.bool b15, .int .i64 n16].toArray ∧
 Q (.bool true) w14)

def crierref15_Move (a0 : Option Addr) (a1 : Int) (a2 : Option Addr) (a3 : Option Addr) (a4 : Bool) (w : World) (Q : Value → World → Prop) : Prop :=
 JoinT (fun (J17 : crierref15_Move_J6.S → World → Prop) =>
  cnd (!a4)
  (J17 ((true : Bool)) w)
  (CV P F.crierref15_Lpis_Has [.pointer a2, .pointer a0, .int .i64 a1] w fun v18 w19 =>
  ∃ b20 : Bool, v18 = .bool b20 ∧
  cnd (!b20)
  (J17 ((true : Bool)) w19)
  (CV P F.crierref15_Lpis_Of [.pointer a3, .int .i64 a1] w19 fun v21 w22 =>
  ∃ b23 : Bool, v21 = .bool b23 ∧
  J17 (((!b23) : Bool)) w22)))
  fun (s24 : crierref15_Move_J6.S) w25 => crierref15_Move_j0 a0 a1 a2 a3 Q s24 w25
def crierref15_Move_ann : Nat → Option LoopSpec := fun
  | 6 => some crierref15_Move_J6
  | _ => none
theorem crierref15_Move_eq (a0 : Option Addr) (a1 : Int) (a2 : Option Addr) (a3 : Option Addr) (a4 : Bool) (w : World) (Q : Value → World → Prop) : fnX P crierref15_Move_ann Tryd.f66 [.pointer a0, .int .i64 a1, .pointer a2, .pointer a3, .bool a4] w Q = crierref15_Move a0 a1 a2 a3 a4 w Q := by kernel_rfl
theorem crierref15_Move_cv {a0 : Option Addr} {a1 : Int} {a2 : Option Addr} {a3 : Option Addr} {a4 : Bool} {w : World} {Q : Value → World → Prop} (h : crierref15_Move a0 a1 a2 a3 a4 w Q) : CV P F.crierref15_Move [.pointer a0, .int .i64 a1, .pointer a2, .pointer a3, .bool a4] w Q := CV_of mixed Tryd.func66 (crierref15_Move_eq a0 a1 a2 a3 a4 w Q ▸ h)

/- 67 crier/crierref15.MoveAll -/
def crierref15_MoveAll_L58 : LoopSpec where
  S := Int × Int
  emb := fun s => [(9, .int .i64 s.1), (16, .int .i64 s.2)]
  ext := fun t => match getL t 9, getL t 16 with
    | some (.int .i64 y10), some (.int .i64 y11) => some (y10, y11)
    | _, _ => none
  slots := [9, 16]
  fits := fun _ => rfl
  ok := by
    intro t s h x hx
    (try dsimp only at h hx)
    split at h
    · cases h
      simp only [List.mem_cons, List.not_mem_nil, or_false] at hx
      rcases hx with rfl | rfl <;> assumption
    · cases h

def crierref15_MoveAll_J934 : LoopSpec where
  S := Int
  emb := fun s => [(9, .int .i64 s)]
  ext := fun t => match getL t 9 with
    | some (.int .i64 y16) => some (y16)
    | _ => none
  slots := [9]
  fits := fun _ => rfl
  ok := by
    intro t s h x hx
    (try dsimp only at h hx)
    split at h
    · cases h
      simp only [List.mem_cons, List.not_mem_nil, or_false] at hx
      rcases hx with rfl <;> assumption
    · cases h

def crierref15_MoveAll_j0 (n13 : Int) (A15 : crierref15_MoveAll_L58.S → World → Prop) (n17 : Int) (w18 : World) : Prop :=
 A15 ((n17 : Int), ((IntKind.i64.wrap (n13 + 1)) : Int)) w18

def crierref15_MoveAll_l1 (a0 : Option Addr) (a1 : Option Addr) (a2 : Option Addr) (a3 : Bool) (Q : Value → World → Prop) (p7 : Option Addr) (l8 : Nat) (n12 : Int) (n13 : Int) (w14 : World) (A15 : crierref15_MoveAll_L58.S → World → Prop) : Prop :=
 cnd (decide (n13 < ((l8 : Nat) : Int)))
 (JoinT (fun (J19 : crierref15_MoveAll_J934.S → World → Prop) =>
  ix n13 l8 fun j20 => nn p7 fun a21 =>
  ldI .i64 (a21.add (j20 * 1)) w14 fun n22 =>
  CV P F.crierref15_Move [.pointer a0, .int .i64 n22, .pointer a1, .pointer a2, .bool a3] w14 fun v23 w24 =>
  ∃ b25 : Bool, v23 = .bool b25 ∧
  cnd b25
  (J19 (((IntKind.i64.wrap (n12 + 1)) : Int)) w24)
  (J19 ((n12 : Int)) w24))
  fun (s26 : crierref15_MoveAll_J934.S) w27 => crierref15_MoveAll_j0 n13 A15 s26 w27)
 (Q (.int .i64 n12) w14)

def crierref15_MoveAll (a0 : Option Addr) (a1 : Option Addr) (a2 : Option Addr) (a3 : Bool) (w : World) (Q : Value → World → Prop) : Prop :=
 CV P F.crierref15_Lpis_Waiting [.pointer a1, .pointer a0] w fun v5 w6 =>
 ∃ (p7 : Option Addr) (l8 c9 : Nat), v5 = .slice p7 l8 c9 ∧
 LoopT (fun (s28 : crierref15_MoveAll_L58.S) w29 A30 => crierref15_MoveAll_l1 a0 a1 a2 a3 Q p7 l8 s28.1 s28.2 w29 A30) ((0 : Int), (0 : Int)) w6
def crierref15_MoveAll_ann : Nat → Option LoopSpec := fun
  | 58 => some crierref15_MoveAll_L58
  | 934 => some crierref15_MoveAll_J934
  | _ => none
theorem crierref15_MoveAll_eq (a0 : Option Addr) (a1 : Option Addr) (a2 : Option Addr) (a3 : Bool) (w : World) (Q : Value → World → Prop) : fnX P crierref15_MoveAll_ann Tryd.f67 [.pointer a0, .pointer a1, .pointer a2, .bool a3] w Q = crierref15_MoveAll a0 a1 a2 a3 w Q := by kernel_rfl
theorem crierref15_MoveAll_cv {a0 : Option Addr} {a1 : Option Addr} {a2 : Option Addr} {a3 : Bool} {w : World} {Q : Value → World → Prop} (h : crierref15_MoveAll a0 a1 a2 a3 w Q) : CV P F.crierref15_MoveAll [.pointer a0, .pointer a1, .pointer a2, .bool a3] w Q := CV_of mixed Tryd.func67 (crierref15_MoveAll_eq a0 a1 a2 a3 w Q ▸ h)

/- 68 (*crier/crierref15.Lpis).Of -/
def crierref15_Lpis_Of_J3 : LoopSpec where
  S := Bool
  emb := fun s => [(4, .bool s)]
  ext := fun t => match getL t 4 with
    | some (.bool y3) => some (y3)
    | _ => none
  slots := [4]
  fits := fun _ => rfl
  ok := by
    intro t s h x hx
    (try dsimp only at h hx)
    split at h
    · cases h
      simp only [List.mem_cons, List.not_mem_nil, or_false] at hx
      rcases hx with rfl <;> assumption
    · cases h

def crierref15_Lpis_Of_j0 (Q : Value → World → Prop) (b4 : Bool) (w5 : World) : Prop :=
 Q (.bool b4) w5

def crierref15_Lpis_Of (a0 : Option Addr) (a1 : Int) (w : World) (Q : Value → World → Prop) : Prop :=
 JoinT (fun (J6 : crierref15_Lpis_Of_J3.S → World → Prop) =>
  cnd (decide (a1 ≥ 8192))
  (nn a0 fun a7 =>
  ldI .i64 a7 w fun n8 =>
  J6 (((decide (a1 < (IntKind.i64.wrap (8192 + n8)))) : Bool)) w)
  (J6 ((false : Bool)) w))
  fun (s9 : crierref15_Lpis_Of_J3.S) w10 => crierref15_Lpis_Of_j0 Q s9 w10
def crierref15_Lpis_Of_ann : Nat → Option LoopSpec := fun
  | 3 => some crierref15_Lpis_Of_J3
  | _ => none
theorem crierref15_Lpis_Of_eq (a0 : Option Addr) (a1 : Int) (w : World) (Q : Value → World → Prop) : fnX P crierref15_Lpis_Of_ann Tryd.f68 [.pointer a0, .int .i64 a1] w Q = crierref15_Lpis_Of a0 a1 w Q := by kernel_rfl
theorem crierref15_Lpis_Of_cv {a0 : Option Addr} {a1 : Int} {w : World} {Q : Value → World → Prop} (h : crierref15_Lpis_Of a0 a1 w Q) : CV P F.crierref15_Lpis_Of [.pointer a0, .int .i64 a1] w Q := CV_of mixed Tryd.func68 (crierref15_Lpis_Of_eq a0 a1 w Q ▸ h)

/- 69 (*crier/crierref15.Lpis).bit -/

def crierref15_Lpis_bit (a0 : Option Addr) (a1 : Option Addr) (a2 : Int) (w : World) (Q : Value → World → Prop) : Prop :=
 drw w fun w4 =>
 nn a1 fun a5 =>
 ldL a5 w4 fun p6 l7 c8 =>
 nn a0 fun a9 =>
 ldI .i64 (a9.add 4) w4 fun n10 =>
 (nz 8 <|
 ix (IntKind.i64.wrap (n10 + (IntKind.i64.wrap (Int.tdiv a2 8)))) l7 fun j11 => nn p6 fun a12 =>
 ldI .u8 (a12.add (j11 * 1)) w4 fun n13 =>
 (nz 8 <|
 (nng (Int.tmod a2 8) <|
 Q (.bool ((bitX .and .u8 (Int.fdiv n13 (2 ^ min (Int.toNat (Int.tmod a2 8)) (IntKind.u8.bits))) 1) == 1)) w4)))
def crierref15_Lpis_bit_ann : Nat → Option LoopSpec := fun
  | 6 => some (ordSpec [0, 1, 2, 3, 4, 5, 6, 7, 8, 9, 10, 11, 12, 13, 14, 15, 16, 17, 18, 19])
  | _ => none
theorem crierref15_Lpis_bit_eq (a0 : Option Addr) (a1 : Option Addr) (a2 : Int) (w : World) (Q : Value → World → Prop) : fnX P crierref15_Lpis_bit_ann Tryd.f69 [.pointer a0, .pointer a1, .int .i64 a2] w Q = crierref15_Lpis_bit a0 a1 a2 w Q := by kernel_rfl
theorem crierref15_Lpis_bit_cv {a0 : Option Addr} {a1 : Option Addr} {a2 : Int} {w : World} {Q : Value → World → Prop} (h : crierref15_Lpis_bit a0 a1 a2 w Q) : CV P F.crierref15_Lpis_bit [.pointer a0, .pointer a1, .int .i64 a2] w Q := CV_of mixed Tryd.func69 (crierref15_Lpis_bit_eq a0 a1 a2 w Q ▸ h)

/- 70 (*crier/sets.Set[int]).From -/

def sets_Set_int_From (a0 : Option Addr) (a1 : Int) (w : World) (Q : Value → World → Prop) : Prop :=
 alc [.int .i64 a1] T.t3 w fun b3 w4 =>
 nn a0 fun a5 =>
 ldL a5 w4 fun p6 l7 c8 =>
 CV P F.slices_Clone__uint64_uint64 [.slice p6 l7 c8] w4 fun v9 w10 =>
 ∃ (p11 : Option Addr) (l12 c13 : Nat), v9 = .slice p11 l12 c13 ∧
 alc [.slice none 0 0] T.t115 w10 fun b14 w15 =>
 st1 (.slice p11 l12 c13) ⟨b14, 0, none⟩ w15 fun w16 =>
 Q (.func (.func F.sets_Set_int_From_1) [].toArray [.pointer (some ⟨b14, 0, none⟩), .pointer (some ⟨b3, 0, none⟩)].toArray) w16
def sets_Set_int_From_ann : Nat → Option LoopSpec := fun _ => none
theorem sets_Set_int_From_eq (a0 : Option Addr) (a1 : Int) (w : World) (Q : Value → World → Prop) : fnX P sets_Set_int_From_ann Tryd.f70 [.pointer a0, .int .i64 a1] w Q = sets_Set_int_From a0 a1 w Q := by kernel_rfl
theorem sets_Set_int_From_cv {a0 : Option Addr} {a1 : Int} {w : World} {Q : Value → World → Prop} (h : sets_Set_int_From a0 a1 w Q) : CV P F.sets_Set_int_From [.pointer a0, .int .i64 a1] w Q := CV_of mixed Tryd.func70 (sets_Set_int_From_eq a0 a1 w Q ▸ h)

/- 71 crier/mem.May -/
def mem_May_J12 : LoopSpec where
  S := Bool
  emb := fun s => [(7, .bool s)]
  ext := fun t => match getL t 7 with
    | some (.bool y4) => some (y4)
    | _ => none
  slots := [7]
  fits := fun _ => rfl
  ok := by
    intro t s h x hx
    (try dsimp only at h hx)
    split at h
    · cases h
      simp only [List.mem_cons, List.not_mem_nil, or_false] at hx
      rcases hx with rfl <;> assumption
    · cases h

def mem_May_J207 : LoopSpec where
  S := Bool
  emb := fun s => [(23, .bool s)]
  ext := fun t => match getL t 23 with
    | some (.bool y7) => some (y7)
    | _ => none
  slots := [23]
  fits := fun _ => rfl
  ok := by
    intro t s h x hx
    (try dsimp only at h hx)
    split at h
    · cases h
      simp only [List.mem_cons, List.not_mem_nil, or_false] at hx
      rcases hx with rfl <;> assumption
    · cases h

def mem_May_j0 (Q : Value → World → Prop) (b8 : Bool) (w9 : World) : Prop :=
 cnd b8
 (Q (.int .i64 42) w9)
 (Q (.int .i64 0) w9)

def mem_May_j1 (a0 : Int) (a1 : Int) (a2 : Int) (Q : Value → World → Prop) (b5 : Bool) (w6 : World) : Prop :=
 cnd b5
 (Q (.int .i64 40) w6)
 ((nz a2 <|
 cnd ((Int.tmod a1 a2) != 0)
 (Q (.int .i64 41) w6)
 (JoinT (fun (J10 : mem_May_J207.S → World → Prop) =>
  cnd (decide (a1 < 0))
  (J10 ((true : Bool)) w6)
  (J10 (((decide (a1 > (IntKind.i64.wrap (a0 - a2)))) : Bool)) w6))
  fun (s11 : mem_May_J207.S) w12 => mem_May_j0 Q s11 w12)))

def mem_May (a0 : Int) (a1 : Int) (a2 : Int) (w : World) (Q : Value → World → Prop) : Prop :=
 JoinT (fun (J13 : mem_May_J12.S → World → Prop) =>
  cnd (a2 != 1)
  (cnd (a2 != 4)
  (J13 (((a2 != 8) : Bool)) w)
  (J13 ((false : Bool)) w))
  (J13 ((false : Bool)) w))
  fun (s14 : mem_May_J12.S) w15 => mem_May_j1 a0 a1 a2 Q s14 w15
def mem_May_ann : Nat → Option LoopSpec := fun
  | 12 => some mem_May_J12
  | 207 => some mem_May_J207
  | _ => none
theorem mem_May_eq (a0 : Int) (a1 : Int) (a2 : Int) (w : World) (Q : Value → World → Prop) : fnX P mem_May_ann Tryd.f71 [.int .i64 a0, .int .i64 a1, .int .i64 a2] w Q = mem_May a0 a1 a2 w Q := by kernel_rfl
theorem mem_May_cv {a0 : Int} {a1 : Int} {a2 : Int} {w : World} {Q : Value → World → Prop} (h : mem_May a0 a1 a2 w Q) : CV P F.mem_May [.int .i64 a0, .int .i64 a1, .int .i64 a2] w Q := CV_of mixed Tryd.func71 (mem_May_eq a0 a1 a2 w Q ▸ h)

/- 72 crier/crierref06.Before -/

def crierref06_Before (a0 : Int) (a1 : Int) (a2 : Int) (a3 : Int) (w : World) (Q : Value → World → Prop) : Prop :=
 cnd (a0 != a2)
 (Q (.bool (decide (a0 < a2))) w)
 (Q (.bool (decide (a1 < a3))) w)
def crierref06_Before_ann : Nat → Option LoopSpec := fun _ => none
theorem crierref06_Before_eq (a0 : Int) (a1 : Int) (a2 : Int) (a3 : Int) (w : World) (Q : Value → World → Prop) : fnX P crierref06_Before_ann Tryd.f72 [.int .i64 a0, .int .i64 a1, .int .i64 a2, .int .i64 a3] w Q = crierref06_Before a0 a1 a2 a3 w Q := by kernel_rfl
theorem crierref06_Before_cv {a0 : Int} {a1 : Int} {a2 : Int} {a3 : Int} {w : World} {Q : Value → World → Prop} (h : crierref06_Before a0 a1 a2 a3 w Q) : CV P F.crierref06_Before [.int .i64 a0, .int .i64 a1, .int .i64 a2, .int .i64 a3] w Q := CV_of mixed Tryd.func72 (crierref06_Before_eq a0 a1 a2 a3 w Q ▸ h)

/- 73 crier/crierref06.Real -/
def crierref06_Real_L58 : LoopSpec where
  S := Int × Int
  emb := fun s => [(3, .int .i64 s.1), (4, .int .i64 s.2)]
  ext := fun t => match getL t 3, getL t 4 with
    | some (.int .i64 y2), some (.int .i64 y3) => some (y2, y3)
    | _, _ => none
  slots := [3, 4]
  fits := fun _ => rfl
  ok := by
    intro t s h x hx
    (try dsimp only at h hx)
    split at h
    · cases h
      simp only [List.mem_cons, List.not_mem_nil, or_false] at hx
      rcases hx with rfl | rfl <;> assumption
    · cases h

def crierref06_Real_J466 : LoopSpec where
  S := Int
  emb := fun s => [(3, .int .i64 s)]
  ext := fun t => match getL t 3 with
    | some (.int .i64 y8) => some (y8)
    | _ => none
  slots := [3]
  fits := fun _ => rfl
  ok := by
    intro t s h x hx
    (try dsimp only at h hx)
    split at h
    · cases h
      simp only [List.mem_cons, List.not_mem_nil, or_false] at hx
      rcases hx with rfl <;> assumption
    · cases h

def crierref06_Real_j0 (n5 : Int) (A7 : crierref06_Real_L58.S → World → Prop) (n9 : Int) (w10 : World) : Prop :=
 A7 ((n9 : Int), ((IntKind.i64.wrap (n5 + 1)) : Int)) w10

def crierref06_Real_l1 (a0 : Int) (Q : Value → World → Prop) (n4 : Int) (n5 : Int) (w6 : World) (A7 : crierref06_Real_L58.S → World → Prop) : Prop :=
 cnd (decide (n5 ≤ 7))
 (JoinT (fun (J11 : crierref06_Real_J466.S → World → Prop) =>
  CV P F.crierref06_bit [.int .i64 a0, .int .i64 n5] w6 fun v12 w13 =>
  ∃ b14 : Bool, v12 = .bool b14 ∧
  cnd b14
  ((nng n5 <|
  J11 (((IntKind.i64.wrap (n4 + (IntKind.i64.wrap (1 * 2 ^ min (Int.toNat n5) (IntKind.i64.bits))))) : Int)) w13))
  (J11 ((n4 : Int)) w13))
  fun (s15 : crierref06_Real_J466.S) w16 => crierref06_Real_j0 n5 A7 s15 w16)
 (Q (.int .i64 n4) w6)

def crierref06_Real (a0 : Int) (w : World) (Q : Value → World → Prop) : Prop :=
 LoopT (fun (s17 : crierref06_Real_L58.S) w18 A19 => crierref06_Real_l1 a0 Q s17.1 s17.2 w18 A19) ((0 : Int), (3 : Int)) w
def crierref06_Real_ann : Nat → Option LoopSpec := fun
  | 58 => some crierref06_Real_L58
  | 466 => some crierref06_Real_J466
  | _ => none
theorem crierref06_Real_eq (a0 : Int) (w : World) (Q : Value → World → Prop) : fnX P crierref06_Real_ann Tryd.f73 [.int .i64 a0] w Q = crierref06_Real a0 w Q := by kernel_rfl
theorem crierref06_Real_cv {a0 : Int} {w : World} {Q : Value → World → Prop} (h : crierref06_Real a0 w Q) : CV P F.crierref06_Real [.int .i64 a0] w Q := CV_of mixed Tryd.func73 (crierref06_Real_eq a0 w Q ▸ h)

/- 74 (*crier/mem.Mem).Bytes -/

def mem_Mem_Bytes (a0 : Option Addr) (a1_0 : Int) (a1_1 : Int) (w : World) (Q : Value → World → Prop) : Prop :=
 alc [.int .i64 a1_0, .int .i64 a1_1] T.t23 w fun b4 w5 =>
 ldI .i64 ⟨b4, 0, none⟩ w5 fun n6 =>
 ldI .i64 ⟨b4, 1, none⟩ w5 fun n7 =>
 CV P F.mem_Mem_Holds [.pointer a0, .agg [.int .i64 n6, .int .i64 n7].toArray] w5 fun v8 w9 =>
 ∃ b10 : Bool, v8 = .bool b10 ∧
 cnd (!b10)
 (Q (.tuple [.slice none 0 0, .int .i64 42].toArray) w9)
 (drw w9 fun w11 =>
 nn a0 fun a12 =>
 ldL a12 w11 fun p13 l14 c15 =>
 ldI .i64 ⟨b4, 0, none⟩ w11 fun n16 =>
 ldI .i64 ⟨b4, 0, none⟩ w11 fun n17 =>
 ldI .i64 ⟨b4, 1, none⟩ w11 fun n18 =>
 slL p13 l14 c15 1 (some n16) (some (IntKind.i64.wrap (n17 + n18))) none fun p19 l20 c21 =>
 CV P F.slices_Clone__byte_byte [.slice p19 l20 c21] w11 fun v22 w23 =>
 ∃ (p24 : Option Addr) (l25 c26 : Nat), v22 = .slice p24 l25 c26 ∧
 Q (.tuple [.slice p24 l25 c26, .int .i64 0].toArray) w23)
def mem_Mem_Bytes_ann : Nat → Option LoopSpec := fun
  | 14 => some (ordSpec [0, 1, 2, 3, 4, 5, 6, 7, 8, 9, 10, 11, 12, 13, 14])
  | _ => none
theorem mem_Mem_Bytes_eq (a0 : Option Addr) (a1_0 : Int) (a1_1 : Int) (w : World) (Q : Value → World → Prop) : fnX P mem_Mem_Bytes_ann Tryd.f74 [.pointer a0, .agg [.int .i64 a1_0, .int .i64 a1_1].toArray] w Q = mem_Mem_Bytes a0 a1_0 a1_1 w Q := by kernel_rfl
theorem mem_Mem_Bytes_cv {a0 : Option Addr} {a1_0 : Int} {a1_1 : Int} {w : World} {Q : Value → World → Prop} (h : mem_Mem_Bytes a0 a1_0 a1_1 w Q) : CV P F.mem_Mem_Bytes [.pointer a0, .agg [.int .i64 a1_0, .int .i64 a1_1].toArray] w Q := CV_of mixed Tryd.func74 (mem_Mem_Bytes_eq a0 a1_0 a1_1 w Q ▸ h)

/- 75 (*crier/mem.Mem).Size -/

def mem_Mem_Size (a0 : Option Addr) (w : World) (Q : Value → World → Prop) : Prop :=
 nn a0 fun a2 =>
 ldL a2 w fun p3 l4 c5 =>
 Q (.int .i64 ((l4 : Nat) : Int)) w
def mem_Mem_Size_ann : Nat → Option LoopSpec := fun _ => none
theorem mem_Mem_Size_eq (a0 : Option Addr) (w : World) (Q : Value → World → Prop) : fnX P mem_Mem_Size_ann Tryd.f75 [.pointer a0] w Q = mem_Mem_Size a0 w Q := by kernel_rfl
theorem mem_Mem_Size_cv {a0 : Option Addr} {w : World} {Q : Value → World → Prop} (h : mem_Mem_Size a0 w Q) : CV P F.mem_Mem_Size [.pointer a0] w Q := CV_of mixed Tryd.func75 (mem_Mem_Size_eq a0 w Q ▸ h)

/- 76 slices.Clone[[]uint64,uint64] -/

def slices_Clone__uint64_uint64 (a0 : Option Addr) (a0_n : Nat) (a0_c : Nat) (w : World) (Q : Value → World → Prop) : Prop :=
 cnd (Option.isNone a0)
 (Q (.slice none 0 0) w)
 (alc [] T.t63 w fun b4 w5 =>
 runS P (Builtin.append_ #[T.t115, T.t115] T.t115 [.slice (some ⟨b4, 0, none⟩) 0 0, .slice a0 a0_n a0_c].toArray) w5 fun p6 l7 c8 w9 =>
 Q (.slice p6 l7 c8) w9)
def slices_Clone__uint64_uint64_ann : Nat → Option LoopSpec := fun _ => none
theorem slices_Clone__uint64_uint64_eq (a0 : Option Addr) (a0_n : Nat) (a0_c : Nat) (w : World) (Q : Value → World → Prop) : fnX P slices_Clone__uint64_uint64_ann Tryd.f76 [.slice a0 a0_n a0_c] w Q = slices_Clone__uint64_uint64 a0 a0_n a0_c w Q := by kernel_rfl
theorem slices_Clone__uint64_uint64_cv {a0 : Option Addr} {a0_n : Nat} {a0_c : Nat} {w : World} {Q : Value → World → Prop} (h : slices_Clone__uint64_uint64 a0 a0_n a0_c w Q) : CV P F.slices_Clone__uint64_uint64 [.slice a0 a0_n a0_c] w Q := CV_of mixed Tryd.func76 (slices_Clone__uint64_uint64_eq a0 a0_n a0_c w Q ▸ h)

/- 77 crier/crierref01.Put -/
def crierref01_Put_J6 : LoopSpec where
  S := Bool
  emb := fun s => [(15, .bool s)]
  ext := fun t => match getL t 15 with
    | some (.bool y5) => some (y5)
    | _ => none
  slots := [15]
  fits := fun _ => rfl
  ok := by
    intro t s h x hx
    (try dsimp only at h hx)
    split at h
    · cases h
      simp only [List.mem_cons, List.not_mem_nil, or_false] at hx
      rcases hx with rfl <;> assumption
    · cases h

def crierref01_Put_L250 : LoopSpec where
  S := (Option Addr × Nat × Nat) × Bool × Int
  emb := fun s => [(5, .slice s.1.1 s.1.2.1 s.1.2.2), (6, .bool s.2.1), (7, .int .i64 s.2.2)]
  ext := fun t => match getL t 5, getL t 6, getL t 7 with
    | some (.slice y8 y9 y10), some (.bool y11), some (.int .i64 y12) => some ((y8, y9, y10), y11, y12)
    | _, _, _ => none
  slots := [5, 6, 7]
  fits := fun _ => rfl
  ok := by
    intro t s h x hx
    (try dsimp only at h hx)
    split at h
    · cases h
      simp only [List.mem_cons, List.not_mem_nil, or_false] at hx
      rcases hx with rfl | rfl | rfl <;> assumption
    · cases h

def crierref01_Put_J4004 : LoopSpec where
  S := (Option Addr × Nat × Nat) × Bool
  emb := fun s => [(5, .slice s.1.1 s.1.2.1 s.1.2.2), (6, .bool s.2)]
  ext := fun t => match getL t 5, getL t 6 with
    | some (.slice y20 y21 y22), some (.bool y23) => some ((y20, y21, y22), y23)
    | _, _ => none
  slots := [5, 6]
  fits := fun _ => rfl
  ok := by
    intro t s h x hx
    (try dsimp only at h hx)
    split at h
    · cases h
      simp only [List.mem_cons, List.not_mem_nil, or_false] at hx
      rcases hx with rfl | rfl <;> assumption
    · cases h

def crierref01_Put_j0 (a0 : Option Addr) (a0_n : Nat) (n17 : Int) (A19 : crierref01_Put_L250.S → World → Prop) (p24 : Option Addr) (l25 : Nat) (c26 : Nat) (b27 : Bool) (w28 : World) : Prop :=
 ix n17 a0_n fun j29 => nn a0 fun a30 =>
 ldI .i64 (a30.add (j29 * 1)) w28 fun n31 =>
 alc [.int .i64 n31] T.t3 w28 fun b32 w33 =>
 runS P (Builtin.append_ #[T.t37, T.t37] T.t37 [.slice p24 l25 c26, .slice (some ⟨b32, 0, none⟩) 1 1].toArray) w33 fun p34 l35 c36 w37 =>
 A19 (((p34 : Option Addr), (l35 : Nat), (c36 : Nat)), (b27 : Bool), ((IntKind.i64.wrap (n17 + 1)) : Int)) w37

def crierref01_Put_J8008 : LoopSpec where
  S := Bool
  emb := fun s => [(32, .bool s)]
  ext := fun t => match getL t 32 with
    | some (.bool y39) => some (y39)
    | _ => none
  slots := [32]
  fits := fun _ => rfl
  ok := by
    intro t s h x hx
    (try dsimp only at h hx)
    split at h
    · cases h
      simp only [List.mem_cons, List.not_mem_nil, or_false] at hx
      rcases hx with rfl <;> assumption
    · cases h

def crierref01_Put_j1 (a1 : Int) (p13 : Option Addr) (l14 : Nat) (c15 : Nat) (b16 : Bool) (J38 : crierref01_Put_J4004.S → World → Prop) (b40 : Bool) (w41 : World) : Prop :=
 cnd b40
 (alc [.int .i64 a1] T.t3 w41 fun b42 w43 =>
 runS P (Builtin.append_ #[T.t37, T.t37] T.t37 [.slice p13 l14 c15, .slice (some ⟨b42, 0, none⟩) 1 1].toArray) w43 fun p44 l45 c46 w47 =>
 J38 (((p44 : Option Addr), (l45 : Nat), (c46 : Nat)), (true : Bool)) w47)
 (J38 (((p13 : Option Addr), (l14 : Nat), (c15 : Nat)), (b16 : Bool)) w41)

def crierref01_Put_J63 : LoopSpec where
  S := (Option Addr × Nat × Nat)
  emb := fun s => [(5, .slice s.1 s.2.1 s.2.2)]
  ext := fun t => match getL t 5 with
    | some (.slice y56 y57 y58) => some ((y56, y57, y58))
    | _ => none
  slots := [5]
  fits := fun _ => rfl
  ok := by
    intro t s h x hx
    (try dsimp only at h hx)
    split at h
    · cases h
      simp only [List.mem_cons, List.not_mem_nil, or_false] at hx
      rcases hx with rfl <;> assumption
    · cases h

def crierref01_Put_j2 (Q : Value → World → Prop) (p59 : Option Addr) (l60 : Nat) (c61 : Nat) (w62 : World) : Prop :=
 Q (.slice p59 l60 c61) w62

def crierref01_Put_l3 (a0 : Option Addr) (a0_n : Nat) (a1 : Int) (Q : Value → World → Prop) (p13 : Option Addr) (l14 : Nat) (c15 : Nat) (b16 : Bool) (n17 : Int) (w18 : World) (A19 : crierref01_Put_L250.S → World → Prop) : Prop :=
 cnd (decide (n17 < ((a0_n : Nat) : Int)))
 (JoinT (fun (J38 : crierref01_Put_J4004.S → World → Prop) =>
  JoinT (fun (J48 : crierref01_Put_J8008.S → World → Prop) =>
   ix n17 a0_n fun j49 => nn a0 fun a50 =>
   ldI .i64 (a50.add (j49 * 1)) w18 fun n51 =>
   cnd (decide (n51 > a1))
   (J48 (((!b16) : Bool)) w18)
   (J48 ((false : Bool)) w18))
   fun (s52 : crierref01_Put_J8008.S) w53 => crierref01_Put_j1 a1 p13 l14 c15 b16 J38 s52 w53)
  fun (s54 : crierref01_Put_J4004.S) w55 => crierref01_Put_j0 a0 a0_n n17 A19 s54.1.1 s54.1.2.1 s54.1.2.2 s54.2 w55)
 (JoinT (fun (J63 : crierref01_Put_J63.S → World → Prop) =>
  cnd (!b16)
  (alc [.int .i64 a1] T.t3 w18 fun b64 w65 =>
  runS P (Builtin.append_ #[T.t37, T.t37] T.t37 [.slice p13 l14 c15, .slice (some ⟨b64, 0, none⟩) 1 1].toArray) w65 fun p66 l67 c68 w69 =>
  J63 (((p66 : Option Addr), (l67 : Nat), (c68 : Nat))) w69)
  (J63 (((p13 : Option Addr), (l14 : Nat), (c15 : Nat))) w18))
  fun (s70 : crierref01_Put_J63.S) w71 => crierref01_Put_j2 Q s70.1 s70.2.1 s70.2.2 w71)

def crierref01_Put_j4 (a0 : Option Addr) (a0_n : Nat) (a0_c : Nat) (a1 : Int) (Q : Value → World → Prop) (b6 : Bool) (w7 : World) : Prop :=
 cnd b6
 (Q (.slice a0 a0_n a0_c) w7)
 (LoopT (fun (s72 : crierref01_Put_L250.S) w73 A74 => crierref01_Put_l3 a0 a0_n a1 Q s72.1.1 s72.1.2.1 s72.1.2.2 s72.2.1 s72.2.2 w73 A74) (((none : Option Addr), (0 : Nat), (0 : Nat)), (false : Bool), (0 : Int)) w7)

def crierref01_Put (a0 : Option Addr) (a0_n : Nat) (a0_c : Nat) (a1 : Int) (w : World) (Q : Value → World → Prop) : Prop :=
 JoinT (fun (J75 : crierref01_Put_J6.S → World → Prop) =>
  CV P F.crierref01_May [.int .i64 a1] w fun v76 w77 =>
  ∃ b78 : Bool, v76 = .bool b78 ∧
  cnd (!b78)
  (J75 ((true : Bool)) w77)
  (CV P F.crierref01_Has [.slice a0 a0_n a0_c, .int .i64 a1] w77 fun v79 w80 =>
  ∃ b81 : Bool, v79 = .bool b81 ∧
  J75 ((b81 : Bool)) w80))
  fun (s82 : crierref01_Put_J6.S) w83 => crierref01_Put_j4 a0 a0_n a0_c a1 Q s82 w83
def crierref01_Put_ann : Nat → Option LoopSpec := fun
  | 6 => some crierref01_Put_J6
  | 250 => some crierref01_Put_L250
  | 4004 => some crierref01_Put_J4004
  | 8008 => some crierref01_Put_J8008
  | 63 => some crierref01_Put_J63
  | _ => none
theorem crierref01_Put_eq (a0 : Option Addr) (a0_n : Nat) (a0_c : Nat) (a1 : Int) (w : World) (Q : Value → World → Prop) : fnX P crierref01_Put_ann Tryd.f77 [.slice a0 a0_n a0_c, .int .i64 a1] w Q = crierref01_Put a0 a0_n a0_c a1 w Q := by kernel_rfl
theorem crierref01_Put_cv {a0 : Option Addr} {a0_n : Nat} {a0_c : Nat} {a1 : Int} {w : World} {Q : Value → World → Prop} (h : crierref01_Put a0 a0_n a0_c a1 w Q) : CV P F.crierref01_Put [.slice a0 a0_n a0_c, .int .i64 a1] w Q := CV_of mixed Tryd.func77 (crierref01_Put_eq a0 a0_n a0_c a1 w Q ▸ h)

/- 78 (*crier/crierref15.Lpis).put -/

def crierref15_Lpis_put (a0 : Option Addr) (a1 : Option Addr) (a2 : Int) (a3 : Bool) (w : World) (Q : Value → World → Prop) : Prop :=
 nn a0 fun a5 =>
 ldI .i64 (a5.add 4) w fun n6 =>
 (nz 8 <|
 CV P F.crierref15_Lpis_bit [.pointer a0, .pointer a1, .int .i64 a2] w fun v7 w8 =>
 ∃ b9 : Bool, v7 = .bool b9 ∧
 cnd (!(b9 == a3))
 (drw w8 fun w10 =>
 nn a1 fun a11 =>
 ldL a11 w10 fun p12 l13 c14 =>
 nn a1 fun a15 =>
 ldL a15 w10 fun p16 l17 c18 =>
 ix (IntKind.i64.wrap (n6 + (IntKind.i64.wrap (Int.tdiv a2 8)))) l17 fun j19 => nn p16 fun a20 =>
 ldI .u8 (a20.add (j19 * 1)) w10 fun n21 =>
 (nz 8 <|
 (nng (Int.tmod a2 8) <|
 ix (IntKind.i64.wrap (n6 + (IntKind.i64.wrap (Int.tdiv a2 8)))) l13 fun j22 => nn p12 fun a23 =>
 st1 (.int .u8 (bitX .xor .u8 n21 (IntKind.u8.wrap (1 * 2 ^ min (Int.toNat (Int.tmod a2 8)) (IntKind.u8.bits))))) (a23.add (j22 * 1)) w10 fun w24 =>
 Q (.tuple [].toArray) w24)))
 (Q (.tuple [].toArray) w8))
def crierref15_Lpis_put_ann : Nat → Option LoopSpec := fun
  | 14 => some (ordSpec [0, 1, 2, 3, 4, 5, 6, 7, 8, 9, 10, 11, 12, 13, 14, 15, 16, 17])
  | _ => none
theorem crierref15_Lpis_put_eq (a0 : Option Addr) (a1 : Option Addr) (a2 : Int) (a3 : Bool) (w : World) (Q : Value → World → Prop) : fnX P crierref15_Lpis_put_ann Tryd.f78 [.pointer a0, .pointer a1, .int .i64 a2, .bool a3] w Q = crierref15_Lpis_put a0 a1 a2 a3 w Q := by kernel_rfl
theorem crierref15_Lpis_put_cv {a0 : Option Addr} {a1 : Option Addr} {a2 : Int} {a3 : Bool} {w : World} {Q : Value → World → Prop} (h : crierref15_Lpis_put a0 a1 a2 a3 w Q) : CV P F.crierref15_Lpis_put [.pointer a0, .pointer a1, .int .i64 a2, .bool a3] w Q := CV_of mixed Tryd.func78 (crierref15_Lpis_put_eq a0 a1 a2 a3 w Q ▸ h)

/- 79 crier/crierref01.Take -/
def crierref01_Take_L58 : LoopSpec where
  S := (Option Addr × Nat × Nat) × Int
  emb := fun s => [(5, .slice s.1.1 s.1.2.1 s.1.2.2), (6, .int .i64 s.2)]
  ext := fun t => match getL t 5, getL t 6 with
    | some (.slice y5 y6 y7), some (.int .i64 y8) => some ((y5, y6, y7), y8)
    | _, _ => none
  slots := [5, 6]
  fits := fun _ => rfl
  ok := by
    intro t s h x hx
    (try dsimp only at h hx)
    split at h
    · cases h
      simp only [List.mem_cons, List.not_mem_nil, or_false] at hx
      rcases hx with rfl | rfl <;> assumption
    · cases h

def crierref01_Take_J466 : LoopSpec where
  S := (Option Addr × Nat × Nat)
  emb := fun s => [(5, .slice s.1 s.2.1 s.2.2)]
  ext := fun t => match getL t 5 with
    | some (.slice y15 y16 y17) => some ((y15, y16, y17))
    | _ => none
  slots := [5]
  fits := fun _ => rfl
  ok := by
    intro t s h x hx
    (try dsimp only at h hx)
    split at h
    · cases h
      simp only [List.mem_cons, List.not_mem_nil, or_false] at hx
      rcases hx with rfl <;> assumption
    · cases h

def crierref01_Take_j0 (n12 : Int) (A14 : crierref01_Take_L58.S → World → Prop) (p18 : Option Addr) (l19 : Nat) (c20 : Nat) (w21 : World) : Prop :=
 A14 (((p18 : Option Addr), (l19 : Nat), (c20 : Nat)), ((IntKind.i64.wrap (n12 + 1)) : Int)) w21

def crierref01_Take_l1 (a0 : Option Addr) (a0_n : Nat) (a1 : Int) (Q : Value → World → Prop) (p9 : Option Addr) (l10 : Nat) (c11 : Nat) (n12 : Int) (w13 : World) (A14 : crierref01_Take_L58.S → World → Prop) : Prop :=
 cnd (decide (n12 < ((a0_n : Nat) : Int)))
 (JoinT (fun (J22 : crierref01_Take_J466.S → World → Prop) =>
  ix n12 a0_n fun j23 => nn a0 fun a24 =>
  ldI .i64 (a24.add (j23 * 1)) w13 fun n25 =>
  cnd (n25 != a1)
  (ix n12 a0_n fun j26 => nn a0 fun a27 =>
  ldI .i64 (a27.add (j26 * 1)) w13 fun n28 =>
  alc [.int .i64 n28] T.t3 w13 fun b29 w30 =>
  runS P (Builtin.append_ #[T.t37, T.t37] T.t37 [.slice p9 l10 c11, .slice (some ⟨b29, 0, none⟩) 1 1].toArray) w30 fun p31 l32 c33 w34 =>
  J22 (((p31 : Option Addr), (l32 : Nat), (c33 : Nat))) w34)
  (J22 (((p9 : Option Addr), (l10 : Nat), (c11 : Nat))) w13))
  fun (s35 : crierref01_Take_J466.S) w36 => crierref01_Take_j0 n12 A14 s35.1 s35.2.1 s35.2.2 w36)
 (Q (.slice p9 l10 c11) w13)

def crierref01_Take (a0 : Option Addr) (a0_n : Nat) (a0_c : Nat) (a1 : Int) (w : World) (Q : Value → World → Prop) : Prop :=
 LoopT (fun (s37 : crierref01_Take_L58.S) w38 A39 => crierref01_Take_l1 a0 a0_n a1 Q s37.1.1 s37.1.2.1 s37.1.2.2 s37.2 w38 A39) (((none : Option Addr), (0 : Nat), (0 : Nat)), (0 : Int)) w
def crierref01_Take_ann : Nat → Option LoopSpec := fun
  | 58 => some crierref01_Take_L58
  | 466 => some crierref01_Take_J466
  | _ => none
theorem crierref01_Take_eq (a0 : Option Addr) (a0_n : Nat) (a0_c : Nat) (a1 : Int) (w : World) (Q : Value → World → Prop) : fnX P crierref01_Take_ann Tryd.f79 [.slice a0 a0_n a0_c, .int .i64 a1] w Q = crierref01_Take a0 a0_n a0_c a1 w Q := by kernel_rfl
theorem crierref01_Take_cv {a0 : Option Addr} {a0_n : Nat} {a0_c : Nat} {a1 : Int} {w : World} {Q : Value → World → Prop} (h : crierref01_Take a0 a0_n a0_c a1 w Q) : CV P F.crierref01_Take [.slice a0 a0_n a0_c, .int .i64 a1] w Q := CV_of mixed Tryd.func79 (crierref01_Take_eq a0 a0_n a0_c a1 w Q ▸ h)

/- 80 crier/crierref04.May -/
def crierref04_May_J6 : LoopSpec where
  S := Bool
  emb := fun s => [(16, .bool s)]
  ext := fun t => match getL t 16 with
    | some (.bool y4) => some (y4)
    | _ => none
  slots := [16]
  fits := fun _ => rfl
  ok := by
    intro t s h x hx
    (try dsimp only at h hx)
    split at h
    · cases h
      simp only [List.mem_cons, List.not_mem_nil, or_false] at hx
      rcases hx with rfl <;> assumption
    · cases h

def crierref04_May_J30 : LoopSpec where
  S := Bool
  emb := fun s => [(29, .bool s)]
  ext := fun t => match getL t 29 with
    | some (.bool y7) => some (y7)
    | _ => none
  slots := [29]
  fits := fun _ => rfl
  ok := by
    intro t s h x hx
    (try dsimp only at h hx)
    split at h
    · cases h
      simp only [List.mem_cons, List.not_mem_nil, or_false] at hx
      rcases hx with rfl <;> assumption
    · cases h

def crierref04_May_j0 (Q : Value → World → Prop) (b8 : Bool) (w9 : World) : Prop :=
 cnd b8
 (Q (.int .i64 42) w9)
 (Q (.int .i64 0) w9)

def crierref04_May_j1 (a0 : Int) (a1 : Int) (a2 : Int) (Q : Value → World → Prop) (b5 : Bool) (w6 : World) : Prop :=
 cnd b5
 (Q (.int .i64 40) w6)
 ((nz a2 <|
 cnd ((Int.tmod a1 a2) != 0)
 (Q (.int .i64 41) w6)
 (JoinT (fun (J10 : crierref04_May_J30.S → World → Prop) =>
  cnd (decide (a1 < 0))
  (J10 ((true : Bool)) w6)
  (J10 (((decide (a1 > (IntKind.i64.wrap (a0 - a2)))) : Bool)) w6))
  fun (s11 : crierref04_May_J30.S) w12 => crierref04_May_j0 Q s11 w12)))

def crierref04_May (a0 : Int) (a1 : Int) (a2 : Int) (w : World) (Q : Value → World → Prop) : Prop :=
 JoinT (fun (J13 : crierref04_May_J6.S → World → Prop) =>
  cnd (a2 != 1)
  (cnd (a2 != 4)
  (J13 (((a2 != 8) : Bool)) w)
  (J13 ((false : Bool)) w))
  (J13 ((false : Bool)) w))
  fun (s14 : crierref04_May_J6.S) w15 => crierref04_May_j1 a0 a1 a2 Q s14 w15
def crierref04_May_ann : Nat → Option LoopSpec := fun
  | 6 => some crierref04_May_J6
  | 30 => some crierref04_May_J30
  | _ => none
theorem crierref04_May_eq (a0 : Int) (a1 : Int) (a2 : Int) (w : World) (Q : Value → World → Prop) : fnX P crierref04_May_ann Tryd.f80 [.int .i64 a0, .int .i64 a1, .int .i64 a2] w Q = crierref04_May a0 a1 a2 w Q := by kernel_rfl
theorem crierref04_May_cv {a0 : Int} {a1 : Int} {a2 : Int} {w : World} {Q : Value → World → Prop} (h : crierref04_May a0 a1 a2 w Q) : CV P F.crierref04_May [.int .i64 a0, .int .i64 a1, .int .i64 a2] w Q := CV_of mixed Tryd.func80 (crierref04_May_eq a0 a1 a2 w Q ▸ h)

/- 81 (*crier/sets.Set[int]).From$1 -/
def sets_Set_int_From_1_L6 : LoopSpec where
  S := Int
  emb := fun s => [(9, .int .i64 s)]
  ext := fun t => match getL t 9 with
    | some (.int .i64 y7) => some (y7)
    | _ => none
  slots := [9]
  fits := fun _ => rfl
  ok := by
    intro t s h x hx
    (try dsimp only at h hx)
    split at h
    · cases h
      simp only [List.mem_cons, List.not_mem_nil, or_false] at hx
      rcases hx with rfl <;> assumption
    · cases h

def sets_Set_int_From_1_L818 : LoopSpec where
  S := Int
  emb := fun s => [(5, .int .u64 s)]
  ext := fun t => match getL t 5 with
    | some (.int .u64 y14) => some (y14)
    | _ => none
  slots := [5]
  fits := fun _ => rfl
  ok := by
    intro t s h x hx
    (try dsimp only at h hx)
    split at h
    · cases h
      simp only [List.mem_cons, List.not_mem_nil, or_false] at hx
      rcases hx with rfl <;> assumption
    · cases h

def sets_Set_int_From_1_J26187 : LoopSpec where
  S := Bool
  emb := fun s => [(33, .bool s)]
  ext := fun t => match getL t 33 with
    | some (.bool y21) => some (y21)
    | _ => none
  slots := [33]
  fits := fun _ => rfl
  ok := by
    intro t s h x hx
    (try dsimp only at h hx)
    split at h
    · cases h
      simp only [List.mem_cons, List.not_mem_nil, or_false] at hx
      rcases hx with rfl <;> assumption
    · cases h

def sets_Set_int_From_1_j0 (Q : Value → World → Prop) (n15 : Int) (A17 : sets_Set_int_From_1_L818.S → World → Prop) (b22 : Bool) (w23 : World) : Prop :=
 cnd b22
 (Q (.tuple [].toArray) w23)
 (A17 (((bitX .and .u64 n15 (IntKind.u64.wrap (n15 - 1))) : Int)) w23)

def sets_Set_int_From_1_l1 (a0 : Value) (f1 : Addr) (Q : Value → World → Prop) (n8 : Int) (A10 : sets_Set_int_From_1_L6.S → World → Prop) (n15 : Int) (w16 : World) (A17 : sets_Set_int_From_1_L818.S → World → Prop) : Prop :=
 cnd (n15 != 0)
 (CV P F.math_bits_TrailingZeros64 [.int .u64 n15] w16 fun v18 w19 =>
 ∃ n20 : Int, v18 = .int .i64 n20 ∧
 JoinT (fun (J24 : sets_Set_int_From_1_J26187.S → World → Prop) =>
  ldI .i64 f1 w19 fun n25 =>
  cnd (decide ((IntKind.i64.wrap ((IntKind.i64.wrap (64 * n8)) + n20)) ≥ n25))
  (callVal P a0 [.int .i64 (IntKind.i64.wrap ((IntKind.i64.wrap (64 * n8)) + n20))] w19 fun v26 w27 =>
  ∃ b28 : Bool, v26 = .bool b28 ∧
  J24 (((!b28) : Bool)) w27)
  (J24 ((false : Bool)) w19))
  fun (s29 : sets_Set_int_From_1_J26187.S) w30 => sets_Set_int_From_1_j0 Q n15 A17 s29 w30)
 (A10 (((IntKind.i64.wrap (n8 + 1)) : Int)) w16)

def sets_Set_int_From_1_l2 (a0 : Value) (f1 : Addr) (Q : Value → World → Prop) (p4 : Option Addr) (l5 : Nat) (n8 : Int) (w9 : World) (A10 : sets_Set_int_From_1_L6.S → World → Prop) : Prop :=
 cnd (decide (n8 < ((l5 : Nat) : Int)))
 (ix n8 l5 fun j11 => nn p4 fun a12 =>
 ldI .u64 (a12.add (j11 * 1)) w9 fun n13 =>
 LoopT (fun (s31 : sets_Set_int_From_1_L818.S) w32 A33 => sets_Set_int_From_1_l1 a0 f1 Q n8 A10 s31 w32 A33) ((n13 : Int)) w9)
 (Q (.tuple [].toArray) w9)

def sets_Set_int_From_1 (a0 : Value) (f0 : Addr) (f1 : Addr) (w : World) (Q : Value → World → Prop) : Prop :=
 ldL f0 w fun p4 l5 c6 =>
 LoopT (fun (s34 : sets_Set_int_From_1_L6.S) w35 A36 => sets_Set_int_From_1_l2 a0 f1 Q p4 l5 s34 w35 A36) ((0 : Int)) w
def sets_Set_int_From_1_ann : Nat → Option LoopSpec := fun
  | 6 => some sets_Set_int_From_1_L6
  | 818 => some sets_Set_int_From_1_L818
  | 26187 => some sets_Set_int_From_1_J26187
  | _ => none
theorem sets_Set_int_From_1_eq (a0 : Value) (f0 : Addr) (f1 : Addr) (w : World) (Q : Value → World → Prop) : fnX P sets_Set_int_From_1_ann Tryd.f81 [a0, .pointer (some f0), .pointer (some f1)] w Q = sets_Set_int_From_1 a0 f0 f1 w Q := by kernel_rfl
theorem sets_Set_int_From_1_cv {a0 : Value} {f0 : Addr} {f1 : Addr} {w : World} {Q : Value → World → Prop} (h : sets_Set_int_From_1 a0 f0 f1 w Q) : CV P F.sets_Set_int_From_1 [a0, .pointer (some f0), .pointer (some f1)] w Q := CV_of mixed Tryd.func81 (sets_Set_int_From_1_eq a0 f0 f1 w Q ▸ h)

/- 82 math/bits.TrailingZeros64 -/

def math_bits_TrailingZeros64 (a0 : Int) (w : World) (Q : Value → World → Prop) : Prop :=
 cnd (a0 == 0)
 (Q (.int .i64 64) w)
 ((nng 58 <|
 ix (Int.fdiv (IntKind.u64.wrap ((bitX .and .u64 a0 (IntKind.u64.wrap (0 - a0))) * 285870213051353865)) (2 ^ min (Int.toNat 58) (IntKind.u64.bits))) 64 fun j2 =>
 ldI .u8 (Addr.add ⟨0, 0, none⟩ (j2 * 1)) w fun n3 =>
 Q (.int .i64 (IntKind.i64.wrap (n3))) w))
def math_bits_TrailingZeros64_ann : Nat → Option LoopSpec := fun _ => none
theorem math_bits_TrailingZeros64_eq (a0 : Int) (w : World) (Q : Value → World → Prop) : fnX P math_bits_TrailingZeros64_ann Tryd.f82 [.int .u64 a0] w Q = math_bits_TrailingZeros64 a0 w Q := by kernel_rfl
theorem math_bits_TrailingZeros64_cv {a0 : Int} {w : World} {Q : Value → World → Prop} (h : math_bits_TrailingZeros64 a0 w Q) : CV P F.math_bits_TrailingZeros64 [.int .u64 a0] w Q := CV_of mixed Tryd.func82 (math_bits_TrailingZeros64_eq a0 w Q ▸ h)

/- 83 crier/crierref06.bit -/

def crierref06_bit (a0 : Int) (a1 : Int) (w : World) (Q : Value → World → Prop) : Prop :=
 (nng a1 <|
 Q (.bool ((bitX .and .i64 (Int.fdiv a0 (2 ^ min (Int.toNat a1) (IntKind.i64.bits))) 1) == 1)) w)
def crierref06_bit_ann : Nat → Option LoopSpec := fun _ => none
theorem crierref06_bit_eq (a0 : Int) (a1 : Int) (w : World) (Q : Value → World → Prop) : fnX P crierref06_bit_ann Tryd.f83 [.int .i64 a0, .int .i64 a1] w Q = crierref06_bit a0 a1 w Q := by kernel_rfl
theorem crierref06_bit_cv {a0 : Int} {a1 : Int} {w : World} {Q : Value → World → Prop} (h : crierref06_bit a0 a1 w Q) : CV P F.crierref06_bit [.int .i64 a0, .int .i64 a1] w Q := CV_of mixed Tryd.func83 (crierref06_bit_eq a0 a1 w Q ▸ h)

/- 84 crier/crierref01.May -/
def crierref01_May_J3 : LoopSpec where
  S := Bool
  emb := fun s => [(2, .bool s)]
  ext := fun t => match getL t 2 with
    | some (.bool y2) => some (y2)
    | _ => none
  slots := [2]
  fits := fun _ => rfl
  ok := by
    intro t s h x hx
    (try dsimp only at h hx)
    split at h
    · cases h
      simp only [List.mem_cons, List.not_mem_nil, or_false] at hx
      rcases hx with rfl <;> assumption
    · cases h

def crierref01_May_j0 (Q : Value → World → Prop) (b3 : Bool) (w4 : World) : Prop :=
 Q (.bool b3) w4

def crierref01_May (a0 : Int) (w : World) (Q : Value → World → Prop) : Prop :=
 JoinT (fun (J5 : crierref01_May_J3.S → World → Prop) =>
  cnd (decide (a0 ≥ 0))
  (J5 (((decide (a0 < 16384)) : Bool)) w)
  (J5 ((false : Bool)) w))
  fun (s6 : crierref01_May_J3.S) w7 => crierref01_May_j0 Q s6 w7
def crierref01_May_ann : Nat → Option LoopSpec := fun
  | 3 => some crierref01_May_J3
  | _ => none
theorem crierref01_May_eq (a0 : Int) (w : World) (Q : Value → World → Prop) : fnX P crierref01_May_ann Tryd.f84 [.int .i64 a0] w Q = crierref01_May a0 w Q := by kernel_rfl
theorem crierref01_May_cv {a0 : Int} {w : World} {Q : Value → World → Prop} (h : crierref01_May a0 w Q) : CV P F.crierref01_May [.int .i64 a0] w Q := CV_of mixed Tryd.func84 (crierref01_May_eq a0 w Q ▸ h)

end Go.Proofs.YtgjddhpblpfneaaDoor
