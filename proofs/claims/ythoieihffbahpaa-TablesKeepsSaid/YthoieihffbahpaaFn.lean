/-
  The functions' words, printed by Gen.lean out of the translation: each word's equation with the code is asked of the kernel.
-/
import Derived.Test.YthoieihffbahpaaX8
import Derived.Test.YthoieihffbahpaaChecked
namespace Go.Proofs.Ythoieihffbahpaa
open Go X
set_option maxRecDepth 100000
set_option linter.unusedVariables false
noncomputable abbrev P : Program := Try.prog
theorem mixed : P.follows .mixedOrders = true := Checked.mixed Try.checked
abbrev F.gosem_cut_init : FuncId := 2
abbrev F.crierlaw18_TablesFlat : FuncId := 3
abbrev F.crierlaw18_TablesRoutes : FuncId := 4
abbrev F.crierlaw18_TablesTargets : FuncId := 5
abbrev F.crierlaw18_TablesKeeps : FuncId := 6
abbrev F.crierlaw18_awake : FuncId := 7
abbrev F.crierlaw04_New : FuncId := 8
abbrev F.tables_Table_Lead : FuncId := 9
abbrev F.tables_Table_Get : FuncId := 10
abbrev F.tables_Table_Put : FuncId := 11
abbrev F.mem_Mem_Size : FuncId := 12
abbrev F.tables_Device_Events : FuncId := 13
abbrev F.tables_Device_SetRoute : FuncId := 14
abbrev F.tables_Device_Routes : FuncId := 15
abbrev F.tables_Device_Route : FuncId := 16
abbrev F.tables_Target : FuncId := 17
abbrev F.tables_SetTarget : FuncId := 18
abbrev F.crierlaw18_played : FuncId := 19
abbrev F.mem_Mem_Bytes : FuncId := 20
abbrev F.mem_New : FuncId := 21
abbrev F.mem_Mem_Read : FuncId := 22
abbrev F.tables_Table_Right : FuncId := 23
abbrev F.mem_Mem_Holds : FuncId := 24
abbrev F.mem_Mem_Write : FuncId := 25
abbrev F.tables_flag : FuncId := 26
abbrev F.tables_Table_slot : FuncId := 27
abbrev F.tables_Device_event : FuncId := 28
abbrev F.tables_Device_Routes_1 : FuncId := 29
abbrev F.crierlaw18_does : FuncId := 30
abbrev F.slices_Clone__byte_byte : FuncId := 31
abbrev F.mem_Mem_part : FuncId := 32
abbrev F.mem_Part : FuncId := 33
abbrev F.crierlaw18_table : FuncId := 34
abbrev F.crierref18_Table_Lead : FuncId := 35
abbrev F.crierref18_Table_Put : FuncId := 36
abbrev F.crierlaw18_told : FuncId := 37
abbrev F.crierref18_Device_SetRoute : FuncId := 38
abbrev F.crierref18_SetTarget : FuncId := 39
abbrev F.crierref04_Mem_Write : FuncId := 40
abbrev F.mem_May : FuncId := 41
abbrev F.mem_fair : FuncId := 42
abbrev F.crierref18_Table_Right : FuncId := 43
abbrev F.crierref04_Mem_Holds : FuncId := 44
abbrev F.crierref18_entry : FuncId := 45
abbrev F.crierref18_put : FuncId := 46
abbrev F.crierref18_Table_place : FuncId := 47
abbrev F.crierref18_Device_place : FuncId := 48
abbrev F.crierref04_May : FuncId := 49
abbrev F.crierref18_power : FuncId := 50
abbrev F.crierref18_get : FuncId := 51
abbrev F.crierref18_Device_Events : FuncId := 52
abbrev T.t0 : TypeId := 0
abbrev T.t1 : TypeId := 1
abbrev T.t2 : TypeId := 2
abbrev T.t3 : TypeId := 3
abbrev T.t4 : TypeId := 4
abbrev T.t5 : TypeId := 5
abbrev T.t6 : TypeId := 6
abbrev T.t7 : TypeId := 7
abbrev T.t8 : TypeId := 8
abbrev T.t9 : TypeId := 9
abbrev T.t10 : TypeId := 10
abbrev T.t11 : TypeId := 11
abbrev T.t12 : TypeId := 12
abbrev T.t13 : TypeId := 13
abbrev T.t14 : TypeId := 14
abbrev T.t15 : TypeId := 15
abbrev T.t16 : TypeId := 16
abbrev T.t17 : TypeId := 17
abbrev T.t18 : TypeId := 18
abbrev T.t19 : TypeId := 19
abbrev T.t20 : TypeId := 20
abbrev T.t21 : TypeId := 21
abbrev T.t22 : TypeId := 22
abbrev T.t23 : TypeId := 23
abbrev T.t24 : TypeId := 24
abbrev T.t25 : TypeId := 25
abbrev T.t26 : TypeId := 26
abbrev T.t27 : TypeId := 27
abbrev T.t28 : TypeId := 28
abbrev T.t29 : TypeId := 29
abbrev T.t30 : TypeId := 30
abbrev T.t31 : TypeId := 31
abbrev T.t32 : TypeId := 32
abbrev T.t33 : TypeId := 33
abbrev T.t34 : TypeId := 34
abbrev T.t35 : TypeId := 35
abbrev T.t36 : TypeId := 36
abbrev T.t37 : TypeId := 37
abbrev T.t38 : TypeId := 38
abbrev T.t39 : TypeId := 39
abbrev T.t40 : TypeId := 40
abbrev T.t41 : TypeId := 41
abbrev T.t42 : TypeId := 42
abbrev T.t43 : TypeId := 43
abbrev T.t44 : TypeId := 44
abbrev T.t45 : TypeId := 45
abbrev T.t46 : TypeId := 46
abbrev T.t47 : TypeId := 47
abbrev T.t48 : TypeId := 48
abbrev T.t49 : TypeId := 49
abbrev T.t50 : TypeId := 50
abbrev T.t51 : TypeId := 51
abbrev T.t52 : TypeId := 52
abbrev T.t53 : TypeId := 53
abbrev T.t54 : TypeId := 54
abbrev T.t55 : TypeId := 55
abbrev T.t56 : TypeId := 56
abbrev T.t57 : TypeId := 57
abbrev T.t58 : TypeId := 58
abbrev T.t59 : TypeId := 59
abbrev T.t60 : TypeId := 60
abbrev T.t61 : TypeId := 61
abbrev T.t62 : TypeId := 62
abbrev T.t63 : TypeId := 63
abbrev T.t64 : TypeId := 64
abbrev T.t65 : TypeId := 65
abbrev T.t66 : TypeId := 66
abbrev T.t67 : TypeId := 67
abbrev T.t68 : TypeId := 68
abbrev T.t69 : TypeId := 69
abbrev T.t70 : TypeId := 70
abbrev T.t71 : TypeId := 71
abbrev T.t72 : TypeId := 72
abbrev T.t73 : TypeId := 73
abbrev T.t74 : TypeId := 74
abbrev T.t75 : TypeId := 75
abbrev T.t76 : TypeId := 76
abbrev T.t77 : TypeId := 77
abbrev T.t78 : TypeId := 78
abbrev T.t79 : TypeId := 79
abbrev T.t80 : TypeId := 80
abbrev T.t81 : TypeId := 81
abbrev T.t82 : TypeId := 82
abbrev T.t83 : TypeId := 83
abbrev T.t84 : TypeId := 84
abbrev T.t85 : TypeId := 85
abbrev T.t86 : TypeId := 86
abbrev T.t87 : TypeId := 87
abbrev T.t88 : TypeId := 88
abbrev T.t89 : TypeId := 89
abbrev T.t90 : TypeId := 90
abbrev T.t91 : TypeId := 91
abbrev T.t92 : TypeId := 92
abbrev T.t93 : TypeId := 93
abbrev T.t94 : TypeId := 94
abbrev T.t95 : TypeId := 95
abbrev T.t96 : TypeId := 96
abbrev T.t97 : TypeId := 97
abbrev T.t98 : TypeId := 98
abbrev T.t99 : TypeId := 99
abbrev T.t100 : TypeId := 100
abbrev T.t101 : TypeId := 101
abbrev T.t102 : TypeId := 102
abbrev T.t103 : TypeId := 103
abbrev T.t104 : TypeId := 104
abbrev T.t105 : TypeId := 105
abbrev T.t106 : TypeId := 106
abbrev T.t107 : TypeId := 107
abbrev T.t108 : TypeId := 108
abbrev T.t109 : TypeId := 109
abbrev T.t110 : TypeId := 110
abbrev T.t111 : TypeId := 111
abbrev T.t112 : TypeId := 112
abbrev T.t113 : TypeId := 113
abbrev T.t114 : TypeId := 114
abbrev T.t115 : TypeId := 115
abbrev T.t116 : TypeId := 116
abbrev T.t117 : TypeId := 117
abbrev T.t118 : TypeId := 118
abbrev T.t119 : TypeId := 119
abbrev T.t120 : TypeId := 120
abbrev T.t121 : TypeId := 121
abbrev T.t122 : TypeId := 122
/- 3 crier/crierlaw18.TablesFlat -/
def crierlaw18_TablesFlat_J62 : LoopSpec where
  S := Bool
  emb := fun s => [(39, .bool s)]
  ext := fun t => match getL t 39 with
    | some (.bool y15) => some (y15)
    | _ => none
  slots := [39]
  fits := fun _ => rfl
  ok := by
    intro t s h x hx
    (try dsimp only at h hx)
    split at h
    · cases h
      simp only [List.mem_cons, List.not_mem_nil, or_false] at hx
      rcases hx with rfl <;> assumption
    · cases h

def crierlaw18_TablesFlat_L2042 : LoopSpec where
  S := Int
  emb := fun s => [(12, .int .i64 s)]
  ext := fun t => match getL t 12 with
    | some (.int .i64 y28) => some (y28)
    | _ => none
  slots := [12]
  fits := fun _ => rfl
  ok := by
    intro t s h x hx
    (try dsimp only at h hx)
    split at h
    · cases h
      simp only [List.mem_cons, List.not_mem_nil, or_false] at hx
      rcases hx with rfl <;> assumption
    · cases h

def crierlaw18_TablesFlat_L4090 : LoopSpec where
  S := Int
  emb := fun s => [(13, .int .i64 s)]
  ext := fun t => match getL t 13 with
    | some (.int .i64 y38) => some (y38)
    | _ => none
  slots := [13]
  fits := fun _ => rfl
  ok := by
    intro t s h x hx
    (try dsimp only at h hx)
    split at h
    · cases h
      simp only [List.mem_cons, List.not_mem_nil, or_false] at hx
      rcases hx with rfl <;> assumption
    · cases h

def crierlaw18_TablesFlat_J16360 : LoopSpec where
  S := Bool
  emb := fun s => [(66, .bool s)]
  ext := fun t => match getL t 66 with
    | some (.bool y42) => some (y42)
    | _ => none
  slots := [66]
  fits := fun _ => rfl
  ok := by
    intro t s h x hx
    (try dsimp only at h hx)
    split at h
    · cases h
      simp only [List.mem_cons, List.not_mem_nil, or_false] at hx
      rcases hx with rfl <;> assumption
    · cases h

def crierlaw18_TablesFlat_J2094239 : LoopSpec where
  S := Bool
  emb := fun s => [(149, .bool s)]
  ext := fun t => match getL t 149 with
    | some (.bool y119) => some (y119)
    | _ => none
  slots := [149]
  fits := fun _ => rfl
  ok := by
    intro t s h x hx
    (try dsimp only at h hx)
    split at h
    · cases h
      simp only [List.mem_cons, List.not_mem_nil, or_false] at hx
      rcases hx with rfl <;> assumption
    · cases h

def crierlaw18_TablesFlat_j0 (Q : Value → World → Prop) (n39 : Int) (A41 : crierlaw18_TablesFlat_L4090.S → World → Prop) (b120 : Bool) (w121 : World) : Prop :=
 cnd b120
 (Q (.bool false) w121)
 (A41 (((IntKind.i64.wrap (n39 + 1)) : Int)) w121)

def crierlaw18_TablesFlat_J4095 : LoopSpec where
  S := Bool
  emb := fun s => [(6, .bool s)]
  ext := fun t => match getL t 6 with
    | some (.bool y167) => some (y167)
    | _ => none
  slots := [6]
  fits := fun _ => rfl
  ok := by
    intro t s h x hx
    (try dsimp only at h hx)
    split at h
    · cases h
      simp only [List.mem_cons, List.not_mem_nil, or_false] at hx
      rcases hx with rfl <;> assumption
    · cases h

def crierlaw18_TablesFlat_j1 (Q : Value → World → Prop) (b168 : Bool) (w169 : World) : Prop :=
 Q (.bool b168) w169

def crierlaw18_TablesFlat_j2 (a0 : Option Addr) (a0_n : Nat) (a1 : Option Addr) (a1_n : Nat) (a2 : Int) (Q : Value → World → Prop) (p13 : Option Addr) (b18 : Nat) (b23 : Nat) (n39 : Int) (A41 : crierlaw18_TablesFlat_L4090.S → World → Prop) (b43 : Bool) (w44 : World) : Prop :=
 cnd b43
 (ix n39 a0_n fun j45 => nn a0 fun a46 =>
 ldI .u8 (a46.add (j45 * 1)) w44 fun n47 =>
 (nz 16 <|
 ldI .i64 ⟨b18, 0, none⟩ w44 fun n48 =>
 ldI .i64 ⟨b18, 1, none⟩ w44 fun n49 =>
 ldI .i64 ⟨b18, 2, none⟩ w44 fun n50 =>
 (nz 16 <|
 CV P F.tables_Table_Get [.agg [.int .i64 n48, .int .i64 n49, .int .i64 n50].toArray, .pointer p13, .int .i64 (IntKind.i64.wrap ((Int.tmod a2 16)))] w44 fun v51 w52 =>
 ∃ b53 : Bool, ∃ n54 : Int, ∃ n55 : Int, ∃ n56 : Int, v51 = .tuple [.agg [.bool b53, .int .i64 n54, .int .i64 n55].toArray, .int .i64 n56].toArray ∧
 alc [.bool false, .int .i64 0, .int .i64 0] T.t36 w52 fun b57 w58 =>
 st1 (.bool b53) ⟨b57, 0, none⟩ w58 fun w59 =>
 st1 (.int .i64 n54) ⟨b57, 1, none⟩ w59 fun w60 =>
 st1 (.int .i64 n55) ⟨b57, 2, none⟩ w60 fun w61 =>
 drw w61 fun w62 =>
 ldI .i64 ⟨b18, 0, none⟩ w62 fun n63 =>
 ldI .i64 ⟨b18, 1, none⟩ w62 fun n64 =>
 ldI .i64 ⟨b18, 2, none⟩ w62 fun n65 =>
 ix n39 a1_n fun j66 => nn a1 fun a67 =>
 ldB (a67.add (j66 * 3)) w62 fun b68 =>
 ldI .i64 ((a67.add (j66 * 3)).add 1) w62 fun n69 =>
 ldI .i64 ((a67.add (j66 * 3)).add 2) w62 fun n70 =>
 ldI .i64 ⟨b23, 0, none⟩ w62 fun n71 =>
 ldI .i64 ⟨b23, 1, none⟩ w62 fun n72 =>
 ldI .i64 ⟨b23, 2, none⟩ w62 fun n73 =>
 ix n39 a1_n fun j74 => nn a1 fun a75 =>
 ldB (a75.add (j74 * 3)) w62 fun b76 =>
 ldI .i64 ((a75.add (j74 * 3)).add 1) w62 fun n77 =>
 ldI .i64 ((a75.add (j74 * 3)).add 2) w62 fun n78 =>
 CV P F.tables_Table_Put [.agg [.int .i64 n63, .int .i64 n64, .int .i64 n65].toArray, .pointer p13, .int .i64 (IntKind.i64.wrap ((Int.tmod n47 16))), .agg [.bool b68, .int .i64 n69, .int .i64 n70].toArray] w62 fun v79 w80 =>
 ∃ n81 : Int, v79 = .int .i64 n81 ∧
 (ldB (a75.add (j74 * 3)) w80 fun b82 =>
 ldI .i64 ((a75.add (j74 * 3)).add 1) w80 fun n83 =>
 ldI .i64 ((a75.add (j74 * 3)).add 2) w80 fun n84 =>
 ((.agg [.bool b82, .int .i64 n83, .int .i64 n84].toArray : Value) = .agg [.bool b76, .int .i64 n77, .int .i64 n78].toArray)) ∧
 (ldI .i64 ⟨b23, 0, none⟩ w80 fun n85 =>
 ldI .i64 ⟨b23, 1, none⟩ w80 fun n86 =>
 ldI .i64 ⟨b23, 2, none⟩ w80 fun n87 =>
 ((.agg [.int .i64 n85, .int .i64 n86, .int .i64 n87].toArray : Value) = .agg [.int .i64 n71, .int .i64 n72, .int .i64 n73].toArray)) ∧
 CV P F.tables_Table_Put [.agg [.int .i64 n71, .int .i64 n72, .int .i64 n73].toArray, .pointer p13, .int .i64 (IntKind.i64.wrap ((Int.tmod n47 16))), .agg [.bool b76, .int .i64 n77, .int .i64 n78].toArray] w80 fun v88 w89 =>
 ∃ n90 : Int, v88 = .int .i64 n90 ∧
 ldI .i64 ⟨b18, 0, none⟩ w89 fun n91 =>
 ldI .i64 ⟨b18, 1, none⟩ w89 fun n92 =>
 ldI .i64 ⟨b18, 2, none⟩ w89 fun n93 =>
 (nz 16 <|
 CV P F.tables_Table_Get [.agg [.int .i64 n91, .int .i64 n92, .int .i64 n93].toArray, .pointer p13, .int .i64 (IntKind.i64.wrap ((Int.tmod a2 16)))] w89 fun v94 w95 =>
 ∃ b96 : Bool, ∃ n97 : Int, ∃ n98 : Int, ∃ n99 : Int, v94 = .tuple [.agg [.bool b96, .int .i64 n97, .int .i64 n98].toArray, .int .i64 n99].toArray ∧
 alc [.bool false, .int .i64 0, .int .i64 0] T.t36 w95 fun b100 w101 =>
 st1 (.bool b96) ⟨b100, 0, none⟩ w101 fun w102 =>
 st1 (.int .i64 n97) ⟨b100, 1, none⟩ w102 fun w103 =>
 st1 (.int .i64 n98) ⟨b100, 2, none⟩ w103 fun w104 =>
 ldI .i64 ⟨b23, 0, none⟩ w104 fun n105 =>
 ldI .i64 ⟨b23, 1, none⟩ w104 fun n106 =>
 ldI .i64 ⟨b23, 2, none⟩ w104 fun n107 =>
 (nz 16 <|
 CV P F.tables_Table_Get [.agg [.int .i64 n105, .int .i64 n106, .int .i64 n107].toArray, .pointer p13, .int .i64 (IntKind.i64.wrap ((Int.tmod a2 16)))] w104 fun v108 w109 =>
 ∃ b110 : Bool, ∃ n111 : Int, ∃ n112 : Int, ∃ n113 : Int, v108 = .tuple [.agg [.bool b110, .int .i64 n111, .int .i64 n112].toArray, .int .i64 n113].toArray ∧
 alc [.bool false, .int .i64 0, .int .i64 0] T.t36 w109 fun b114 w115 =>
 st1 (.bool b110) ⟨b114, 0, none⟩ w115 fun w116 =>
 st1 (.int .i64 n111) ⟨b114, 1, none⟩ w116 fun w117 =>
 st1 (.int .i64 n112) ⟨b114, 2, none⟩ w117 fun w118 =>
 JoinT (fun (J122 : crierlaw18_TablesFlat_J2094239.S → World → Prop) =>
  cnd (n81 != n90)
  (J122 ((true : Bool)) w118)
  (cnd (n56 != 0)
  (J122 ((true : Bool)) w118)
  (cnd (n99 != 0)
  (J122 ((true : Bool)) w118)
  (cnd (n113 != 0)
  (J122 ((true : Bool)) w118)
  (ldB ⟨b100, 0, none⟩ w118 fun b123 =>
  ldI .i64 ⟨b100, 1, none⟩ w118 fun n124 =>
  ldI .i64 ⟨b100, 2, none⟩ w118 fun n125 =>
  ldB ⟨b114, 0, none⟩ w118 fun b126 =>
  ldI .i64 ⟨b114, 1, none⟩ w118 fun n127 =>
  ldI .i64 ⟨b114, 2, none⟩ w118 fun n128 =>
  eqA P .neq T.t36 (.agg [.bool b123, .int .i64 n124, .int .i64 n125].toArray) (.agg [.bool b126, .int .i64 n127, .int .i64 n128].toArray) w118 fun b129 =>
  cnd b129
  (J122 ((true : Bool)) w118)
  ((nz 16 <|
  cnd ((IntKind.i64.wrap ((Int.tmod n47 16))) != (IntKind.i64.wrap ((Int.tmod a2 16))))
  (ldB ⟨b57, 0, none⟩ w118 fun b130 =>
  ldI .i64 ⟨b57, 1, none⟩ w118 fun n131 =>
  ldI .i64 ⟨b57, 2, none⟩ w118 fun n132 =>
  ldB ⟨b100, 0, none⟩ w118 fun b133 =>
  ldI .i64 ⟨b100, 1, none⟩ w118 fun n134 =>
  ldI .i64 ⟨b100, 2, none⟩ w118 fun n135 =>
  eqA P .neq T.t36 (.agg [.bool b130, .int .i64 n131, .int .i64 n132].toArray) (.agg [.bool b133, .int .i64 n134, .int .i64 n135].toArray) w118 fun b136 =>
  J122 ((b136 : Bool)) w118)
  (J122 ((false : Bool)) w118))))))))
  fun (s137 : crierlaw18_TablesFlat_J2094239.S) w138 => crierlaw18_TablesFlat_j0 Q n39 A41 s137 w138)))))
 (ldI .i64 ⟨b18, 0, none⟩ w44 fun n139 =>
 ldI .i64 ⟨b18, 1, none⟩ w44 fun n140 =>
 ldI .i64 ⟨b18, 2, none⟩ w44 fun n141 =>
 CV P F.tables_Table_Get [.agg [.int .i64 n139, .int .i64 n140, .int .i64 n141].toArray, .pointer p13, .int .i64 16] w44 fun v142 w143 =>
 ∃ b144 : Bool, ∃ n145 : Int, ∃ n146 : Int, ∃ n147 : Int, v142 = .tuple [.agg [.bool b144, .int .i64 n145, .int .i64 n146].toArray, .int .i64 n147].toArray ∧
 alc [.bool false, .int .i64 0, .int .i64 0] T.t36 w143 fun b148 w149 =>
 st1 (.bool b144) ⟨b148, 0, none⟩ w149 fun w150 =>
 st1 (.int .i64 n145) ⟨b148, 1, none⟩ w150 fun w151 =>
 st1 (.int .i64 n146) ⟨b148, 2, none⟩ w151 fun w152 =>
 ldI .i64 ⟨b23, 0, none⟩ w152 fun n153 =>
 ldI .i64 ⟨b23, 1, none⟩ w152 fun n154 =>
 ldI .i64 ⟨b23, 2, none⟩ w152 fun n155 =>
 CV P F.tables_Table_Get [.agg [.int .i64 n153, .int .i64 n154, .int .i64 n155].toArray, .pointer p13, .int .i64 16] w152 fun v156 w157 =>
 ∃ b158 : Bool, ∃ n159 : Int, ∃ n160 : Int, ∃ n161 : Int, v156 = .tuple [.agg [.bool b158, .int .i64 n159, .int .i64 n160].toArray, .int .i64 n161].toArray ∧
 alc [.bool false, .int .i64 0, .int .i64 0] T.t36 w157 fun b162 w163 =>
 st1 (.bool b158) ⟨b162, 0, none⟩ w163 fun w164 =>
 st1 (.int .i64 n159) ⟨b162, 1, none⟩ w164 fun w165 =>
 st1 (.int .i64 n160) ⟨b162, 2, none⟩ w165 fun w166 =>
 JoinT (fun (J170 : crierlaw18_TablesFlat_J4095.S → World → Prop) =>
  cnd (n147 == 180)
  (J170 (((n161 == 180) : Bool)) w166)
  (J170 ((false : Bool)) w166))
  fun (s171 : crierlaw18_TablesFlat_J4095.S) w172 => crierlaw18_TablesFlat_j1 Q s171 w172)

def crierlaw18_TablesFlat_l3 (a0 : Option Addr) (a0_n : Nat) (a1 : Option Addr) (a1_n : Nat) (a2 : Int) (Q : Value → World → Prop) (p13 : Option Addr) (b18 : Nat) (b23 : Nat) (n39 : Int) (w40 : World) (A41 : crierlaw18_TablesFlat_L4090.S → World → Prop) : Prop :=
 JoinT (fun (J173 : crierlaw18_TablesFlat_J16360.S → World → Prop) =>
  cnd (decide (n39 < ((a0_n : Nat) : Int)))
  (J173 (((decide (n39 < ((a1_n : Nat) : Int))) : Bool)) w40)
  (J173 ((false : Bool)) w40))
  fun (s174 : crierlaw18_TablesFlat_J16360.S) w175 => crierlaw18_TablesFlat_j2 a0 a0_n a1 a1_n a2 Q p13 b18 b23 n39 A41 s174 w175

def crierlaw18_TablesFlat_l4 (a0 : Option Addr) (a0_n : Nat) (a1 : Option Addr) (a1_n : Nat) (a2 : Int) (Q : Value → World → Prop) (p13 : Option Addr) (b18 : Nat) (b23 : Nat) (n29 : Int) (w30 : World) (A31 : crierlaw18_TablesFlat_L2042.S → World → Prop) : Prop :=
 cnd (decide (n29 < 4))
 (ldI .i64 ⟨b23, 0, none⟩ w30 fun n32 =>
 ldI .i64 ⟨b23, 1, none⟩ w30 fun n33 =>
 ldI .i64 ⟨b23, 2, none⟩ w30 fun n34 =>
 CV P F.tables_Table_Lead [.agg [.int .i64 n32, .int .i64 n33, .int .i64 n34].toArray, .pointer p13, .int .i64 (IntKind.i64.wrap (4 * n29)), .int .i64 (IntKind.i64.wrap (200 + (IntKind.i64.wrap (40 * n29))))] w30 fun v35 w36 =>
 ∃ n37 : Int, v35 = .int .i64 n37 ∧
 cnd (n37 != 0)
 (Q (.bool false) w36)
 (A31 (((IntKind.i64.wrap (n29 + 1)) : Int)) w36))
 (LoopT (fun (s176 : crierlaw18_TablesFlat_L4090.S) w177 A178 => crierlaw18_TablesFlat_l3 a0 a0_n a1 a1_n a2 Q p13 b18 b23 s176 w177 A178) ((0 : Int)) w30)

def crierlaw18_TablesFlat_j5 (a0 : Option Addr) (a0_n : Nat) (a1 : Option Addr) (a1_n : Nat) (a2 : Int) (Q : Value → World → Prop) (p13 : Option Addr) (b16 : Bool) (w17 : World) : Prop :=
 cnd b16
 (Q (.bool false) w17)
 (alc [.int .i64 0, .int .i64 0, .int .i64 0] T.t32 w17 fun b18 w19 =>
 st1 (.int .i64 0) ⟨b18, 0, none⟩ w19 fun w20 =>
 st1 (.int .i64 128) ⟨b18, 1, none⟩ w20 fun w21 =>
 st1 (.int .i64 0) ⟨b18, 2, none⟩ w21 fun w22 =>
 alc [.int .i64 0, .int .i64 0, .int .i64 0] T.t32 w22 fun b23 w24 =>
 st1 (.int .i64 128) ⟨b23, 0, none⟩ w24 fun w25 =>
 st1 (.int .i64 32) ⟨b23, 1, none⟩ w25 fun w26 =>
 st1 (.int .i64 32) ⟨b23, 2, none⟩ w26 fun w27 =>
 LoopT (fun (s179 : crierlaw18_TablesFlat_L2042.S) w180 A181 => crierlaw18_TablesFlat_l4 a0 a0_n a1 a1_n a2 Q p13 b18 b23 s179 w180 A181) ((0 : Int)) w27)

def crierlaw18_TablesFlat (a0 : Option Addr) (a0_n : Nat) (a0_c : Nat) (a1 : Option Addr) (a1_n : Nat) (a1_c : Nat) (a2 : Int) (w : World) (Q : Value → World → Prop) : Prop :=
 CV P F.crierlaw18_awake [] w fun v8 w9 =>
 ∃ b10 : Bool, v8 = .bool b10 ∧
 cnd (!b10)
 (Q (.bool false) w9)
 (CV P F.crierlaw04_New [.int .i64 1000] w9 fun v11 w12 =>
 ∃ p13 : Option Addr, ∃ p14 : Option Addr, v11 = .tuple [.pointer p13, .pointer p14].toArray ∧
 JoinT (fun (J182 : crierlaw18_TablesFlat_J62.S → World → Prop) =>
  cnd (!b10)
  (J182 ((true : Bool)) w12)
  (J182 (((Option.isNone p13) : Bool)) w12))
  fun (s183 : crierlaw18_TablesFlat_J62.S) w184 => crierlaw18_TablesFlat_j5 a0 a0_n a1 a1_n a2 Q p13 s183 w184)
def crierlaw18_TablesFlat_ann : Nat → Option LoopSpec := fun
  | 62 => some crierlaw18_TablesFlat_J62
  | 2042 => some crierlaw18_TablesFlat_L2042
  | 4090 => some crierlaw18_TablesFlat_L4090
  | 16360 => some crierlaw18_TablesFlat_J16360
  | 523558 => some (ordSpec [0, 1, 2, 3, 4, 5, 6, 8, 9, 10, 11, 12, 13, 14, 7, 15, 16, 17])
  | 2094239 => some crierlaw18_TablesFlat_J2094239
  | 4095 => some crierlaw18_TablesFlat_J4095
  | _ => none
theorem crierlaw18_TablesFlat_eq (a0 : Option Addr) (a0_n : Nat) (a0_c : Nat) (a1 : Option Addr) (a1_n : Nat) (a1_c : Nat) (a2 : Int) (w : World) (Q : Value → World → Prop) : fnX P crierlaw18_TablesFlat_ann Try.f3 [.slice a0 a0_n a0_c, .slice a1 a1_n a1_c, .int .u8 a2] w Q = crierlaw18_TablesFlat a0 a0_n a0_c a1 a1_n a1_c a2 w Q := by kernel_rfl
theorem crierlaw18_TablesFlat_cv {a0 : Option Addr} {a0_n : Nat} {a0_c : Nat} {a1 : Option Addr} {a1_n : Nat} {a1_c : Nat} {a2 : Int} {w : World} {Q : Value → World → Prop} (h : crierlaw18_TablesFlat a0 a0_n a0_c a1 a1_n a1_c a2 w Q) : CV P F.crierlaw18_TablesFlat [.slice a0 a0_n a0_c, .slice a1 a1_n a1_c, .int .u8 a2] w Q := CV_of mixed Try.func3 (crierlaw18_TablesFlat_eq a0 a0_n a0_c a1 a1_n a1_c a2 w Q ▸ h)

/- 4 crier/crierlaw18.TablesRoutes -/
def crierlaw18_TablesRoutes_J62 : LoopSpec where
  S := Bool
  emb := fun s => [(56, .bool s)]
  ext := fun t => match getL t 56 with
    | some (.bool y27) => some (y27)
    | _ => none
  slots := [56]
  fits := fun _ => rfl
  ok := by
    intro t s h x hx
    (try dsimp only at h hx)
    split at h
    · cases h
      simp only [List.mem_cons, List.not_mem_nil, or_false] at hx
      rcases hx with rfl <;> assumption
    · cases h

def crierlaw18_TablesRoutes_J250 : LoopSpec where
  S := Unit
  emb := fun _ => []
  ext := fun _ => some ()
  slots := []
  fits := fun _ => rfl
  ok := by
    intro t s h x hx; cases hx

def crierlaw18_TablesRoutes_j0 (Q : Value → World → Prop) (b13 : Nat) (w30 : World) : Prop :=
 ldB ⟨b13, 0, none⟩ w30 fun b31 =>
 Q (.bool b31) w30

def crierlaw18_TablesRoutes_L1018 : LoopSpec where
  S := Int
  emb := fun s => [(12, .int .i64 s)]
  ext := fun t => match getL t 12 with
    | some (.int .i64 y39) => some (y39)
    | _ => none
  slots := [12]
  fits := fun _ => rfl
  ok := by
    intro t s h x hx
    (try dsimp only at h hx)
    split at h
    · cases h
      simp only [List.mem_cons, List.not_mem_nil, or_false] at hx
      rcases hx with rfl <;> assumption
    · cases h

def crierlaw18_TablesRoutes_J4072 : LoopSpec where
  S := Bool
  emb := fun s => [(72, .bool s)]
  ext := fun t => match getL t 72 with
    | some (.bool y43) => some (y43)
    | _ => none
  slots := [72]
  fits := fun _ => rfl
  ok := by
    intro t s h x hx
    (try dsimp only at h hx)
    split at h
    · cases h
      simp only [List.mem_cons, List.not_mem_nil, or_false] at hx
      rcases hx with rfl <;> assumption
    · cases h

def crierlaw18_TablesRoutes_J65450 : LoopSpec where
  S := Bool
  emb := fun s => [(115, .bool s)]
  ext := fun t => match getL t 115 with
    | some (.bool y107) => some (y107)
    | _ => none
  slots := [115]
  fits := fun _ => rfl
  ok := by
    intro t s h x hx
    (try dsimp only at h hx)
    split at h
    · cases h
      simp only [List.mem_cons, List.not_mem_nil, or_false] at hx
      rcases hx with rfl <;> assumption
    · cases h

def crierlaw18_TablesRoutes_j1 (b13 : Nat) (b62 : Nat) (b64 : Nat) (l75 : Nat) (r76 : Loop) (Q79 : Value → World → Prop) (n82 : Int) (b108 : Bool) (w109 : World) : Prop :=
 cnd b108
 (st1 (.bool false) ⟨b13, 0, none⟩ w109 fun w110 =>
 recAt w110 l75 r76 .busy none ∧ setR w110 l75 r76 .done (some .ret) fun w111 => Q79 (.bool false) w111)
 (st1 (.int .i64 n82) ⟨b62, 0, none⟩ w109 fun w112 =>
 ldI .i64 ⟨b64, 0, none⟩ w112 fun n113 =>
 st1 (.int .i64 (IntKind.i64.wrap (n113 + 1))) ⟨b64, 0, none⟩ w112 fun w114 =>
 recAt w114 l75 r76 .busy none ∧ setR w114 l75 r76 .ready none fun w115 => Q79 (.bool true) w115)

def crierlaw18_TablesRoutes_r2 (b11 : Nat) (b13 : Nat) (b24 : Nat) (b62 : Nat) (b64 : Nat) (l75 : Nat) (r76 : Loop) (vs77 : List Value) (w78 : World) (Q79 : Value → World → Prop) : Prop :=
 X.b2 vs77 fun v80 v81 =>
 ∃ n82 : Int, v80 = .int .i64 n82 ∧
 ∃ n83 : Int, ∃ n84 : Int, ∃ b85 : Bool, v81 = .agg [.int .i64 n83, .int .i64 n84, .bool b85].toArray ∧
 alc [.int .i64 0, .int .i64 0, .bool false] T.t45 w78 fun b86 w87 =>
 st1 (.int .i64 n83) ⟨b86, 0, none⟩ w87 fun w88 =>
 st1 (.int .i64 n84) ⟨b86, 1, none⟩ w88 fun w89 =>
 st1 (.bool b85) ⟨b86, 2, none⟩ w89 fun w90 =>
 recAt w90 l75 r76 .ready none ∧ setR w90 l75 r76 .busy none fun w91 =>
 ldB ⟨b11, 0, none⟩ w91 fun b92 =>
 ldI .i64 ⟨b11, 1, none⟩ w91 fun n93 =>
 ldI .i64 ⟨b11, 2, none⟩ w91 fun n94 =>
 ldP ⟨b24, 0, none⟩ w91 fun p95 =>
 CV P F.tables_Device_Route [.agg [.bool b92, .int .i64 n93, .int .i64 n94].toArray, .pointer p95, .int .i64 n82] w91 fun v96 w97 =>
 ∃ n98 : Int, ∃ n99 : Int, ∃ b100 : Bool, ∃ n101 : Int, v96 = .tuple [.agg [.int .i64 n98, .int .i64 n99, .bool b100].toArray, .int .i64 n101].toArray ∧
 alc [.int .i64 0, .int .i64 0, .bool false] T.t45 w97 fun b102 w103 =>
 st1 (.int .i64 n98) ⟨b102, 0, none⟩ w103 fun w104 =>
 st1 (.int .i64 n99) ⟨b102, 1, none⟩ w104 fun w105 =>
 st1 (.bool b100) ⟨b102, 2, none⟩ w105 fun w106 =>
 JoinT (fun (J116 : crierlaw18_TablesRoutes_J65450.S → World → Prop) =>
  ldI .i64 ⟨b62, 0, none⟩ w106 fun n117 =>
  cnd (decide (n82 ≤ n117))
  (J116 ((true : Bool)) w106)
  (cnd (n101 != 0)
  (J116 ((true : Bool)) w106)
  (ldI .i64 ⟨b102, 0, none⟩ w106 fun n118 =>
  ldI .i64 ⟨b102, 1, none⟩ w106 fun n119 =>
  ldB ⟨b102, 2, none⟩ w106 fun b120 =>
  ldI .i64 ⟨b86, 0, none⟩ w106 fun n121 =>
  ldI .i64 ⟨b86, 1, none⟩ w106 fun n122 =>
  ldB ⟨b86, 2, none⟩ w106 fun b123 =>
  eqA P .neq T.t45 (.agg [.int .i64 n118, .int .i64 n119, .bool b120].toArray) (.agg [.int .i64 n121, .int .i64 n122, .bool b123].toArray) w106 fun b124 =>
  cnd b124
  (J116 ((true : Bool)) w106)
  (ldB ⟨b86, 2, none⟩ w106 fun b125 =>
  J116 (((!b125) : Bool)) w106))))
  fun (s126 : crierlaw18_TablesRoutes_J65450.S) w127 => crierlaw18_TablesRoutes_j1 b13 b62 b64 l75 r76 Q79 n82 s126 w127

def crierlaw18_TablesRoutes_L8186 : LoopSpec where
  S := Int
  emb := fun s => [(19, .int .i64 s)]
  ext := fun t => match getL t 19 with
    | some (.int .i64 y131) => some (y131)
    | _ => none
  slots := [19]
  fits := fun _ => rfl
  ok := by
    intro t s h x hx
    (try dsimp only at h hx)
    split at h
    · cases h
      simp only [List.mem_cons, List.not_mem_nil, or_false] at hx
      rcases hx with rfl <;> assumption
    · cases h

def crierlaw18_TablesRoutes_J65490 : LoopSpec where
  S := Unit
  emb := fun _ => []
  ext := fun _ => some ()
  slots := []
  fits := fun _ => rfl
  ok := by
    intro t s h x hx; cases hx

def crierlaw18_TablesRoutes_j3 (n132 : Int) (A134 : crierlaw18_TablesRoutes_L8186.S → World → Prop) (w141 : World) : Prop :=
 A134 (((IntKind.i64.wrap (n132 + 1)) : Int)) w141

def crierlaw18_TablesRoutes_l4 (Q : Value → World → Prop) (b11 : Nat) (b13 : Nat) (b24 : Nat) (b64 : Nat) (mk128 : List Deferred) (n132 : Int) (w133 : World) (A134 : crierlaw18_TablesRoutes_L8186.S → World → Prop) : Prop :=
 ldB ⟨b11, 0, none⟩ w133 fun b135 =>
 ldI .i64 ⟨b11, 1, none⟩ w133 fun n136 =>
 ldI .i64 ⟨b11, 2, none⟩ w133 fun n137 =>
 CV P F.tables_Device_Events [.agg [.bool b135, .int .i64 n136, .int .i64 n137].toArray] w133 fun v138 w139 =>
 ∃ n140 : Int, v138 = .int .i64 n140 ∧
 cnd (decide (n132 < n140))
 (JoinT (fun (J142 : crierlaw18_TablesRoutes_J65490.S → World → Prop) =>
  ldB ⟨b11, 0, none⟩ w139 fun b143 =>
  ldI .i64 ⟨b11, 1, none⟩ w139 fun n144 =>
  ldI .i64 ⟨b11, 2, none⟩ w139 fun n145 =>
  ldP ⟨b24, 0, none⟩ w139 fun p146 =>
  CV P F.tables_Device_Route [.agg [.bool b143, .int .i64 n144, .int .i64 n145].toArray, .pointer p146, .int .i64 n132] w139 fun v147 w148 =>
  ∃ n149 : Int, ∃ n150 : Int, ∃ b151 : Bool, ∃ n152 : Int, v147 = .tuple [.agg [.int .i64 n149, .int .i64 n150, .bool b151].toArray, .int .i64 n152].toArray ∧
  alc [.int .i64 0, .int .i64 0, .bool false] T.t45 w148 fun b153 w154 =>
  st1 (.int .i64 n149) ⟨b153, 0, none⟩ w154 fun w155 =>
  st1 (.int .i64 n150) ⟨b153, 1, none⟩ w155 fun w156 =>
  st1 (.bool b151) ⟨b153, 2, none⟩ w156 fun w157 =>
  cnd (n152 != 0)
  (st1 (.bool false) ⟨b13, 0, none⟩ w157 fun w158 =>
  takeX (mk128 ++ []) w158 fun w159 =>
  ldB ⟨b13, 0, none⟩ w159 fun b160 =>
  Q (.bool b160) w159)
  (ldB ⟨b153, 2, none⟩ w157 fun b161 =>
  cnd b161
  (ldI .i64 ⟨b64, 0, none⟩ w157 fun n162 =>
  st1 (.int .i64 (IntKind.i64.wrap (n162 - 1))) ⟨b64, 0, none⟩ w157 fun w163 =>
  J142 () w163)
  (J142 () w157)))
  fun (s164 : crierlaw18_TablesRoutes_J65490.S) w165 => crierlaw18_TablesRoutes_j3 n132 A134 w165)
 (ldI .i64 ⟨b64, 0, none⟩ w139 fun n166 =>
 st1 (.bool (n166 == 0)) ⟨b13, 0, none⟩ w139 fun w167 =>
 takeX (mk128 ++ []) w167 fun w168 =>
 ldB ⟨b13, 0, none⟩ w168 fun b169 =>
 Q (.bool b169) w168)

def crierlaw18_TablesRoutes_j5 (a2 : Option Addr) (a2_n : Nat) (a3 : Option Addr) (a3_n : Nat) (Q : Value → World → Prop) (b11 : Nat) (b13 : Nat) (b24 : Nat) (n40 : Int) (A42 : crierlaw18_TablesRoutes_L1018.S → World → Prop) (b44 : Bool) (w45 : World) : Prop :=
 cnd b44
 (drw w45 fun w46 =>
 ldB ⟨b11, 0, none⟩ w46 fun b47 =>
 ldI .i64 ⟨b11, 1, none⟩ w46 fun n48 =>
 ldI .i64 ⟨b11, 2, none⟩ w46 fun n49 =>
 ldP ⟨b24, 0, none⟩ w46 fun p50 =>
 ix n40 a2_n fun j51 => nn a2 fun a52 =>
 ldI .u8 (a52.add (j51 * 1)) w46 fun n53 =>
 ix n40 a3_n fun j54 => nn a3 fun a55 =>
 ldI .i64 (a55.add (j54 * 3)) w46 fun n56 =>
 ldI .i64 ((a55.add (j54 * 3)).add 1) w46 fun n57 =>
 ldB ((a55.add (j54 * 3)).add 2) w46 fun b58 =>
 CV P F.tables_Device_SetRoute [.agg [.bool b47, .int .i64 n48, .int .i64 n49].toArray, .pointer p50, .int .i64 (IntKind.i64.wrap (n53)), .agg [.int .i64 n56, .int .i64 n57, .bool b58].toArray] w46 fun v59 w60 =>
 ∃ n61 : Int, v59 = .int .i64 n61 ∧
 A42 (((IntKind.i64.wrap (n40 + 1)) : Int)) w60)
 (alc [.int .i64 0] T.t3 w45 fun b62 w63 =>
 alc [.int .i64 0] T.t3 w63 fun b64 w65 =>
 st1 (.int .i64 (-1)) ⟨b62, 0, none⟩ w65 fun w66 =>
 st1 (.int .i64 0) ⟨b64, 0, none⟩ w66 fun w67 =>
 ldB ⟨b11, 0, none⟩ w67 fun b68 =>
 ldI .i64 ⟨b11, 1, none⟩ w67 fun n69 =>
 ldI .i64 ⟨b11, 2, none⟩ w67 fun n70 =>
 ldP ⟨b24, 0, none⟩ w67 fun p71 =>
 CV P F.tables_Device_Routes [.agg [.bool b68, .int .i64 n69, .int .i64 n70].toArray, .pointer p71] w67 fun v72 w73 =>
 ∃ v74 : Value, v72 = v74 ∧
 RF P none 2 (v74) w73 (fun l75 r76 vs77 w78 Q79 => crierlaw18_TablesRoutes_r2 b11 b13 b24 b62 b64 l75 r76 vs77 w78 Q79) fun mk128 jp129 w130 =>
 jmpX jp129
 (LoopT (fun (s170 : crierlaw18_TablesRoutes_L8186.S) w171 A172 => crierlaw18_TablesRoutes_l4 Q b11 b13 b24 b64 mk128 s170 w171 A172) ((0 : Int)) w130)
 (takeX (mk128 ++ []) w130 fun w173 =>
 ldB ⟨b13, 0, none⟩ w173 fun b174 =>
 Q (.bool b174) w173)
 fun id175 => False)

def crierlaw18_TablesRoutes_l6 (a2 : Option Addr) (a2_n : Nat) (a3 : Option Addr) (a3_n : Nat) (Q : Value → World → Prop) (b11 : Nat) (b13 : Nat) (b24 : Nat) (n40 : Int) (w41 : World) (A42 : crierlaw18_TablesRoutes_L1018.S → World → Prop) : Prop :=
 JoinT (fun (J176 : crierlaw18_TablesRoutes_J4072.S → World → Prop) =>
  cnd (decide (n40 < ((a2_n : Nat) : Int)))
  (J176 (((decide (n40 < ((a3_n : Nat) : Int))) : Bool)) w41)
  (J176 ((false : Bool)) w41))
  fun (s177 : crierlaw18_TablesRoutes_J4072.S) w178 => crierlaw18_TablesRoutes_j5 a2 a2_n a3 a3_n Q b11 b13 b24 n40 A42 s177 w178

def crierlaw18_TablesRoutes_j7 (a2 : Option Addr) (a2_n : Nat) (a3 : Option Addr) (a3_n : Nat) (Q : Value → World → Prop) (b11 : Nat) (b13 : Nat) (b17 : Bool) (b24 : Nat) (b28 : Bool) (w29 : World) : Prop :=
 cnd b28
 (JoinT (fun (J32 : crierlaw18_TablesRoutes_J250.S → World → Prop) =>
  cnd b17
  (ldP ⟨b24, 0, none⟩ w29 fun p33 =>
  st1 (.bool (!(Option.isNone p33))) ⟨b13, 0, none⟩ w29 fun w34 =>
  J32 () w34)
  (st1 (.bool false) ⟨b13, 0, none⟩ w29 fun w35 =>
  J32 () w35))
  fun (s36 : crierlaw18_TablesRoutes_J250.S) w37 => crierlaw18_TablesRoutes_j0 Q b13 w37)
 (st1 (.bool true) ⟨b11, 0, none⟩ w29 fun w38 =>
 LoopT (fun (s179 : crierlaw18_TablesRoutes_L1018.S) w180 A181 => crierlaw18_TablesRoutes_l6 a2 a2_n a3 a3_n Q b11 b13 b24 s179 w180 A181) ((0 : Int)) w38)

def crierlaw18_TablesRoutes (a0 : Int) (a1_0 : Bool) (a1_1 : Int) (a1_2 : Int) (a2 : Option Addr) (a2_n : Nat) (a2_c : Nat) (a3 : Option Addr) (a3_n : Nat) (a3_c : Nat) (w : World) (Q : Value → World → Prop) : Prop :=
 alc [.bool a1_0, .int .i64 a1_1, .int .i64 a1_2] T.t36 w fun b11 w12 =>
 alc [.bool false] T.t4 w12 fun b13 w14 =>
 CV P F.crierlaw18_awake [] w14 fun v15 w16 =>
 ∃ b17 : Bool, v15 = .bool b17 ∧
 cnd (!b17)
 (st1 (.bool false) ⟨b13, 0, none⟩ w16 fun w18 =>
 ldB ⟨b13, 0, none⟩ w18 fun b19 =>
 Q (.bool b19) w18)
 (CV P F.crierlaw04_New [.int .i64 a0] w16 fun v20 w21 =>
 ∃ p22 : Option Addr, ∃ p23 : Option Addr, v20 = .tuple [.pointer p22, .pointer p23].toArray ∧
 alc [.pointer none] T.t25 w21 fun b24 w25 =>
 st1 (.pointer p22) ⟨b24, 0, none⟩ w25 fun w26 =>
 JoinT (fun (J182 : crierlaw18_TablesRoutes_J62.S → World → Prop) =>
  drw w26 fun w183 =>
  cnd (!b17)
  (J182 ((true : Bool)) w183)
  (ldP ⟨b24, 0, none⟩ w183 fun p184 =>
  cnd (Option.isNone p184)
  (J182 ((true : Bool)) w183)
  (ldI .i64 ⟨b11, 1, none⟩ w183 fun n185 =>
  cnd (decide (n185 > 5))
  (J182 ((true : Bool)) w183)
  (ldI .i64 ⟨b11, 2, none⟩ w183 fun n186 =>
  cnd (decide (n186 < 0))
  (J182 ((true : Bool)) w183)
  (ldI .i64 ⟨b11, 2, none⟩ w183 fun n187 =>
  ldP ⟨b24, 0, none⟩ w183 fun p188 =>
  ldB ⟨b11, 0, none⟩ w183 fun b189 =>
  ldI .i64 ⟨b11, 1, none⟩ w183 fun n190 =>
  ldI .i64 ⟨b11, 2, none⟩ w183 fun n191 =>
  CV P F.mem_Mem_Size [.pointer p188] w183 fun v192 w193 =>
  ∃ n194 : Int, v192 = .int .i64 n194 ∧
  (ldB ⟨b11, 0, none⟩ w193 fun b195 =>
  ldI .i64 ⟨b11, 1, none⟩ w193 fun n196 =>
  ldI .i64 ⟨b11, 2, none⟩ w193 fun n197 =>
  ((.agg [.bool b195, .int .i64 n196, .int .i64 n197].toArray : Value) = .agg [.bool b189, .int .i64 n190, .int .i64 n191].toArray)) ∧
  (ldI .i64 ⟨b11, 2, none⟩ w193 fun n198 =>
  ((.int .i64 n198 : Value) = .int .i64 n187)) ∧
  CV P F.tables_Device_Events [.agg [.bool b189, .int .i64 n190, .int .i64 n191].toArray] w193 fun v199 w200 =>
  ∃ n201 : Int, v199 = .int .i64 n201 ∧
  (ldI .i64 ⟨b11, 2, none⟩ w200 fun n202 =>
  ((.int .i64 n202 : Value) = .int .i64 n187)) ∧
  J182 (((decide (n187 > (IntKind.i64.wrap (n194 - (IntKind.i64.wrap (8 * n201)))))) : Bool)) w200)))))
  fun (s203 : crierlaw18_TablesRoutes_J62.S) w204 => crierlaw18_TablesRoutes_j7 a2 a2_n a3 a3_n Q b11 b13 b17 b24 s203 w204)
def crierlaw18_TablesRoutes_ann : Nat → Option LoopSpec := fun
  | 62 => some crierlaw18_TablesRoutes_J62
  | 250 => some crierlaw18_TablesRoutes_J250
  | 1018 => some crierlaw18_TablesRoutes_L1018
  | 4072 => some crierlaw18_TablesRoutes_J4072
  | 16292 => some (ordSpec [0, 1, 2, 3, 4, 5, 6, 7, 8, 9, 10, 11])
  | 65450 => some crierlaw18_TablesRoutes_J65450
  | 8186 => some crierlaw18_TablesRoutes_L8186
  | 65490 => some crierlaw18_TablesRoutes_J65490
  | 124 => some (ordSpec [0, 1, 2, 3, 4, 5, 6, 7, 8, 9, 10, 11, 12, 13, 14, 15, 16, 17, 18, 19, 21, 20, 22, 23, 24, 25, 26])
  | _ => none
theorem crierlaw18_TablesRoutes_eq (a0 : Int) (a1_0 : Bool) (a1_1 : Int) (a1_2 : Int) (a2 : Option Addr) (a2_n : Nat) (a2_c : Nat) (a3 : Option Addr) (a3_n : Nat) (a3_c : Nat) (w : World) (Q : Value → World → Prop) : fnX P crierlaw18_TablesRoutes_ann Try.f4 [.int .i64 a0, .agg [.bool a1_0, .int .i64 a1_1, .int .i64 a1_2].toArray, .slice a2 a2_n a2_c, .slice a3 a3_n a3_c] w Q = crierlaw18_TablesRoutes a0 a1_0 a1_1 a1_2 a2 a2_n a2_c a3 a3_n a3_c w Q := by kernel_rfl
theorem crierlaw18_TablesRoutes_cv {a0 : Int} {a1_0 : Bool} {a1_1 : Int} {a1_2 : Int} {a2 : Option Addr} {a2_n : Nat} {a2_c : Nat} {a3 : Option Addr} {a3_n : Nat} {a3_c : Nat} {w : World} {Q : Value → World → Prop} (h : crierlaw18_TablesRoutes a0 a1_0 a1_1 a1_2 a2 a2_n a2_c a3 a3_n a3_c w Q) : CV P F.crierlaw18_TablesRoutes [.int .i64 a0, .agg [.bool a1_0, .int .i64 a1_1, .int .i64 a1_2].toArray, .slice a2 a2_n a2_c, .slice a3 a3_n a3_c] w Q := CV_of mixed Try.func4 (crierlaw18_TablesRoutes_eq a0 a1_0 a1_1 a1_2 a2 a2_n a2_c a3 a3_n a3_c w Q ▸ h)

/- 5 crier/crierlaw18.TablesTargets -/
def crierlaw18_TablesTargets_J62 : LoopSpec where
  S := Bool
  emb := fun s => [(41, .bool s)]
  ext := fun t => match getL t 41 with
    | some (.bool y18) => some (y18)
    | _ => none
  slots := [41]
  fits := fun _ => rfl
  ok := by
    intro t s h x hx
    (try dsimp only at h hx)
    split at h
    · cases h
      simp only [List.mem_cons, List.not_mem_nil, or_false] at hx
      rcases hx with rfl <;> assumption
    · cases h

def crierlaw18_TablesTargets_L1018 : LoopSpec where
  S := Int
  emb := fun s => [(13, .int .i64 s)]
  ext := fun t => match getL t 13 with
    | some (.int .i64 y25) => some (y25)
    | _ => none
  slots := [13]
  fits := fun _ => rfl
  ok := by
    intro t s h x hx
    (try dsimp only at h hx)
    split at h
    · cases h
      simp only [List.mem_cons, List.not_mem_nil, or_false] at hx
      rcases hx with rfl <;> assumption
    · cases h

def crierlaw18_TablesTargets_J4072 : LoopSpec where
  S := Bool
  emb := fun s => [(58, .bool s)]
  ext := fun t => match getL t 58 with
    | some (.bool y29) => some (y29)
    | _ => none
  slots := [58]
  fits := fun _ => rfl
  ok := by
    intro t s h x hx
    (try dsimp only at h hx)
    split at h
    · cases h
      simp only [List.mem_cons, List.not_mem_nil, or_false] at hx
      rcases hx with rfl <;> assumption
    · cases h

def crierlaw18_TablesTargets_J521375 : LoopSpec where
  S := Bool
  emb := fun s => [(163, .bool s)]
  ext := fun t => match getL t 163 with
    | some (.bool y68) => some (y68)
    | _ => none
  slots := [163]
  fits := fun _ => rfl
  ok := by
    intro t s h x hx
    (try dsimp only at h hx)
    split at h
    · cases h
      simp only [List.mem_cons, List.not_mem_nil, or_false] at hx
      rcases hx with rfl <;> assumption
    · cases h

def crierlaw18_TablesTargets_j0 (Q : Value → World → Prop) (n26 : Int) (A28 : crierlaw18_TablesTargets_L1018.S → World → Prop) (b69 : Bool) (w70 : World) : Prop :=
 cnd b69
 (Q (.bool false) w70)
 (A28 (((IntKind.i64.wrap (n26 + 1)) : Int)) w70)

def crierlaw18_TablesTargets_j1 (a0 : Option Addr) (a0_n : Nat) (a1 : Option Addr) (a1_n : Nat) (a2 : Option Addr) (a2_n : Nat) (a3 : Int) (Q : Value → World → Prop) (p16 : Option Addr) (b21 : Nat) (n26 : Int) (A28 : crierlaw18_TablesTargets_L1018.S → World → Prop) (b30 : Bool) (w31 : World) : Prop :=
 cnd b30
 (ix n26 a0_n fun j32 => nn a0 fun a33 =>
 ldI .u8 (a33.add (j32 * 1)) w31 fun n34 =>
 (nz 100 <|
 (nz 100 <|
 ldI .i64 ⟨b21, 0, none⟩ w31 fun n35 =>
 ldI .i64 ⟨b21, 1, none⟩ w31 fun n36 =>
 CV P F.tables_Target [.pointer p16, .agg [.int .i64 n35, .int .i64 n36].toArray, .int .i64 (IntKind.i64.wrap ((Int.tmod a3 100)))] w31 fun v37 w38 =>
 ∃ n39 : Int, ∃ b40 : Bool, ∃ n41 : Int, v37 = .tuple [.int .i64 n39, .bool b40, .int .i64 n41].toArray ∧
 drw w38 fun w42 =>
 ldI .i64 ⟨b21, 0, none⟩ w42 fun n43 =>
 ldI .i64 ⟨b21, 1, none⟩ w42 fun n44 =>
 ix n26 a1_n fun j45 => nn a1 fun a46 =>
 ldI .u16 (a46.add (j45 * 1)) w42 fun n47 =>
 ix n26 a2_n fun j48 => nn a2 fun a49 =>
 ldB (a49.add (j48 * 1)) w42 fun b50 =>
 CV P F.tables_SetTarget [.pointer p16, .agg [.int .i64 n43, .int .i64 n44].toArray, .int .i64 (IntKind.i64.wrap ((Int.tmod n34 100))), .int .i64 (IntKind.i64.wrap (n47)), .bool b50] w42 fun v51 w52 =>
 ∃ n53 : Int, v51 = .int .i64 n53 ∧
 ldI .i64 ⟨b21, 0, none⟩ w52 fun n54 =>
 ldI .i64 ⟨b21, 1, none⟩ w52 fun n55 =>
 CV P F.tables_Target [.pointer p16, .agg [.int .i64 n54, .int .i64 n55].toArray, .int .i64 (IntKind.i64.wrap ((Int.tmod a3 100)))] w52 fun v56 w57 =>
 ∃ n58 : Int, ∃ b59 : Bool, ∃ n60 : Int, v56 = .tuple [.int .i64 n58, .bool b59, .int .i64 n60].toArray ∧
 ldI .i64 ⟨b21, 0, none⟩ w57 fun n61 =>
 ldI .i64 ⟨b21, 1, none⟩ w57 fun n62 =>
 CV P F.tables_Target [.pointer p16, .agg [.int .i64 n61, .int .i64 n62].toArray, .int .i64 (IntKind.i64.wrap ((Int.tmod n34 100)))] w57 fun v63 w64 =>
 ∃ n65 : Int, ∃ b66 : Bool, ∃ n67 : Int, v63 = .tuple [.int .i64 n65, .bool b66, .int .i64 n67].toArray ∧
 JoinT (fun (J71 : crierlaw18_TablesTargets_J521375.S → World → Prop) =>
  cnd (n41 != 0)
  (J71 ((true : Bool)) w64)
  (cnd (n53 != 0)
  (J71 ((true : Bool)) w64)
  (cnd (n60 != 0)
  (J71 ((true : Bool)) w64)
  (cnd (n67 != 0)
  (J71 ((true : Bool)) w64)
  (ix n26 a2_n fun j72 => nn a2 fun a73 =>
  ldB (a73.add (j72 * 1)) w64 fun b74 =>
  cnd (!(b66 == b74))
  (J71 ((true : Bool)) w64)
  (cnd b66
  (ix n26 a1_n fun j75 => nn a1 fun a76 =>
  ldI .u16 (a76.add (j75 * 1)) w64 fun n77 =>
  cnd (n65 != (IntKind.i64.wrap (n77)))
  (J71 ((true : Bool)) w64)
  (cnd (!b66)
  (cnd (n65 != 0)
  (J71 ((true : Bool)) w64)
  (cnd ((IntKind.i64.wrap ((Int.tmod a3 100))) != (IntKind.i64.wrap ((Int.tmod n34 100))))
  (cnd (n39 != n58)
  (J71 ((true : Bool)) w64)
  (J71 (((!(b40 == b59)) : Bool)) w64))
  (J71 ((false : Bool)) w64)))
  (cnd ((IntKind.i64.wrap ((Int.tmod a3 100))) != (IntKind.i64.wrap ((Int.tmod n34 100))))
  (cnd (n39 != n58)
  (J71 ((true : Bool)) w64)
  (J71 (((!(b40 == b59)) : Bool)) w64))
  (J71 ((false : Bool)) w64))))
  (cnd (!b66)
  (cnd (n65 != 0)
  (J71 ((true : Bool)) w64)
  (cnd ((IntKind.i64.wrap ((Int.tmod a3 100))) != (IntKind.i64.wrap ((Int.tmod n34 100))))
  (cnd (n39 != n58)
  (J71 ((true : Bool)) w64)
  (J71 (((!(b40 == b59)) : Bool)) w64))
  (J71 ((false : Bool)) w64)))
  (cnd ((IntKind.i64.wrap ((Int.tmod a3 100))) != (IntKind.i64.wrap ((Int.tmod n34 100))))
  (cnd (n39 != n58)
  (J71 ((true : Bool)) w64)
  (J71 (((!(b40 == b59)) : Bool)) w64))
  (J71 ((false : Bool)) w64)))))))))
  fun (s78 : crierlaw18_TablesTargets_J521375.S) w79 => crierlaw18_TablesTargets_j0 Q n26 A28 s78 w79)))
 (ldI .i64 ⟨b21, 0, none⟩ w31 fun n80 =>
 ldI .i64 ⟨b21, 1, none⟩ w31 fun n81 =>
 CV P F.tables_Target [.pointer p16, .agg [.int .i64 n80, .int .i64 n81].toArray, .int .i64 100] w31 fun v82 w83 =>
 ∃ n84 : Int, ∃ b85 : Bool, ∃ n86 : Int, v82 = .tuple [.int .i64 n84, .bool b85, .int .i64 n86].toArray ∧
 Q (.bool (n86 == 183)) w83)

def crierlaw18_TablesTargets_l2 (a0 : Option Addr) (a0_n : Nat) (a1 : Option Addr) (a1_n : Nat) (a2 : Option Addr) (a2_n : Nat) (a3 : Int) (Q : Value → World → Prop) (p16 : Option Addr) (b21 : Nat) (n26 : Int) (w27 : World) (A28 : crierlaw18_TablesTargets_L1018.S → World → Prop) : Prop :=
 JoinT (fun (J87 : crierlaw18_TablesTargets_J4072.S → World → Prop) =>
  cnd (decide (n26 < ((a0_n : Nat) : Int)))
  (cnd (decide (n26 < ((a1_n : Nat) : Int)))
  (J87 (((decide (n26 < ((a2_n : Nat) : Int))) : Bool)) w27)
  (J87 ((false : Bool)) w27))
  (J87 ((false : Bool)) w27))
  fun (s88 : crierlaw18_TablesTargets_J4072.S) w89 => crierlaw18_TablesTargets_j1 a0 a0_n a1 a1_n a2 a2_n a3 Q p16 b21 n26 A28 s88 w89

def crierlaw18_TablesTargets_j3 (a0 : Option Addr) (a0_n : Nat) (a1 : Option Addr) (a1_n : Nat) (a2 : Option Addr) (a2_n : Nat) (a3 : Int) (Q : Value → World → Prop) (p16 : Option Addr) (b19 : Bool) (w20 : World) : Prop :=
 cnd b19
 (Q (.bool false) w20)
 (alc [.int .i64 0, .int .i64 0] T.t30 w20 fun b21 w22 =>
 st1 (.int .i64 8) ⟨b21, 0, none⟩ w22 fun w23 =>
 st1 (.int .i64 800) ⟨b21, 1, none⟩ w23 fun w24 =>
 LoopT (fun (s90 : crierlaw18_TablesTargets_L1018.S) w91 A92 => crierlaw18_TablesTargets_l2 a0 a0_n a1 a1_n a2 a2_n a3 Q p16 b21 s90 w91 A92) ((0 : Int)) w24)

def crierlaw18_TablesTargets (a0 : Option Addr) (a0_n : Nat) (a0_c : Nat) (a1 : Option Addr) (a1_n : Nat) (a1_c : Nat) (a2 : Option Addr) (a2_n : Nat) (a2_c : Nat) (a3 : Int) (w : World) (Q : Value → World → Prop) : Prop :=
 CV P F.crierlaw18_awake [] w fun v11 w12 =>
 ∃ b13 : Bool, v11 = .bool b13 ∧
 cnd (!b13)
 (Q (.bool false) w12)
 (CV P F.crierlaw04_New [.int .i64 1000] w12 fun v14 w15 =>
 ∃ p16 : Option Addr, ∃ p17 : Option Addr, v14 = .tuple [.pointer p16, .pointer p17].toArray ∧
 JoinT (fun (J93 : crierlaw18_TablesTargets_J62.S → World → Prop) =>
  cnd (!b13)
  (J93 ((true : Bool)) w15)
  (J93 (((Option.isNone p16) : Bool)) w15))
  fun (s94 : crierlaw18_TablesTargets_J62.S) w95 => crierlaw18_TablesTargets_j3 a0 a0_n a1 a1_n a2 a2_n a3 Q p16 s94 w95)
def crierlaw18_TablesTargets_ann : Nat → Option LoopSpec := fun
  | 62 => some crierlaw18_TablesTargets_J62
  | 1018 => some crierlaw18_TablesTargets_L1018
  | 4072 => some crierlaw18_TablesTargets_J4072
  | 130342 => some (ordSpec [0, 1, 2, 3, 4, 5, 6, 7, 8, 9, 10, 11, 12, 13])
  | 521375 => some crierlaw18_TablesTargets_J521375
  | _ => none
theorem crierlaw18_TablesTargets_eq (a0 : Option Addr) (a0_n : Nat) (a0_c : Nat) (a1 : Option Addr) (a1_n : Nat) (a1_c : Nat) (a2 : Option Addr) (a2_n : Nat) (a2_c : Nat) (a3 : Int) (w : World) (Q : Value → World → Prop) : fnX P crierlaw18_TablesTargets_ann Try.f5 [.slice a0 a0_n a0_c, .slice a1 a1_n a1_c, .slice a2 a2_n a2_c, .int .u8 a3] w Q = crierlaw18_TablesTargets a0 a0_n a0_c a1 a1_n a1_c a2 a2_n a2_c a3 w Q := by kernel_rfl
theorem crierlaw18_TablesTargets_cv {a0 : Option Addr} {a0_n : Nat} {a0_c : Nat} {a1 : Option Addr} {a1_n : Nat} {a1_c : Nat} {a2 : Option Addr} {a2_n : Nat} {a2_c : Nat} {a3 : Int} {w : World} {Q : Value → World → Prop} (h : crierlaw18_TablesTargets a0 a0_n a0_c a1 a1_n a1_c a2 a2_n a2_c a3 w Q) : CV P F.crierlaw18_TablesTargets [.slice a0 a0_n a0_c, .slice a1 a1_n a1_c, .slice a2 a2_n a2_c, .int .u8 a3] w Q := CV_of mixed Try.func5 (crierlaw18_TablesTargets_eq a0 a0_n a0_c a1 a1_n a1_c a2 a2_n a2_c a3 w Q ▸ h)

/- 6 crier/crierlaw18.TablesKeeps -/
def crierlaw18_TablesKeeps_J62 : LoopSpec where
  S := Bool
  emb := fun s => [(29, .bool s)]
  ext := fun t => match getL t 29 with
    | some (.bool y35) => some (y35)
    | _ => none
  slots := [29]
  fits := fun _ => rfl
  ok := by
    intro t s h x hx
    (try dsimp only at h hx)
    split at h
    · cases h
      simp only [List.mem_cons, List.not_mem_nil, or_false] at hx
      rcases hx with rfl <;> assumption
    · cases h

def crierlaw18_TablesKeeps_J2045 : LoopSpec where
  S := Int
  emb := fun s => [(14, .int .i64 s)]
  ext := fun t => match getL t 14 with
    | some (.int .i64 y54) => some (y54)
    | _ => none
  slots := [14]
  fits := fun _ => rfl
  ok := by
    intro t s h x hx
    (try dsimp only at h hx)
    split at h
    · cases h
      simp only [List.mem_cons, List.not_mem_nil, or_false] at hx
      rcases hx with rfl <;> assumption
    · cases h

def crierlaw18_TablesKeeps_J2047 : LoopSpec where
  S := Bool
  emb := fun s => [(8, .bool s)]
  ext := fun t => match getL t 8 with
    | some (.bool y65) => some (y65)
    | _ => none
  slots := [8]
  fits := fun _ => rfl
  ok := by
    intro t s h x hx
    (try dsimp only at h hx)
    split at h
    · cases h
      simp only [List.mem_cons, List.not_mem_nil, or_false] at hx
      rcases hx with rfl <;> assumption
    · cases h

def crierlaw18_TablesKeeps_j0 (Q : Value → World → Prop) (b66 : Bool) (w67 : World) : Prop :=
 Q (.bool b66) w67

def crierlaw18_TablesKeeps_j1 (Q : Value → World → Prop) (p34 : Option Addr) (b41 : Nat) (p49 : Option Addr) (l50 : Nat) (c51 : Nat) (n55 : Int) (w56 : World) : Prop :=
 ldI .i64 ⟨b41, 0, none⟩ w56 fun n57 =>
 ldI .i64 ⟨b41, 1, none⟩ w56 fun n58 =>
 CV P F.mem_Mem_Bytes [.pointer p34, .agg [.int .i64 n57, .int .i64 n58].toArray] w56 fun v59 w60 =>
 ∃ (p61 : Option Addr) (l62 c63 : Nat), ∃ n64 : Int, v59 = .tuple [.slice p61 l62 c63, .int .i64 n64].toArray ∧
 JoinT (fun (J68 : crierlaw18_TablesKeeps_J2047.S → World → Prop) =>
  cnd (n55 == 0)
  (J68 ((true : Bool)) w60)
  (X.runT P (Conv.bytesToString (.slice p49 l50 c51)) w60 fun s69 =>
  X.runT P (Conv.bytesToString (.slice p61 l62 c63)) w60 fun s70 =>
  J68 ((((s69 : ByteArray).toList == (s70 : ByteArray).toList) : Bool)) w60))
  fun (s71 : crierlaw18_TablesKeeps_J2047.S) w72 => crierlaw18_TablesKeeps_j0 Q s71 w72

def crierlaw18_TablesKeeps_j2 (Q : Value → World → Prop) (b22 : Nat) (b24 : Nat) (p34 : Option Addr) (b36 : Bool) (w37 : World) : Prop :=
 cnd b36
 (Q (.bool false) w37)
 (CV P F.mem_Mem_Size [.pointer p34] w37 fun v38 w39 =>
 ∃ n40 : Int, v38 = .int .i64 n40 ∧
 alc [.int .i64 0, .int .i64 0] T.t30 w39 fun b41 w42 =>
 st1 (.int .i64 0) ⟨b41, 0, none⟩ w42 fun w43 =>
 st1 (.int .i64 n40) ⟨b41, 1, none⟩ w43 fun w44 =>
 ldI .i64 ⟨b41, 0, none⟩ w44 fun n45 =>
 ldI .i64 ⟨b41, 1, none⟩ w44 fun n46 =>
 CV P F.mem_Mem_Bytes [.pointer p34, .agg [.int .i64 n45, .int .i64 n46].toArray] w44 fun v47 w48 =>
 ∃ (p49 : Option Addr) (l50 c51 : Nat), ∃ n52 : Int, v47 = .tuple [.slice p49 l50 c51, .int .i64 n52].toArray ∧
 ldI .i64 ⟨b24, 0, none⟩ w48 fun n53 =>
 JoinT (fun (J73 : crierlaw18_TablesKeeps_J2045.S → World → Prop) =>
  cnd (n53 == 1)
  (ldI .i64 ⟨b22, 0, none⟩ w48 fun n74 =>
  ldI .i64 ⟨b22, 1, none⟩ w48 fun n75 =>
  ldI .i64 ⟨b22, 2, none⟩ w48 fun n76 =>
  ldI .i64 ⟨b24, 1, none⟩ w48 fun n77 =>
  ldI .i64 ⟨b24, 2, none⟩ w48 fun n78 =>
  CV P F.tables_Table_Lead [.agg [.int .i64 n74, .int .i64 n75, .int .i64 n76].toArray, .pointer p34, .int .i64 n77, .int .i64 n78] w48 fun v79 w80 =>
  ∃ n81 : Int, v79 = .int .i64 n81 ∧
  J73 ((n81 : Int)) w80)
  (cnd (n53 == 2)
  (ldI .i64 ⟨b22, 0, none⟩ w48 fun n82 =>
  ldI .i64 ⟨b22, 1, none⟩ w48 fun n83 =>
  ldI .i64 ⟨b22, 2, none⟩ w48 fun n84 =>
  ldI .i64 ⟨b24, 1, none⟩ w48 fun n85 =>
  ldB ⟨b24, 4, none⟩ w48 fun b86 =>
  ldI .i64 ⟨b24, 5, none⟩ w48 fun n87 =>
  ldI .i64 ⟨b24, 6, none⟩ w48 fun n88 =>
  CV P F.tables_Table_Put [.agg [.int .i64 n82, .int .i64 n83, .int .i64 n84].toArray, .pointer p34, .int .i64 n85, .agg [.bool b86, .int .i64 n87, .int .i64 n88].toArray] w48 fun v89 w90 =>
  ∃ n91 : Int, v89 = .int .i64 n91 ∧
  J73 ((n91 : Int)) w90)
  (cnd (n53 == 3)
  (ldB ⟨b24, 4, none⟩ w48 fun b92 =>
  ldI .i64 ⟨b24, 5, none⟩ w48 fun n93 =>
  ldI .i64 ⟨b24, 6, none⟩ w48 fun n94 =>
  ldI .i64 ⟨b24, 3, none⟩ w48 fun n95 =>
  ldI .i64 ⟨b24, 7, none⟩ w48 fun n96 =>
  ldI .i64 ⟨b24, 8, none⟩ w48 fun n97 =>
  ldB ⟨b24, 9, none⟩ w48 fun b98 =>
  CV P F.tables_Device_SetRoute [.agg [.bool b92, .int .i64 n93, .int .i64 n94].toArray, .pointer p34, .int .i64 n95, .agg [.int .i64 n96, .int .i64 n97, .bool b98].toArray] w48 fun v99 w100 =>
  ∃ n101 : Int, v99 = .int .i64 n101 ∧
  J73 ((n101 : Int)) w100)
  (cnd (n53 == 4)
  (ldI .i64 ⟨b24, 10, none⟩ w48 fun n102 =>
  ldI .i64 ⟨b24, 11, none⟩ w48 fun n103 =>
  ldI .i64 ⟨b24, 1, none⟩ w48 fun n104 =>
  ldI .i64 ⟨b24, 2, none⟩ w48 fun n105 =>
  ldB ⟨b24, 12, none⟩ w48 fun b106 =>
  CV P F.tables_SetTarget [.pointer p34, .agg [.int .i64 n102, .int .i64 n103].toArray, .int .i64 n104, .int .i64 n105, .bool b106] w48 fun v107 w108 =>
  ∃ n109 : Int, v107 = .int .i64 n109 ∧
  J73 ((n109 : Int)) w108)
  (J73 ((0 : Int)) w48)))))
  fun (s110 : crierlaw18_TablesKeeps_J2045.S) w111 => crierlaw18_TablesKeeps_j1 Q p34 b41 p49 l50 c51 s110 w111)

def crierlaw18_TablesKeeps (a0_0 : Int) (a0_1 : Int) (a0_2 : Int) (a1 : Int) (a2 : Option Addr) (a2_n : Nat) (a2_c : Nat) (a3_0 : Int) (a3_1 : Int) (a3_2 : Int) (a3_3 : Int) (a3_4 : Bool) (a3_5 : Int) (a3_6 : Int) (a3_7 : Int) (a3_8 : Int) (a3_9 : Bool) (a3_10 : Int) (a3_11 : Int) (a3_12 : Bool) (a3_13 : Int) (w : World) (Q : Value → World → Prop) : Prop :=
 alc [.int .i64 a0_0, .int .i64 a0_1, .int .i64 a0_2] T.t32 w fun b22 w23 =>
 alc [.int .i64 a3_0, .int .i64 a3_1, .int .i64 a3_2, .int .i64 a3_3, .bool a3_4, .int .i64 a3_5, .int .i64 a3_6, .int .i64 a3_7, .int .i64 a3_8, .bool a3_9, .int .i64 a3_10, .int .i64 a3_11, .bool a3_12, .int .u64 a3_13] T.t62 w23 fun b24 w25 =>
 CV P F.crierlaw18_awake [] w25 fun v26 w27 =>
 ∃ b28 : Bool, v26 = .bool b28 ∧
 cnd (!b28)
 (Q (.bool false) w27)
 (ldI .i64 ⟨b22, 0, none⟩ w27 fun n29 =>
 ldI .i64 ⟨b22, 1, none⟩ w27 fun n30 =>
 ldI .i64 ⟨b22, 2, none⟩ w27 fun n31 =>
 CV P F.crierlaw18_played [.agg [.int .i64 n29, .int .i64 n30, .int .i64 n31].toArray, .int .i64 a1, .slice a2 a2_n a2_c] w27 fun v32 w33 =>
 ∃ p34 : Option Addr, v32 = .pointer p34 ∧
 JoinT (fun (J112 : crierlaw18_TablesKeeps_J62.S → World → Prop) =>
  cnd (!b28)
  (J112 ((true : Bool)) w33)
  (J112 (((Option.isNone p34) : Bool)) w33))
  fun (s113 : crierlaw18_TablesKeeps_J62.S) w114 => crierlaw18_TablesKeeps_j2 Q b22 b24 p34 s113 w114)
def crierlaw18_TablesKeeps_ann : Nat → Option LoopSpec := fun
  | 62 => some crierlaw18_TablesKeeps_J62
  | 2045 => some crierlaw18_TablesKeeps_J2045
  | 2047 => some crierlaw18_TablesKeeps_J2047
  | _ => none
theorem crierlaw18_TablesKeeps_eq (a0_0 : Int) (a0_1 : Int) (a0_2 : Int) (a1 : Int) (a2 : Option Addr) (a2_n : Nat) (a2_c : Nat) (a3_0 : Int) (a3_1 : Int) (a3_2 : Int) (a3_3 : Int) (a3_4 : Bool) (a3_5 : Int) (a3_6 : Int) (a3_7 : Int) (a3_8 : Int) (a3_9 : Bool) (a3_10 : Int) (a3_11 : Int) (a3_12 : Bool) (a3_13 : Int) (w : World) (Q : Value → World → Prop) : fnX P crierlaw18_TablesKeeps_ann Try.f6 [.agg [.int .i64 a0_0, .int .i64 a0_1, .int .i64 a0_2].toArray, .int .i64 a1, .slice a2 a2_n a2_c, .agg [.int .i64 a3_0, .int .i64 a3_1, .int .i64 a3_2, .int .i64 a3_3, .bool a3_4, .int .i64 a3_5, .int .i64 a3_6, .int .i64 a3_7, .int .i64 a3_8, .bool a3_9, .int .i64 a3_10, .int .i64 a3_11, .bool a3_12, .int .u64 a3_13].toArray] w Q = crierlaw18_TablesKeeps a0_0 a0_1 a0_2 a1 a2 a2_n a2_c a3_0 a3_1 a3_2 a3_3 a3_4 a3_5 a3_6 a3_7 a3_8 a3_9 a3_10 a3_11 a3_12 a3_13 w Q := by kernel_rfl
theorem crierlaw18_TablesKeeps_cv {a0_0 : Int} {a0_1 : Int} {a0_2 : Int} {a1 : Int} {a2 : Option Addr} {a2_n : Nat} {a2_c : Nat} {a3_0 : Int} {a3_1 : Int} {a3_2 : Int} {a3_3 : Int} {a3_4 : Bool} {a3_5 : Int} {a3_6 : Int} {a3_7 : Int} {a3_8 : Int} {a3_9 : Bool} {a3_10 : Int} {a3_11 : Int} {a3_12 : Bool} {a3_13 : Int} {w : World} {Q : Value → World → Prop} (h : crierlaw18_TablesKeeps a0_0 a0_1 a0_2 a1 a2 a2_n a2_c a3_0 a3_1 a3_2 a3_3 a3_4 a3_5 a3_6 a3_7 a3_8 a3_9 a3_10 a3_11 a3_12 a3_13 w Q) : CV P F.crierlaw18_TablesKeeps [.agg [.int .i64 a0_0, .int .i64 a0_1, .int .i64 a0_2].toArray, .int .i64 a1, .slice a2 a2_n a2_c, .agg [.int .i64 a3_0, .int .i64 a3_1, .int .i64 a3_2, .int .i64 a3_3, .bool a3_4, .int .i64 a3_5, .int .i64 a3_6, .int .i64 a3_7, .int .i64 a3_8, .bool a3_9, .int .i64 a3_10, .int .i64 a3_11, .bool a3_12, .int .u64 a3_13].toArray] w Q := CV_of mixed Try.func6 (crierlaw18_TablesKeeps_eq a0_0 a0_1 a0_2 a1 a2 a2_n a2_c a3_0 a3_1 a3_2 a3_3 a3_4 a3_5 a3_6 a3_7 a3_8 a3_9 a3_10 a3_11 a3_12 a3_13 w Q ▸ h)

/- 7 crier/crierlaw18.awake -/
def crierlaw18_awake_J8191 : LoopSpec where
  S := Bool
  emb := fun s => [(0, .bool s)]
  ext := fun t => match getL t 0 with
    | some (.bool y93) => some (y93)
    | _ => none
  slots := [0]
  fits := fun _ => rfl
  ok := by
    intro t s h x hx
    (try dsimp only at h hx)
    split at h
    · cases h
      simp only [List.mem_cons, List.not_mem_nil, or_false] at hx
      rcases hx with rfl <;> assumption
    · cases h

def crierlaw18_awake_j0 (Q : Value → World → Prop) (b94 : Bool) (w95 : World) : Prop :=
 Q (.bool b94) w95

def crierlaw18_awake (w : World) (Q : Value → World → Prop) : Prop :=
 CV P F.mem_New [.int .i64 512] w fun v1 w2 =>
 ∃ p3 : Option Addr, ∃ n4 : Int, v1 = .tuple [.pointer p3, .int .i64 n4].toArray ∧
 cnd (Option.isNone p3)
 (Q (.bool false) w2)
 (alc [.int .i64 0, .int .i64 0, .int .i64 0] T.t32 w2 fun b5 w6 =>
 st1 (.int .i64 0) ⟨b5, 0, none⟩ w6 fun w7 =>
 st1 (.int .i64 32) ⟨b5, 1, none⟩ w7 fun w8 =>
 st1 (.int .i64 32) ⟨b5, 2, none⟩ w8 fun w9 =>
 ldI .i64 ⟨b5, 0, none⟩ w9 fun n10 =>
 ldI .i64 ⟨b5, 1, none⟩ w9 fun n11 =>
 ldI .i64 ⟨b5, 2, none⟩ w9 fun n12 =>
 CV P F.tables_Table_Get [.agg [.int .i64 n10, .int .i64 n11, .int .i64 n12].toArray, .pointer p3, .int .i64 5] w9 fun v13 w14 =>
 ∃ b15 : Bool, ∃ n16 : Int, ∃ n17 : Int, ∃ n18 : Int, v13 = .tuple [.agg [.bool b15, .int .i64 n16, .int .i64 n17].toArray, .int .i64 n18].toArray ∧
 alc [.bool false, .int .i64 0, .int .i64 0] T.t36 w14 fun b19 w20 =>
 st1 (.bool b15) ⟨b19, 0, none⟩ w20 fun w21 =>
 st1 (.int .i64 n16) ⟨b19, 1, none⟩ w21 fun w22 =>
 st1 (.int .i64 n17) ⟨b19, 2, none⟩ w22 fun w23 =>
 alc [.bool false, .int .i64 0, .int .i64 0] T.t36 w23 fun b24 w25 =>
 st1 (.bool true) ⟨b24, 0, none⟩ w25 fun w26 =>
 st1 (.int .i64 1) ⟨b24, 1, none⟩ w26 fun w27 =>
 st1 (.int .i64 256) ⟨b24, 2, none⟩ w27 fun w28 =>
 drw w28 fun w29 =>
 ldI .i64 ⟨b5, 0, none⟩ w29 fun n30 =>
 ldI .i64 ⟨b5, 1, none⟩ w29 fun n31 =>
 ldI .i64 ⟨b5, 2, none⟩ w29 fun n32 =>
 ldI .i64 ⟨b5, 0, none⟩ w29 fun n33 =>
 ldI .i64 ⟨b5, 1, none⟩ w29 fun n34 =>
 ldI .i64 ⟨b5, 2, none⟩ w29 fun n35 =>
 ldB ⟨b24, 0, none⟩ w29 fun b36 =>
 ldI .i64 ⟨b24, 1, none⟩ w29 fun n37 =>
 ldI .i64 ⟨b24, 2, none⟩ w29 fun n38 =>
 CV P F.tables_Table_Lead [.agg [.int .i64 n30, .int .i64 n31, .int .i64 n32].toArray, .pointer p3, .int .i64 5, .int .i64 64] w29 fun v39 w40 =>
 ∃ n41 : Int, v39 = .int .i64 n41 ∧
 (ldB ⟨b24, 0, none⟩ w40 fun b42 =>
 ldI .i64 ⟨b24, 1, none⟩ w40 fun n43 =>
 ldI .i64 ⟨b24, 2, none⟩ w40 fun n44 =>
 ((.agg [.bool b42, .int .i64 n43, .int .i64 n44].toArray : Value) = .agg [.bool b36, .int .i64 n37, .int .i64 n38].toArray)) ∧
 (ldI .i64 ⟨b5, 0, none⟩ w40 fun n45 =>
 ldI .i64 ⟨b5, 1, none⟩ w40 fun n46 =>
 ldI .i64 ⟨b5, 2, none⟩ w40 fun n47 =>
 ((.agg [.int .i64 n45, .int .i64 n46, .int .i64 n47].toArray : Value) = .agg [.int .i64 n33, .int .i64 n34, .int .i64 n35].toArray)) ∧
 CV P F.tables_Table_Put [.agg [.int .i64 n33, .int .i64 n34, .int .i64 n35].toArray, .pointer p3, .int .i64 5, .agg [.bool b36, .int .i64 n37, .int .i64 n38].toArray] w40 fun v48 w49 =>
 ∃ n50 : Int, v48 = .int .i64 n50 ∧
 ldI .i64 ⟨b5, 0, none⟩ w49 fun n51 =>
 ldI .i64 ⟨b5, 1, none⟩ w49 fun n52 =>
 ldI .i64 ⟨b5, 2, none⟩ w49 fun n53 =>
 CV P F.tables_Table_Get [.agg [.int .i64 n51, .int .i64 n52, .int .i64 n53].toArray, .pointer p3, .int .i64 5] w49 fun v54 w55 =>
 ∃ b56 : Bool, ∃ n57 : Int, ∃ n58 : Int, ∃ n59 : Int, v54 = .tuple [.agg [.bool b56, .int .i64 n57, .int .i64 n58].toArray, .int .i64 n59].toArray ∧
 alc [.bool false, .int .i64 0, .int .i64 0] T.t36 w55 fun b60 w61 =>
 st1 (.bool b56) ⟨b60, 0, none⟩ w61 fun w62 =>
 st1 (.int .i64 n57) ⟨b60, 1, none⟩ w62 fun w63 =>
 st1 (.int .i64 n58) ⟨b60, 2, none⟩ w63 fun w64 =>
 CV P F.mem_Mem_Read [.pointer p3, .agg [.int .i64 0, .int .i64 512].toArray, .int .i64 72, .int .i64 8] w64 fun v65 w66 =>
 ∃ n67 : Int, ∃ n68 : Int, v65 = .tuple [.int .u64 n67, .int .i64 n68].toArray ∧
 ldB ⟨b24, 0, none⟩ w66 fun b69 =>
 ldI .i64 ⟨b24, 1, none⟩ w66 fun n70 =>
 ldI .i64 ⟨b24, 2, none⟩ w66 fun n71 =>
 CV P F.tables_Device_SetRoute [.agg [.bool b69, .int .i64 n70, .int .i64 n71].toArray, .pointer p3, .int .i64 3, .agg [.int .i64 8200, .int .i64 2, .bool true].toArray] w66 fun v72 w73 =>
 ∃ n74 : Int, v72 = .int .i64 n74 ∧
 CV P F.mem_Mem_Read [.pointer p3, .agg [.int .i64 0, .int .i64 512].toArray, .int .i64 280, .int .i64 8] w73 fun v75 w76 =>
 ∃ n77 : Int, ∃ n78 : Int, v75 = .tuple [.int .u64 n77, .int .i64 n78].toArray ∧
 ldB ⟨b24, 0, none⟩ w76 fun b79 =>
 ldI .i64 ⟨b24, 1, none⟩ w76 fun n80 =>
 ldI .i64 ⟨b24, 2, none⟩ w76 fun n81 =>
 CV P F.tables_Device_Route [.agg [.bool b79, .int .i64 n80, .int .i64 n81].toArray, .pointer p3, .int .i64 4] w76 fun v82 w83 =>
 ∃ n84 : Int, ∃ n85 : Int, ∃ b86 : Bool, ∃ n87 : Int, v82 = .tuple [.agg [.int .i64 n84, .int .i64 n85, .bool b86].toArray, .int .i64 n87].toArray ∧
 alc [.int .i64 0, .int .i64 0, .bool false] T.t45 w83 fun b88 w89 =>
 st1 (.int .i64 n84) ⟨b88, 0, none⟩ w89 fun w90 =>
 st1 (.int .i64 n85) ⟨b88, 1, none⟩ w90 fun w91 =>
 st1 (.bool b86) ⟨b88, 2, none⟩ w91 fun w92 =>
 JoinT (fun (J96 : crierlaw18_awake_J8191.S → World → Prop) =>
  cnd (n18 == 180)
  (cnd (n41 == 0)
  (cnd (n50 == 0)
  (ldB ⟨b60, 0, none⟩ w92 fun b97 =>
  ldI .i64 ⟨b60, 1, none⟩ w92 fun n98 =>
  ldI .i64 ⟨b60, 2, none⟩ w92 fun n99 =>
  ldB ⟨b24, 0, none⟩ w92 fun b100 =>
  ldI .i64 ⟨b24, 1, none⟩ w92 fun n101 =>
  ldI .i64 ⟨b24, 2, none⟩ w92 fun n102 =>
  eqA P .eql T.t36 (.agg [.bool b97, .int .i64 n98, .int .i64 n99].toArray) (.agg [.bool b100, .int .i64 n101, .int .i64 n102].toArray) w92 fun b103 =>
  cnd b103
  (cnd (n59 == 0)
  (cnd (n67 == 9223372036854776065)
  (ldB ⟨b24, 0, none⟩ w92 fun b104 =>
  ldI .i64 ⟨b24, 1, none⟩ w92 fun n105 =>
  ldI .i64 ⟨b24, 2, none⟩ w92 fun n106 =>
  CV P F.tables_Device_Events [.agg [.bool b104, .int .i64 n105, .int .i64 n106].toArray] w92 fun v107 w108 =>
  ∃ n109 : Int, v107 = .int .i64 n109 ∧
  cnd (n109 == 4)
  (cnd (n74 == 0)
  (cnd (n77 == 9223372045444718600)
  (J96 (((n87 == 182) : Bool)) w108)
  (J96 ((false : Bool)) w108))
  (J96 ((false : Bool)) w108))
  (J96 ((false : Bool)) w108))
  (J96 ((false : Bool)) w92))
  (J96 ((false : Bool)) w92))
  (J96 ((false : Bool)) w92))
  (J96 ((false : Bool)) w92))
  (J96 ((false : Bool)) w92))
  (J96 ((false : Bool)) w92))
  fun (s110 : crierlaw18_awake_J8191.S) w111 => crierlaw18_awake_j0 Q s110 w111)
def crierlaw18_awake_ann : Nat → Option LoopSpec := fun
  | 254 => some (ordSpec [0, 1, 3, 4, 5, 2, 6, 7, 8])
  | 8191 => some crierlaw18_awake_J8191
  | _ => none
theorem crierlaw18_awake_eq (w : World) (Q : Value → World → Prop) : fnX P crierlaw18_awake_ann Try.f7 [] w Q = crierlaw18_awake w Q := by kernel_rfl
theorem crierlaw18_awake_cv {w : World} {Q : Value → World → Prop} (h : crierlaw18_awake w Q) : CV P F.crierlaw18_awake [] w Q := CV_of mixed Try.func7 (crierlaw18_awake_eq w Q ▸ h)

/- 8 crier/crierlaw04.New -/
def crierlaw04_New_J3 : LoopSpec where
  S := Int
  emb := fun s => [(0, .int .i64 s)]
  ext := fun t => match getL t 0 with
    | some (.int .i64 y2) => some (y2)
    | _ => none
  slots := [0]
  fits := fun _ => rfl
  ok := by
    intro t s h x hx
    (try dsimp only at h hx)
    split at h
    · cases h
      simp only [List.mem_cons, List.not_mem_nil, or_false] at hx
      rcases hx with rfl <;> assumption
    · cases h

def crierlaw04_New_j0 (Q : Value → World → Prop) (n3 : Int) (w4 : World) : Prop :=
 CV P F.mem_New [.int .i64 n3] w4 fun v5 w6 =>
 ∃ p7 : Option Addr, ∃ n8 : Int, v5 = .tuple [.pointer p7, .int .i64 n8].toArray ∧
 cnd (n8 != 0)
 (Q (.tuple [.pointer none, .pointer none].toArray) w6)
 (drw w6 fun w9 =>
 runS P (Instr.makeSlice T.t22 (.int .i64 n3) (.int .i64 n3)) w9 fun p10 l11 c12 w13 =>
 alc [.slice p10 l11 c12] T.t72 w13 fun b14 w15 =>
 Q (.tuple [.pointer p7, .pointer (some ⟨b14, 0, none⟩)].toArray) w15)

def crierlaw04_New_J6 : LoopSpec where
  S := Bool
  emb := fun s => [(11, .bool s)]
  ext := fun t => match getL t 11 with
    | some (.bool y17) => some (y17)
    | _ => none
  slots := [11]
  fits := fun _ => rfl
  ok := by
    intro t s h x hx
    (try dsimp only at h hx)
    split at h
    · cases h
      simp only [List.mem_cons, List.not_mem_nil, or_false] at hx
      rcases hx with rfl <;> assumption
    · cases h

def crierlaw04_New_j1 (a0 : Int) (J16 : crierlaw04_New_J3.S → World → Prop) (b18 : Bool) (w19 : World) : Prop :=
 cnd b18
 (J16 ((200 : Int)) w19)
 (J16 ((a0 : Int)) w19)

def crierlaw04_New (a0 : Int) (w : World) (Q : Value → World → Prop) : Prop :=
 JoinT (fun (J16 : crierlaw04_New_J3.S → World → Prop) =>
  JoinT (fun (J20 : crierlaw04_New_J6.S → World → Prop) =>
   cnd (decide (a0 < 0))
   (J20 ((true : Bool)) w)
   (J20 (((decide (a0 > 4096)) : Bool)) w))
   fun (s21 : crierlaw04_New_J6.S) w22 => crierlaw04_New_j1 a0 J16 s21 w22)
  fun (s23 : crierlaw04_New_J3.S) w24 => crierlaw04_New_j0 Q s23 w24
def crierlaw04_New_ann : Nat → Option LoopSpec := fun
  | 3 => some crierlaw04_New_J3
  | 62 => some (ordSpec [0, 1, 5, 2, 3, 4, 6])
  | 6 => some crierlaw04_New_J6
  | _ => none
theorem crierlaw04_New_eq (a0 : Int) (w : World) (Q : Value → World → Prop) : fnX P crierlaw04_New_ann Try.f8 [.int .i64 a0] w Q = crierlaw04_New a0 w Q := by kernel_rfl
theorem crierlaw04_New_cv {a0 : Int} {w : World} {Q : Value → World → Prop} (h : crierlaw04_New a0 w Q) : CV P F.crierlaw04_New [.int .i64 a0] w Q := CV_of mixed Try.func8 (crierlaw04_New_eq a0 w Q ▸ h)

/- 9 (crier/tables.Table).Lead -/
def tables_Table_Lead_J14 : LoopSpec where
  S := Bool
  emb := fun s => [(35, .bool s)]
  ext := fun t => match getL t 35 with
    | some (.bool y15) => some (y15)
    | _ => none
  slots := [35]
  fits := fun _ => rfl
  ok := by
    intro t s h x hx
    (try dsimp only at h hx)
    split at h
    · cases h
      simp only [List.mem_cons, List.not_mem_nil, or_false] at hx
      rcases hx with rfl <;> assumption
    · cases h

def tables_Table_Lead_j0 (a1 : Option Addr) (a2 : Int) (a3 : Int) (Q : Value → World → Prop) (b7 : Nat) (b16 : Bool) (w17 : World) : Prop :=
 cnd b16
 (Q (.int .i64 180) w17)
 (drw w17 fun w18 =>
 ldI .i64 ⟨b7, 0, none⟩ w18 fun n19 =>
 ldI .i64 ⟨b7, 1, none⟩ w18 fun n20 =>
 ldI .i64 ⟨b7, 2, none⟩ w18 fun n21 =>
 (nz 8 <|
 (nz (IntKind.i64.wrap (Int.tdiv n21 8)) <|
 CV P F.tables_flag [.bool true] w18 fun v22 w23 =>
 ∃ n24 : Int, v22 = .int .u64 n24 ∧
 (((.int .u64 (IntKind.u64.wrap (a3)) : Value) = .int .u64 (IntKind.u64.wrap (a3)))) ∧
 (ldI .i64 ⟨b7, 2, none⟩ w23 fun n25 =>
 ((.int .i64 n25 : Value) = .int .i64 n21)) ∧
 (ldI .i64 ⟨b7, 0, none⟩ w23 fun n26 =>
 ldI .i64 ⟨b7, 1, none⟩ w23 fun n27 =>
 ((.agg [.int .i64 n26, .int .i64 n27].toArray : Value) = .agg [.int .i64 n19, .int .i64 n20].toArray)) ∧
 CV P F.mem_Mem_Write [.pointer a1, .agg [.int .i64 n19, .int .i64 n20].toArray, .int .i64 (IntKind.i64.wrap ((IntKind.i64.wrap (Int.tdiv a2 (IntKind.i64.wrap (Int.tdiv n21 8)))) * 8)), .int .i64 8, .int .u64 (bitX .or .u64 n24 (IntKind.u64.wrap (a3)))] w23 fun v28 w29 =>
 ∃ n30 : Int, v28 = .int .i64 n30 ∧
 cnd (n30 != 0)
 (Q (.int .i64 180) w29)
 (Q (.int .i64 0) w29))))

def tables_Table_Lead (a0_0 : Int) (a0_1 : Int) (a0_2 : Int) (a1 : Option Addr) (a2 : Int) (a3 : Int) (w : World) (Q : Value → World → Prop) : Prop :=
 alc [.int .i64 a0_0, .int .i64 a0_1, .int .i64 a0_2] T.t32 w fun b7 w8 =>
 ldI .i64 ⟨b7, 0, none⟩ w8 fun n9 =>
 ldI .i64 ⟨b7, 1, none⟩ w8 fun n10 =>
 ldI .i64 ⟨b7, 2, none⟩ w8 fun n11 =>
 CV P F.tables_Table_Right [.agg [.int .i64 n9, .int .i64 n10, .int .i64 n11].toArray, .pointer a1] w8 fun v12 w13 =>
 ∃ n14 : Int, v12 = .int .i64 n14 ∧
 cnd (n14 != 0)
 (Q (.int .i64 n14) w13)
 (JoinT (fun (J31 : tables_Table_Lead_J14.S → World → Prop) =>
  ldI .i64 ⟨b7, 2, none⟩ w13 fun n32 =>
  cnd (n32 == 0)
  (J31 ((true : Bool)) w13)
  (cnd (decide (a2 < 0))
  (J31 ((true : Bool)) w13)
  (cnd (decide (a2 ≥ 131072))
  (J31 ((true : Bool)) w13)
  (ldI .i64 ⟨b7, 2, none⟩ w13 fun n33 =>
  CV P F.mem_Mem_Holds [.pointer a1, .agg [.int .i64 a3, .int .i64 n33].toArray] w13 fun v34 w35 =>
  ∃ b36 : Bool, v34 = .bool b36 ∧
  J31 (((!b36) : Bool)) w35))))
  fun (s37 : tables_Table_Lead_J14.S) w38 => tables_Table_Lead_j0 a1 a2 a3 Q b7 s37 w38)
def tables_Table_Lead_ann : Nat → Option LoopSpec := fun
  | 14 => some tables_Table_Lead_J14
  | 60 => some (ordSpec [0, 1, 2, 3, 4, 5, 6, 7, 8, 10, 11, 9, 12, 13, 14])
  | _ => none
theorem tables_Table_Lead_eq (a0_0 : Int) (a0_1 : Int) (a0_2 : Int) (a1 : Option Addr) (a2 : Int) (a3 : Int) (w : World) (Q : Value → World → Prop) : fnX P tables_Table_Lead_ann Try.f9 [.agg [.int .i64 a0_0, .int .i64 a0_1, .int .i64 a0_2].toArray, .pointer a1, .int .i64 a2, .int .i64 a3] w Q = tables_Table_Lead a0_0 a0_1 a0_2 a1 a2 a3 w Q := by kernel_rfl
theorem tables_Table_Lead_cv {a0_0 : Int} {a0_1 : Int} {a0_2 : Int} {a1 : Option Addr} {a2 : Int} {a3 : Int} {w : World} {Q : Value → World → Prop} (h : tables_Table_Lead a0_0 a0_1 a0_2 a1 a2 a3 w Q) : CV P F.tables_Table_Lead [.agg [.int .i64 a0_0, .int .i64 a0_1, .int .i64 a0_2].toArray, .pointer a1, .int .i64 a2, .int .i64 a3] w Q := CV_of mixed Try.func9 (tables_Table_Lead_eq a0_0 a0_1 a0_2 a1 a2 a3 w Q ▸ h)

/- 10 (crier/tables.Table).Get -/

def tables_Table_Get (a0_0 : Int) (a0_1 : Int) (a0_2 : Int) (a1 : Option Addr) (a2 : Int) (w : World) (Q : Value → World → Prop) : Prop :=
 alc [.int .i64 a0_0, .int .i64 a0_1, .int .i64 a0_2] T.t32 w fun b6 w7 =>
 alc [.bool false, .int .i64 0, .int .i64 0] T.t36 w7 fun b8 w9 =>
 ldI .i64 ⟨b6, 0, none⟩ w9 fun n10 =>
 ldI .i64 ⟨b6, 1, none⟩ w9 fun n11 =>
 ldI .i64 ⟨b6, 2, none⟩ w9 fun n12 =>
 CV P F.tables_Table_slot [.agg [.int .i64 n10, .int .i64 n11, .int .i64 n12].toArray, .pointer a1, .int .i64 a2] w9 fun v13 w14 =>
 ∃ n15 : Int, ∃ n16 : Int, ∃ n17 : Int, v13 = .tuple [.agg [.int .i64 n15, .int .i64 n16].toArray, .int .i64 n17].toArray ∧
 alc [.int .i64 0, .int .i64 0] T.t30 w14 fun b18 w19 =>
 st1 (.int .i64 n15) ⟨b18, 0, none⟩ w19 fun w20 =>
 st1 (.int .i64 n16) ⟨b18, 1, none⟩ w20 fun w21 =>
 cnd (n17 != 0)
 (st1 (.bool false) ⟨b8, 0, none⟩ w21 fun w22 =>
 st1 (.int .i64 0) ⟨b8, 1, none⟩ w22 fun w23 =>
 st1 (.int .i64 0) ⟨b8, 2, none⟩ w23 fun w24 =>
 ldB ⟨b8, 0, none⟩ w24 fun b25 =>
 ldI .i64 ⟨b8, 1, none⟩ w24 fun n26 =>
 ldI .i64 ⟨b8, 2, none⟩ w24 fun n27 =>
 Q (.tuple [.agg [.bool b25, .int .i64 n26, .int .i64 n27].toArray, .int .i64 n17].toArray) w24)
 (ldI .i64 ⟨b18, 0, none⟩ w21 fun n28 =>
 ldI .i64 ⟨b18, 1, none⟩ w21 fun n29 =>
 CV P F.mem_Mem_Read [.pointer a1, .agg [.int .i64 n28, .int .i64 n29].toArray, .int .i64 0, .int .i64 8] w21 fun v30 w31 =>
 ∃ n32 : Int, ∃ n33 : Int, v30 = .tuple [.int .u64 n32, .int .i64 n33].toArray ∧
 (nng 63 <|
 cnd ((Int.fdiv n32 (2 ^ min (Int.toNat 63) (IntKind.u64.bits))) == 0)
 (st1 (.bool false) ⟨b8, 0, none⟩ w31 fun w34 =>
 st1 (.int .i64 0) ⟨b8, 1, none⟩ w34 fun w35 =>
 st1 (.int .i64 0) ⟨b8, 2, none⟩ w35 fun w36 =>
 ldB ⟨b8, 0, none⟩ w36 fun b37 =>
 ldI .i64 ⟨b8, 1, none⟩ w36 fun n38 =>
 ldI .i64 ⟨b8, 2, none⟩ w36 fun n39 =>
 Q (.tuple [.agg [.bool b37, .int .i64 n38, .int .i64 n39].toArray, .int .i64 0].toArray) w36)
 ((nng 8 <|
 (nng 8 <|
 st1 (.bool true) ⟨b8, 0, none⟩ w31 fun w40 =>
 st1 (.int .i64 (IntKind.i64.wrap ((bitX .and .u64 n32 31)))) ⟨b8, 1, none⟩ w40 fun w41 =>
 st1 (.int .i64 (IntKind.i64.wrap ((IntKind.u64.wrap ((bitX .and .u64 (Int.fdiv n32 (2 ^ min (Int.toNat 8) (IntKind.u64.bits))) 1099511627775) * 2 ^ min (Int.toNat 8) (IntKind.u64.bits)))))) ⟨b8, 2, none⟩ w41 fun w42 =>
 ldB ⟨b8, 0, none⟩ w42 fun b43 =>
 ldI .i64 ⟨b8, 1, none⟩ w42 fun n44 =>
 ldI .i64 ⟨b8, 2, none⟩ w42 fun n45 =>
 Q (.tuple [.agg [.bool b43, .int .i64 n44, .int .i64 n45].toArray, .int .i64 0].toArray) w42)))))
def tables_Table_Get_ann : Nat → Option LoopSpec := fun _ => none
theorem tables_Table_Get_eq (a0_0 : Int) (a0_1 : Int) (a0_2 : Int) (a1 : Option Addr) (a2 : Int) (w : World) (Q : Value → World → Prop) : fnX P tables_Table_Get_ann Try.f10 [.agg [.int .i64 a0_0, .int .i64 a0_1, .int .i64 a0_2].toArray, .pointer a1, .int .i64 a2] w Q = tables_Table_Get a0_0 a0_1 a0_2 a1 a2 w Q := by kernel_rfl
theorem tables_Table_Get_cv {a0_0 : Int} {a0_1 : Int} {a0_2 : Int} {a1 : Option Addr} {a2 : Int} {w : World} {Q : Value → World → Prop} (h : tables_Table_Get a0_0 a0_1 a0_2 a1 a2 w Q) : CV P F.tables_Table_Get [.agg [.int .i64 a0_0, .int .i64 a0_1, .int .i64 a0_2].toArray, .pointer a1, .int .i64 a2] w Q := CV_of mixed Try.func10 (tables_Table_Get_eq a0_0 a0_1 a0_2 a1 a2 w Q ▸ h)

/- 11 (crier/tables.Table).Put -/
def tables_Table_Put_J62 : LoopSpec where
  S := Bool
  emb := fun s => [(50, .bool s)]
  ext := fun t => match getL t 50 with
    | some (.bool y31) => some (y31)
    | _ => none
  slots := [50]
  fits := fun _ => rfl
  ok := by
    intro t s h x hx
    (try dsimp only at h hx)
    split at h
    · cases h
      simp only [List.mem_cons, List.not_mem_nil, or_false] at hx
      rcases hx with rfl <;> assumption
    · cases h

def tables_Table_Put_j0 (a1 : Option Addr) (Q : Value → World → Prop) (b11 : Nat) (b21 : Nat) (b32 : Bool) (w33 : World) : Prop :=
 cnd b32
 (Q (.int .i64 1) w33)
 (drw w33 fun w34 =>
 ldI .i64 ⟨b21, 0, none⟩ w34 fun n35 =>
 ldI .i64 ⟨b21, 1, none⟩ w34 fun n36 =>
 ldI .i64 ⟨b11, 1, none⟩ w34 fun n37 =>
 ldI .i64 ⟨b11, 2, none⟩ w34 fun n38 =>
 CV P F.tables_flag [.bool true] w34 fun v39 w40 =>
 ∃ n41 : Int, v39 = .int .u64 n41 ∧
 (((.int .u64 (IntKind.u64.wrap (n38)) : Value) = .int .u64 (IntKind.u64.wrap (n38)))) ∧
 (ldI .i64 ⟨b11, 2, none⟩ w40 fun n42 =>
 ((.int .i64 n42 : Value) = .int .i64 n38)) ∧
 (((.int .u64 (IntKind.u64.wrap (n37)) : Value) = .int .u64 (IntKind.u64.wrap (n37)))) ∧
 (ldI .i64 ⟨b11, 1, none⟩ w40 fun n43 =>
 ((.int .i64 n43 : Value) = .int .i64 n37)) ∧
 (ldI .i64 ⟨b21, 0, none⟩ w40 fun n44 =>
 ldI .i64 ⟨b21, 1, none⟩ w40 fun n45 =>
 ((.agg [.int .i64 n44, .int .i64 n45].toArray : Value) = .agg [.int .i64 n35, .int .i64 n36].toArray)) ∧
 CV P F.mem_Mem_Write [.pointer a1, .agg [.int .i64 n35, .int .i64 n36].toArray, .int .i64 0, .int .i64 8, .int .u64 (bitX .or .u64 (bitX .or .u64 n41 (IntKind.u64.wrap (n37))) (IntKind.u64.wrap (n38)))] w40 fun v46 w47 =>
 ∃ n48 : Int, v46 = .int .i64 n48 ∧
 Q (.int .i64 0) w47)

def tables_Table_Put (a0_0 : Int) (a0_1 : Int) (a0_2 : Int) (a1 : Option Addr) (a2 : Int) (a3_0 : Bool) (a3_1 : Int) (a3_2 : Int) (w : World) (Q : Value → World → Prop) : Prop :=
 alc [.int .i64 a0_0, .int .i64 a0_1, .int .i64 a0_2] T.t32 w fun b9 w10 =>
 alc [.bool a3_0, .int .i64 a3_1, .int .i64 a3_2] T.t36 w10 fun b11 w12 =>
 ldI .i64 ⟨b9, 0, none⟩ w12 fun n13 =>
 ldI .i64 ⟨b9, 1, none⟩ w12 fun n14 =>
 ldI .i64 ⟨b9, 2, none⟩ w12 fun n15 =>
 CV P F.tables_Table_slot [.agg [.int .i64 n13, .int .i64 n14, .int .i64 n15].toArray, .pointer a1, .int .i64 a2] w12 fun v16 w17 =>
 ∃ n18 : Int, ∃ n19 : Int, ∃ n20 : Int, v16 = .tuple [.agg [.int .i64 n18, .int .i64 n19].toArray, .int .i64 n20].toArray ∧
 alc [.int .i64 0, .int .i64 0] T.t30 w17 fun b21 w22 =>
 st1 (.int .i64 n18) ⟨b21, 0, none⟩ w22 fun w23 =>
 st1 (.int .i64 n19) ⟨b21, 1, none⟩ w23 fun w24 =>
 cnd (n20 != 0)
 (Q (.int .i64 n20) w24)
 (ldB ⟨b11, 0, none⟩ w24 fun b25 =>
 cnd (!b25)
 (ldI .i64 ⟨b21, 0, none⟩ w24 fun n26 =>
 ldI .i64 ⟨b21, 1, none⟩ w24 fun n27 =>
 CV P F.mem_Mem_Write [.pointer a1, .agg [.int .i64 n26, .int .i64 n27].toArray, .int .i64 0, .int .i64 8, .int .u64 0] w24 fun v28 w29 =>
 ∃ n30 : Int, v28 = .int .i64 n30 ∧
 Q (.int .i64 0) w29)
 (JoinT (fun (J49 : tables_Table_Put_J62.S → World → Prop) =>
  ldI .i64 ⟨b11, 1, none⟩ w24 fun n50 =>
  cnd (decide (n50 < 0))
  (J49 ((true : Bool)) w24)
  (ldI .i64 ⟨b11, 1, none⟩ w24 fun n51 =>
  cnd (decide (n51 > 31))
  (J49 ((true : Bool)) w24)
  (ldI .i64 ⟨b11, 2, none⟩ w24 fun n52 =>
  cnd (decide (n52 < 0))
  (J49 ((true : Bool)) w24)
  (ldI .i64 ⟨b11, 2, none⟩ w24 fun n53 =>
  cnd ((bitX .and .i64 n53 255) != 0)
  (J49 ((true : Bool)) w24)
  (ldI .i64 ⟨b11, 2, none⟩ w24 fun n54 =>
  J49 (((decide (n54 ≥ 281474976710656)) : Bool)) w24)))))
  fun (s55 : tables_Table_Put_J62.S) w56 => tables_Table_Put_j0 a1 Q b11 b21 s55 w56))
def tables_Table_Put_ann : Nat → Option LoopSpec := fun
  | 62 => some tables_Table_Put_J62
  | 126 => some (ordSpec [0, 1, 3, 4, 5, 7, 8, 9, 2, 6, 10, 11])
  | _ => none
theorem tables_Table_Put_eq (a0_0 : Int) (a0_1 : Int) (a0_2 : Int) (a1 : Option Addr) (a2 : Int) (a3_0 : Bool) (a3_1 : Int) (a3_2 : Int) (w : World) (Q : Value → World → Prop) : fnX P tables_Table_Put_ann Try.f11 [.agg [.int .i64 a0_0, .int .i64 a0_1, .int .i64 a0_2].toArray, .pointer a1, .int .i64 a2, .agg [.bool a3_0, .int .i64 a3_1, .int .i64 a3_2].toArray] w Q = tables_Table_Put a0_0 a0_1 a0_2 a1 a2 a3_0 a3_1 a3_2 w Q := by kernel_rfl
theorem tables_Table_Put_cv {a0_0 : Int} {a0_1 : Int} {a0_2 : Int} {a1 : Option Addr} {a2 : Int} {a3_0 : Bool} {a3_1 : Int} {a3_2 : Int} {w : World} {Q : Value → World → Prop} (h : tables_Table_Put a0_0 a0_1 a0_2 a1 a2 a3_0 a3_1 a3_2 w Q) : CV P F.tables_Table_Put [.agg [.int .i64 a0_0, .int .i64 a0_1, .int .i64 a0_2].toArray, .pointer a1, .int .i64 a2, .agg [.bool a3_0, .int .i64 a3_1, .int .i64 a3_2].toArray] w Q := CV_of mixed Try.func11 (tables_Table_Put_eq a0_0 a0_1 a0_2 a1 a2 a3_0 a3_1 a3_2 w Q ▸ h)

/- 12 (*crier/mem.Mem).Size -/

def mem_Mem_Size (a0 : Option Addr) (w : World) (Q : Value → World → Prop) : Prop :=
 nn a0 fun a2 =>
 ldL a2 w fun p3 l4 c5 =>
 Q (.int .i64 ((l4 : Nat) : Int)) w
def mem_Mem_Size_ann : Nat → Option LoopSpec := fun _ => none
theorem mem_Mem_Size_eq (a0 : Option Addr) (w : World) (Q : Value → World → Prop) : fnX P mem_Mem_Size_ann Try.f12 [.pointer a0] w Q = mem_Mem_Size a0 w Q := by kernel_rfl
theorem mem_Mem_Size_cv {a0 : Option Addr} {w : World} {Q : Value → World → Prop} (h : mem_Mem_Size a0 w Q) : CV P F.mem_Mem_Size [.pointer a0] w Q := CV_of mixed Try.func12 (mem_Mem_Size_eq a0 w Q ▸ h)

/- 13 (crier/tables.Device).Events -/

def tables_Device_Events (a0_0 : Bool) (a0_1 : Int) (a0_2 : Int) (w : World) (Q : Value → World → Prop) : Prop :=
 alc [.bool a0_0, .int .i64 a0_1, .int .i64 a0_2] T.t36 w fun b4 w5 =>
 ldI .i64 ⟨b4, 1, none⟩ w5 fun n6 =>
 (nng (if (if 31 < n6 then 31 else n6) > 0 then (if 31 < n6 then 31 else n6) else 0) <|
 Q (.int .i64 (IntKind.i64.wrap (2 * 2 ^ min (Int.toNat (if (if 31 < n6 then 31 else n6) > 0 then (if 31 < n6 then 31 else n6) else 0)) (IntKind.i64.bits)))) w5)
def tables_Device_Events_ann : Nat → Option LoopSpec := fun _ => none
theorem tables_Device_Events_eq (a0_0 : Bool) (a0_1 : Int) (a0_2 : Int) (w : World) (Q : Value → World → Prop) : fnX P tables_Device_Events_ann Try.f13 [.agg [.bool a0_0, .int .i64 a0_1, .int .i64 a0_2].toArray] w Q = tables_Device_Events a0_0 a0_1 a0_2 w Q := by kernel_rfl
theorem tables_Device_Events_cv {a0_0 : Bool} {a0_1 : Int} {a0_2 : Int} {w : World} {Q : Value → World → Prop} (h : tables_Device_Events a0_0 a0_1 a0_2 w Q) : CV P F.tables_Device_Events [.agg [.bool a0_0, .int .i64 a0_1, .int .i64 a0_2].toArray] w Q := CV_of mixed Try.func13 (tables_Device_Events_eq a0_0 a0_1 a0_2 w Q ▸ h)

/- 14 (crier/tables.Device).SetRoute -/
def tables_Device_SetRoute_J62 : LoopSpec where
  S := Bool
  emb := fun s => [(44, .bool s)]
  ext := fun t => match getL t 44 with
    | some (.bool y31) => some (y31)
    | _ => none
  slots := [44]
  fits := fun _ => rfl
  ok := by
    intro t s h x hx
    (try dsimp only at h hx)
    split at h
    · cases h
      simp only [List.mem_cons, List.not_mem_nil, or_false] at hx
      rcases hx with rfl <;> assumption
    · cases h

def tables_Device_SetRoute_j0 (a1 : Option Addr) (Q : Value → World → Prop) (b11 : Nat) (b21 : Nat) (b32 : Bool) (w33 : World) : Prop :=
 cnd b32
 (Q (.int .i64 1) w33)
 (drw w33 fun w34 =>
 ldI .i64 ⟨b21, 0, none⟩ w34 fun n35 =>
 ldI .i64 ⟨b21, 1, none⟩ w34 fun n36 =>
 ldI .i64 ⟨b11, 1, none⟩ w34 fun n37 =>
 (nng 32 <|
 ldI .i64 ⟨b11, 0, none⟩ w34 fun n38 =>
 CV P F.tables_flag [.bool true] w34 fun v39 w40 =>
 ∃ n41 : Int, v39 = .int .u64 n41 ∧
 (((.int .u64 (IntKind.u64.wrap (n38)) : Value) = .int .u64 (IntKind.u64.wrap (n38)))) ∧
 (ldI .i64 ⟨b11, 0, none⟩ w40 fun n42 =>
 ((.int .i64 n42 : Value) = .int .i64 n38)) ∧
 (((.int .u64 (IntKind.u64.wrap (n37)) : Value) = .int .u64 (IntKind.u64.wrap (n37)))) ∧
 (ldI .i64 ⟨b11, 1, none⟩ w40 fun n43 =>
 ((.int .i64 n43 : Value) = .int .i64 n37)) ∧
 (ldI .i64 ⟨b21, 0, none⟩ w40 fun n44 =>
 ldI .i64 ⟨b21, 1, none⟩ w40 fun n45 =>
 ((.agg [.int .i64 n44, .int .i64 n45].toArray : Value) = .agg [.int .i64 n35, .int .i64 n36].toArray)) ∧
 CV P F.mem_Mem_Write [.pointer a1, .agg [.int .i64 n35, .int .i64 n36].toArray, .int .i64 0, .int .i64 8, .int .u64 (bitX .or .u64 (bitX .or .u64 n41 (IntKind.u64.wrap ((IntKind.u64.wrap (n37)) * 2 ^ min (Int.toNat 32) (IntKind.u64.bits)))) (IntKind.u64.wrap (n38)))] w40 fun v46 w47 =>
 ∃ n48 : Int, v46 = .int .i64 n48 ∧
 Q (.int .i64 0) w47))

def tables_Device_SetRoute (a0_0 : Bool) (a0_1 : Int) (a0_2 : Int) (a1 : Option Addr) (a2 : Int) (a3_0 : Int) (a3_1 : Int) (a3_2 : Bool) (w : World) (Q : Value → World → Prop) : Prop :=
 alc [.bool a0_0, .int .i64 a0_1, .int .i64 a0_2] T.t36 w fun b9 w10 =>
 alc [.int .i64 a3_0, .int .i64 a3_1, .bool a3_2] T.t45 w10 fun b11 w12 =>
 ldB ⟨b9, 0, none⟩ w12 fun b13 =>
 ldI .i64 ⟨b9, 1, none⟩ w12 fun n14 =>
 ldI .i64 ⟨b9, 2, none⟩ w12 fun n15 =>
 CV P F.tables_Device_event [.agg [.bool b13, .int .i64 n14, .int .i64 n15].toArray, .pointer a1, .int .i64 a2] w12 fun v16 w17 =>
 ∃ n18 : Int, ∃ n19 : Int, ∃ n20 : Int, v16 = .tuple [.agg [.int .i64 n18, .int .i64 n19].toArray, .int .i64 n20].toArray ∧
 alc [.int .i64 0, .int .i64 0] T.t30 w17 fun b21 w22 =>
 st1 (.int .i64 n18) ⟨b21, 0, none⟩ w22 fun w23 =>
 st1 (.int .i64 n19) ⟨b21, 1, none⟩ w23 fun w24 =>
 cnd (n20 != 0)
 (Q (.int .i64 n20) w24)
 (ldB ⟨b11, 2, none⟩ w24 fun b25 =>
 cnd (!b25)
 (ldI .i64 ⟨b21, 0, none⟩ w24 fun n26 =>
 ldI .i64 ⟨b21, 1, none⟩ w24 fun n27 =>
 CV P F.mem_Mem_Write [.pointer a1, .agg [.int .i64 n26, .int .i64 n27].toArray, .int .i64 0, .int .i64 8, .int .u64 0] w24 fun v28 w29 =>
 ∃ n30 : Int, v28 = .int .i64 n30 ∧
 Q (.int .i64 0) w29)
 (JoinT (fun (J49 : tables_Device_SetRoute_J62.S → World → Prop) =>
  ldI .i64 ⟨b11, 0, none⟩ w24 fun n50 =>
  cnd (decide (n50 < 0))
  (J49 ((true : Bool)) w24)
  (ldI .i64 ⟨b11, 0, none⟩ w24 fun n51 =>
  cnd (decide (n51 ≥ 4294967296))
  (J49 ((true : Bool)) w24)
  (ldI .i64 ⟨b11, 1, none⟩ w24 fun n52 =>
  cnd (decide (n52 < 0))
  (J49 ((true : Bool)) w24)
  (ldI .i64 ⟨b11, 1, none⟩ w24 fun n53 =>
  J49 (((decide (n53 ≥ 65536)) : Bool)) w24))))
  fun (s54 : tables_Device_SetRoute_J62.S) w55 => tables_Device_SetRoute_j0 a1 Q b11 b21 s54 w55))
def tables_Device_SetRoute_ann : Nat → Option LoopSpec := fun
  | 62 => some tables_Device_SetRoute_J62
  | 126 => some (ordSpec [0, 1, 3, 4, 5, 6, 8, 9, 10, 2, 7, 11, 12])
  | _ => none
theorem tables_Device_SetRoute_eq (a0_0 : Bool) (a0_1 : Int) (a0_2 : Int) (a1 : Option Addr) (a2 : Int) (a3_0 : Int) (a3_1 : Int) (a3_2 : Bool) (w : World) (Q : Value → World → Prop) : fnX P tables_Device_SetRoute_ann Try.f14 [.agg [.bool a0_0, .int .i64 a0_1, .int .i64 a0_2].toArray, .pointer a1, .int .i64 a2, .agg [.int .i64 a3_0, .int .i64 a3_1, .bool a3_2].toArray] w Q = tables_Device_SetRoute a0_0 a0_1 a0_2 a1 a2 a3_0 a3_1 a3_2 w Q := by kernel_rfl
theorem tables_Device_SetRoute_cv {a0_0 : Bool} {a0_1 : Int} {a0_2 : Int} {a1 : Option Addr} {a2 : Int} {a3_0 : Int} {a3_1 : Int} {a3_2 : Bool} {w : World} {Q : Value → World → Prop} (h : tables_Device_SetRoute a0_0 a0_1 a0_2 a1 a2 a3_0 a3_1 a3_2 w Q) : CV P F.tables_Device_SetRoute [.agg [.bool a0_0, .int .i64 a0_1, .int .i64 a0_2].toArray, .pointer a1, .int .i64 a2, .agg [.int .i64 a3_0, .int .i64 a3_1, .bool a3_2].toArray] w Q := CV_of mixed Try.func14 (tables_Device_SetRoute_eq a0_0 a0_1 a0_2 a1 a2 a3_0 a3_1 a3_2 w Q ▸ h)

/- 15 (crier/tables.Device).Routes -/

def tables_Device_Routes (a0_0 : Bool) (a0_1 : Int) (a0_2 : Int) (a1 : Option Addr) (w : World) (Q : Value → World → Prop) : Prop :=
 alc [.bool a0_0, .int .i64 a0_1, .int .i64 a0_2] T.t36 w fun b5 w6 =>
 alc [.pointer a1] T.t25 w6 fun b7 w8 =>
 Q (.func (.func F.tables_Device_Routes_1) [].toArray [.pointer (some ⟨b5, 0, none⟩), .pointer (some ⟨b7, 0, none⟩)].toArray) w8
def tables_Device_Routes_ann : Nat → Option LoopSpec := fun _ => none
theorem tables_Device_Routes_eq (a0_0 : Bool) (a0_1 : Int) (a0_2 : Int) (a1 : Option Addr) (w : World) (Q : Value → World → Prop) : fnX P tables_Device_Routes_ann Try.f15 [.agg [.bool a0_0, .int .i64 a0_1, .int .i64 a0_2].toArray, .pointer a1] w Q = tables_Device_Routes a0_0 a0_1 a0_2 a1 w Q := by kernel_rfl
theorem tables_Device_Routes_cv {a0_0 : Bool} {a0_1 : Int} {a0_2 : Int} {a1 : Option Addr} {w : World} {Q : Value → World → Prop} (h : tables_Device_Routes a0_0 a0_1 a0_2 a1 w Q) : CV P F.tables_Device_Routes [.agg [.bool a0_0, .int .i64 a0_1, .int .i64 a0_2].toArray, .pointer a1] w Q := CV_of mixed Try.func15 (tables_Device_Routes_eq a0_0 a0_1 a0_2 a1 w Q ▸ h)

/- 16 (crier/tables.Device).Route -/

def tables_Device_Route (a0_0 : Bool) (a0_1 : Int) (a0_2 : Int) (a1 : Option Addr) (a2 : Int) (w : World) (Q : Value → World → Prop) : Prop :=
 alc [.bool a0_0, .int .i64 a0_1, .int .i64 a0_2] T.t36 w fun b6 w7 =>
 alc [.int .i64 0, .int .i64 0, .bool false] T.t45 w7 fun b8 w9 =>
 ldB ⟨b6, 0, none⟩ w9 fun b10 =>
 ldI .i64 ⟨b6, 1, none⟩ w9 fun n11 =>
 ldI .i64 ⟨b6, 2, none⟩ w9 fun n12 =>
 CV P F.tables_Device_event [.agg [.bool b10, .int .i64 n11, .int .i64 n12].toArray, .pointer a1, .int .i64 a2] w9 fun v13 w14 =>
 ∃ n15 : Int, ∃ n16 : Int, ∃ n17 : Int, v13 = .tuple [.agg [.int .i64 n15, .int .i64 n16].toArray, .int .i64 n17].toArray ∧
 alc [.int .i64 0, .int .i64 0] T.t30 w14 fun b18 w19 =>
 st1 (.int .i64 n15) ⟨b18, 0, none⟩ w19 fun w20 =>
 st1 (.int .i64 n16) ⟨b18, 1, none⟩ w20 fun w21 =>
 cnd (n17 != 0)
 (st1 (.int .i64 0) ⟨b8, 0, none⟩ w21 fun w22 =>
 st1 (.int .i64 0) ⟨b8, 1, none⟩ w22 fun w23 =>
 st1 (.bool false) ⟨b8, 2, none⟩ w23 fun w24 =>
 ldI .i64 ⟨b8, 0, none⟩ w24 fun n25 =>
 ldI .i64 ⟨b8, 1, none⟩ w24 fun n26 =>
 ldB ⟨b8, 2, none⟩ w24 fun b27 =>
 Q (.tuple [.agg [.int .i64 n25, .int .i64 n26, .bool b27].toArray, .int .i64 n17].toArray) w24)
 (ldI .i64 ⟨b18, 0, none⟩ w21 fun n28 =>
 ldI .i64 ⟨b18, 1, none⟩ w21 fun n29 =>
 CV P F.mem_Mem_Read [.pointer a1, .agg [.int .i64 n28, .int .i64 n29].toArray, .int .i64 0, .int .i64 8] w21 fun v30 w31 =>
 ∃ n32 : Int, ∃ n33 : Int, v30 = .tuple [.int .u64 n32, .int .i64 n33].toArray ∧
 (nng 63 <|
 cnd ((Int.fdiv n32 (2 ^ min (Int.toNat 63) (IntKind.u64.bits))) == 0)
 (st1 (.int .i64 0) ⟨b8, 0, none⟩ w31 fun w34 =>
 st1 (.int .i64 0) ⟨b8, 1, none⟩ w34 fun w35 =>
 st1 (.bool false) ⟨b8, 2, none⟩ w35 fun w36 =>
 ldI .i64 ⟨b8, 0, none⟩ w36 fun n37 =>
 ldI .i64 ⟨b8, 1, none⟩ w36 fun n38 =>
 ldB ⟨b8, 2, none⟩ w36 fun b39 =>
 Q (.tuple [.agg [.int .i64 n37, .int .i64 n38, .bool b39].toArray, .int .i64 0].toArray) w36)
 ((nng 32 <|
 st1 (.int .i64 (IntKind.i64.wrap ((bitX .and .u64 n32 4294967295)))) ⟨b8, 0, none⟩ w31 fun w40 =>
 st1 (.int .i64 (IntKind.i64.wrap ((bitX .and .u64 (Int.fdiv n32 (2 ^ min (Int.toNat 32) (IntKind.u64.bits))) 65535)))) ⟨b8, 1, none⟩ w40 fun w41 =>
 st1 (.bool true) ⟨b8, 2, none⟩ w41 fun w42 =>
 ldI .i64 ⟨b8, 0, none⟩ w42 fun n43 =>
 ldI .i64 ⟨b8, 1, none⟩ w42 fun n44 =>
 ldB ⟨b8, 2, none⟩ w42 fun b45 =>
 Q (.tuple [.agg [.int .i64 n43, .int .i64 n44, .bool b45].toArray, .int .i64 0].toArray) w42))))
def tables_Device_Route_ann : Nat → Option LoopSpec := fun _ => none
theorem tables_Device_Route_eq (a0_0 : Bool) (a0_1 : Int) (a0_2 : Int) (a1 : Option Addr) (a2 : Int) (w : World) (Q : Value → World → Prop) : fnX P tables_Device_Route_ann Try.f16 [.agg [.bool a0_0, .int .i64 a0_1, .int .i64 a0_2].toArray, .pointer a1, .int .i64 a2] w Q = tables_Device_Route a0_0 a0_1 a0_2 a1 a2 w Q := by kernel_rfl
theorem tables_Device_Route_cv {a0_0 : Bool} {a0_1 : Int} {a0_2 : Int} {a1 : Option Addr} {a2 : Int} {w : World} {Q : Value → World → Prop} (h : tables_Device_Route a0_0 a0_1 a0_2 a1 a2 w Q) : CV P F.tables_Device_Route [.agg [.bool a0_0, .int .i64 a0_1, .int .i64 a0_2].toArray, .pointer a1, .int .i64 a2] w Q := CV_of mixed Try.func16 (tables_Device_Route_eq a0_0 a0_1 a0_2 a1 a2 w Q ▸ h)

/- 17 crier/tables.Target -/
def tables_Target_J6 : LoopSpec where
  S := Bool
  emb := fun s => [(16, .bool s)]
  ext := fun t => match getL t 16 with
    | some (.bool y7) => some (y7)
    | _ => none
  slots := [16]
  fits := fun _ => rfl
  ok := by
    intro t s h x hx
    (try dsimp only at h hx)
    split at h
    · cases h
      simp only [List.mem_cons, List.not_mem_nil, or_false] at hx
      rcases hx with rfl <;> assumption
    · cases h

def tables_Target_j0 (a0 : Option Addr) (a2 : Int) (Q : Value → World → Prop) (b5 : Nat) (b8 : Bool) (w9 : World) : Prop :=
 cnd b8
 (Q (.tuple [.int .i64 0, .bool false, .int .i64 183].toArray) w9)
 (ldI .i64 ⟨b5, 0, none⟩ w9 fun n10 =>
 ldI .i64 ⟨b5, 1, none⟩ w9 fun n11 =>
 CV P F.mem_Mem_Read [.pointer a0, .agg [.int .i64 n10, .int .i64 n11].toArray, .int .i64 (IntKind.i64.wrap (a2 * 8)), .int .i64 8] w9 fun v12 w13 =>
 ∃ n14 : Int, ∃ n15 : Int, v12 = .tuple [.int .u64 n14, .int .i64 n15].toArray ∧
 cnd (n15 != 0)
 (Q (.tuple [.int .i64 0, .bool false, .int .i64 183].toArray) w13)
 ((nng 63 <|
 cnd ((Int.fdiv n14 (2 ^ min (Int.toNat 63) (IntKind.u64.bits))) == 0)
 (Q (.tuple [.int .i64 0, .bool false, .int .i64 0].toArray) w13)
 (Q (.tuple [.int .i64 (IntKind.i64.wrap ((bitX .and .u64 n14 65535))), .bool true, .int .i64 0].toArray) w13))))

def tables_Target (a0 : Option Addr) (a1_0 : Int) (a1_1 : Int) (a2 : Int) (w : World) (Q : Value → World → Prop) : Prop :=
 alc [.int .i64 a1_0, .int .i64 a1_1] T.t30 w fun b5 w6 =>
 JoinT (fun (J16 : tables_Target_J6.S → World → Prop) =>
  cnd (decide (a2 < 0))
  (J16 ((true : Bool)) w6)
  (J16 (((decide (a2 ≥ 131072)) : Bool)) w6))
  fun (s17 : tables_Target_J6.S) w18 => tables_Target_j0 a0 a2 Q b5 s17 w18
def tables_Target_ann : Nat → Option LoopSpec := fun
  | 6 => some tables_Target_J6
  | _ => none
theorem tables_Target_eq (a0 : Option Addr) (a1_0 : Int) (a1_1 : Int) (a2 : Int) (w : World) (Q : Value → World → Prop) : fnX P tables_Target_ann Try.f17 [.pointer a0, .agg [.int .i64 a1_0, .int .i64 a1_1].toArray, .int .i64 a2] w Q = tables_Target a0 a1_0 a1_1 a2 w Q := by kernel_rfl
theorem tables_Target_cv {a0 : Option Addr} {a1_0 : Int} {a1_1 : Int} {a2 : Int} {w : World} {Q : Value → World → Prop} (h : tables_Target a0 a1_0 a1_1 a2 w Q) : CV P F.tables_Target [.pointer a0, .agg [.int .i64 a1_0, .int .i64 a1_1].toArray, .int .i64 a2] w Q := CV_of mixed Try.func17 (tables_Target_eq a0 a1_0 a1_1 a2 w Q ▸ h)

/- 18 crier/tables.SetTarget -/
def tables_SetTarget_J6 : LoopSpec where
  S := Bool
  emb := fun s => [(17, .bool s)]
  ext := fun t => match getL t 17 with
    | some (.bool y9) => some (y9)
    | _ => none
  slots := [17]
  fits := fun _ => rfl
  ok := by
    intro t s h x hx
    (try dsimp only at h hx)
    split at h
    · cases h
      simp only [List.mem_cons, List.not_mem_nil, or_false] at hx
      rcases hx with rfl <;> assumption
    · cases h

def tables_SetTarget_J14 : LoopSpec where
  S := Bool
  emb := fun s => [(23, .bool s)]
  ext := fun t => match getL t 23 with
    | some (.bool y12) => some (y12)
    | _ => none
  slots := [23]
  fits := fun _ => rfl
  ok := by
    intro t s h x hx
    (try dsimp only at h hx)
    split at h
    · cases h
      simp only [List.mem_cons, List.not_mem_nil, or_false] at hx
      rcases hx with rfl <;> assumption
    · cases h

def tables_SetTarget_J31 : LoopSpec where
  S := Int
  emb := fun s => [(11, .int .u64 s)]
  ext := fun t => match getL t 11 with
    | some (.int .u64 y15) => some (y15)
    | _ => none
  slots := [11]
  fits := fun _ => rfl
  ok := by
    intro t s h x hx
    (try dsimp only at h hx)
    split at h
    · cases h
      simp only [List.mem_cons, List.not_mem_nil, or_false] at hx
      rcases hx with rfl <;> assumption
    · cases h

def tables_SetTarget_j0 (a0 : Option Addr) (a2 : Int) (Q : Value → World → Prop) (b7 : Nat) (n16 : Int) (w17 : World) : Prop :=
 ldI .i64 ⟨b7, 0, none⟩ w17 fun n18 =>
 ldI .i64 ⟨b7, 1, none⟩ w17 fun n19 =>
 CV P F.mem_Mem_Write [.pointer a0, .agg [.int .i64 n18, .int .i64 n19].toArray, .int .i64 (IntKind.i64.wrap (a2 * 8)), .int .i64 8, .int .u64 n16] w17 fun v20 w21 =>
 ∃ n22 : Int, v20 = .int .i64 n22 ∧
 cnd (n22 != 0)
 (Q (.int .i64 183) w21)
 (Q (.int .i64 0) w21)

def tables_SetTarget_j1 (a0 : Option Addr) (a2 : Int) (a3 : Int) (a4 : Bool) (Q : Value → World → Prop) (b7 : Nat) (b13 : Bool) (w14 : World) : Prop :=
 cnd b13
 (Q (.int .i64 1) w14)
 (JoinT (fun (J23 : tables_SetTarget_J31.S → World → Prop) =>
  cnd a4
  (CV P F.tables_flag [.bool true] w14 fun v24 w25 =>
  ∃ n26 : Int, v24 = .int .u64 n26 ∧
  J23 (((bitX .or .u64 n26 (IntKind.u64.wrap (a3))) : Int)) w25)
  (J23 ((0 : Int)) w14))
  fun (s27 : tables_SetTarget_J31.S) w28 => tables_SetTarget_j0 a0 a2 Q b7 s27 w28)

def tables_SetTarget_j2 (a0 : Option Addr) (a2 : Int) (a3 : Int) (a4 : Bool) (Q : Value → World → Prop) (b7 : Nat) (b10 : Bool) (w11 : World) : Prop :=
 cnd b10
 (Q (.int .i64 183) w11)
 (JoinT (fun (J29 : tables_SetTarget_J14.S → World → Prop) =>
  cnd (decide (a3 < 0))
  (J29 ((true : Bool)) w11)
  (J29 (((decide (a3 ≥ 65536)) : Bool)) w11))
  fun (s30 : tables_SetTarget_J14.S) w31 => tables_SetTarget_j1 a0 a2 a3 a4 Q b7 s30 w31)

def tables_SetTarget (a0 : Option Addr) (a1_0 : Int) (a1_1 : Int) (a2 : Int) (a3 : Int) (a4 : Bool) (w : World) (Q : Value → World → Prop) : Prop :=
 alc [.int .i64 a1_0, .int .i64 a1_1] T.t30 w fun b7 w8 =>
 JoinT (fun (J32 : tables_SetTarget_J6.S → World → Prop) =>
  cnd (decide (a2 < 0))
  (J32 ((true : Bool)) w8)
  (J32 (((decide (a2 ≥ 131072)) : Bool)) w8))
  fun (s33 : tables_SetTarget_J6.S) w34 => tables_SetTarget_j2 a0 a2 a3 a4 Q b7 s33 w34
def tables_SetTarget_ann : Nat → Option LoopSpec := fun
  | 6 => some tables_SetTarget_J6
  | 14 => some tables_SetTarget_J14
  | 31 => some tables_SetTarget_J31
  | _ => none
theorem tables_SetTarget_eq (a0 : Option Addr) (a1_0 : Int) (a1_1 : Int) (a2 : Int) (a3 : Int) (a4 : Bool) (w : World) (Q : Value → World → Prop) : fnX P tables_SetTarget_ann Try.f18 [.pointer a0, .agg [.int .i64 a1_0, .int .i64 a1_1].toArray, .int .i64 a2, .int .i64 a3, .bool a4] w Q = tables_SetTarget a0 a1_0 a1_1 a2 a3 a4 w Q := by kernel_rfl
theorem tables_SetTarget_cv {a0 : Option Addr} {a1_0 : Int} {a1_1 : Int} {a2 : Int} {a3 : Int} {a4 : Bool} {w : World} {Q : Value → World → Prop} (h : tables_SetTarget a0 a1_0 a1_1 a2 a3 a4 w Q) : CV P F.tables_SetTarget [.pointer a0, .agg [.int .i64 a1_0, .int .i64 a1_1].toArray, .int .i64 a2, .int .i64 a3, .bool a4] w Q := CV_of mixed Try.func18 (tables_SetTarget_eq a0 a1_0 a1_1 a2 a3 a4 w Q ▸ h)

/- 19 crier/crierlaw18.played -/
def crierlaw18_played_L58 : LoopSpec where
  S := Int
  emb := fun s => [(9, .int .i64 s)]
  ext := fun t => match getL t 9 with
    | some (.int .i64 y14) => some (y14)
    | _ => none
  slots := [9]
  fits := fun _ => rfl
  ok := by
    intro t s h x hx
    (try dsimp only at h hx)
    split at h
    · cases h
      simp only [List.mem_cons, List.not_mem_nil, or_false] at hx
      rcases hx with rfl <;> assumption
    · cases h

def crierlaw18_played_J232 : LoopSpec where
  S := Bool
  emb := fun s => [(22, .bool s)]
  ext := fun t => match getL t 22 with
    | some (.bool y18) => some (y18)
    | _ => none
  slots := [22]
  fits := fun _ => rfl
  ok := by
    intro t s h x hx
    (try dsimp only at h hx)
    split at h
    · cases h
      simp only [List.mem_cons, List.not_mem_nil, or_false] at hx
      rcases hx with rfl <;> assumption
    · cases h

def crierlaw18_played_j0 (a2 : Option Addr) (a2_n : Nat) (Q : Value → World → Prop) (b8 : Nat) (p12 : Option Addr) (p13 : Option Addr) (n15 : Int) (A17 : crierlaw18_played_L58.S → World → Prop) (b19 : Bool) (w20 : World) : Prop :=
 cnd b19
 (drw w20 fun w21 =>
 ldI .i64 ⟨b8, 0, none⟩ w21 fun n22 =>
 ldI .i64 ⟨b8, 1, none⟩ w21 fun n23 =>
 ldI .i64 ⟨b8, 2, none⟩ w21 fun n24 =>
 ix n15 a2_n fun j25 => nn a2 fun a26 =>
 ldI .i64 (a26.add (j25 * 14)) w21 fun n27 =>
 ldI .i64 ((a26.add (j25 * 14)).add 1) w21 fun n28 =>
 ldI .i64 ((a26.add (j25 * 14)).add 2) w21 fun n29 =>
 ldI .i64 ((a26.add (j25 * 14)).add 3) w21 fun n30 =>
 ldB ((a26.add (j25 * 14)).add 4) w21 fun b31 =>
 ldI .i64 ((a26.add (j25 * 14)).add 5) w21 fun n32 =>
 ldI .i64 ((a26.add (j25 * 14)).add 6) w21 fun n33 =>
 ldI .i64 ((a26.add (j25 * 14)).add 7) w21 fun n34 =>
 ldI .i64 ((a26.add (j25 * 14)).add 8) w21 fun n35 =>
 ldB ((a26.add (j25 * 14)).add 9) w21 fun b36 =>
 ldI .i64 ((a26.add (j25 * 14)).add 10) w21 fun n37 =>
 ldI .i64 ((a26.add (j25 * 14)).add 11) w21 fun n38 =>
 ldB ((a26.add (j25 * 14)).add 12) w21 fun b39 =>
 ldI .u64 ((a26.add (j25 * 14)).add 13) w21 fun n40 =>
 CV P F.crierlaw18_does [.agg [.int .i64 n22, .int .i64 n23, .int .i64 n24].toArray, .pointer p12, .pointer p13, .agg [.int .i64 n27, .int .i64 n28, .int .i64 n29, .int .i64 n30, .bool b31, .int .i64 n32, .int .i64 n33, .int .i64 n34, .int .i64 n35, .bool b36, .int .i64 n37, .int .i64 n38, .bool b39, .int .u64 n40].toArray] w21 fun v41 w42 =>
 ∃ b43 : Bool, v41 = .bool b43 ∧
 A17 (((IntKind.i64.wrap (n15 + 1)) : Int)) w42)
 (Q (.pointer p12) w20)

def crierlaw18_played_l1 (a2 : Option Addr) (a2_n : Nat) (Q : Value → World → Prop) (b8 : Nat) (p12 : Option Addr) (p13 : Option Addr) (n15 : Int) (w16 : World) (A17 : crierlaw18_played_L58.S → World → Prop) : Prop :=
 JoinT (fun (J44 : crierlaw18_played_J232.S → World → Prop) =>
  cnd (!(Option.isNone p12))
  (J44 (((decide (n15 < ((a2_n : Nat) : Int))) : Bool)) w16)
  (J44 ((false : Bool)) w16))
  fun (s45 : crierlaw18_played_J232.S) w46 => crierlaw18_played_j0 a2 a2_n Q b8 p12 p13 n15 A17 s45 w46

def crierlaw18_played (a0_0 : Int) (a0_1 : Int) (a0_2 : Int) (a1 : Int) (a2 : Option Addr) (a2_n : Nat) (a2_c : Nat) (w : World) (Q : Value → World → Prop) : Prop :=
 alc [.int .i64 a0_0, .int .i64 a0_1, .int .i64 a0_2] T.t32 w fun b8 w9 =>
 CV P F.crierlaw04_New [.int .i64 a1] w9 fun v10 w11 =>
 ∃ p12 : Option Addr, ∃ p13 : Option Addr, v10 = .tuple [.pointer p12, .pointer p13].toArray ∧
 LoopT (fun (s47 : crierlaw18_played_L58.S) w48 A49 => crierlaw18_played_l1 a2 a2_n Q b8 p12 p13 s47 w48 A49) ((0 : Int)) w11
def crierlaw18_played_ann : Nat → Option LoopSpec := fun
  | 58 => some crierlaw18_played_L58
  | 232 => some crierlaw18_played_J232
  | 932 => some (ordSpec [0, 1, 2, 3, 4, 5, 6, 7])
  | _ => none
theorem crierlaw18_played_eq (a0_0 : Int) (a0_1 : Int) (a0_2 : Int) (a1 : Int) (a2 : Option Addr) (a2_n : Nat) (a2_c : Nat) (w : World) (Q : Value → World → Prop) : fnX P crierlaw18_played_ann Try.f19 [.agg [.int .i64 a0_0, .int .i64 a0_1, .int .i64 a0_2].toArray, .int .i64 a1, .slice a2 a2_n a2_c] w Q = crierlaw18_played a0_0 a0_1 a0_2 a1 a2 a2_n a2_c w Q := by kernel_rfl
theorem crierlaw18_played_cv {a0_0 : Int} {a0_1 : Int} {a0_2 : Int} {a1 : Int} {a2 : Option Addr} {a2_n : Nat} {a2_c : Nat} {w : World} {Q : Value → World → Prop} (h : crierlaw18_played a0_0 a0_1 a0_2 a1 a2 a2_n a2_c w Q) : CV P F.crierlaw18_played [.agg [.int .i64 a0_0, .int .i64 a0_1, .int .i64 a0_2].toArray, .int .i64 a1, .slice a2 a2_n a2_c] w Q := CV_of mixed Try.func19 (crierlaw18_played_eq a0_0 a0_1 a0_2 a1 a2 a2_n a2_c w Q ▸ h)

/- 20 (*crier/mem.Mem).Bytes -/

def mem_Mem_Bytes (a0 : Option Addr) (a1_0 : Int) (a1_1 : Int) (w : World) (Q : Value → World → Prop) : Prop :=
 alc [.int .i64 a1_0, .int .i64 a1_1] T.t30 w fun b4 w5 =>
 ldI .i64 ⟨b4, 0, none⟩ w5 fun n6 =>
 ldI .i64 ⟨b4, 1, none⟩ w5 fun n7 =>
 CV P F.mem_Mem_Holds [.pointer a0, .agg [.int .i64 n6, .int .i64 n7].toArray] w5 fun v8 w9 =>
 ∃ b10 : Bool, v8 = .bool b10 ∧
 cnd (!b10)
 (Q (.tuple [.slice none 0 0, .int .i64 42].toArray) w9)
 (drw w9 fun w11 =>
 nn a0 fun a12 =>
 ldL a12 w11 fun p13 l14 c15 =>
 ldI .i64 ⟨b4, 0, none⟩ w11 fun n16 =>
 ldI .i64 ⟨b4, 0, none⟩ w11 fun n17 =>
 ldI .i64 ⟨b4, 1, none⟩ w11 fun n18 =>
 slL p13 l14 c15 1 (some n16) (some (IntKind.i64.wrap (n17 + n18))) none fun p19 l20 c21 =>
 CV P F.slices_Clone__byte_byte [.slice p19 l20 c21] w11 fun v22 w23 =>
 ∃ (p24 : Option Addr) (l25 c26 : Nat), v22 = .slice p24 l25 c26 ∧
 Q (.tuple [.slice p24 l25 c26, .int .i64 0].toArray) w23)
def mem_Mem_Bytes_ann : Nat → Option LoopSpec := fun
  | 14 => some (ordSpec [0, 1, 2, 3, 4, 5, 6, 7, 8, 9, 10, 11, 12, 13, 14])
  | _ => none
theorem mem_Mem_Bytes_eq (a0 : Option Addr) (a1_0 : Int) (a1_1 : Int) (w : World) (Q : Value → World → Prop) : fnX P mem_Mem_Bytes_ann Try.f20 [.pointer a0, .agg [.int .i64 a1_0, .int .i64 a1_1].toArray] w Q = mem_Mem_Bytes a0 a1_0 a1_1 w Q := by kernel_rfl
theorem mem_Mem_Bytes_cv {a0 : Option Addr} {a1_0 : Int} {a1_1 : Int} {w : World} {Q : Value → World → Prop} (h : mem_Mem_Bytes a0 a1_0 a1_1 w Q) : CV P F.mem_Mem_Bytes [.pointer a0, .agg [.int .i64 a1_0, .int .i64 a1_1].toArray] w Q := CV_of mixed Try.func20 (mem_Mem_Bytes_eq a0 a1_0 a1_1 w Q ▸ h)

/- 21 crier/mem.New -/
def mem_New_J6 : LoopSpec where
  S := Bool
  emb := fun s => [(9, .bool s)]
  ext := fun t => match getL t 9 with
    | some (.bool y2) => some (y2)
    | _ => none
  slots := [9]
  fits := fun _ => rfl
  ok := by
    intro t s h x hx
    (try dsimp only at h hx)
    split at h
    · cases h
      simp only [List.mem_cons, List.not_mem_nil, or_false] at hx
      rcases hx with rfl <;> assumption
    · cases h

def mem_New_j0 (a0 : Int) (Q : Value → World → Prop) (b3 : Bool) (w4 : World) : Prop :=
 cnd b3
 (Q (.tuple [.pointer none, .int .i64 1].toArray) w4)
 (runS P (Instr.makeSlice T.t22 (.int .i64 a0) (.int .i64 a0)) w4 fun p5 l6 c7 w8 =>
 alc [.slice p5 l6 c7] T.t81 w8 fun b9 w10 =>
 Q (.tuple [.pointer (some ⟨b9, 0, none⟩), .int .i64 0].toArray) w10)

def mem_New (a0 : Int) (w : World) (Q : Value → World → Prop) : Prop :=
 JoinT (fun (J11 : mem_New_J6.S → World → Prop) =>
  cnd (decide (a0 < 0))
  (J11 ((true : Bool)) w)
  (J11 (((decide (a0 > 131072)) : Bool)) w))
  fun (s12 : mem_New_J6.S) w13 => mem_New_j0 a0 Q s12 w13
def mem_New_ann : Nat → Option LoopSpec := fun
  | 6 => some mem_New_J6
  | _ => none
theorem mem_New_eq (a0 : Int) (w : World) (Q : Value → World → Prop) : fnX P mem_New_ann Try.f21 [.int .i64 a0] w Q = mem_New a0 w Q := by kernel_rfl
theorem mem_New_cv {a0 : Int} {w : World} {Q : Value → World → Prop} (h : mem_New a0 w Q) : CV P F.mem_New [.int .i64 a0] w Q := CV_of mixed Try.func21 (mem_New_eq a0 w Q ▸ h)

/- 22 (*crier/mem.Mem).Read -/
def mem_Mem_Read_L122 : LoopSpec where
  S := Int × Int
  emb := fun s => [(12, .int .u64 s.1), (25, .int .i64 s.2)]
  ext := fun t => match getL t 12, getL t 25 with
    | some (.int .u64 y16), some (.int .i64 y17) => some (y16, y17)
    | _, _ => none
  slots := [12, 25]
  fits := fun _ => rfl
  ok := by
    intro t s h x hx
    (try dsimp only at h hx)
    split at h
    · cases h
      simp only [List.mem_cons, List.not_mem_nil, or_false] at hx
      rcases hx with rfl | rfl <;> assumption
    · cases h

def mem_Mem_Read_l0 (Q : Value → World → Prop) (p12 : Option Addr) (l13 : Nat) (n15 : Int) (n18 : Int) (n19 : Int) (w20 : World) (A21 : mem_Mem_Read_L122.S → World → Prop) : Prop :=
 cnd (decide (n19 < ((l13 : Nat) : Int)))
 (ix n19 l13 fun j22 => nn p12 fun a23 =>
 ldI .u8 (a23.add (j22 * 1)) w20 fun n24 =>
 (nng (IntKind.i64.wrap (8 * n19)) <|
 A21 (((bitX .or .u64 n18 (IntKind.u64.wrap ((IntKind.u64.wrap (n24)) * 2 ^ min (Int.toNat (IntKind.i64.wrap (8 * n19))) (IntKind.u64.bits)))) : Int), ((IntKind.i64.wrap (n19 + 1)) : Int)) w20))
 (Q (.tuple [.int .u64 n18, .int .i64 n15].toArray) w20)

def mem_Mem_Read (a0 : Option Addr) (a1_0 : Int) (a1_1 : Int) (a2 : Int) (a3 : Int) (w : World) (Q : Value → World → Prop) : Prop :=
 alc [.int .i64 a1_0, .int .i64 a1_1] T.t30 w fun b6 w7 =>
 ldI .i64 ⟨b6, 0, none⟩ w7 fun n8 =>
 ldI .i64 ⟨b6, 1, none⟩ w7 fun n9 =>
 CV P F.mem_Mem_part [.pointer a0, .agg [.int .i64 n8, .int .i64 n9].toArray, .int .i64 a2, .int .i64 a3] w7 fun v10 w11 =>
 ∃ (p12 : Option Addr) (l13 c14 : Nat), ∃ n15 : Int, v10 = .tuple [.slice p12 l13 c14, .int .i64 n15].toArray ∧
 LoopT (fun (s25 : mem_Mem_Read_L122.S) w26 A27 => mem_Mem_Read_l0 Q p12 l13 n15 s25.1 s25.2 w26 A27) ((0 : Int), (0 : Int)) w11
def mem_Mem_Read_ann : Nat → Option LoopSpec := fun
  | 122 => some mem_Mem_Read_L122
  | _ => none
theorem mem_Mem_Read_eq (a0 : Option Addr) (a1_0 : Int) (a1_1 : Int) (a2 : Int) (a3 : Int) (w : World) (Q : Value → World → Prop) : fnX P mem_Mem_Read_ann Try.f22 [.pointer a0, .agg [.int .i64 a1_0, .int .i64 a1_1].toArray, .int .i64 a2, .int .i64 a3] w Q = mem_Mem_Read a0 a1_0 a1_1 a2 a3 w Q := by kernel_rfl
theorem mem_Mem_Read_cv {a0 : Option Addr} {a1_0 : Int} {a1_1 : Int} {a2 : Int} {a3 : Int} {w : World} {Q : Value → World → Prop} (h : mem_Mem_Read a0 a1_0 a1_1 a2 a3 w Q) : CV P F.mem_Mem_Read [.pointer a0, .agg [.int .i64 a1_0, .int .i64 a1_1].toArray, .int .i64 a2, .int .i64 a3] w Q := CV_of mixed Try.func22 (mem_Mem_Read_eq a0 a1_0 a1_1 a2 a3 w Q ▸ h)

/- 23 (crier/tables.Table).Right -/
def tables_Table_Right_J14 : LoopSpec where
  S := Bool
  emb := fun s => [(31, .bool s)]
  ext := fun t => match getL t 31 with
    | some (.bool y12) => some (y12)
    | _ => none
  slots := [31]
  fits := fun _ => rfl
  ok := by
    intro t s h x hx
    (try dsimp only at h hx)
    split at h
    · cases h
      simp only [List.mem_cons, List.not_mem_nil, or_false] at hx
      rcases hx with rfl <;> assumption
    · cases h

def tables_Table_Right_j0 (Q : Value → World → Prop) (b13 : Bool) (w14 : World) : Prop :=
 cnd b13
 (Q (.int .i64 1) w14)
 (Q (.int .i64 0) w14)

def tables_Table_Right (a0_0 : Int) (a0_1 : Int) (a0_2 : Int) (a1 : Option Addr) (w : World) (Q : Value → World → Prop) : Prop :=
 alc [.int .i64 a0_0, .int .i64 a0_1, .int .i64 a0_2] T.t32 w fun b5 w6 =>
 ldI .i64 ⟨b5, 0, none⟩ w6 fun n7 =>
 ldI .i64 ⟨b5, 1, none⟩ w6 fun n8 =>
 CV P F.mem_Mem_Holds [.pointer a1, .agg [.int .i64 n7, .int .i64 n8].toArray] w6 fun v9 w10 =>
 ∃ b11 : Bool, v9 = .bool b11 ∧
 cnd (!b11)
 (Q (.int .i64 42) w10)
 (JoinT (fun (J15 : tables_Table_Right_J14.S → World → Prop) =>
  ldI .i64 ⟨b5, 2, none⟩ w10 fun n16 =>
  cnd (n16 != 0)
  (ldI .i64 ⟨b5, 2, none⟩ w10 fun n17 =>
  cnd (decide (n17 < 8))
  (J15 ((true : Bool)) w10)
  (ldI .i64 ⟨b5, 2, none⟩ w10 fun n18 =>
  cnd (decide (n18 > 131072))
  (J15 ((true : Bool)) w10)
  (ldI .i64 ⟨b5, 2, none⟩ w10 fun n19 =>
  ldI .i64 ⟨b5, 2, none⟩ w10 fun n20 =>
  J15 ((((bitX .and .i64 n19 (IntKind.i64.wrap (n20 - 1))) != 0) : Bool)) w10)))
  (J15 ((false : Bool)) w10))
  fun (s21 : tables_Table_Right_J14.S) w22 => tables_Table_Right_j0 Q s21 w22)
def tables_Table_Right_ann : Nat → Option LoopSpec := fun
  | 14 => some tables_Table_Right_J14
  | _ => none
theorem tables_Table_Right_eq (a0_0 : Int) (a0_1 : Int) (a0_2 : Int) (a1 : Option Addr) (w : World) (Q : Value → World → Prop) : fnX P tables_Table_Right_ann Try.f23 [.agg [.int .i64 a0_0, .int .i64 a0_1, .int .i64 a0_2].toArray, .pointer a1] w Q = tables_Table_Right a0_0 a0_1 a0_2 a1 w Q := by kernel_rfl
theorem tables_Table_Right_cv {a0_0 : Int} {a0_1 : Int} {a0_2 : Int} {a1 : Option Addr} {w : World} {Q : Value → World → Prop} (h : tables_Table_Right a0_0 a0_1 a0_2 a1 w Q) : CV P F.tables_Table_Right [.agg [.int .i64 a0_0, .int .i64 a0_1, .int .i64 a0_2].toArray, .pointer a1] w Q := CV_of mixed Try.func23 (tables_Table_Right_eq a0_0 a0_1 a0_2 a1 w Q ▸ h)

/- 24 (*crier/mem.Mem).Holds -/
def mem_Mem_Holds_J3 : LoopSpec where
  S := Bool
  emb := fun s => [(4, .bool s)]
  ext := fun t => match getL t 4 with
    | some (.bool y6) => some (y6)
    | _ => none
  slots := [4]
  fits := fun _ => rfl
  ok := by
    intro t s h x hx
    (try dsimp only at h hx)
    split at h
    · cases h
      simp only [List.mem_cons, List.not_mem_nil, or_false] at hx
      rcases hx with rfl <;> assumption
    · cases h

def mem_Mem_Holds_j0 (Q : Value → World → Prop) (b7 : Bool) (w8 : World) : Prop :=
 Q (.bool b7) w8

def mem_Mem_Holds (a0 : Option Addr) (a1_0 : Int) (a1_1 : Int) (w : World) (Q : Value → World → Prop) : Prop :=
 alc [.int .i64 a1_0, .int .i64 a1_1] T.t30 w fun b4 w5 =>
 JoinT (fun (J9 : mem_Mem_Holds_J3.S → World → Prop) =>
  drw w5 fun w10 =>
  ldI .i64 ⟨b4, 0, none⟩ w10 fun n11 =>
  cnd (decide (n11 ≥ 0))
  (ldI .i64 ⟨b4, 1, none⟩ w10 fun n12 =>
  cnd (decide (n12 ≥ 0))
  (ldI .i64 ⟨b4, 1, none⟩ w10 fun n13 =>
  nn a0 fun a14 =>
  ldL a14 w10 fun p15 l16 c17 =>
  cnd (decide (n13 ≤ ((l16 : Nat) : Int)))
  (ldI .i64 ⟨b4, 0, none⟩ w10 fun n18 =>
  nn a0 fun a19 =>
  ldL a19 w10 fun p20 l21 c22 =>
  ldI .i64 ⟨b4, 1, none⟩ w10 fun n23 =>
  J9 (((decide (n18 ≤ (IntKind.i64.wrap (((l21 : Nat) : Int) - n23)))) : Bool)) w10)
  (J9 ((false : Bool)) w10))
  (J9 ((false : Bool)) w10))
  (J9 ((false : Bool)) w10))
  fun (s24 : mem_Mem_Holds_J3.S) w25 => mem_Mem_Holds_j0 Q s24 w25
def mem_Mem_Holds_ann : Nat → Option LoopSpec := fun
  | 3 => some mem_Mem_Holds_J3
  | 6 => some (ordSpec [0, 1, 2, 3, 4, 5, 6, 7, 8, 9, 10, 11, 12, 13, 14, 15, 16, 17, 18, 19, 20, 21, 22, 23, 24, 25, 26, 27, 28, 29, 30, 31])
  | _ => none
theorem mem_Mem_Holds_eq (a0 : Option Addr) (a1_0 : Int) (a1_1 : Int) (w : World) (Q : Value → World → Prop) : fnX P mem_Mem_Holds_ann Try.f24 [.pointer a0, .agg [.int .i64 a1_0, .int .i64 a1_1].toArray] w Q = mem_Mem_Holds a0 a1_0 a1_1 w Q := by kernel_rfl
theorem mem_Mem_Holds_cv {a0 : Option Addr} {a1_0 : Int} {a1_1 : Int} {w : World} {Q : Value → World → Prop} (h : mem_Mem_Holds a0 a1_0 a1_1 w Q) : CV P F.mem_Mem_Holds [.pointer a0, .agg [.int .i64 a1_0, .int .i64 a1_1].toArray] w Q := CV_of mixed Try.func24 (mem_Mem_Holds_eq a0 a1_0 a1_1 w Q ▸ h)

/- 25 (*crier/mem.Mem).Write -/
def mem_Mem_Write_L58 : LoopSpec where
  S := Int
  emb := fun s => [(24, .int .i64 s)]
  ext := fun t => match getL t 24 with
    | some (.int .i64 y17) => some (y17)
    | _ => none
  slots := [24]
  fits := fun _ => rfl
  ok := by
    intro t s h x hx
    (try dsimp only at h hx)
    split at h
    · cases h
      simp only [List.mem_cons, List.not_mem_nil, or_false] at hx
      rcases hx with rfl <;> assumption
    · cases h

def mem_Mem_Write_l0 (a4 : Int) (Q : Value → World → Prop) (p13 : Option Addr) (l14 : Nat) (n16 : Int) (n18 : Int) (w19 : World) (A20 : mem_Mem_Write_L58.S → World → Prop) : Prop :=
 cnd (decide (n18 < ((l14 : Nat) : Int)))
 ((nng (IntKind.i64.wrap (8 * n18)) <|
 ix n18 l14 fun j21 => nn p13 fun a22 =>
 st1 (.int .u8 (IntKind.u8.wrap ((Int.fdiv a4 (2 ^ min (Int.toNat (IntKind.i64.wrap (8 * n18))) (IntKind.u64.bits)))))) (a22.add (j21 * 1)) w19 fun w23 =>
 A20 (((IntKind.i64.wrap (n18 + 1)) : Int)) w23))
 (Q (.int .i64 n16) w19)

def mem_Mem_Write (a0 : Option Addr) (a1_0 : Int) (a1_1 : Int) (a2 : Int) (a3 : Int) (a4 : Int) (w : World) (Q : Value → World → Prop) : Prop :=
 alc [.int .i64 a1_0, .int .i64 a1_1] T.t30 w fun b7 w8 =>
 ldI .i64 ⟨b7, 0, none⟩ w8 fun n9 =>
 ldI .i64 ⟨b7, 1, none⟩ w8 fun n10 =>
 CV P F.mem_Mem_part [.pointer a0, .agg [.int .i64 n9, .int .i64 n10].toArray, .int .i64 a2, .int .i64 a3] w8 fun v11 w12 =>
 ∃ (p13 : Option Addr) (l14 c15 : Nat), ∃ n16 : Int, v11 = .tuple [.slice p13 l14 c15, .int .i64 n16].toArray ∧
 LoopT (fun (s24 : mem_Mem_Write_L58.S) w25 A26 => mem_Mem_Write_l0 a4 Q p13 l14 n16 s24 w25 A26) ((0 : Int)) w12
def mem_Mem_Write_ann : Nat → Option LoopSpec := fun
  | 58 => some mem_Mem_Write_L58
  | _ => none
theorem mem_Mem_Write_eq (a0 : Option Addr) (a1_0 : Int) (a1_1 : Int) (a2 : Int) (a3 : Int) (a4 : Int) (w : World) (Q : Value → World → Prop) : fnX P mem_Mem_Write_ann Try.f25 [.pointer a0, .agg [.int .i64 a1_0, .int .i64 a1_1].toArray, .int .i64 a2, .int .i64 a3, .int .u64 a4] w Q = mem_Mem_Write a0 a1_0 a1_1 a2 a3 a4 w Q := by kernel_rfl
theorem mem_Mem_Write_cv {a0 : Option Addr} {a1_0 : Int} {a1_1 : Int} {a2 : Int} {a3 : Int} {a4 : Int} {w : World} {Q : Value → World → Prop} (h : mem_Mem_Write a0 a1_0 a1_1 a2 a3 a4 w Q) : CV P F.mem_Mem_Write [.pointer a0, .agg [.int .i64 a1_0, .int .i64 a1_1].toArray, .int .i64 a2, .int .i64 a3, .int .u64 a4] w Q := CV_of mixed Try.func25 (mem_Mem_Write_eq a0 a1_0 a1_1 a2 a3 a4 w Q ▸ h)

/- 26 crier/tables.flag -/

def tables_flag (a0 : Bool) (w : World) (Q : Value → World → Prop) : Prop :=
 cnd a0
 (Q (.int .u64 9223372036854775808) w)
 (Q (.int .u64 0) w)
def tables_flag_ann : Nat → Option LoopSpec := fun _ => none
theorem tables_flag_eq (a0 : Bool) (w : World) (Q : Value → World → Prop) : fnX P tables_flag_ann Try.f26 [.bool a0] w Q = tables_flag a0 w Q := by kernel_rfl
theorem tables_flag_cv {a0 : Bool} {w : World} {Q : Value → World → Prop} (h : tables_flag a0 w Q) : CV P F.tables_flag [.bool a0] w Q := CV_of mixed Try.func26 (tables_flag_eq a0 w Q ▸ h)

/- 27 (crier/tables.Table).slot -/
def tables_Table_slot_J14 : LoopSpec where
  S := Bool
  emb := fun s => [(28, .bool s)]
  ext := fun t => match getL t 28 with
    | some (.bool y20) => some (y20)
    | _ => none
  slots := [28]
  fits := fun _ => rfl
  ok := by
    intro t s h x hx
    (try dsimp only at h hx)
    split at h
    · cases h
      simp only [List.mem_cons, List.not_mem_nil, or_false] at hx
      rcases hx with rfl <;> assumption
    · cases h

def tables_Table_slot_J31 : LoopSpec where
  S := Int
  emb := fun s => [(10, .int .i64 s)]
  ext := fun t => match getL t 10 with
    | some (.int .i64 y33) => some (y33)
    | _ => none
  slots := [10]
  fits := fun _ => rfl
  ok := by
    intro t s h x hx
    (try dsimp only at h hx)
    split at h
    · cases h
      simp only [List.mem_cons, List.not_mem_nil, or_false] at hx
      rcases hx with rfl <;> assumption
    · cases h

def tables_Table_slot_J254 : LoopSpec where
  S := Bool
  emb := fun s => [(81, .bool s)]
  ext := fun t => match getL t 81 with
    | some (.bool y47) => some (y47)
    | _ => none
  slots := [81]
  fits := fun _ => rfl
  ok := by
    intro t s h x hx
    (try dsimp only at h hx)
    split at h
    · cases h
      simp only [List.mem_cons, List.not_mem_nil, or_false] at hx
      rcases hx with rfl <;> assumption
    · cases h

def tables_Table_slot_j0 (Q : Value → World → Prop) (b8 : Nat) (b43 : Nat) (b48 : Bool) (w49 : World) : Prop :=
 cnd b48
 (st1 (.int .i64 0) ⟨b8, 0, none⟩ w49 fun w50 =>
 st1 (.int .i64 0) ⟨b8, 1, none⟩ w50 fun w51 =>
 ldI .i64 ⟨b8, 0, none⟩ w51 fun n52 =>
 ldI .i64 ⟨b8, 1, none⟩ w51 fun n53 =>
 Q (.tuple [.agg [.int .i64 n52, .int .i64 n53].toArray, .int .i64 180].toArray) w51)
 (ldI .i64 ⟨b43, 0, none⟩ w49 fun n54 =>
 ldI .i64 ⟨b43, 1, none⟩ w49 fun n55 =>
 st1 (.int .i64 n54) ⟨b8, 0, none⟩ w49 fun w56 =>
 st1 (.int .i64 n55) ⟨b8, 1, none⟩ w56 fun w57 =>
 ldI .i64 ⟨b8, 0, none⟩ w57 fun n58 =>
 ldI .i64 ⟨b8, 1, none⟩ w57 fun n59 =>
 Q (.tuple [.agg [.int .i64 n58, .int .i64 n59].toArray, .int .i64 0].toArray) w57)

def tables_Table_slot_j1 (a1 : Option Addr) (Q : Value → World → Prop) (b8 : Nat) (b29 : Nat) (n34 : Int) (w35 : World) : Prop :=
 ldI .i64 ⟨b29, 0, none⟩ w35 fun n36 =>
 ldI .i64 ⟨b29, 1, none⟩ w35 fun n37 =>
 CV P F.mem_Part [.agg [.int .i64 n36, .int .i64 n37].toArray, .int .i64 (IntKind.i64.wrap (n34 * 8)), .int .i64 8] w35 fun v38 w39 =>
 ∃ n40 : Int, ∃ n41 : Int, ∃ n42 : Int, v38 = .tuple [.agg [.int .i64 n40, .int .i64 n41].toArray, .int .i64 n42].toArray ∧
 alc [.int .i64 0, .int .i64 0] T.t30 w39 fun b43 w44 =>
 st1 (.int .i64 n40) ⟨b43, 0, none⟩ w44 fun w45 =>
 st1 (.int .i64 n41) ⟨b43, 1, none⟩ w45 fun w46 =>
 JoinT (fun (J60 : tables_Table_slot_J254.S → World → Prop) =>
  cnd (n42 != 0)
  (J60 ((true : Bool)) w46)
  (ldI .i64 ⟨b29, 0, none⟩ w46 fun n61 =>
  ldI .i64 ⟨b29, 1, none⟩ w46 fun n62 =>
  CV P F.mem_Mem_Holds [.pointer a1, .agg [.int .i64 n61, .int .i64 n62].toArray] w46 fun v63 w64 =>
  ∃ b65 : Bool, v63 = .bool b65 ∧
  J60 (((!b65) : Bool)) w64))
  fun (s66 : tables_Table_slot_J254.S) w67 => tables_Table_slot_j0 Q b8 b43 s66 w67

def tables_Table_slot_J2006 : LoopSpec where
  S := Bool
  emb := fun s => [(56, .bool s)]
  ext := fun t => match getL t 56 with
    | some (.bool y78) => some (y78)
    | _ => none
  slots := [56]
  fits := fun _ => rfl
  ok := by
    intro t s h x hx
    (try dsimp only at h hx)
    split at h
    · cases h
      simp only [List.mem_cons, List.not_mem_nil, or_false] at hx
      rcases hx with rfl <;> assumption
    · cases h

def tables_Table_slot_j2 (a2 : Int) (Q : Value → World → Prop) (b6 : Nat) (b8 : Nat) (b29 : Nat) (J68 : tables_Table_slot_J31.S → World → Prop) (n70 : Int) (n76 : Int) (b79 : Bool) (w80 : World) : Prop :=
 cnd b79
 (st1 (.int .i64 0) ⟨b8, 0, none⟩ w80 fun w81 =>
 st1 (.int .i64 0) ⟨b8, 1, none⟩ w81 fun w82 =>
 ldI .i64 ⟨b8, 0, none⟩ w82 fun n83 =>
 ldI .i64 ⟨b8, 1, none⟩ w82 fun n84 =>
 Q (.tuple [.agg [.int .i64 n83, .int .i64 n84].toArray, .int .i64 180].toArray) w82)
 (drw w80 fun w85 =>
 ldI .i64 ⟨b6, 2, none⟩ w85 fun n86 =>
 (nz (IntKind.i64.wrap (Int.tdiv n70 8)) <|
 st1 (.int .i64 (IntKind.i64.wrap ((bitX .and .u64 n76 4294967295)))) ⟨b29, 0, none⟩ w85 fun w87 =>
 st1 (.int .i64 n86) ⟨b29, 1, none⟩ w87 fun w88 =>
 J68 (((Int.tmod a2 (IntKind.i64.wrap (Int.tdiv n70 8))) : Int)) w88))

def tables_Table_slot_j3 (a1 : Option Addr) (a2 : Int) (Q : Value → World → Prop) (b6 : Nat) (b8 : Nat) (b21 : Bool) (w22 : World) : Prop :=
 cnd b21
 (st1 (.int .i64 0) ⟨b8, 0, none⟩ w22 fun w23 =>
 st1 (.int .i64 0) ⟨b8, 1, none⟩ w23 fun w24 =>
 ldI .i64 ⟨b8, 0, none⟩ w24 fun n25 =>
 ldI .i64 ⟨b8, 1, none⟩ w24 fun n26 =>
 Q (.tuple [.agg [.int .i64 n25, .int .i64 n26].toArray, .int .i64 180].toArray) w24)
 (ldI .i64 ⟨b6, 0, none⟩ w22 fun n27 =>
 ldI .i64 ⟨b6, 1, none⟩ w22 fun n28 =>
 alc [.int .i64 0, .int .i64 0] T.t30 w22 fun b29 w30 =>
 st1 (.int .i64 n27) ⟨b29, 0, none⟩ w30 fun w31 =>
 st1 (.int .i64 n28) ⟨b29, 1, none⟩ w31 fun w32 =>
 JoinT (fun (J68 : tables_Table_slot_J31.S → World → Prop) =>
  ldI .i64 ⟨b6, 2, none⟩ w32 fun n69 =>
  cnd (n69 != 0)
  (ldI .i64 ⟨b6, 2, none⟩ w32 fun n70 =>
  (nz 8 <|
  drw w32 fun w71 =>
  ldI .i64 ⟨b6, 0, none⟩ w71 fun n72 =>
  ldI .i64 ⟨b6, 1, none⟩ w71 fun n73 =>
  (nz (IntKind.i64.wrap (Int.tdiv n70 8)) <|
  CV P F.mem_Mem_Read [.pointer a1, .agg [.int .i64 n72, .int .i64 n73].toArray, .int .i64 (IntKind.i64.wrap ((IntKind.i64.wrap (Int.tdiv a2 (IntKind.i64.wrap (Int.tdiv n70 8)))) * 8)), .int .i64 8] w71 fun v74 w75 =>
  ∃ n76 : Int, ∃ n77 : Int, v74 = .tuple [.int .u64 n76, .int .i64 n77].toArray ∧
  JoinT (fun (J89 : tables_Table_slot_J2006.S → World → Prop) =>
   cnd (n77 != 0)
   (J89 ((true : Bool)) w75)
   ((nng 63 <|
   J89 ((((Int.fdiv n76 (2 ^ min (Int.toNat 63) (IntKind.u64.bits))) == 0) : Bool)) w75)))
   fun (s90 : tables_Table_slot_J2006.S) w91 => tables_Table_slot_j2 a2 Q b6 b8 b29 J68 n70 n76 s90 w91)))
  (J68 ((a2 : Int)) w32))
  fun (s92 : tables_Table_slot_J31.S) w93 => tables_Table_slot_j1 a1 Q b8 b29 s92 w93)

def tables_Table_slot (a0_0 : Int) (a0_1 : Int) (a0_2 : Int) (a1 : Option Addr) (a2 : Int) (w : World) (Q : Value → World → Prop) : Prop :=
 alc [.int .i64 a0_0, .int .i64 a0_1, .int .i64 a0_2] T.t32 w fun b6 w7 =>
 alc [.int .i64 0, .int .i64 0] T.t30 w7 fun b8 w9 =>
 ldI .i64 ⟨b6, 0, none⟩ w9 fun n10 =>
 ldI .i64 ⟨b6, 1, none⟩ w9 fun n11 =>
 ldI .i64 ⟨b6, 2, none⟩ w9 fun n12 =>
 CV P F.tables_Table_Right [.agg [.int .i64 n10, .int .i64 n11, .int .i64 n12].toArray, .pointer a1] w9 fun v13 w14 =>
 ∃ n15 : Int, v13 = .int .i64 n15 ∧
 cnd (n15 != 0)
 (st1 (.int .i64 0) ⟨b8, 0, none⟩ w14 fun w16 =>
 st1 (.int .i64 0) ⟨b8, 1, none⟩ w16 fun w17 =>
 ldI .i64 ⟨b8, 0, none⟩ w17 fun n18 =>
 ldI .i64 ⟨b8, 1, none⟩ w17 fun n19 =>
 Q (.tuple [.agg [.int .i64 n18, .int .i64 n19].toArray, .int .i64 n15].toArray) w17)
 (JoinT (fun (J94 : tables_Table_slot_J14.S → World → Prop) =>
  cnd (decide (a2 < 0))
  (J94 ((true : Bool)) w14)
  (J94 (((decide (a2 ≥ 131072)) : Bool)) w14))
  fun (s95 : tables_Table_slot_J14.S) w96 => tables_Table_slot_j3 a1 a2 Q b6 b8 s95 w96)
def tables_Table_slot_ann : Nat → Option LoopSpec := fun
  | 14 => some tables_Table_slot_J14
  | 31 => some tables_Table_slot_J31
  | 254 => some tables_Table_slot_J254
  | 1002 => some (ordSpec [0, 1, 2, 3, 4, 5, 6, 7, 8, 9, 10, 11, 12])
  | 2006 => some tables_Table_slot_J2006
  | 2007 => some (ordSpec [0, 1, 2, 3, 4, 5, 6, 7, 8, 9, 10])
  | _ => none
theorem tables_Table_slot_eq (a0_0 : Int) (a0_1 : Int) (a0_2 : Int) (a1 : Option Addr) (a2 : Int) (w : World) (Q : Value → World → Prop) : fnX P tables_Table_slot_ann Try.f27 [.agg [.int .i64 a0_0, .int .i64 a0_1, .int .i64 a0_2].toArray, .pointer a1, .int .i64 a2] w Q = tables_Table_slot a0_0 a0_1 a0_2 a1 a2 w Q := by kernel_rfl
theorem tables_Table_slot_cv {a0_0 : Int} {a0_1 : Int} {a0_2 : Int} {a1 : Option Addr} {a2 : Int} {w : World} {Q : Value → World → Prop} (h : tables_Table_slot a0_0 a0_1 a0_2 a1 a2 w Q) : CV P F.tables_Table_slot [.agg [.int .i64 a0_0, .int .i64 a0_1, .int .i64 a0_2].toArray, .pointer a1, .int .i64 a2] w Q := CV_of mixed Try.func27 (tables_Table_slot_eq a0_0 a0_1 a0_2 a1 a2 w Q ▸ h)

/- 28 (crier/tables.Device).event -/
def tables_Device_event_J6 : LoopSpec where
  S := Bool
  emb := fun s => [(21, .bool s)]
  ext := fun t => match getL t 21 with
    | some (.bool y10) => some (y10)
    | _ => none
  slots := [21]
  fits := fun _ => rfl
  ok := by
    intro t s h x hx
    (try dsimp only at h hx)
    split at h
    · cases h
      simp only [List.mem_cons, List.not_mem_nil, or_false] at hx
      rcases hx with rfl <;> assumption
    · cases h

def tables_Device_event_j0 (a1 : Option Addr) (a2 : Int) (Q : Value → World → Prop) (b6 : Nat) (b8 : Nat) (b11 : Bool) (w12 : World) : Prop :=
 cnd b11
 (st1 (.int .i64 0) ⟨b8, 0, none⟩ w12 fun w13 =>
 st1 (.int .i64 0) ⟨b8, 1, none⟩ w13 fun w14 =>
 ldI .i64 ⟨b8, 0, none⟩ w14 fun n15 =>
 ldI .i64 ⟨b8, 1, none⟩ w14 fun n16 =>
 Q (.tuple [.agg [.int .i64 n15, .int .i64 n16].toArray, .int .i64 182].toArray) w14)
 (ldI .i64 ⟨b6, 2, none⟩ w12 fun n17 =>
 alc [.int .i64 0, .int .i64 0] T.t30 w12 fun b18 w19 =>
 st1 (.int .i64 (IntKind.i64.wrap (n17 + (IntKind.i64.wrap (a2 * 8))))) ⟨b18, 0, none⟩ w19 fun w20 =>
 st1 (.int .i64 8) ⟨b18, 1, none⟩ w20 fun w21 =>
 ldI .i64 ⟨b18, 0, none⟩ w21 fun n22 =>
 ldI .i64 ⟨b18, 1, none⟩ w21 fun n23 =>
 CV P F.mem_Mem_Holds [.pointer a1, .agg [.int .i64 n22, .int .i64 n23].toArray] w21 fun v24 w25 =>
 ∃ b26 : Bool, v24 = .bool b26 ∧
 cnd (!b26)
 (st1 (.int .i64 0) ⟨b8, 0, none⟩ w25 fun w27 =>
 st1 (.int .i64 0) ⟨b8, 1, none⟩ w27 fun w28 =>
 ldI .i64 ⟨b8, 0, none⟩ w28 fun n29 =>
 ldI .i64 ⟨b8, 1, none⟩ w28 fun n30 =>
 Q (.tuple [.agg [.int .i64 n29, .int .i64 n30].toArray, .int .i64 180].toArray) w28)
 (ldI .i64 ⟨b18, 0, none⟩ w25 fun n31 =>
 ldI .i64 ⟨b18, 1, none⟩ w25 fun n32 =>
 st1 (.int .i64 n31) ⟨b8, 0, none⟩ w25 fun w33 =>
 st1 (.int .i64 n32) ⟨b8, 1, none⟩ w33 fun w34 =>
 ldI .i64 ⟨b8, 0, none⟩ w34 fun n35 =>
 ldI .i64 ⟨b8, 1, none⟩ w34 fun n36 =>
 Q (.tuple [.agg [.int .i64 n35, .int .i64 n36].toArray, .int .i64 0].toArray) w34))

def tables_Device_event (a0_0 : Bool) (a0_1 : Int) (a0_2 : Int) (a1 : Option Addr) (a2 : Int) (w : World) (Q : Value → World → Prop) : Prop :=
 alc [.bool a0_0, .int .i64 a0_1, .int .i64 a0_2] T.t36 w fun b6 w7 =>
 alc [.int .i64 0, .int .i64 0] T.t30 w7 fun b8 w9 =>
 JoinT (fun (J37 : tables_Device_event_J6.S → World → Prop) =>
  ldB ⟨b6, 0, none⟩ w9 fun b38 =>
  cnd (!b38)
  (J37 ((true : Bool)) w9)
  (cnd (decide (a2 < 0))
  (J37 ((true : Bool)) w9)
  (ldB ⟨b6, 0, none⟩ w9 fun b39 =>
  ldI .i64 ⟨b6, 1, none⟩ w9 fun n40 =>
  ldI .i64 ⟨b6, 2, none⟩ w9 fun n41 =>
  CV P F.tables_Device_Events [.agg [.bool b39, .int .i64 n40, .int .i64 n41].toArray] w9 fun v42 w43 =>
  ∃ n44 : Int, v42 = .int .i64 n44 ∧
  J37 (((decide (a2 ≥ n44)) : Bool)) w43)))
  fun (s45 : tables_Device_event_J6.S) w46 => tables_Device_event_j0 a1 a2 Q b6 b8 s45 w46
def tables_Device_event_ann : Nat → Option LoopSpec := fun
  | 6 => some tables_Device_event_J6
  | _ => none
theorem tables_Device_event_eq (a0_0 : Bool) (a0_1 : Int) (a0_2 : Int) (a1 : Option Addr) (a2 : Int) (w : World) (Q : Value → World → Prop) : fnX P tables_Device_event_ann Try.f28 [.agg [.bool a0_0, .int .i64 a0_1, .int .i64 a0_2].toArray, .pointer a1, .int .i64 a2] w Q = tables_Device_event a0_0 a0_1 a0_2 a1 a2 w Q := by kernel_rfl
theorem tables_Device_event_cv {a0_0 : Bool} {a0_1 : Int} {a0_2 : Int} {a1 : Option Addr} {a2 : Int} {w : World} {Q : Value → World → Prop} (h : tables_Device_event a0_0 a0_1 a0_2 a1 a2 w Q) : CV P F.tables_Device_event [.agg [.bool a0_0, .int .i64 a0_1, .int .i64 a0_2].toArray, .pointer a1, .int .i64 a2] w Q := CV_of mixed Try.func28 (tables_Device_event_eq a0_0 a0_1 a0_2 a1 a2 w Q ▸ h)

/- 29 (crier/tables.Device).Routes$1 -/
def tables_Device_Routes_1_L6 : LoopSpec where
  S := Int
  emb := fun s => [(10, .int .i64 s)]
  ext := fun t => match getL t 10 with
    | some (.int .i64 y10) => some (y10)
    | _ => none
  slots := [10]
  fits := fun _ => rfl
  ok := by
    intro t s h x hx
    (try dsimp only at h hx)
    split at h
    · cases h
      simp only [List.mem_cons, List.not_mem_nil, or_false] at hx
      rcases hx with rfl <;> assumption
    · cases h

def tables_Device_Routes_1_J1639 : LoopSpec where
  S := Bool
  emb := fun s => [(30, .bool s)]
  ext := fun t => match getL t 30 with
    | some (.bool y29) => some (y29)
    | _ => none
  slots := [30]
  fits := fun _ => rfl
  ok := by
    intro t s h x hx
    (try dsimp only at h hx)
    split at h
    · cases h
      simp only [List.mem_cons, List.not_mem_nil, or_false] at hx
      rcases hx with rfl <;> assumption
    · cases h

def tables_Device_Routes_1_j0 (Q : Value → World → Prop) (n11 : Int) (A13 : tables_Device_Routes_1_L6.S → World → Prop) (b30 : Bool) (w31 : World) : Prop :=
 cnd b30
 (Q (.tuple [].toArray) w31)
 (A13 (((IntKind.i64.wrap (n11 + 1)) : Int)) w31)

def tables_Device_Routes_1_l1 (a0 : Value) (f0 : Addr) (f1 : Addr) (Q : Value → World → Prop) (n9 : Int) (n11 : Int) (w12 : World) (A13 : tables_Device_Routes_1_L6.S → World → Prop) : Prop :=
 cnd (decide (n11 < (if 16384 < n9 then 16384 else n9)))
 (ldB f0 w12 fun b14 =>
 ldI .i64 (f0.add 1) w12 fun n15 =>
 ldI .i64 (f0.add 2) w12 fun n16 =>
 ldP f1 w12 fun p17 =>
 CV P F.tables_Device_Route [.agg [.bool b14, .int .i64 n15, .int .i64 n16].toArray, .pointer p17, .int .i64 n11] w12 fun v18 w19 =>
 ∃ n20 : Int, ∃ n21 : Int, ∃ b22 : Bool, ∃ n23 : Int, v18 = .tuple [.agg [.int .i64 n20, .int .i64 n21, .bool b22].toArray, .int .i64 n23].toArray ∧
 alc [.int .i64 0, .int .i64 0, .bool false] T.t45 w19 fun b24 w25 =>
 st1 (.int .i64 n20) ⟨b24, 0, none⟩ w25 fun w26 =>
 st1 (.int .i64 n21) ⟨b24, 1, none⟩ w26 fun w27 =>
 st1 (.bool b22) ⟨b24, 2, none⟩ w27 fun w28 =>
 cnd (n23 != 0)
 (Q (.tuple [].toArray) w28)
 (JoinT (fun (J32 : tables_Device_Routes_1_J1639.S → World → Prop) =>
  ldB ⟨b24, 2, none⟩ w28 fun b33 =>
  cnd b33
  (ldI .i64 ⟨b24, 0, none⟩ w28 fun n34 =>
  ldI .i64 ⟨b24, 1, none⟩ w28 fun n35 =>
  ldB ⟨b24, 2, none⟩ w28 fun b36 =>
  callVal P a0 [.int .i64 n11, .agg [.int .i64 n34, .int .i64 n35, .bool b36].toArray] w28 fun v37 w38 =>
  ∃ b39 : Bool, v37 = .bool b39 ∧
  J32 (((!b39) : Bool)) w38)
  (J32 ((false : Bool)) w28))
  fun (s40 : tables_Device_Routes_1_J1639.S) w41 => tables_Device_Routes_1_j0 Q n11 A13 s40 w41))
 (Q (.tuple [].toArray) w12)

def tables_Device_Routes_1 (a0 : Value) (f0 : Addr) (f1 : Addr) (w : World) (Q : Value → World → Prop) : Prop :=
 ldB f0 w fun b4 =>
 ldI .i64 (f0.add 1) w fun n5 =>
 ldI .i64 (f0.add 2) w fun n6 =>
 CV P F.tables_Device_Events [.agg [.bool b4, .int .i64 n5, .int .i64 n6].toArray] w fun v7 w8 =>
 ∃ n9 : Int, v7 = .int .i64 n9 ∧
 LoopT (fun (s42 : tables_Device_Routes_1_L6.S) w43 A44 => tables_Device_Routes_1_l1 a0 f0 f1 Q n9 s42 w43 A44) ((0 : Int)) w8
def tables_Device_Routes_1_ann : Nat → Option LoopSpec := fun
  | 6 => some tables_Device_Routes_1_L6
  | 1639 => some tables_Device_Routes_1_J1639
  | _ => none
theorem tables_Device_Routes_1_eq (a0 : Value) (f0 : Addr) (f1 : Addr) (w : World) (Q : Value → World → Prop) : fnX P tables_Device_Routes_1_ann Try.f29 [a0, .pointer (some f0), .pointer (some f1)] w Q = tables_Device_Routes_1 a0 f0 f1 w Q := by kernel_rfl
theorem tables_Device_Routes_1_cv {a0 : Value} {f0 : Addr} {f1 : Addr} {w : World} {Q : Value → World → Prop} (h : tables_Device_Routes_1 a0 f0 f1 w Q) : CV P F.tables_Device_Routes_1 [a0, .pointer (some f0), .pointer (some f1)] w Q := CV_of mixed Try.func29 (tables_Device_Routes_1_eq a0 f0 f1 w Q ▸ h)

/- 30 crier/crierlaw18.does -/

def crierlaw18_does (a0_0 : Int) (a0_1 : Int) (a0_2 : Int) (a1 : Option Addr) (a2 : Option Addr) (a3_0 : Int) (a3_1 : Int) (a3_2 : Int) (a3_3 : Int) (a3_4 : Bool) (a3_5 : Int) (a3_6 : Int) (a3_7 : Int) (a3_8 : Int) (a3_9 : Bool) (a3_10 : Int) (a3_11 : Int) (a3_12 : Bool) (a3_13 : Int) (w : World) (Q : Value → World → Prop) : Prop :=
 alc [.int .i64 a0_0, .int .i64 a0_1, .int .i64 a0_2] T.t32 w fun b20 w21 =>
 alc [.int .i64 a3_0, .int .i64 a3_1, .int .i64 a3_2, .int .i64 a3_3, .bool a3_4, .int .i64 a3_5, .int .i64 a3_6, .int .i64 a3_7, .int .i64 a3_8, .bool a3_9, .int .i64 a3_10, .int .i64 a3_11, .bool a3_12, .int .u64 a3_13] T.t62 w21 fun b22 w23 =>
 ldI .i64 ⟨b22, 0, none⟩ w23 fun n24 =>
 cnd (n24 == 1)
 (drw w23 fun w25 =>
 ldI .i64 ⟨b20, 0, none⟩ w25 fun n26 =>
 ldI .i64 ⟨b20, 1, none⟩ w25 fun n27 =>
 ldI .i64 ⟨b20, 2, none⟩ w25 fun n28 =>
 ldI .i64 ⟨b22, 1, none⟩ w25 fun n29 =>
 ldI .i64 ⟨b22, 2, none⟩ w25 fun n30 =>
 ldI .i64 ⟨b20, 0, none⟩ w25 fun n31 =>
 ldI .i64 ⟨b20, 1, none⟩ w25 fun n32 =>
 ldI .i64 ⟨b20, 2, none⟩ w25 fun n33 =>
 ldI .i64 ⟨b22, 1, none⟩ w25 fun n34 =>
 ldI .i64 ⟨b22, 2, none⟩ w25 fun n35 =>
 CV P F.tables_Table_Lead [.agg [.int .i64 n26, .int .i64 n27, .int .i64 n28].toArray, .pointer a1, .int .i64 n29, .int .i64 n30] w25 fun v36 w37 =>
 ∃ n38 : Int, v36 = .int .i64 n38 ∧
 (ldI .i64 ⟨b22, 2, none⟩ w37 fun n39 =>
 ((.int .i64 n39 : Value) = .int .i64 n35)) ∧
 (ldI .i64 ⟨b22, 1, none⟩ w37 fun n40 =>
 ((.int .i64 n40 : Value) = .int .i64 n34)) ∧
 (ldI .i64 ⟨b20, 0, none⟩ w37 fun n41 =>
 ldI .i64 ⟨b20, 1, none⟩ w37 fun n42 =>
 ldI .i64 ⟨b20, 2, none⟩ w37 fun n43 =>
 ((.agg [.int .i64 n41, .int .i64 n42, .int .i64 n43].toArray : Value) = .agg [.int .i64 n31, .int .i64 n32, .int .i64 n33].toArray)) ∧
 CV P F.crierlaw18_table [.agg [.int .i64 n31, .int .i64 n32, .int .i64 n33].toArray] w37 fun v44 w45 =>
 ∃ n46 : Int, ∃ n47 : Int, ∃ n48 : Int, v44 = .agg [.int .i64 n46, .int .i64 n47, .int .i64 n48].toArray ∧
 (ldI .i64 ⟨b22, 2, none⟩ w45 fun n49 =>
 ((.int .i64 n49 : Value) = .int .i64 n35)) ∧
 (ldI .i64 ⟨b22, 1, none⟩ w45 fun n50 =>
 ((.int .i64 n50 : Value) = .int .i64 n34)) ∧
 CV P F.crierref18_Table_Lead [.agg [.int .i64 n46, .int .i64 n47, .int .i64 n48].toArray, .pointer a2, .int .i64 n34, .int .i64 n35] w45 fun v51 w52 =>
 ∃ n53 : Int, v51 = .int .i64 n53 ∧
 Q (.bool (n38 == n53)) w52)
 (cnd (n24 == 2)
 (drw w23 fun w54 =>
 ldI .i64 ⟨b20, 0, none⟩ w54 fun n55 =>
 ldI .i64 ⟨b20, 1, none⟩ w54 fun n56 =>
 ldI .i64 ⟨b20, 2, none⟩ w54 fun n57 =>
 ldI .i64 ⟨b22, 1, none⟩ w54 fun n58 =>
 ldB ⟨b22, 4, none⟩ w54 fun b59 =>
 ldI .i64 ⟨b22, 5, none⟩ w54 fun n60 =>
 ldI .i64 ⟨b22, 6, none⟩ w54 fun n61 =>
 ldI .i64 ⟨b20, 0, none⟩ w54 fun n62 =>
 ldI .i64 ⟨b20, 1, none⟩ w54 fun n63 =>
 ldI .i64 ⟨b20, 2, none⟩ w54 fun n64 =>
 ldI .i64 ⟨b22, 1, none⟩ w54 fun n65 =>
 ldB ⟨b22, 4, none⟩ w54 fun b66 =>
 ldI .i64 ⟨b22, 5, none⟩ w54 fun n67 =>
 ldI .i64 ⟨b22, 6, none⟩ w54 fun n68 =>
 CV P F.tables_Table_Put [.agg [.int .i64 n55, .int .i64 n56, .int .i64 n57].toArray, .pointer a1, .int .i64 n58, .agg [.bool b59, .int .i64 n60, .int .i64 n61].toArray] w54 fun v69 w70 =>
 ∃ n71 : Int, v69 = .int .i64 n71 ∧
 (ldB ⟨b22, 4, none⟩ w70 fun b72 =>
 ldI .i64 ⟨b22, 5, none⟩ w70 fun n73 =>
 ldI .i64 ⟨b22, 6, none⟩ w70 fun n74 =>
 ((.agg [.bool b72, .int .i64 n73, .int .i64 n74].toArray : Value) = .agg [.bool b66, .int .i64 n67, .int .i64 n68].toArray)) ∧
 (ldI .i64 ⟨b22, 1, none⟩ w70 fun n75 =>
 ((.int .i64 n75 : Value) = .int .i64 n65)) ∧
 (ldI .i64 ⟨b20, 0, none⟩ w70 fun n76 =>
 ldI .i64 ⟨b20, 1, none⟩ w70 fun n77 =>
 ldI .i64 ⟨b20, 2, none⟩ w70 fun n78 =>
 ((.agg [.int .i64 n76, .int .i64 n77, .int .i64 n78].toArray : Value) = .agg [.int .i64 n62, .int .i64 n63, .int .i64 n64].toArray)) ∧
 CV P F.crierlaw18_table [.agg [.int .i64 n62, .int .i64 n63, .int .i64 n64].toArray] w70 fun v79 w80 =>
 ∃ n81 : Int, ∃ n82 : Int, ∃ n83 : Int, v79 = .agg [.int .i64 n81, .int .i64 n82, .int .i64 n83].toArray ∧
 (ldB ⟨b22, 4, none⟩ w80 fun b84 =>
 ldI .i64 ⟨b22, 5, none⟩ w80 fun n85 =>
 ldI .i64 ⟨b22, 6, none⟩ w80 fun n86 =>
 ((.agg [.bool b84, .int .i64 n85, .int .i64 n86].toArray : Value) = .agg [.bool b66, .int .i64 n67, .int .i64 n68].toArray)) ∧
 (ldI .i64 ⟨b22, 1, none⟩ w80 fun n87 =>
 ((.int .i64 n87 : Value) = .int .i64 n65)) ∧
 CV P F.crierlaw18_told [.agg [.bool b66, .int .i64 n67, .int .i64 n68].toArray] w80 fun v88 w89 =>
 ∃ b90 : Bool, ∃ n91 : Int, ∃ n92 : Int, v88 = .agg [.bool b90, .int .i64 n91, .int .i64 n92].toArray ∧
 (ldI .i64 ⟨b22, 1, none⟩ w89 fun n93 =>
 ((.int .i64 n93 : Value) = .int .i64 n65)) ∧
 CV P F.crierref18_Table_Put [.agg [.int .i64 n81, .int .i64 n82, .int .i64 n83].toArray, .pointer a2, .int .i64 n65, .agg [.bool b90, .int .i64 n91, .int .i64 n92].toArray] w89 fun v94 w95 =>
 ∃ n96 : Int, v94 = .int .i64 n96 ∧
 Q (.bool (n71 == n96)) w95)
 (cnd (n24 == 3)
 (drw w23 fun w97 =>
 ldB ⟨b22, 4, none⟩ w97 fun b98 =>
 ldI .i64 ⟨b22, 5, none⟩ w97 fun n99 =>
 ldI .i64 ⟨b22, 6, none⟩ w97 fun n100 =>
 ldI .i64 ⟨b22, 3, none⟩ w97 fun n101 =>
 ldI .i64 ⟨b22, 7, none⟩ w97 fun n102 =>
 ldI .i64 ⟨b22, 8, none⟩ w97 fun n103 =>
 ldB ⟨b22, 9, none⟩ w97 fun b104 =>
 ldB ⟨b22, 4, none⟩ w97 fun b105 =>
 ldI .i64 ⟨b22, 5, none⟩ w97 fun n106 =>
 ldI .i64 ⟨b22, 6, none⟩ w97 fun n107 =>
 ldI .i64 ⟨b22, 3, none⟩ w97 fun n108 =>
 ldI .i64 ⟨b22, 7, none⟩ w97 fun n109 =>
 ldI .i64 ⟨b22, 8, none⟩ w97 fun n110 =>
 ldB ⟨b22, 9, none⟩ w97 fun b111 =>
 CV P F.tables_Device_SetRoute [.agg [.bool b98, .int .i64 n99, .int .i64 n100].toArray, .pointer a1, .int .i64 n101, .agg [.int .i64 n102, .int .i64 n103, .bool b104].toArray] w97 fun v112 w113 =>
 ∃ n114 : Int, v112 = .int .i64 n114 ∧
 (ldI .i64 ⟨b22, 7, none⟩ w113 fun n115 =>
 ldI .i64 ⟨b22, 8, none⟩ w113 fun n116 =>
 ldB ⟨b22, 9, none⟩ w113 fun b117 =>
 ((.agg [.int .i64 n115, .int .i64 n116, .bool b117].toArray : Value) = .agg [.int .i64 n109, .int .i64 n110, .bool b111].toArray)) ∧
 (ldI .i64 ⟨b22, 3, none⟩ w113 fun n118 =>
 ((.int .i64 n118 : Value) = .int .i64 n108)) ∧
 (ldB ⟨b22, 4, none⟩ w113 fun b119 =>
 ldI .i64 ⟨b22, 5, none⟩ w113 fun n120 =>
 ldI .i64 ⟨b22, 6, none⟩ w113 fun n121 =>
 ((.agg [.bool b119, .int .i64 n120, .int .i64 n121].toArray : Value) = .agg [.bool b105, .int .i64 n106, .int .i64 n107].toArray)) ∧
 CV P F.crierlaw18_told [.agg [.bool b105, .int .i64 n106, .int .i64 n107].toArray] w113 fun v122 w123 =>
 ∃ b124 : Bool, ∃ n125 : Int, ∃ n126 : Int, v122 = .agg [.bool b124, .int .i64 n125, .int .i64 n126].toArray ∧
 (ldI .i64 ⟨b22, 7, none⟩ w123 fun n127 =>
 ldI .i64 ⟨b22, 8, none⟩ w123 fun n128 =>
 ldB ⟨b22, 9, none⟩ w123 fun b129 =>
 ((.agg [.int .i64 n127, .int .i64 n128, .bool b129].toArray : Value) = .agg [.int .i64 n109, .int .i64 n110, .bool b111].toArray)) ∧
 (ldI .i64 ⟨b22, 3, none⟩ w123 fun n130 =>
 ((.int .i64 n130 : Value) = .int .i64 n108)) ∧
 CV P F.crierref18_Device_SetRoute [.agg [.bool b124, .int .i64 n125, .int .i64 n126].toArray, .pointer a2, .int .i64 n108, .agg [.int .i64 n109, .int .i64 n110, .bool b111].toArray] w123 fun v131 w132 =>
 ∃ n133 : Int, v131 = .int .i64 n133 ∧
 Q (.bool (n114 == n133)) w132)
 (cnd (n24 == 4)
 (drw w23 fun w134 =>
 ldI .i64 ⟨b22, 10, none⟩ w134 fun n135 =>
 ldI .i64 ⟨b22, 11, none⟩ w134 fun n136 =>
 ldI .i64 ⟨b22, 1, none⟩ w134 fun n137 =>
 ldI .i64 ⟨b22, 2, none⟩ w134 fun n138 =>
 ldB ⟨b22, 12, none⟩ w134 fun b139 =>
 ldI .i64 ⟨b22, 10, none⟩ w134 fun n140 =>
 ldI .i64 ⟨b22, 11, none⟩ w134 fun n141 =>
 ldI .i64 ⟨b22, 1, none⟩ w134 fun n142 =>
 ldI .i64 ⟨b22, 2, none⟩ w134 fun n143 =>
 ldB ⟨b22, 12, none⟩ w134 fun b144 =>
 CV P F.tables_SetTarget [.pointer a1, .agg [.int .i64 n135, .int .i64 n136].toArray, .int .i64 n137, .int .i64 n138, .bool b139] w134 fun v145 w146 =>
 ∃ n147 : Int, v145 = .int .i64 n147 ∧
 (ldB ⟨b22, 12, none⟩ w146 fun b148 =>
 ((.bool b148 : Value) = .bool b144)) ∧
 (ldI .i64 ⟨b22, 2, none⟩ w146 fun n149 =>
 ((.int .i64 n149 : Value) = .int .i64 n143)) ∧
 (ldI .i64 ⟨b22, 1, none⟩ w146 fun n150 =>
 ((.int .i64 n150 : Value) = .int .i64 n142)) ∧
 (ldI .i64 ⟨b22, 10, none⟩ w146 fun n151 =>
 ldI .i64 ⟨b22, 11, none⟩ w146 fun n152 =>
 ((.agg [.int .i64 n151, .int .i64 n152].toArray : Value) = .agg [.int .i64 n140, .int .i64 n141].toArray)) ∧
 CV P F.crierref18_SetTarget [.pointer a2, .agg [.int .i64 n140, .int .i64 n141].toArray, .int .i64 n142, .int .i64 n143, .bool b144] w146 fun v153 w154 =>
 ∃ n155 : Int, v153 = .int .i64 n155 ∧
 Q (.bool (n147 == n155)) w154)
 (cnd (n24 == 5)
 (CV P F.mem_Mem_Size [.pointer a1] w23 fun v156 w157 =>
 ∃ n158 : Int, v156 = .int .i64 n158 ∧
 alc [.int .i64 0, .int .i64 0] T.t30 w157 fun b159 w160 =>
 st1 (.int .i64 0) ⟨b159, 0, none⟩ w160 fun w161 =>
 st1 (.int .i64 n158) ⟨b159, 1, none⟩ w161 fun w162 =>
 drw w162 fun w163 =>
 ldI .i64 ⟨b159, 0, none⟩ w163 fun n164 =>
 ldI .i64 ⟨b159, 1, none⟩ w163 fun n165 =>
 ldI .i64 ⟨b22, 2, none⟩ w163 fun n166 =>
 ldI .u64 ⟨b22, 13, none⟩ w163 fun n167 =>
 ldI .i64 ⟨b159, 0, none⟩ w163 fun n168 =>
 ldI .i64 ⟨b159, 1, none⟩ w163 fun n169 =>
 ldI .i64 ⟨b22, 2, none⟩ w163 fun n170 =>
 ldI .u64 ⟨b22, 13, none⟩ w163 fun n171 =>
 CV P F.mem_Mem_Write [.pointer a1, .agg [.int .i64 n164, .int .i64 n165].toArray, .int .i64 n166, .int .i64 8, .int .u64 n167] w163 fun v172 w173 =>
 ∃ n174 : Int, v172 = .int .i64 n174 ∧
 (ldI .u64 ⟨b22, 13, none⟩ w173 fun n175 =>
 ((.int .u64 n175 : Value) = .int .u64 n171)) ∧
 (ldI .i64 ⟨b22, 2, none⟩ w173 fun n176 =>
 ((.int .i64 n176 : Value) = .int .i64 n170)) ∧
 (ldI .i64 ⟨b159, 0, none⟩ w173 fun n177 =>
 ldI .i64 ⟨b159, 1, none⟩ w173 fun n178 =>
 ((.agg [.int .i64 n177, .int .i64 n178].toArray : Value) = .agg [.int .i64 n168, .int .i64 n169].toArray)) ∧
 CV P F.crierref04_Mem_Write [.pointer a2, .agg [.int .i64 n168, .int .i64 n169].toArray, .int .i64 n170, .int .i64 8, .int .u64 n171] w173 fun v179 w180 =>
 ∃ n181 : Int, v179 = .int .i64 n181 ∧
 Q (.bool (n174 == n181)) w180)
 (Q (.bool true) w23)))))
def crierlaw18_does_ann : Nat → Option LoopSpec := fun
  | 212 => some (ordSpec [0, 1, 2, 3, 4, 5, 7, 9, 10, 11, 12, 13, 6, 8, 14, 15, 16])
  | 860 => some (ordSpec [0, 1, 2, 3, 4, 5, 7, 9, 10, 11, 12, 13, 6, 8, 14, 15, 16, 17])
  | 3452 => some (ordSpec [0, 1, 2, 3, 4, 5, 6, 8, 9, 11, 12, 13, 14, 15, 7, 10, 16, 17, 18])
  | 13820 => some (ordSpec [0, 1, 2, 3, 4, 5, 6, 7, 8, 10, 11, 12, 13, 14, 15, 16, 17, 18, 9, 19, 20, 21])
  | 110586 => some (ordSpec [0, 1, 2, 3, 4, 5, 7, 8, 9, 10, 11, 12, 6, 13, 14, 15])
  | _ => none
theorem crierlaw18_does_eq (a0_0 : Int) (a0_1 : Int) (a0_2 : Int) (a1 : Option Addr) (a2 : Option Addr) (a3_0 : Int) (a3_1 : Int) (a3_2 : Int) (a3_3 : Int) (a3_4 : Bool) (a3_5 : Int) (a3_6 : Int) (a3_7 : Int) (a3_8 : Int) (a3_9 : Bool) (a3_10 : Int) (a3_11 : Int) (a3_12 : Bool) (a3_13 : Int) (w : World) (Q : Value → World → Prop) : fnX P crierlaw18_does_ann Try.f30 [.agg [.int .i64 a0_0, .int .i64 a0_1, .int .i64 a0_2].toArray, .pointer a1, .pointer a2, .agg [.int .i64 a3_0, .int .i64 a3_1, .int .i64 a3_2, .int .i64 a3_3, .bool a3_4, .int .i64 a3_5, .int .i64 a3_6, .int .i64 a3_7, .int .i64 a3_8, .bool a3_9, .int .i64 a3_10, .int .i64 a3_11, .bool a3_12, .int .u64 a3_13].toArray] w Q = crierlaw18_does a0_0 a0_1 a0_2 a1 a2 a3_0 a3_1 a3_2 a3_3 a3_4 a3_5 a3_6 a3_7 a3_8 a3_9 a3_10 a3_11 a3_12 a3_13 w Q := by kernel_rfl
theorem crierlaw18_does_cv {a0_0 : Int} {a0_1 : Int} {a0_2 : Int} {a1 : Option Addr} {a2 : Option Addr} {a3_0 : Int} {a3_1 : Int} {a3_2 : Int} {a3_3 : Int} {a3_4 : Bool} {a3_5 : Int} {a3_6 : Int} {a3_7 : Int} {a3_8 : Int} {a3_9 : Bool} {a3_10 : Int} {a3_11 : Int} {a3_12 : Bool} {a3_13 : Int} {w : World} {Q : Value → World → Prop} (h : crierlaw18_does a0_0 a0_1 a0_2 a1 a2 a3_0 a3_1 a3_2 a3_3 a3_4 a3_5 a3_6 a3_7 a3_8 a3_9 a3_10 a3_11 a3_12 a3_13 w Q) : CV P F.crierlaw18_does [.agg [.int .i64 a0_0, .int .i64 a0_1, .int .i64 a0_2].toArray, .pointer a1, .pointer a2, .agg [.int .i64 a3_0, .int .i64 a3_1, .int .i64 a3_2, .int .i64 a3_3, .bool a3_4, .int .i64 a3_5, .int .i64 a3_6, .int .i64 a3_7, .int .i64 a3_8, .bool a3_9, .int .i64 a3_10, .int .i64 a3_11, .bool a3_12, .int .u64 a3_13].toArray] w Q := CV_of mixed Try.func30 (crierlaw18_does_eq a0_0 a0_1 a0_2 a1 a2 a3_0 a3_1 a3_2 a3_3 a3_4 a3_5 a3_6 a3_7 a3_8 a3_9 a3_10 a3_11 a3_12 a3_13 w Q ▸ h)

/- 31 slices.Clone[[]byte,byte] -/

def slices_Clone__byte_byte (a0 : Option Addr) (a0_n : Nat) (a0_c : Nat) (w : World) (Q : Value → World → Prop) : Prop :=
 cnd (Option.isNone a0)
 (Q (.slice none 0 0) w)
 (alc [] T.t5 w fun b4 w5 =>
 runS P (Builtin.append_ #[T.t22, T.t22] T.t22 [.slice (some ⟨b4, 0, none⟩) 0 0, .slice a0 a0_n a0_c].toArray) w5 fun p6 l7 c8 w9 =>
 Q (.slice p6 l7 c8) w9)
def slices_Clone__byte_byte_ann : Nat → Option LoopSpec := fun _ => none
theorem slices_Clone__byte_byte_eq (a0 : Option Addr) (a0_n : Nat) (a0_c : Nat) (w : World) (Q : Value → World → Prop) : fnX P slices_Clone__byte_byte_ann Try.f31 [.slice a0 a0_n a0_c] w Q = slices_Clone__byte_byte a0 a0_n a0_c w Q := by kernel_rfl
theorem slices_Clone__byte_byte_cv {a0 : Option Addr} {a0_n : Nat} {a0_c : Nat} {w : World} {Q : Value → World → Prop} (h : slices_Clone__byte_byte a0 a0_n a0_c w Q) : CV P F.slices_Clone__byte_byte [.slice a0 a0_n a0_c] w Q := CV_of mixed Try.func31 (slices_Clone__byte_byte_eq a0 a0_n a0_c w Q ▸ h)

/- 32 (*crier/mem.Mem).part -/

def mem_Mem_part (a0 : Option Addr) (a1_0 : Int) (a1_1 : Int) (a2 : Int) (a3 : Int) (w : World) (Q : Value → World → Prop) : Prop :=
 alc [.int .i64 a1_0, .int .i64 a1_1] T.t30 w fun b6 w7 =>
 ldI .i64 ⟨b6, 0, none⟩ w7 fun n8 =>
 ldI .i64 ⟨b6, 1, none⟩ w7 fun n9 =>
 CV P F.mem_Mem_Holds [.pointer a0, .agg [.int .i64 n8, .int .i64 n9].toArray] w7 fun v10 w11 =>
 ∃ b12 : Bool, v10 = .bool b12 ∧
 cnd (!b12)
 (Q (.tuple [.slice none 0 0, .int .i64 42].toArray) w11)
 (ldI .i64 ⟨b6, 1, none⟩ w11 fun n13 =>
 CV P F.mem_May [.int .i64 n13, .int .i64 a2, .int .i64 a3] w11 fun v14 w15 =>
 ∃ n16 : Int, v14 = .int .i64 n16 ∧
 cnd (n16 != 0)
 (Q (.tuple [.slice none 0 0, .int .i64 n16].toArray) w15)
 (drw w15 fun w17 =>
 nn a0 fun a18 =>
 ldL a18 w17 fun p19 l20 c21 =>
 ldI .i64 ⟨b6, 0, none⟩ w17 fun n22 =>
 ldI .i64 ⟨b6, 0, none⟩ w17 fun n23 =>
 slL p19 l20 c21 1 (some (IntKind.i64.wrap (n22 + a2))) (some (IntKind.i64.wrap ((IntKind.i64.wrap (n23 + a2)) + a3))) none fun p24 l25 c26 =>
 Q (.tuple [.slice p24 l25 c26, .int .i64 0].toArray) w17))
def mem_Mem_part_ann : Nat → Option LoopSpec := fun
  | 30 => some (ordSpec [0, 1, 2, 3, 4, 5, 6, 7, 8, 9, 10, 11, 12, 13, 14, 15, 16])
  | _ => none
theorem mem_Mem_part_eq (a0 : Option Addr) (a1_0 : Int) (a1_1 : Int) (a2 : Int) (a3 : Int) (w : World) (Q : Value → World → Prop) : fnX P mem_Mem_part_ann Try.f32 [.pointer a0, .agg [.int .i64 a1_0, .int .i64 a1_1].toArray, .int .i64 a2, .int .i64 a3] w Q = mem_Mem_part a0 a1_0 a1_1 a2 a3 w Q := by kernel_rfl
theorem mem_Mem_part_cv {a0 : Option Addr} {a1_0 : Int} {a1_1 : Int} {a2 : Int} {a3 : Int} {w : World} {Q : Value → World → Prop} (h : mem_Mem_part a0 a1_0 a1_1 a2 a3 w Q) : CV P F.mem_Mem_part [.pointer a0, .agg [.int .i64 a1_0, .int .i64 a1_1].toArray, .int .i64 a2, .int .i64 a3] w Q := CV_of mixed Try.func32 (mem_Mem_part_eq a0 a1_0 a1_1 a2 a3 w Q ▸ h)

/- 33 crier/mem.Part -/
def mem_Part_J6 : LoopSpec where
  S := Bool
  emb := fun s => [(32, .bool s)]
  ext := fun t => match getL t 32 with
    | some (.bool y9) => some (y9)
    | _ => none
  slots := [32]
  fits := fun _ => rfl
  ok := by
    intro t s h x hx
    (try dsimp only at h hx)
    split at h
    · cases h
      simp only [List.mem_cons, List.not_mem_nil, or_false] at hx
      rcases hx with rfl <;> assumption
    · cases h

def mem_Part_j0 (a1 : Int) (a2 : Int) (Q : Value → World → Prop) (b5 : Nat) (b7 : Nat) (b10 : Bool) (w11 : World) : Prop :=
 cnd b10
 (st1 (.int .i64 0) ⟨b7, 0, none⟩ w11 fun w12 =>
 st1 (.int .i64 0) ⟨b7, 1, none⟩ w12 fun w13 =>
 ldI .i64 ⟨b7, 0, none⟩ w13 fun n14 =>
 ldI .i64 ⟨b7, 1, none⟩ w13 fun n15 =>
 Q (.tuple [.agg [.int .i64 n14, .int .i64 n15].toArray, .int .i64 42].toArray) w13)
 (ldI .i64 ⟨b5, 0, none⟩ w11 fun n16 =>
 st1 (.int .i64 (IntKind.i64.wrap (n16 + a1))) ⟨b7, 0, none⟩ w11 fun w17 =>
 st1 (.int .i64 a2) ⟨b7, 1, none⟩ w17 fun w18 =>
 ldI .i64 ⟨b7, 0, none⟩ w18 fun n19 =>
 ldI .i64 ⟨b7, 1, none⟩ w18 fun n20 =>
 Q (.tuple [.agg [.int .i64 n19, .int .i64 n20].toArray, .int .i64 0].toArray) w18)

def mem_Part (a0_0 : Int) (a0_1 : Int) (a1 : Int) (a2 : Int) (w : World) (Q : Value → World → Prop) : Prop :=
 alc [.int .i64 a0_0, .int .i64 a0_1] T.t30 w fun b5 w6 =>
 alc [.int .i64 0, .int .i64 0] T.t30 w6 fun b7 w8 =>
 JoinT (fun (J21 : mem_Part_J6.S → World → Prop) =>
  ldI .i64 ⟨b5, 0, none⟩ w8 fun n22 =>
  ldI .i64 ⟨b5, 1, none⟩ w8 fun n23 =>
  CV P F.mem_fair [.agg [.int .i64 n22, .int .i64 n23].toArray] w8 fun v24 w25 =>
  ∃ b26 : Bool, v24 = .bool b26 ∧
  cnd (!b26)
  (J21 ((true : Bool)) w25)
  (cnd (decide (a1 < 0))
  (J21 ((true : Bool)) w25)
  (cnd (decide (a2 < 0))
  (J21 ((true : Bool)) w25)
  (ldI .i64 ⟨b5, 1, none⟩ w25 fun n27 =>
  cnd (decide (a2 > n27))
  (J21 ((true : Bool)) w25)
  (ldI .i64 ⟨b5, 1, none⟩ w25 fun n28 =>
  J21 (((decide (a1 > (IntKind.i64.wrap (n28 - a2)))) : Bool)) w25)))))
  fun (s29 : mem_Part_J6.S) w30 => mem_Part_j0 a1 a2 Q b5 b7 s29 w30
def mem_Part_ann : Nat → Option LoopSpec := fun
  | 6 => some mem_Part_J6
  | _ => none
theorem mem_Part_eq (a0_0 : Int) (a0_1 : Int) (a1 : Int) (a2 : Int) (w : World) (Q : Value → World → Prop) : fnX P mem_Part_ann Try.f33 [.agg [.int .i64 a0_0, .int .i64 a0_1].toArray, .int .i64 a1, .int .i64 a2] w Q = mem_Part a0_0 a0_1 a1 a2 w Q := by kernel_rfl
theorem mem_Part_cv {a0_0 : Int} {a0_1 : Int} {a1 : Int} {a2 : Int} {w : World} {Q : Value → World → Prop} (h : mem_Part a0_0 a0_1 a1 a2 w Q) : CV P F.mem_Part [.agg [.int .i64 a0_0, .int .i64 a0_1].toArray, .int .i64 a1, .int .i64 a2] w Q := CV_of mixed Try.func33 (mem_Part_eq a0_0 a0_1 a1 a2 w Q ▸ h)

/- 34 crier/crierlaw18.table -/

def crierlaw18_table (a0_0 : Int) (a0_1 : Int) (a0_2 : Int) (w : World) (Q : Value → World → Prop) : Prop :=
 alc [.int .i64 a0_0, .int .i64 a0_1, .int .i64 a0_2] T.t32 w fun b4 w5 =>
 alc [.int .i64 0, .int .i64 0, .int .i64 0] T.t87 w5 fun b6 w7 =>
 ldI .i64 ⟨b4, 0, none⟩ w7 fun n8 =>
 ldI .i64 ⟨b4, 1, none⟩ w7 fun n9 =>
 ldI .i64 ⟨b4, 2, none⟩ w7 fun n10 =>
 st1 (.int .i64 n8) ⟨b6, 0, none⟩ w7 fun w11 =>
 st1 (.int .i64 n9) ⟨b6, 1, none⟩ w11 fun w12 =>
 st1 (.int .i64 n10) ⟨b6, 2, none⟩ w12 fun w13 =>
 ldI .i64 ⟨b6, 0, none⟩ w13 fun n14 =>
 ldI .i64 ⟨b6, 1, none⟩ w13 fun n15 =>
 ldI .i64 ⟨b6, 2, none⟩ w13 fun n16 =>
 Q (.agg [.int .i64 n14, .int .i64 n15, .int .i64 n16].toArray) w13
def crierlaw18_table_ann : Nat → Option LoopSpec := fun _ => none
theorem crierlaw18_table_eq (a0_0 : Int) (a0_1 : Int) (a0_2 : Int) (w : World) (Q : Value → World → Prop) : fnX P crierlaw18_table_ann Try.f34 [.agg [.int .i64 a0_0, .int .i64 a0_1, .int .i64 a0_2].toArray] w Q = crierlaw18_table a0_0 a0_1 a0_2 w Q := by kernel_rfl
theorem crierlaw18_table_cv {a0_0 : Int} {a0_1 : Int} {a0_2 : Int} {w : World} {Q : Value → World → Prop} (h : crierlaw18_table a0_0 a0_1 a0_2 w Q) : CV P F.crierlaw18_table [.agg [.int .i64 a0_0, .int .i64 a0_1, .int .i64 a0_2].toArray] w Q := CV_of mixed Try.func34 (crierlaw18_table_eq a0_0 a0_1 a0_2 w Q ▸ h)

/- 35 (crier/crierref18.Table).Lead -/
def crierref18_Table_Lead_J30 : LoopSpec where
  S := Bool
  emb := fun s => [(37, .bool s)]
  ext := fun t => match getL t 37 with
    | some (.bool y15) => some (y15)
    | _ => none
  slots := [37]
  fits := fun _ => rfl
  ok := by
    intro t s h x hx
    (try dsimp only at h hx)
    split at h
    · cases h
      simp only [List.mem_cons, List.not_mem_nil, or_false] at hx
      rcases hx with rfl <;> assumption
    · cases h

def crierref18_Table_Lead_j0 (a1 : Option Addr) (a2 : Int) (a3 : Int) (Q : Value → World → Prop) (b7 : Nat) (b16 : Bool) (w17 : World) : Prop :=
 cnd b16
 (Q (.int .i64 180) w17)
 (drw w17 fun w18 =>
 ldI .i64 ⟨b7, 0, none⟩ w18 fun n19 =>
 ldI .i64 ⟨b7, 1, none⟩ w18 fun n20 =>
 ldI .i64 ⟨b7, 2, none⟩ w18 fun n21 =>
 (nz 8 <|
 (nz (IntKind.i64.wrap (Int.tdiv n21 8)) <|
 CV P F.crierref18_entry [.pointer a1, .agg [.int .i64 n19, .int .i64 n20].toArray, .int .i64 (IntKind.i64.wrap (Int.tdiv a2 (IntKind.i64.wrap (Int.tdiv n21 8))))] w18 fun v22 w23 =>
 ∃ n24 : Int, ∃ b25 : Bool, v22 = .tuple [.int .i64 n24, .bool b25].toArray ∧
 cnd (!b25)
 (Q (.int .i64 180) w23)
 (CV P F.crierref18_put [.pointer a1, .int .i64 n24, .int .u64 (IntKind.u64.wrap (9223372036854775808 + (IntKind.u64.wrap (a3))))] w23 fun v26 w27 =>
 v26 = .tuple [].toArray ∧
 Q (.int .i64 0) w27))))

def crierref18_Table_Lead (a0_0 : Int) (a0_1 : Int) (a0_2 : Int) (a1 : Option Addr) (a2 : Int) (a3 : Int) (w : World) (Q : Value → World → Prop) : Prop :=
 alc [.int .i64 a0_0, .int .i64 a0_1, .int .i64 a0_2] T.t87 w fun b7 w8 =>
 ldI .i64 ⟨b7, 0, none⟩ w8 fun n9 =>
 ldI .i64 ⟨b7, 1, none⟩ w8 fun n10 =>
 ldI .i64 ⟨b7, 2, none⟩ w8 fun n11 =>
 CV P F.crierref18_Table_Right [.agg [.int .i64 n9, .int .i64 n10, .int .i64 n11].toArray, .pointer a1] w8 fun v12 w13 =>
 ∃ n14 : Int, v12 = .int .i64 n14 ∧
 cnd (n14 != 0)
 (Q (.int .i64 n14) w13)
 (JoinT (fun (J28 : crierref18_Table_Lead_J30.S → World → Prop) =>
  ldI .i64 ⟨b7, 2, none⟩ w13 fun n29 =>
  cnd (n29 == 0)
  (J28 ((true : Bool)) w13)
  (cnd (decide (a2 < 0))
  (J28 ((true : Bool)) w13)
  (cnd (decide (a2 ≥ 131072))
  (J28 ((true : Bool)) w13)
  (ldI .i64 ⟨b7, 2, none⟩ w13 fun n30 =>
  CV P F.crierref04_Mem_Holds [.pointer a1, .agg [.int .i64 a3, .int .i64 n30].toArray] w13 fun v31 w32 =>
  ∃ b33 : Bool, v31 = .bool b33 ∧
  J28 (((!b33) : Bool)) w32))))
  fun (s34 : crierref18_Table_Lead_J30.S) w35 => crierref18_Table_Lead_j0 a1 a2 a3 Q b7 s34 w35)
def crierref18_Table_Lead_ann : Nat → Option LoopSpec := fun
  | 30 => some crierref18_Table_Lead_J30
  | 62 => some (ordSpec [0, 1, 2, 3, 4, 5, 6, 7, 8, 9, 10, 11, 12, 13])
  | _ => none
theorem crierref18_Table_Lead_eq (a0_0 : Int) (a0_1 : Int) (a0_2 : Int) (a1 : Option Addr) (a2 : Int) (a3 : Int) (w : World) (Q : Value → World → Prop) : fnX P crierref18_Table_Lead_ann Try.f35 [.agg [.int .i64 a0_0, .int .i64 a0_1, .int .i64 a0_2].toArray, .pointer a1, .int .i64 a2, .int .i64 a3] w Q = crierref18_Table_Lead a0_0 a0_1 a0_2 a1 a2 a3 w Q := by kernel_rfl
theorem crierref18_Table_Lead_cv {a0_0 : Int} {a0_1 : Int} {a0_2 : Int} {a1 : Option Addr} {a2 : Int} {a3 : Int} {w : World} {Q : Value → World → Prop} (h : crierref18_Table_Lead a0_0 a0_1 a0_2 a1 a2 a3 w Q) : CV P F.crierref18_Table_Lead [.agg [.int .i64 a0_0, .int .i64 a0_1, .int .i64 a0_2].toArray, .pointer a1, .int .i64 a2, .int .i64 a3] w Q := CV_of mixed Try.func35 (crierref18_Table_Lead_eq a0_0 a0_1 a0_2 a1 a2 a3 w Q ▸ h)

/- 36 (crier/crierref18.Table).Put -/
def crierref18_Table_Put_J254 : LoopSpec where
  S := Bool
  emb := fun s => [(56, .bool s)]
  ext := fun t => match getL t 56 with
    | some (.bool y29) => some (y29)
    | _ => none
  slots := [56]
  fits := fun _ => rfl
  ok := by
    intro t s h x hx
    (try dsimp only at h hx)
    split at h
    · cases h
      simp only [List.mem_cons, List.not_mem_nil, or_false] at hx
      rcases hx with rfl <;> assumption
    · cases h

def crierref18_Table_Put_j0 (a1 : Option Addr) (Q : Value → World → Prop) (b11 : Nat) (n24 : Int) (b30 : Bool) (w31 : World) : Prop :=
 cnd b30
 (Q (.int .i64 1) w31)
 (ldI .i64 ⟨b11, 1, none⟩ w31 fun n32 =>
 ldI .i64 ⟨b11, 2, none⟩ w31 fun n33 =>
 CV P F.crierref18_put [.pointer a1, .int .i64 n24, .int .u64 (IntKind.u64.wrap ((IntKind.u64.wrap (9223372036854775808 + (IntKind.u64.wrap (n32)))) + (IntKind.u64.wrap (n33))))] w31 fun v34 w35 =>
 v34 = .tuple [].toArray ∧
 Q (.int .i64 0) w35)

def crierref18_Table_Put (a0_0 : Int) (a0_1 : Int) (a0_2 : Int) (a1 : Option Addr) (a2 : Int) (a3_0 : Bool) (a3_1 : Int) (a3_2 : Int) (w : World) (Q : Value → World → Prop) : Prop :=
 alc [.int .i64 a0_0, .int .i64 a0_1, .int .i64 a0_2] T.t87 w fun b9 w10 =>
 alc [.bool a3_0, .int .i64 a3_1, .int .i64 a3_2] T.t91 w10 fun b11 w12 =>
 ldI .i64 ⟨b9, 0, none⟩ w12 fun n13 =>
 ldI .i64 ⟨b9, 1, none⟩ w12 fun n14 =>
 ldI .i64 ⟨b9, 2, none⟩ w12 fun n15 =>
 CV P F.crierref18_Table_Right [.agg [.int .i64 n13, .int .i64 n14, .int .i64 n15].toArray, .pointer a1] w12 fun v16 w17 =>
 ∃ n18 : Int, v16 = .int .i64 n18 ∧
 cnd (n18 != 0)
 (Q (.int .i64 n18) w17)
 (ldI .i64 ⟨b9, 0, none⟩ w17 fun n19 =>
 ldI .i64 ⟨b9, 1, none⟩ w17 fun n20 =>
 ldI .i64 ⟨b9, 2, none⟩ w17 fun n21 =>
 CV P F.crierref18_Table_place [.agg [.int .i64 n19, .int .i64 n20, .int .i64 n21].toArray, .pointer a1, .int .i64 a2] w17 fun v22 w23 =>
 ∃ n24 : Int, ∃ b25 : Bool, v22 = .tuple [.int .i64 n24, .bool b25].toArray ∧
 cnd (!b25)
 (Q (.int .i64 180) w23)
 (ldB ⟨b11, 0, none⟩ w23 fun b26 =>
 cnd (!b26)
 (CV P F.crierref18_put [.pointer a1, .int .i64 n24, .int .u64 0] w23 fun v27 w28 =>
 v27 = .tuple [].toArray ∧
 Q (.int .i64 0) w28)
 (JoinT (fun (J36 : crierref18_Table_Put_J254.S → World → Prop) =>
  ldI .i64 ⟨b11, 1, none⟩ w23 fun n37 =>
  cnd (decide (n37 < 0))
  (J36 ((true : Bool)) w23)
  (ldI .i64 ⟨b11, 1, none⟩ w23 fun n38 =>
  cnd (decide (n38 > 31))
  (J36 ((true : Bool)) w23)
  (ldI .i64 ⟨b11, 2, none⟩ w23 fun n39 =>
  cnd (decide (n39 < 0))
  (J36 ((true : Bool)) w23)
  (ldI .i64 ⟨b11, 2, none⟩ w23 fun n40 =>
  (nz 256 <|
  cnd ((Int.tmod n40 256) != 0)
  (J36 ((true : Bool)) w23)
  (ldI .i64 ⟨b11, 2, none⟩ w23 fun n41 =>
  J36 (((decide (n41 > 281474976710400)) : Bool)) w23))))))
  fun (s42 : crierref18_Table_Put_J254.S) w43 => crierref18_Table_Put_j0 a1 Q b11 n24 s42 w43)))
def crierref18_Table_Put_ann : Nat → Option LoopSpec := fun
  | 254 => some crierref18_Table_Put_J254
  | _ => none
theorem crierref18_Table_Put_eq (a0_0 : Int) (a0_1 : Int) (a0_2 : Int) (a1 : Option Addr) (a2 : Int) (a3_0 : Bool) (a3_1 : Int) (a3_2 : Int) (w : World) (Q : Value → World → Prop) : fnX P crierref18_Table_Put_ann Try.f36 [.agg [.int .i64 a0_0, .int .i64 a0_1, .int .i64 a0_2].toArray, .pointer a1, .int .i64 a2, .agg [.bool a3_0, .int .i64 a3_1, .int .i64 a3_2].toArray] w Q = crierref18_Table_Put a0_0 a0_1 a0_2 a1 a2 a3_0 a3_1 a3_2 w Q := by kernel_rfl
theorem crierref18_Table_Put_cv {a0_0 : Int} {a0_1 : Int} {a0_2 : Int} {a1 : Option Addr} {a2 : Int} {a3_0 : Bool} {a3_1 : Int} {a3_2 : Int} {w : World} {Q : Value → World → Prop} (h : crierref18_Table_Put a0_0 a0_1 a0_2 a1 a2 a3_0 a3_1 a3_2 w Q) : CV P F.crierref18_Table_Put [.agg [.int .i64 a0_0, .int .i64 a0_1, .int .i64 a0_2].toArray, .pointer a1, .int .i64 a2, .agg [.bool a3_0, .int .i64 a3_1, .int .i64 a3_2].toArray] w Q := CV_of mixed Try.func36 (crierref18_Table_Put_eq a0_0 a0_1 a0_2 a1 a2 a3_0 a3_1 a3_2 w Q ▸ h)

/- 37 crier/crierlaw18.told -/

def crierlaw18_told (a0_0 : Bool) (a0_1 : Int) (a0_2 : Int) (w : World) (Q : Value → World → Prop) : Prop :=
 alc [.bool a0_0, .int .i64 a0_1, .int .i64 a0_2] T.t36 w fun b4 w5 =>
 alc [.bool false, .int .i64 0, .int .i64 0] T.t91 w5 fun b6 w7 =>
 ldB ⟨b4, 0, none⟩ w7 fun b8 =>
 ldI .i64 ⟨b4, 1, none⟩ w7 fun n9 =>
 ldI .i64 ⟨b4, 2, none⟩ w7 fun n10 =>
 st1 (.bool b8) ⟨b6, 0, none⟩ w7 fun w11 =>
 st1 (.int .i64 n9) ⟨b6, 1, none⟩ w11 fun w12 =>
 st1 (.int .i64 n10) ⟨b6, 2, none⟩ w12 fun w13 =>
 ldB ⟨b6, 0, none⟩ w13 fun b14 =>
 ldI .i64 ⟨b6, 1, none⟩ w13 fun n15 =>
 ldI .i64 ⟨b6, 2, none⟩ w13 fun n16 =>
 Q (.agg [.bool b14, .int .i64 n15, .int .i64 n16].toArray) w13
def crierlaw18_told_ann : Nat → Option LoopSpec := fun _ => none
theorem crierlaw18_told_eq (a0_0 : Bool) (a0_1 : Int) (a0_2 : Int) (w : World) (Q : Value → World → Prop) : fnX P crierlaw18_told_ann Try.f37 [.agg [.bool a0_0, .int .i64 a0_1, .int .i64 a0_2].toArray] w Q = crierlaw18_told a0_0 a0_1 a0_2 w Q := by kernel_rfl
theorem crierlaw18_told_cv {a0_0 : Bool} {a0_1 : Int} {a0_2 : Int} {w : World} {Q : Value → World → Prop} (h : crierlaw18_told a0_0 a0_1 a0_2 w Q) : CV P F.crierlaw18_told [.agg [.bool a0_0, .int .i64 a0_1, .int .i64 a0_2].toArray] w Q := CV_of mixed Try.func37 (crierlaw18_told_eq a0_0 a0_1 a0_2 w Q ▸ h)

/- 38 (crier/crierref18.Device).SetRoute -/
def crierref18_Device_SetRoute_J62 : LoopSpec where
  S := Bool
  emb := fun s => [(44, .bool s)]
  ext := fun t => match getL t 44 with
    | some (.bool y23) => some (y23)
    | _ => none
  slots := [44]
  fits := fun _ => rfl
  ok := by
    intro t s h x hx
    (try dsimp only at h hx)
    split at h
    · cases h
      simp only [List.mem_cons, List.not_mem_nil, or_false] at hx
      rcases hx with rfl <;> assumption
    · cases h

def crierref18_Device_SetRoute_j0 (a1 : Option Addr) (Q : Value → World → Prop) (b11 : Nat) (n18 : Int) (b24 : Bool) (w25 : World) : Prop :=
 cnd b24
 (Q (.int .i64 1) w25)
 (ldI .i64 ⟨b11, 1, none⟩ w25 fun n26 =>
 (nng 32 <|
 ldI .i64 ⟨b11, 0, none⟩ w25 fun n27 =>
 CV P F.crierref18_put [.pointer a1, .int .i64 n18, .int .u64 (IntKind.u64.wrap ((IntKind.u64.wrap (9223372036854775808 + (IntKind.u64.wrap ((IntKind.u64.wrap (n26)) * 2 ^ min (Int.toNat 32) (IntKind.u64.bits))))) + (IntKind.u64.wrap (n27))))] w25 fun v28 w29 =>
 v28 = .tuple [].toArray ∧
 Q (.int .i64 0) w29))

def crierref18_Device_SetRoute (a0_0 : Bool) (a0_1 : Int) (a0_2 : Int) (a1 : Option Addr) (a2 : Int) (a3_0 : Int) (a3_1 : Int) (a3_2 : Bool) (w : World) (Q : Value → World → Prop) : Prop :=
 alc [.bool a0_0, .int .i64 a0_1, .int .i64 a0_2] T.t91 w fun b9 w10 =>
 alc [.int .i64 a3_0, .int .i64 a3_1, .bool a3_2] T.t45 w10 fun b11 w12 =>
 ldB ⟨b9, 0, none⟩ w12 fun b13 =>
 ldI .i64 ⟨b9, 1, none⟩ w12 fun n14 =>
 ldI .i64 ⟨b9, 2, none⟩ w12 fun n15 =>
 CV P F.crierref18_Device_place [.agg [.bool b13, .int .i64 n14, .int .i64 n15].toArray, .pointer a1, .int .i64 a2] w12 fun v16 w17 =>
 ∃ n18 : Int, ∃ n19 : Int, v16 = .tuple [.int .i64 n18, .int .i64 n19].toArray ∧
 cnd (n19 != 0)
 (Q (.int .i64 n19) w17)
 (ldB ⟨b11, 2, none⟩ w17 fun b20 =>
 cnd (!b20)
 (CV P F.crierref18_put [.pointer a1, .int .i64 n18, .int .u64 0] w17 fun v21 w22 =>
 v21 = .tuple [].toArray ∧
 Q (.int .i64 0) w22)
 (JoinT (fun (J30 : crierref18_Device_SetRoute_J62.S → World → Prop) =>
  ldI .i64 ⟨b11, 0, none⟩ w17 fun n31 =>
  cnd (decide (n31 < 0))
  (J30 ((true : Bool)) w17)
  (ldI .i64 ⟨b11, 0, none⟩ w17 fun n32 =>
  cnd (decide (n32 ≥ 4294967296))
  (J30 ((true : Bool)) w17)
  (ldI .i64 ⟨b11, 1, none⟩ w17 fun n33 =>
  cnd (decide (n33 < 0))
  (J30 ((true : Bool)) w17)
  (ldI .i64 ⟨b11, 1, none⟩ w17 fun n34 =>
  J30 (((decide (n34 > 65535)) : Bool)) w17))))
  fun (s35 : crierref18_Device_SetRoute_J62.S) w36 => crierref18_Device_SetRoute_j0 a1 Q b11 n18 s35 w36))
def crierref18_Device_SetRoute_ann : Nat → Option LoopSpec := fun
  | 62 => some crierref18_Device_SetRoute_J62
  | _ => none
theorem crierref18_Device_SetRoute_eq (a0_0 : Bool) (a0_1 : Int) (a0_2 : Int) (a1 : Option Addr) (a2 : Int) (a3_0 : Int) (a3_1 : Int) (a3_2 : Bool) (w : World) (Q : Value → World → Prop) : fnX P crierref18_Device_SetRoute_ann Try.f38 [.agg [.bool a0_0, .int .i64 a0_1, .int .i64 a0_2].toArray, .pointer a1, .int .i64 a2, .agg [.int .i64 a3_0, .int .i64 a3_1, .bool a3_2].toArray] w Q = crierref18_Device_SetRoute a0_0 a0_1 a0_2 a1 a2 a3_0 a3_1 a3_2 w Q := by kernel_rfl
theorem crierref18_Device_SetRoute_cv {a0_0 : Bool} {a0_1 : Int} {a0_2 : Int} {a1 : Option Addr} {a2 : Int} {a3_0 : Int} {a3_1 : Int} {a3_2 : Bool} {w : World} {Q : Value → World → Prop} (h : crierref18_Device_SetRoute a0_0 a0_1 a0_2 a1 a2 a3_0 a3_1 a3_2 w Q) : CV P F.crierref18_Device_SetRoute [.agg [.bool a0_0, .int .i64 a0_1, .int .i64 a0_2].toArray, .pointer a1, .int .i64 a2, .agg [.int .i64 a3_0, .int .i64 a3_1, .bool a3_2].toArray] w Q := CV_of mixed Try.func38 (crierref18_Device_SetRoute_eq a0_0 a0_1 a0_2 a1 a2 a3_0 a3_1 a3_2 w Q ▸ h)

/- 39 crier/crierref18.SetTarget -/
def crierref18_SetTarget_J6 : LoopSpec where
  S := Bool
  emb := fun s => [(18, .bool s)]
  ext := fun t => match getL t 18 with
    | some (.bool y9) => some (y9)
    | _ => none
  slots := [18]
  fits := fun _ => rfl
  ok := by
    intro t s h x hx
    (try dsimp only at h hx)
    split at h
    · cases h
      simp only [List.mem_cons, List.not_mem_nil, or_false] at hx
      rcases hx with rfl <;> assumption
    · cases h

def crierref18_SetTarget_J14 : LoopSpec where
  S := Bool
  emb := fun s => [(24, .bool s)]
  ext := fun t => match getL t 24 with
    | some (.bool y12) => some (y12)
    | _ => none
  slots := [24]
  fits := fun _ => rfl
  ok := by
    intro t s h x hx
    (try dsimp only at h hx)
    split at h
    · cases h
      simp only [List.mem_cons, List.not_mem_nil, or_false] at hx
      rcases hx with rfl <;> assumption
    · cases h

def crierref18_SetTarget_J63 : LoopSpec where
  S := Unit
  emb := fun _ => []
  ext := fun _ => some ()
  slots := []
  fits := fun _ => rfl
  ok := by
    intro t s h x hx; cases hx

def crierref18_SetTarget_j0 (Q : Value → World → Prop) (w21 : World) : Prop :=
 Q (.int .i64 0) w21

def crierref18_SetTarget_j1 (a0 : Option Addr) (a2 : Int) (a3 : Int) (a4 : Bool) (Q : Value → World → Prop) (b7 : Nat) (b13 : Bool) (w14 : World) : Prop :=
 cnd b13
 (Q (.int .i64 1) w14)
 (ldI .i64 ⟨b7, 0, none⟩ w14 fun n15 =>
 ldI .i64 ⟨b7, 1, none⟩ w14 fun n16 =>
 CV P F.crierref18_entry [.pointer a0, .agg [.int .i64 n15, .int .i64 n16].toArray, .int .i64 a2] w14 fun v17 w18 =>
 ∃ n19 : Int, ∃ b20 : Bool, v17 = .tuple [.int .i64 n19, .bool b20].toArray ∧
 cnd (!b20)
 (Q (.int .i64 183) w18)
 (JoinT (fun (J22 : crierref18_SetTarget_J63.S → World → Prop) =>
  cnd a4
  (CV P F.crierref18_put [.pointer a0, .int .i64 n19, .int .u64 (IntKind.u64.wrap (9223372036854775808 + (IntKind.u64.wrap (a3))))] w18 fun v23 w24 =>
  v23 = .tuple [].toArray ∧
  J22 () w24)
  (CV P F.crierref18_put [.pointer a0, .int .i64 n19, .int .u64 0] w18 fun v25 w26 =>
  v25 = .tuple [].toArray ∧
  J22 () w26))
  fun (s27 : crierref18_SetTarget_J63.S) w28 => crierref18_SetTarget_j0 Q w28))

def crierref18_SetTarget_j2 (a0 : Option Addr) (a2 : Int) (a3 : Int) (a4 : Bool) (Q : Value → World → Prop) (b7 : Nat) (b10 : Bool) (w11 : World) : Prop :=
 cnd b10
 (Q (.int .i64 183) w11)
 (JoinT (fun (J29 : crierref18_SetTarget_J14.S → World → Prop) =>
  cnd (decide (a3 < 0))
  (J29 ((true : Bool)) w11)
  (J29 (((decide (a3 > 65535)) : Bool)) w11))
  fun (s30 : crierref18_SetTarget_J14.S) w31 => crierref18_SetTarget_j1 a0 a2 a3 a4 Q b7 s30 w31)

def crierref18_SetTarget (a0 : Option Addr) (a1_0 : Int) (a1_1 : Int) (a2 : Int) (a3 : Int) (a4 : Bool) (w : World) (Q : Value → World → Prop) : Prop :=
 alc [.int .i64 a1_0, .int .i64 a1_1] T.t30 w fun b7 w8 =>
 JoinT (fun (J32 : crierref18_SetTarget_J6.S → World → Prop) =>
  cnd (decide (a2 < 0))
  (J32 ((true : Bool)) w8)
  (J32 (((decide (a2 ≥ 131072)) : Bool)) w8))
  fun (s33 : crierref18_SetTarget_J6.S) w34 => crierref18_SetTarget_j2 a0 a2 a3 a4 Q b7 s33 w34
def crierref18_SetTarget_ann : Nat → Option LoopSpec := fun
  | 6 => some crierref18_SetTarget_J6
  | 14 => some crierref18_SetTarget_J14
  | 63 => some crierref18_SetTarget_J63
  | _ => none
theorem crierref18_SetTarget_eq (a0 : Option Addr) (a1_0 : Int) (a1_1 : Int) (a2 : Int) (a3 : Int) (a4 : Bool) (w : World) (Q : Value → World → Prop) : fnX P crierref18_SetTarget_ann Try.f39 [.pointer a0, .agg [.int .i64 a1_0, .int .i64 a1_1].toArray, .int .i64 a2, .int .i64 a3, .bool a4] w Q = crierref18_SetTarget a0 a1_0 a1_1 a2 a3 a4 w Q := by kernel_rfl
theorem crierref18_SetTarget_cv {a0 : Option Addr} {a1_0 : Int} {a1_1 : Int} {a2 : Int} {a3 : Int} {a4 : Bool} {w : World} {Q : Value → World → Prop} (h : crierref18_SetTarget a0 a1_0 a1_1 a2 a3 a4 w Q) : CV P F.crierref18_SetTarget [.pointer a0, .agg [.int .i64 a1_0, .int .i64 a1_1].toArray, .int .i64 a2, .int .i64 a3, .bool a4] w Q := CV_of mixed Try.func39 (crierref18_SetTarget_eq a0 a1_0 a1_1 a2 a3 a4 w Q ▸ h)

/- 40 (*crier/crierref04.Mem).Write -/
def crierref04_Mem_Write_L250 : LoopSpec where
  S := Int × Int
  emb := fun s => [(4, .int .u64 s.1), (12, .int .i64 s.2)]
  ext := fun t => match getL t 4, getL t 12 with
    | some (.int .u64 y18), some (.int .i64 y19) => some (y18, y19)
    | _, _ => none
  slots := [4, 12]
  fits := fun _ => rfl
  ok := by
    intro t s h x hx
    (try dsimp only at h hx)
    split at h
    · cases h
      simp only [List.mem_cons, List.not_mem_nil, or_false] at hx
      rcases hx with rfl | rfl <;> assumption
    · cases h

def crierref04_Mem_Write_l0 (a0 : Option Addr) (a2 : Int) (a3 : Int) (Q : Value → World → Prop) (b7 : Nat) (n20 : Int) (n21 : Int) (w22 : World) (A23 : crierref04_Mem_Write_L250.S → World → Prop) : Prop :=
 cnd (decide (n21 < a3))
 (drw w22 fun w24 =>
 nn a0 fun a25 =>
 ldL a25 w24 fun p26 l27 c28 =>
 ldI .i64 ⟨b7, 0, none⟩ w24 fun n29 =>
 (nz 256 <|
 ix (IntKind.i64.wrap ((IntKind.i64.wrap (n29 + a2)) + n21)) l27 fun j30 => nn p26 fun a31 =>
 st1 (.int .u8 (IntKind.u8.wrap ((Int.tmod n20 256)))) (a31.add (j30 * 1)) w24 fun w32 =>
 (nz 256 <|
 A23 (((IntKind.u64.wrap (Int.tdiv n20 256)) : Int), ((IntKind.i64.wrap (n21 + 1)) : Int)) w32)))
 (Q (.int .i64 0) w22)

def crierref04_Mem_Write (a0 : Option Addr) (a1_0 : Int) (a1_1 : Int) (a2 : Int) (a3 : Int) (a4 : Int) (w : World) (Q : Value → World → Prop) : Prop :=
 alc [.int .i64 a1_0, .int .i64 a1_1] T.t30 w fun b7 w8 =>
 ldI .i64 ⟨b7, 0, none⟩ w8 fun n9 =>
 ldI .i64 ⟨b7, 1, none⟩ w8 fun n10 =>
 CV P F.crierref04_Mem_Holds [.pointer a0, .agg [.int .i64 n9, .int .i64 n10].toArray] w8 fun v11 w12 =>
 ∃ b13 : Bool, v11 = .bool b13 ∧
 cnd (!b13)
 (Q (.int .i64 42) w12)
 (ldI .i64 ⟨b7, 1, none⟩ w12 fun n14 =>
 CV P F.crierref04_May [.int .i64 n14, .int .i64 a2, .int .i64 a3] w12 fun v15 w16 =>
 ∃ n17 : Int, v15 = .int .i64 n17 ∧
 cnd (n17 != 0)
 (Q (.int .i64 n17) w16)
 (LoopT (fun (s33 : crierref04_Mem_Write_L250.S) w34 A35 => crierref04_Mem_Write_l0 a0 a2 a3 Q b7 s33.1 s33.2 w34 A35) ((a4 : Int), (0 : Int)) w16))
def crierref04_Mem_Write_ann : Nat → Option LoopSpec := fun
  | 250 => some crierref04_Mem_Write_L250
  | 8008 => some (ordSpec [0, 1, 2, 3, 4, 5, 6, 7, 8, 9, 10, 11, 12, 13, 14])
  | _ => none
theorem crierref04_Mem_Write_eq (a0 : Option Addr) (a1_0 : Int) (a1_1 : Int) (a2 : Int) (a3 : Int) (a4 : Int) (w : World) (Q : Value → World → Prop) : fnX P crierref04_Mem_Write_ann Try.f40 [.pointer a0, .agg [.int .i64 a1_0, .int .i64 a1_1].toArray, .int .i64 a2, .int .i64 a3, .int .u64 a4] w Q = crierref04_Mem_Write a0 a1_0 a1_1 a2 a3 a4 w Q := by kernel_rfl
theorem crierref04_Mem_Write_cv {a0 : Option Addr} {a1_0 : Int} {a1_1 : Int} {a2 : Int} {a3 : Int} {a4 : Int} {w : World} {Q : Value → World → Prop} (h : crierref04_Mem_Write a0 a1_0 a1_1 a2 a3 a4 w Q) : CV P F.crierref04_Mem_Write [.pointer a0, .agg [.int .i64 a1_0, .int .i64 a1_1].toArray, .int .i64 a2, .int .i64 a3, .int .u64 a4] w Q := CV_of mixed Try.func40 (crierref04_Mem_Write_eq a0 a1_0 a1_1 a2 a3 a4 w Q ▸ h)

/- 41 crier/mem.May -/
def mem_May_J12 : LoopSpec where
  S := Bool
  emb := fun s => [(7, .bool s)]
  ext := fun t => match getL t 7 with
    | some (.bool y4) => some (y4)
    | _ => none
  slots := [7]
  fits := fun _ => rfl
  ok := by
    intro t s h x hx
    (try dsimp only at h hx)
    split at h
    · cases h
      simp only [List.mem_cons, List.not_mem_nil, or_false] at hx
      rcases hx with rfl <;> assumption
    · cases h

def mem_May_J207 : LoopSpec where
  S := Bool
  emb := fun s => [(23, .bool s)]
  ext := fun t => match getL t 23 with
    | some (.bool y7) => some (y7)
    | _ => none
  slots := [23]
  fits := fun _ => rfl
  ok := by
    intro t s h x hx
    (try dsimp only at h hx)
    split at h
    · cases h
      simp only [List.mem_cons, List.not_mem_nil, or_false] at hx
      rcases hx with rfl <;> assumption
    · cases h

def mem_May_j0 (Q : Value → World → Prop) (b8 : Bool) (w9 : World) : Prop :=
 cnd b8
 (Q (.int .i64 42) w9)
 (Q (.int .i64 0) w9)

def mem_May_j1 (a0 : Int) (a1 : Int) (a2 : Int) (Q : Value → World → Prop) (b5 : Bool) (w6 : World) : Prop :=
 cnd b5
 (Q (.int .i64 40) w6)
 ((nz a2 <|
 cnd ((Int.tmod a1 a2) != 0)
 (Q (.int .i64 41) w6)
 (JoinT (fun (J10 : mem_May_J207.S → World → Prop) =>
  cnd (decide (a1 < 0))
  (J10 ((true : Bool)) w6)
  (J10 (((decide (a1 > (IntKind.i64.wrap (a0 - a2)))) : Bool)) w6))
  fun (s11 : mem_May_J207.S) w12 => mem_May_j0 Q s11 w12)))

def mem_May (a0 : Int) (a1 : Int) (a2 : Int) (w : World) (Q : Value → World → Prop) : Prop :=
 JoinT (fun (J13 : mem_May_J12.S → World → Prop) =>
  cnd (a2 != 1)
  (cnd (a2 != 4)
  (J13 (((a2 != 8) : Bool)) w)
  (J13 ((false : Bool)) w))
  (J13 ((false : Bool)) w))
  fun (s14 : mem_May_J12.S) w15 => mem_May_j1 a0 a1 a2 Q s14 w15
def mem_May_ann : Nat → Option LoopSpec := fun
  | 12 => some mem_May_J12
  | 207 => some mem_May_J207
  | _ => none
theorem mem_May_eq (a0 : Int) (a1 : Int) (a2 : Int) (w : World) (Q : Value → World → Prop) : fnX P mem_May_ann Try.f41 [.int .i64 a0, .int .i64 a1, .int .i64 a2] w Q = mem_May a0 a1 a2 w Q := by kernel_rfl
theorem mem_May_cv {a0 : Int} {a1 : Int} {a2 : Int} {w : World} {Q : Value → World → Prop} (h : mem_May a0 a1 a2 w Q) : CV P F.mem_May [.int .i64 a0, .int .i64 a1, .int .i64 a2] w Q := CV_of mixed Try.func41 (mem_May_eq a0 a1 a2 w Q ▸ h)

/- 42 crier/mem.fair -/
def mem_fair_J3 : LoopSpec where
  S := Bool
  emb := fun s => [(2, .bool s)]
  ext := fun t => match getL t 2 with
    | some (.bool y5) => some (y5)
    | _ => none
  slots := [2]
  fits := fun _ => rfl
  ok := by
    intro t s h x hx
    (try dsimp only at h hx)
    split at h
    · cases h
      simp only [List.mem_cons, List.not_mem_nil, or_false] at hx
      rcases hx with rfl <;> assumption
    · cases h

def mem_fair_j0 (Q : Value → World → Prop) (b6 : Bool) (w7 : World) : Prop :=
 Q (.bool b6) w7

def mem_fair (a0_0 : Int) (a0_1 : Int) (w : World) (Q : Value → World → Prop) : Prop :=
 alc [.int .i64 a0_0, .int .i64 a0_1] T.t30 w fun b3 w4 =>
 JoinT (fun (J8 : mem_fair_J3.S → World → Prop) =>
  ldI .i64 ⟨b3, 0, none⟩ w4 fun n9 =>
  cnd (decide (n9 ≥ 0))
  (ldI .i64 ⟨b3, 0, none⟩ w4 fun n10 =>
  cnd (decide (n10 ≤ 1099511627776))
  (ldI .i64 ⟨b3, 1, none⟩ w4 fun n11 =>
  cnd (decide (n11 ≥ 0))
  (ldI .i64 ⟨b3, 1, none⟩ w4 fun n12 =>
  J8 (((decide (n12 ≤ 1099511627776)) : Bool)) w4)
  (J8 ((false : Bool)) w4))
  (J8 ((false : Bool)) w4))
  (J8 ((false : Bool)) w4))
  fun (s13 : mem_fair_J3.S) w14 => mem_fair_j0 Q s13 w14
def mem_fair_ann : Nat → Option LoopSpec := fun
  | 3 => some mem_fair_J3
  | _ => none
theorem mem_fair_eq (a0_0 : Int) (a0_1 : Int) (w : World) (Q : Value → World → Prop) : fnX P mem_fair_ann Try.f42 [.agg [.int .i64 a0_0, .int .i64 a0_1].toArray] w Q = mem_fair a0_0 a0_1 w Q := by kernel_rfl
theorem mem_fair_cv {a0_0 : Int} {a0_1 : Int} {w : World} {Q : Value → World → Prop} (h : mem_fair a0_0 a0_1 w Q) : CV P F.mem_fair [.agg [.int .i64 a0_0, .int .i64 a0_1].toArray] w Q := CV_of mixed Try.func42 (mem_fair_eq a0_0 a0_1 w Q ▸ h)

/- 43 (crier/crierref18.Table).Right -/
def crierref18_Table_Right_J14 : LoopSpec where
  S := Bool
  emb := fun s => [(18, .bool s)]
  ext := fun t => match getL t 18 with
    | some (.bool y12) => some (y12)
    | _ => none
  slots := [18]
  fits := fun _ => rfl
  ok := by
    intro t s h x hx
    (try dsimp only at h hx)
    split at h
    · cases h
      simp only [List.mem_cons, List.not_mem_nil, or_false] at hx
      rcases hx with rfl <;> assumption
    · cases h

def crierref18_Table_Right_j0 (Q : Value → World → Prop) (b13 : Bool) (w14 : World) : Prop :=
 cnd b13
 (Q (.int .i64 1) w14)
 (Q (.int .i64 0) w14)

def crierref18_Table_Right (a0_0 : Int) (a0_1 : Int) (a0_2 : Int) (a1 : Option Addr) (w : World) (Q : Value → World → Prop) : Prop :=
 alc [.int .i64 a0_0, .int .i64 a0_1, .int .i64 a0_2] T.t87 w fun b5 w6 =>
 ldI .i64 ⟨b5, 0, none⟩ w6 fun n7 =>
 ldI .i64 ⟨b5, 1, none⟩ w6 fun n8 =>
 CV P F.crierref04_Mem_Holds [.pointer a1, .agg [.int .i64 n7, .int .i64 n8].toArray] w6 fun v9 w10 =>
 ∃ b11 : Bool, v9 = .bool b11 ∧
 cnd (!b11)
 (Q (.int .i64 42) w10)
 (JoinT (fun (J15 : crierref18_Table_Right_J14.S → World → Prop) =>
  ldI .i64 ⟨b5, 2, none⟩ w10 fun n16 =>
  cnd (n16 != 0)
  (ldI .i64 ⟨b5, 2, none⟩ w10 fun n17 =>
  CV P F.crierref18_power [.int .i64 n17] w10 fun v18 w19 =>
  ∃ b20 : Bool, v18 = .bool b20 ∧
  J15 (((!b20) : Bool)) w19)
  (J15 ((false : Bool)) w10))
  fun (s21 : crierref18_Table_Right_J14.S) w22 => crierref18_Table_Right_j0 Q s21 w22)
def crierref18_Table_Right_ann : Nat → Option LoopSpec := fun
  | 14 => some crierref18_Table_Right_J14
  | _ => none
theorem crierref18_Table_Right_eq (a0_0 : Int) (a0_1 : Int) (a0_2 : Int) (a1 : Option Addr) (w : World) (Q : Value → World → Prop) : fnX P crierref18_Table_Right_ann Try.f43 [.agg [.int .i64 a0_0, .int .i64 a0_1, .int .i64 a0_2].toArray, .pointer a1] w Q = crierref18_Table_Right a0_0 a0_1 a0_2 a1 w Q := by kernel_rfl
theorem crierref18_Table_Right_cv {a0_0 : Int} {a0_1 : Int} {a0_2 : Int} {a1 : Option Addr} {w : World} {Q : Value → World → Prop} (h : crierref18_Table_Right a0_0 a0_1 a0_2 a1 w Q) : CV P F.crierref18_Table_Right [.agg [.int .i64 a0_0, .int .i64 a0_1, .int .i64 a0_2].toArray, .pointer a1] w Q := CV_of mixed Try.func43 (crierref18_Table_Right_eq a0_0 a0_1 a0_2 a1 w Q ▸ h)

/- 44 (*crier/crierref04.Mem).Holds -/
def crierref04_Mem_Holds_J3 : LoopSpec where
  S := Bool
  emb := fun s => [(4, .bool s)]
  ext := fun t => match getL t 4 with
    | some (.bool y6) => some (y6)
    | _ => none
  slots := [4]
  fits := fun _ => rfl
  ok := by
    intro t s h x hx
    (try dsimp only at h hx)
    split at h
    · cases h
      simp only [List.mem_cons, List.not_mem_nil, or_false] at hx
      rcases hx with rfl <;> assumption
    · cases h

def crierref04_Mem_Holds_j0 (Q : Value → World → Prop) (b7 : Bool) (w8 : World) : Prop :=
 Q (.bool b7) w8

def crierref04_Mem_Holds (a0 : Option Addr) (a1_0 : Int) (a1_1 : Int) (w : World) (Q : Value → World → Prop) : Prop :=
 alc [.int .i64 a1_0, .int .i64 a1_1] T.t30 w fun b4 w5 =>
 JoinT (fun (J9 : crierref04_Mem_Holds_J3.S → World → Prop) =>
  drw w5 fun w10 =>
  ldI .i64 ⟨b4, 0, none⟩ w10 fun n11 =>
  cnd (decide (n11 ≥ 0))
  (ldI .i64 ⟨b4, 1, none⟩ w10 fun n12 =>
  cnd (decide (n12 ≥ 0))
  (ldI .i64 ⟨b4, 1, none⟩ w10 fun n13 =>
  nn a0 fun a14 =>
  ldL a14 w10 fun p15 l16 c17 =>
  cnd (decide (n13 ≤ ((l16 : Nat) : Int)))
  (ldI .i64 ⟨b4, 0, none⟩ w10 fun n18 =>
  nn a0 fun a19 =>
  ldL a19 w10 fun p20 l21 c22 =>
  ldI .i64 ⟨b4, 1, none⟩ w10 fun n23 =>
  J9 (((decide (n18 ≤ (IntKind.i64.wrap (((l21 : Nat) : Int) - n23)))) : Bool)) w10)
  (J9 ((false : Bool)) w10))
  (J9 ((false : Bool)) w10))
  (J9 ((false : Bool)) w10))
  fun (s24 : crierref04_Mem_Holds_J3.S) w25 => crierref04_Mem_Holds_j0 Q s24 w25
def crierref04_Mem_Holds_ann : Nat → Option LoopSpec := fun
  | 3 => some crierref04_Mem_Holds_J3
  | 6 => some (ordSpec [0, 1, 2, 3, 4, 5, 6, 7, 8, 9, 10, 11, 12, 13, 14, 15, 16, 17, 18, 19, 20, 21, 22, 23, 24, 25, 26, 27, 28, 29, 30, 31])
  | _ => none
theorem crierref04_Mem_Holds_eq (a0 : Option Addr) (a1_0 : Int) (a1_1 : Int) (w : World) (Q : Value → World → Prop) : fnX P crierref04_Mem_Holds_ann Try.f44 [.pointer a0, .agg [.int .i64 a1_0, .int .i64 a1_1].toArray] w Q = crierref04_Mem_Holds a0 a1_0 a1_1 w Q := by kernel_rfl
theorem crierref04_Mem_Holds_cv {a0 : Option Addr} {a1_0 : Int} {a1_1 : Int} {w : World} {Q : Value → World → Prop} (h : crierref04_Mem_Holds a0 a1_0 a1_1 w Q) : CV P F.crierref04_Mem_Holds [.pointer a0, .agg [.int .i64 a1_0, .int .i64 a1_1].toArray] w Q := CV_of mixed Try.func44 (crierref04_Mem_Holds_eq a0 a1_0 a1_1 w Q ▸ h)

/- 45 crier/crierref18.entry -/
def crierref18_entry_J6 : LoopSpec where
  S := Bool
  emb := fun s => [(27, .bool s)]
  ext := fun t => match getL t 27 with
    | some (.bool y7) => some (y7)
    | _ => none
  slots := [27]
  fits := fun _ => rfl
  ok := by
    intro t s h x hx
    (try dsimp only at h hx)
    split at h
    · cases h
      simp only [List.mem_cons, List.not_mem_nil, or_false] at hx
      rcases hx with rfl <;> assumption
    · cases h

def crierref18_entry_j0 (a2 : Int) (Q : Value → World → Prop) (b5 : Nat) (b8 : Bool) (w9 : World) : Prop :=
 cnd b8
 (Q (.tuple [.int .i64 0, .bool false].toArray) w9)
 (ldI .i64 ⟨b5, 0, none⟩ w9 fun n10 =>
 Q (.tuple [.int .i64 (IntKind.i64.wrap (n10 + (IntKind.i64.wrap (8 * a2)))), .bool true].toArray) w9)

def crierref18_entry (a0 : Option Addr) (a1_0 : Int) (a1_1 : Int) (a2 : Int) (w : World) (Q : Value → World → Prop) : Prop :=
 alc [.int .i64 a1_0, .int .i64 a1_1] T.t30 w fun b5 w6 =>
 JoinT (fun (J11 : crierref18_entry_J6.S → World → Prop) =>
  ldI .i64 ⟨b5, 0, none⟩ w6 fun n12 =>
  ldI .i64 ⟨b5, 1, none⟩ w6 fun n13 =>
  CV P F.crierref04_Mem_Holds [.pointer a0, .agg [.int .i64 n12, .int .i64 n13].toArray] w6 fun v14 w15 =>
  ∃ b16 : Bool, v14 = .bool b16 ∧
  cnd (!b16)
  (J11 ((true : Bool)) w15)
  (cnd (decide (a2 < 0))
  (J11 ((true : Bool)) w15)
  (cnd (decide (a2 ≥ 131072))
  (J11 ((true : Bool)) w15)
  (ldI .i64 ⟨b5, 1, none⟩ w15 fun n17 =>
  J11 (((decide ((IntKind.i64.wrap ((IntKind.i64.wrap (8 * a2)) + 8)) > n17)) : Bool)) w15))))
  fun (s18 : crierref18_entry_J6.S) w19 => crierref18_entry_j0 a2 Q b5 s18 w19
def crierref18_entry_ann : Nat → Option LoopSpec := fun
  | 6 => some crierref18_entry_J6
  | _ => none
theorem crierref18_entry_eq (a0 : Option Addr) (a1_0 : Int) (a1_1 : Int) (a2 : Int) (w : World) (Q : Value → World → Prop) : fnX P crierref18_entry_ann Try.f45 [.pointer a0, .agg [.int .i64 a1_0, .int .i64 a1_1].toArray, .int .i64 a2] w Q = crierref18_entry a0 a1_0 a1_1 a2 w Q := by kernel_rfl
theorem crierref18_entry_cv {a0 : Option Addr} {a1_0 : Int} {a1_1 : Int} {a2 : Int} {w : World} {Q : Value → World → Prop} (h : crierref18_entry a0 a1_0 a1_1 a2 w Q) : CV P F.crierref18_entry [.pointer a0, .agg [.int .i64 a1_0, .int .i64 a1_1].toArray, .int .i64 a2] w Q := CV_of mixed Try.func45 (crierref18_entry_eq a0 a1_0 a1_1 a2 w Q ▸ h)

/- 46 crier/crierref18.put -/
def crierref18_put_L6 : LoopSpec where
  S := Int × Int
  emb := fun s => [(2, .int .u64 s.1), (6, .int .i64 s.2)]
  ext := fun t => match getL t 2, getL t 6 with
    | some (.int .u64 y4), some (.int .i64 y5) => some (y4, y5)
    | _, _ => none
  slots := [2, 6]
  fits := fun _ => rfl
  ok := by
    intro t s h x hx
    (try dsimp only at h hx)
    split at h
    · cases h
      simp only [List.mem_cons, List.not_mem_nil, or_false] at hx
      rcases hx with rfl | rfl <;> assumption
    · cases h

def crierref18_put_l0 (a0 : Option Addr) (a1 : Int) (Q : Value → World → Prop) (n6 : Int) (n7 : Int) (w8 : World) (A9 : crierref18_put_L6.S → World → Prop) : Prop :=
 cnd (decide (n7 < 8))
 (nn a0 fun a10 =>
 ldL a10 w8 fun p11 l12 c13 =>
 (nz 256 <|
 ix (IntKind.i64.wrap (a1 + n7)) l12 fun j14 => nn p11 fun a15 =>
 st1 (.int .u8 (IntKind.u8.wrap ((Int.tmod n6 256)))) (a15.add (j14 * 1)) w8 fun w16 =>
 (nz 256 <|
 A9 (((IntKind.u64.wrap (Int.tdiv n6 256)) : Int), ((IntKind.i64.wrap (n7 + 1)) : Int)) w16)))
 (Q (.tuple [].toArray) w8)

def crierref18_put (a0 : Option Addr) (a1 : Int) (a2 : Int) (w : World) (Q : Value → World → Prop) : Prop :=
 LoopT (fun (s17 : crierref18_put_L6.S) w18 A19 => crierref18_put_l0 a0 a1 Q s17.1 s17.2 w18 A19) ((a2 : Int), (0 : Int)) w
def crierref18_put_ann : Nat → Option LoopSpec := fun
  | 6 => some crierref18_put_L6
  | _ => none
theorem crierref18_put_eq (a0 : Option Addr) (a1 : Int) (a2 : Int) (w : World) (Q : Value → World → Prop) : fnX P crierref18_put_ann Try.f46 [.pointer a0, .int .i64 a1, .int .u64 a2] w Q = crierref18_put a0 a1 a2 w Q := by kernel_rfl
theorem crierref18_put_cv {a0 : Option Addr} {a1 : Int} {a2 : Int} {w : World} {Q : Value → World → Prop} (h : crierref18_put a0 a1 a2 w Q) : CV P F.crierref18_put [.pointer a0, .int .i64 a1, .int .u64 a2] w Q := CV_of mixed Try.func46 (crierref18_put_eq a0 a1 a2 w Q ▸ h)

/- 47 (crier/crierref18.Table).place -/
def crierref18_Table_place_J6 : LoopSpec where
  S := Bool
  emb := fun s => [(17, .bool s)]
  ext := fun t => match getL t 17 with
    | some (.bool y8) => some (y8)
    | _ => none
  slots := [17]
  fits := fun _ => rfl
  ok := by
    intro t s h x hx
    (try dsimp only at h hx)
    split at h
    · cases h
      simp only [List.mem_cons, List.not_mem_nil, or_false] at hx
      rcases hx with rfl <;> assumption
    · cases h

def crierref18_Table_place_j0 (a1 : Option Addr) (a2 : Int) (Q : Value → World → Prop) (b6 : Nat) (b9 : Bool) (w10 : World) : Prop :=
 cnd b9
 (Q (.tuple [.int .i64 0, .bool false].toArray) w10)
 (ldI .i64 ⟨b6, 2, none⟩ w10 fun n11 =>
 cnd (n11 == 0)
 (ldI .i64 ⟨b6, 0, none⟩ w10 fun n12 =>
 ldI .i64 ⟨b6, 1, none⟩ w10 fun n13 =>
 CV P F.crierref18_entry [.pointer a1, .agg [.int .i64 n12, .int .i64 n13].toArray, .int .i64 a2] w10 fun v14 w15 =>
 ∃ n16 : Int, ∃ b17 : Bool, v14 = .tuple [.int .i64 n16, .bool b17].toArray ∧
 Q (.tuple [.int .i64 n16, .bool b17].toArray) w15)
 (drw w10 fun w18 =>
 ldI .i64 ⟨b6, 0, none⟩ w18 fun n19 =>
 ldI .i64 ⟨b6, 1, none⟩ w18 fun n20 =>
 ldI .i64 ⟨b6, 2, none⟩ w18 fun n21 =>
 (nz 8 <|
 (nz (IntKind.i64.wrap (Int.tdiv n21 8)) <|
 CV P F.crierref18_entry [.pointer a1, .agg [.int .i64 n19, .int .i64 n20].toArray, .int .i64 (IntKind.i64.wrap (Int.tdiv a2 (IntKind.i64.wrap (Int.tdiv n21 8))))] w18 fun v22 w23 =>
 ∃ n24 : Int, ∃ b25 : Bool, v22 = .tuple [.int .i64 n24, .bool b25].toArray ∧
 cnd (!b25)
 (Q (.tuple [.int .i64 0, .bool false].toArray) w23)
 (CV P F.crierref18_get [.pointer a1, .int .i64 n24] w23 fun v26 w27 =>
 ∃ n28 : Int, ∃ b29 : Bool, v26 = .tuple [.int .u64 n28, .bool b29].toArray ∧
 cnd (!b29)
 (Q (.tuple [.int .i64 0, .bool false].toArray) w27)
 (drw w27 fun w30 =>
 (nz 4294967296 <|
 ldI .i64 ⟨b6, 2, none⟩ w30 fun n31 =>
 ldI .i64 ⟨b6, 2, none⟩ w30 fun n32 =>
 (nz 8 <|
 (nz (IntKind.i64.wrap (Int.tdiv n32 8)) <|
 CV P F.crierref18_entry [.pointer a1, .agg [.int .i64 (IntKind.i64.wrap ((Int.tmod n28 4294967296))), .int .i64 n31].toArray, .int .i64 (Int.tmod a2 (IntKind.i64.wrap (Int.tdiv n32 8)))] w30 fun v33 w34 =>
 ∃ n35 : Int, ∃ b36 : Bool, v33 = .tuple [.int .i64 n35, .bool b36].toArray ∧
 Q (.tuple [.int .i64 n35, .bool b36].toArray) w34)))))))))

def crierref18_Table_place (a0_0 : Int) (a0_1 : Int) (a0_2 : Int) (a1 : Option Addr) (a2 : Int) (w : World) (Q : Value → World → Prop) : Prop :=
 alc [.int .i64 a0_0, .int .i64 a0_1, .int .i64 a0_2] T.t87 w fun b6 w7 =>
 JoinT (fun (J37 : crierref18_Table_place_J6.S → World → Prop) =>
  cnd (decide (a2 < 0))
  (J37 ((true : Bool)) w7)
  (J37 (((decide (a2 ≥ 131072)) : Bool)) w7))
  fun (s38 : crierref18_Table_place_J6.S) w39 => crierref18_Table_place_j0 a1 a2 Q b6 s38 w39
def crierref18_Table_place_ann : Nat → Option LoopSpec := fun
  | 6 => some crierref18_Table_place_J6
  | 30 => some (ordSpec [0, 1, 2, 3, 4, 5, 6, 7, 8, 9, 10, 11, 12, 13])
  | 510 => some (ordSpec [0, 1, 2, 3, 4, 5, 6, 7, 8, 9, 10, 11, 12, 13, 14, 15, 16])
  | _ => none
theorem crierref18_Table_place_eq (a0_0 : Int) (a0_1 : Int) (a0_2 : Int) (a1 : Option Addr) (a2 : Int) (w : World) (Q : Value → World → Prop) : fnX P crierref18_Table_place_ann Try.f47 [.agg [.int .i64 a0_0, .int .i64 a0_1, .int .i64 a0_2].toArray, .pointer a1, .int .i64 a2] w Q = crierref18_Table_place a0_0 a0_1 a0_2 a1 a2 w Q := by kernel_rfl
theorem crierref18_Table_place_cv {a0_0 : Int} {a0_1 : Int} {a0_2 : Int} {a1 : Option Addr} {a2 : Int} {w : World} {Q : Value → World → Prop} (h : crierref18_Table_place a0_0 a0_1 a0_2 a1 a2 w Q) : CV P F.crierref18_Table_place [.agg [.int .i64 a0_0, .int .i64 a0_1, .int .i64 a0_2].toArray, .pointer a1, .int .i64 a2] w Q := CV_of mixed Try.func47 (crierref18_Table_place_eq a0_0 a0_1 a0_2 a1 a2 w Q ▸ h)

/- 48 (crier/crierref18.Device).place -/
def crierref18_Device_place_J6 : LoopSpec where
  S := Bool
  emb := fun s => [(21, .bool s)]
  ext := fun t => match getL t 21 with
    | some (.bool y8) => some (y8)
    | _ => none
  slots := [21]
  fits := fun _ => rfl
  ok := by
    intro t s h x hx
    (try dsimp only at h hx)
    split at h
    · cases h
      simp only [List.mem_cons, List.not_mem_nil, or_false] at hx
      rcases hx with rfl <;> assumption
    · cases h

def crierref18_Device_place_J30 : LoopSpec where
  S := Bool
  emb := fun s => [(38, .bool s)]
  ext := fun t => match getL t 38 with
    | some (.bool y12) => some (y12)
    | _ => none
  slots := [38]
  fits := fun _ => rfl
  ok := by
    intro t s h x hx
    (try dsimp only at h hx)
    split at h
    · cases h
      simp only [List.mem_cons, List.not_mem_nil, or_false] at hx
      rcases hx with rfl <;> assumption
    · cases h

def crierref18_Device_place_j0 (a2 : Int) (Q : Value → World → Prop) (n11 : Int) (b13 : Bool) (w14 : World) : Prop :=
 cnd b13
 (Q (.tuple [.int .i64 0, .int .i64 180].toArray) w14)
 (Q (.tuple [.int .i64 (IntKind.i64.wrap (n11 + (IntKind.i64.wrap (8 * a2)))), .int .i64 0].toArray) w14)

def crierref18_Device_place_j1 (a1 : Option Addr) (a2 : Int) (Q : Value → World → Prop) (b6 : Nat) (b9 : Bool) (w10 : World) : Prop :=
 cnd b9
 (Q (.tuple [.int .i64 0, .int .i64 182].toArray) w10)
 (ldI .i64 ⟨b6, 2, none⟩ w10 fun n11 =>
 JoinT (fun (J15 : crierref18_Device_place_J30.S → World → Prop) =>
  cnd (decide ((IntKind.i64.wrap (n11 + (IntKind.i64.wrap (8 * a2)))) < 0))
  (J15 ((true : Bool)) w10)
  (nn a1 fun a16 =>
  ldL a16 w10 fun p17 l18 c19 =>
  J15 (((decide ((IntKind.i64.wrap (n11 + (IntKind.i64.wrap (8 * a2)))) > (IntKind.i64.wrap (((l18 : Nat) : Int) - 8)))) : Bool)) w10))
  fun (s20 : crierref18_Device_place_J30.S) w21 => crierref18_Device_place_j0 a2 Q n11 s20 w21)

def crierref18_Device_place (a0_0 : Bool) (a0_1 : Int) (a0_2 : Int) (a1 : Option Addr) (a2 : Int) (w : World) (Q : Value → World → Prop) : Prop :=
 alc [.bool a0_0, .int .i64 a0_1, .int .i64 a0_2] T.t91 w fun b6 w7 =>
 JoinT (fun (J22 : crierref18_Device_place_J6.S → World → Prop) =>
  ldB ⟨b6, 0, none⟩ w7 fun b23 =>
  cnd (!b23)
  (J22 ((true : Bool)) w7)
  (cnd (decide (a2 < 0))
  (J22 ((true : Bool)) w7)
  (ldB ⟨b6, 0, none⟩ w7 fun b24 =>
  ldI .i64 ⟨b6, 1, none⟩ w7 fun n25 =>
  ldI .i64 ⟨b6, 2, none⟩ w7 fun n26 =>
  CV P F.crierref18_Device_Events [.agg [.bool b24, .int .i64 n25, .int .i64 n26].toArray] w7 fun v27 w28 =>
  ∃ n29 : Int, v27 = .int .i64 n29 ∧
  J22 (((decide (a2 ≥ n29)) : Bool)) w28)))
  fun (s30 : crierref18_Device_place_J6.S) w31 => crierref18_Device_place_j1 a1 a2 Q b6 s30 w31
def crierref18_Device_place_ann : Nat → Option LoopSpec := fun
  | 6 => some crierref18_Device_place_J6
  | 30 => some crierref18_Device_place_J30
  | _ => none
theorem crierref18_Device_place_eq (a0_0 : Bool) (a0_1 : Int) (a0_2 : Int) (a1 : Option Addr) (a2 : Int) (w : World) (Q : Value → World → Prop) : fnX P crierref18_Device_place_ann Try.f48 [.agg [.bool a0_0, .int .i64 a0_1, .int .i64 a0_2].toArray, .pointer a1, .int .i64 a2] w Q = crierref18_Device_place a0_0 a0_1 a0_2 a1 a2 w Q := by kernel_rfl
theorem crierref18_Device_place_cv {a0_0 : Bool} {a0_1 : Int} {a0_2 : Int} {a1 : Option Addr} {a2 : Int} {w : World} {Q : Value → World → Prop} (h : crierref18_Device_place a0_0 a0_1 a0_2 a1 a2 w Q) : CV P F.crierref18_Device_place [.agg [.bool a0_0, .int .i64 a0_1, .int .i64 a0_2].toArray, .pointer a1, .int .i64 a2] w Q := CV_of mixed Try.func48 (crierref18_Device_place_eq a0_0 a0_1 a0_2 a1 a2 w Q ▸ h)

/- 49 crier/crierref04.May -/
def crierref04_May_J6 : LoopSpec where
  S := Bool
  emb := fun s => [(16, .bool s)]
  ext := fun t => match getL t 16 with
    | some (.bool y4) => some (y4)
    | _ => none
  slots := [16]
  fits := fun _ => rfl
  ok := by
    intro t s h x hx
    (try dsimp only at h hx)
    split at h
    · cases h
      simp only [List.mem_cons, List.not_mem_nil, or_false] at hx
      rcases hx with rfl <;> assumption
    · cases h

def crierref04_May_J30 : LoopSpec where
  S := Bool
  emb := fun s => [(29, .bool s)]
  ext := fun t => match getL t 29 with
    | some (.bool y7) => some (y7)
    | _ => none
  slots := [29]
  fits := fun _ => rfl
  ok := by
    intro t s h x hx
    (try dsimp only at h hx)
    split at h
    · cases h
      simp only [List.mem_cons, List.not_mem_nil, or_false] at hx
      rcases hx with rfl <;> assumption
    · cases h

def crierref04_May_j0 (Q : Value → World → Prop) (b8 : Bool) (w9 : World) : Prop :=
 cnd b8
 (Q (.int .i64 42) w9)
 (Q (.int .i64 0) w9)

def crierref04_May_j1 (a0 : Int) (a1 : Int) (a2 : Int) (Q : Value → World → Prop) (b5 : Bool) (w6 : World) : Prop :=
 cnd b5
 (Q (.int .i64 40) w6)
 ((nz a2 <|
 cnd ((Int.tmod a1 a2) != 0)
 (Q (.int .i64 41) w6)
 (JoinT (fun (J10 : crierref04_May_J30.S → World → Prop) =>
  cnd (decide (a1 < 0))
  (J10 ((true : Bool)) w6)
  (J10 (((decide (a1 > (IntKind.i64.wrap (a0 - a2)))) : Bool)) w6))
  fun (s11 : crierref04_May_J30.S) w12 => crierref04_May_j0 Q s11 w12)))

def crierref04_May (a0 : Int) (a1 : Int) (a2 : Int) (w : World) (Q : Value → World → Prop) : Prop :=
 JoinT (fun (J13 : crierref04_May_J6.S → World → Prop) =>
  cnd (a2 != 1)
  (cnd (a2 != 4)
  (J13 (((a2 != 8) : Bool)) w)
  (J13 ((false : Bool)) w))
  (J13 ((false : Bool)) w))
  fun (s14 : crierref04_May_J6.S) w15 => crierref04_May_j1 a0 a1 a2 Q s14 w15
def crierref04_May_ann : Nat → Option LoopSpec := fun
  | 6 => some crierref04_May_J6
  | 30 => some crierref04_May_J30
  | _ => none
theorem crierref04_May_eq (a0 : Int) (a1 : Int) (a2 : Int) (w : World) (Q : Value → World → Prop) : fnX P crierref04_May_ann Try.f49 [.int .i64 a0, .int .i64 a1, .int .i64 a2] w Q = crierref04_May a0 a1 a2 w Q := by kernel_rfl
theorem crierref04_May_cv {a0 : Int} {a1 : Int} {a2 : Int} {w : World} {Q : Value → World → Prop} (h : crierref04_May a0 a1 a2 w Q) : CV P F.crierref04_May [.int .i64 a0, .int .i64 a1, .int .i64 a2] w Q := CV_of mixed Try.func49 (crierref04_May_eq a0 a1 a2 w Q ▸ h)

/- 50 crier/crierref18.power -/
def crierref18_power_L26 : LoopSpec where
  S := Int
  emb := fun s => [(3, .int .i64 s)]
  ext := fun t => match getL t 3 with
    | some (.int .i64 y2) => some (y2)
    | _ => none
  slots := [3]
  fits := fun _ => rfl
  ok := by
    intro t s h x hx
    (try dsimp only at h hx)
    split at h
    · cases h
      simp only [List.mem_cons, List.not_mem_nil, or_false] at hx
      rcases hx with rfl <;> assumption
    · cases h

def crierref18_power_l0 (a0 : Int) (Q : Value → World → Prop) (n3 : Int) (w4 : World) (A5 : crierref18_power_L26.S → World → Prop) : Prop :=
 cnd (decide (n3 ≤ 131072))
 (cnd (n3 == a0)
 (Q (.bool true) w4)
 (A5 (((IntKind.i64.wrap (2 * n3)) : Int)) w4))
 (Q (.bool false) w4)

def crierref18_power (a0 : Int) (w : World) (Q : Value → World → Prop) : Prop :=
 LoopT (fun (s6 : crierref18_power_L26.S) w7 A8 => crierref18_power_l0 a0 Q s6 w7 A8) ((8 : Int)) w
def crierref18_power_ann : Nat → Option LoopSpec := fun
  | 26 => some crierref18_power_L26
  | _ => none
theorem crierref18_power_eq (a0 : Int) (w : World) (Q : Value → World → Prop) : fnX P crierref18_power_ann Try.f50 [.int .i64 a0] w Q = crierref18_power a0 w Q := by kernel_rfl
theorem crierref18_power_cv {a0 : Int} {w : World} {Q : Value → World → Prop} (h : crierref18_power a0 w Q) : CV P F.crierref18_power [.int .i64 a0] w Q := CV_of mixed Try.func50 (crierref18_power_eq a0 w Q ▸ h)

/- 51 crier/crierref18.get -/
def crierref18_get_L58 : LoopSpec where
  S := Int × Int
  emb := fun s => [(6, .int .u64 s.1), (7, .int .i64 s.2)]
  ext := fun t => match getL t 6, getL t 7 with
    | some (.int .u64 y3), some (.int .i64 y4) => some (y3, y4)
    | _, _ => none
  slots := [6, 7]
  fits := fun _ => rfl
  ok := by
    intro t s h x hx
    (try dsimp only at h hx)
    split at h
    · cases h
      simp only [List.mem_cons, List.not_mem_nil, or_false] at hx
      rcases hx with rfl | rfl <;> assumption
    · cases h

def crierref18_get_l0 (a0 : Option Addr) (a1 : Int) (Q : Value → World → Prop) (n5 : Int) (n6 : Int) (w7 : World) (A8 : crierref18_get_L58.S → World → Prop) : Prop :=
 cnd (decide (n6 ≥ 0))
 (nn a0 fun a9 =>
 ldL a9 w7 fun p10 l11 c12 =>
 ix (IntKind.i64.wrap (a1 + n6)) l11 fun j13 => nn p10 fun a14 =>
 ldI .u8 (a14.add (j13 * 1)) w7 fun n15 =>
 A8 (((IntKind.u64.wrap ((IntKind.u64.wrap (n5 * 256)) + (IntKind.u64.wrap (n15)))) : Int), ((IntKind.i64.wrap (n6 - 1)) : Int)) w7)
 (Q (.tuple [.int .u64 n5, .bool (decide (n5 ≥ 9223372036854775808))].toArray) w7)

def crierref18_get (a0 : Option Addr) (a1 : Int) (w : World) (Q : Value → World → Prop) : Prop :=
 LoopT (fun (s16 : crierref18_get_L58.S) w17 A18 => crierref18_get_l0 a0 a1 Q s16.1 s16.2 w17 A18) ((0 : Int), (7 : Int)) w
def crierref18_get_ann : Nat → Option LoopSpec := fun
  | 58 => some crierref18_get_L58
  | _ => none
theorem crierref18_get_eq (a0 : Option Addr) (a1 : Int) (w : World) (Q : Value → World → Prop) : fnX P crierref18_get_ann Try.f51 [.pointer a0, .int .i64 a1] w Q = crierref18_get a0 a1 w Q := by kernel_rfl
theorem crierref18_get_cv {a0 : Option Addr} {a1 : Int} {w : World} {Q : Value → World → Prop} (h : crierref18_get a0 a1 w Q) : CV P F.crierref18_get [.pointer a0, .int .i64 a1] w Q := CV_of mixed Try.func51 (crierref18_get_eq a0 a1 w Q ▸ h)

/- 52 (crier/crierref18.Device).Events -/
def crierref18_Device_Events_L58 : LoopSpec where
  S := Int × Int
  emb := fun s => [(3, .int .i64 s.1), (4, .int .i64 s.2)]
  ext := fun t => match getL t 3, getL t 4 with
    | some (.int .i64 y6), some (.int .i64 y7) => some (y6, y7)
    | _, _ => none
  slots := [3, 4]
  fits := fun _ => rfl
  ok := by
    intro t s h x hx
    (try dsimp only at h hx)
    split at h
    · cases h
      simp only [List.mem_cons, List.not_mem_nil, or_false] at hx
      rcases hx with rfl | rfl <;> assumption
    · cases h

def crierref18_Device_Events_J232 : LoopSpec where
  S := Bool
  emb := fun s => [(12, .bool s)]
  ext := fun t => match getL t 12 with
    | some (.bool y12) => some (y12)
    | _ => none
  slots := [12]
  fits := fun _ => rfl
  ok := by
    intro t s h x hx
    (try dsimp only at h hx)
    split at h
    · cases h
      simp only [List.mem_cons, List.not_mem_nil, or_false] at hx
      rcases hx with rfl <;> assumption
    · cases h

def crierref18_Device_Events_j0 (Q : Value → World → Prop) (n8 : Int) (n9 : Int) (A11 : crierref18_Device_Events_L58.S → World → Prop) (b13 : Bool) (w14 : World) : Prop :=
 cnd b13
 (A11 (((IntKind.i64.wrap (2 * n8)) : Int), ((IntKind.i64.wrap (n9 + 1)) : Int)) w14)
 (Q (.int .i64 n8) w14)

def crierref18_Device_Events_l1 (Q : Value → World → Prop) (b4 : Nat) (n8 : Int) (n9 : Int) (w10 : World) (A11 : crierref18_Device_Events_L58.S → World → Prop) : Prop :=
 JoinT (fun (J15 : crierref18_Device_Events_J232.S → World → Prop) =>
  ldI .i64 ⟨b4, 1, none⟩ w10 fun n16 =>
  cnd (decide (n9 < n16))
  (J15 (((decide (n9 < 31)) : Bool)) w10)
  (J15 ((false : Bool)) w10))
  fun (s17 : crierref18_Device_Events_J232.S) w18 => crierref18_Device_Events_j0 Q n8 n9 A11 s17 w18

def crierref18_Device_Events (a0_0 : Bool) (a0_1 : Int) (a0_2 : Int) (w : World) (Q : Value → World → Prop) : Prop :=
 alc [.bool a0_0, .int .i64 a0_1, .int .i64 a0_2] T.t91 w fun b4 w5 =>
 LoopT (fun (s19 : crierref18_Device_Events_L58.S) w20 A21 => crierref18_Device_Events_l1 Q b4 s19.1 s19.2 w20 A21) ((2 : Int), (0 : Int)) w5
def crierref18_Device_Events_ann : Nat → Option LoopSpec := fun
  | 58 => some crierref18_Device_Events_L58
  | 232 => some crierref18_Device_Events_J232
  | _ => none
theorem crierref18_Device_Events_eq (a0_0 : Bool) (a0_1 : Int) (a0_2 : Int) (w : World) (Q : Value → World → Prop) : fnX P crierref18_Device_Events_ann Try.f52 [.agg [.bool a0_0, .int .i64 a0_1, .int .i64 a0_2].toArray] w Q = crierref18_Device_Events a0_0 a0_1 a0_2 w Q := by kernel_rfl
theorem crierref18_Device_Events_cv {a0_0 : Bool} {a0_1 : Int} {a0_2 : Int} {w : World} {Q : Value → World → Prop} (h : crierref18_Device_Events a0_0 a0_1 a0_2 w Q) : CV P F.crierref18_Device_Events [.agg [.bool a0_0, .int .i64 a0_1, .int .i64 a0_2].toArray] w Q := CV_of mixed Try.func52 (crierref18_Device_Events_eq a0_0 a0_1 a0_2 w Q ▸ h)

end Go.Proofs.Ythoieihffbahpaa
