/-
  The functions' words, printed by Gen.lean out of the translation: each word's equation with the code is asked of the kernel.
-/
import Derived.Test.YtmobpenjbaaicaaX8
import Derived.Test.YtmobpenjbaaicaaChecked
namespace Go.Proofs.Ytmobpenjbaaicaa
open Go X
set_option maxRecDepth 100000
set_option linter.unusedVariables false
noncomputable abbrev P : Program := Try.prog
theorem mixed : P.follows .mixedOrders = true := Checked.mixed Try.checked
abbrev F.main_main : FuncId := 0
abbrev F.gosem_cut : FuncId := 1
abbrev F.gosem_cut_init : FuncId := 2
abbrev F.crierlaw25_ShadowKeeps : FuncId := 3
abbrev F.crierlaw25_ShadowFull : FuncId := 4
abbrev F.crierlaw25_ShadowBound : FuncId := 5
abbrev F.crierlaw25_ShadowOne : FuncId := 6
abbrev F.crierlaw25_ShadowOf : FuncId := 7
abbrev F.crierlaw25_ShadowDoes : FuncId := 8
abbrev F.crierlaw25_awake : FuncId := 9
abbrev F.crierlaw25_played : FuncId := 10
abbrev F.shadow_Shadow_Bind : FuncId := 11
abbrev F.shadow_Shadow_Free : FuncId := 12
abbrev F.shadow_Shadow_Number : FuncId := 13
abbrev F.shadow_May : FuncId := 14
abbrev F.shadow_Shadow_Len : FuncId := 15
abbrev F.crierlaw25_list : FuncId := 16
abbrev F.crierref01_Same : FuncId := 17
abbrev F.shadow_Shadow_All : FuncId := 18
abbrev F.shadow_Shadow_Event : FuncId := 19
abbrev F.crierref01_Has : FuncId := 20
abbrev F.shadow_Shadow_Of : FuncId := 21
abbrev F.shadow_New : FuncId := 22
abbrev F.crierref25_New : FuncId := 23
abbrev F.shadow_Shadow_Copy : FuncId := 24
abbrev F.crierlaw25_does : FuncId := 25
abbrev F.crierlaw25_alike : FuncId := 26
abbrev F.book_Book_int__int_Get : FuncId := 27
abbrev F.shadow_keyed : FuncId := 28
abbrev F.book_Book_int__int_Has : FuncId := 29
abbrev F.book_Book_int__int_Put : FuncId := 30
abbrev F.book_Book_int__int_Take : FuncId := 31
abbrev F.book_Book_int__int_Len : FuncId := 32
abbrev F.book_Book_int__int_All : FuncId := 33
abbrev F.shadow_Shadow_All_1 : FuncId := 34
abbrev F.shadow_unkeyed : FuncId := 35
abbrev F.shadow_Shadow_Of_1 : FuncId := 36
abbrev F.book_New_int_int : FuncId := 37
abbrev F.book_Book_int__int_Copy : FuncId := 38
abbrev F.crierref25_Shadow_Bind : FuncId := 39
abbrev F.crierref25_Shadow_Free : FuncId := 40
abbrev F.crierref25_Shadow_All : FuncId := 41
abbrev F.crierref25_Shadow_Find : FuncId := 42
abbrev F.crierref25_May : FuncId := 43
abbrev F.slices_BinarySearch__int_int : FuncId := 44
abbrev F.slices_Insert__int_int : FuncId := 45
abbrev F.slices_Delete__int_int : FuncId := 46
abbrev F.book_through_int_int : FuncId := 47
abbrev F.slices_Clone__int_int : FuncId := 48
abbrev F.cmp_Less_int : FuncId := 49
abbrev F.slices_isNaN_int : FuncId := 50
abbrev F.slices_overlaps_int : FuncId := 51
abbrev F.slices_rotateRight_int : FuncId := 52
abbrev F.book_through_int_int_1 : FuncId := 53
abbrev F.cmp_isNaN_int : FuncId := 54
abbrev F.slices_rotateLeft_int : FuncId := 55
abbrev F.slices_Reverse__int_int : FuncId := 56
abbrev F.runtime_boundsError_Error : FuncId := 57
abbrev F.runtime_boundsError_RuntimeError : FuncId := 58
abbrev F.runtime_errorString_Error : FuncId := 59
abbrev F.runtime_errorString_RuntimeError : FuncId := 60
abbrev F.runtime_plainError_Error : FuncId := 61
abbrev F.runtime_plainError_RuntimeError : FuncId := 62
abbrev F.runtime_errorAddressString_Error : FuncId := 63
abbrev F.runtime_errorAddressString_RuntimeError : FuncId := 64
abbrev F.runtime_TypeAssertionError_Error : FuncId := 65
abbrev F.runtime_TypeAssertionError_RuntimeError : FuncId := 66
abbrev F.runtime_PanicNilError_Error : FuncId := 67
abbrev F.runtime_PanicNilError_RuntimeError : FuncId := 68
abbrev F.internal_abi_Type_Align : FuncId := 69
abbrev F.internal_runtime_maps_unhashableTypeError_Error : FuncId := 70
abbrev F.internal_runtime_maps_unhashableTypeError_RuntimeError : FuncId := 71
abbrev F.api_Errno_Error : FuncId := 72
abbrev F.internal_abi_Kind_String : FuncId := 73
abbrev T.t0 : TypeId := 0
abbrev T.t1 : TypeId := 1
abbrev T.t2 : TypeId := 2
abbrev T.t3 : TypeId := 3
abbrev T.t4 : TypeId := 4
abbrev T.t5 : TypeId := 5
abbrev T.t6 : TypeId := 6
abbrev T.t7 : TypeId := 7
abbrev T.t8 : TypeId := 8
abbrev T.t9 : TypeId := 9
abbrev T.t10 : TypeId := 10
abbrev T.t11 : TypeId := 11
abbrev T.t12 : TypeId := 12
abbrev T.t13 : TypeId := 13
abbrev T.t14 : TypeId := 14
abbrev T.t15 : TypeId := 15
abbrev T.t16 : TypeId := 16
abbrev T.t17 : TypeId := 17
abbrev T.t18 : TypeId := 18
abbrev T.t19 : TypeId := 19
abbrev T.t20 : TypeId := 20
abbrev T.t21 : TypeId := 21
abbrev T.t22 : TypeId := 22
abbrev T.t23 : TypeId := 23
abbrev T.t24 : TypeId := 24
abbrev T.t25 : TypeId := 25
abbrev T.t26 : TypeId := 26
abbrev T.t27 : TypeId := 27
abbrev T.t28 : TypeId := 28
abbrev T.t29 : TypeId := 29
abbrev T.t30 : TypeId := 30
abbrev T.t31 : TypeId := 31
abbrev T.t32 : TypeId := 32
abbrev T.t33 : TypeId := 33
abbrev T.t34 : TypeId := 34
abbrev T.t35 : TypeId := 35
abbrev T.t36 : TypeId := 36
abbrev T.t37 : TypeId := 37
abbrev T.t38 : TypeId := 38
abbrev T.t39 : TypeId := 39
abbrev T.t40 : TypeId := 40
abbrev T.t41 : TypeId := 41
abbrev T.t42 : TypeId := 42
abbrev T.t43 : TypeId := 43
abbrev T.t44 : TypeId := 44
abbrev T.t45 : TypeId := 45
abbrev T.t46 : TypeId := 46
abbrev T.t47 : TypeId := 47
abbrev T.t48 : TypeId := 48
abbrev T.t49 : TypeId := 49
abbrev T.t50 : TypeId := 50
abbrev T.t51 : TypeId := 51
abbrev T.t52 : TypeId := 52
abbrev T.t53 : TypeId := 53
abbrev T.t54 : TypeId := 54
abbrev T.t55 : TypeId := 55
abbrev T.t56 : TypeId := 56
abbrev T.t57 : TypeId := 57
abbrev T.t58 : TypeId := 58
abbrev T.t59 : TypeId := 59
abbrev T.t60 : TypeId := 60
abbrev T.t61 : TypeId := 61
abbrev T.t62 : TypeId := 62
abbrev T.t63 : TypeId := 63
abbrev T.t64 : TypeId := 64
abbrev T.t65 : TypeId := 65
abbrev T.t66 : TypeId := 66
abbrev T.t67 : TypeId := 67
abbrev T.t68 : TypeId := 68
abbrev T.t69 : TypeId := 69
abbrev T.t70 : TypeId := 70
abbrev T.t71 : TypeId := 71
abbrev T.t72 : TypeId := 72
abbrev T.t73 : TypeId := 73
abbrev T.t74 : TypeId := 74
abbrev T.t75 : TypeId := 75
abbrev T.t76 : TypeId := 76
abbrev T.t77 : TypeId := 77
abbrev T.t78 : TypeId := 78
abbrev T.t79 : TypeId := 79
abbrev T.t80 : TypeId := 80
abbrev T.t81 : TypeId := 81
abbrev T.t82 : TypeId := 82
abbrev T.t83 : TypeId := 83
abbrev T.t84 : TypeId := 84
abbrev T.t85 : TypeId := 85
abbrev T.t86 : TypeId := 86
abbrev T.t87 : TypeId := 87
abbrev T.t88 : TypeId := 88
abbrev T.t89 : TypeId := 89
abbrev T.t90 : TypeId := 90
abbrev T.t91 : TypeId := 91
abbrev T.t92 : TypeId := 92
abbrev T.t93 : TypeId := 93
abbrev T.t94 : TypeId := 94
abbrev T.t95 : TypeId := 95
abbrev T.t96 : TypeId := 96
abbrev T.t97 : TypeId := 97
abbrev T.t98 : TypeId := 98
abbrev T.t99 : TypeId := 99
abbrev T.t100 : TypeId := 100
abbrev T.t101 : TypeId := 101
abbrev T.t102 : TypeId := 102
abbrev T.t103 : TypeId := 103
/- 3 crier/crierlaw25.ShadowKeeps -/
def crierlaw25_ShadowKeeps_J62 : LoopSpec where
  S := Bool
  emb := fun s => [(31, .bool s)]
  ext := fun t => match getL t 31 with
    | some (.bool y18) => some (y18)
    | _ => none
  slots := [31]
  fits := fun _ => rfl
  ok := by
    intro t s h x hx
    (try dsimp only at h hx)
    split at h
    · cases h
      simp only [List.mem_cons, List.not_mem_nil, or_false] at hx
      rcases hx with rfl <;> assumption
    · cases h

def crierlaw25_ShadowKeeps_L2042 : LoopSpec where
  S := Int
  emb := fun s => [(13, .int .i64 s)]
  ext := fun t => match getL t 13 with
    | some (.int .i64 y27) => some (y27)
    | _ => none
  slots := [13]
  fits := fun _ => rfl
  ok := by
    intro t s h x hx
    (try dsimp only at h hx)
    split at h
    · cases h
      simp only [List.mem_cons, List.not_mem_nil, or_false] at hx
      rcases hx with rfl <;> assumption
    · cases h

def crierlaw25_ShadowKeeps_J32676 : LoopSpec where
  S := Unit
  emb := fun _ => []
  ext := fun _ => some ()
  slots := []
  fits := fun _ => rfl
  ok := by
    intro t s h x hx; cases hx

def crierlaw25_ShadowKeeps_J65353 : LoopSpec where
  S := Unit
  emb := fun _ => []
  ext := fun _ => some ()
  slots := []
  fits := fun _ => rfl
  ok := by
    intro t s h x hx; cases hx

def crierlaw25_ShadowKeeps_J261415 : LoopSpec where
  S := Bool
  emb := fun s => [(95, .bool s)]
  ext := fun t => match getL t 95 with
    | some (.bool y39) => some (y39)
    | _ => none
  slots := [95]
  fits := fun _ => rfl
  ok := by
    intro t s h x hx
    (try dsimp only at h hx)
    split at h
    · cases h
      simp only [List.mem_cons, List.not_mem_nil, or_false] at hx
      rcases hx with rfl <;> assumption
    · cases h

def crierlaw25_ShadowKeeps_j0 (Q : Value → World → Prop) (n28 : Int) (A30 : crierlaw25_ShadowKeeps_L2042.S → World → Prop) (b40 : Bool) (w41 : World) : Prop :=
 cnd b40
 (Q (.bool false) w41)
 (A30 (((IntKind.i64.wrap (n28 + 1)) : Int)) w41)

def crierlaw25_ShadowKeeps_j1 (Q : Value → World → Prop) (b10 : Nat) (p17 : Option Addr) (n25 : Int) (n28 : Int) (A30 : crierlaw25_ShadowKeeps_L2042.S → World → Prop) (w32 : World) : Prop :=
 ldI .i64 ⟨b10, 0, none⟩ w32 fun n33 =>
 ldI .i64 ⟨b10, 1, none⟩ w32 fun n34 =>
 CV P F.shadow_Shadow_Number [.pointer p17, .agg [.int .i64 n33, .int .i64 n34].toArray] w32 fun v35 w36 =>
 ∃ n37 : Int, ∃ n38 : Int, v35 = .tuple [.int .i64 n37, .int .i64 n38].toArray ∧
 JoinT (fun (J42 : crierlaw25_ShadowKeeps_J261415.S → World → Prop) =>
  cnd (n38 != 0)
  (J42 ((true : Bool)) w36)
  (J42 (((n37 != n25) : Bool)) w36))
  fun (s43 : crierlaw25_ShadowKeeps_J261415.S) w44 => crierlaw25_ShadowKeeps_j0 Q n28 A30 s43 w44

def crierlaw25_ShadowKeeps_J130706 : LoopSpec where
  S := Bool
  emb := fun s => [(75, .bool s)]
  ext := fun t => match getL t 75 with
    | some (.bool y46) => some (y46)
    | _ => none
  slots := [75]
  fits := fun _ => rfl
  ok := by
    intro t s h x hx
    (try dsimp only at h hx)
    split at h
    · cases h
      simp only [List.mem_cons, List.not_mem_nil, or_false] at hx
      rcases hx with rfl <;> assumption
    · cases h

def crierlaw25_ShadowKeeps_j2 (a3 : Option Addr) (a3_n : Nat) (p17 : Option Addr) (n28 : Int) (J45 : crierlaw25_ShadowKeeps_J65353.S → World → Prop) (b47 : Bool) (w48 : World) : Prop :=
 cnd b47
 (ix n28 a3_n fun j49 => nn a3 fun a50 =>
 ldI .i64 ((a50.add (j49 * 3)).add 1) w48 fun n51 =>
 ldI .i64 (((a50.add (j49 * 3)).add 1).add 1) w48 fun n52 =>
 CV P F.shadow_Shadow_Free [.pointer p17, .agg [.int .i64 n51, .int .i64 n52].toArray] w48 fun v53 w54 =>
 ∃ n55 : Int, ∃ n56 : Int, v53 = .tuple [.int .i64 n55, .int .i64 n56].toArray ∧
 J45 () w54)
 (J45 () w48)

def crierlaw25_ShadowKeeps_j3 (a3 : Option Addr) (a3_n : Nat) (Q : Value → World → Prop) (b10 : Nat) (p17 : Option Addr) (n25 : Int) (n28 : Int) (A30 : crierlaw25_ShadowKeeps_L2042.S → World → Prop) (w31 : World) : Prop :=
 JoinT (fun (J45 : crierlaw25_ShadowKeeps_J65353.S → World → Prop) =>
  JoinT (fun (J57 : crierlaw25_ShadowKeeps_J130706.S → World → Prop) =>
   drw w31 fun w58 =>
   ix n28 a3_n fun j59 => nn a3 fun a60 =>
   ldI .i64 (a60.add (j59 * 3)) w58 fun n61 =>
   cnd (n61 == 2)
   (ix n28 a3_n fun j62 => nn a3 fun a63 =>
   ldI .i64 ((a63.add (j62 * 3)).add 1) w58 fun n64 =>
   ldI .i64 (((a63.add (j62 * 3)).add 1).add 1) w58 fun n65 =>
   ldI .i64 ⟨b10, 0, none⟩ w58 fun n66 =>
   ldI .i64 ⟨b10, 1, none⟩ w58 fun n67 =>
   eqA P .neq T.t24 (.agg [.int .i64 n64, .int .i64 n65].toArray) (.agg [.int .i64 n66, .int .i64 n67].toArray) w58 fun b68 =>
   J57 ((b68 : Bool)) w58)
   (J57 ((false : Bool)) w58))
   fun (s69 : crierlaw25_ShadowKeeps_J130706.S) w70 => crierlaw25_ShadowKeeps_j2 a3 a3_n p17 n28 J45 s69 w70)
  fun (s71 : crierlaw25_ShadowKeeps_J65353.S) w72 => crierlaw25_ShadowKeeps_j1 Q b10 p17 n25 n28 A30 w72

def crierlaw25_ShadowKeeps_J2047 : LoopSpec where
  S := Bool
  emb := fun s => [(8, .bool s)]
  ext := fun t => match getL t 8 with
    | some (.bool y99) => some (y99)
    | _ => none
  slots := [8]
  fits := fun _ => rfl
  ok := by
    intro t s h x hx
    (try dsimp only at h hx)
    split at h
    · cases h
      simp only [List.mem_cons, List.not_mem_nil, or_false] at hx
      rcases hx with rfl <;> assumption
    · cases h

def crierlaw25_ShadowKeeps_j4 (Q : Value → World → Prop) (b100 : Bool) (w101 : World) : Prop :=
 Q (.bool b100) w101

def crierlaw25_ShadowKeeps_l5 (a3 : Option Addr) (a3_n : Nat) (Q : Value → World → Prop) (b10 : Nat) (p17 : Option Addr) (n25 : Int) (n28 : Int) (w29 : World) (A30 : crierlaw25_ShadowKeeps_L2042.S → World → Prop) : Prop :=
 cnd (decide (n28 < ((a3_n : Nat) : Int)))
 (JoinT (fun (J73 : crierlaw25_ShadowKeeps_J32676.S → World → Prop) =>
  ix n28 a3_n fun j74 => nn a3 fun a75 =>
  ldI .i64 (a75.add (j74 * 3)) w29 fun n76 =>
  cnd (n76 == 1)
  (ix n28 a3_n fun j77 => nn a3 fun a78 =>
  ldI .i64 ((a78.add (j77 * 3)).add 1) w29 fun n79 =>
  ldI .i64 (((a78.add (j77 * 3)).add 1).add 1) w29 fun n80 =>
  CV P F.shadow_Shadow_Bind [.pointer p17, .agg [.int .i64 n79, .int .i64 n80].toArray] w29 fun v81 w82 =>
  ∃ n83 : Int, ∃ n84 : Int, v81 = .tuple [.int .i64 n83, .int .i64 n84].toArray ∧
  J73 () w82)
  (J73 () w29))
  fun (s85 : crierlaw25_ShadowKeeps_J32676.S) w86 => crierlaw25_ShadowKeeps_j3 a3 a3_n Q b10 p17 n25 n28 A30 w86)
 (ldI .i64 ⟨b10, 0, none⟩ w29 fun n87 =>
 ldI .i64 ⟨b10, 1, none⟩ w29 fun n88 =>
 CV P F.shadow_Shadow_Free [.pointer p17, .agg [.int .i64 n87, .int .i64 n88].toArray] w29 fun v89 w90 =>
 ∃ n91 : Int, ∃ n92 : Int, v89 = .tuple [.int .i64 n91, .int .i64 n92].toArray ∧
 ldI .i64 ⟨b10, 0, none⟩ w90 fun n93 =>
 ldI .i64 ⟨b10, 1, none⟩ w90 fun n94 =>
 CV P F.shadow_Shadow_Number [.pointer p17, .agg [.int .i64 n93, .int .i64 n94].toArray] w90 fun v95 w96 =>
 ∃ n97 : Int, ∃ n98 : Int, v95 = .tuple [.int .i64 n97, .int .i64 n98].toArray ∧
 JoinT (fun (J102 : crierlaw25_ShadowKeeps_J2047.S → World → Prop) =>
  cnd (n91 == n25)
  (cnd (n92 == 0)
  (J102 (((n98 == 250) : Bool)) w96)
  (J102 ((false : Bool)) w96))
  (J102 ((false : Bool)) w96))
  fun (s103 : crierlaw25_ShadowKeeps_J2047.S) w104 => crierlaw25_ShadowKeeps_j4 Q s103 w104)

def crierlaw25_ShadowKeeps_j6 (a3 : Option Addr) (a3_n : Nat) (Q : Value → World → Prop) (b10 : Nat) (p17 : Option Addr) (b19 : Bool) (w20 : World) : Prop :=
 cnd b19
 (Q (.bool false) w20)
 (ldI .i64 ⟨b10, 0, none⟩ w20 fun n21 =>
 ldI .i64 ⟨b10, 1, none⟩ w20 fun n22 =>
 CV P F.shadow_Shadow_Bind [.pointer p17, .agg [.int .i64 n21, .int .i64 n22].toArray] w20 fun v23 w24 =>
 ∃ n25 : Int, ∃ n26 : Int, v23 = .tuple [.int .i64 n25, .int .i64 n26].toArray ∧
 cnd (n26 != 0)
 (Q (.bool (n25 == 0)) w24)
 (LoopT (fun (s105 : crierlaw25_ShadowKeeps_L2042.S) w106 A107 => crierlaw25_ShadowKeeps_l5 a3 a3_n Q b10 p17 n25 s105 w106 A107) ((0 : Int)) w24))

def crierlaw25_ShadowKeeps (a0 : Int) (a1 : Option Addr) (a1_n : Nat) (a1_c : Nat) (a2_0 : Int) (a2_1 : Int) (a3 : Option Addr) (a3_n : Nat) (a3_c : Nat) (w : World) (Q : Value → World → Prop) : Prop :=
 alc [.int .i64 a2_0, .int .i64 a2_1] T.t24 w fun b10 w11 =>
 CV P F.crierlaw25_awake [] w11 fun v12 w13 =>
 ∃ b14 : Bool, v12 = .bool b14 ∧
 cnd (!b14)
 (Q (.bool false) w13)
 (CV P F.crierlaw25_played [.int .u8 a0, .slice a1 a1_n a1_c] w13 fun v15 w16 =>
 ∃ p17 : Option Addr, v15 = .pointer p17 ∧
 JoinT (fun (J108 : crierlaw25_ShadowKeeps_J62.S → World → Prop) =>
  cnd (!b14)
  (J108 ((true : Bool)) w16)
  (J108 (((Option.isNone p17) : Bool)) w16))
  fun (s109 : crierlaw25_ShadowKeeps_J62.S) w110 => crierlaw25_ShadowKeeps_j6 a3 a3_n Q b10 p17 s109 w110)
def crierlaw25_ShadowKeeps_ann : Nat → Option LoopSpec := fun
  | 62 => some crierlaw25_ShadowKeeps_J62
  | 2042 => some crierlaw25_ShadowKeeps_L2042
  | 32676 => some crierlaw25_ShadowKeeps_J32676
  | 65353 => some crierlaw25_ShadowKeeps_J65353
  | 261415 => some crierlaw25_ShadowKeeps_J261415
  | 130706 => some crierlaw25_ShadowKeeps_J130706
  | 261412 => some (ordSpec [0, 1, 2, 3, 4, 5, 6, 7, 8, 9, 10, 11, 12, 13, 14])
  | 2047 => some crierlaw25_ShadowKeeps_J2047
  | _ => none
theorem crierlaw25_ShadowKeeps_eq (a0 : Int) (a1 : Option Addr) (a1_n : Nat) (a1_c : Nat) (a2_0 : Int) (a2_1 : Int) (a3 : Option Addr) (a3_n : Nat) (a3_c : Nat) (w : World) (Q : Value → World → Prop) : fnX P crierlaw25_ShadowKeeps_ann Try.f3 [.int .u8 a0, .slice a1 a1_n a1_c, .agg [.int .i64 a2_0, .int .i64 a2_1].toArray, .slice a3 a3_n a3_c] w Q = crierlaw25_ShadowKeeps a0 a1 a1_n a1_c a2_0 a2_1 a3 a3_n a3_c w Q := by kernel_rfl
theorem crierlaw25_ShadowKeeps_cv {a0 : Int} {a1 : Option Addr} {a1_n : Nat} {a1_c : Nat} {a2_0 : Int} {a2_1 : Int} {a3 : Option Addr} {a3_n : Nat} {a3_c : Nat} {w : World} {Q : Value → World → Prop} (h : crierlaw25_ShadowKeeps a0 a1 a1_n a1_c a2_0 a2_1 a3 a3_n a3_c w Q) : CV P F.crierlaw25_ShadowKeeps [.int .u8 a0, .slice a1 a1_n a1_c, .agg [.int .i64 a2_0, .int .i64 a2_1].toArray, .slice a3 a3_n a3_c] w Q := CV_of mixed Try.func3 (crierlaw25_ShadowKeeps_eq a0 a1 a1_n a1_c a2_0 a2_1 a3 a3_n a3_c w Q ▸ h)

/- 4 crier/crierlaw25.ShadowFull -/
def crierlaw25_ShadowFull_J62 : LoopSpec where
  S := Bool
  emb := fun s => [(36, .bool s)]
  ext := fun t => match getL t 36 with
    | some (.bool y19) => some (y19)
    | _ => none
  slots := [36]
  fits := fun _ => rfl
  ok := by
    intro t s h x hx
    (try dsimp only at h hx)
    split at h
    · cases h
      simp only [List.mem_cons, List.not_mem_nil, or_false] at hx
      rcases hx with rfl <;> assumption
    · cases h

def crierlaw25_ShadowFull_J250 : LoopSpec where
  S := Bool
  emb := fun s => [(8, .bool s)]
  ext := fun t => match getL t 8 with
    | some (.bool y22) => some (y22)
    | _ => none
  slots := [8]
  fits := fun _ => rfl
  ok := by
    intro t s h x hx
    (try dsimp only at h hx)
    split at h
    · cases h
      simp only [List.mem_cons, List.not_mem_nil, or_false] at hx
      rcases hx with rfl <;> assumption
    · cases h

def crierlaw25_ShadowFull_j0 (Q : Value → World → Prop) (b23 : Bool) (w24 : World) : Prop :=
 Q (.bool b23) w24

def crierlaw25_ShadowFull_J1022 : LoopSpec where
  S := Bool
  emb := fun s => [(75, .bool s)]
  ext := fun t => match getL t 75 with
    | some (.bool y43) => some (y43)
    | _ => none
  slots := [75]
  fits := fun _ => rfl
  ok := by
    intro t s h x hx
    (try dsimp only at h hx)
    split at h
    · cases h
      simp only [List.mem_cons, List.not_mem_nil, or_false] at hx
      rcases hx with rfl <;> assumption
    · cases h

def crierlaw25_ShadowFull_J16383 : LoopSpec where
  S := Bool
  emb := fun s => [(8, .bool s)]
  ext := fun t => match getL t 8 with
    | some (.bool y64) => some (y64)
    | _ => none
  slots := [8]
  fits := fun _ => rfl
  ok := by
    intro t s h x hx
    (try dsimp only at h hx)
    split at h
    · cases h
      simp only [List.mem_cons, List.not_mem_nil, or_false] at hx
      rcases hx with rfl <;> assumption
    · cases h

def crierlaw25_ShadowFull_j1 (Q : Value → World → Prop) (b65 : Bool) (w66 : World) : Prop :=
 Q (.bool b65) w66

def crierlaw25_ShadowFull_j2 (Q : Value → World → Prop) (b9 : Nat) (b11 : Nat) (p18 : Option Addr) (n41 : Int) (n42 : Int) (b44 : Bool) (w45 : World) : Prop :=
 cnd b44
 (Q (.bool false) w45)
 (cnd (n42 != 0)
 (Q (.bool (n41 == 0)) w45)
 (ldI .i64 ⟨b9, 0, none⟩ w45 fun n46 =>
 ldI .i64 ⟨b9, 1, none⟩ w45 fun n47 =>
 CV P F.shadow_Shadow_Free [.pointer p18, .agg [.int .i64 n46, .int .i64 n47].toArray] w45 fun v48 w49 =>
 ∃ n50 : Int, ∃ n51 : Int, v48 = .tuple [.int .i64 n50, .int .i64 n51].toArray ∧
 ldI .i64 ⟨b11, 0, none⟩ w49 fun n52 =>
 ldI .i64 ⟨b11, 1, none⟩ w49 fun n53 =>
 CV P F.shadow_Shadow_Number [.pointer p18, .agg [.int .i64 n52, .int .i64 n53].toArray] w49 fun v54 w55 =>
 ∃ n56 : Int, ∃ n57 : Int, v54 = .tuple [.int .i64 n56, .int .i64 n57].toArray ∧
 ldI .i64 ⟨b11, 0, none⟩ w55 fun n58 =>
 ldI .i64 ⟨b11, 1, none⟩ w55 fun n59 =>
 CV P F.shadow_Shadow_Bind [.pointer p18, .agg [.int .i64 n58, .int .i64 n59].toArray] w55 fun v60 w61 =>
 ∃ n62 : Int, ∃ n63 : Int, v60 = .tuple [.int .i64 n62, .int .i64 n63].toArray ∧
 JoinT (fun (J67 : crierlaw25_ShadowFull_J16383.S → World → Prop) =>
  cnd (n57 == 0)
  (J67 ((true : Bool)) w61)
  (ldI .i64 ⟨b11, 0, none⟩ w61 fun n68 =>
  ldI .i64 ⟨b11, 1, none⟩ w61 fun n69 =>
  CV P F.shadow_May [.agg [.int .i64 n68, .int .i64 n69].toArray] w61 fun v70 w71 =>
  ∃ b72 : Bool, v70 = .bool b72 ∧
  cnd (!b72)
  (J67 ((true : Bool)) w71)
  (cnd (n63 == 0)
  (J67 (((decide (n62 ≤ n41)) : Bool)) w71)
  (J67 ((false : Bool)) w71))))
  fun (s73 : crierlaw25_ShadowFull_J16383.S) w74 => crierlaw25_ShadowFull_j1 Q s73 w74))

def crierlaw25_ShadowFull_j3 (a0 : Int) (Q : Value → World → Prop) (b9 : Nat) (b11 : Nat) (b15 : Bool) (p18 : Option Addr) (b20 : Bool) (w21 : World) : Prop :=
 cnd b20
 (JoinT (fun (J25 : crierlaw25_ShadowFull_J250.S → World → Prop) =>
  cnd b15
  (J25 (((!(Option.isNone p18)) : Bool)) w21)
  (J25 ((false : Bool)) w21))
  fun (s26 : crierlaw25_ShadowFull_J250.S) w27 => crierlaw25_ShadowFull_j0 Q s26 w27)
 (ldI .i64 ⟨b9, 0, none⟩ w21 fun n28 =>
 ldI .i64 ⟨b9, 1, none⟩ w21 fun n29 =>
 CV P F.shadow_Shadow_Number [.pointer p18, .agg [.int .i64 n28, .int .i64 n29].toArray] w21 fun v30 w31 =>
 ∃ n32 : Int, ∃ n33 : Int, v30 = .tuple [.int .i64 n32, .int .i64 n33].toArray ∧
 CV P F.shadow_Shadow_Len [.pointer p18] w31 fun v34 w35 =>
 ∃ n36 : Int, v34 = .int .i64 n36 ∧
 (nz 41 <|
 ldI .i64 ⟨b9, 0, none⟩ w35 fun n37 =>
 ldI .i64 ⟨b9, 1, none⟩ w35 fun n38 =>
 CV P F.shadow_Shadow_Bind [.pointer p18, .agg [.int .i64 n37, .int .i64 n38].toArray] w35 fun v39 w40 =>
 ∃ n41 : Int, ∃ n42 : Int, v39 = .tuple [.int .i64 n41, .int .i64 n42].toArray ∧
 JoinT (fun (J75 : crierlaw25_ShadowFull_J1022.S → World → Prop) =>
  cnd (n36 == (IntKind.i64.wrap ((Int.tmod a0 41))))
  (cnd (!((n42 == 2) == (n33 != 0)))
  (J75 ((true : Bool)) w40)
  (cnd (n42 != 0)
  (J75 (((n42 != 2) : Bool)) w40)
  (J75 ((false : Bool)) w40)))
  (cnd (!((n42 == 2) == false))
  (J75 ((true : Bool)) w40)
  (cnd (n42 != 0)
  (J75 (((n42 != 2) : Bool)) w40)
  (J75 ((false : Bool)) w40))))
  fun (s76 : crierlaw25_ShadowFull_J1022.S) w77 => crierlaw25_ShadowFull_j2 Q b9 b11 p18 n41 n42 s76 w77))

def crierlaw25_ShadowFull (a0 : Int) (a1 : Option Addr) (a1_n : Nat) (a1_c : Nat) (a2_0 : Int) (a2_1 : Int) (a3_0 : Int) (a3_1 : Int) (w : World) (Q : Value → World → Prop) : Prop :=
 alc [.int .i64 a2_0, .int .i64 a2_1] T.t24 w fun b9 w10 =>
 alc [.int .i64 a3_0, .int .i64 a3_1] T.t24 w10 fun b11 w12 =>
 CV P F.crierlaw25_awake [] w12 fun v13 w14 =>
 ∃ b15 : Bool, v13 = .bool b15 ∧
 cnd (!b15)
 (Q (.bool false) w14)
 (CV P F.crierlaw25_played [.int .u8 a0, .slice a1 a1_n a1_c] w14 fun v16 w17 =>
 ∃ p18 : Option Addr, v16 = .pointer p18 ∧
 JoinT (fun (J78 : crierlaw25_ShadowFull_J62.S → World → Prop) =>
  cnd (!b15)
  (J78 ((true : Bool)) w17)
  (cnd (Option.isNone p18)
  (J78 ((true : Bool)) w17)
  (ldI .i64 ⟨b9, 0, none⟩ w17 fun n79 =>
  ldI .i64 ⟨b9, 1, none⟩ w17 fun n80 =>
  CV P F.shadow_May [.agg [.int .i64 n79, .int .i64 n80].toArray] w17 fun v81 w82 =>
  ∃ b83 : Bool, v81 = .bool b83 ∧
  J78 (((!b83) : Bool)) w82)))
  fun (s84 : crierlaw25_ShadowFull_J62.S) w85 => crierlaw25_ShadowFull_j3 a0 Q b9 b11 b15 p18 s84 w85)
def crierlaw25_ShadowFull_ann : Nat → Option LoopSpec := fun
  | 62 => some crierlaw25_ShadowFull_J62
  | 250 => some crierlaw25_ShadowFull_J250
  | 1022 => some crierlaw25_ShadowFull_J1022
  | 16383 => some crierlaw25_ShadowFull_J16383
  | _ => none
theorem crierlaw25_ShadowFull_eq (a0 : Int) (a1 : Option Addr) (a1_n : Nat) (a1_c : Nat) (a2_0 : Int) (a2_1 : Int) (a3_0 : Int) (a3_1 : Int) (w : World) (Q : Value → World → Prop) : fnX P crierlaw25_ShadowFull_ann Try.f4 [.int .u8 a0, .slice a1 a1_n a1_c, .agg [.int .i64 a2_0, .int .i64 a2_1].toArray, .agg [.int .i64 a3_0, .int .i64 a3_1].toArray] w Q = crierlaw25_ShadowFull a0 a1 a1_n a1_c a2_0 a2_1 a3_0 a3_1 w Q := by kernel_rfl
theorem crierlaw25_ShadowFull_cv {a0 : Int} {a1 : Option Addr} {a1_n : Nat} {a1_c : Nat} {a2_0 : Int} {a2_1 : Int} {a3_0 : Int} {a3_1 : Int} {w : World} {Q : Value → World → Prop} (h : crierlaw25_ShadowFull a0 a1 a1_n a1_c a2_0 a2_1 a3_0 a3_1 w Q) : CV P F.crierlaw25_ShadowFull [.int .u8 a0, .slice a1 a1_n a1_c, .agg [.int .i64 a2_0, .int .i64 a2_1].toArray, .agg [.int .i64 a3_0, .int .i64 a3_1].toArray] w Q := CV_of mixed Try.func4 (crierlaw25_ShadowFull_eq a0 a1 a1_n a1_c a2_0 a2_1 a3_0 a3_1 w Q ▸ h)

/- 5 crier/crierlaw25.ShadowBound -/
def crierlaw25_ShadowBound_J62 : LoopSpec where
  S := Bool
  emb := fun s => [(29, .bool s)]
  ext := fun t => match getL t 29 with
    | some (.bool y15) => some (y15)
    | _ => none
  slots := [29]
  fits := fun _ => rfl
  ok := by
    intro t s h x hx
    (try dsimp only at h hx)
    split at h
    · cases h
      simp only [List.mem_cons, List.not_mem_nil, or_false] at hx
      rcases hx with rfl <;> assumption
    · cases h

def crierlaw25_ShadowBound_J1022 : LoopSpec where
  S := Bool
  emb := fun s => [(65, .bool s)]
  ext := fun t => match getL t 65 with
    | some (.bool y35) => some (y35)
    | _ => none
  slots := [65]
  fits := fun _ => rfl
  ok := by
    intro t s h x hx
    (try dsimp only at h hx)
    split at h
    · cases h
      simp only [List.mem_cons, List.not_mem_nil, or_false] at hx
      rcases hx with rfl <;> assumption
    · cases h

def crierlaw25_ShadowBound_J4095 : LoopSpec where
  S := Bool
  emb := fun s => [(6, .bool s)]
  ext := fun t => match getL t 6 with
    | some (.bool y50) => some (y50)
    | _ => none
  slots := [6]
  fits := fun _ => rfl
  ok := by
    intro t s h x hx
    (try dsimp only at h hx)
    split at h
    · cases h
      simp only [List.mem_cons, List.not_mem_nil, or_false] at hx
      rcases hx with rfl <;> assumption
    · cases h

def crierlaw25_ShadowBound_j0 (Q : Value → World → Prop) (b51 : Bool) (w52 : World) : Prop :=
 Q (.bool b51) w52

def crierlaw25_ShadowBound_j1 (Q : Value → World → Prop) (b7 : Nat) (p14 : Option Addr) (n23 : Int) (b36 : Bool) (w37 : World) : Prop :=
 cnd b36
 (Q (.bool false) w37)
 (ldI .i64 ⟨b7, 0, none⟩ w37 fun n38 =>
 ldI .i64 ⟨b7, 1, none⟩ w37 fun n39 =>
 CV P F.shadow_Shadow_Free [.pointer p14, .agg [.int .i64 n38, .int .i64 n39].toArray] w37 fun v40 w41 =>
 ∃ n42 : Int, ∃ n43 : Int, v40 = .tuple [.int .i64 n42, .int .i64 n43].toArray ∧
 ldI .i64 ⟨b7, 0, none⟩ w41 fun n44 =>
 ldI .i64 ⟨b7, 1, none⟩ w41 fun n45 =>
 CV P F.shadow_Shadow_Free [.pointer p14, .agg [.int .i64 n44, .int .i64 n45].toArray] w41 fun v46 w47 =>
 ∃ n48 : Int, ∃ n49 : Int, v46 = .tuple [.int .i64 n48, .int .i64 n49].toArray ∧
 JoinT (fun (J53 : crierlaw25_ShadowBound_J4095.S → World → Prop) =>
  cnd (n23 == 0)
  (cnd (n43 == 0)
  (cnd (n49 == 250)
  (J53 ((true : Bool)) w47)
  (cnd (n23 == 2)
  (cnd (n43 == 250)
  (cnd (n49 == n43)
  (J53 ((true : Bool)) w47)
  (cnd (n23 == 1)
  (cnd (n43 == n23)
  (J53 (((n49 == n23) : Bool)) w47)
  (J53 ((false : Bool)) w47))
  (J53 ((false : Bool)) w47)))
  (cnd (n23 == 1)
  (cnd (n43 == n23)
  (J53 (((n49 == n23) : Bool)) w47)
  (J53 ((false : Bool)) w47))
  (J53 ((false : Bool)) w47)))
  (cnd (n23 == 1)
  (cnd (n43 == n23)
  (J53 (((n49 == n23) : Bool)) w47)
  (J53 ((false : Bool)) w47))
  (J53 ((false : Bool)) w47))))
  (cnd (n23 == 2)
  (cnd (n43 == 250)
  (cnd (n49 == n43)
  (J53 ((true : Bool)) w47)
  (cnd (n23 == 1)
  (cnd (n43 == n23)
  (J53 (((n49 == n23) : Bool)) w47)
  (J53 ((false : Bool)) w47))
  (J53 ((false : Bool)) w47)))
  (cnd (n23 == 1)
  (cnd (n43 == n23)
  (J53 (((n49 == n23) : Bool)) w47)
  (J53 ((false : Bool)) w47))
  (J53 ((false : Bool)) w47)))
  (cnd (n23 == 1)
  (cnd (n43 == n23)
  (J53 (((n49 == n23) : Bool)) w47)
  (J53 ((false : Bool)) w47))
  (J53 ((false : Bool)) w47))))
  (cnd (n23 == 2)
  (cnd (n43 == 250)
  (cnd (n49 == n43)
  (J53 ((true : Bool)) w47)
  (cnd (n23 == 1)
  (cnd (n43 == n23)
  (J53 (((n49 == n23) : Bool)) w47)
  (J53 ((false : Bool)) w47))
  (J53 ((false : Bool)) w47)))
  (cnd (n23 == 1)
  (cnd (n43 == n23)
  (J53 (((n49 == n23) : Bool)) w47)
  (J53 ((false : Bool)) w47))
  (J53 ((false : Bool)) w47)))
  (cnd (n23 == 1)
  (cnd (n43 == n23)
  (J53 (((n49 == n23) : Bool)) w47)
  (J53 ((false : Bool)) w47))
  (J53 ((false : Bool)) w47))))
  fun (s54 : crierlaw25_ShadowBound_J4095.S) w55 => crierlaw25_ShadowBound_j0 Q s54 w55)

def crierlaw25_ShadowBound_j2 (Q : Value → World → Prop) (b7 : Nat) (p14 : Option Addr) (b16 : Bool) (w17 : World) : Prop :=
 cnd b16
 (Q (.bool false) w17)
 (ldI .i64 ⟨b7, 0, none⟩ w17 fun n18 =>
 ldI .i64 ⟨b7, 1, none⟩ w17 fun n19 =>
 CV P F.shadow_Shadow_Bind [.pointer p14, .agg [.int .i64 n18, .int .i64 n19].toArray] w17 fun v20 w21 =>
 ∃ n22 : Int, ∃ n23 : Int, v20 = .tuple [.int .i64 n22, .int .i64 n23].toArray ∧
 CV P F.crierlaw25_list [.pointer p14] w21 fun v24 w25 =>
 ∃ (p26 : Option Addr) (l27 c28 : Nat), v24 = .slice p26 l27 c28 ∧
 ldI .i64 ⟨b7, 0, none⟩ w25 fun n29 =>
 ldI .i64 ⟨b7, 1, none⟩ w25 fun n30 =>
 CV P F.shadow_Shadow_Bind [.pointer p14, .agg [.int .i64 n29, .int .i64 n30].toArray] w25 fun v31 w32 =>
 ∃ n33 : Int, ∃ n34 : Int, v31 = .tuple [.int .i64 n33, .int .i64 n34].toArray ∧
 JoinT (fun (J56 : crierlaw25_ShadowBound_J1022.S → World → Prop) =>
  cnd (n22 != n33)
  (J56 ((true : Bool)) w32)
  (cnd (n23 != n34)
  (J56 ((true : Bool)) w32)
  (CV P F.crierlaw25_list [.pointer p14] w32 fun v57 w58 =>
  ∃ (p59 : Option Addr) (l60 c61 : Nat), v57 = .slice p59 l60 c61 ∧
  CV P F.crierref01_Same [.slice p59 l60 c61, .slice p26 l27 c28] w58 fun v62 w63 =>
  ∃ b64 : Bool, v62 = .bool b64 ∧
  cnd (!b64)
  (J56 ((true : Bool)) w63)
  (ldI .i64 ⟨b7, 0, none⟩ w63 fun n65 =>
  ldI .i64 ⟨b7, 1, none⟩ w63 fun n66 =>
  CV P F.shadow_May [.agg [.int .i64 n65, .int .i64 n66].toArray] w63 fun v67 w68 =>
  ∃ b69 : Bool, v67 = .bool b69 ∧
  J56 ((((n23 == 1) == b69) : Bool)) w68))))
  fun (s70 : crierlaw25_ShadowBound_J1022.S) w71 => crierlaw25_ShadowBound_j1 Q b7 p14 n23 s70 w71)

def crierlaw25_ShadowBound (a0 : Int) (a1 : Option Addr) (a1_n : Nat) (a1_c : Nat) (a2_0 : Int) (a2_1 : Int) (w : World) (Q : Value → World → Prop) : Prop :=
 alc [.int .i64 a2_0, .int .i64 a2_1] T.t24 w fun b7 w8 =>
 CV P F.crierlaw25_awake [] w8 fun v9 w10 =>
 ∃ b11 : Bool, v9 = .bool b11 ∧
 cnd (!b11)
 (Q (.bool false) w10)
 (CV P F.crierlaw25_played [.int .u8 a0, .slice a1 a1_n a1_c] w10 fun v12 w13 =>
 ∃ p14 : Option Addr, v12 = .pointer p14 ∧
 JoinT (fun (J72 : crierlaw25_ShadowBound_J62.S → World → Prop) =>
  cnd (!b11)
  (J72 ((true : Bool)) w13)
  (J72 (((Option.isNone p14) : Bool)) w13))
  fun (s73 : crierlaw25_ShadowBound_J62.S) w74 => crierlaw25_ShadowBound_j2 Q b7 p14 s73 w74)
def crierlaw25_ShadowBound_ann : Nat → Option LoopSpec := fun
  | 62 => some crierlaw25_ShadowBound_J62
  | 1022 => some crierlaw25_ShadowBound_J1022
  | 4095 => some crierlaw25_ShadowBound_J4095
  | _ => none
theorem crierlaw25_ShadowBound_eq (a0 : Int) (a1 : Option Addr) (a1_n : Nat) (a1_c : Nat) (a2_0 : Int) (a2_1 : Int) (w : World) (Q : Value → World → Prop) : fnX P crierlaw25_ShadowBound_ann Try.f5 [.int .u8 a0, .slice a1 a1_n a1_c, .agg [.int .i64 a2_0, .int .i64 a2_1].toArray] w Q = crierlaw25_ShadowBound a0 a1 a1_n a1_c a2_0 a2_1 w Q := by kernel_rfl
theorem crierlaw25_ShadowBound_cv {a0 : Int} {a1 : Option Addr} {a1_n : Nat} {a1_c : Nat} {a2_0 : Int} {a2_1 : Int} {w : World} {Q : Value → World → Prop} (h : crierlaw25_ShadowBound a0 a1 a1_n a1_c a2_0 a2_1 w Q) : CV P F.crierlaw25_ShadowBound [.int .u8 a0, .slice a1 a1_n a1_c, .agg [.int .i64 a2_0, .int .i64 a2_1].toArray] w Q := CV_of mixed Try.func5 (crierlaw25_ShadowBound_eq a0 a1 a1_n a1_c a2_0 a2_1 w Q ▸ h)

/- 6 crier/crierlaw25.ShadowOne -/
def crierlaw25_ShadowOne_J62 : LoopSpec where
  S := Bool
  emb := fun s => [(25, .bool s)]
  ext := fun t => match getL t 25 with
    | some (.bool y21) => some (y21)
    | _ => none
  slots := [25]
  fits := fun _ => rfl
  ok := by
    intro t s h x hx
    (try dsimp only at h hx)
    split at h
    · cases h
      simp only [List.mem_cons, List.not_mem_nil, or_false] at hx
      rcases hx with rfl <;> assumption
    · cases h

def crierlaw25_ShadowOne_J32598 : LoopSpec where
  S := Bool
  emb := fun s => [(73, .bool s)]
  ext := fun t => match getL t 73 with
    | some (.bool y64) => some (y64)
    | _ => none
  slots := [73]
  fits := fun _ => rfl
  ok := by
    intro t s h x hx
    (try dsimp only at h hx)
    split at h
    · cases h
      simp only [List.mem_cons, List.not_mem_nil, or_false] at hx
      rcases hx with rfl <;> assumption
    · cases h

def crierlaw25_ShadowOne_j0 (b7 : Nat) (b26 : Nat) (l32 : Nat) (r33 : Loop) (Q36 : Value → World → Prop) (n41 : Int) (b65 : Bool) (w66 : World) : Prop :=
 cnd b65
 (st1 (.bool false) ⟨b7, 0, none⟩ w66 fun w67 =>
 recAt w67 l32 r33 .busy none ∧ setR w67 l32 r33 .done (some .ret) fun w68 => Q36 (.bool false) w68)
 (ldL ⟨b26, 0, none⟩ w66 fun p69 l70 c71 =>
 alc [.int .i64 n41] T.t3 w66 fun b72 w73 =>
 runS P (Builtin.append_ #[T.t37, T.t37] T.t37 [.slice p69 l70 c71, .slice (some ⟨b72, 0, none⟩) 1 1].toArray) w73 fun p74 l75 c76 w77 =>
 st1 (.slice p74 l75 c76) ⟨b26, 0, none⟩ w77 fun w78 =>
 recAt w78 l32 r33 .busy none ∧ setR w78 l32 r33 .ready none fun w79 => Q36 (.bool true) w79)

def crierlaw25_ShadowOne_r1 (b5 : Nat) (b7 : Nat) (b18 : Nat) (b26 : Nat) (l32 : Nat) (r33 : Loop) (vs34 : List Value) (w35 : World) (Q36 : Value → World → Prop) : Prop :=
 X.b2 vs34 fun v37 v38 =>
 ∃ n39 : Int, ∃ n40 : Int, v37 = .agg [.int .i64 n39, .int .i64 n40].toArray ∧
 ∃ n41 : Int, v38 = .int .i64 n41 ∧
 alc [.int .i64 0, .int .i64 0] T.t24 w35 fun b42 w43 =>
 st1 (.int .i64 n39) ⟨b42, 0, none⟩ w43 fun w44 =>
 st1 (.int .i64 n40) ⟨b42, 1, none⟩ w44 fun w45 =>
 recAt w45 l32 r33 .ready none ∧ setR w45 l32 r33 .busy none fun w46 =>
 ldP ⟨b18, 0, none⟩ w46 fun p47 =>
 CV P F.shadow_Shadow_Event [.pointer p47, .int .i64 n41] w46 fun v48 w49 =>
 ∃ n50 : Int, ∃ n51 : Int, ∃ n52 : Int, v48 = .tuple [.agg [.int .i64 n50, .int .i64 n51].toArray, .int .i64 n52].toArray ∧
 alc [.int .i64 0, .int .i64 0] T.t24 w49 fun b53 w54 =>
 st1 (.int .i64 n50) ⟨b53, 0, none⟩ w54 fun w55 =>
 st1 (.int .i64 n51) ⟨b53, 1, none⟩ w55 fun w56 =>
 ldP ⟨b18, 0, none⟩ w56 fun p57 =>
 ldI .i64 ⟨b42, 0, none⟩ w56 fun n58 =>
 ldI .i64 ⟨b42, 1, none⟩ w56 fun n59 =>
 CV P F.shadow_Shadow_Number [.pointer p57, .agg [.int .i64 n58, .int .i64 n59].toArray] w56 fun v60 w61 =>
 ∃ n62 : Int, ∃ n63 : Int, v60 = .tuple [.int .i64 n62, .int .i64 n63].toArray ∧
 JoinT (fun (J80 : crierlaw25_ShadowOne_J32598.S → World → Prop) =>
  ldL ⟨b26, 0, none⟩ w61 fun p81 l82 c83 =>
  CV P F.crierref01_Has [.slice p81 l82 c83, .int .i64 n41] w61 fun v84 w85 =>
  ∃ b86 : Bool, v84 = .bool b86 ∧
  cnd b86
  (J80 ((true : Bool)) w85)
  (cnd (n52 != 0)
  (J80 ((true : Bool)) w85)
  (cnd (n63 != 0)
  (J80 ((true : Bool)) w85)
  (ldI .i64 ⟨b53, 0, none⟩ w85 fun n87 =>
  ldI .i64 ⟨b53, 1, none⟩ w85 fun n88 =>
  ldI .i64 ⟨b42, 0, none⟩ w85 fun n89 =>
  ldI .i64 ⟨b42, 1, none⟩ w85 fun n90 =>
  eqA P .neq T.t24 (.agg [.int .i64 n87, .int .i64 n88].toArray) (.agg [.int .i64 n89, .int .i64 n90].toArray) w85 fun b91 =>
  cnd b91
  (J80 ((true : Bool)) w85)
  (cnd (n62 != n41)
  (J80 ((true : Bool)) w85)
  (cnd (decide (n41 < 0))
  (J80 ((true : Bool)) w85)
  (ldI .u8 ⟨b5, 0, none⟩ w85 fun n92 =>
  (nz 41 <|
  J80 (((decide (n41 ≥ (IntKind.i64.wrap ((Int.tmod n92 41))))) : Bool)) w85))))))))
  fun (s93 : crierlaw25_ShadowOne_J32598.S) w94 => crierlaw25_ShadowOne_j0 b7 b26 l32 r33 Q36 n41 s93 w94

def crierlaw25_ShadowOne_j2 (Q : Value → World → Prop) (b5 : Nat) (b7 : Nat) (b18 : Nat) (b22 : Bool) (w23 : World) : Prop :=
 cnd b22
 (st1 (.bool false) ⟨b7, 0, none⟩ w23 fun w24 =>
 ldB ⟨b7, 0, none⟩ w24 fun b25 =>
 Q (.bool b25) w24)
 (alc [.slice none 0 0] T.t37 w23 fun b26 w27 =>
 ldP ⟨b18, 0, none⟩ w27 fun p28 =>
 CV P F.shadow_Shadow_All [.pointer p28] w27 fun v29 w30 =>
 ∃ v31 : Value, v29 = v31 ∧
 RF P none 2 (v31) w30 (fun l32 r33 vs34 w35 Q36 => crierlaw25_ShadowOne_r1 b5 b7 b18 b26 l32 r33 vs34 w35 Q36) fun mk95 jp96 w97 =>
 jmpX jp96
 (drw w97 fun w98 =>
 ldL ⟨b26, 0, none⟩ w98 fun p99 l100 c101 =>
 ldP ⟨b18, 0, none⟩ w98 fun p102 =>
 CV P F.shadow_Shadow_Len [.pointer p102] w98 fun v103 w104 =>
 ∃ n105 : Int, v103 = .int .i64 n105 ∧
 (((.int .i64 ((l100 : Nat) : Int) : Value) = .int .i64 ((l100 : Nat) : Int))) ∧
 (ldL ⟨b26, 0, none⟩ w104 fun p106 l107 c108 =>
 ((.slice p106 l107 c108 : Value) = .slice p99 l100 c101)) ∧
 st1 (.bool (((l100 : Nat) : Int) == n105)) ⟨b7, 0, none⟩ w104 fun w109 =>
 takeX (mk95 ++ []) w109 fun w110 =>
 ldB ⟨b7, 0, none⟩ w110 fun b111 =>
 Q (.bool b111) w110)
 (takeX (mk95 ++ []) w97 fun w112 =>
 ldB ⟨b7, 0, none⟩ w112 fun b113 =>
 Q (.bool b113) w112)
 fun id114 => False)

def crierlaw25_ShadowOne (a0 : Int) (a1 : Option Addr) (a1_n : Nat) (a1_c : Nat) (w : World) (Q : Value → World → Prop) : Prop :=
 alc [.int .u8 a0] T.t5 w fun b5 w6 =>
 alc [.bool false] T.t4 w6 fun b7 w8 =>
 CV P F.crierlaw25_awake [] w8 fun v9 w10 =>
 ∃ b11 : Bool, v9 = .bool b11 ∧
 cnd (!b11)
 (st1 (.bool false) ⟨b7, 0, none⟩ w10 fun w12 =>
 ldB ⟨b7, 0, none⟩ w12 fun b13 =>
 Q (.bool b13) w12)
 (ldI .u8 ⟨b5, 0, none⟩ w10 fun n14 =>
 CV P F.crierlaw25_played [.int .u8 n14, .slice a1 a1_n a1_c] w10 fun v15 w16 =>
 ∃ p17 : Option Addr, v15 = .pointer p17 ∧
 alc [.pointer none] T.t26 w16 fun b18 w19 =>
 st1 (.pointer p17) ⟨b18, 0, none⟩ w19 fun w20 =>
 JoinT (fun (J115 : crierlaw25_ShadowOne_J62.S → World → Prop) =>
  cnd (!b11)
  (J115 ((true : Bool)) w20)
  (ldP ⟨b18, 0, none⟩ w20 fun p116 =>
  J115 (((Option.isNone p116) : Bool)) w20))
  fun (s117 : crierlaw25_ShadowOne_J62.S) w118 => crierlaw25_ShadowOne_j2 Q b5 b7 b18 s117 w118)
def crierlaw25_ShadowOne_ann : Nat → Option LoopSpec := fun
  | 62 => some crierlaw25_ShadowOne_J62
  | 32598 => some crierlaw25_ShadowOne_J32598
  | 510 => some (ordSpec [0, 1, 2, 3, 4, 5])
  | _ => none
theorem crierlaw25_ShadowOne_eq (a0 : Int) (a1 : Option Addr) (a1_n : Nat) (a1_c : Nat) (w : World) (Q : Value → World → Prop) : fnX P crierlaw25_ShadowOne_ann Try.f6 [.int .u8 a0, .slice a1 a1_n a1_c] w Q = crierlaw25_ShadowOne a0 a1 a1_n a1_c w Q := by kernel_rfl
theorem crierlaw25_ShadowOne_cv {a0 : Int} {a1 : Option Addr} {a1_n : Nat} {a1_c : Nat} {w : World} {Q : Value → World → Prop} (h : crierlaw25_ShadowOne a0 a1 a1_n a1_c w Q) : CV P F.crierlaw25_ShadowOne [.int .u8 a0, .slice a1 a1_n a1_c] w Q := CV_of mixed Try.func6 (crierlaw25_ShadowOne_eq a0 a1 a1_n a1_c w Q ▸ h)

/- 7 crier/crierlaw25.ShadowOf -/
def crierlaw25_ShadowOf_J62 : LoopSpec where
  S := Bool
  emb := fun s => [(28, .bool s)]
  ext := fun t => match getL t 28 with
    | some (.bool y19) => some (y19)
    | _ => none
  slots := [28]
  fits := fun _ => rfl
  ok := by
    intro t s h x hx
    (try dsimp only at h hx)
    split at h
    · cases h
      simp only [List.mem_cons, List.not_mem_nil, or_false] at hx
      rcases hx with rfl <;> assumption
    · cases h

def crierlaw25_ShadowOf_L1018 : LoopSpec where
  S := Option Addr
  emb := fun s => [(10, .pointer s)]
  ext := fun t => match getL t 10 with
    | some (.pointer y30) => some (y30)
    | _ => none
  slots := [10]
  fits := fun _ => rfl
  ok := by
    intro t s h x hx
    (try dsimp only at h hx)
    split at h
    · cases h
      simp only [List.mem_cons, List.not_mem_nil, or_false] at hx
      rcases hx with rfl <;> assumption
    · cases h

def crierlaw25_ShadowOf_J2085482 : LoopSpec where
  S := Bool
  emb := fun s => [(57, .bool s)]
  ext := fun t => match getL t 57 with
    | some (.bool y66) => some (y66)
    | _ => none
  slots := [57]
  fits := fun _ => rfl
  ok := by
    intro t s h x hx
    (try dsimp only at h hx)
    split at h
    · cases h
      simp only [List.mem_cons, List.not_mem_nil, or_false] at hx
      rcases hx with rfl <;> assumption
    · cases h

def crierlaw25_ShadowOf_j0 (b6 : Nat) (b24 : Nat) (b37 : Nat) (l46 : Nat) (r47 : Loop) (Q50 : Value → World → Prop) (n53 : Int) (b67 : Bool) (w68 : World) : Prop :=
 cnd b67
 (st1 (.bool false) ⟨b6, 0, none⟩ w68 fun w69 =>
 recAt w69 l46 r47 .busy none ∧ setR w69 l46 r47 .done (some .ret) fun w70 => Q50 (.bool false) w70)
 (st1 (.int .i64 n53) ⟨b37, 0, none⟩ w68 fun w71 =>
 ldI .i64 ⟨b24, 0, none⟩ w71 fun n72 =>
 st1 (.int .i64 (IntKind.i64.wrap (n72 + 1))) ⟨b24, 0, none⟩ w71 fun w73 =>
 recAt w73 l46 r47 .busy none ∧ setR w73 l46 r47 .ready none fun w74 => Q50 (.bool true) w74)

def crierlaw25_ShadowOf_r1 (b6 : Nat) (b16 : Nat) (b24 : Nat) (p31 : Option Addr) (b37 : Nat) (l46 : Nat) (r47 : Loop) (vs48 : List Value) (w49 : World) (Q50 : Value → World → Prop) : Prop :=
 X.b2 vs48 fun v51 v52 =>
 ∃ n53 : Int, v51 = .int .i64 n53 ∧
 ∃ n54 : Int, v52 = .int .i64 n54 ∧
 recAt w49 l46 r47 .ready none ∧ setR w49 l46 r47 .busy none fun w55 =>
 ldP ⟨b16, 0, none⟩ w55 fun p56 =>
 CV P F.shadow_Shadow_Event [.pointer p56, .int .i64 n54] w55 fun v57 w58 =>
 ∃ n59 : Int, ∃ n60 : Int, ∃ n61 : Int, v57 = .tuple [.agg [.int .i64 n59, .int .i64 n60].toArray, .int .i64 n61].toArray ∧
 alc [.int .i64 0, .int .i64 0] T.t24 w58 fun b62 w63 =>
 st1 (.int .i64 n59) ⟨b62, 0, none⟩ w63 fun w64 =>
 st1 (.int .i64 n60) ⟨b62, 1, none⟩ w64 fun w65 =>
 JoinT (fun (J75 : crierlaw25_ShadowOf_J2085482.S → World → Prop) =>
  ldI .i64 ⟨b37, 0, none⟩ w65 fun n76 =>
  cnd (decide (n53 ≤ n76))
  (J75 ((true : Bool)) w65)
  (cnd (n61 != 0)
  (J75 ((true : Bool)) w65)
  (ldI .i64 ⟨b62, 0, none⟩ w65 fun n77 =>
  ldI .i64 ⟨b62, 1, none⟩ w65 fun n78 =>
  nn p31 fun a79 =>
  ldI .i64 a79 w65 fun n80 =>
  eqA P .neq T.t24 (.agg [.int .i64 n77, .int .i64 n78].toArray) (.agg [.int .i64 n80, .int .i64 n53].toArray) w65 fun b81 =>
  J75 ((b81 : Bool)) w65)))
  fun (s82 : crierlaw25_ShadowOf_J2085482.S) w83 => crierlaw25_ShadowOf_j0 b6 b24 b37 l46 r47 Q50 n53 s82 w83

def crierlaw25_ShadowOf_r2 (b97 : Nat) (l104 : Nat) (r105 : Loop) (vs106 : List Value) (w107 : World) (Q108 : Value → World → Prop) : Prop :=
 X.b2 vs106 fun v109 v110 =>
 recAt w107 l104 r105 .ready none ∧ setR w107 l104 r105 .busy none fun w111 =>
 ldI .i64 ⟨b97, 0, none⟩ w111 fun n112 =>
 st1 (.int .i64 (IntKind.i64.wrap (n112 + 1))) ⟨b97, 0, none⟩ w111 fun w113 =>
 recAt w113 l104 r105 .busy none ∧ setR w113 l104 r105 .ready none fun w114 => Q108 (.bool true) w114

def crierlaw25_ShadowOf_J1023 : LoopSpec where
  S := Unit
  emb := fun _ => []
  ext := fun _ => some ()
  slots := []
  fits := fun _ => rfl
  ok := by
    intro t s h x hx; cases hx

def crierlaw25_ShadowOf_j3 (Q : Value → World → Prop) (b6 : Nat) (ds34 : List Deferred) (mk115 : List Deferred) (w118 : World) : Prop :=
 takeX (mk115 ++ ds34) w118 fun w119 =>
 ldB ⟨b6, 0, none⟩ w119 fun b120 =>
 Q (.bool b120) w119

def crierlaw25_ShadowOf_l4 (a2 : Int) (Q : Value → World → Prop) (b6 : Nat) (b16 : Nat) (b24 : Nat) (p31 : Option Addr) (w32 : World) (A33 : crierlaw25_ShadowOf_L1018.S × List Deferred → World → Prop) (ds34 : List Deferred) : Prop :=
 nn p31 fun a35 =>
 ldI .i64 a35 w32 fun n36 =>
 cnd (decide (n36 < 32))
 (alc [.int .i64 0] T.t3 w32 fun b37 w38 =>
 st1 (.int .i64 (-1)) ⟨b37, 0, none⟩ w38 fun w39 =>
 ldP ⟨b16, 0, none⟩ w39 fun p40 =>
 nn p31 fun a41 =>
 ldI .i64 a41 w39 fun n42 =>
 CV P F.shadow_Shadow_Of [.pointer p40, .int .i64 n42] w39 fun v43 w44 =>
 ∃ v45 : Value, v43 = v45 ∧
 RF P none 2 (v45) w44 (fun l46 r47 vs48 w49 Q50 => crierlaw25_ShadowOf_r1 b6 b16 b24 p31 b37 l46 r47 vs48 w49 Q50) fun mk84 jp85 w86 =>
 jmpX jp85
 (nn p31 fun a87 =>
 ldI .i64 a87 w86 fun n88 =>
 alc [.int .i64 0] T.t3 w86 fun b89 w90 =>
 st1 (.int .i64 n88) ⟨b89, 0, none⟩ w90 fun w91 =>
 ldI .i64 ⟨b89, 0, none⟩ w91 fun n92 =>
 st1 (.int .i64 (IntKind.i64.wrap (n92 + 1))) ⟨b89, 0, none⟩ w91 fun w93 =>
 A33 (((some ⟨b89, 0, none⟩ : Option Addr)), (mk84 ++ ds34)) w93)
 (takeX (mk84 ++ ds34) w86 fun w94 =>
 ldB ⟨b6, 0, none⟩ w94 fun b95 =>
 Q (.bool b95) w94)
 fun id96 => False)
 (alc [.int .i64 0] T.t3 w32 fun b97 w98 =>
 st1 (.int .i64 0) ⟨b97, 0, none⟩ w98 fun w99 =>
 ldP ⟨b16, 0, none⟩ w99 fun p100 =>
 CV P F.shadow_Shadow_Of [.pointer p100, .int .i64 a2] w99 fun v101 w102 =>
 ∃ v103 : Value, v101 = v103 ∧
 RF P none 2 (v103) w102 (fun l104 r105 vs106 w107 Q108 => crierlaw25_ShadowOf_r2 b97 l104 r105 vs106 w107 Q108) fun mk115 jp116 w117 =>
 jmpX jp116
 (JoinT (fun (J121 : crierlaw25_ShadowOf_J1023.S → World → Prop) =>
  drw w117 fun w122 =>
  ldI .i64 ⟨b24, 0, none⟩ w122 fun n123 =>
  ldP ⟨b16, 0, none⟩ w122 fun p124 =>
  CV P F.shadow_Shadow_Len [.pointer p124] w122 fun v125 w126 =>
  ∃ n127 : Int, v125 = .int .i64 n127 ∧
  (ldI .i64 ⟨b24, 0, none⟩ w126 fun n128 =>
  ((.int .i64 n128 : Value) = .int .i64 n123)) ∧
  cnd (n123 == n127)
  (cnd (decide (a2 ≥ 0))
  (cnd (decide (a2 < 32))
  (st1 (.bool true) ⟨b6, 0, none⟩ w126 fun w129 =>
  J121 () w129)
  (ldI .i64 ⟨b97, 0, none⟩ w126 fun n130 =>
  st1 (.bool (n130 == 0)) ⟨b6, 0, none⟩ w126 fun w131 =>
  J121 () w131))
  (ldI .i64 ⟨b97, 0, none⟩ w126 fun n132 =>
  st1 (.bool (n132 == 0)) ⟨b6, 0, none⟩ w126 fun w133 =>
  J121 () w133))
  (st1 (.bool false) ⟨b6, 0, none⟩ w126 fun w134 =>
  J121 () w134))
  fun (s135 : crierlaw25_ShadowOf_J1023.S) w136 => crierlaw25_ShadowOf_j3 Q b6 ds34 mk115 w136)
 (takeX (mk115 ++ ds34) w117 fun w137 =>
 ldB ⟨b6, 0, none⟩ w137 fun b138 =>
 Q (.bool b138) w137)
 fun id139 => False)

def crierlaw25_ShadowOf_j5 (a2 : Int) (Q : Value → World → Prop) (b6 : Nat) (b16 : Nat) (b20 : Bool) (w21 : World) : Prop :=
 cnd b20
 (st1 (.bool false) ⟨b6, 0, none⟩ w21 fun w22 =>
 ldB ⟨b6, 0, none⟩ w22 fun b23 =>
 Q (.bool b23) w22)
 (alc [.int .i64 0] T.t3 w21 fun b24 w25 =>
 st1 (.int .i64 0) ⟨b24, 0, none⟩ w25 fun w26 =>
 alc [.int .i64 0] T.t3 w26 fun b27 w28 =>
 st1 (.int .i64 0) ⟨b27, 0, none⟩ w28 fun w29 =>
 LoopT (fun (s140 : crierlaw25_ShadowOf_L1018.S × List Deferred) w141 A142 => crierlaw25_ShadowOf_l4 a2 Q b6 b16 b24 s140.1 w141 A142 s140.2) (((some ⟨b27, 0, none⟩ : Option Addr)), []) w29)

def crierlaw25_ShadowOf (a0 : Int) (a1 : Option Addr) (a1_n : Nat) (a1_c : Nat) (a2 : Int) (w : World) (Q : Value → World → Prop) : Prop :=
 alc [.bool false] T.t4 w fun b6 w7 =>
 CV P F.crierlaw25_awake [] w7 fun v8 w9 =>
 ∃ b10 : Bool, v8 = .bool b10 ∧
 cnd (!b10)
 (st1 (.bool false) ⟨b6, 0, none⟩ w9 fun w11 =>
 ldB ⟨b6, 0, none⟩ w11 fun b12 =>
 Q (.bool b12) w11)
 (CV P F.crierlaw25_played [.int .u8 a0, .slice a1 a1_n a1_c] w9 fun v13 w14 =>
 ∃ p15 : Option Addr, v13 = .pointer p15 ∧
 alc [.pointer none] T.t26 w14 fun b16 w17 =>
 st1 (.pointer p15) ⟨b16, 0, none⟩ w17 fun w18 =>
 JoinT (fun (J143 : crierlaw25_ShadowOf_J62.S → World → Prop) =>
  cnd (!b10)
  (J143 ((true : Bool)) w18)
  (ldP ⟨b16, 0, none⟩ w18 fun p144 =>
  J143 (((Option.isNone p144) : Bool)) w18))
  fun (s145 : crierlaw25_ShadowOf_J62.S) w146 => crierlaw25_ShadowOf_j5 a2 Q b6 b16 s145 w146)
def crierlaw25_ShadowOf_ann : Nat → Option LoopSpec := fun
  | 62 => some crierlaw25_ShadowOf_J62
  | 1018 => some crierlaw25_ShadowOf_L1018
  | 2085482 => some crierlaw25_ShadowOf_J2085482
  | 1023 => some crierlaw25_ShadowOf_J1023
  | 2046 => some (ordSpec [0, 1, 2, 3, 4, 5, 6, 7, 8, 9, 10, 11, 12, 13, 14, 15, 16])
  | _ => none
theorem crierlaw25_ShadowOf_eq (a0 : Int) (a1 : Option Addr) (a1_n : Nat) (a1_c : Nat) (a2 : Int) (w : World) (Q : Value → World → Prop) : fnX P crierlaw25_ShadowOf_ann Try.f7 [.int .u8 a0, .slice a1 a1_n a1_c, .int .i64 a2] w Q = crierlaw25_ShadowOf a0 a1 a1_n a1_c a2 w Q := by kernel_rfl
theorem crierlaw25_ShadowOf_cv {a0 : Int} {a1 : Option Addr} {a1_n : Nat} {a1_c : Nat} {a2 : Int} {w : World} {Q : Value → World → Prop} (h : crierlaw25_ShadowOf a0 a1 a1_n a1_c a2 w Q) : CV P F.crierlaw25_ShadowOf [.int .u8 a0, .slice a1 a1_n a1_c, .int .i64 a2] w Q := CV_of mixed Try.func7 (crierlaw25_ShadowOf_eq a0 a1 a1_n a1_c a2 w Q ▸ h)

/- 8 crier/crierlaw25.ShadowDoes -/
def crierlaw25_ShadowDoes_J126 : LoopSpec where
  S := Bool
  emb := fun s => [(52, .bool s)]
  ext := fun t => match getL t 52 with
    | some (.bool y17) => some (y17)
    | _ => none
  slots := [52]
  fits := fun _ => rfl
  ok := by
    intro t s h x hx
    (try dsimp only at h hx)
    split at h
    · cases h
      simp only [List.mem_cons, List.not_mem_nil, or_false] at hx
      rcases hx with rfl <;> assumption
    · cases h

def crierlaw25_ShadowDoes_L1018 : LoopSpec where
  S := Option Addr × Int
  emb := fun s => [(8, .pointer s.1), (12, .int .i64 s.2)]
  ext := fun t => match getL t 8, getL t 12 with
    | some (.pointer y20), some (.int .i64 y21) => some (y20, y21)
    | _, _ => none
  slots := [8, 12]
  fits := fun _ => rfl
  ok := by
    intro t s h x hx
    (try dsimp only at h hx)
    split at h
    · cases h
      simp only [List.mem_cons, List.not_mem_nil, or_false] at hx
      rcases hx with rfl | rfl <;> assumption
    · cases h

def crierlaw25_ShadowDoes_J4072 : LoopSpec where
  S := Bool
  emb := fun s => [(59, .bool s)]
  ext := fun t => match getL t 59 with
    | some (.bool y26) => some (y26)
    | _ => none
  slots := [59]
  fits := fun _ => rfl
  ok := by
    intro t s h x hx
    (try dsimp only at h hx)
    split at h
    · cases h
      simp only [List.mem_cons, List.not_mem_nil, or_false] at hx
      rcases hx with rfl <;> assumption
    · cases h

def crierlaw25_ShadowDoes_J32585 : LoopSpec where
  S := Option Addr
  emb := fun s => [(8, .pointer s)]
  ext := fun t => match getL t 8 with
    | some (.pointer y39) => some (y39)
    | _ => none
  slots := [8]
  fits := fun _ => rfl
  ok := by
    intro t s h x hx
    (try dsimp only at h hx)
    split at h
    · cases h
      simp only [List.mem_cons, List.not_mem_nil, or_false] at hx
      rcases hx with rfl <;> assumption
    · cases h

def crierlaw25_ShadowDoes_J130342 : LoopSpec where
  S := Bool
  emb := fun s => [(97, .bool s)]
  ext := fun t => match getL t 97 with
    | some (.bool y42) => some (y42)
    | _ => none
  slots := [97]
  fits := fun _ => rfl
  ok := by
    intro t s h x hx
    (try dsimp only at h hx)
    split at h
    · cases h
      simp only [List.mem_cons, List.not_mem_nil, or_false] at hx
      rcases hx with rfl <;> assumption
    · cases h

def crierlaw25_ShadowDoes_J260687 : LoopSpec where
  S := Bool
  emb := fun s => [(17, .bool s)]
  ext := fun t => match getL t 17 with
    | some (.bool y54) => some (y54)
    | _ => none
  slots := [17]
  fits := fun _ => rfl
  ok := by
    intro t s h x hx
    (try dsimp only at h hx)
    split at h
    · cases h
      simp only [List.mem_cons, List.not_mem_nil, or_false] at hx
      rcases hx with rfl <;> assumption
    · cases h

def crierlaw25_ShadowDoes_J521375 : LoopSpec where
  S := Bool
  emb := fun s => [(168, .bool s)]
  ext := fun t => match getL t 168 with
    | some (.bool y57) => some (y57)
    | _ => none
  slots := [168]
  fits := fun _ => rfl
  ok := by
    intro t s h x hx
    (try dsimp only at h hx)
    split at h
    · cases h
      simp only [List.mem_cons, List.not_mem_nil, or_false] at hx
      rcases hx with rfl <;> assumption
    · cases h

def crierlaw25_ShadowDoes_j0 (Q : Value → World → Prop) (n23 : Int) (A25 : crierlaw25_ShadowDoes_L1018.S → World → Prop) (p40 : Option Addr) (b58 : Bool) (w59 : World) : Prop :=
 cnd b58
 (Q (.bool false) w59)
 (A25 ((p40 : Option Addr), ((IntKind.i64.wrap (n23 + 1)) : Int)) w59)

def crierlaw25_ShadowDoes_j1 (a2 : Int) (Q : Value → World → Prop) (p15 : Option Addr) (n23 : Int) (A25 : crierlaw25_ShadowDoes_L1018.S → World → Prop) (p40 : Option Addr) (n49 : Int) (b50 : Nat) (b55 : Bool) (w56 : World) : Prop :=
 JoinT (fun (J60 : crierlaw25_ShadowDoes_J521375.S → World → Prop) =>
  drw w56 fun w61 =>
  cnd (!(b55 == (n49 == 0)))
  (J60 ((true : Bool)) w61)
  (cnd b55
  (ldI .i64 ⟨b50, 0, none⟩ w61 fun n62 =>
  nn p15 fun a63 =>
  ldL a63 w61 fun p64 l65 c66 =>
  ix a2 l65 fun j67 => nn p64 fun a68 =>
  ldI .i64 (a68.add (j67 * 1)) w61 fun n69 =>
  cnd (n62 != n69)
  (J60 ((true : Bool)) w61)
  (ldI .i64 ⟨b50, 1, none⟩ w61 fun n70 =>
  nn p15 fun a71 =>
  ldL (a71.add 1) w61 fun p72 l73 c74 =>
  ix a2 l73 fun j75 => nn p72 fun a76 =>
  ldI .i64 (a76.add (j75 * 1)) w61 fun n77 =>
  cnd (n70 != n77)
  (J60 ((true : Bool)) w61)
  (cnd (!b55)
  (cnd (n49 != 250)
  (J60 ((true : Bool)) w61)
  (ldI .i64 ⟨b50, 0, none⟩ w61 fun n78 =>
  ldI .i64 ⟨b50, 1, none⟩ w61 fun n79 =>
  eqA P .neq T.t24 (.agg [.int .i64 n78, .int .i64 n79].toArray) (.agg [.int .i64 0, .int .i64 0].toArray) w61 fun b80 =>
  J60 ((b80 : Bool)) w61))
  (J60 ((false : Bool)) w61))))
  (cnd (!b55)
  (cnd (n49 != 250)
  (J60 ((true : Bool)) w61)
  (ldI .i64 ⟨b50, 0, none⟩ w61 fun n81 =>
  ldI .i64 ⟨b50, 1, none⟩ w61 fun n82 =>
  eqA P .neq T.t24 (.agg [.int .i64 n81, .int .i64 n82].toArray) (.agg [.int .i64 0, .int .i64 0].toArray) w61 fun b83 =>
  J60 ((b83 : Bool)) w61))
  (J60 ((false : Bool)) w61))))
  fun (s84 : crierlaw25_ShadowDoes_J521375.S) w85 => crierlaw25_ShadowDoes_j0 Q n23 A25 p40 s84 w85

def crierlaw25_ShadowDoes_j2 (a2 : Int) (Q : Value → World → Prop) (p15 : Option Addr) (n23 : Int) (A25 : crierlaw25_ShadowDoes_L1018.S → World → Prop) (p40 : Option Addr) (b43 : Bool) (w44 : World) : Prop :=
 cnd b43
 (Q (.bool false) w44)
 (CV P F.shadow_Shadow_Event [.pointer p40, .int .i64 a2] w44 fun v45 w46 =>
 ∃ n47 : Int, ∃ n48 : Int, ∃ n49 : Int, v45 = .tuple [.agg [.int .i64 n47, .int .i64 n48].toArray, .int .i64 n49].toArray ∧
 alc [.int .i64 0, .int .i64 0] T.t24 w46 fun b50 w51 =>
 st1 (.int .i64 n47) ⟨b50, 0, none⟩ w51 fun w52 =>
 st1 (.int .i64 n48) ⟨b50, 1, none⟩ w52 fun w53 =>
 JoinT (fun (J86 : crierlaw25_ShadowDoes_J260687.S → World → Prop) =>
  cnd (decide (a2 ≥ 0))
  (nn p15 fun a87 =>
  ldL a87 w53 fun p88 l89 c90 =>
  cnd (decide (a2 < ((l89 : Nat) : Int)))
  (nn p15 fun a91 =>
  ldL a91 w53 fun p92 l93 c94 =>
  ix a2 l93 fun j95 => nn p92 fun a96 =>
  ldI .i64 (a96.add (j95 * 1)) w53 fun n97 =>
  J86 (((decide (n97 ≥ 0)) : Bool)) w53)
  (J86 ((false : Bool)) w53))
  (J86 ((false : Bool)) w53))
  fun (s98 : crierlaw25_ShadowDoes_J260687.S) w99 => crierlaw25_ShadowDoes_j1 a2 Q p15 n23 A25 p40 n49 b50 s98 w99)

def crierlaw25_ShadowDoes_j3 (a2 : Int) (Q : Value → World → Prop) (p15 : Option Addr) (n23 : Int) (A25 : crierlaw25_ShadowDoes_L1018.S → World → Prop) (b34 : Nat) (p40 : Option Addr) (w41 : World) : Prop :=
 JoinT (fun (J100 : crierlaw25_ShadowDoes_J130342.S → World → Prop) =>
  ldI .i64 ⟨b34, 0, none⟩ w41 fun n101 =>
  ldI .i64 ⟨b34, 1, none⟩ w41 fun n102 =>
  ldI .i64 ⟨b34, 2, none⟩ w41 fun n103 =>
  CV P F.crierlaw25_does [.pointer p40, .pointer p15, .agg [.int .i64 n101, .int .i64 n102, .int .i64 n103].toArray] w41 fun v104 w105 =>
  ∃ b106 : Bool, v104 = .bool b106 ∧
  cnd (!b106)
  (J100 ((true : Bool)) w105)
  (ldI .i64 ⟨b34, 1, none⟩ w105 fun n107 =>
  ldI .i64 ⟨b34, 2, none⟩ w105 fun n108 =>
  CV P F.crierlaw25_alike [.pointer p40, .pointer p15, .agg [.int .i64 n107, .int .i64 n108].toArray] w105 fun v109 w110 =>
  ∃ b111 : Bool, v109 = .bool b111 ∧
  J100 (((!b111) : Bool)) w110))
  fun (s112 : crierlaw25_ShadowDoes_J130342.S) w113 => crierlaw25_ShadowDoes_j2 a2 Q p15 n23 A25 p40 s112 w113

def crierlaw25_ShadowDoes_j4 (a1 : Option Addr) (a1_n : Nat) (a2 : Int) (Q : Value → World → Prop) (p15 : Option Addr) (p22 : Option Addr) (n23 : Int) (A25 : crierlaw25_ShadowDoes_L1018.S → World → Prop) (b27 : Bool) (w28 : World) : Prop :=
 cnd b27
 (ix n23 a1_n fun j29 => nn a1 fun a30 =>
 ldI .i64 (a30.add (j29 * 3)) w28 fun n31 =>
 ldI .i64 ((a30.add (j29 * 3)).add 1) w28 fun n32 =>
 ldI .i64 ((a30.add (j29 * 3)).add 2) w28 fun n33 =>
 alc [.int .i64 0, .int .i64 0, .int .i64 0] T.t32 w28 fun b34 w35 =>
 st1 (.int .i64 n31) ⟨b34, 0, none⟩ w35 fun w36 =>
 st1 (.int .i64 n32) ⟨b34, 1, none⟩ w36 fun w37 =>
 st1 (.int .i64 n33) ⟨b34, 2, none⟩ w37 fun w38 =>
 JoinT (fun (J114 : crierlaw25_ShadowDoes_J32585.S → World → Prop) =>
  ldI .i64 ⟨b34, 0, none⟩ w38 fun n115 =>
  cnd (n115 == 3)
  (CV P F.shadow_Shadow_Copy [.pointer p22] w38 fun v116 w117 =>
  ∃ p118 : Option Addr, v116 = .pointer p118 ∧
  cnd (Option.isNone p118)
  (Q (.bool false) w117)
  (ldI .i64 ⟨b34, 1, none⟩ w117 fun n119 =>
  ldI .i64 ⟨b34, 2, none⟩ w117 fun n120 =>
  CV P F.shadow_Shadow_Bind [.pointer p22, .agg [.int .i64 n119, .int .i64 n120].toArray] w117 fun v121 w122 =>
  ∃ n123 : Int, ∃ n124 : Int, v121 = .tuple [.int .i64 n123, .int .i64 n124].toArray ∧
  ldI .i64 ⟨b34, 1, none⟩ w122 fun n125 =>
  ldI .i64 ⟨b34, 2, none⟩ w122 fun n126 =>
  CV P F.shadow_Shadow_Free [.pointer p22, .agg [.int .i64 n125, .int .i64 n126].toArray] w122 fun v127 w128 =>
  ∃ n129 : Int, ∃ n130 : Int, v127 = .tuple [.int .i64 n129, .int .i64 n130].toArray ∧
  CV P F.shadow_Shadow_Bind [.pointer p22, .agg [.int .i64 1, .int .i64 1].toArray] w128 fun v131 w132 =>
  ∃ n133 : Int, ∃ n134 : Int, v131 = .tuple [.int .i64 n133, .int .i64 n134].toArray ∧
  J114 ((p118 : Option Addr)) w132))
  (J114 ((p22 : Option Addr)) w38))
  fun (s135 : crierlaw25_ShadowDoes_J32585.S) w136 => crierlaw25_ShadowDoes_j3 a2 Q p15 n23 A25 b34 s135 w136)
 (Q (.bool true) w28)

def crierlaw25_ShadowDoes_l5 (a1 : Option Addr) (a1_n : Nat) (a2 : Int) (Q : Value → World → Prop) (p15 : Option Addr) (b16 : Bool) (p22 : Option Addr) (n23 : Int) (w24 : World) (A25 : crierlaw25_ShadowDoes_L1018.S → World → Prop) : Prop :=
 JoinT (fun (J137 : crierlaw25_ShadowDoes_J4072.S → World → Prop) =>
  cnd b16
  (J137 (((decide (n23 < ((a1_n : Nat) : Int))) : Bool)) w24)
  (J137 ((false : Bool)) w24))
  fun (s138 : crierlaw25_ShadowDoes_J4072.S) w139 => crierlaw25_ShadowDoes_j4 a1 a1_n a2 Q p15 p22 n23 A25 s138 w139

def crierlaw25_ShadowDoes_j6 (a1 : Option Addr) (a1_n : Nat) (a2 : Int) (Q : Value → World → Prop) (p11 : Option Addr) (p15 : Option Addr) (b16 : Bool) (b18 : Bool) (w19 : World) : Prop :=
 cnd b18
 (Q (.bool false) w19)
 (LoopT (fun (s140 : crierlaw25_ShadowDoes_L1018.S) w141 A142 => crierlaw25_ShadowDoes_l5 a1 a1_n a2 Q p15 b16 s140.1 s140.2 w141 A142) ((p11 : Option Addr), (0 : Int)) w19)

def crierlaw25_ShadowDoes (a0 : Int) (a1 : Option Addr) (a1_n : Nat) (a1_c : Nat) (a2 : Int) (w : World) (Q : Value → World → Prop) : Prop :=
 CV P F.crierlaw25_awake [] w fun v6 w7 =>
 ∃ b8 : Bool, v6 = .bool b8 ∧
 cnd (!b8)
 (Q (.bool false) w7)
 (CV P F.shadow_New [.int .i64 a0] w7 fun v9 w10 =>
 ∃ p11 : Option Addr, ∃ n12 : Int, v9 = .tuple [.pointer p11, .int .i64 n12].toArray ∧
 CV P F.crierref25_New [.int .i64 a0] w10 fun v13 w14 =>
 ∃ p15 : Option Addr, ∃ b16 : Bool, v13 = .tuple [.pointer p15, .bool b16].toArray ∧
 JoinT (fun (J143 : crierlaw25_ShadowDoes_J126.S → World → Prop) =>
  cnd (!b8)
  (J143 ((true : Bool)) w14)
  (cnd ((Option.isNone p11) == b16)
  (J143 ((true : Bool)) w14)
  (cnd (!((n12 == 0) == b16))
  (J143 ((true : Bool)) w14)
  (cnd (!b16)
  (J143 (((n12 != 1) : Bool)) w14)
  (J143 ((false : Bool)) w14)))))
  fun (s144 : crierlaw25_ShadowDoes_J126.S) w145 => crierlaw25_ShadowDoes_j6 a1 a1_n a2 Q p11 p15 b16 s144 w145)
def crierlaw25_ShadowDoes_ann : Nat → Option LoopSpec := fun
  | 126 => some crierlaw25_ShadowDoes_J126
  | 1018 => some crierlaw25_ShadowDoes_L1018
  | 4072 => some crierlaw25_ShadowDoes_J4072
  | 32585 => some crierlaw25_ShadowDoes_J32585
  | 130342 => some crierlaw25_ShadowDoes_J130342
  | 260687 => some crierlaw25_ShadowDoes_J260687
  | 521375 => some crierlaw25_ShadowDoes_J521375
  | 1042750 => some (ordSpec [0, 1, 2, 3, 4, 5, 6, 7, 8, 9, 10, 11, 12, 13, 14, 15, 16, 17, 18, 19, 20, 21, 22, 23, 24, 25, 26, 27, 28, 29, 30, 31, 32, 33, 34, 35, 36, 37, 38, 39, 40, 41, 42, 43])
  | _ => none
theorem crierlaw25_ShadowDoes_eq (a0 : Int) (a1 : Option Addr) (a1_n : Nat) (a1_c : Nat) (a2 : Int) (w : World) (Q : Value → World → Prop) : fnX P crierlaw25_ShadowDoes_ann Try.f8 [.int .i64 a0, .slice a1 a1_n a1_c, .int .i64 a2] w Q = crierlaw25_ShadowDoes a0 a1 a1_n a1_c a2 w Q := by kernel_rfl
theorem crierlaw25_ShadowDoes_cv {a0 : Int} {a1 : Option Addr} {a1_n : Nat} {a1_c : Nat} {a2 : Int} {w : World} {Q : Value → World → Prop} (h : crierlaw25_ShadowDoes a0 a1 a1_n a1_c a2 w Q) : CV P F.crierlaw25_ShadowDoes [.int .i64 a0, .slice a1 a1_n a1_c, .int .i64 a2] w Q := CV_of mixed Try.func8 (crierlaw25_ShadowDoes_eq a0 a1 a1_n a1_c a2 w Q ▸ h)

/- 9 crier/crierlaw25.awake -/
def crierlaw25_awake_J14 : LoopSpec where
  S := Bool
  emb := fun s => [(24, .bool s)]
  ext := fun t => match getL t 24 with
    | some (.bool y5) => some (y5)
    | _ => none
  slots := [24]
  fits := fun _ => rfl
  ok := by
    intro t s h x hx
    (try dsimp only at h hx)
    split at h
    · cases h
      simp only [List.mem_cons, List.not_mem_nil, or_false] at hx
      rcases hx with rfl <;> assumption
    · cases h

def crierlaw25_awake_J1023 : LoopSpec where
  S := Bool
  emb := fun s => [(0, .bool s)]
  ext := fun t => match getL t 0 with
    | some (.bool y37) => some (y37)
    | _ => none
  slots := [0]
  fits := fun _ => rfl
  ok := by
    intro t s h x hx
    (try dsimp only at h hx)
    split at h
    · cases h
      simp only [List.mem_cons, List.not_mem_nil, or_false] at hx
      rcases hx with rfl <;> assumption
    · cases h

def crierlaw25_awake_j0 (Q : Value → World → Prop) (b38 : Bool) (w39 : World) : Prop :=
 Q (.bool b38) w39

def crierlaw25_awake_j1 (Q : Value → World → Prop) (p3 : Option Addr) (b6 : Bool) (w7 : World) : Prop :=
 cnd b6
 (Q (.bool false) w7)
 (CV P F.shadow_Shadow_Bind [.pointer p3, .agg [.int .i64 1, .int .i64 2].toArray] w7 fun v8 w9 =>
 ∃ n10 : Int, ∃ n11 : Int, v8 = .tuple [.int .i64 n10, .int .i64 n11].toArray ∧
 CV P F.shadow_Shadow_Bind [.pointer p3, .agg [.int .i64 0, .int .i64 3].toArray] w9 fun v12 w13 =>
 ∃ n14 : Int, ∃ n15 : Int, v12 = .tuple [.int .i64 n14, .int .i64 n15].toArray ∧
 CV P F.shadow_Shadow_Bind [.pointer p3, .agg [.int .i64 1, .int .i64 3].toArray] w13 fun v16 w17 =>
 ∃ n18 : Int, ∃ n19 : Int, v16 = .tuple [.int .i64 n18, .int .i64 n19].toArray ∧
 CV P F.shadow_Shadow_Free [.pointer p3, .agg [.int .i64 1, .int .i64 2].toArray] w17 fun v20 w21 =>
 ∃ n22 : Int, ∃ n23 : Int, v20 = .tuple [.int .i64 n22, .int .i64 n23].toArray ∧
 CV P F.shadow_Shadow_Bind [.pointer p3, .agg [.int .i64 5, .int .i64 5].toArray] w21 fun v24 w25 =>
 ∃ n26 : Int, ∃ n27 : Int, v24 = .tuple [.int .i64 n26, .int .i64 n27].toArray ∧
 CV P F.shadow_Shadow_Event [.pointer p3, .int .i64 1] w25 fun v28 w29 =>
 ∃ n30 : Int, ∃ n31 : Int, ∃ n32 : Int, v28 = .tuple [.agg [.int .i64 n30, .int .i64 n31].toArray, .int .i64 n32].toArray ∧
 alc [.int .i64 0, .int .i64 0] T.t24 w29 fun b33 w34 =>
 st1 (.int .i64 n30) ⟨b33, 0, none⟩ w34 fun w35 =>
 st1 (.int .i64 n31) ⟨b33, 1, none⟩ w35 fun w36 =>
 JoinT (fun (J40 : crierlaw25_awake_J1023.S → World → Prop) =>
  cnd (n10 == 0)
  (cnd (n14 == 1)
  (cnd (n19 == 2)
  (cnd (n22 == 0)
  (cnd (n26 == 0)
  (ldI .i64 ⟨b33, 0, none⟩ w36 fun n41 =>
  ldI .i64 ⟨b33, 1, none⟩ w36 fun n42 =>
  eqA P .eql T.t24 (.agg [.int .i64 n41, .int .i64 n42].toArray) (.agg [.int .i64 0, .int .i64 3].toArray) w36 fun b43 =>
  cnd b43
  (cnd (n32 == 0)
  (CV P F.shadow_Shadow_Len [.pointer p3] w36 fun v44 w45 =>
  ∃ n46 : Int, v44 = .int .i64 n46 ∧
  J40 (((n46 == 2) : Bool)) w45)
  (J40 ((false : Bool)) w36))
  (J40 ((false : Bool)) w36))
  (J40 ((false : Bool)) w36))
  (J40 ((false : Bool)) w36))
  (J40 ((false : Bool)) w36))
  (J40 ((false : Bool)) w36))
  (J40 ((false : Bool)) w36))
  fun (s47 : crierlaw25_awake_J1023.S) w48 => crierlaw25_awake_j0 Q s47 w48)

def crierlaw25_awake (w : World) (Q : Value → World → Prop) : Prop :=
 CV P F.shadow_New [.int .i64 2] w fun v1 w2 =>
 ∃ p3 : Option Addr, ∃ n4 : Int, v1 = .tuple [.pointer p3, .int .i64 n4].toArray ∧
 JoinT (fun (J49 : crierlaw25_awake_J14.S → World → Prop) =>
  cnd (Option.isNone p3)
  (J49 ((true : Bool)) w2)
  (J49 (((n4 != 0) : Bool)) w2))
  fun (s50 : crierlaw25_awake_J14.S) w51 => crierlaw25_awake_j1 Q p3 s50 w51
def crierlaw25_awake_ann : Nat → Option LoopSpec := fun
  | 14 => some crierlaw25_awake_J14
  | 1023 => some crierlaw25_awake_J1023
  | _ => none
theorem crierlaw25_awake_eq (w : World) (Q : Value → World → Prop) : fnX P crierlaw25_awake_ann Try.f9 [] w Q = crierlaw25_awake w Q := by kernel_rfl
theorem crierlaw25_awake_cv {w : World} {Q : Value → World → Prop} (h : crierlaw25_awake w Q) : CV P F.crierlaw25_awake [] w Q := CV_of mixed Try.func9 (crierlaw25_awake_eq w Q ▸ h)

/- 10 crier/crierlaw25.played -/
def crierlaw25_played_L122 : LoopSpec where
  S := Int
  emb := fun s => [(9, .int .i64 s)]
  ext := fun t => match getL t 9 with
    | some (.int .i64 y13) => some (y13)
    | _ => none
  slots := [9]
  fits := fun _ => rfl
  ok := by
    intro t s h x hx
    (try dsimp only at h hx)
    split at h
    · cases h
      simp only [List.mem_cons, List.not_mem_nil, or_false] at hx
      rcases hx with rfl <;> assumption
    · cases h

def crierlaw25_played_J488 : LoopSpec where
  S := Bool
  emb := fun s => [(31, .bool s)]
  ext := fun t => match getL t 31 with
    | some (.bool y17) => some (y17)
    | _ => none
  slots := [31]
  fits := fun _ => rfl
  ok := by
    intro t s h x hx
    (try dsimp only at h hx)
    split at h
    · cases h
      simp only [List.mem_cons, List.not_mem_nil, or_false] at hx
      rcases hx with rfl <;> assumption
    · cases h

def crierlaw25_played_j0 (a1 : Option Addr) (a1_n : Nat) (Q : Value → World → Prop) (p7 : Option Addr) (p11 : Option Addr) (n14 : Int) (A16 : crierlaw25_played_L122.S → World → Prop) (b18 : Bool) (w19 : World) : Prop :=
 cnd b18
 (ix n14 a1_n fun j20 => nn a1 fun a21 =>
 ldI .i64 (a21.add (j20 * 3)) w19 fun n22 =>
 ldI .i64 ((a21.add (j20 * 3)).add 1) w19 fun n23 =>
 ldI .i64 ((a21.add (j20 * 3)).add 2) w19 fun n24 =>
 CV P F.crierlaw25_does [.pointer p7, .pointer p11, .agg [.int .i64 n22, .int .i64 n23, .int .i64 n24].toArray] w19 fun v25 w26 =>
 ∃ b27 : Bool, v25 = .bool b27 ∧
 A16 (((IntKind.i64.wrap (n14 + 1)) : Int)) w26)
 (Q (.pointer p7) w19)

def crierlaw25_played_l1 (a1 : Option Addr) (a1_n : Nat) (Q : Value → World → Prop) (p7 : Option Addr) (p11 : Option Addr) (n14 : Int) (w15 : World) (A16 : crierlaw25_played_L122.S → World → Prop) : Prop :=
 JoinT (fun (J28 : crierlaw25_played_J488.S → World → Prop) =>
  cnd (!(Option.isNone p7))
  (J28 (((decide (n14 < ((a1_n : Nat) : Int))) : Bool)) w15)
  (J28 ((false : Bool)) w15))
  fun (s29 : crierlaw25_played_J488.S) w30 => crierlaw25_played_j0 a1 a1_n Q p7 p11 n14 A16 s29 w30

def crierlaw25_played (a0 : Int) (a1 : Option Addr) (a1_n : Nat) (a1_c : Nat) (w : World) (Q : Value → World → Prop) : Prop :=
 (nz 41 <|
 CV P F.shadow_New [.int .i64 (IntKind.i64.wrap ((Int.tmod a0 41)))] w fun v5 w6 =>
 ∃ p7 : Option Addr, ∃ n8 : Int, v5 = .tuple [.pointer p7, .int .i64 n8].toArray ∧
 (nz 41 <|
 CV P F.crierref25_New [.int .i64 (IntKind.i64.wrap ((Int.tmod a0 41)))] w6 fun v9 w10 =>
 ∃ p11 : Option Addr, ∃ b12 : Bool, v9 = .tuple [.pointer p11, .bool b12].toArray ∧
 LoopT (fun (s31 : crierlaw25_played_L122.S) w32 A33 => crierlaw25_played_l1 a1 a1_n Q p7 p11 s31 w32 A33) ((0 : Int)) w10))
def crierlaw25_played_ann : Nat → Option LoopSpec := fun
  | 122 => some crierlaw25_played_L122
  | 488 => some crierlaw25_played_J488
  | _ => none
theorem crierlaw25_played_eq (a0 : Int) (a1 : Option Addr) (a1_n : Nat) (a1_c : Nat) (w : World) (Q : Value → World → Prop) : fnX P crierlaw25_played_ann Try.f10 [.int .u8 a0, .slice a1 a1_n a1_c] w Q = crierlaw25_played a0 a1 a1_n a1_c w Q := by kernel_rfl
theorem crierlaw25_played_cv {a0 : Int} {a1 : Option Addr} {a1_n : Nat} {a1_c : Nat} {w : World} {Q : Value → World → Prop} (h : crierlaw25_played a0 a1 a1_n a1_c w Q) : CV P F.crierlaw25_played [.int .u8 a0, .slice a1 a1_n a1_c] w Q := CV_of mixed Try.func10 (crierlaw25_played_eq a0 a1 a1_n a1_c w Q ▸ h)

/- 11 (*crier/shadow.Shadow).Bind -/
def shadow_Shadow_Bind_L124 : LoopSpec where
  S := Int
  emb := fun s => [(8, .int .i64 s)]
  ext := fun t => match getL t 8 with
    | some (.int .i64 y24) => some (y24)
    | _ => none
  slots := [8]
  fits := fun _ => rfl
  ok := by
    intro t s h x hx
    (try dsimp only at h hx)
    split at h
    · cases h
      simp only [List.mem_cons, List.not_mem_nil, or_false] at hx
      rcases hx with rfl <;> assumption
    · cases h

def shadow_Shadow_Bind_l0 (a0 : Option Addr) (Q : Value → World → Prop) (b4 : Nat) (n25 : Int) (w26 : World) (A27 : shadow_Shadow_Bind_L124.S → World → Prop) : Prop :=
 nn a0 fun a28 =>
 ldP (a28.add 2) w26 fun p29 =>
 CV P F.book_Book_int__int_Has [.pointer p29, .int .i64 n25] w26 fun v30 w31 =>
 ∃ b32 : Bool, v30 = .bool b32 ∧
 cnd b32
 (A27 (((IntKind.i64.wrap (n25 + 1)) : Int)) w31)
 (nn a0 fun a33 =>
 ldI .i64 a33 w31 fun n34 =>
 cnd (decide (n25 ≥ n34))
 (Q (.tuple [.int .i64 0, .int .i64 2].toArray) w31)
 (drw w31 fun w35 =>
 nn a0 fun a36 =>
 ldP (a36.add 1) w35 fun p37 =>
 ldI .i64 ⟨b4, 0, none⟩ w35 fun n38 =>
 ldI .i64 ⟨b4, 1, none⟩ w35 fun n39 =>
 CV P F.shadow_keyed [.agg [.int .i64 n38, .int .i64 n39].toArray] w35 fun v40 w41 =>
 ∃ n42 : Int, v40 = .int .i64 n42 ∧
 (ldP (a36.add 1) w41 fun p43 =>
 ((.pointer p43 : Value) = .pointer p37)) ∧
 CV P F.book_Book_int__int_Put [.pointer p37, .int .i64 n42, .int .i64 n25] w41 fun v44 w45 =>
 ∃ b46 : Bool, v44 = .bool b46 ∧
 drw w45 fun w47 =>
 nn a0 fun a48 =>
 ldP (a48.add 2) w47 fun p49 =>
 ldI .i64 ⟨b4, 0, none⟩ w47 fun n50 =>
 ldI .i64 ⟨b4, 1, none⟩ w47 fun n51 =>
 CV P F.shadow_keyed [.agg [.int .i64 n50, .int .i64 n51].toArray] w47 fun v52 w53 =>
 ∃ n54 : Int, v52 = .int .i64 n54 ∧
 (ldP (a48.add 2) w53 fun p55 =>
 ((.pointer p55 : Value) = .pointer p49)) ∧
 CV P F.book_Book_int__int_Put [.pointer p49, .int .i64 n25, .int .i64 n54] w53 fun v56 w57 =>
 ∃ b58 : Bool, v56 = .bool b58 ∧
 Q (.tuple [.int .i64 n25, .int .i64 0].toArray) w57))

def shadow_Shadow_Bind (a0 : Option Addr) (a1_0 : Int) (a1_1 : Int) (w : World) (Q : Value → World → Prop) : Prop :=
 alc [.int .i64 a1_0, .int .i64 a1_1] T.t24 w fun b4 w5 =>
 ldI .i64 ⟨b4, 0, none⟩ w5 fun n6 =>
 ldI .i64 ⟨b4, 1, none⟩ w5 fun n7 =>
 CV P F.shadow_May [.agg [.int .i64 n6, .int .i64 n7].toArray] w5 fun v8 w9 =>
 ∃ b10 : Bool, v8 = .bool b10 ∧
 cnd (!b10)
 (Q (.tuple [.int .i64 0, .int .i64 1].toArray) w9)
 (drw w9 fun w11 =>
 nn a0 fun a12 =>
 ldP (a12.add 1) w11 fun p13 =>
 ldI .i64 ⟨b4, 0, none⟩ w11 fun n14 =>
 ldI .i64 ⟨b4, 1, none⟩ w11 fun n15 =>
 CV P F.shadow_keyed [.agg [.int .i64 n14, .int .i64 n15].toArray] w11 fun v16 w17 =>
 ∃ n18 : Int, v16 = .int .i64 n18 ∧
 (ldP (a12.add 1) w17 fun p19 =>
 ((.pointer p19 : Value) = .pointer p13)) ∧
 CV P F.book_Book_int__int_Get [.pointer p13, .int .i64 n18] w17 fun v20 w21 =>
 ∃ n22 : Int, ∃ b23 : Bool, v20 = .tuple [.int .i64 n22, .bool b23].toArray ∧
 cnd b23
 (Q (.tuple [.int .i64 n22, .int .i64 0].toArray) w21)
 (LoopT (fun (s59 : shadow_Shadow_Bind_L124.S) w60 A61 => shadow_Shadow_Bind_l0 a0 Q b4 s59 w60 A61) ((0 : Int)) w21))
def shadow_Shadow_Bind_ann : Nat → Option LoopSpec := fun
  | 28 => some (ordSpec [0, 1, 2, 3, 4, 5, 6, 7, 8, 9, 10, 11])
  | 124 => some shadow_Shadow_Bind_L124
  | 254 => some (ordSpec [0, 1, 2, 3, 4, 6, 5, 7])
  | 510 => some (ordSpec [0, 1, 2, 3, 4, 5, 6, 7])
  | _ => none
theorem shadow_Shadow_Bind_eq (a0 : Option Addr) (a1_0 : Int) (a1_1 : Int) (w : World) (Q : Value → World → Prop) : fnX P shadow_Shadow_Bind_ann Try.f11 [.pointer a0, .agg [.int .i64 a1_0, .int .i64 a1_1].toArray] w Q = shadow_Shadow_Bind a0 a1_0 a1_1 w Q := by kernel_rfl
theorem shadow_Shadow_Bind_cv {a0 : Option Addr} {a1_0 : Int} {a1_1 : Int} {w : World} {Q : Value → World → Prop} (h : shadow_Shadow_Bind a0 a1_0 a1_1 w Q) : CV P F.shadow_Shadow_Bind [.pointer a0, .agg [.int .i64 a1_0, .int .i64 a1_1].toArray] w Q := CV_of mixed Try.func11 (shadow_Shadow_Bind_eq a0 a1_0 a1_1 w Q ▸ h)

/- 12 (*crier/shadow.Shadow).Free -/

def shadow_Shadow_Free (a0 : Option Addr) (a1_0 : Int) (a1_1 : Int) (w : World) (Q : Value → World → Prop) : Prop :=
 alc [.int .i64 a1_0, .int .i64 a1_1] T.t24 w fun b4 w5 =>
 ldI .i64 ⟨b4, 0, none⟩ w5 fun n6 =>
 ldI .i64 ⟨b4, 1, none⟩ w5 fun n7 =>
 CV P F.shadow_May [.agg [.int .i64 n6, .int .i64 n7].toArray] w5 fun v8 w9 =>
 ∃ b10 : Bool, v8 = .bool b10 ∧
 cnd (!b10)
 (Q (.tuple [.int .i64 0, .int .i64 1].toArray) w9)
 (drw w9 fun w11 =>
 nn a0 fun a12 =>
 ldP (a12.add 1) w11 fun p13 =>
 ldI .i64 ⟨b4, 0, none⟩ w11 fun n14 =>
 ldI .i64 ⟨b4, 1, none⟩ w11 fun n15 =>
 CV P F.shadow_keyed [.agg [.int .i64 n14, .int .i64 n15].toArray] w11 fun v16 w17 =>
 ∃ n18 : Int, v16 = .int .i64 n18 ∧
 (ldP (a12.add 1) w17 fun p19 =>
 ((.pointer p19 : Value) = .pointer p13)) ∧
 CV P F.book_Book_int__int_Take [.pointer p13, .int .i64 n18] w17 fun v20 w21 =>
 ∃ n22 : Int, ∃ b23 : Bool, v20 = .tuple [.int .i64 n22, .bool b23].toArray ∧
 cnd (!b23)
 (Q (.tuple [.int .i64 0, .int .i64 250].toArray) w21)
 (nn a0 fun a24 =>
 ldP (a24.add 2) w21 fun p25 =>
 CV P F.book_Book_int__int_Take [.pointer p25, .int .i64 n22] w21 fun v26 w27 =>
 ∃ n28 : Int, ∃ b29 : Bool, v26 = .tuple [.int .i64 n28, .bool b29].toArray ∧
 Q (.tuple [.int .i64 n22, .int .i64 0].toArray) w27))
def shadow_Shadow_Free_ann : Nat → Option LoopSpec := fun
  | 14 => some (ordSpec [0, 1, 2, 3, 4, 5, 6, 7, 8, 9, 10, 11])
  | _ => none
theorem shadow_Shadow_Free_eq (a0 : Option Addr) (a1_0 : Int) (a1_1 : Int) (w : World) (Q : Value → World → Prop) : fnX P shadow_Shadow_Free_ann Try.f12 [.pointer a0, .agg [.int .i64 a1_0, .int .i64 a1_1].toArray] w Q = shadow_Shadow_Free a0 a1_0 a1_1 w Q := by kernel_rfl
theorem shadow_Shadow_Free_cv {a0 : Option Addr} {a1_0 : Int} {a1_1 : Int} {w : World} {Q : Value → World → Prop} (h : shadow_Shadow_Free a0 a1_0 a1_1 w Q) : CV P F.shadow_Shadow_Free [.pointer a0, .agg [.int .i64 a1_0, .int .i64 a1_1].toArray] w Q := CV_of mixed Try.func12 (shadow_Shadow_Free_eq a0 a1_0 a1_1 w Q ▸ h)

/- 13 (*crier/shadow.Shadow).Number -/
def shadow_Shadow_Number_J14 : LoopSpec where
  S := Bool
  emb := fun s => [(24, .bool s)]
  ext := fun t => match getL t 24 with
    | some (.bool y19) => some (y19)
    | _ => none
  slots := [24]
  fits := fun _ => rfl
  ok := by
    intro t s h x hx
    (try dsimp only at h hx)
    split at h
    · cases h
      simp only [List.mem_cons, List.not_mem_nil, or_false] at hx
      rcases hx with rfl <;> assumption
    · cases h

def shadow_Shadow_Number_j0 (Q : Value → World → Prop) (n17 : Int) (b20 : Bool) (w21 : World) : Prop :=
 cnd b20
 (Q (.tuple [.int .i64 0, .int .i64 250].toArray) w21)
 (Q (.tuple [.int .i64 n17, .int .i64 0].toArray) w21)

def shadow_Shadow_Number (a0 : Option Addr) (a1_0 : Int) (a1_1 : Int) (w : World) (Q : Value → World → Prop) : Prop :=
 alc [.int .i64 a1_0, .int .i64 a1_1] T.t24 w fun b4 w5 =>
 drw w5 fun w6 =>
 nn a0 fun a7 =>
 ldP (a7.add 1) w6 fun p8 =>
 ldI .i64 ⟨b4, 0, none⟩ w6 fun n9 =>
 ldI .i64 ⟨b4, 1, none⟩ w6 fun n10 =>
 CV P F.shadow_keyed [.agg [.int .i64 n9, .int .i64 n10].toArray] w6 fun v11 w12 =>
 ∃ n13 : Int, v11 = .int .i64 n13 ∧
 (ldP (a7.add 1) w12 fun p14 =>
 ((.pointer p14 : Value) = .pointer p8)) ∧
 CV P F.book_Book_int__int_Get [.pointer p8, .int .i64 n13] w12 fun v15 w16 =>
 ∃ n17 : Int, ∃ b18 : Bool, v15 = .tuple [.int .i64 n17, .bool b18].toArray ∧
 JoinT (fun (J22 : shadow_Shadow_Number_J14.S → World → Prop) =>
  ldI .i64 ⟨b4, 0, none⟩ w16 fun n23 =>
  ldI .i64 ⟨b4, 1, none⟩ w16 fun n24 =>
  CV P F.shadow_May [.agg [.int .i64 n23, .int .i64 n24].toArray] w16 fun v25 w26 =>
  ∃ b27 : Bool, v25 = .bool b27 ∧
  cnd (!b27)
  (J22 ((true : Bool)) w26)
  (J22 (((!b18) : Bool)) w26))
  fun (s28 : shadow_Shadow_Number_J14.S) w29 => shadow_Shadow_Number_j0 Q n17 s28 w29
def shadow_Shadow_Number_ann : Nat → Option LoopSpec := fun
  | 6 => some (ordSpec [0, 1, 2, 3, 4, 5, 6, 7, 8, 9, 10, 11])
  | 14 => some shadow_Shadow_Number_J14
  | _ => none
theorem shadow_Shadow_Number_eq (a0 : Option Addr) (a1_0 : Int) (a1_1 : Int) (w : World) (Q : Value → World → Prop) : fnX P shadow_Shadow_Number_ann Try.f13 [.pointer a0, .agg [.int .i64 a1_0, .int .i64 a1_1].toArray] w Q = shadow_Shadow_Number a0 a1_0 a1_1 w Q := by kernel_rfl
theorem shadow_Shadow_Number_cv {a0 : Option Addr} {a1_0 : Int} {a1_1 : Int} {w : World} {Q : Value → World → Prop} (h : shadow_Shadow_Number a0 a1_0 a1_1 w Q) : CV P F.shadow_Shadow_Number [.pointer a0, .agg [.int .i64 a1_0, .int .i64 a1_1].toArray] w Q := CV_of mixed Try.func13 (shadow_Shadow_Number_eq a0 a1_0 a1_1 w Q ▸ h)

/- 14 crier/shadow.May -/
def shadow_May_J3 : LoopSpec where
  S := Bool
  emb := fun s => [(2, .bool s)]
  ext := fun t => match getL t 2 with
    | some (.bool y5) => some (y5)
    | _ => none
  slots := [2]
  fits := fun _ => rfl
  ok := by
    intro t s h x hx
    (try dsimp only at h hx)
    split at h
    · cases h
      simp only [List.mem_cons, List.not_mem_nil, or_false] at hx
      rcases hx with rfl <;> assumption
    · cases h

def shadow_May_j0 (Q : Value → World → Prop) (b6 : Bool) (w7 : World) : Prop :=
 Q (.bool b6) w7

def shadow_May (a0_0 : Int) (a0_1 : Int) (w : World) (Q : Value → World → Prop) : Prop :=
 alc [.int .i64 a0_0, .int .i64 a0_1] T.t24 w fun b3 w4 =>
 JoinT (fun (J8 : shadow_May_J3.S → World → Prop) =>
  ldI .i64 ⟨b3, 0, none⟩ w4 fun n9 =>
  cnd (decide (n9 ≥ 0))
  (ldI .i64 ⟨b3, 0, none⟩ w4 fun n10 =>
  cnd (decide (n10 < 32))
  (ldI .i64 ⟨b3, 1, none⟩ w4 fun n11 =>
  cnd (decide (n11 ≥ 0))
  (ldI .i64 ⟨b3, 1, none⟩ w4 fun n12 =>
  J8 (((decide (n12 < 16)) : Bool)) w4)
  (J8 ((false : Bool)) w4))
  (J8 ((false : Bool)) w4))
  (J8 ((false : Bool)) w4))
  fun (s13 : shadow_May_J3.S) w14 => shadow_May_j0 Q s13 w14
def shadow_May_ann : Nat → Option LoopSpec := fun
  | 3 => some shadow_May_J3
  | _ => none
theorem shadow_May_eq (a0_0 : Int) (a0_1 : Int) (w : World) (Q : Value → World → Prop) : fnX P shadow_May_ann Try.f14 [.agg [.int .i64 a0_0, .int .i64 a0_1].toArray] w Q = shadow_May a0_0 a0_1 w Q := by kernel_rfl
theorem shadow_May_cv {a0_0 : Int} {a0_1 : Int} {w : World} {Q : Value → World → Prop} (h : shadow_May a0_0 a0_1 w Q) : CV P F.shadow_May [.agg [.int .i64 a0_0, .int .i64 a0_1].toArray] w Q := CV_of mixed Try.func14 (shadow_May_eq a0_0 a0_1 w Q ▸ h)

/- 15 (*crier/shadow.Shadow).Len -/

def shadow_Shadow_Len (a0 : Option Addr) (w : World) (Q : Value → World → Prop) : Prop :=
 nn a0 fun a2 =>
 ldP (a2.add 1) w fun p3 =>
 CV P F.book_Book_int__int_Len [.pointer p3] w fun v4 w5 =>
 ∃ n6 : Int, v4 = .int .i64 n6 ∧
 Q (.int .i64 n6) w5
def shadow_Shadow_Len_ann : Nat → Option LoopSpec := fun _ => none
theorem shadow_Shadow_Len_eq (a0 : Option Addr) (w : World) (Q : Value → World → Prop) : fnX P shadow_Shadow_Len_ann Try.f15 [.pointer a0] w Q = shadow_Shadow_Len a0 w Q := by kernel_rfl
theorem shadow_Shadow_Len_cv {a0 : Option Addr} {w : World} {Q : Value → World → Prop} (h : shadow_Shadow_Len a0 w Q) : CV P F.shadow_Shadow_Len [.pointer a0] w Q := CV_of mixed Try.func15 (shadow_Shadow_Len_eq a0 w Q ▸ h)

/- 16 crier/crierlaw25.list -/
def crierlaw25_list_J29 : LoopSpec where
  S := Unit
  emb := fun _ => []
  ext := fun _ => some ()
  slots := []
  fits := fun _ => rfl
  ok := by
    intro t s h x hx; cases hx

def crierlaw25_list_j0 (Q : Value → World → Prop) (b2 : Nat) (w7 : World) (ds8 : List Deferred) : Prop :=
 ldL ⟨b2, 0, none⟩ w7 fun p9 l10 c11 =>
 takeX ds8 w7 fun w12 =>
 Q (.slice p9 l10 c11) w12

def crierlaw25_list_r1 (b2 : Nat) (l14 : Nat) (r15 : Loop) (vs16 : List Value) (w17 : World) (Q18 : Value → World → Prop) : Prop :=
 X.b2 vs16 fun v19 v20 =>
 ∃ n21 : Int, ∃ n22 : Int, v19 = .agg [.int .i64 n21, .int .i64 n22].toArray ∧
 ∃ n23 : Int, v20 = .int .i64 n23 ∧
 alc [.int .i64 0, .int .i64 0] T.t24 w17 fun b24 w25 =>
 st1 (.int .i64 n21) ⟨b24, 0, none⟩ w25 fun w26 =>
 st1 (.int .i64 n22) ⟨b24, 1, none⟩ w26 fun w27 =>
 recAt w27 l14 r15 .ready none ∧ setR w27 l14 r15 .busy none fun w28 =>
 ldL ⟨b2, 0, none⟩ w28 fun p29 l30 c31 =>
 ldI .i64 ⟨b24, 0, none⟩ w28 fun n32 =>
 ldI .i64 ⟨b24, 1, none⟩ w28 fun n33 =>
 alc [.int .i64 n32, .int .i64 n33, .int .i64 n23] T.t3 w28 fun b34 w35 =>
 runS P (Builtin.append_ #[T.t37, T.t37] T.t37 [.slice p29 l30 c31, .slice (some ⟨b34, 0, none⟩) 3 3].toArray) w35 fun p36 l37 c38 w39 =>
 st1 (.slice p36 l37 c38) ⟨b2, 0, none⟩ w39 fun w40 =>
 ldL ⟨b2, 0, none⟩ w40 fun p41 l42 c43 =>
 cnd (decide (((l42 : Nat) : Int) > 3000))
 (recAt w40 l14 r15 .busy none ∧ setR w40 l14 r15 .done (some (.exit 0)) fun w44 => Q18 (.bool false) w44)
 (recAt w40 l14 r15 .busy none ∧ setR w40 l14 r15 .ready none fun w45 => Q18 (.bool true) w45)

def crierlaw25_list (a0 : Option Addr) (w : World) (Q : Value → World → Prop) : Prop :=
 alc [.slice none 0 0] T.t37 w fun b2 w3 =>
 CV P F.shadow_Shadow_All [.pointer a0] w3 fun v4 w5 =>
 ∃ v6 : Value, v4 = v6 ∧
 JoinT (fun (J13 : crierlaw25_list_J29.S × List Deferred → World → Prop) =>
  RF P none 2 (v6) w5 (fun l14 r15 vs16 w17 Q18 => crierlaw25_list_r1 b2 l14 r15 vs16 w17 Q18) fun mk46 jp47 w48 =>
  jmpX jp47
  (J13 ((), (mk46 ++ [])) w48)
  (takeX (mk46 ++ []) w48 fun w49 =>
  Q (.slice none 0 0) w49)
  fun id50 => (id50 = 0 → (J13 ((), (mk46 ++ [])) w48)) ∧ (id50 ≠ 0 → (False)))
  fun (s51 : crierlaw25_list_J29.S × List Deferred) w52 => crierlaw25_list_j0 Q b2 w52 s51.2
def crierlaw25_list_ann : Nat → Option LoopSpec := fun
  | 29 => some crierlaw25_list_J29
  | _ => none
theorem crierlaw25_list_eq (a0 : Option Addr) (w : World) (Q : Value → World → Prop) : fnX P crierlaw25_list_ann Try.f16 [.pointer a0] w Q = crierlaw25_list a0 w Q := by kernel_rfl
theorem crierlaw25_list_cv {a0 : Option Addr} {w : World} {Q : Value → World → Prop} (h : crierlaw25_list a0 w Q) : CV P F.crierlaw25_list [.pointer a0] w Q := CV_of mixed Try.func16 (crierlaw25_list_eq a0 w Q ▸ h)

/- 17 crier/crierref01.Same -/
def crierref01_Same_L58 : LoopSpec where
  S := Int
  emb := fun s => [(5, .int .i64 s)]
  ext := fun t => match getL t 5 with
    | some (.int .i64 y7) => some (y7)
    | _ => none
  slots := [5]
  fits := fun _ => rfl
  ok := by
    intro t s h x hx
    (try dsimp only at h hx)
    split at h
    · cases h
      simp only [List.mem_cons, List.not_mem_nil, or_false] at hx
      rcases hx with rfl <;> assumption
    · cases h

def crierref01_Same_l0 (a0 : Option Addr) (a0_n : Nat) (a1 : Option Addr) (a1_n : Nat) (Q : Value → World → Prop) (n8 : Int) (w9 : World) (A10 : crierref01_Same_L58.S → World → Prop) : Prop :=
 cnd (decide (n8 < ((a0_n : Nat) : Int)))
 (drw w9 fun w11 =>
 ix n8 a0_n fun j12 => nn a0 fun a13 =>
 ldI .i64 (a13.add (j12 * 1)) w11 fun n14 =>
 ix n8 a1_n fun j15 => nn a1 fun a16 =>
 ldI .i64 (a16.add (j15 * 1)) w11 fun n17 =>
 cnd (n14 != n17)
 (Q (.bool false) w11)
 (A10 (((IntKind.i64.wrap (n8 + 1)) : Int)) w11))
 (Q (.bool true) w9)

def crierref01_Same (a0 : Option Addr) (a0_n : Nat) (a0_c : Nat) (a1 : Option Addr) (a1_n : Nat) (a1_c : Nat) (w : World) (Q : Value → World → Prop) : Prop :=
 cnd (((a0_n : Nat) : Int) != ((a1_n : Nat) : Int))
 (Q (.bool false) w)
 (LoopT (fun (s18 : crierref01_Same_L58.S) w19 A20 => crierref01_Same_l0 a0 a0_n a1 a1_n Q s18 w19 A20) ((0 : Int)) w)
def crierref01_Same_ann : Nat → Option LoopSpec := fun
  | 58 => some crierref01_Same_L58
  | 1864 => some (ordSpec [0, 1, 2, 3, 4, 5, 6, 7, 8])
  | _ => none
theorem crierref01_Same_eq (a0 : Option Addr) (a0_n : Nat) (a0_c : Nat) (a1 : Option Addr) (a1_n : Nat) (a1_c : Nat) (w : World) (Q : Value → World → Prop) : fnX P crierref01_Same_ann Try.f17 [.slice a0 a0_n a0_c, .slice a1 a1_n a1_c] w Q = crierref01_Same a0 a0_n a0_c a1 a1_n a1_c w Q := by kernel_rfl
theorem crierref01_Same_cv {a0 : Option Addr} {a0_n : Nat} {a0_c : Nat} {a1 : Option Addr} {a1_n : Nat} {a1_c : Nat} {w : World} {Q : Value → World → Prop} (h : crierref01_Same a0 a0_n a0_c a1 a1_n a1_c w Q) : CV P F.crierref01_Same [.slice a0 a0_n a0_c, .slice a1 a1_n a1_c] w Q := CV_of mixed Try.func17 (crierref01_Same_eq a0 a0_n a0_c a1 a1_n a1_c w Q ▸ h)

/- 18 (*crier/shadow.Shadow).All -/

def shadow_Shadow_All (a0 : Option Addr) (w : World) (Q : Value → World → Prop) : Prop :=
 nn a0 fun a2 =>
 ldP (a2.add 1) w fun p3 =>
 CV P F.book_Book_int__int_All [.pointer p3] w fun v4 w5 =>
 ∃ v6 : Value, v4 = v6 ∧
 alc [.nilFunc] T.t49 w5 fun b7 w8 =>
 oneK v6 (st1 (v6) ⟨b7, 0, none⟩ w8 fun w9 =>
 Q (.func (.func F.shadow_Shadow_All_1) [].toArray [.pointer (some ⟨b7, 0, none⟩)].toArray) w9)
def shadow_Shadow_All_ann : Nat → Option LoopSpec := fun _ => none
theorem shadow_Shadow_All_eq (a0 : Option Addr) (w : World) (Q : Value → World → Prop) : fnX P shadow_Shadow_All_ann Try.f18 [.pointer a0] w Q = shadow_Shadow_All a0 w Q := by kernel_rfl
theorem shadow_Shadow_All_cv {a0 : Option Addr} {w : World} {Q : Value → World → Prop} (h : shadow_Shadow_All a0 w Q) : CV P F.shadow_Shadow_All [.pointer a0] w Q := CV_of mixed Try.func18 (shadow_Shadow_All_eq a0 w Q ▸ h)

/- 19 (*crier/shadow.Shadow).Event -/

def shadow_Shadow_Event (a0 : Option Addr) (a1 : Int) (w : World) (Q : Value → World → Prop) : Prop :=
 alc [.int .i64 0, .int .i64 0] T.t24 w fun b3 w4 =>
 nn a0 fun a5 =>
 ldP (a5.add 2) w4 fun p6 =>
 CV P F.book_Book_int__int_Get [.pointer p6, .int .i64 a1] w4 fun v7 w8 =>
 ∃ n9 : Int, ∃ b10 : Bool, v7 = .tuple [.int .i64 n9, .bool b10].toArray ∧
 cnd (!b10)
 (st1 (.int .i64 0) ⟨b3, 0, none⟩ w8 fun w11 =>
 st1 (.int .i64 0) ⟨b3, 1, none⟩ w11 fun w12 =>
 ldI .i64 ⟨b3, 0, none⟩ w12 fun n13 =>
 ldI .i64 ⟨b3, 1, none⟩ w12 fun n14 =>
 Q (.tuple [.agg [.int .i64 n13, .int .i64 n14].toArray, .int .i64 250].toArray) w12)
 (CV P F.shadow_unkeyed [.int .i64 n9] w8 fun v15 w16 =>
 ∃ n17 : Int, ∃ n18 : Int, v15 = .agg [.int .i64 n17, .int .i64 n18].toArray ∧
 st1 (.int .i64 n17) ⟨b3, 0, none⟩ w16 fun w19 =>
 st1 (.int .i64 n18) ⟨b3, 1, none⟩ w19 fun w20 =>
 ldI .i64 ⟨b3, 0, none⟩ w20 fun n21 =>
 ldI .i64 ⟨b3, 1, none⟩ w20 fun n22 =>
 Q (.tuple [.agg [.int .i64 n21, .int .i64 n22].toArray, .int .i64 0].toArray) w20)
def shadow_Shadow_Event_ann : Nat → Option LoopSpec := fun _ => none
theorem shadow_Shadow_Event_eq (a0 : Option Addr) (a1 : Int) (w : World) (Q : Value → World → Prop) : fnX P shadow_Shadow_Event_ann Try.f19 [.pointer a0, .int .i64 a1] w Q = shadow_Shadow_Event a0 a1 w Q := by kernel_rfl
theorem shadow_Shadow_Event_cv {a0 : Option Addr} {a1 : Int} {w : World} {Q : Value → World → Prop} (h : shadow_Shadow_Event a0 a1 w Q) : CV P F.shadow_Shadow_Event [.pointer a0, .int .i64 a1] w Q := CV_of mixed Try.func19 (shadow_Shadow_Event_eq a0 a1 w Q ▸ h)

/- 20 crier/crierref01.Has -/
def crierref01_Has_L26 : LoopSpec where
  S := Int
  emb := fun s => [(5, .int .i64 s)]
  ext := fun t => match getL t 5 with
    | some (.int .i64 y5) => some (y5)
    | _ => none
  slots := [5]
  fits := fun _ => rfl
  ok := by
    intro t s h x hx
    (try dsimp only at h hx)
    split at h
    · cases h
      simp only [List.mem_cons, List.not_mem_nil, or_false] at hx
      rcases hx with rfl <;> assumption
    · cases h

def crierref01_Has_l0 (a0 : Option Addr) (a0_n : Nat) (a1 : Int) (Q : Value → World → Prop) (n6 : Int) (w7 : World) (A8 : crierref01_Has_L26.S → World → Prop) : Prop :=
 cnd (decide (n6 < ((a0_n : Nat) : Int)))
 (ix n6 a0_n fun j9 => nn a0 fun a10 =>
 ldI .i64 (a10.add (j9 * 1)) w7 fun n11 =>
 cnd (n11 == a1)
 (Q (.bool true) w7)
 (A8 (((IntKind.i64.wrap (n6 + 1)) : Int)) w7))
 (Q (.bool false) w7)

def crierref01_Has (a0 : Option Addr) (a0_n : Nat) (a0_c : Nat) (a1 : Int) (w : World) (Q : Value → World → Prop) : Prop :=
 LoopT (fun (s12 : crierref01_Has_L26.S) w13 A14 => crierref01_Has_l0 a0 a0_n a1 Q s12 w13 A14) ((0 : Int)) w
def crierref01_Has_ann : Nat → Option LoopSpec := fun
  | 26 => some crierref01_Has_L26
  | _ => none
theorem crierref01_Has_eq (a0 : Option Addr) (a0_n : Nat) (a0_c : Nat) (a1 : Int) (w : World) (Q : Value → World → Prop) : fnX P crierref01_Has_ann Try.f20 [.slice a0 a0_n a0_c, .int .i64 a1] w Q = crierref01_Has a0 a0_n a0_c a1 w Q := by kernel_rfl
theorem crierref01_Has_cv {a0 : Option Addr} {a0_n : Nat} {a0_c : Nat} {a1 : Int} {w : World} {Q : Value → World → Prop} (h : crierref01_Has a0 a0_n a0_c a1 w Q) : CV P F.crierref01_Has [.slice a0 a0_n a0_c, .int .i64 a1] w Q := CV_of mixed Try.func20 (crierref01_Has_eq a0 a0_n a0_c a1 w Q ▸ h)

/- 21 (*crier/shadow.Shadow).Of -/

def shadow_Shadow_Of (a0 : Option Addr) (a1 : Int) (w : World) (Q : Value → World → Prop) : Prop :=
 alc [.int .i64 a1] T.t3 w fun b3 w4 =>
 CV P F.shadow_Shadow_All [.pointer a0] w4 fun v5 w6 =>
 ∃ v7 : Value, v5 = v7 ∧
 alc [.nilFunc] T.t42 w6 fun b8 w9 =>
 oneK v7 (st1 (v7) ⟨b8, 0, none⟩ w9 fun w10 =>
 Q (.func (.func F.shadow_Shadow_Of_1) [].toArray [.pointer (some ⟨b8, 0, none⟩), .pointer (some ⟨b3, 0, none⟩)].toArray) w10)
def shadow_Shadow_Of_ann : Nat → Option LoopSpec := fun _ => none
theorem shadow_Shadow_Of_eq (a0 : Option Addr) (a1 : Int) (w : World) (Q : Value → World → Prop) : fnX P shadow_Shadow_Of_ann Try.f21 [.pointer a0, .int .i64 a1] w Q = shadow_Shadow_Of a0 a1 w Q := by kernel_rfl
theorem shadow_Shadow_Of_cv {a0 : Option Addr} {a1 : Int} {w : World} {Q : Value → World → Prop} (h : shadow_Shadow_Of a0 a1 w Q) : CV P F.shadow_Shadow_Of [.pointer a0, .int .i64 a1] w Q := CV_of mixed Try.func21 (shadow_Shadow_Of_eq a0 a1 w Q ▸ h)

/- 22 crier/shadow.New -/
def shadow_New_J6 : LoopSpec where
  S := Bool
  emb := fun s => [(9, .bool s)]
  ext := fun t => match getL t 9 with
    | some (.bool y2) => some (y2)
    | _ => none
  slots := [9]
  fits := fun _ => rfl
  ok := by
    intro t s h x hx
    (try dsimp only at h hx)
    split at h
    · cases h
      simp only [List.mem_cons, List.not_mem_nil, or_false] at hx
      rcases hx with rfl <;> assumption
    · cases h

def shadow_New_j0 (a0 : Int) (Q : Value → World → Prop) (b3 : Bool) (w4 : World) : Prop :=
 cnd b3
 (Q (.tuple [.pointer none, .int .i64 1].toArray) w4)
 (CV P F.book_New_int_int [] w4 fun v5 w6 =>
 ∃ p7 : Option Addr, v5 = .pointer p7 ∧
 CV P F.book_New_int_int [] w6 fun v8 w9 =>
 ∃ p10 : Option Addr, v8 = .pointer p10 ∧
 alc [.int .i64 a0, .pointer p7, .pointer p10] T.t66 w9 fun b11 w12 =>
 Q (.tuple [.pointer (some ⟨b11, 0, none⟩), .int .i64 0].toArray) w12)

def shadow_New (a0 : Int) (w : World) (Q : Value → World → Prop) : Prop :=
 JoinT (fun (J13 : shadow_New_J6.S → World → Prop) =>
  cnd (decide (a0 < 0))
  (J13 ((true : Bool)) w)
  (J13 (((decide (a0 > 512)) : Bool)) w))
  fun (s14 : shadow_New_J6.S) w15 => shadow_New_j0 a0 Q s14 w15
def shadow_New_ann : Nat → Option LoopSpec := fun
  | 6 => some shadow_New_J6
  | _ => none
theorem shadow_New_eq (a0 : Int) (w : World) (Q : Value → World → Prop) : fnX P shadow_New_ann Try.f22 [.int .i64 a0] w Q = shadow_New a0 w Q := by kernel_rfl
theorem shadow_New_cv {a0 : Int} {w : World} {Q : Value → World → Prop} (h : shadow_New a0 w Q) : CV P F.shadow_New [.int .i64 a0] w Q := CV_of mixed Try.func22 (shadow_New_eq a0 w Q ▸ h)

/- 23 crier/crierref25.New -/
def crierref25_New_J6 : LoopSpec where
  S := Bool
  emb := fun s => [(11, .bool s)]
  ext := fun t => match getL t 11 with
    | some (.bool y2) => some (y2)
    | _ => none
  slots := [11]
  fits := fun _ => rfl
  ok := by
    intro t s h x hx
    (try dsimp only at h hx)
    split at h
    · cases h
      simp only [List.mem_cons, List.not_mem_nil, or_false] at hx
      rcases hx with rfl <;> assumption
    · cases h

def crierref25_New_L122 : LoopSpec where
  S := Int
  emb := fun s => [(5, .int .i64 s)]
  ext := fun t => match getL t 5 with
    | some (.int .i64 y7) => some (y7)
    | _ => none
  slots := [5]
  fits := fun _ => rfl
  ok := by
    intro t s h x hx
    (try dsimp only at h hx)
    split at h
    · cases h
      simp only [List.mem_cons, List.not_mem_nil, or_false] at hx
      rcases hx with rfl <;> assumption
    · cases h

def crierref25_New_l0 (a0 : Int) (Q : Value → World → Prop) (b5 : Nat) (n8 : Int) (w9 : World) (A10 : crierref25_New_L122.S → World → Prop) : Prop :=
 cnd (decide (n8 < a0))
 (ldL ⟨b5, 0, none⟩ w9 fun p11 l12 c13 =>
 alc [.int .i64 (-1)] T.t3 w9 fun b14 w15 =>
 runS P (Builtin.append_ #[T.t37, T.t37] T.t37 [.slice p11 l12 c13, .slice (some ⟨b14, 0, none⟩) 1 1].toArray) w15 fun p16 l17 c18 w19 =>
 st1 (.slice p16 l17 c18) ⟨b5, 0, none⟩ w19 fun w20 =>
 ldL ⟨b5, 1, none⟩ w20 fun p21 l22 c23 =>
 alc [.int .i64 (-1)] T.t3 w20 fun b24 w25 =>
 runS P (Builtin.append_ #[T.t37, T.t37] T.t37 [.slice p21 l22 c23, .slice (some ⟨b24, 0, none⟩) 1 1].toArray) w25 fun p26 l27 c28 w29 =>
 st1 (.slice p26 l27 c28) ⟨b5, 1, none⟩ w29 fun w30 =>
 A10 (((IntKind.i64.wrap (n8 + 1)) : Int)) w30)
 (Q (.tuple [.pointer (some ⟨b5, 0, none⟩), .bool true].toArray) w9)

def crierref25_New_j1 (a0 : Int) (Q : Value → World → Prop) (b3 : Bool) (w4 : World) : Prop :=
 cnd b3
 (Q (.tuple [.pointer none, .bool false].toArray) w4)
 (alc [.slice none 0 0, .slice none 0 0] T.t61 w4 fun b5 w6 =>
 LoopT (fun (s31 : crierref25_New_L122.S) w32 A33 => crierref25_New_l0 a0 Q b5 s31 w32 A33) ((0 : Int)) w6)

def crierref25_New (a0 : Int) (w : World) (Q : Value → World → Prop) : Prop :=
 JoinT (fun (J34 : crierref25_New_J6.S → World → Prop) =>
  cnd (decide (a0 < 0))
  (J34 ((true : Bool)) w)
  (J34 (((decide (a0 > 512)) : Bool)) w))
  fun (s35 : crierref25_New_J6.S) w36 => crierref25_New_j1 a0 Q s35 w36
def crierref25_New_ann : Nat → Option LoopSpec := fun
  | 6 => some crierref25_New_J6
  | 122 => some crierref25_New_L122
  | _ => none
theorem crierref25_New_eq (a0 : Int) (w : World) (Q : Value → World → Prop) : fnX P crierref25_New_ann Try.f23 [.int .i64 a0] w Q = crierref25_New a0 w Q := by kernel_rfl
theorem crierref25_New_cv {a0 : Int} {w : World} {Q : Value → World → Prop} (h : crierref25_New a0 w Q) : CV P F.crierref25_New [.int .i64 a0] w Q := CV_of mixed Try.func23 (crierref25_New_eq a0 w Q ▸ h)

/- 24 (*crier/shadow.Shadow).Copy -/

def shadow_Shadow_Copy (a0 : Option Addr) (w : World) (Q : Value → World → Prop) : Prop :=
 drw w fun w2 =>
 nn a0 fun a3 =>
 ldI .i64 a3 w2 fun n4 =>
 nn a0 fun a5 =>
 ldP (a5.add 1) w2 fun p6 =>
 nn a0 fun a7 =>
 ldP (a7.add 2) w2 fun p8 =>
 CV P F.book_Book_int__int_Copy [.pointer p6] w2 fun v9 w10 =>
 ∃ p11 : Option Addr, v9 = .pointer p11 ∧
 (ldP (a7.add 2) w10 fun p12 =>
 ((.pointer p12 : Value) = .pointer p8)) ∧
 (ldI .i64 a3 w10 fun n13 =>
 ((.int .i64 n13 : Value) = .int .i64 n4)) ∧
 CV P F.book_Book_int__int_Copy [.pointer p8] w10 fun v14 w15 =>
 ∃ p16 : Option Addr, v14 = .pointer p16 ∧
 (ldI .i64 a3 w15 fun n17 =>
 ((.int .i64 n17 : Value) = .int .i64 n4)) ∧
 alc [.int .i64 n4, .pointer p11, .pointer p16] T.t66 w15 fun b18 w19 =>
 Q (.pointer (some ⟨b18, 0, none⟩)) w19
def shadow_Shadow_Copy_ann : Nat → Option LoopSpec := fun
  | 6 => some (ordSpec [0, 1, 2, 3, 4, 5, 6, 7, 9, 10, 11, 12, 8, 13, 14, 15, 16])
  | _ => none
theorem shadow_Shadow_Copy_eq (a0 : Option Addr) (w : World) (Q : Value → World → Prop) : fnX P shadow_Shadow_Copy_ann Try.f24 [.pointer a0] w Q = shadow_Shadow_Copy a0 w Q := by kernel_rfl
theorem shadow_Shadow_Copy_cv {a0 : Option Addr} {w : World} {Q : Value → World → Prop} (h : shadow_Shadow_Copy a0 w Q) : CV P F.shadow_Shadow_Copy [.pointer a0] w Q := CV_of mixed Try.func24 (shadow_Shadow_Copy_eq a0 w Q ▸ h)

/- 25 crier/crierlaw25.does -/
def crierlaw25_does_J427 : LoopSpec where
  S := Bool
  emb := fun s => [(6, .bool s)]
  ext := fun t => match getL t 6 with
    | some (.bool y21) => some (y21)
    | _ => none
  slots := [6]
  fits := fun _ => rfl
  ok := by
    intro t s h x hx
    (try dsimp only at h hx)
    split at h
    · cases h
      simp only [List.mem_cons, List.not_mem_nil, or_false] at hx
      rcases hx with rfl <;> assumption
    · cases h

def crierlaw25_does_j0 (Q : Value → World → Prop) (b22 : Bool) (w23 : World) : Prop :=
 Q (.bool b22) w23

def crierlaw25_does_J1723 : LoopSpec where
  S := Bool
  emb := fun s => [(6, .bool s)]
  ext := fun t => match getL t 6 with
    | some (.bool y39) => some (y39)
    | _ => none
  slots := [6]
  fits := fun _ => rfl
  ok := by
    intro t s h x hx
    (try dsimp only at h hx)
    split at h
    · cases h
      simp only [List.mem_cons, List.not_mem_nil, or_false] at hx
      rcases hx with rfl <;> assumption
    · cases h

def crierlaw25_does_j1 (Q : Value → World → Prop) (b40 : Bool) (w41 : World) : Prop :=
 Q (.bool b40) w41

def crierlaw25_does (a0 : Option Addr) (a1 : Option Addr) (a2_0 : Int) (a2_1 : Int) (a2_2 : Int) (w : World) (Q : Value → World → Prop) : Prop :=
 alc [.int .i64 a2_0, .int .i64 a2_1, .int .i64 a2_2] T.t32 w fun b6 w7 =>
 ldI .i64 ⟨b6, 0, none⟩ w7 fun n8 =>
 cnd (n8 == 1)
 (ldI .i64 ⟨b6, 1, none⟩ w7 fun n9 =>
 ldI .i64 ⟨b6, 2, none⟩ w7 fun n10 =>
 CV P F.shadow_Shadow_Bind [.pointer a0, .agg [.int .i64 n9, .int .i64 n10].toArray] w7 fun v11 w12 =>
 ∃ n13 : Int, ∃ n14 : Int, v11 = .tuple [.int .i64 n13, .int .i64 n14].toArray ∧
 ldI .i64 ⟨b6, 1, none⟩ w12 fun n15 =>
 ldI .i64 ⟨b6, 2, none⟩ w12 fun n16 =>
 CV P F.crierref25_Shadow_Bind [.pointer a1, .int .i64 n15, .int .i64 n16] w12 fun v17 w18 =>
 ∃ n19 : Int, ∃ n20 : Int, v17 = .tuple [.int .i64 n19, .int .i64 n20].toArray ∧
 JoinT (fun (J24 : crierlaw25_does_J427.S → World → Prop) =>
  cnd (n13 == n19)
  (J24 (((n14 == n20) : Bool)) w18)
  (J24 ((false : Bool)) w18))
  fun (s25 : crierlaw25_does_J427.S) w26 => crierlaw25_does_j0 Q s25 w26)
 (cnd (n8 == 2)
 (ldI .i64 ⟨b6, 1, none⟩ w7 fun n27 =>
 ldI .i64 ⟨b6, 2, none⟩ w7 fun n28 =>
 CV P F.shadow_Shadow_Free [.pointer a0, .agg [.int .i64 n27, .int .i64 n28].toArray] w7 fun v29 w30 =>
 ∃ n31 : Int, ∃ n32 : Int, v29 = .tuple [.int .i64 n31, .int .i64 n32].toArray ∧
 ldI .i64 ⟨b6, 1, none⟩ w30 fun n33 =>
 ldI .i64 ⟨b6, 2, none⟩ w30 fun n34 =>
 CV P F.crierref25_Shadow_Free [.pointer a1, .int .i64 n33, .int .i64 n34] w30 fun v35 w36 =>
 ∃ n37 : Int, ∃ n38 : Int, v35 = .tuple [.int .i64 n37, .int .i64 n38].toArray ∧
 JoinT (fun (J42 : crierlaw25_does_J1723.S → World → Prop) =>
  cnd (n31 == n37)
  (J42 (((n32 == n38) : Bool)) w36)
  (J42 ((false : Bool)) w36))
  fun (s43 : crierlaw25_does_J1723.S) w44 => crierlaw25_does_j1 Q s43 w44)
 (Q (.bool true) w7))
def crierlaw25_does_ann : Nat → Option LoopSpec := fun
  | 427 => some crierlaw25_does_J427
  | 1723 => some crierlaw25_does_J1723
  | _ => none
theorem crierlaw25_does_eq (a0 : Option Addr) (a1 : Option Addr) (a2_0 : Int) (a2_1 : Int) (a2_2 : Int) (w : World) (Q : Value → World → Prop) : fnX P crierlaw25_does_ann Try.f25 [.pointer a0, .pointer a1, .agg [.int .i64 a2_0, .int .i64 a2_1, .int .i64 a2_2].toArray] w Q = crierlaw25_does a0 a1 a2_0 a2_1 a2_2 w Q := by kernel_rfl
theorem crierlaw25_does_cv {a0 : Option Addr} {a1 : Option Addr} {a2_0 : Int} {a2_1 : Int} {a2_2 : Int} {w : World} {Q : Value → World → Prop} (h : crierlaw25_does a0 a1 a2_0 a2_1 a2_2 w Q) : CV P F.crierlaw25_does [.pointer a0, .pointer a1, .agg [.int .i64 a2_0, .int .i64 a2_1, .int .i64 a2_2].toArray] w Q := CV_of mixed Try.func25 (crierlaw25_does_eq a0 a1 a2_0 a2_1 a2_2 w Q ▸ h)

/- 26 crier/crierlaw25.alike -/
def crierlaw25_alike_J14 : LoopSpec where
  S := Bool
  emb := fun s => [(30, .bool s)]
  ext := fun t => match getL t 30 with
    | some (.bool y12) => some (y12)
    | _ => none
  slots := [30]
  fits := fun _ => rfl
  ok := by
    intro t s h x hx
    (try dsimp only at h hx)
    split at h
    · cases h
      simp only [List.mem_cons, List.not_mem_nil, or_false] at hx
      rcases hx with rfl <;> assumption
    · cases h

def crierlaw25_alike_J509 : LoopSpec where
  S := Unit
  emb := fun _ => []
  ext := fun _ => some ()
  slots := []
  fits := fun _ => rfl
  ok := by
    intro t s h x hx; cases hx

def crierlaw25_alike_L2042 : LoopSpec where
  S := (Option Addr × Nat × Nat) × Int
  emb := fun s => [(12, .slice s.1.1 s.1.2.1 s.1.2.2), (15, .int .i64 s.2)]
  ext := fun t => match getL t 12, getL t 15 with
    | some (.slice y34 y35 y36), some (.int .i64 y37) => some ((y34, y35, y36), y37)
    | _, _ => none
  slots := [12, 15]
  fits := fun _ => rfl
  ok := by
    intro t s h x hx
    (try dsimp only at h hx)
    split at h
    · cases h
      simp only [List.mem_cons, List.not_mem_nil, or_false] at hx
      rcases hx with rfl | rfl <;> assumption
    · cases h

def crierlaw25_alike_J16338 : LoopSpec where
  S := (Option Addr × Nat × Nat)
  emb := fun s => [(12, .slice s.1 s.2.1 s.2.2)]
  ext := fun t => match getL t 12 with
    | some (.slice y44 y45 y46) => some ((y44, y45, y46))
    | _ => none
  slots := [12]
  fits := fun _ => rfl
  ok := by
    intro t s h x hx
    (try dsimp only at h hx)
    split at h
    · cases h
      simp only [List.mem_cons, List.not_mem_nil, or_false] at hx
      rcases hx with rfl <;> assumption
    · cases h

def crierlaw25_alike_j0 (n41 : Int) (A43 : crierlaw25_alike_L2042.S → World → Prop) (p47 : Option Addr) (l48 : Nat) (c49 : Nat) (w50 : World) : Prop :=
 A43 (((p47 : Option Addr), (l48 : Nat), (c49 : Nat)), ((IntKind.i64.wrap (n41 + 3)) : Int)) w50

def crierlaw25_alike_J511 : LoopSpec where
  S := Bool
  emb := fun s => [(6, .bool s)]
  ext := fun t => match getL t 6 with
    | some (.bool y72) => some (y72)
    | _ => none
  slots := [6]
  fits := fun _ => rfl
  ok := by
    intro t s h x hx
    (try dsimp only at h hx)
    split at h
    · cases h
      simp only [List.mem_cons, List.not_mem_nil, or_false] at hx
      rcases hx with rfl <;> assumption
    · cases h

def crierlaw25_alike_j1 (Q : Value → World → Prop) (ds33 : List Deferred) (b73 : Bool) (w74 : World) : Prop :=
 takeX ds33 w74 fun w75 =>
 Q (.bool b73) w75

def crierlaw25_alike_l2 (Q : Value → World → Prop) (b5 : Nat) (p9 : Option Addr) (l10 : Nat) (n19 : Int) (n20 : Int) (n25 : Int) (b26 : Nat) (ds33 : List Deferred) (p38 : Option Addr) (l39 : Nat) (c40 : Nat) (n41 : Int) (w42 : World) (A43 : crierlaw25_alike_L2042.S → World → Prop) : Prop :=
 cnd (decide (n41 < ((l10 : Nat) : Int)))
 (JoinT (fun (J51 : crierlaw25_alike_J16338.S → World → Prop) =>
  drw w42 fun w52 =>
  ix n41 l10 fun j53 => nn p9 fun a54 =>
  ldI .i64 (a54.add (j53 * 1)) w52 fun n55 =>
  ldI .i64 ⟨b5, 0, none⟩ w52 fun n56 =>
  cnd (n55 == n56)
  (drw w52 fun w57 =>
  ix (IntKind.i64.wrap (n41 + 1)) l10 fun j58 => nn p9 fun a59 =>
  ldI .i64 (a59.add (j58 * 1)) w57 fun n60 =>
  ix (IntKind.i64.wrap (n41 + 2)) l10 fun j61 => nn p9 fun a62 =>
  ldI .i64 (a62.add (j61 * 1)) w57 fun n63 =>
  alc [.int .i64 n60, .int .i64 n63] T.t3 w57 fun b64 w65 =>
  runS P (Builtin.append_ #[T.t37, T.t37] T.t37 [.slice p38 l39 c40, .slice (some ⟨b64, 0, none⟩) 2 2].toArray) w65 fun p66 l67 c68 w69 =>
  J51 (((p66 : Option Addr), (l67 : Nat), (c68 : Nat))) w69)
  (J51 (((p38 : Option Addr), (l39 : Nat), (c40 : Nat))) w52))
  fun (s70 : crierlaw25_alike_J16338.S) w71 => crierlaw25_alike_j0 n41 A43 s70.1 s70.2.1 s70.2.2 w71)
 (JoinT (fun (J76 : crierlaw25_alike_J511.S → World → Prop) =>
  drw w42 fun w77 =>
  ldL ⟨b26, 0, none⟩ w77 fun p78 l79 c80 =>
  CV P F.crierref01_Same [.slice p78 l79 c80, .slice p38 l39 c40] w77 fun v81 w82 =>
  ∃ b83 : Bool, v81 = .bool b83 ∧
  cnd b83
  (cnd (decide (n25 ≥ 0))
  (cnd (n19 == n25)
  (cnd (n20 == 0)
  (ldI .i64 ⟨b5, 0, none⟩ w82 fun n84 =>
  ldI .i64 ⟨b5, 1, none⟩ w82 fun n85 =>
  ldI .i64 ⟨b5, 0, none⟩ w82 fun n86 =>
  ldI .i64 ⟨b5, 1, none⟩ w82 fun n87 =>
  CV P F.shadow_May [.agg [.int .i64 n84, .int .i64 n85].toArray] w82 fun v88 w89 =>
  ∃ b90 : Bool, v88 = .bool b90 ∧
  (ldI .i64 ⟨b5, 1, none⟩ w89 fun n91 =>
  ((.int .i64 n91 : Value) = .int .i64 n87)) ∧
  (ldI .i64 ⟨b5, 0, none⟩ w89 fun n92 =>
  ((.int .i64 n92 : Value) = .int .i64 n86)) ∧
  CV P F.crierref25_May [.int .i64 n86, .int .i64 n87] w89 fun v93 w94 =>
  ∃ b95 : Bool, v93 = .bool b95 ∧
  J76 (((b90 == b95) : Bool)) w94)
  (cnd (decide (n25 < 0))
  (cnd (n19 == 0)
  (cnd (n20 == 250)
  (ldI .i64 ⟨b5, 0, none⟩ w82 fun n96 =>
  ldI .i64 ⟨b5, 1, none⟩ w82 fun n97 =>
  ldI .i64 ⟨b5, 0, none⟩ w82 fun n98 =>
  ldI .i64 ⟨b5, 1, none⟩ w82 fun n99 =>
  CV P F.shadow_May [.agg [.int .i64 n96, .int .i64 n97].toArray] w82 fun v100 w101 =>
  ∃ b102 : Bool, v100 = .bool b102 ∧
  (ldI .i64 ⟨b5, 1, none⟩ w101 fun n103 =>
  ((.int .i64 n103 : Value) = .int .i64 n99)) ∧
  (ldI .i64 ⟨b5, 0, none⟩ w101 fun n104 =>
  ((.int .i64 n104 : Value) = .int .i64 n98)) ∧
  CV P F.crierref25_May [.int .i64 n98, .int .i64 n99] w101 fun v105 w106 =>
  ∃ b107 : Bool, v105 = .bool b107 ∧
  J76 (((b102 == b107) : Bool)) w106)
  (J76 ((false : Bool)) w82))
  (J76 ((false : Bool)) w82))
  (J76 ((false : Bool)) w82)))
  (cnd (decide (n25 < 0))
  (cnd (n19 == 0)
  (cnd (n20 == 250)
  (ldI .i64 ⟨b5, 0, none⟩ w82 fun n108 =>
  ldI .i64 ⟨b5, 1, none⟩ w82 fun n109 =>
  ldI .i64 ⟨b5, 0, none⟩ w82 fun n110 =>
  ldI .i64 ⟨b5, 1, none⟩ w82 fun n111 =>
  CV P F.shadow_May [.agg [.int .i64 n108, .int .i64 n109].toArray] w82 fun v112 w113 =>
  ∃ b114 : Bool, v112 = .bool b114 ∧
  (ldI .i64 ⟨b5, 1, none⟩ w113 fun n115 =>
  ((.int .i64 n115 : Value) = .int .i64 n111)) ∧
  (ldI .i64 ⟨b5, 0, none⟩ w113 fun n116 =>
  ((.int .i64 n116 : Value) = .int .i64 n110)) ∧
  CV P F.crierref25_May [.int .i64 n110, .int .i64 n111] w113 fun v117 w118 =>
  ∃ b119 : Bool, v117 = .bool b119 ∧
  J76 (((b114 == b119) : Bool)) w118)
  (J76 ((false : Bool)) w82))
  (J76 ((false : Bool)) w82))
  (J76 ((false : Bool)) w82)))
  (cnd (decide (n25 < 0))
  (cnd (n19 == 0)
  (cnd (n20 == 250)
  (ldI .i64 ⟨b5, 0, none⟩ w82 fun n120 =>
  ldI .i64 ⟨b5, 1, none⟩ w82 fun n121 =>
  ldI .i64 ⟨b5, 0, none⟩ w82 fun n122 =>
  ldI .i64 ⟨b5, 1, none⟩ w82 fun n123 =>
  CV P F.shadow_May [.agg [.int .i64 n120, .int .i64 n121].toArray] w82 fun v124 w125 =>
  ∃ b126 : Bool, v124 = .bool b126 ∧
  (ldI .i64 ⟨b5, 1, none⟩ w125 fun n127 =>
  ((.int .i64 n127 : Value) = .int .i64 n123)) ∧
  (ldI .i64 ⟨b5, 0, none⟩ w125 fun n128 =>
  ((.int .i64 n128 : Value) = .int .i64 n122)) ∧
  CV P F.crierref25_May [.int .i64 n122, .int .i64 n123] w125 fun v129 w130 =>
  ∃ b131 : Bool, v129 = .bool b131 ∧
  J76 (((b126 == b131) : Bool)) w130)
  (J76 ((false : Bool)) w82))
  (J76 ((false : Bool)) w82))
  (J76 ((false : Bool)) w82)))
  (J76 ((false : Bool)) w82))
  fun (s132 : crierlaw25_alike_J511.S) w133 => crierlaw25_alike_j1 Q ds33 s132 w133)

def crierlaw25_alike_j3 (Q : Value → World → Prop) (b5 : Nat) (p9 : Option Addr) (l10 : Nat) (n19 : Int) (n20 : Int) (n25 : Int) (b26 : Nat) (w32 : World) (ds33 : List Deferred) : Prop :=
 LoopT (fun (s134 : crierlaw25_alike_L2042.S) w135 A136 => crierlaw25_alike_l2 Q b5 p9 l10 n19 n20 n25 b26 ds33 s134.1.1 s134.1.2.1 s134.1.2.2 s134.2 w135 A136) (((none : Option Addr), (0 : Nat), (0 : Nat)), (0 : Int)) w32

def crierlaw25_alike_r4 (b26 : Nat) (l138 : Nat) (r139 : Loop) (vs140 : List Value) (w141 : World) (Q142 : Value → World → Prop) : Prop :=
 X.b2 vs140 fun v143 v144 =>
 ∃ n145 : Int, v143 = .int .i64 n145 ∧
 ∃ n146 : Int, v144 = .int .i64 n146 ∧
 recAt w141 l138 r139 .ready none ∧ setR w141 l138 r139 .busy none fun w147 =>
 ldL ⟨b26, 0, none⟩ w147 fun p148 l149 c150 =>
 alc [.int .i64 n145, .int .i64 n146] T.t3 w147 fun b151 w152 =>
 runS P (Builtin.append_ #[T.t37, T.t37] T.t37 [.slice p148 l149 c150, .slice (some ⟨b151, 0, none⟩) 2 2].toArray) w152 fun p153 l154 c155 w156 =>
 st1 (.slice p153 l154 c155) ⟨b26, 0, none⟩ w156 fun w157 =>
 ldL ⟨b26, 0, none⟩ w157 fun p158 l159 c160 =>
 cnd (decide (((l159 : Nat) : Int) > 100))
 (recAt w157 l138 r139 .busy none ∧ setR w157 l138 r139 .done (some (.exit 0)) fun w161 => Q142 (.bool false) w161)
 (recAt w157 l138 r139 .busy none ∧ setR w157 l138 r139 .ready none fun w162 => Q142 (.bool true) w162)

def crierlaw25_alike_j5 (a0 : Option Addr) (a1 : Option Addr) (Q : Value → World → Prop) (b5 : Nat) (p9 : Option Addr) (l10 : Nat) (b13 : Bool) (w14 : World) : Prop :=
 cnd b13
 (Q (.bool false) w14)
 (ldI .i64 ⟨b5, 0, none⟩ w14 fun n15 =>
 ldI .i64 ⟨b5, 1, none⟩ w14 fun n16 =>
 CV P F.shadow_Shadow_Number [.pointer a0, .agg [.int .i64 n15, .int .i64 n16].toArray] w14 fun v17 w18 =>
 ∃ n19 : Int, ∃ n20 : Int, v17 = .tuple [.int .i64 n19, .int .i64 n20].toArray ∧
 ldI .i64 ⟨b5, 0, none⟩ w18 fun n21 =>
 ldI .i64 ⟨b5, 1, none⟩ w18 fun n22 =>
 CV P F.crierref25_Shadow_Find [.pointer a1, .int .i64 n21, .int .i64 n22] w18 fun v23 w24 =>
 ∃ n25 : Int, v23 = .int .i64 n25 ∧
 alc [.slice none 0 0] T.t37 w24 fun b26 w27 =>
 ldI .i64 ⟨b5, 0, none⟩ w27 fun n28 =>
 CV P F.shadow_Shadow_Of [.pointer a0, .int .i64 n28] w27 fun v29 w30 =>
 ∃ v31 : Value, v29 = v31 ∧
 JoinT (fun (J137 : crierlaw25_alike_J509.S × List Deferred → World → Prop) =>
  RF P none 2 (v31) w30 (fun l138 r139 vs140 w141 Q142 => crierlaw25_alike_r4 b26 l138 r139 vs140 w141 Q142) fun mk163 jp164 w165 =>
  jmpX jp164
  (J137 ((), (mk163 ++ [])) w165)
  (takeX (mk163 ++ []) w165 fun w166 =>
  Q (.bool false) w166)
  fun id167 => (id167 = 0 → (J137 ((), (mk163 ++ [])) w165)) ∧ (id167 ≠ 0 → (False)))
  fun (s168 : crierlaw25_alike_J509.S × List Deferred) w169 => crierlaw25_alike_j3 Q b5 p9 l10 n19 n20 n25 b26 w169 s168.2)

def crierlaw25_alike (a0 : Option Addr) (a1 : Option Addr) (a2_0 : Int) (a2_1 : Int) (w : World) (Q : Value → World → Prop) : Prop :=
 alc [.int .i64 a2_0, .int .i64 a2_1] T.t24 w fun b5 w6 =>
 CV P F.crierref25_Shadow_All [.pointer a1] w6 fun v7 w8 =>
 ∃ (p9 : Option Addr) (l10 c11 : Nat), v7 = .slice p9 l10 c11 ∧
 JoinT (fun (J170 : crierlaw25_alike_J14.S → World → Prop) =>
  CV P F.shadow_Shadow_Len [.pointer a0] w8 fun v171 w172 =>
  ∃ n173 : Int, v171 = .int .i64 n173 ∧
  (nz 3 <|
  cnd (n173 != (IntKind.i64.wrap (Int.tdiv ((l10 : Nat) : Int) 3)))
  (J170 ((true : Bool)) w172)
  (CV P F.crierlaw25_list [.pointer a0] w172 fun v174 w175 =>
  ∃ (p176 : Option Addr) (l177 c178 : Nat), v174 = .slice p176 l177 c178 ∧
  CV P F.crierref01_Same [.slice p176 l177 c178, .slice p9 l10 c11] w175 fun v179 w180 =>
  ∃ b181 : Bool, v179 = .bool b181 ∧
  J170 (((!b181) : Bool)) w180)))
  fun (s182 : crierlaw25_alike_J14.S) w183 => crierlaw25_alike_j5 a0 a1 Q b5 p9 l10 s182 w183
def crierlaw25_alike_ann : Nat → Option LoopSpec := fun
  | 14 => some crierlaw25_alike_J14
  | 509 => some crierlaw25_alike_J509
  | 2042 => some crierlaw25_alike_L2042
  | 16338 => some crierlaw25_alike_J16338
  | 65352 => some (ordSpec [0, 1, 2, 3, 4, 5, 6])
  | 130706 => some (ordSpec [0, 1, 2, 3, 4, 5, 6, 7, 8, 9, 10, 11, 12, 13])
  | 511 => some crierlaw25_alike_J511
  | 1022 => some (ordSpec [0, 1, 2, 3, 4, 5, 6, 7, 8, 9, 10, 11, 12, 13, 14, 15, 16, 17, 18, 19, 20, 21, 22, 23, 24, 25, 26, 27, 28, 29, 31, 32, 33, 34, 30, 35, 36, 37, 38])
  | _ => none
theorem crierlaw25_alike_eq (a0 : Option Addr) (a1 : Option Addr) (a2_0 : Int) (a2_1 : Int) (w : World) (Q : Value → World → Prop) : fnX P crierlaw25_alike_ann Try.f26 [.pointer a0, .pointer a1, .agg [.int .i64 a2_0, .int .i64 a2_1].toArray] w Q = crierlaw25_alike a0 a1 a2_0 a2_1 w Q := by kernel_rfl
theorem crierlaw25_alike_cv {a0 : Option Addr} {a1 : Option Addr} {a2_0 : Int} {a2_1 : Int} {w : World} {Q : Value → World → Prop} (h : crierlaw25_alike a0 a1 a2_0 a2_1 w Q) : CV P F.crierlaw25_alike [.pointer a0, .pointer a1, .agg [.int .i64 a2_0, .int .i64 a2_1].toArray] w Q := CV_of mixed Try.func26 (crierlaw25_alike_eq a0 a1 a2_0 a2_1 w Q ▸ h)

/- 27 (*crier/book.Book[int, int]).Get -/

def book_Book_int__int_Get (a0 : Option Addr) (a1 : Int) (w : World) (Q : Value → World → Prop) : Prop :=
 nn a0 fun a3 =>
 ldL a3 w fun p4 l5 c6 =>
 CV P F.slices_BinarySearch__int_int [.slice p4 l5 c6, .int .i64 a1] w fun v7 w8 =>
 ∃ n9 : Int, ∃ b10 : Bool, v7 = .tuple [.int .i64 n9, .bool b10].toArray ∧
 cnd (!b10)
 (Q (.tuple [.int .i64 0, .bool false].toArray) w8)
 (nn a0 fun a11 =>
 ldL (a11.add 1) w8 fun p12 l13 c14 =>
 ix n9 l13 fun j15 => nn p12 fun a16 =>
 ldI .i64 (a16.add (j15 * 1)) w8 fun n17 =>
 Q (.tuple [.int .i64 n17, .bool true].toArray) w8)
def book_Book_int__int_Get_ann : Nat → Option LoopSpec := fun _ => none
theorem book_Book_int__int_Get_eq (a0 : Option Addr) (a1 : Int) (w : World) (Q : Value → World → Prop) : fnX P book_Book_int__int_Get_ann Try.f27 [.pointer a0, .int .i64 a1] w Q = book_Book_int__int_Get a0 a1 w Q := by kernel_rfl
theorem book_Book_int__int_Get_cv {a0 : Option Addr} {a1 : Int} {w : World} {Q : Value → World → Prop} (h : book_Book_int__int_Get a0 a1 w Q) : CV P F.book_Book_int__int_Get [.pointer a0, .int .i64 a1] w Q := CV_of mixed Try.func27 (book_Book_int__int_Get_eq a0 a1 w Q ▸ h)

/- 28 crier/shadow.keyed -/

def shadow_keyed (a0_0 : Int) (a0_1 : Int) (w : World) (Q : Value → World → Prop) : Prop :=
 alc [.int .i64 a0_0, .int .i64 a0_1] T.t24 w fun b3 w4 =>
 ldI .i64 ⟨b3, 0, none⟩ w4 fun n5 =>
 ldI .i64 ⟨b3, 1, none⟩ w4 fun n6 =>
 Q (.int .i64 (IntKind.i64.wrap ((IntKind.i64.wrap (n5 * 16)) + n6))) w4
def shadow_keyed_ann : Nat → Option LoopSpec := fun _ => none
theorem shadow_keyed_eq (a0_0 : Int) (a0_1 : Int) (w : World) (Q : Value → World → Prop) : fnX P shadow_keyed_ann Try.f28 [.agg [.int .i64 a0_0, .int .i64 a0_1].toArray] w Q = shadow_keyed a0_0 a0_1 w Q := by kernel_rfl
theorem shadow_keyed_cv {a0_0 : Int} {a0_1 : Int} {w : World} {Q : Value → World → Prop} (h : shadow_keyed a0_0 a0_1 w Q) : CV P F.shadow_keyed [.agg [.int .i64 a0_0, .int .i64 a0_1].toArray] w Q := CV_of mixed Try.func28 (shadow_keyed_eq a0_0 a0_1 w Q ▸ h)

/- 29 (*crier/book.Book[int, int]).Has -/

def book_Book_int__int_Has (a0 : Option Addr) (a1 : Int) (w : World) (Q : Value → World → Prop) : Prop :=
 nn a0 fun a3 =>
 ldL a3 w fun p4 l5 c6 =>
 CV P F.slices_BinarySearch__int_int [.slice p4 l5 c6, .int .i64 a1] w fun v7 w8 =>
 ∃ n9 : Int, ∃ b10 : Bool, v7 = .tuple [.int .i64 n9, .bool b10].toArray ∧
 Q (.bool b10) w8
def book_Book_int__int_Has_ann : Nat → Option LoopSpec := fun _ => none
theorem book_Book_int__int_Has_eq (a0 : Option Addr) (a1 : Int) (w : World) (Q : Value → World → Prop) : fnX P book_Book_int__int_Has_ann Try.f29 [.pointer a0, .int .i64 a1] w Q = book_Book_int__int_Has a0 a1 w Q := by kernel_rfl
theorem book_Book_int__int_Has_cv {a0 : Option Addr} {a1 : Int} {w : World} {Q : Value → World → Prop} (h : book_Book_int__int_Has a0 a1 w Q) : CV P F.book_Book_int__int_Has [.pointer a0, .int .i64 a1] w Q := CV_of mixed Try.func29 (book_Book_int__int_Has_eq a0 a1 w Q ▸ h)

/- 30 (*crier/book.Book[int, int]).Put -/
def book_Book_int__int_Put_J15 : LoopSpec where
  S := Unit
  emb := fun _ => []
  ext := fun _ => some ()
  slots := []
  fits := fun _ => rfl
  ok := by
    intro t s h x hx; cases hx

def book_Book_int__int_Put_j0 (Q : Value → World → Prop) (w19 : World) : Prop :=
 Q (.bool true) w19

def book_Book_int__int_Put (a0 : Option Addr) (a1 : Int) (a2 : Int) (w : World) (Q : Value → World → Prop) : Prop :=
 nn a0 fun a4 =>
 ldL a4 w fun p5 l6 c7 =>
 CV P F.slices_BinarySearch__int_int [.slice p5 l6 c7, .int .i64 a1] w fun v8 w9 =>
 ∃ n10 : Int, ∃ b11 : Bool, v8 = .tuple [.int .i64 n10, .bool b11].toArray ∧
 cnd b11
 (nn a0 fun a12 =>
 ldL (a12.add 1) w9 fun p13 l14 c15 =>
 ix n10 l14 fun j16 => nn p13 fun a17 =>
 st1 (.int .i64 a2) (a17.add (j16 * 1)) w9 fun w18 =>
 Q (.bool false) w18)
 (JoinT (fun (J20 : book_Book_int__int_Put_J15.S → World → Prop) =>
  drw w9 fun w21 =>
  nn a0 fun a22 =>
  ldL a22 w21 fun p23 l24 c25 =>
  nn a0 fun a26 =>
  ldL (a26.add 1) w21 fun p27 l28 c29 =>
  (alc [.int .i64 a1] T.t3 w21 fun b30 w31 =>
  (ldL (a26.add 1) w31 fun p32 l33 c34 =>
  ((.slice p32 l33 c34 : Value) = .slice p27 l28 c29)) ∧
  (ldL a22 w31 fun p35 l36 c37 =>
  ((.slice p35 l36 c37 : Value) = .slice p23 l24 c25)) ∧
  (CV P F.slices_Insert__int_int [.slice p23 l24 c25, .int .i64 n10, .slice (some ⟨b30, 0, none⟩) 1 1] w31 fun v38 w39 =>
  ∃ (p40 : Option Addr) (l41 c42 : Nat), v38 = .slice p40 l41 c42 ∧
  (ldL (a26.add 1) w39 fun p43 l44 c45 =>
  ((.slice p43 l44 c45 : Value) = .slice p27 l28 c29)) ∧
  alc [.int .i64 a2] T.t3 w39 fun b46 w47 =>
  (ldL (a26.add 1) w47 fun p48 l49 c50 =>
  ((.slice p48 l49 c50 : Value) = .slice p27 l28 c29)) ∧
  (ldL a22 w47 fun p51 l52 c53 =>
  ((.slice p51 l52 c53 : Value) = .slice p23 l24 c25)) ∧
  CV P F.slices_Insert__int_int [.slice p27 l28 c29, .int .i64 n10, .slice (some ⟨b46, 0, none⟩) 1 1] w47 fun v54 w55 =>
  ∃ (p56 : Option Addr) (l57 c58 : Nat), v54 = .slice p56 l57 c58 ∧
  nn a0 fun a59 =>
  st1 (.slice p40 l41 c42) a59 w55 fun w60 =>
  nn a0 fun a61 =>
  st1 (.slice p56 l57 c58) (a61.add 1) w60 fun w62 =>
  J20 () w62) ∧
  (alc [.int .i64 a2] T.t3 w31 fun b63 w64 =>
  (ldL (a26.add 1) w64 fun p65 l66 c67 =>
  ((.slice p65 l66 c67 : Value) = .slice p27 l28 c29)) ∧
  (ldL a22 w64 fun p68 l69 c70 =>
  ((.slice p68 l69 c70 : Value) = .slice p23 l24 c25)) ∧
  CV P F.slices_Insert__int_int [.slice p23 l24 c25, .int .i64 n10, .slice (some ⟨b30, 0, none⟩) 1 1] w64 fun v71 w72 =>
  ∃ (p73 : Option Addr) (l74 c75 : Nat), v71 = .slice p73 l74 c75 ∧
  (ldL (a26.add 1) w72 fun p76 l77 c78 =>
  ((.slice p76 l77 c78 : Value) = .slice p27 l28 c29)) ∧
  CV P F.slices_Insert__int_int [.slice p27 l28 c29, .int .i64 n10, .slice (some ⟨b63, 0, none⟩) 1 1] w72 fun v79 w80 =>
  ∃ (p81 : Option Addr) (l82 c83 : Nat), v79 = .slice p81 l82 c83 ∧
  nn a0 fun a84 =>
  st1 (.slice p73 l74 c75) a84 w80 fun w85 =>
  nn a0 fun a86 =>
  st1 (.slice p81 l82 c83) (a86.add 1) w85 fun w87 =>
  J20 () w87)) ∧
  (alc [.int .i64 a2] T.t3 w21 fun b88 w89 =>
  (ldL (a26.add 1) w89 fun p90 l91 c92 =>
  ((.slice p90 l91 c92 : Value) = .slice p27 l28 c29)) ∧
  (ldL a22 w89 fun p93 l94 c95 =>
  ((.slice p93 l94 c95 : Value) = .slice p23 l24 c25)) ∧
  alc [.int .i64 a1] T.t3 w89 fun b96 w97 =>
  (ldL (a26.add 1) w97 fun p98 l99 c100 =>
  ((.slice p98 l99 c100 : Value) = .slice p27 l28 c29)) ∧
  (ldL a22 w97 fun p101 l102 c103 =>
  ((.slice p101 l102 c103 : Value) = .slice p23 l24 c25)) ∧
  CV P F.slices_Insert__int_int [.slice p23 l24 c25, .int .i64 n10, .slice (some ⟨b96, 0, none⟩) 1 1] w97 fun v104 w105 =>
  ∃ (p106 : Option Addr) (l107 c108 : Nat), v104 = .slice p106 l107 c108 ∧
  (ldL (a26.add 1) w105 fun p109 l110 c111 =>
  ((.slice p109 l110 c111 : Value) = .slice p27 l28 c29)) ∧
  CV P F.slices_Insert__int_int [.slice p27 l28 c29, .int .i64 n10, .slice (some ⟨b88, 0, none⟩) 1 1] w105 fun v112 w113 =>
  ∃ (p114 : Option Addr) (l115 c116 : Nat), v112 = .slice p114 l115 c116 ∧
  nn a0 fun a117 =>
  st1 (.slice p106 l107 c108) a117 w113 fun w118 =>
  nn a0 fun a119 =>
  st1 (.slice p114 l115 c116) (a119.add 1) w118 fun w120 =>
  J20 () w120))
  fun (s121 : book_Book_int__int_Put_J15.S) w122 => book_Book_int__int_Put_j0 Q w122)
def book_Book_int__int_Put_ann : Nat → Option LoopSpec := fun
  | 15 => some book_Book_int__int_Put_J15
  | 30 => some (ordSpec [])
  | _ => none
theorem book_Book_int__int_Put_eq (a0 : Option Addr) (a1 : Int) (a2 : Int) (w : World) (Q : Value → World → Prop) : fnX P book_Book_int__int_Put_ann Try.f30 [.pointer a0, .int .i64 a1, .int .i64 a2] w Q = book_Book_int__int_Put a0 a1 a2 w Q := by kernel_rfl
theorem book_Book_int__int_Put_cv {a0 : Option Addr} {a1 : Int} {a2 : Int} {w : World} {Q : Value → World → Prop} (h : book_Book_int__int_Put a0 a1 a2 w Q) : CV P F.book_Book_int__int_Put [.pointer a0, .int .i64 a1, .int .i64 a2] w Q := CV_of mixed Try.func30 (book_Book_int__int_Put_eq a0 a1 a2 w Q ▸ h)

/- 31 (*crier/book.Book[int, int]).Take -/
def book_Book_int__int_Take_J7 : LoopSpec where
  S := Unit
  emb := fun _ => []
  ext := fun _ => some ()
  slots := []
  fits := fun _ => rfl
  ok := by
    intro t s h x hx; cases hx

def book_Book_int__int_Take_j0 (Q : Value → World → Prop) (n5 : Int) (b6 : Bool) (w7 : World) : Prop :=
 Q (.tuple [.int .i64 n5, .bool b6].toArray) w7

def book_Book_int__int_Take (a0 : Option Addr) (a1 : Int) (w : World) (Q : Value → World → Prop) : Prop :=
 CV P F.book_Book_int__int_Get [.pointer a0, .int .i64 a1] w fun v3 w4 =>
 ∃ n5 : Int, ∃ b6 : Bool, v3 = .tuple [.int .i64 n5, .bool b6].toArray ∧
 JoinT (fun (J8 : book_Book_int__int_Take_J7.S → World → Prop) =>
  cnd b6
  (nn a0 fun a9 =>
  ldL a9 w4 fun p10 l11 c12 =>
  CV P F.slices_BinarySearch__int_int [.slice p10 l11 c12, .int .i64 a1] w4 fun v13 w14 =>
  ∃ n15 : Int, ∃ b16 : Bool, v13 = .tuple [.int .i64 n15, .bool b16].toArray ∧
  drw w14 fun w17 =>
  nn a0 fun a18 =>
  ldL a18 w17 fun p19 l20 c21 =>
  nn a0 fun a22 =>
  ldL (a22.add 1) w17 fun p23 l24 c25 =>
  CV P F.slices_Delete__int_int [.slice p19 l20 c21, .int .i64 n15, .int .i64 (IntKind.i64.wrap (n15 + 1))] w17 fun v26 w27 =>
  ∃ (p28 : Option Addr) (l29 c30 : Nat), v26 = .slice p28 l29 c30 ∧
  (ldL (a22.add 1) w27 fun p31 l32 c33 =>
  ((.slice p31 l32 c33 : Value) = .slice p23 l24 c25)) ∧
  CV P F.slices_Delete__int_int [.slice p23 l24 c25, .int .i64 n15, .int .i64 (IntKind.i64.wrap (n15 + 1))] w27 fun v34 w35 =>
  ∃ (p36 : Option Addr) (l37 c38 : Nat), v34 = .slice p36 l37 c38 ∧
  nn a0 fun a39 =>
  st1 (.slice p28 l29 c30) a39 w35 fun w40 =>
  nn a0 fun a41 =>
  st1 (.slice p36 l37 c38) (a41.add 1) w40 fun w42 =>
  J8 () w42)
  (J8 () w4))
  fun (s43 : book_Book_int__int_Take_J7.S) w44 => book_Book_int__int_Take_j0 Q n5 b6 w44
def book_Book_int__int_Take_ann : Nat → Option LoopSpec := fun
  | 7 => some book_Book_int__int_Take_J7
  | 117 => some (ordSpec [0, 1, 2, 3, 4, 5, 6, 7, 8, 10, 11, 12, 13, 14, 15, 16, 9, 17, 18, 19, 20, 21, 22, 23])
  | _ => none
theorem book_Book_int__int_Take_eq (a0 : Option Addr) (a1 : Int) (w : World) (Q : Value → World → Prop) : fnX P book_Book_int__int_Take_ann Try.f31 [.pointer a0, .int .i64 a1] w Q = book_Book_int__int_Take a0 a1 w Q := by kernel_rfl
theorem book_Book_int__int_Take_cv {a0 : Option Addr} {a1 : Int} {w : World} {Q : Value → World → Prop} (h : book_Book_int__int_Take a0 a1 w Q) : CV P F.book_Book_int__int_Take [.pointer a0, .int .i64 a1] w Q := CV_of mixed Try.func31 (book_Book_int__int_Take_eq a0 a1 w Q ▸ h)

/- 32 (*crier/book.Book[int, int]).Len -/

def book_Book_int__int_Len (a0 : Option Addr) (w : World) (Q : Value → World → Prop) : Prop :=
 nn a0 fun a2 =>
 ldL a2 w fun p3 l4 c5 =>
 Q (.int .i64 ((l4 : Nat) : Int)) w
def book_Book_int__int_Len_ann : Nat → Option LoopSpec := fun _ => none
theorem book_Book_int__int_Len_eq (a0 : Option Addr) (w : World) (Q : Value → World → Prop) : fnX P book_Book_int__int_Len_ann Try.f32 [.pointer a0] w Q = book_Book_int__int_Len a0 w Q := by kernel_rfl
theorem book_Book_int__int_Len_cv {a0 : Option Addr} {w : World} {Q : Value → World → Prop} (h : book_Book_int__int_Len a0 w Q) : CV P F.book_Book_int__int_Len [.pointer a0] w Q := CV_of mixed Try.func32 (book_Book_int__int_Len_eq a0 w Q ▸ h)

/- 33 (*crier/book.Book[int, int]).All -/

def book_Book_int__int_All (a0 : Option Addr) (w : World) (Q : Value → World → Prop) : Prop :=
 drw w fun w2 =>
 nn a0 fun a3 =>
 ldL a3 w2 fun p4 l5 c6 =>
 nn a0 fun a7 =>
 ldL (a7.add 1) w2 fun p8 l9 c10 =>
 CV P F.slices_Clone__int_int [.slice p4 l5 c6] w2 fun v11 w12 =>
 ∃ (p13 : Option Addr) (l14 c15 : Nat), v11 = .slice p13 l14 c15 ∧
 (ldL (a7.add 1) w12 fun p16 l17 c18 =>
 ((.slice p16 l17 c18 : Value) = .slice p8 l9 c10)) ∧
 CV P F.slices_Clone__int_int [.slice p8 l9 c10] w12 fun v19 w20 =>
 ∃ (p21 : Option Addr) (l22 c23 : Nat), v19 = .slice p21 l22 c23 ∧
 CV P F.book_through_int_int [.slice p13 l14 c15, .slice p21 l22 c23] w20 fun v24 w25 =>
 ∃ v26 : Value, v24 = v26 ∧
 Q (v26) w25
def book_Book_int__int_All_ann : Nat → Option LoopSpec := fun
  | 6 => some (ordSpec [0, 1, 2, 3, 5, 6, 7, 8, 4, 9, 10, 11])
  | _ => none
theorem book_Book_int__int_All_eq (a0 : Option Addr) (w : World) (Q : Value → World → Prop) : fnX P book_Book_int__int_All_ann Try.f33 [.pointer a0] w Q = book_Book_int__int_All a0 w Q := by kernel_rfl
theorem book_Book_int__int_All_cv {a0 : Option Addr} {w : World} {Q : Value → World → Prop} (h : book_Book_int__int_All a0 w Q) : CV P F.book_Book_int__int_All [.pointer a0] w Q := CV_of mixed Try.func33 (book_Book_int__int_All_eq a0 w Q ▸ h)

/- 34 (*crier/shadow.Shadow).All$1 -/
def shadow_Shadow_All_1_r0 (b3 : Nat) (l6 : Nat) (r7 : Loop) (vs8 : List Value) (w9 : World) (Q10 : Value → World → Prop) : Prop :=
 X.b2 vs8 fun v11 v12 =>
 ∃ n13 : Int, v11 = .int .i64 n13 ∧
 ∃ n14 : Int, v12 = .int .i64 n14 ∧
 recAt w9 l6 r7 .ready none ∧ setR w9 l6 r7 .busy none fun w15 =>
 drw w15 fun w16 =>
 ldV ⟨b3, 0, none⟩ w16 fun v17 =>
 CV P F.shadow_unkeyed [.int .i64 n13] w16 fun v18 w19 =>
 ∃ n20 : Int, ∃ n21 : Int, v18 = .agg [.int .i64 n20, .int .i64 n21].toArray ∧
 (ldV ⟨b3, 0, none⟩ w19 fun v22 =>
 ((v22 : Value) = v17)) ∧
 callVal P v17 [.agg [.int .i64 n20, .int .i64 n21].toArray, .int .i64 n14] w19 fun v23 w24 =>
 ∃ b25 : Bool, v23 = .bool b25 ∧
 cnd (!b25)
 (recAt w24 l6 r7 .busy none ∧ setR w24 l6 r7 .done (some .ret) fun w26 => Q10 (.bool false) w26)
 (recAt w24 l6 r7 .busy none ∧ setR w24 l6 r7 .ready none fun w27 => Q10 (.bool true) w27)

def shadow_Shadow_All_1 (a0 : Value) (f0 : Addr) (w : World) (Q : Value → World → Prop) : Prop :=
 (oneK a0 <|
 alc [a0] T.t72 w fun b3 w4 =>
 ldV f0 w4 fun v5 =>
 RF P none 2 (v5) w4 (fun l6 r7 vs8 w9 Q10 => shadow_Shadow_All_1_r0 b3 l6 r7 vs8 w9 Q10) fun mk28 jp29 w30 =>
 jmpX jp29
 (takeX (mk28 ++ []) w30 fun w31 =>
 Q (.tuple [].toArray) w31)
 (takeX (mk28 ++ []) w30 fun w32 =>
 Q (.tuple [].toArray) w32)
 fun id33 => False)
def shadow_Shadow_All_1_ann : Nat → Option LoopSpec := fun
  | 116 => some (ordSpec [0, 1, 3, 2, 4, 5])
  | _ => none
theorem shadow_Shadow_All_1_eq (a0 : Value) (f0 : Addr) (w : World) (Q : Value → World → Prop) : fnX P shadow_Shadow_All_1_ann Try.f34 [a0, .pointer (some f0)] w Q = shadow_Shadow_All_1 a0 f0 w Q := by kernel_rfl
theorem shadow_Shadow_All_1_cv {a0 : Value} {f0 : Addr} {w : World} {Q : Value → World → Prop} (h : shadow_Shadow_All_1 a0 f0 w Q) : CV P F.shadow_Shadow_All_1 [a0, .pointer (some f0)] w Q := CV_of mixed Try.func34 (shadow_Shadow_All_1_eq a0 f0 w Q ▸ h)

/- 35 crier/shadow.unkeyed -/

def shadow_unkeyed (a0 : Int) (w : World) (Q : Value → World → Prop) : Prop :=
 alc [.int .i64 0, .int .i64 0] T.t24 w fun b2 w3 =>
 (nz 16 <|
 (nz 16 <|
 st1 (.int .i64 (IntKind.i64.wrap (Int.tdiv a0 16))) ⟨b2, 0, none⟩ w3 fun w4 =>
 st1 (.int .i64 (Int.tmod a0 16)) ⟨b2, 1, none⟩ w4 fun w5 =>
 ldI .i64 ⟨b2, 0, none⟩ w5 fun n6 =>
 ldI .i64 ⟨b2, 1, none⟩ w5 fun n7 =>
 Q (.agg [.int .i64 n6, .int .i64 n7].toArray) w5))
def shadow_unkeyed_ann : Nat → Option LoopSpec := fun _ => none
theorem shadow_unkeyed_eq (a0 : Int) (w : World) (Q : Value → World → Prop) : fnX P shadow_unkeyed_ann Try.f35 [.int .i64 a0] w Q = shadow_unkeyed a0 w Q := by kernel_rfl
theorem shadow_unkeyed_cv {a0 : Int} {w : World} {Q : Value → World → Prop} (h : shadow_unkeyed a0 w Q) : CV P F.shadow_unkeyed [.int .i64 a0] w Q := CV_of mixed Try.func35 (shadow_unkeyed_eq a0 w Q ▸ h)

/- 36 (*crier/shadow.Shadow).Of$1 -/
def shadow_Shadow_Of_1_J58 : LoopSpec where
  S := Bool
  emb := fun s => [(20, .bool s)]
  ext := fun t => match getL t 20 with
    | some (.bool y22) => some (y22)
    | _ => none
  slots := [20]
  fits := fun _ => rfl
  ok := by
    intro t s h x hx
    (try dsimp only at h hx)
    split at h
    · cases h
      simp only [List.mem_cons, List.not_mem_nil, or_false] at hx
      rcases hx with rfl <;> assumption
    · cases h

def shadow_Shadow_Of_1_j0 (l7 : Nat) (r8 : Loop) (Q11 : Value → World → Prop) (b23 : Bool) (w24 : World) : Prop :=
 cnd b23
 (recAt w24 l7 r8 .busy none ∧ setR w24 l7 r8 .done (some .ret) fun w25 => Q11 (.bool false) w25)
 (recAt w24 l7 r8 .busy none ∧ setR w24 l7 r8 .ready none fun w26 => Q11 (.bool true) w26)

def shadow_Shadow_Of_1_r1 (f1 : Addr) (b4 : Nat) (l7 : Nat) (r8 : Loop) (vs9 : List Value) (w10 : World) (Q11 : Value → World → Prop) : Prop :=
 X.b2 vs9 fun v12 v13 =>
 ∃ n14 : Int, ∃ n15 : Int, v12 = .agg [.int .i64 n14, .int .i64 n15].toArray ∧
 ∃ n16 : Int, v13 = .int .i64 n16 ∧
 alc [.int .i64 0, .int .i64 0] T.t24 w10 fun b17 w18 =>
 st1 (.int .i64 n14) ⟨b17, 0, none⟩ w18 fun w19 =>
 st1 (.int .i64 n15) ⟨b17, 1, none⟩ w19 fun w20 =>
 recAt w20 l7 r8 .ready none ∧ setR w20 l7 r8 .busy none fun w21 =>
 JoinT (fun (J27 : shadow_Shadow_Of_1_J58.S → World → Prop) =>
  ldI .i64 ⟨b17, 0, none⟩ w21 fun n28 =>
  ldI .i64 f1 w21 fun n29 =>
  cnd (n28 == n29)
  (ldV ⟨b4, 0, none⟩ w21 fun v30 =>
  ldI .i64 ⟨b17, 1, none⟩ w21 fun n31 =>
  callVal P v30 [.int .i64 n31, .int .i64 n16] w21 fun v32 w33 =>
  ∃ b34 : Bool, v32 = .bool b34 ∧
  J27 (((!b34) : Bool)) w33)
  (J27 ((false : Bool)) w21))
  fun (s35 : shadow_Shadow_Of_1_J58.S) w36 => shadow_Shadow_Of_1_j0 l7 r8 Q11 s35 w36

def shadow_Shadow_Of_1 (a0 : Value) (f0 : Addr) (f1 : Addr) (w : World) (Q : Value → World → Prop) : Prop :=
 (oneK a0 <|
 alc [a0] T.t70 w fun b4 w5 =>
 ldV f0 w5 fun v6 =>
 RF P none 2 (v6) w5 (fun l7 r8 vs9 w10 Q11 => shadow_Shadow_Of_1_r1 f1 b4 l7 r8 vs9 w10 Q11) fun mk37 jp38 w39 =>
 jmpX jp38
 (takeX (mk37 ++ []) w39 fun w40 =>
 Q (.tuple [].toArray) w40)
 (takeX (mk37 ++ []) w39 fun w41 =>
 Q (.tuple [].toArray) w41)
 fun id42 => False)
def shadow_Shadow_Of_1_ann : Nat → Option LoopSpec := fun
  | 58 => some shadow_Shadow_Of_1_J58
  | _ => none
theorem shadow_Shadow_Of_1_eq (a0 : Value) (f0 : Addr) (f1 : Addr) (w : World) (Q : Value → World → Prop) : fnX P shadow_Shadow_Of_1_ann Try.f36 [a0, .pointer (some f0), .pointer (some f1)] w Q = shadow_Shadow_Of_1 a0 f0 f1 w Q := by kernel_rfl
theorem shadow_Shadow_Of_1_cv {a0 : Value} {f0 : Addr} {f1 : Addr} {w : World} {Q : Value → World → Prop} (h : shadow_Shadow_Of_1 a0 f0 f1 w Q) : CV P F.shadow_Shadow_Of_1 [a0, .pointer (some f0), .pointer (some f1)] w Q := CV_of mixed Try.func36 (shadow_Shadow_Of_1_eq a0 f0 f1 w Q ▸ h)

/- 37 crier/book.New[int,int] -/

def book_New_int_int (w : World) (Q : Value → World → Prop) : Prop :=
 alc [.slice none 0 0, .slice none 0 0] T.t80 w fun b1 w2 =>
 Q (.pointer (some ⟨b1, 0, none⟩)) w2
def book_New_int_int_ann : Nat → Option LoopSpec := fun _ => none
theorem book_New_int_int_eq (w : World) (Q : Value → World → Prop) : fnX P book_New_int_int_ann Try.f37 [] w Q = book_New_int_int w Q := by kernel_rfl
theorem book_New_int_int_cv {w : World} {Q : Value → World → Prop} (h : book_New_int_int w Q) : CV P F.book_New_int_int [] w Q := CV_of mixed Try.func37 (book_New_int_int_eq w Q ▸ h)

/- 38 (*crier/book.Book[int, int]).Copy -/

def book_Book_int__int_Copy (a0 : Option Addr) (w : World) (Q : Value → World → Prop) : Prop :=
 drw w fun w2 =>
 nn a0 fun a3 =>
 ldL a3 w2 fun p4 l5 c6 =>
 nn a0 fun a7 =>
 ldL (a7.add 1) w2 fun p8 l9 c10 =>
 CV P F.slices_Clone__int_int [.slice p4 l5 c6] w2 fun v11 w12 =>
 ∃ (p13 : Option Addr) (l14 c15 : Nat), v11 = .slice p13 l14 c15 ∧
 (ldL (a7.add 1) w12 fun p16 l17 c18 =>
 ((.slice p16 l17 c18 : Value) = .slice p8 l9 c10)) ∧
 CV P F.slices_Clone__int_int [.slice p8 l9 c10] w12 fun v19 w20 =>
 ∃ (p21 : Option Addr) (l22 c23 : Nat), v19 = .slice p21 l22 c23 ∧
 alc [.slice p13 l14 c15, .slice p21 l22 c23] T.t80 w20 fun b24 w25 =>
 Q (.pointer (some ⟨b24, 0, none⟩)) w25
def book_Book_int__int_Copy_ann : Nat → Option LoopSpec := fun
  | 6 => some (ordSpec [0, 1, 2, 3, 5, 6, 7, 8, 4, 9, 10, 11, 12])
  | _ => none
theorem book_Book_int__int_Copy_eq (a0 : Option Addr) (w : World) (Q : Value → World → Prop) : fnX P book_Book_int__int_Copy_ann Try.f38 [.pointer a0] w Q = book_Book_int__int_Copy a0 w Q := by kernel_rfl
theorem book_Book_int__int_Copy_cv {a0 : Option Addr} {w : World} {Q : Value → World → Prop} (h : book_Book_int__int_Copy a0 w Q) : CV P F.book_Book_int__int_Copy [.pointer a0] w Q := CV_of mixed Try.func38 (book_Book_int__int_Copy_eq a0 w Q ▸ h)

/- 39 (*crier/crierref25.Shadow).Bind -/
def crierref25_Shadow_Bind_L250 : LoopSpec where
  S := Int
  emb := fun s => [(9, .int .i64 s)]
  ext := fun t => match getL t 9 with
    | some (.int .i64 y10) => some (y10)
    | _ => none
  slots := [9]
  fits := fun _ => rfl
  ok := by
    intro t s h x hx
    (try dsimp only at h hx)
    split at h
    · cases h
      simp only [List.mem_cons, List.not_mem_nil, or_false] at hx
      rcases hx with rfl <;> assumption
    · cases h

def crierref25_Shadow_Bind_l0 (a0 : Option Addr) (a1 : Int) (a2 : Int) (Q : Value → World → Prop) (n11 : Int) (w12 : World) (A13 : crierref25_Shadow_Bind_L250.S → World → Prop) : Prop :=
 nn a0 fun a14 =>
 ldL a14 w12 fun p15 l16 c17 =>
 cnd (decide (n11 < ((l16 : Nat) : Int)))
 (nn a0 fun a18 =>
 ldL a18 w12 fun p19 l20 c21 =>
 ix n11 l20 fun j22 => nn p19 fun a23 =>
 ldI .i64 (a23.add (j22 * 1)) w12 fun n24 =>
 cnd (decide (n24 < 0))
 (nn a0 fun a25 =>
 ldL a25 w12 fun p26 l27 c28 =>
 ix n11 l27 fun j29 => nn p26 fun a30 =>
 st1 (.int .i64 a1) (a30.add (j29 * 1)) w12 fun w31 =>
 nn a0 fun a32 =>
 ldL (a32.add 1) w31 fun p33 l34 c35 =>
 ix n11 l34 fun j36 => nn p33 fun a37 =>
 st1 (.int .i64 a2) (a37.add (j36 * 1)) w31 fun w38 =>
 Q (.tuple [.int .i64 n11, .int .i64 0].toArray) w38)
 (A13 (((IntKind.i64.wrap (n11 + 1)) : Int)) w12))
 (Q (.tuple [.int .i64 0, .int .i64 2].toArray) w12)

def crierref25_Shadow_Bind (a0 : Option Addr) (a1 : Int) (a2 : Int) (w : World) (Q : Value → World → Prop) : Prop :=
 CV P F.crierref25_May [.int .i64 a1, .int .i64 a2] w fun v4 w5 =>
 ∃ b6 : Bool, v4 = .bool b6 ∧
 cnd (!b6)
 (Q (.tuple [.int .i64 0, .int .i64 1].toArray) w5)
 (CV P F.crierref25_Shadow_Find [.pointer a0, .int .i64 a1, .int .i64 a2] w5 fun v7 w8 =>
 ∃ n9 : Int, v7 = .int .i64 n9 ∧
 cnd (decide (n9 ≥ 0))
 (Q (.tuple [.int .i64 n9, .int .i64 0].toArray) w8)
 (LoopT (fun (s39 : crierref25_Shadow_Bind_L250.S) w40 A41 => crierref25_Shadow_Bind_l0 a0 a1 a2 Q s39 w40 A41) ((0 : Int)) w8))
def crierref25_Shadow_Bind_ann : Nat → Option LoopSpec := fun
  | 250 => some crierref25_Shadow_Bind_L250
  | _ => none
theorem crierref25_Shadow_Bind_eq (a0 : Option Addr) (a1 : Int) (a2 : Int) (w : World) (Q : Value → World → Prop) : fnX P crierref25_Shadow_Bind_ann Try.f39 [.pointer a0, .int .i64 a1, .int .i64 a2] w Q = crierref25_Shadow_Bind a0 a1 a2 w Q := by kernel_rfl
theorem crierref25_Shadow_Bind_cv {a0 : Option Addr} {a1 : Int} {a2 : Int} {w : World} {Q : Value → World → Prop} (h : crierref25_Shadow_Bind a0 a1 a2 w Q) : CV P F.crierref25_Shadow_Bind [.pointer a0, .int .i64 a1, .int .i64 a2] w Q := CV_of mixed Try.func39 (crierref25_Shadow_Bind_eq a0 a1 a2 w Q ▸ h)

/- 40 (*crier/crierref25.Shadow).Free -/

def crierref25_Shadow_Free (a0 : Option Addr) (a1 : Int) (a2 : Int) (w : World) (Q : Value → World → Prop) : Prop :=
 CV P F.crierref25_May [.int .i64 a1, .int .i64 a2] w fun v4 w5 =>
 ∃ b6 : Bool, v4 = .bool b6 ∧
 cnd (!b6)
 (Q (.tuple [.int .i64 0, .int .i64 1].toArray) w5)
 (CV P F.crierref25_Shadow_Find [.pointer a0, .int .i64 a1, .int .i64 a2] w5 fun v7 w8 =>
 ∃ n9 : Int, v7 = .int .i64 n9 ∧
 cnd (decide (n9 < 0))
 (Q (.tuple [.int .i64 0, .int .i64 250].toArray) w8)
 (nn a0 fun a10 =>
 ldL a10 w8 fun p11 l12 c13 =>
 ix n9 l12 fun j14 => nn p11 fun a15 =>
 st1 (.int .i64 (-1)) (a15.add (j14 * 1)) w8 fun w16 =>
 nn a0 fun a17 =>
 ldL (a17.add 1) w16 fun p18 l19 c20 =>
 ix n9 l19 fun j21 => nn p18 fun a22 =>
 st1 (.int .i64 (-1)) (a22.add (j21 * 1)) w16 fun w23 =>
 Q (.tuple [.int .i64 n9, .int .i64 0].toArray) w23))
def crierref25_Shadow_Free_ann : Nat → Option LoopSpec := fun _ => none
theorem crierref25_Shadow_Free_eq (a0 : Option Addr) (a1 : Int) (a2 : Int) (w : World) (Q : Value → World → Prop) : fnX P crierref25_Shadow_Free_ann Try.f40 [.pointer a0, .int .i64 a1, .int .i64 a2] w Q = crierref25_Shadow_Free a0 a1 a2 w Q := by kernel_rfl
theorem crierref25_Shadow_Free_cv {a0 : Option Addr} {a1 : Int} {a2 : Int} {w : World} {Q : Value → World → Prop} (h : crierref25_Shadow_Free a0 a1 a2 w Q) : CV P F.crierref25_Shadow_Free [.pointer a0, .int .i64 a1, .int .i64 a2] w Q := CV_of mixed Try.func40 (crierref25_Shadow_Free_eq a0 a1 a2 w Q ▸ h)

/- 41 (*crier/crierref25.Shadow).All -/
def crierref25_Shadow_All_L58 : LoopSpec where
  S := (Option Addr × Nat × Nat) × Int
  emb := fun s => [(3, .slice s.1.1 s.1.2.1 s.1.2.2), (4, .int .i64 s.2)]
  ext := fun t => match getL t 3, getL t 4 with
    | some (.slice y2 y3 y4), some (.int .i64 y5) => some ((y2, y3, y4), y5)
    | _, _ => none
  slots := [3, 4]
  fits := fun _ => rfl
  ok := by
    intro t s h x hx
    (try dsimp only at h hx)
    split at h
    · cases h
      simp only [List.mem_cons, List.not_mem_nil, or_false] at hx
      rcases hx with rfl | rfl <;> assumption
    · cases h

def crierref25_Shadow_All_L3730 : LoopSpec where
  S := (Option Addr × Nat × Nat) × Int
  emb := fun s => [(3, .slice s.1.1 s.1.2.1 s.1.2.2), (5, .int .i64 s.2)]
  ext := fun t => match getL t 3, getL t 5 with
    | some (.slice y12 y13 y14), some (.int .i64 y15) => some ((y12, y13, y14), y15)
    | _, _ => none
  slots := [3, 5]
  fits := fun _ => rfl
  ok := by
    intro t s h x hx
    (try dsimp only at h hx)
    split at h
    · cases h
      simp only [List.mem_cons, List.not_mem_nil, or_false] at hx
      rcases hx with rfl | rfl <;> assumption
    · cases h

def crierref25_Shadow_All_J29842 : LoopSpec where
  S := (Option Addr × Nat × Nat)
  emb := fun s => [(3, .slice s.1 s.2.1 s.2.2)]
  ext := fun t => match getL t 3 with
    | some (.slice y22 y23 y24) => some ((y22, y23, y24))
    | _ => none
  slots := [3]
  fits := fun _ => rfl
  ok := by
    intro t s h x hx
    (try dsimp only at h hx)
    split at h
    · cases h
      simp only [List.mem_cons, List.not_mem_nil, or_false] at hx
      rcases hx with rfl <;> assumption
    · cases h

def crierref25_Shadow_All_j0 (n19 : Int) (A21 : crierref25_Shadow_All_L3730.S → World → Prop) (p25 : Option Addr) (l26 : Nat) (c27 : Nat) (w28 : World) : Prop :=
 A21 (((p25 : Option Addr), (l26 : Nat), (c27 : Nat)), ((IntKind.i64.wrap (n19 + 1)) : Int)) w28

def crierref25_Shadow_All_l1 (a0 : Option Addr) (n9 : Int) (A11 : crierref25_Shadow_All_L58.S → World → Prop) (p16 : Option Addr) (l17 : Nat) (c18 : Nat) (n19 : Int) (w20 : World) (A21 : crierref25_Shadow_All_L3730.S → World → Prop) : Prop :=
 cnd (decide (n19 < 16))
 (JoinT (fun (J29 : crierref25_Shadow_All_J29842.S → World → Prop) =>
  CV P F.crierref25_Shadow_Find [.pointer a0, .int .i64 n9, .int .i64 n19] w20 fun v30 w31 =>
  ∃ n32 : Int, v30 = .int .i64 n32 ∧
  cnd (decide (n32 ≥ 0))
  (alc [.int .i64 n9, .int .i64 n19, .int .i64 n32] T.t3 w31 fun b33 w34 =>
  runS P (Builtin.append_ #[T.t37, T.t37] T.t37 [.slice p16 l17 c18, .slice (some ⟨b33, 0, none⟩) 3 3].toArray) w34 fun p35 l36 c37 w38 =>
  J29 (((p35 : Option Addr), (l36 : Nat), (c37 : Nat))) w38)
  (J29 (((p16 : Option Addr), (l17 : Nat), (c18 : Nat))) w31))
  fun (s39 : crierref25_Shadow_All_J29842.S) w40 => crierref25_Shadow_All_j0 n19 A21 s39.1 s39.2.1 s39.2.2 w40)
 (A11 (((p16 : Option Addr), (l17 : Nat), (c18 : Nat)), ((IntKind.i64.wrap (n9 + 1)) : Int)) w20)

def crierref25_Shadow_All_l2 (a0 : Option Addr) (Q : Value → World → Prop) (p6 : Option Addr) (l7 : Nat) (c8 : Nat) (n9 : Int) (w10 : World) (A11 : crierref25_Shadow_All_L58.S → World → Prop) : Prop :=
 cnd (decide (n9 < 32))
 (LoopT (fun (s41 : crierref25_Shadow_All_L3730.S) w42 A43 => crierref25_Shadow_All_l1 a0 n9 A11 s41.1.1 s41.1.2.1 s41.1.2.2 s41.2 w42 A43) (((p6 : Option Addr), (l7 : Nat), (c8 : Nat)), (0 : Int)) w10)
 (Q (.slice p6 l7 c8) w10)

def crierref25_Shadow_All (a0 : Option Addr) (w : World) (Q : Value → World → Prop) : Prop :=
 LoopT (fun (s44 : crierref25_Shadow_All_L58.S) w45 A46 => crierref25_Shadow_All_l2 a0 Q s44.1.1 s44.1.2.1 s44.1.2.2 s44.2 w45 A46) (((none : Option Addr), (0 : Nat), (0 : Nat)), (0 : Int)) w
def crierref25_Shadow_All_ann : Nat → Option LoopSpec := fun
  | 58 => some crierref25_Shadow_All_L58
  | 3730 => some crierref25_Shadow_All_L3730
  | 29842 => some crierref25_Shadow_All_J29842
  | _ => none
theorem crierref25_Shadow_All_eq (a0 : Option Addr) (w : World) (Q : Value → World → Prop) : fnX P crierref25_Shadow_All_ann Try.f41 [.pointer a0] w Q = crierref25_Shadow_All a0 w Q := by kernel_rfl
theorem crierref25_Shadow_All_cv {a0 : Option Addr} {w : World} {Q : Value → World → Prop} (h : crierref25_Shadow_All a0 w Q) : CV P F.crierref25_Shadow_All [.pointer a0] w Q := CV_of mixed Try.func41 (crierref25_Shadow_All_eq a0 w Q ▸ h)

/- 42 (*crier/crierref25.Shadow).Find -/
def crierref25_Shadow_Find_L26 : LoopSpec where
  S := Int
  emb := fun s => [(7, .int .i64 s)]
  ext := fun t => match getL t 7 with
    | some (.int .i64 y4) => some (y4)
    | _ => none
  slots := [7]
  fits := fun _ => rfl
  ok := by
    intro t s h x hx
    (try dsimp only at h hx)
    split at h
    · cases h
      simp only [List.mem_cons, List.not_mem_nil, or_false] at hx
      rcases hx with rfl <;> assumption
    · cases h

def crierref25_Shadow_Find_J420 : LoopSpec where
  S := Bool
  emb := fun s => [(41, .bool s)]
  ext := fun t => match getL t 41 with
    | some (.bool y12) => some (y12)
    | _ => none
  slots := [41]
  fits := fun _ => rfl
  ok := by
    intro t s h x hx
    (try dsimp only at h hx)
    split at h
    · cases h
      simp only [List.mem_cons, List.not_mem_nil, or_false] at hx
      rcases hx with rfl <;> assumption
    · cases h

def crierref25_Shadow_Find_j0 (Q : Value → World → Prop) (n5 : Int) (A7 : crierref25_Shadow_Find_L26.S → World → Prop) (b13 : Bool) (w14 : World) : Prop :=
 cnd b13
 (Q (.int .i64 n5) w14)
 (A7 (((IntKind.i64.wrap (n5 + 1)) : Int)) w14)

def crierref25_Shadow_Find_l1 (a0 : Option Addr) (a1 : Int) (a2 : Int) (Q : Value → World → Prop) (n5 : Int) (w6 : World) (A7 : crierref25_Shadow_Find_L26.S → World → Prop) : Prop :=
 nn a0 fun a8 =>
 ldL a8 w6 fun p9 l10 c11 =>
 cnd (decide (n5 < ((l10 : Nat) : Int)))
 (JoinT (fun (J15 : crierref25_Shadow_Find_J420.S → World → Prop) =>
  CV P F.crierref25_May [.int .i64 a1, .int .i64 a2] w6 fun v16 w17 =>
  ∃ b18 : Bool, v16 = .bool b18 ∧
  cnd b18
  (nn a0 fun a19 =>
  ldL a19 w17 fun p20 l21 c22 =>
  ix n5 l21 fun j23 => nn p20 fun a24 =>
  ldI .i64 (a24.add (j23 * 1)) w17 fun n25 =>
  cnd (n25 == a1)
  (nn a0 fun a26 =>
  ldL (a26.add 1) w17 fun p27 l28 c29 =>
  ix n5 l28 fun j30 => nn p27 fun a31 =>
  ldI .i64 (a31.add (j30 * 1)) w17 fun n32 =>
  J15 (((n32 == a2) : Bool)) w17)
  (J15 ((false : Bool)) w17))
  (J15 ((false : Bool)) w17))
  fun (s33 : crierref25_Shadow_Find_J420.S) w34 => crierref25_Shadow_Find_j0 Q n5 A7 s33 w34)
 (Q (.int .i64 (-1)) w6)

def crierref25_Shadow_Find (a0 : Option Addr) (a1 : Int) (a2 : Int) (w : World) (Q : Value → World → Prop) : Prop :=
 LoopT (fun (s35 : crierref25_Shadow_Find_L26.S) w36 A37 => crierref25_Shadow_Find_l1 a0 a1 a2 Q s35 w36 A37) ((0 : Int)) w
def crierref25_Shadow_Find_ann : Nat → Option LoopSpec := fun
  | 26 => some crierref25_Shadow_Find_L26
  | 420 => some crierref25_Shadow_Find_J420
  | _ => none
theorem crierref25_Shadow_Find_eq (a0 : Option Addr) (a1 : Int) (a2 : Int) (w : World) (Q : Value → World → Prop) : fnX P crierref25_Shadow_Find_ann Try.f42 [.pointer a0, .int .i64 a1, .int .i64 a2] w Q = crierref25_Shadow_Find a0 a1 a2 w Q := by kernel_rfl
theorem crierref25_Shadow_Find_cv {a0 : Option Addr} {a1 : Int} {a2 : Int} {w : World} {Q : Value → World → Prop} (h : crierref25_Shadow_Find a0 a1 a2 w Q) : CV P F.crierref25_Shadow_Find [.pointer a0, .int .i64 a1, .int .i64 a2] w Q := CV_of mixed Try.func42 (crierref25_Shadow_Find_eq a0 a1 a2 w Q ▸ h)

/- 43 crier/crierref25.May -/
def crierref25_May_J3 : LoopSpec where
  S := Bool
  emb := fun s => [(4, .bool s)]
  ext := fun t => match getL t 4 with
    | some (.bool y3) => some (y3)
    | _ => none
  slots := [4]
  fits := fun _ => rfl
  ok := by
    intro t s h x hx
    (try dsimp only at h hx)
    split at h
    · cases h
      simp only [List.mem_cons, List.not_mem_nil, or_false] at hx
      rcases hx with rfl <;> assumption
    · cases h

def crierref25_May_j0 (Q : Value → World → Prop) (b4 : Bool) (w5 : World) : Prop :=
 Q (.bool b4) w5

def crierref25_May (a0 : Int) (a1 : Int) (w : World) (Q : Value → World → Prop) : Prop :=
 JoinT (fun (J6 : crierref25_May_J3.S → World → Prop) =>
  cnd (decide (a0 ≥ 0))
  (cnd (decide (a0 ≤ 31))
  (cnd (decide (a1 ≥ 0))
  (J6 (((decide (a1 ≤ 15)) : Bool)) w)
  (J6 ((false : Bool)) w))
  (J6 ((false : Bool)) w))
  (J6 ((false : Bool)) w))
  fun (s7 : crierref25_May_J3.S) w8 => crierref25_May_j0 Q s7 w8
def crierref25_May_ann : Nat → Option LoopSpec := fun
  | 3 => some crierref25_May_J3
  | _ => none
theorem crierref25_May_eq (a0 : Int) (a1 : Int) (w : World) (Q : Value → World → Prop) : fnX P crierref25_May_ann Try.f43 [.int .i64 a0, .int .i64 a1] w Q = crierref25_May a0 a1 w Q := by kernel_rfl
theorem crierref25_May_cv {a0 : Int} {a1 : Int} {w : World} {Q : Value → World → Prop} (h : crierref25_May a0 a1 w Q) : CV P F.crierref25_May [.int .i64 a0, .int .i64 a1] w Q := CV_of mixed Try.func43 (crierref25_May_eq a0 a1 w Q ▸ h)

/- 44 slices.BinarySearch[[]int,int] -/
def slices_BinarySearch__int_int_L60 : LoopSpec where
  S := Int × Int
  emb := fun s => [(7, .int .i64 s.1), (8, .int .i64 s.2)]
  ext := fun t => match getL t 7, getL t 8 with
    | some (.int .i64 y5), some (.int .i64 y6) => some (y5, y6)
    | _, _ => none
  slots := [7, 8]
  fits := fun _ => rfl
  ok := by
    intro t s h x hx
    (try dsimp only at h hx)
    split at h
    · cases h
      simp only [List.mem_cons, List.not_mem_nil, or_false] at hx
      rcases hx with rfl | rfl <;> assumption
    · cases h

def slices_BinarySearch__int_int_J241 : LoopSpec where
  S := Int × Int
  emb := fun s => [(7, .int .i64 s.1), (8, .int .i64 s.2)]
  ext := fun t => match getL t 7, getL t 8 with
    | some (.int .i64 y11), some (.int .i64 y12) => some (y11, y12)
    | _, _ => none
  slots := [7, 8]
  fits := fun _ => rfl
  ok := by
    intro t s h x hx
    (try dsimp only at h hx)
    split at h
    · cases h
      simp only [List.mem_cons, List.not_mem_nil, or_false] at hx
      rcases hx with rfl | rfl <;> assumption
    · cases h

def slices_BinarySearch__int_int_j0 (A10 : slices_BinarySearch__int_int_L60.S → World → Prop) (n13 : Int) (n14 : Int) (w15 : World) : Prop :=
 A10 ((n13 : Int), (n14 : Int)) w15

def slices_BinarySearch__int_int_J31 : LoopSpec where
  S := Int × Bool
  emb := fun s => [(4, .int .i64 s.1), (5, .bool s.2)]
  ext := fun t => match getL t 4, getL t 5 with
    | some (.int .i64 y25), some (.bool y26) => some (y25, y26)
    | _, _ => none
  slots := [4, 5]
  fits := fun _ => rfl
  ok := by
    intro t s h x hx
    (try dsimp only at h hx)
    split at h
    · cases h
      simp only [List.mem_cons, List.not_mem_nil, or_false] at hx
      rcases hx with rfl | rfl <;> assumption
    · cases h

def slices_BinarySearch__int_int_j1 (Q : Value → World → Prop) (n27 : Int) (b28 : Bool) (w29 : World) : Prop :=
 Q (.tuple [.int .i64 n27, .bool b28].toArray) w29

def slices_BinarySearch__int_int_l2 (a0 : Option Addr) (a0_n : Nat) (a1 : Int) (Q : Value → World → Prop) (n7 : Int) (n8 : Int) (w9 : World) (A10 : slices_BinarySearch__int_int_L60.S → World → Prop) : Prop :=
 cnd (decide (n7 < n8))
 (JoinT (fun (J16 : slices_BinarySearch__int_int_J241.S → World → Prop) =>
  (nng 1 <|
  ix (IntKind.i64.wrap ((Int.fdiv (IntKind.u64.wrap ((IntKind.i64.wrap (n7 + n8)))) (2 ^ min (Int.toNat 1) (IntKind.u64.bits))))) a0_n fun j17 => nn a0 fun a18 =>
  ldI .i64 (a18.add (j17 * 1)) w9 fun n19 =>
  CV P F.cmp_Less_int [.int .i64 n19, .int .i64 a1] w9 fun v20 w21 =>
  ∃ b22 : Bool, v20 = .bool b22 ∧
  cnd b22
  (J16 (((IntKind.i64.wrap ((IntKind.i64.wrap ((Int.fdiv (IntKind.u64.wrap ((IntKind.i64.wrap (n7 + n8)))) (2 ^ min (Int.toNat 1) (IntKind.u64.bits))))) + 1)) : Int), (n8 : Int)) w21)
  (J16 ((n7 : Int), ((IntKind.i64.wrap ((Int.fdiv (IntKind.u64.wrap ((IntKind.i64.wrap (n7 + n8)))) (2 ^ min (Int.toNat 1) (IntKind.u64.bits))))) : Int)) w21)))
  fun (s23 : slices_BinarySearch__int_int_J241.S) w24 => slices_BinarySearch__int_int_j0 A10 s23.1 s23.2 w24)
 (JoinT (fun (J30 : slices_BinarySearch__int_int_J31.S → World → Prop) =>
  cnd (decide (n7 < ((a0_n : Nat) : Int)))
  (ix n7 a0_n fun j31 => nn a0 fun a32 =>
  ldI .i64 (a32.add (j31 * 1)) w9 fun n33 =>
  cnd (n33 == a1)
  (J30 ((n7 : Int), (true : Bool)) w9)
  (ix n7 a0_n fun j34 => nn a0 fun a35 =>
  ldI .i64 (a35.add (j34 * 1)) w9 fun n36 =>
  CV P F.slices_isNaN_int [.int .i64 n36] w9 fun v37 w38 =>
  ∃ b39 : Bool, v37 = .bool b39 ∧
  cnd b39
  (CV P F.slices_isNaN_int [.int .i64 a1] w38 fun v40 w41 =>
  ∃ b42 : Bool, v40 = .bool b42 ∧
  J30 ((n7 : Int), (b42 : Bool)) w41)
  (J30 ((n7 : Int), (false : Bool)) w38)))
  (J30 ((n7 : Int), (false : Bool)) w9))
  fun (s43 : slices_BinarySearch__int_int_J31.S) w44 => slices_BinarySearch__int_int_j1 Q s43.1 s43.2 w44)

def slices_BinarySearch__int_int (a0 : Option Addr) (a0_n : Nat) (a0_c : Nat) (a1 : Int) (w : World) (Q : Value → World → Prop) : Prop :=
 LoopT (fun (s45 : slices_BinarySearch__int_int_L60.S) w46 A47 => slices_BinarySearch__int_int_l2 a0 a0_n a1 Q s45.1 s45.2 w46 A47) ((0 : Int), (((a0_n : Nat) : Int) : Int)) w
def slices_BinarySearch__int_int_ann : Nat → Option LoopSpec := fun
  | 60 => some slices_BinarySearch__int_int_L60
  | 241 => some slices_BinarySearch__int_int_J241
  | 31 => some slices_BinarySearch__int_int_J31
  | _ => none
theorem slices_BinarySearch__int_int_eq (a0 : Option Addr) (a0_n : Nat) (a0_c : Nat) (a1 : Int) (w : World) (Q : Value → World → Prop) : fnX P slices_BinarySearch__int_int_ann Try.f44 [.slice a0 a0_n a0_c, .int .i64 a1] w Q = slices_BinarySearch__int_int a0 a0_n a0_c a1 w Q := by kernel_rfl
theorem slices_BinarySearch__int_int_cv {a0 : Option Addr} {a0_n : Nat} {a0_c : Nat} {a1 : Int} {w : World} {Q : Value → World → Prop} (h : slices_BinarySearch__int_int a0 a0_n a0_c a1 w Q) : CV P F.slices_BinarySearch__int_int [.slice a0 a0_n a0_c, .int .i64 a1] w Q := CV_of mixed Try.func44 (slices_BinarySearch__int_int_eq a0 a0_n a0_c a1 w Q ▸ h)

/- 45 slices.Insert[[]int,int] -/

def slices_Insert__int_int (a0 : Option Addr) (a0_n : Nat) (a0_c : Nat) (a1 : Int) (a2 : Option Addr) (a2_n : Nat) (a2_c : Nat) (w : World) (Q : Value → World → Prop) : Prop :=
 slL a0 a0_n a0_c 1 (some a1) none none fun p8 l9 c10 =>
 cnd (((a2_n : Nat) : Int) == 0)
 (Q (.slice a0 a0_n a0_c) w)
 (cnd (a1 == ((a0_n : Nat) : Int))
 (runS P (Builtin.append_ #[T.t37, T.t37] T.t37 [.slice a0 a0_n a0_c, .slice a2 a2_n a2_c].toArray) w fun p11 l12 c13 w14 =>
 Q (.slice p11 l12 c13) w14)
 (cnd (decide ((IntKind.i64.wrap (((a0_n : Nat) : Int) + ((a2_n : Nat) : Int))) > ((a0_c : Nat) : Int)))
 (slL a0 a0_n a0_c 1 none (some a1) none fun p15 l16 c17 =>
 runS P (Builtin.append_ #[T.t37, T.t3] T.t37 [.slice p15 l16 c17, .int .i64 (IntKind.i64.wrap ((IntKind.i64.wrap (((a0_n : Nat) : Int) + ((a2_n : Nat) : Int))) - a1))].toArray) w fun p18 l19 c20 w21 =>
 slL p18 l19 c20 1 (some a1) none none fun p22 l23 c24 =>
 runI P (Builtin.copy_ #[T.t37, T.t37] T.t3 [.slice p22 l23 c24, .slice a2 a2_n a2_c].toArray) w21 fun n25 w26 =>
 drw w26 fun w27 =>
 slL p18 l19 c20 1 (some (IntKind.i64.wrap (a1 + ((a2_n : Nat) : Int)))) none none fun p28 l29 c30 =>
 slL a0 a0_n a0_c 1 (some a1) none none fun p31 l32 c33 =>
 runI P (Builtin.copy_ #[T.t37, T.t37] T.t3 [.slice p28 l29 c30, .slice p31 l32 c33].toArray) w27 fun n34 w35 =>
 Q (.slice p18 l19 c20) w35)
 (slL a0 a0_n a0_c 1 none (some (IntKind.i64.wrap (((a0_n : Nat) : Int) + ((a2_n : Nat) : Int)))) none fun p36 l37 c38 =>
 slL p36 l37 c38 1 (some (IntKind.i64.wrap (a1 + ((a2_n : Nat) : Int)))) none none fun p39 l40 c41 =>
 extX P F.slices_overlaps_int [.slice a2 a2_n a2_c, .slice p39 l40 c41] w fun v42 w43 =>
 ∃ b44 : Bool, v42 = .bool b44 ∧
 cnd (!b44)
 (drw w43 fun w45 =>
 slL p36 l37 c38 1 (some (IntKind.i64.wrap (a1 + ((a2_n : Nat) : Int)))) none none fun p46 l47 c48 =>
 slL p36 l37 c38 1 (some a1) none none fun p49 l50 c51 =>
 runI P (Builtin.copy_ #[T.t37, T.t37] T.t3 [.slice p46 l47 c48, .slice p49 l50 c51].toArray) w45 fun n52 w53 =>
 slL p36 l37 c38 1 (some a1) none none fun p54 l55 c56 =>
 runI P (Builtin.copy_ #[T.t37, T.t37] T.t3 [.slice p54 l55 c56, .slice a2 a2_n a2_c].toArray) w53 fun n57 w58 =>
 Q (.slice p36 l37 c38) w58)
 (slL p36 l37 c38 1 (some ((a0_n : Nat) : Int)) none none fun p59 l60 c61 =>
 runI P (Builtin.copy_ #[T.t37, T.t37] T.t3 [.slice p59 l60 c61, .slice a2 a2_n a2_c].toArray) w43 fun n62 w63 =>
 slL p36 l37 c38 1 (some a1) none none fun p64 l65 c66 =>
 CV P F.slices_rotateRight_int [.slice p64 l65 c66, .int .i64 ((a2_n : Nat) : Int)] w63 fun v67 w68 =>
 v67 = .tuple [].toArray ∧
 Q (.slice p36 l37 c38) w68))))
def slices_Insert__int_int_ann : Nat → Option LoopSpec := fun
  | 8150 => some (ordSpec [0, 1, 2, 3, 4, 5, 6, 7, 8])
  | 8180 => some (ordSpec [0, 1, 2, 3, 4, 5, 6, 7, 8])
  | _ => none
theorem slices_Insert__int_int_eq (a0 : Option Addr) (a0_n : Nat) (a0_c : Nat) (a1 : Int) (a2 : Option Addr) (a2_n : Nat) (a2_c : Nat) (w : World) (Q : Value → World → Prop) : fnX P slices_Insert__int_int_ann Try.f45 [.slice a0 a0_n a0_c, .int .i64 a1, .slice a2 a2_n a2_c] w Q = slices_Insert__int_int a0 a0_n a0_c a1 a2 a2_n a2_c w Q := by kernel_rfl
theorem slices_Insert__int_int_cv {a0 : Option Addr} {a0_n : Nat} {a0_c : Nat} {a1 : Int} {a2 : Option Addr} {a2_n : Nat} {a2_c : Nat} {w : World} {Q : Value → World → Prop} (h : slices_Insert__int_int a0 a0_n a0_c a1 a2 a2_n a2_c w Q) : CV P F.slices_Insert__int_int [.slice a0 a0_n a0_c, .int .i64 a1, .slice a2 a2_n a2_c] w Q := CV_of mixed Try.func45 (slices_Insert__int_int_eq a0 a0_n a0_c a1 a2 a2_n a2_c w Q ▸ h)

/- 46 slices.Delete[[]int,int] -/

def slices_Delete__int_int (a0 : Option Addr) (a0_n : Nat) (a0_c : Nat) (a1 : Int) (a2 : Int) (w : World) (Q : Value → World → Prop) : Prop :=
 slL a0 a0_n a0_c 1 (some a1) (some a2) (some ((a0_n : Nat) : Int)) fun p6 l7 c8 =>
 cnd (a1 == a2)
 (Q (.slice a0 a0_n a0_c) w)
 (drw w fun w9 =>
 slL a0 a0_n a0_c 1 none (some a1) none fun p10 l11 c12 =>
 slL a0 a0_n a0_c 1 (some a2) none none fun p13 l14 c15 =>
 runS P (Builtin.append_ #[T.t37, T.t37] T.t37 [.slice p10 l11 c12, .slice p13 l14 c15].toArray) w9 fun p16 l17 c18 w19 =>
 slL p16 l17 c18 1 (some ((l17 : Nat) : Int)) (some ((a0_n : Nat) : Int)) none fun p20 l21 c22 =>
 runV P (Builtin.clear_ #[T.t37] T.t0 [.slice p20 l21 c22].toArray) w19 fun v23 w24 => v23 = undef ∧
 Q (.slice p16 l17 c18) w24)
def slices_Delete__int_int_ann : Nat → Option LoopSpec := fun
  | 62 => some (ordSpec [0, 1, 2, 3, 4, 5, 6, 7])
  | _ => none
theorem slices_Delete__int_int_eq (a0 : Option Addr) (a0_n : Nat) (a0_c : Nat) (a1 : Int) (a2 : Int) (w : World) (Q : Value → World → Prop) : fnX P slices_Delete__int_int_ann Try.f46 [.slice a0 a0_n a0_c, .int .i64 a1, .int .i64 a2] w Q = slices_Delete__int_int a0 a0_n a0_c a1 a2 w Q := by kernel_rfl
theorem slices_Delete__int_int_cv {a0 : Option Addr} {a0_n : Nat} {a0_c : Nat} {a1 : Int} {a2 : Int} {w : World} {Q : Value → World → Prop} (h : slices_Delete__int_int a0 a0_n a0_c a1 a2 w Q) : CV P F.slices_Delete__int_int [.slice a0 a0_n a0_c, .int .i64 a1, .int .i64 a2] w Q := CV_of mixed Try.func46 (slices_Delete__int_int_eq a0 a0_n a0_c a1 a2 w Q ▸ h)

/- 47 crier/book.through[int,int] -/

def book_through_int_int (a0 : Option Addr) (a0_n : Nat) (a0_c : Nat) (a1 : Option Addr) (a1_n : Nat) (a1_c : Nat) (w : World) (Q : Value → World → Prop) : Prop :=
 alc [.slice a0 a0_n a0_c] T.t37 w fun b7 w8 =>
 alc [.slice a1 a1_n a1_c] T.t37 w8 fun b9 w10 =>
 Q (.func (.func F.book_through_int_int_1) [].toArray [.pointer (some ⟨b7, 0, none⟩), .pointer (some ⟨b9, 0, none⟩)].toArray) w10
def book_through_int_int_ann : Nat → Option LoopSpec := fun _ => none
theorem book_through_int_int_eq (a0 : Option Addr) (a0_n : Nat) (a0_c : Nat) (a1 : Option Addr) (a1_n : Nat) (a1_c : Nat) (w : World) (Q : Value → World → Prop) : fnX P book_through_int_int_ann Try.f47 [.slice a0 a0_n a0_c, .slice a1 a1_n a1_c] w Q = book_through_int_int a0 a0_n a0_c a1 a1_n a1_c w Q := by kernel_rfl
theorem book_through_int_int_cv {a0 : Option Addr} {a0_n : Nat} {a0_c : Nat} {a1 : Option Addr} {a1_n : Nat} {a1_c : Nat} {w : World} {Q : Value → World → Prop} (h : book_through_int_int a0 a0_n a0_c a1 a1_n a1_c w Q) : CV P F.book_through_int_int [.slice a0 a0_n a0_c, .slice a1 a1_n a1_c] w Q := CV_of mixed Try.func47 (book_through_int_int_eq a0 a0_n a0_c a1 a1_n a1_c w Q ▸ h)

/- 48 slices.Clone[[]int,int] -/

def slices_Clone__int_int (a0 : Option Addr) (a0_n : Nat) (a0_c : Nat) (w : World) (Q : Value → World → Prop) : Prop :=
 cnd (Option.isNone a0)
 (Q (.slice none 0 0) w)
 (alc [] T.t3 w fun b4 w5 =>
 runS P (Builtin.append_ #[T.t37, T.t37] T.t37 [.slice (some ⟨b4, 0, none⟩) 0 0, .slice a0 a0_n a0_c].toArray) w5 fun p6 l7 c8 w9 =>
 Q (.slice p6 l7 c8) w9)
def slices_Clone__int_int_ann : Nat → Option LoopSpec := fun _ => none
theorem slices_Clone__int_int_eq (a0 : Option Addr) (a0_n : Nat) (a0_c : Nat) (w : World) (Q : Value → World → Prop) : fnX P slices_Clone__int_int_ann Try.f48 [.slice a0 a0_n a0_c] w Q = slices_Clone__int_int a0 a0_n a0_c w Q := by kernel_rfl
theorem slices_Clone__int_int_cv {a0 : Option Addr} {a0_n : Nat} {a0_c : Nat} {w : World} {Q : Value → World → Prop} (h : slices_Clone__int_int a0 a0_n a0_c w Q) : CV P F.slices_Clone__int_int [.slice a0 a0_n a0_c] w Q := CV_of mixed Try.func48 (slices_Clone__int_int_eq a0 a0_n a0_c w Q ▸ h)

/- 49 cmp.Less[int] -/
def cmp_Less_int_J3 : LoopSpec where
  S := Bool
  emb := fun s => [(4, .bool s)]
  ext := fun t => match getL t 4 with
    | some (.bool y3) => some (y3)
    | _ => none
  slots := [4]
  fits := fun _ => rfl
  ok := by
    intro t s h x hx
    (try dsimp only at h hx)
    split at h
    · cases h
      simp only [List.mem_cons, List.not_mem_nil, or_false] at hx
      rcases hx with rfl <;> assumption
    · cases h

def cmp_Less_int_j0 (Q : Value → World → Prop) (b4 : Bool) (w5 : World) : Prop :=
 Q (.bool b4) w5

def cmp_Less_int (a0 : Int) (a1 : Int) (w : World) (Q : Value → World → Prop) : Prop :=
 JoinT (fun (J6 : cmp_Less_int_J3.S → World → Prop) =>
  CV P F.cmp_isNaN_int [.int .i64 a0] w fun v7 w8 =>
  ∃ b9 : Bool, v7 = .bool b9 ∧
  cnd b9
  (CV P F.cmp_isNaN_int [.int .i64 a1] w8 fun v10 w11 =>
  ∃ b12 : Bool, v10 = .bool b12 ∧
  cnd (!b12)
  (J6 ((true : Bool)) w11)
  (J6 (((decide (a0 < a1)) : Bool)) w11))
  (J6 (((decide (a0 < a1)) : Bool)) w8))
  fun (s13 : cmp_Less_int_J3.S) w14 => cmp_Less_int_j0 Q s13 w14
def cmp_Less_int_ann : Nat → Option LoopSpec := fun
  | 3 => some cmp_Less_int_J3
  | _ => none
theorem cmp_Less_int_eq (a0 : Int) (a1 : Int) (w : World) (Q : Value → World → Prop) : fnX P cmp_Less_int_ann Try.f49 [.int .i64 a0, .int .i64 a1] w Q = cmp_Less_int a0 a1 w Q := by kernel_rfl
theorem cmp_Less_int_cv {a0 : Int} {a1 : Int} {w : World} {Q : Value → World → Prop} (h : cmp_Less_int a0 a1 w Q) : CV P F.cmp_Less_int [.int .i64 a0, .int .i64 a1] w Q := CV_of mixed Try.func49 (cmp_Less_int_eq a0 a1 w Q ▸ h)

/- 50 slices.isNaN[int] -/

def slices_isNaN_int (a0 : Int) (w : World) (Q : Value → World → Prop) : Prop :=
 Q (.bool (a0 != a0)) w
def slices_isNaN_int_ann : Nat → Option LoopSpec := fun _ => none
theorem slices_isNaN_int_eq (a0 : Int) (w : World) (Q : Value → World → Prop) : fnX P slices_isNaN_int_ann Try.f50 [.int .i64 a0] w Q = slices_isNaN_int a0 w Q := by kernel_rfl
theorem slices_isNaN_int_cv {a0 : Int} {w : World} {Q : Value → World → Prop} (h : slices_isNaN_int a0 w Q) : CV P F.slices_isNaN_int [.int .i64 a0] w Q := CV_of mixed Try.func50 (slices_isNaN_int_eq a0 w Q ▸ h)

/- 52 slices.rotateRight[int] -/

def slices_rotateRight_int (a0 : Option Addr) (a0_n : Nat) (a0_c : Nat) (a1 : Int) (w : World) (Q : Value → World → Prop) : Prop :=
 CV P F.slices_rotateLeft_int [.slice a0 a0_n a0_c, .int .i64 (IntKind.i64.wrap (((a0_n : Nat) : Int) - a1))] w fun v5 w6 =>
 v5 = .tuple [].toArray ∧
 Q (.tuple [].toArray) w6
def slices_rotateRight_int_ann : Nat → Option LoopSpec := fun _ => none
theorem slices_rotateRight_int_eq (a0 : Option Addr) (a0_n : Nat) (a0_c : Nat) (a1 : Int) (w : World) (Q : Value → World → Prop) : fnX P slices_rotateRight_int_ann Try.f52 [.slice a0 a0_n a0_c, .int .i64 a1] w Q = slices_rotateRight_int a0 a0_n a0_c a1 w Q := by kernel_rfl
theorem slices_rotateRight_int_cv {a0 : Option Addr} {a0_n : Nat} {a0_c : Nat} {a1 : Int} {w : World} {Q : Value → World → Prop} (h : slices_rotateRight_int a0 a0_n a0_c a1 w Q) : CV P F.slices_rotateRight_int [.slice a0 a0_n a0_c, .int .i64 a1] w Q := CV_of mixed Try.func52 (slices_rotateRight_int_eq a0 a0_n a0_c a1 w Q ▸ h)

/- 53 crier/book.through[int,int]$1 -/
def book_through_int_int_1_L6 : LoopSpec where
  S := Int
  emb := fun s => [(8, .int .i64 s)]
  ext := fun t => match getL t 8 with
    | some (.int .i64 y7) => some (y7)
    | _ => none
  slots := [8]
  fits := fun _ => rfl
  ok := by
    intro t s h x hx
    (try dsimp only at h hx)
    split at h
    · cases h
      simp only [List.mem_cons, List.not_mem_nil, or_false] at hx
      rcases hx with rfl <;> assumption
    · cases h

def book_through_int_int_1_l0 (a0 : Value) (f1 : Addr) (Q : Value → World → Prop) (p4 : Option Addr) (l5 : Nat) (n8 : Int) (w9 : World) (A10 : book_through_int_int_1_L6.S → World → Prop) : Prop :=
 cnd (decide (n8 < ((l5 : Nat) : Int)))
 (ix n8 l5 fun j11 => nn p4 fun a12 =>
 ldI .i64 (a12.add (j11 * 1)) w9 fun n13 =>
 ldL f1 w9 fun p14 l15 c16 =>
 ix n8 l15 fun j17 => nn p14 fun a18 =>
 ldI .i64 (a18.add (j17 * 1)) w9 fun n19 =>
 callVal P a0 [.int .i64 n13, .int .i64 n19] w9 fun v20 w21 =>
 ∃ b22 : Bool, v20 = .bool b22 ∧
 cnd (!b22)
 (Q (.tuple [].toArray) w21)
 (A10 (((IntKind.i64.wrap (n8 + 1)) : Int)) w21))
 (Q (.tuple [].toArray) w9)

def book_through_int_int_1 (a0 : Value) (f0 : Addr) (f1 : Addr) (w : World) (Q : Value → World → Prop) : Prop :=
 ldL f0 w fun p4 l5 c6 =>
 LoopT (fun (s23 : book_through_int_int_1_L6.S) w24 A25 => book_through_int_int_1_l0 a0 f1 Q p4 l5 s23 w24 A25) ((0 : Int)) w
def book_through_int_int_1_ann : Nat → Option LoopSpec := fun
  | 6 => some book_through_int_int_1_L6
  | _ => none
theorem book_through_int_int_1_eq (a0 : Value) (f0 : Addr) (f1 : Addr) (w : World) (Q : Value → World → Prop) : fnX P book_through_int_int_1_ann Try.f53 [a0, .pointer (some f0), .pointer (some f1)] w Q = book_through_int_int_1 a0 f0 f1 w Q := by kernel_rfl
theorem book_through_int_int_1_cv {a0 : Value} {f0 : Addr} {f1 : Addr} {w : World} {Q : Value → World → Prop} (h : book_through_int_int_1 a0 f0 f1 w Q) : CV P F.book_through_int_int_1 [a0, .pointer (some f0), .pointer (some f1)] w Q := CV_of mixed Try.func53 (book_through_int_int_1_eq a0 f0 f1 w Q ▸ h)

/- 54 cmp.isNaN[int] -/

def cmp_isNaN_int (a0 : Int) (w : World) (Q : Value → World → Prop) : Prop :=
 Q (.bool (a0 != a0)) w
def cmp_isNaN_int_ann : Nat → Option LoopSpec := fun _ => none
theorem cmp_isNaN_int_eq (a0 : Int) (w : World) (Q : Value → World → Prop) : fnX P cmp_isNaN_int_ann Try.f54 [.int .i64 a0] w Q = cmp_isNaN_int a0 w Q := by kernel_rfl
theorem cmp_isNaN_int_cv {a0 : Int} {w : World} {Q : Value → World → Prop} (h : cmp_isNaN_int a0 w Q) : CV P F.cmp_isNaN_int [.int .i64 a0] w Q := CV_of mixed Try.func54 (cmp_isNaN_int_eq a0 w Q ▸ h)

/- 55 slices.rotateLeft[int] -/

def slices_rotateLeft_int (a0 : Option Addr) (a0_n : Nat) (a0_c : Nat) (a1 : Int) (w : World) (Q : Value → World → Prop) : Prop :=
 slL a0 a0_n a0_c 1 none (some a1) none fun p5 l6 c7 =>
 CV P F.slices_Reverse__int_int [.slice p5 l6 c7] w fun v8 w9 =>
 v8 = .tuple [].toArray ∧
 slL a0 a0_n a0_c 1 (some a1) none none fun p10 l11 c12 =>
 CV P F.slices_Reverse__int_int [.slice p10 l11 c12] w9 fun v13 w14 =>
 v13 = .tuple [].toArray ∧
 CV P F.slices_Reverse__int_int [.slice a0 a0_n a0_c] w14 fun v15 w16 =>
 v15 = .tuple [].toArray ∧
 Q (.tuple [].toArray) w16
def slices_rotateLeft_int_ann : Nat → Option LoopSpec := fun _ => none
theorem slices_rotateLeft_int_eq (a0 : Option Addr) (a0_n : Nat) (a0_c : Nat) (a1 : Int) (w : World) (Q : Value → World → Prop) : fnX P slices_rotateLeft_int_ann Try.f55 [.slice a0 a0_n a0_c, .int .i64 a1] w Q = slices_rotateLeft_int a0 a0_n a0_c a1 w Q := by kernel_rfl
theorem slices_rotateLeft_int_cv {a0 : Option Addr} {a0_n : Nat} {a0_c : Nat} {a1 : Int} {w : World} {Q : Value → World → Prop} (h : slices_rotateLeft_int a0 a0_n a0_c a1 w Q) : CV P F.slices_rotateLeft_int [.slice a0 a0_n a0_c, .int .i64 a1] w Q := CV_of mixed Try.func55 (slices_rotateLeft_int_eq a0 a0_n a0_c a1 w Q ▸ h)

/- 56 slices.Reverse[[]int,int] -/
def slices_Reverse__int_int_L6 : LoopSpec where
  S := Int × Int
  emb := fun s => [(2, .int .i64 s.1), (3, .int .i64 s.2)]
  ext := fun t => match getL t 2, getL t 3 with
    | some (.int .i64 y4), some (.int .i64 y5) => some (y4, y5)
    | _, _ => none
  slots := [2, 3]
  fits := fun _ => rfl
  ok := by
    intro t s h x hx
    (try dsimp only at h hx)
    split at h
    · cases h
      simp only [List.mem_cons, List.not_mem_nil, or_false] at hx
      rcases hx with rfl | rfl <;> assumption
    · cases h

def slices_Reverse__int_int_l0 (a0 : Option Addr) (a0_n : Nat) (Q : Value → World → Prop) (n6 : Int) (n7 : Int) (w8 : World) (A9 : slices_Reverse__int_int_L6.S → World → Prop) : Prop :=
 cnd (decide (n6 < n7))
 (drw w8 fun w10 =>
 ix n7 a0_n fun j11 => nn a0 fun a12 =>
 ldI .i64 (a12.add (j11 * 1)) w10 fun n13 =>
 ix n6 a0_n fun j14 => nn a0 fun a15 =>
 ldI .i64 (a15.add (j14 * 1)) w10 fun n16 =>
 ix n6 a0_n fun j17 => nn a0 fun a18 =>
 st1 (.int .i64 n13) (a18.add (j17 * 1)) w10 fun w19 =>
 ix n7 a0_n fun j20 => nn a0 fun a21 =>
 st1 (.int .i64 n16) (a21.add (j20 * 1)) w19 fun w22 =>
 A9 (((IntKind.i64.wrap (n6 + 1)) : Int), ((IntKind.i64.wrap (n7 - 1)) : Int)) w22)
 (Q (.tuple [].toArray) w8)

def slices_Reverse__int_int (a0 : Option Addr) (a0_n : Nat) (a0_c : Nat) (w : World) (Q : Value → World → Prop) : Prop :=
 LoopT (fun (s23 : slices_Reverse__int_int_L6.S) w24 A25 => slices_Reverse__int_int_l0 a0 a0_n Q s23.1 s23.2 w24 A25) ((0 : Int), ((IntKind.i64.wrap (((a0_n : Nat) : Int) - 1)) : Int)) w
def slices_Reverse__int_int_ann : Nat → Option LoopSpec := fun
  | 6 => some slices_Reverse__int_int_L6
  | 100 => some (ordSpec [0, 1, 2, 3, 4, 5, 6, 7, 8, 9, 10, 11, 12, 13, 14, 15])
  | _ => none
theorem slices_Reverse__int_int_eq (a0 : Option Addr) (a0_n : Nat) (a0_c : Nat) (w : World) (Q : Value → World → Prop) : fnX P slices_Reverse__int_int_ann Try.f56 [.slice a0 a0_n a0_c] w Q = slices_Reverse__int_int a0 a0_n a0_c w Q := by kernel_rfl
theorem slices_Reverse__int_int_cv {a0 : Option Addr} {a0_n : Nat} {a0_c : Nat} {w : World} {Q : Value → World → Prop} (h : slices_Reverse__int_int a0 a0_n a0_c w Q) : CV P F.slices_Reverse__int_int [.slice a0 a0_n a0_c] w Q := CV_of mixed Try.func56 (slices_Reverse__int_int_eq a0 a0_n a0_c w Q ▸ h)

end Go.Proofs.Ytmobpenjbaaicaa
