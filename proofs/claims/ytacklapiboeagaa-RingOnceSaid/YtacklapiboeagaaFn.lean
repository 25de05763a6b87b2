/-
  The functions' words, printed by Gen.lean out of the translation: each word's equation with the code is asked of the kernel.
-/
import Derived.Test.YtacklapiboeagaaX8
import Derived.Test.YtacklapiboeagaaChecked
namespace Go.Proofs.Ytacklapiboeagaa
open Go X
set_option maxRecDepth 100000
set_option linter.unusedVariables false
noncomputable abbrev P : Program := Try.prog
theorem mixed : P.follows .mixedOrders = true := Checked.mixed Try.checked
abbrev F.main_main : FuncId := 0
abbrev F.gosem_cut : FuncId := 1
abbrev F.gosem_cut_init : FuncId := 2
abbrev F.crierlaw02_RingBack : FuncId := 3
abbrev F.crierlaw02_RingMore : FuncId := 4
abbrev F.crierlaw02_RingOnce : FuncId := 5
abbrev F.crierlaw02_RingIndex : FuncId := 6
abbrev F.crierlaw02_RingPlaces : FuncId := 7
abbrev F.crierlaw02_RingWaits : FuncId := 8
abbrev F.crierlaw02_awake : FuncId := 9
abbrev F.ring_Ring_Next : FuncId := 10
abbrev F.ring_Ring_May : FuncId := 11
abbrev F.ring_Ring_Ahead : FuncId := 12
abbrev F.ring_Ring_Left : FuncId := 13
abbrev F.ring_Ring_Room : FuncId := 14
abbrev F.crierlaw02_Each : FuncId := 15
abbrev F.crierref01_Has : FuncId := 16
abbrev F.ring_Ring_Waits : FuncId := 17
abbrev F.ring_Ring_Index : FuncId := 18
abbrev F.ring_Ring_Place : FuncId := 19
abbrev F.crierref02_Right : FuncId := 20
abbrev F.crierref02_Index : FuncId := 21
abbrev F.ring_Ring_Right : FuncId := 22
abbrev F.crierref02_Waits : FuncId := 23
abbrev F.crierref01_Same : FuncId := 24
abbrev F.ring_Ring_Each : FuncId := 25
abbrev F.ring_Ring_Each_1 : FuncId := 26
abbrev F.runtime_boundsError_Error : FuncId := 27
abbrev F.runtime_boundsError_RuntimeError : FuncId := 28
abbrev F.runtime_errorString_Error : FuncId := 29
abbrev F.runtime_errorString_RuntimeError : FuncId := 30
abbrev F.runtime_plainError_Error : FuncId := 31
abbrev F.runtime_plainError_RuntimeError : FuncId := 32
abbrev F.runtime_errorAddressString_Error : FuncId := 33
abbrev F.runtime_errorAddressString_RuntimeError : FuncId := 34
abbrev F.runtime_TypeAssertionError_Error : FuncId := 35
abbrev F.runtime_TypeAssertionError_RuntimeError : FuncId := 36
abbrev F.runtime_PanicNilError_Error : FuncId := 37
abbrev F.runtime_PanicNilError_RuntimeError : FuncId := 38
abbrev F.internal_abi_Type_Align : FuncId := 39
abbrev F.internal_runtime_maps_unhashableTypeError_Error : FuncId := 40
abbrev F.internal_runtime_maps_unhashableTypeError_RuntimeError : FuncId := 41
abbrev F.api_Errno_Error : FuncId := 42
abbrev F.internal_abi_Kind_String : FuncId := 43
abbrev T.t0 : TypeId := 0
abbrev T.t1 : TypeId := 1
abbrev T.t2 : TypeId := 2
abbrev T.t3 : TypeId := 3
abbrev T.t4 : TypeId := 4
abbrev T.t5 : TypeId := 5
abbrev T.t6 : TypeId := 6
abbrev T.t7 : TypeId := 7
abbrev T.t8 : TypeId := 8
abbrev T.t9 : TypeId := 9
abbrev T.t10 : TypeId := 10
abbrev T.t11 : TypeId := 11
abbrev T.t12 : TypeId := 12
abbrev T.t13 : TypeId := 13
abbrev T.t14 : TypeId := 14
abbrev T.t15 : TypeId := 15
abbrev T.t16 : TypeId := 16
abbrev T.t17 : TypeId := 17
abbrev T.t18 : TypeId := 18
abbrev T.t19 : TypeId := 19
abbrev T.t20 : TypeId := 20
abbrev T.t21 : TypeId := 21
abbrev T.t22 : TypeId := 22
abbrev T.t23 : TypeId := 23
abbrev T.t24 : TypeId := 24
abbrev T.t25 : TypeId := 25
abbrev T.t26 : TypeId := 26
abbrev T.t27 : TypeId := 27
abbrev T.t28 : TypeId := 28
abbrev T.t29 : TypeId := 29
abbrev T.t30 : TypeId := 30
abbrev T.t31 : TypeId := 31
abbrev T.t32 : TypeId := 32
abbrev T.t33 : TypeId := 33
abbrev T.t34 : TypeId := 34
abbrev T.t35 : TypeId := 35
abbrev T.t36 : TypeId := 36
abbrev T.t37 : TypeId := 37
abbrev T.t38 : TypeId := 38
abbrev T.t39 : TypeId := 39
abbrev T.t40 : TypeId := 40
abbrev T.t41 : TypeId := 41
abbrev T.t42 : TypeId := 42
abbrev T.t43 : TypeId := 43
abbrev T.t44 : TypeId := 44
abbrev T.t45 : TypeId := 45
abbrev T.t46 : TypeId := 46
abbrev T.t47 : TypeId := 47
abbrev T.t48 : TypeId := 48
abbrev T.t49 : TypeId := 49
abbrev T.t50 : TypeId := 50
abbrev T.t51 : TypeId := 51
abbrev T.t52 : TypeId := 52
abbrev T.t53 : TypeId := 53
abbrev T.t54 : TypeId := 54
abbrev T.t55 : TypeId := 55
abbrev T.t56 : TypeId := 56
abbrev T.t57 : TypeId := 57
abbrev T.t58 : TypeId := 58
abbrev T.t59 : TypeId := 59
abbrev T.t60 : TypeId := 60
abbrev T.t61 : TypeId := 61
/- 3 crier/crierlaw02.RingBack -/
def crierlaw02_RingBack_J250 : LoopSpec where
  S := Bool
  emb := fun s => [(4, .bool s)]
  ext := fun t => match getL t 4 with
    | some (.bool y15) => some (y15)
    | _ => none
  slots := [4]
  fits := fun _ => rfl
  ok := by
    intro t s h x hx
    (try dsimp only at h hx)
    split at h
    · cases h
      simp only [List.mem_cons, List.not_mem_nil, or_false] at hx
      rcases hx with rfl <;> assumption
    · cases h

def crierlaw02_RingBack_j0 (Q : Value → World → Prop) (b16 : Bool) (w17 : World) : Prop :=
 Q (.bool b16) w17

def crierlaw02_RingBack_L8186 : LoopSpec where
  S := Int × Int
  emb := fun s => [(14, .int .i64 s.1), (15, .int .i64 s.2)]
  ext := fun t => match getL t 14, getL t 15 with
    | some (.int .i64 y44), some (.int .i64 y45) => some (y44, y45)
    | _, _ => none
  slots := [14, 15]
  fits := fun _ => rfl
  ok := by
    intro t s h x hx
    (try dsimp only at h hx)
    split at h
    · cases h
      simp only [List.mem_cons, List.not_mem_nil, or_false] at hx
      rcases hx with rfl | rfl <;> assumption
    · cases h

def crierlaw02_RingBack_J32744 : LoopSpec where
  S := Bool
  emb := fun s => [(64, .bool s)]
  ext := fun t => match getL t 64 with
    | some (.bool y50) => some (y50)
    | _ => none
  slots := [64]
  fits := fun _ => rfl
  ok := by
    intro t s h x hx
    (try dsimp only at h hx)
    split at h
    · cases h
      simp only [List.mem_cons, List.not_mem_nil, or_false] at hx
      rcases hx with rfl <;> assumption
    · cases h

def crierlaw02_RingBack_J2047 : LoopSpec where
  S := Bool
  emb := fun s => [(4, .bool s)]
  ext := fun t => match getL t 4 with
    | some (.bool y59) => some (y59)
    | _ => none
  slots := [4]
  fits := fun _ => rfl
  ok := by
    intro t s h x hx
    (try dsimp only at h hx)
    split at h
    · cases h
      simp only [List.mem_cons, List.not_mem_nil, or_false] at hx
      rcases hx with rfl <;> assumption
    · cases h

def crierlaw02_RingBack_j1 (Q : Value → World → Prop) (b60 : Bool) (w61 : World) : Prop :=
 Q (.bool b60) w61

def crierlaw02_RingBack_j2 (a1 : Int) (Q : Value → World → Prop) (b4 : Nat) (b8 : Bool) (n30 : Int) (n31 : Int) (n37 : Int) (n42 : Int) (n43 : Int) (n46 : Int) (n47 : Int) (A49 : crierlaw02_RingBack_L8186.S → World → Prop) (b51 : Bool) (w52 : World) : Prop :=
 cnd b51
 (ldI .i64 ⟨b4, 0, none⟩ w52 fun n53 =>
 ldI .i64 ⟨b4, 1, none⟩ w52 fun n54 =>
 CV P F.ring_Ring_Next [.agg [.int .i64 n53, .int .i64 n54].toArray, .int .i64 n46] w52 fun v55 w56 =>
 ∃ n57 : Int, ∃ n58 : Int, v55 = .tuple [.int .i64 n57, .int .i64 n58].toArray ∧
 cnd (n58 != 0)
 (Q (.bool false) w56)
 (A49 ((n57 : Int), ((IntKind.i64.wrap (n47 + 1)) : Int)) w56))
 (JoinT (fun (J62 : crierlaw02_RingBack_J2047.S → World → Prop) =>
  cnd b8
  (cnd (n31 == 0)
  (cnd (n37 == n31)
  (cnd (n43 == n31)
  (cnd (n30 == a1)
  (cnd (n42 == a1)
  (J62 (((n46 == a1) : Bool)) w52)
  (J62 ((false : Bool)) w52))
  (J62 ((false : Bool)) w52))
  (J62 ((false : Bool)) w52))
  (J62 ((false : Bool)) w52))
  (J62 ((false : Bool)) w52))
  (J62 ((false : Bool)) w52))
  fun (s63 : crierlaw02_RingBack_J2047.S) w64 => crierlaw02_RingBack_j1 Q s63 w64)

def crierlaw02_RingBack_l3 (a1 : Int) (Q : Value → World → Prop) (b4 : Nat) (b8 : Bool) (n30 : Int) (n31 : Int) (n37 : Int) (n42 : Int) (n43 : Int) (n46 : Int) (n47 : Int) (w48 : World) (A49 : crierlaw02_RingBack_L8186.S → World → Prop) : Prop :=
 JoinT (fun (J65 : crierlaw02_RingBack_J32744.S → World → Prop) =>
  ldI .i64 ⟨b4, 0, none⟩ w48 fun n66 =>
  ldI .i64 ⟨b4, 1, none⟩ w48 fun n67 =>
  nz (if n67 > 1 then n67 else 1) <|
  cnd (decide (n47 < (IntKind.i64.wrap (Int.tdiv n66 (if n67 > 1 then n67 else 1)))))
  (J65 (((decide (n47 < 5000)) : Bool)) w48)
  (J65 ((false : Bool)) w48))
  fun (s68 : crierlaw02_RingBack_J32744.S) w69 => crierlaw02_RingBack_j2 a1 Q b4 b8 n30 n31 n37 n42 n43 n46 n47 A49 s68 w69

def crierlaw02_RingBack (a0_0 : Int) (a0_1 : Int) (a1 : Int) (w : World) (Q : Value → World → Prop) : Prop :=
 alc [.int .i64 a0_0, .int .i64 a0_1] T.t23 w fun b4 w5 =>
 CV P F.crierlaw02_awake [] w5 fun v6 w7 =>
 ∃ b8 : Bool, v6 = .bool b8 ∧
 cnd (!b8)
 (Q (.bool false) w7)
 (ldI .i64 ⟨b4, 0, none⟩ w7 fun n9 =>
 ldI .i64 ⟨b4, 1, none⟩ w7 fun n10 =>
 CV P F.ring_Ring_Next [.agg [.int .i64 n9, .int .i64 n10].toArray, .int .i64 a1] w7 fun v11 w12 =>
 ∃ n13 : Int, ∃ n14 : Int, v11 = .tuple [.int .i64 n13, .int .i64 n14].toArray ∧
 cnd (n14 != 0)
 (JoinT (fun (J18 : crierlaw02_RingBack_J250.S → World → Prop) =>
  cnd b8
  (ldI .i64 ⟨b4, 0, none⟩ w12 fun n19 =>
  ldI .i64 ⟨b4, 1, none⟩ w12 fun n20 =>
  CV P F.ring_Ring_May [.agg [.int .i64 n19, .int .i64 n20].toArray, .int .i64 a1] w12 fun v21 w22 =>
  ∃ b23 : Bool, v21 = .bool b23 ∧
  J18 (((!b23) : Bool)) w22)
  (J18 ((false : Bool)) w12))
  fun (s24 : crierlaw02_RingBack_J250.S) w25 => crierlaw02_RingBack_j0 Q s24 w25)
 (ldI .i64 ⟨b4, 0, none⟩ w12 fun n26 =>
 ldI .i64 ⟨b4, 1, none⟩ w12 fun n27 =>
 CV P F.ring_Ring_Ahead [.agg [.int .i64 n26, .int .i64 n27].toArray, .int .i64 n13] w12 fun v28 w29 =>
 ∃ n30 : Int, ∃ n31 : Int, v28 = .tuple [.int .i64 n30, .int .i64 n31].toArray ∧
 ldI .i64 ⟨b4, 0, none⟩ w29 fun n32 =>
 ldI .i64 ⟨b4, 1, none⟩ w29 fun n33 =>
 CV P F.ring_Ring_Ahead [.agg [.int .i64 n32, .int .i64 n33].toArray, .int .i64 a1] w29 fun v34 w35 =>
 ∃ n36 : Int, ∃ n37 : Int, v34 = .tuple [.int .i64 n36, .int .i64 n37].toArray ∧
 ldI .i64 ⟨b4, 0, none⟩ w35 fun n38 =>
 ldI .i64 ⟨b4, 1, none⟩ w35 fun n39 =>
 CV P F.ring_Ring_Next [.agg [.int .i64 n38, .int .i64 n39].toArray, .int .i64 n36] w35 fun v40 w41 =>
 ∃ n42 : Int, ∃ n43 : Int, v40 = .tuple [.int .i64 n42, .int .i64 n43].toArray ∧
 LoopT (fun (s70 : crierlaw02_RingBack_L8186.S) w71 A72 => crierlaw02_RingBack_l3 a1 Q b4 b8 n30 n31 n37 n42 n43 s70.1 s70.2 w71 A72) ((a1 : Int), (0 : Int)) w41))
def crierlaw02_RingBack_ann : Nat → Option LoopSpec := fun
  | 250 => some crierlaw02_RingBack_J250
  | 8186 => some crierlaw02_RingBack_L8186
  | 32744 => some crierlaw02_RingBack_J32744
  | 2047 => some crierlaw02_RingBack_J2047
  | _ => none
theorem crierlaw02_RingBack_eq (a0_0 : Int) (a0_1 : Int) (a1 : Int) (w : World) (Q : Value → World → Prop) : fnX P crierlaw02_RingBack_ann Try.f3 [.agg [.int .i64 a0_0, .int .i64 a0_1].toArray, .int .i64 a1] w Q = crierlaw02_RingBack a0_0 a0_1 a1 w Q := by kernel_rfl
theorem crierlaw02_RingBack_cv {a0_0 : Int} {a0_1 : Int} {a1 : Int} {w : World} {Q : Value → World → Prop} (h : crierlaw02_RingBack a0_0 a0_1 a1 w Q) : CV P F.crierlaw02_RingBack [.agg [.int .i64 a0_0, .int .i64 a0_1].toArray, .int .i64 a1] w Q := CV_of mixed Try.func3 (crierlaw02_RingBack_eq a0_0 a0_1 a1 w Q ▸ h)

/- 4 crier/crierlaw02.RingMore -/
def crierlaw02_RingMore_J126 : LoopSpec where
  S := Bool
  emb := fun s => [(43, .bool s)]
  ext := fun t => match getL t 43 with
    | some (.bool y22) => some (y22)
    | _ => none
  slots := [43]
  fits := fun _ => rfl
  ok := by
    intro t s h x hx
    (try dsimp only at h hx)
    split at h
    · cases h
      simp only [List.mem_cons, List.not_mem_nil, or_false] at hx
      rcases hx with rfl <;> assumption
    · cases h

def crierlaw02_RingMore_J506 : LoopSpec where
  S := Bool
  emb := fun s => [(6, .bool s)]
  ext := fun t => match getL t 6 with
    | some (.bool y25) => some (y25)
    | _ => none
  slots := [6]
  fits := fun _ => rfl
  ok := by
    intro t s h x hx
    (try dsimp only at h hx)
    split at h
    · cases h
      simp only [List.mem_cons, List.not_mem_nil, or_false] at hx
      rcases hx with rfl <;> assumption
    · cases h

def crierlaw02_RingMore_j0 (Q : Value → World → Prop) (b26 : Bool) (w27 : World) : Prop :=
 Q (.bool b26) w27

def crierlaw02_RingMore_J4094 : LoopSpec where
  S := Bool
  emb := fun s => [(81, .bool s)]
  ext := fun t => match getL t 81 with
    | some (.bool y55) => some (y55)
    | _ => none
  slots := [81]
  fits := fun _ => rfl
  ok := by
    intro t s h x hx
    (try dsimp only at h hx)
    split at h
    · cases h
      simp only [List.mem_cons, List.not_mem_nil, or_false] at hx
      rcases hx with rfl <;> assumption
    · cases h

def crierlaw02_RingMore_J8191 : LoopSpec where
  S := Bool
  emb := fun s => [(6, .bool s)]
  ext := fun t => match getL t 6 with
    | some (.bool y58) => some (y58)
    | _ => none
  slots := [6]
  fits := fun _ => rfl
  ok := by
    intro t s h x hx
    (try dsimp only at h hx)
    split at h
    · cases h
      simp only [List.mem_cons, List.not_mem_nil, or_false] at hx
      rcases hx with rfl <;> assumption
    · cases h

def crierlaw02_RingMore_j1 (Q : Value → World → Prop) (b59 : Bool) (w60 : World) : Prop :=
 Q (.bool b59) w60

def crierlaw02_RingMore_j2 (Q : Value → World → Prop) (b5 : Nat) (b9 : Bool) (n14 : Int) (n20 : Int) (n47 : Int) (n53 : Int) (b56 : Bool) (w57 : World) : Prop :=
 cnd b56
 (Q (.bool false) w57)
 (JoinT (fun (J61 : crierlaw02_RingMore_J8191.S → World → Prop) =>
  cnd b9
  (cnd (n20 == 0)
  (cnd (n47 == 0)
  (cnd (n14 == 0)
  (ldI .i64 ⟨b5, 0, none⟩ w57 fun n62 =>
  ldI .i64 ⟨b5, 1, none⟩ w57 fun n63 =>
  nz n63 <|
  cnd (n53 == (IntKind.i64.wrap ((IntKind.i64.wrap (Int.tdiv n62 n63)) - 1)))
  (ldI .i64 ⟨b5, 0, none⟩ w57 fun n64 =>
  ldI .i64 ⟨b5, 1, none⟩ w57 fun n65 =>
  nz n65 <|
  J61 ((((IntKind.i64.wrap (n14 + n20)) == (IntKind.i64.wrap ((IntKind.i64.wrap (Int.tdiv n64 n65)) - 1))) : Bool)) w57)
  (cnd (decide (n14 > 0))
  (cnd (n53 == (IntKind.i64.wrap (n14 - 1)))
  (ldI .i64 ⟨b5, 0, none⟩ w57 fun n66 =>
  ldI .i64 ⟨b5, 1, none⟩ w57 fun n67 =>
  nz n67 <|
  J61 ((((IntKind.i64.wrap (n14 + n20)) == (IntKind.i64.wrap ((IntKind.i64.wrap (Int.tdiv n66 n67)) - 1))) : Bool)) w57)
  (J61 ((false : Bool)) w57))
  (J61 ((false : Bool)) w57)))
  (cnd (decide (n14 > 0))
  (cnd (n53 == (IntKind.i64.wrap (n14 - 1)))
  (ldI .i64 ⟨b5, 0, none⟩ w57 fun n68 =>
  ldI .i64 ⟨b5, 1, none⟩ w57 fun n69 =>
  nz n69 <|
  J61 ((((IntKind.i64.wrap (n14 + n20)) == (IntKind.i64.wrap ((IntKind.i64.wrap (Int.tdiv n68 n69)) - 1))) : Bool)) w57)
  (J61 ((false : Bool)) w57))
  (J61 ((false : Bool)) w57)))
  (cnd (!(n20 == 0))
  (cnd (n47 == (IntKind.i64.wrap (n14 + 1)))
  (cnd (n14 == 0)
  (ldI .i64 ⟨b5, 0, none⟩ w57 fun n70 =>
  ldI .i64 ⟨b5, 1, none⟩ w57 fun n71 =>
  nz n71 <|
  cnd (n53 == (IntKind.i64.wrap ((IntKind.i64.wrap (Int.tdiv n70 n71)) - 1)))
  (ldI .i64 ⟨b5, 0, none⟩ w57 fun n72 =>
  ldI .i64 ⟨b5, 1, none⟩ w57 fun n73 =>
  nz n73 <|
  J61 ((((IntKind.i64.wrap (n14 + n20)) == (IntKind.i64.wrap ((IntKind.i64.wrap (Int.tdiv n72 n73)) - 1))) : Bool)) w57)
  (cnd (decide (n14 > 0))
  (cnd (n53 == (IntKind.i64.wrap (n14 - 1)))
  (ldI .i64 ⟨b5, 0, none⟩ w57 fun n74 =>
  ldI .i64 ⟨b5, 1, none⟩ w57 fun n75 =>
  nz n75 <|
  J61 ((((IntKind.i64.wrap (n14 + n20)) == (IntKind.i64.wrap ((IntKind.i64.wrap (Int.tdiv n74 n75)) - 1))) : Bool)) w57)
  (J61 ((false : Bool)) w57))
  (J61 ((false : Bool)) w57)))
  (cnd (decide (n14 > 0))
  (cnd (n53 == (IntKind.i64.wrap (n14 - 1)))
  (ldI .i64 ⟨b5, 0, none⟩ w57 fun n76 =>
  ldI .i64 ⟨b5, 1, none⟩ w57 fun n77 =>
  nz n77 <|
  J61 ((((IntKind.i64.wrap (n14 + n20)) == (IntKind.i64.wrap ((IntKind.i64.wrap (Int.tdiv n76 n77)) - 1))) : Bool)) w57)
  (J61 ((false : Bool)) w57))
  (J61 ((false : Bool)) w57)))
  (J61 ((false : Bool)) w57))
  (J61 ((false : Bool)) w57)))
  (cnd (!(n20 == 0))
  (cnd (n47 == (IntKind.i64.wrap (n14 + 1)))
  (cnd (n14 == 0)
  (ldI .i64 ⟨b5, 0, none⟩ w57 fun n78 =>
  ldI .i64 ⟨b5, 1, none⟩ w57 fun n79 =>
  nz n79 <|
  cnd (n53 == (IntKind.i64.wrap ((IntKind.i64.wrap (Int.tdiv n78 n79)) - 1)))
  (ldI .i64 ⟨b5, 0, none⟩ w57 fun n80 =>
  ldI .i64 ⟨b5, 1, none⟩ w57 fun n81 =>
  nz n81 <|
  J61 ((((IntKind.i64.wrap (n14 + n20)) == (IntKind.i64.wrap ((IntKind.i64.wrap (Int.tdiv n80 n81)) - 1))) : Bool)) w57)
  (cnd (decide (n14 > 0))
  (cnd (n53 == (IntKind.i64.wrap (n14 - 1)))
  (ldI .i64 ⟨b5, 0, none⟩ w57 fun n82 =>
  ldI .i64 ⟨b5, 1, none⟩ w57 fun n83 =>
  nz n83 <|
  J61 ((((IntKind.i64.wrap (n14 + n20)) == (IntKind.i64.wrap ((IntKind.i64.wrap (Int.tdiv n82 n83)) - 1))) : Bool)) w57)
  (J61 ((false : Bool)) w57))
  (J61 ((false : Bool)) w57)))
  (cnd (decide (n14 > 0))
  (cnd (n53 == (IntKind.i64.wrap (n14 - 1)))
  (ldI .i64 ⟨b5, 0, none⟩ w57 fun n84 =>
  ldI .i64 ⟨b5, 1, none⟩ w57 fun n85 =>
  nz n85 <|
  J61 ((((IntKind.i64.wrap (n14 + n20)) == (IntKind.i64.wrap ((IntKind.i64.wrap (Int.tdiv n84 n85)) - 1))) : Bool)) w57)
  (J61 ((false : Bool)) w57))
  (J61 ((false : Bool)) w57)))
  (J61 ((false : Bool)) w57))
  (J61 ((false : Bool)) w57)))
  (J61 ((false : Bool)) w57))
  fun (s86 : crierlaw02_RingMore_J8191.S) w87 => crierlaw02_RingMore_j1 Q s86 w87)

def crierlaw02_RingMore_j3 (a1 : Int) (a2 : Int) (Q : Value → World → Prop) (b5 : Nat) (b9 : Bool) (n14 : Int) (n15 : Int) (n20 : Int) (n21 : Int) (b23 : Bool) (w24 : World) : Prop :=
 cnd b23
 (JoinT (fun (J28 : crierlaw02_RingMore_J506.S → World → Prop) =>
  cnd b9
  (J28 (((n15 == n21) : Bool)) w24)
  (J28 ((false : Bool)) w24))
  fun (s29 : crierlaw02_RingMore_J506.S) w30 => crierlaw02_RingMore_j0 Q s29 w30)
 (ldI .i64 ⟨b5, 0, none⟩ w24 fun n31 =>
 ldI .i64 ⟨b5, 1, none⟩ w24 fun n32 =>
 CV P F.ring_Ring_Next [.agg [.int .i64 n31, .int .i64 n32].toArray, .int .i64 a2] w24 fun v33 w34 =>
 ∃ n35 : Int, ∃ n36 : Int, v33 = .tuple [.int .i64 n35, .int .i64 n36].toArray ∧
 ldI .i64 ⟨b5, 0, none⟩ w34 fun n37 =>
 ldI .i64 ⟨b5, 1, none⟩ w34 fun n38 =>
 CV P F.ring_Ring_Next [.agg [.int .i64 n37, .int .i64 n38].toArray, .int .i64 a1] w34 fun v39 w40 =>
 ∃ n41 : Int, ∃ n42 : Int, v39 = .tuple [.int .i64 n41, .int .i64 n42].toArray ∧
 ldI .i64 ⟨b5, 0, none⟩ w40 fun n43 =>
 ldI .i64 ⟨b5, 1, none⟩ w40 fun n44 =>
 CV P F.ring_Ring_Left [.agg [.int .i64 n43, .int .i64 n44].toArray, .int .i64 a1, .int .i64 n35] w40 fun v45 w46 =>
 ∃ n47 : Int, ∃ n48 : Int, v45 = .tuple [.int .i64 n47, .int .i64 n48].toArray ∧
 ldI .i64 ⟨b5, 0, none⟩ w46 fun n49 =>
 ldI .i64 ⟨b5, 1, none⟩ w46 fun n50 =>
 CV P F.ring_Ring_Left [.agg [.int .i64 n49, .int .i64 n50].toArray, .int .i64 n41, .int .i64 a2] w46 fun v51 w52 =>
 ∃ n53 : Int, ∃ n54 : Int, v51 = .tuple [.int .i64 n53, .int .i64 n54].toArray ∧
 JoinT (fun (J88 : crierlaw02_RingMore_J4094.S → World → Prop) =>
  cnd (n48 != 0)
  (J88 ((true : Bool)) w52)
  (J88 (((n54 != 0) : Bool)) w52))
  fun (s89 : crierlaw02_RingMore_J4094.S) w90 => crierlaw02_RingMore_j2 Q b5 b9 n14 n20 n47 n53 s89 w90)

def crierlaw02_RingMore (a0_0 : Int) (a0_1 : Int) (a1 : Int) (a2 : Int) (w : World) (Q : Value → World → Prop) : Prop :=
 alc [.int .i64 a0_0, .int .i64 a0_1] T.t23 w fun b5 w6 =>
 CV P F.crierlaw02_awake [] w6 fun v7 w8 =>
 ∃ b9 : Bool, v7 = .bool b9 ∧
 cnd (!b9)
 (Q (.bool false) w8)
 (ldI .i64 ⟨b5, 0, none⟩ w8 fun n10 =>
 ldI .i64 ⟨b5, 1, none⟩ w8 fun n11 =>
 CV P F.ring_Ring_Left [.agg [.int .i64 n10, .int .i64 n11].toArray, .int .i64 a1, .int .i64 a2] w8 fun v12 w13 =>
 ∃ n14 : Int, ∃ n15 : Int, v12 = .tuple [.int .i64 n14, .int .i64 n15].toArray ∧
 ldI .i64 ⟨b5, 0, none⟩ w13 fun n16 =>
 ldI .i64 ⟨b5, 1, none⟩ w13 fun n17 =>
 CV P F.ring_Ring_Room [.agg [.int .i64 n16, .int .i64 n17].toArray, .int .i64 a1, .int .i64 a2] w13 fun v18 w19 =>
 ∃ n20 : Int, ∃ n21 : Int, v18 = .tuple [.int .i64 n20, .int .i64 n21].toArray ∧
 JoinT (fun (J91 : crierlaw02_RingMore_J126.S → World → Prop) =>
  cnd (n15 != 0)
  (J91 ((true : Bool)) w19)
  (J91 (((n21 != 0) : Bool)) w19))
  fun (s92 : crierlaw02_RingMore_J126.S) w93 => crierlaw02_RingMore_j3 a1 a2 Q b5 b9 n14 n15 n20 n21 s92 w93)
def crierlaw02_RingMore_ann : Nat → Option LoopSpec := fun
  | 126 => some crierlaw02_RingMore_J126
  | 506 => some crierlaw02_RingMore_J506
  | 4094 => some crierlaw02_RingMore_J4094
  | 8191 => some crierlaw02_RingMore_J8191
  | _ => none
theorem crierlaw02_RingMore_eq (a0_0 : Int) (a0_1 : Int) (a1 : Int) (a2 : Int) (w : World) (Q : Value → World → Prop) : fnX P crierlaw02_RingMore_ann Try.f4 [.agg [.int .i64 a0_0, .int .i64 a0_1].toArray, .int .i64 a1, .int .i64 a2] w Q = crierlaw02_RingMore a0_0 a0_1 a1 a2 w Q := by kernel_rfl
theorem crierlaw02_RingMore_cv {a0_0 : Int} {a0_1 : Int} {a1 : Int} {a2 : Int} {w : World} {Q : Value → World → Prop} (h : crierlaw02_RingMore a0_0 a0_1 a1 a2 w Q) : CV P F.crierlaw02_RingMore [.agg [.int .i64 a0_0, .int .i64 a0_1].toArray, .int .i64 a1, .int .i64 a2] w Q := CV_of mixed Try.func4 (crierlaw02_RingMore_eq a0_0 a0_1 a1 a2 w Q ▸ h)

/- 5 crier/crierlaw02.RingOnce -/
def crierlaw02_RingOnce_L250 : LoopSpec where
  S := Int
  emb := fun s => [(9, .int .i64 s)]
  ext := fun t => match getL t 9 with
    | some (.int .i64 y17) => some (y17)
    | _ => none
  slots := [9]
  fits := fun _ => rfl
  ok := by
    intro t s h x hx
    (try dsimp only at h hx)
    split at h
    · cases h
      simp only [List.mem_cons, List.not_mem_nil, or_false] at hx
      rcases hx with rfl <;> assumption
    · cases h

def crierlaw02_RingOnce_J4004 : LoopSpec where
  S := Bool
  emb := fun s => [(58, .bool s)]
  ext := fun t => match getL t 58 with
    | some (.bool y21) => some (y21)
    | _ => none
  slots := [58]
  fits := fun _ => rfl
  ok := by
    intro t s h x hx
    (try dsimp only at h hx)
    split at h
    · cases h
      simp only [List.mem_cons, List.not_mem_nil, or_false] at hx
      rcases hx with rfl <;> assumption
    · cases h

def crierlaw02_RingOnce_j0 (Q : Value → World → Prop) (n18 : Int) (A20 : crierlaw02_RingOnce_L250.S → World → Prop) (b22 : Bool) (w23 : World) : Prop :=
 cnd b22
 (Q (.bool false) w23)
 (A20 (((IntKind.i64.wrap (n18 + 1)) : Int)) w23)

def crierlaw02_RingOnce_J63 : LoopSpec where
  S := Bool
  emb := fun s => [(6, .bool s)]
  ext := fun t => match getL t 6 with
    | some (.bool y56) => some (y56)
    | _ => none
  slots := [6]
  fits := fun _ => rfl
  ok := by
    intro t s h x hx
    (try dsimp only at h hx)
    split at h
    · cases h
      simp only [List.mem_cons, List.not_mem_nil, or_false] at hx
      rcases hx with rfl <;> assumption
    · cases h

def crierlaw02_RingOnce_j1 (Q : Value → World → Prop) (b57 : Bool) (w58 : World) : Prop :=
 Q (.bool b57) w58

def crierlaw02_RingOnce_l2 (a1 : Int) (a2 : Int) (Q : Value → World → Prop) (b5 : Nat) (b9 : Bool) (p14 : Option Addr) (l15 : Nat) (c16 : Nat) (n18 : Int) (w19 : World) (A20 : crierlaw02_RingOnce_L250.S → World → Prop) : Prop :=
 cnd (decide (n18 < ((l15 : Nat) : Int)))
 (JoinT (fun (J24 : crierlaw02_RingOnce_J4004.S → World → Prop) =>
  drw w19 fun w25 =>
  ldI .i64 ⟨b5, 0, none⟩ w25 fun n26 =>
  ldI .i64 ⟨b5, 1, none⟩ w25 fun n27 =>
  ix n18 l15 fun j28 => nn p14 fun a29 =>
  ldI .i64 (a29.add (j28 * 1)) w25 fun n30 =>
  CV P F.ring_Ring_May [.agg [.int .i64 n26, .int .i64 n27].toArray, .int .i64 n30] w25 fun v31 w32 =>
  ∃ b33 : Bool, v31 = .bool b33 ∧
  cnd (!b33)
  (J24 ((true : Bool)) w32)
  (ix n18 l15 fun j34 => nn p14 fun a35 =>
  ldI .i64 (a35.add (j34 * 1)) w32 fun n36 =>
  cnd (n36 == a2)
  (J24 ((true : Bool)) w32)
  (slL p14 l15 c16 1 none (some n18) none fun p37 l38 c39 =>
  ix n18 l15 fun j40 => nn p14 fun a41 =>
  ldI .i64 (a41.add (j40 * 1)) w32 fun n42 =>
  CV P F.crierref01_Has [.slice p37 l38 c39, .int .i64 n42] w32 fun v43 w44 =>
  ∃ b45 : Bool, v43 = .bool b45 ∧
  cnd b45
  (J24 ((true : Bool)) w44)
  (ldI .i64 ⟨b5, 0, none⟩ w44 fun n46 =>
  ldI .i64 ⟨b5, 1, none⟩ w44 fun n47 =>
  ix n18 l15 fun j48 => nn p14 fun a49 =>
  ldI .i64 (a49.add (j48 * 1)) w44 fun n50 =>
  CV P F.ring_Ring_Waits [.agg [.int .i64 n46, .int .i64 n47].toArray, .int .i64 a1, .int .i64 a2, .int .i64 n50] w44 fun v51 w52 =>
  ∃ b53 : Bool, v51 = .bool b53 ∧
  J24 (((!b53) : Bool)) w52))))
  fun (s54 : crierlaw02_RingOnce_J4004.S) w55 => crierlaw02_RingOnce_j0 Q n18 A20 s54 w55)
 (JoinT (fun (J59 : crierlaw02_RingOnce_J63.S → World → Prop) =>
  cnd b9
  (cnd (((l15 : Nat) : Int) == 0)
  (J59 ((true : Bool)) w19)
  (ix 0 l15 fun j60 => nn p14 fun a61 =>
  ldI .i64 (a61.add (j60 * 1)) w19 fun n62 =>
  J59 (((n62 == a1) : Bool)) w19))
  (J59 ((false : Bool)) w19))
  fun (s63 : crierlaw02_RingOnce_J63.S) w64 => crierlaw02_RingOnce_j1 Q s63 w64)

def crierlaw02_RingOnce (a0_0 : Int) (a0_1 : Int) (a1 : Int) (a2 : Int) (w : World) (Q : Value → World → Prop) : Prop :=
 alc [.int .i64 a0_0, .int .i64 a0_1] T.t23 w fun b5 w6 =>
 CV P F.crierlaw02_awake [] w6 fun v7 w8 =>
 ∃ b9 : Bool, v7 = .bool b9 ∧
 cnd (!b9)
 (Q (.bool false) w8)
 (ldI .i64 ⟨b5, 0, none⟩ w8 fun n10 =>
 ldI .i64 ⟨b5, 1, none⟩ w8 fun n11 =>
 CV P F.crierlaw02_Each [.agg [.int .i64 n10, .int .i64 n11].toArray, .int .i64 a1, .int .i64 a2] w8 fun v12 w13 =>
 ∃ (p14 : Option Addr) (l15 c16 : Nat), v12 = .slice p14 l15 c16 ∧
 LoopT (fun (s65 : crierlaw02_RingOnce_L250.S) w66 A67 => crierlaw02_RingOnce_l2 a1 a2 Q b5 b9 p14 l15 c16 s65 w66 A67) ((0 : Int)) w13)
def crierlaw02_RingOnce_ann : Nat → Option LoopSpec := fun
  | 250 => some crierlaw02_RingOnce_L250
  | 4004 => some crierlaw02_RingOnce_J4004
  | 8008 => some (ordSpec [0, 1, 2, 3, 4, 5, 6, 7, 8, 9, 10, 11, 12, 13, 14, 15, 16, 17, 18, 19, 20, 21, 22, 23, 24, 25, 26, 27, 28, 29, 30, 31, 32, 33, 34, 35])
  | 63 => some crierlaw02_RingOnce_J63
  | _ => none
theorem crierlaw02_RingOnce_eq (a0_0 : Int) (a0_1 : Int) (a1 : Int) (a2 : Int) (w : World) (Q : Value → World → Prop) : fnX P crierlaw02_RingOnce_ann Try.f5 [.agg [.int .i64 a0_0, .int .i64 a0_1].toArray, .int .i64 a1, .int .i64 a2] w Q = crierlaw02_RingOnce a0_0 a0_1 a1 a2 w Q := by kernel_rfl
theorem crierlaw02_RingOnce_cv {a0_0 : Int} {a0_1 : Int} {a1 : Int} {a2 : Int} {w : World} {Q : Value → World → Prop} (h : crierlaw02_RingOnce a0_0 a0_1 a1 a2 w Q) : CV P F.crierlaw02_RingOnce [.agg [.int .i64 a0_0, .int .i64 a0_1].toArray, .int .i64 a1, .int .i64 a2] w Q := CV_of mixed Try.func5 (crierlaw02_RingOnce_eq a0_0 a0_1 a1 a2 w Q ▸ h)

/- 6 crier/crierlaw02.RingIndex -/
def crierlaw02_RingIndex_J31 : LoopSpec where
  S := Unit
  emb := fun _ => []
  ext := fun _ => some ()
  slots := []
  fits := fun _ => rfl
  ok := by
    intro t s h x hx; cases hx

def crierlaw02_RingIndex_J1018 : LoopSpec where
  S := Bool
  emb := fun s => [(6, .bool s)]
  ext := fun t => match getL t 6 with
    | some (.bool y23) => some (y23)
    | _ => none
  slots := [6]
  fits := fun _ => rfl
  ok := by
    intro t s h x hx
    (try dsimp only at h hx)
    split at h
    · cases h
      simp only [List.mem_cons, List.not_mem_nil, or_false] at hx
      rcases hx with rfl <;> assumption
    · cases h

def crierlaw02_RingIndex_j0 (Q : Value → World → Prop) (b24 : Bool) (w25 : World) : Prop :=
 Q (.bool b24) w25

def crierlaw02_RingIndex_J511 : LoopSpec where
  S := Bool
  emb := fun s => [(6, .bool s)]
  ext := fun t => match getL t 6 with
    | some (.bool y35) => some (y35)
    | _ => none
  slots := [6]
  fits := fun _ => rfl
  ok := by
    intro t s h x hx
    (try dsimp only at h hx)
    split at h
    · cases h
      simp only [List.mem_cons, List.not_mem_nil, or_false] at hx
      rcases hx with rfl <;> assumption
    · cases h

def crierlaw02_RingIndex_j1 (Q : Value → World → Prop) (b36 : Bool) (w37 : World) : Prop :=
 Q (.bool b36) w37

def crierlaw02_RingIndex_j2 (a2 : Int) (Q : Value → World → Prop) (b5 : Nat) (b9 : Bool) (w16 : World) : Prop :=
 ldI .i64 ⟨b5, 0, none⟩ w16 fun n17 =>
 ldI .i64 ⟨b5, 1, none⟩ w16 fun n18 =>
 CV P F.ring_Ring_Place [.agg [.int .i64 n17, .int .i64 n18].toArray, .int .i64 a2] w16 fun v19 w20 =>
 ∃ n21 : Int, ∃ n22 : Int, v19 = .tuple [.int .i64 n21, .int .i64 n22].toArray ∧
 cnd (n22 != 0)
 (JoinT (fun (J26 : crierlaw02_RingIndex_J1018.S → World → Prop) =>
  cnd b9
  (J26 (((n21 == 0) : Bool)) w20)
  (J26 ((false : Bool)) w20))
  fun (s27 : crierlaw02_RingIndex_J1018.S) w28 => crierlaw02_RingIndex_j0 Q s27 w28)
 (ldI .i64 ⟨b5, 0, none⟩ w20 fun n29 =>
 ldI .i64 ⟨b5, 1, none⟩ w20 fun n30 =>
 CV P F.ring_Ring_Index [.agg [.int .i64 n29, .int .i64 n30].toArray, .int .i64 n21] w20 fun v31 w32 =>
 ∃ n33 : Int, ∃ n34 : Int, v31 = .tuple [.int .i64 n33, .int .i64 n34].toArray ∧
 JoinT (fun (J38 : crierlaw02_RingIndex_J511.S → World → Prop) =>
  cnd b9
  (cnd (n34 == 0)
  (cnd (n33 == a2)
  (ldI .i64 ⟨b5, 0, none⟩ w32 fun n39 =>
  ldI .i64 ⟨b5, 1, none⟩ w32 fun n40 =>
  CV P F.ring_Ring_May [.agg [.int .i64 n39, .int .i64 n40].toArray, .int .i64 n21] w32 fun v41 w42 =>
  ∃ b43 : Bool, v41 = .bool b43 ∧
  J38 ((b43 : Bool)) w42)
  (J38 ((false : Bool)) w32))
  (J38 ((false : Bool)) w32))
  (J38 ((false : Bool)) w32))
  fun (s44 : crierlaw02_RingIndex_J511.S) w45 => crierlaw02_RingIndex_j1 Q s44 w45)

def crierlaw02_RingIndex_J501 : LoopSpec where
  S := Bool
  emb := fun s => [(39, .bool s)]
  ext := fun t => match getL t 39 with
    | some (.bool y53) => some (y53)
    | _ => none
  slots := [39]
  fits := fun _ => rfl
  ok := by
    intro t s h x hx
    (try dsimp only at h hx)
    split at h
    · cases h
      simp only [List.mem_cons, List.not_mem_nil, or_false] at hx
      rcases hx with rfl <;> assumption
    · cases h

def crierlaw02_RingIndex_j3 (Q : Value → World → Prop) (J46 : crierlaw02_RingIndex_J31.S → World → Prop) (b54 : Bool) (w55 : World) : Prop :=
 cnd b54
 (Q (.bool false) w55)
 (J46 () w55)

def crierlaw02_RingIndex (a0_0 : Int) (a0_1 : Int) (a1 : Int) (a2 : Int) (w : World) (Q : Value → World → Prop) : Prop :=
 alc [.int .i64 a0_0, .int .i64 a0_1] T.t23 w fun b5 w6 =>
 CV P F.crierlaw02_awake [] w6 fun v7 w8 =>
 ∃ b9 : Bool, v7 = .bool b9 ∧
 cnd (!b9)
 (Q (.bool false) w8)
 (ldI .i64 ⟨b5, 0, none⟩ w8 fun n10 =>
 ldI .i64 ⟨b5, 1, none⟩ w8 fun n11 =>
 CV P F.ring_Ring_Index [.agg [.int .i64 n10, .int .i64 n11].toArray, .int .i64 a1] w8 fun v12 w13 =>
 ∃ n14 : Int, ∃ n15 : Int, v12 = .tuple [.int .i64 n14, .int .i64 n15].toArray ∧
 JoinT (fun (J46 : crierlaw02_RingIndex_J31.S → World → Prop) =>
  cnd (n15 == 0)
  (ldI .i64 ⟨b5, 0, none⟩ w13 fun n47 =>
  ldI .i64 ⟨b5, 1, none⟩ w13 fun n48 =>
  CV P F.ring_Ring_Place [.agg [.int .i64 n47, .int .i64 n48].toArray, .int .i64 n14] w13 fun v49 w50 =>
  ∃ n51 : Int, ∃ n52 : Int, v49 = .tuple [.int .i64 n51, .int .i64 n52].toArray ∧
  JoinT (fun (J56 : crierlaw02_RingIndex_J501.S → World → Prop) =>
   cnd (n52 != 0)
   (J56 ((true : Bool)) w50)
   (J56 (((n51 != a1) : Bool)) w50))
   fun (s57 : crierlaw02_RingIndex_J501.S) w58 => crierlaw02_RingIndex_j3 Q J46 s57 w58)
  (J46 () w13))
  fun (s59 : crierlaw02_RingIndex_J31.S) w60 => crierlaw02_RingIndex_j2 a2 Q b5 b9 w60)
def crierlaw02_RingIndex_ann : Nat → Option LoopSpec := fun
  | 31 => some crierlaw02_RingIndex_J31
  | 1018 => some crierlaw02_RingIndex_J1018
  | 511 => some crierlaw02_RingIndex_J511
  | 501 => some crierlaw02_RingIndex_J501
  | _ => none
theorem crierlaw02_RingIndex_eq (a0_0 : Int) (a0_1 : Int) (a1 : Int) (a2 : Int) (w : World) (Q : Value → World → Prop) : fnX P crierlaw02_RingIndex_ann Try.f6 [.agg [.int .i64 a0_0, .int .i64 a0_1].toArray, .int .i64 a1, .int .i64 a2] w Q = crierlaw02_RingIndex a0_0 a0_1 a1 a2 w Q := by kernel_rfl
theorem crierlaw02_RingIndex_cv {a0_0 : Int} {a0_1 : Int} {a1 : Int} {a2 : Int} {w : World} {Q : Value → World → Prop} (h : crierlaw02_RingIndex a0_0 a0_1 a1 a2 w Q) : CV P F.crierlaw02_RingIndex [.agg [.int .i64 a0_0, .int .i64 a0_1].toArray, .int .i64 a1, .int .i64 a2] w Q := CV_of mixed Try.func6 (crierlaw02_RingIndex_eq a0_0 a0_1 a1 a2 w Q ▸ h)

/- 7 crier/crierlaw02.RingPlaces -/
def crierlaw02_RingPlaces_J126 : LoopSpec where
  S := Bool
  emb := fun s => [(55, .bool s)]
  ext := fun t => match getL t 55 with
    | some (.bool y20) => some (y20)
    | _ => none
  slots := [55]
  fits := fun _ => rfl
  ok := by
    intro t s h x hx
    (try dsimp only at h hx)
    split at h
    · cases h
      simp only [List.mem_cons, List.not_mem_nil, or_false] at hx
      rcases hx with rfl <;> assumption
    · cases h

def crierlaw02_RingPlaces_J255 : LoopSpec where
  S := Unit
  emb := fun _ => []
  ext := fun _ => some ()
  slots := []
  fits := fun _ => rfl
  ok := by
    intro t s h x hx; cases hx

def crierlaw02_RingPlaces_J32762 : LoopSpec where
  S := Bool
  emb := fun s => [(6, .bool s)]
  ext := fun t => match getL t 6 with
    | some (.bool y48) => some (y48)
    | _ => none
  slots := [6]
  fits := fun _ => rfl
  ok := by
    intro t s h x hx
    (try dsimp only at h hx)
    split at h
    · cases h
      simp only [List.mem_cons, List.not_mem_nil, or_false] at hx
      rcases hx with rfl <;> assumption
    · cases h

def crierlaw02_RingPlaces_j0 (Q : Value → World → Prop) (b49 : Bool) (w50 : World) : Prop :=
 Q (.bool b49) w50

def crierlaw02_RingPlaces_J16383 : LoopSpec where
  S := Bool
  emb := fun s => [(6, .bool s)]
  ext := fun t => match getL t 6 with
    | some (.bool y56) => some (y56)
    | _ => none
  slots := [6]
  fits := fun _ => rfl
  ok := by
    intro t s h x hx
    (try dsimp only at h hx)
    split at h
    · cases h
      simp only [List.mem_cons, List.not_mem_nil, or_false] at hx
      rcases hx with rfl <;> assumption
    · cases h

def crierlaw02_RingPlaces_j1 (Q : Value → World → Prop) (b57 : Bool) (w58 : World) : Prop :=
 Q (.bool b57) w58

def crierlaw02_RingPlaces_j2 (a1 : Int) (Q : Value → World → Prop) (b5 : Nat) (b9 : Bool) (n19 : Int) (w29 : World) : Prop :=
 ldI .i64 ⟨b5, 0, none⟩ w29 fun n30 =>
 ldI .i64 ⟨b5, 1, none⟩ w29 fun n31 =>
 CV P F.ring_Ring_Next [.agg [.int .i64 n30, .int .i64 n31].toArray, .int .i64 a1] w29 fun v32 w33 =>
 ∃ n34 : Int, ∃ n35 : Int, v32 = .tuple [.int .i64 n34, .int .i64 n35].toArray ∧
 ldI .i64 ⟨b5, 0, none⟩ w33 fun n36 =>
 ldI .i64 ⟨b5, 1, none⟩ w33 fun n37 =>
 CV P F.ring_Ring_Ahead [.agg [.int .i64 n36, .int .i64 n37].toArray, .int .i64 a1] w33 fun v38 w39 =>
 ∃ n40 : Int, ∃ n41 : Int, v38 = .tuple [.int .i64 n40, .int .i64 n41].toArray ∧
 ldI .i64 ⟨b5, 0, none⟩ w39 fun n42 =>
 ldI .i64 ⟨b5, 1, none⟩ w39 fun n43 =>
 CV P F.ring_Ring_Index [.agg [.int .i64 n42, .int .i64 n43].toArray, .int .i64 a1] w39 fun v44 w45 =>
 ∃ n46 : Int, ∃ n47 : Int, v44 = .tuple [.int .i64 n46, .int .i64 n47].toArray ∧
 cnd (decide (n19 < 0))
 (JoinT (fun (J51 : crierlaw02_RingPlaces_J32762.S → World → Prop) =>
  cnd b9
  (cnd (n35 == 1)
  (cnd (n41 == n35)
  (cnd (n47 == n35)
  (cnd (n34 == 0)
  (cnd (n40 == 0)
  (J51 (((n46 == 0) : Bool)) w45)
  (J51 ((false : Bool)) w45))
  (J51 ((false : Bool)) w45))
  (J51 ((false : Bool)) w45))
  (J51 ((false : Bool)) w45))
  (J51 ((false : Bool)) w45))
  (J51 ((false : Bool)) w45))
  fun (s52 : crierlaw02_RingPlaces_J32762.S) w53 => crierlaw02_RingPlaces_j0 Q s52 w53)
 (ldI .i64 ⟨b5, 0, none⟩ w45 fun n54 =>
 ldI .i64 ⟨b5, 1, none⟩ w45 fun n55 =>
 nz n55 <|
 JoinT (fun (J59 : crierlaw02_RingPlaces_J16383.S → World → Prop) =>
  drw w45 fun w60 =>
  cnd b9
  (cnd (n35 == 0)
  (cnd (n41 == n35)
  (cnd (n47 == n35)
  (nz (IntKind.i64.wrap (Int.tdiv n54 n55)) <|
  ldI .i64 ⟨b5, 1, none⟩ w60 fun n61 =>
  cnd (n34 == (IntKind.i64.wrap ((Int.tmod (IntKind.i64.wrap (n19 + 1)) (IntKind.i64.wrap (Int.tdiv n54 n55))) * n61)))
  (nz (IntKind.i64.wrap (Int.tdiv n54 n55)) <|
  ldI .i64 ⟨b5, 1, none⟩ w60 fun n62 =>
  cnd (n40 == (IntKind.i64.wrap ((Int.tmod (IntKind.i64.wrap ((IntKind.i64.wrap (n19 + (IntKind.i64.wrap (Int.tdiv n54 n55)))) - 1)) (IntKind.i64.wrap (Int.tdiv n54 n55))) * n62)))
  (J59 (((n46 == n19) : Bool)) w60)
  (J59 ((false : Bool)) w60))
  (J59 ((false : Bool)) w60))
  (J59 ((false : Bool)) w60))
  (J59 ((false : Bool)) w60))
  (J59 ((false : Bool)) w60))
  (J59 ((false : Bool)) w60))
  fun (s63 : crierlaw02_RingPlaces_J16383.S) w64 => crierlaw02_RingPlaces_j1 Q s63 w64)

def crierlaw02_RingPlaces_J510 : LoopSpec where
  S := Bool
  emb := fun s => [(75, .bool s)]
  ext := fun t => match getL t 75 with
    | some (.bool y66) => some (y66)
    | _ => none
  slots := [75]
  fits := fun _ => rfl
  ok := by
    intro t s h x hx
    (try dsimp only at h hx)
    split at h
    · cases h
      simp only [List.mem_cons, List.not_mem_nil, or_false] at hx
      rcases hx with rfl <;> assumption
    · cases h

def crierlaw02_RingPlaces_J2042 : LoopSpec where
  S := Bool
  emb := fun s => [(85, .bool s)]
  ext := fun t => match getL t 85 with
    | some (.bool y69) => some (y69)
    | _ => none
  slots := [85]
  fits := fun _ => rfl
  ok := by
    intro t s h x hx
    (try dsimp only at h hx)
    split at h
    · cases h
      simp only [List.mem_cons, List.not_mem_nil, or_false] at hx
      rcases hx with rfl <;> assumption
    · cases h

def crierlaw02_RingPlaces_j3 (Q : Value → World → Prop) (J65 : crierlaw02_RingPlaces_J255.S → World → Prop) (b70 : Bool) (w71 : World) : Prop :=
 cnd b70
 (Q (.bool false) w71)
 (J65 () w71)

def crierlaw02_RingPlaces_J2043 : LoopSpec where
  S := Bool
  emb := fun s => [(91, .bool s)]
  ext := fun t => match getL t 91 with
    | some (.bool y76) => some (y76)
    | _ => none
  slots := [91]
  fits := fun _ => rfl
  ok := by
    intro t s h x hx
    (try dsimp only at h hx)
    split at h
    · cases h
      simp only [List.mem_cons, List.not_mem_nil, or_false] at hx
      rcases hx with rfl <;> assumption
    · cases h

def crierlaw02_RingPlaces_j4 (Q : Value → World → Prop) (J65 : crierlaw02_RingPlaces_J255.S → World → Prop) (b77 : Bool) (w78 : World) : Prop :=
 cnd b77
 (Q (.bool false) w78)
 (J65 () w78)

def crierlaw02_RingPlaces_j5 (a2 : Int) (Q : Value → World → Prop) (b5 : Nat) (n27 : Int) (n28 : Int) (J65 : crierlaw02_RingPlaces_J255.S → World → Prop) (b67 : Bool) (w68 : World) : Prop :=
 cnd b67
 (JoinT (fun (J72 : crierlaw02_RingPlaces_J2042.S → World → Prop) =>
  cnd (n28 != 0)
  (J72 ((true : Bool)) w68)
  (ldI .i64 ⟨b5, 1, none⟩ w68 fun n73 =>
  J72 (((n27 != (IntKind.i64.wrap (a2 * n73))) : Bool)) w68))
  fun (s74 : crierlaw02_RingPlaces_J2042.S) w75 => crierlaw02_RingPlaces_j3 Q J65 s74 w75)
 (JoinT (fun (J79 : crierlaw02_RingPlaces_J2043.S → World → Prop) =>
  cnd (n28 != 1)
  (J79 ((true : Bool)) w68)
  (J79 (((n27 != 0) : Bool)) w68))
  fun (s80 : crierlaw02_RingPlaces_J2043.S) w81 => crierlaw02_RingPlaces_j4 Q J65 s80 w81)

def crierlaw02_RingPlaces_j6 (a1 : Int) (a2 : Int) (Q : Value → World → Prop) (b5 : Nat) (b9 : Bool) (b14 : Bool) (n19 : Int) (b21 : Bool) (w22 : World) : Prop :=
 cnd b21
 (Q (.bool false) w22)
 (ldI .i64 ⟨b5, 0, none⟩ w22 fun n23 =>
 ldI .i64 ⟨b5, 1, none⟩ w22 fun n24 =>
 CV P F.ring_Ring_Place [.agg [.int .i64 n23, .int .i64 n24].toArray, .int .i64 a2] w22 fun v25 w26 =>
 ∃ n27 : Int, ∃ n28 : Int, v25 = .tuple [.int .i64 n27, .int .i64 n28].toArray ∧
 JoinT (fun (J65 : crierlaw02_RingPlaces_J255.S → World → Prop) =>
  JoinT (fun (J82 : crierlaw02_RingPlaces_J510.S → World → Prop) =>
   cnd b14
   (cnd (decide (a2 ≥ 0))
   (ldI .i64 ⟨b5, 0, none⟩ w26 fun n83 =>
   ldI .i64 ⟨b5, 1, none⟩ w26 fun n84 =>
   nz n84 <|
   J82 (((decide (a2 < (IntKind.i64.wrap (Int.tdiv n83 n84)))) : Bool)) w26)
   (J82 ((false : Bool)) w26))
   (J82 ((false : Bool)) w26))
   fun (s85 : crierlaw02_RingPlaces_J510.S) w86 => crierlaw02_RingPlaces_j5 a2 Q b5 n27 n28 J65 s85 w86)
  fun (s87 : crierlaw02_RingPlaces_J255.S) w88 => crierlaw02_RingPlaces_j2 a1 Q b5 b9 n19 w88)

def crierlaw02_RingPlaces (a0_0 : Int) (a0_1 : Int) (a1 : Int) (a2 : Int) (w : World) (Q : Value → World → Prop) : Prop :=
 alc [.int .i64 a0_0, .int .i64 a0_1] T.t23 w fun b5 w6 =>
 CV P F.crierlaw02_awake [] w6 fun v7 w8 =>
 ∃ b9 : Bool, v7 = .bool b9 ∧
 cnd (!b9)
 (Q (.bool false) w8)
 (ldI .i64 ⟨b5, 0, none⟩ w8 fun n10 =>
 ldI .i64 ⟨b5, 1, none⟩ w8 fun n11 =>
 CV P F.crierref02_Right [.int .i64 n10, .int .i64 n11] w8 fun v12 w13 =>
 ∃ b14 : Bool, v12 = .bool b14 ∧
 ldI .i64 ⟨b5, 0, none⟩ w13 fun n15 =>
 ldI .i64 ⟨b5, 1, none⟩ w13 fun n16 =>
 CV P F.crierref02_Index [.int .i64 n15, .int .i64 n16, .int .i64 a1] w13 fun v17 w18 =>
 ∃ n19 : Int, v17 = .int .i64 n19 ∧
 JoinT (fun (J89 : crierlaw02_RingPlaces_J126.S → World → Prop) =>
  ldI .i64 ⟨b5, 0, none⟩ w18 fun n90 =>
  ldI .i64 ⟨b5, 1, none⟩ w18 fun n91 =>
  CV P F.ring_Ring_Right [.agg [.int .i64 n90, .int .i64 n91].toArray] w18 fun v92 w93 =>
  ∃ n94 : Int, v92 = .int .i64 n94 ∧
  cnd (!((n94 == 0) == b14))
  (J89 ((true : Bool)) w93)
  (ldI .i64 ⟨b5, 0, none⟩ w93 fun n95 =>
  ldI .i64 ⟨b5, 1, none⟩ w93 fun n96 =>
  CV P F.ring_Ring_Right [.agg [.int .i64 n95, .int .i64 n96].toArray] w93 fun v97 w98 =>
  ∃ n99 : Int, v97 = .int .i64 n99 ∧
  cnd (n99 != 0)
  (ldI .i64 ⟨b5, 0, none⟩ w98 fun n100 =>
  ldI .i64 ⟨b5, 1, none⟩ w98 fun n101 =>
  CV P F.ring_Ring_Right [.agg [.int .i64 n100, .int .i64 n101].toArray] w98 fun v102 w103 =>
  ∃ n104 : Int, v102 = .int .i64 n104 ∧
  cnd (n104 != 1)
  (J89 ((true : Bool)) w103)
  (ldI .i64 ⟨b5, 0, none⟩ w103 fun n105 =>
  ldI .i64 ⟨b5, 1, none⟩ w103 fun n106 =>
  CV P F.ring_Ring_May [.agg [.int .i64 n105, .int .i64 n106].toArray, .int .i64 a1] w103 fun v107 w108 =>
  ∃ b109 : Bool, v107 = .bool b109 ∧
  J89 (((!(b109 == (decide (n19 ≥ 0)))) : Bool)) w108))
  (ldI .i64 ⟨b5, 0, none⟩ w98 fun n110 =>
  ldI .i64 ⟨b5, 1, none⟩ w98 fun n111 =>
  CV P F.ring_Ring_May [.agg [.int .i64 n110, .int .i64 n111].toArray, .int .i64 a1] w98 fun v112 w113 =>
  ∃ b114 : Bool, v112 = .bool b114 ∧
  J89 (((!(b114 == (decide (n19 ≥ 0)))) : Bool)) w113)))
  fun (s115 : crierlaw02_RingPlaces_J126.S) w116 => crierlaw02_RingPlaces_j6 a1 a2 Q b5 b9 b14 n19 s115 w116)
def crierlaw02_RingPlaces_ann : Nat → Option LoopSpec := fun
  | 126 => some crierlaw02_RingPlaces_J126
  | 255 => some crierlaw02_RingPlaces_J255
  | 32762 => some crierlaw02_RingPlaces_J32762
  | 16383 => some crierlaw02_RingPlaces_J16383
  | 32766 => some (ordSpec [0, 1, 2, 3, 4, 5, 6, 7, 8, 9, 10, 11, 12, 13, 14, 15, 16, 17, 18, 19, 20, 21, 22, 23, 24, 25, 26, 27, 28, 29, 30, 31, 32, 33, 34, 35, 36, 37, 38, 39, 40, 41, 42, 43, 44])
  | 510 => some crierlaw02_RingPlaces_J510
  | 2042 => some crierlaw02_RingPlaces_J2042
  | 2043 => some crierlaw02_RingPlaces_J2043
  | _ => none
theorem crierlaw02_RingPlaces_eq (a0_0 : Int) (a0_1 : Int) (a1 : Int) (a2 : Int) (w : World) (Q : Value → World → Prop) : fnX P crierlaw02_RingPlaces_ann Try.f7 [.agg [.int .i64 a0_0, .int .i64 a0_1].toArray, .int .i64 a1, .int .i64 a2] w Q = crierlaw02_RingPlaces a0_0 a0_1 a1 a2 w Q := by kernel_rfl
theorem crierlaw02_RingPlaces_cv {a0_0 : Int} {a0_1 : Int} {a1 : Int} {a2 : Int} {w : World} {Q : Value → World → Prop} (h : crierlaw02_RingPlaces a0_0 a0_1 a1 a2 w Q) : CV P F.crierlaw02_RingPlaces [.agg [.int .i64 a0_0, .int .i64 a0_1].toArray, .int .i64 a1, .int .i64 a2] w Q := CV_of mixed Try.func7 (crierlaw02_RingPlaces_eq a0_0 a0_1 a1 a2 w Q ▸ h)

/- 8 crier/crierlaw02.RingWaits -/
def crierlaw02_RingWaits_J254 : LoopSpec where
  S := Bool
  emb := fun s => [(56, .bool s)]
  ext := fun t => match getL t 56 with
    | some (.bool y30) => some (y30)
    | _ => none
  slots := [56]
  fits := fun _ => rfl
  ok := by
    intro t s h x hx
    (try dsimp only at h hx)
    split at h
    · cases h
      simp only [List.mem_cons, List.not_mem_nil, or_false] at hx
      rcases hx with rfl <;> assumption
    · cases h

def crierlaw02_RingWaits_J510 : LoopSpec where
  S := Bool
  emb := fun s => [(72, .bool s)]
  ext := fun t => match getL t 72 with
    | some (.bool y33) => some (y33)
    | _ => none
  slots := [72]
  fits := fun _ => rfl
  ok := by
    intro t s h x hx
    (try dsimp only at h hx)
    split at h
    · cases h
      simp only [List.mem_cons, List.not_mem_nil, or_false] at hx
      rcases hx with rfl <;> assumption
    · cases h

def crierlaw02_RingWaits_J2042 : LoopSpec where
  S := Bool
  emb := fun s => [(8, .bool s)]
  ext := fun t => match getL t 8 with
    | some (.bool y36) => some (y36)
    | _ => none
  slots := [8]
  fits := fun _ => rfl
  ok := by
    intro t s h x hx
    (try dsimp only at h hx)
    split at h
    · cases h
      simp only [List.mem_cons, List.not_mem_nil, or_false] at hx
      rcases hx with rfl <;> assumption
    · cases h

def crierlaw02_RingWaits_j0 (Q : Value → World → Prop) (b37 : Bool) (w38 : World) : Prop :=
 Q (.bool b37) w38

def crierlaw02_RingWaits_J511 : LoopSpec where
  S := Bool
  emb := fun s => [(8, .bool s)]
  ext := fun t => match getL t 8 with
    | some (.bool y42) => some (y42)
    | _ => none
  slots := [8]
  fits := fun _ => rfl
  ok := by
    intro t s h x hx
    (try dsimp only at h hx)
    split at h
    · cases h
      simp only [List.mem_cons, List.not_mem_nil, or_false] at hx
      rcases hx with rfl <;> assumption
    · cases h

def crierlaw02_RingWaits_j1 (Q : Value → World → Prop) (b43 : Bool) (w44 : World) : Prop :=
 Q (.bool b43) w44

def crierlaw02_RingWaits_j2 (Q : Value → World → Prop) (b6 : Nat) (b10 : Bool) (l16 : Nat) (n22 : Int) (n23 : Int) (n28 : Int) (n29 : Int) (b34 : Bool) (w35 : World) : Prop :=
 cnd b34
 (JoinT (fun (J39 : crierlaw02_RingWaits_J2042.S → World → Prop) =>
  cnd b10
  (cnd (n23 == 1)
  (cnd (n29 == n23)
  (cnd (n22 == 0)
  (J39 (((n28 == 0) : Bool)) w35)
  (J39 ((false : Bool)) w35))
  (J39 ((false : Bool)) w35))
  (J39 ((false : Bool)) w35))
  (J39 ((false : Bool)) w35))
  fun (s40 : crierlaw02_RingWaits_J2042.S) w41 => crierlaw02_RingWaits_j0 Q s40 w41)
 (JoinT (fun (J45 : crierlaw02_RingWaits_J511.S → World → Prop) =>
  cnd b10
  (cnd (n23 == 0)
  (cnd (n29 == n23)
  (cnd (n22 == ((l16 : Nat) : Int))
  (ldI .i64 ⟨b6, 0, none⟩ w35 fun n46 =>
  ldI .i64 ⟨b6, 1, none⟩ w35 fun n47 =>
  nz n47 <|
  J45 (((n28 == (IntKind.i64.wrap ((IntKind.i64.wrap ((IntKind.i64.wrap (Int.tdiv n46 n47)) - 1)) - n22))) : Bool)) w35)
  (J45 ((false : Bool)) w35))
  (J45 ((false : Bool)) w35))
  (J45 ((false : Bool)) w35))
  (J45 ((false : Bool)) w35))
  fun (s48 : crierlaw02_RingWaits_J511.S) w49 => crierlaw02_RingWaits_j1 Q s48 w49)

def crierlaw02_RingWaits_j3 (a1 : Int) (a2 : Int) (Q : Value → World → Prop) (b6 : Nat) (b10 : Bool) (l16 : Nat) (n22 : Int) (n23 : Int) (n28 : Int) (n29 : Int) (b31 : Bool) (w32 : World) : Prop :=
 cnd b31
 (Q (.bool false) w32)
 (JoinT (fun (J50 : crierlaw02_RingWaits_J510.S → World → Prop) =>
  ldI .i64 ⟨b6, 0, none⟩ w32 fun n51 =>
  ldI .i64 ⟨b6, 1, none⟩ w32 fun n52 =>
  CV P F.crierref02_Index [.int .i64 n51, .int .i64 n52, .int .i64 a1] w32 fun v53 w54 =>
  ∃ n55 : Int, v53 = .int .i64 n55 ∧
  cnd (decide (n55 < 0))
  (J50 ((true : Bool)) w54)
  (ldI .i64 ⟨b6, 0, none⟩ w54 fun n56 =>
  ldI .i64 ⟨b6, 1, none⟩ w54 fun n57 =>
  CV P F.crierref02_Index [.int .i64 n56, .int .i64 n57, .int .i64 a2] w54 fun v58 w59 =>
  ∃ n60 : Int, v58 = .int .i64 n60 ∧
  J50 (((decide (n60 < 0)) : Bool)) w59))
  fun (s61 : crierlaw02_RingWaits_J510.S) w62 => crierlaw02_RingWaits_j2 Q b6 b10 l16 n22 n23 n28 n29 s61 w62)

def crierlaw02_RingWaits (a0_0 : Int) (a0_1 : Int) (a1 : Int) (a2 : Int) (a3 : Int) (w : World) (Q : Value → World → Prop) : Prop :=
 alc [.int .i64 a0_0, .int .i64 a0_1] T.t23 w fun b6 w7 =>
 CV P F.crierlaw02_awake [] w7 fun v8 w9 =>
 ∃ b10 : Bool, v8 = .bool b10 ∧
 cnd (!b10)
 (Q (.bool false) w9)
 (ldI .i64 ⟨b6, 0, none⟩ w9 fun n11 =>
 ldI .i64 ⟨b6, 1, none⟩ w9 fun n12 =>
 CV P F.crierref02_Waits [.int .i64 n11, .int .i64 n12, .int .i64 a1, .int .i64 a2] w9 fun v13 w14 =>
 ∃ (p15 : Option Addr) (l16 c17 : Nat), v13 = .slice p15 l16 c17 ∧
 ldI .i64 ⟨b6, 0, none⟩ w14 fun n18 =>
 ldI .i64 ⟨b6, 1, none⟩ w14 fun n19 =>
 CV P F.ring_Ring_Left [.agg [.int .i64 n18, .int .i64 n19].toArray, .int .i64 a1, .int .i64 a2] w14 fun v20 w21 =>
 ∃ n22 : Int, ∃ n23 : Int, v20 = .tuple [.int .i64 n22, .int .i64 n23].toArray ∧
 ldI .i64 ⟨b6, 0, none⟩ w21 fun n24 =>
 ldI .i64 ⟨b6, 1, none⟩ w21 fun n25 =>
 CV P F.ring_Ring_Room [.agg [.int .i64 n24, .int .i64 n25].toArray, .int .i64 a1, .int .i64 a2] w21 fun v26 w27 =>
 ∃ n28 : Int, ∃ n29 : Int, v26 = .tuple [.int .i64 n28, .int .i64 n29].toArray ∧
 JoinT (fun (J63 : crierlaw02_RingWaits_J254.S → World → Prop) =>
  ldI .i64 ⟨b6, 0, none⟩ w27 fun n64 =>
  ldI .i64 ⟨b6, 1, none⟩ w27 fun n65 =>
  CV P F.crierlaw02_Each [.agg [.int .i64 n64, .int .i64 n65].toArray, .int .i64 a1, .int .i64 a2] w27 fun v66 w67 =>
  ∃ (p68 : Option Addr) (l69 c70 : Nat), v66 = .slice p68 l69 c70 ∧
  CV P F.crierref01_Same [.slice p68 l69 c70, .slice p15 l16 c17] w67 fun v71 w72 =>
  ∃ b73 : Bool, v71 = .bool b73 ∧
  cnd (!b73)
  (J63 ((true : Bool)) w72)
  (ldI .i64 ⟨b6, 0, none⟩ w72 fun n74 =>
  ldI .i64 ⟨b6, 1, none⟩ w72 fun n75 =>
  CV P F.ring_Ring_Waits [.agg [.int .i64 n74, .int .i64 n75].toArray, .int .i64 a1, .int .i64 a2, .int .i64 a3] w72 fun v76 w77 =>
  ∃ b78 : Bool, v76 = .bool b78 ∧
  CV P F.crierref01_Has [.slice p15 l16 c17, .int .i64 a3] w77 fun v79 w80 =>
  ∃ b81 : Bool, v79 = .bool b81 ∧
  J63 (((!(b78 == b81)) : Bool)) w80))
  fun (s82 : crierlaw02_RingWaits_J254.S) w83 => crierlaw02_RingWaits_j3 a1 a2 Q b6 b10 l16 n22 n23 n28 n29 s82 w83)
def crierlaw02_RingWaits_ann : Nat → Option LoopSpec := fun
  | 254 => some crierlaw02_RingWaits_J254
  | 510 => some crierlaw02_RingWaits_J510
  | 2042 => some crierlaw02_RingWaits_J2042
  | 511 => some crierlaw02_RingWaits_J511
  | _ => none
theorem crierlaw02_RingWaits_eq (a0_0 : Int) (a0_1 : Int) (a1 : Int) (a2 : Int) (a3 : Int) (w : World) (Q : Value → World → Prop) : fnX P crierlaw02_RingWaits_ann Try.f8 [.agg [.int .i64 a0_0, .int .i64 a0_1].toArray, .int .i64 a1, .int .i64 a2, .int .i64 a3] w Q = crierlaw02_RingWaits a0_0 a0_1 a1 a2 a3 w Q := by kernel_rfl
theorem crierlaw02_RingWaits_cv {a0_0 : Int} {a0_1 : Int} {a1 : Int} {a2 : Int} {a3 : Int} {w : World} {Q : Value → World → Prop} (h : crierlaw02_RingWaits a0_0 a0_1 a1 a2 a3 w Q) : CV P F.crierlaw02_RingWaits [.agg [.int .i64 a0_0, .int .i64 a0_1].toArray, .int .i64 a1, .int .i64 a2, .int .i64 a3] w Q := CV_of mixed Try.func8 (crierlaw02_RingWaits_eq a0_0 a0_1 a1 a2 a3 w Q ▸ h)

/- 9 crier/crierlaw02.awake -/
def crierlaw02_awake_J31 : LoopSpec where
  S := Bool
  emb := fun s => [(0, .bool s)]
  ext := fun t => match getL t 0 with
    | some (.bool y17) => some (y17)
    | _ => none
  slots := [0]
  fits := fun _ => rfl
  ok := by
    intro t s h x hx
    (try dsimp only at h hx)
    split at h
    · cases h
      simp only [List.mem_cons, List.not_mem_nil, or_false] at hx
      rcases hx with rfl <;> assumption
    · cases h

def crierlaw02_awake_j0 (Q : Value → World → Prop) (b18 : Bool) (w19 : World) : Prop :=
 Q (.bool b18) w19

def crierlaw02_awake (w : World) (Q : Value → World → Prop) : Prop :=
 alc [.int .i64 0, .int .i64 0] T.t23 w fun b1 w2 =>
 st1 (.int .i64 96) ⟨b1, 0, none⟩ w2 fun w3 =>
 st1 (.int .i64 32) ⟨b1, 1, none⟩ w3 fun w4 =>
 ldI .i64 ⟨b1, 0, none⟩ w4 fun n5 =>
 ldI .i64 ⟨b1, 1, none⟩ w4 fun n6 =>
 CV P F.ring_Ring_Next [.agg [.int .i64 n5, .int .i64 n6].toArray, .int .i64 64] w4 fun v7 w8 =>
 ∃ n9 : Int, ∃ n10 : Int, v7 = .tuple [.int .i64 n9, .int .i64 n10].toArray ∧
 ldI .i64 ⟨b1, 0, none⟩ w8 fun n11 =>
 ldI .i64 ⟨b1, 1, none⟩ w8 fun n12 =>
 CV P F.ring_Ring_Left [.agg [.int .i64 n11, .int .i64 n12].toArray, .int .i64 64, .int .i64 32] w8 fun v13 w14 =>
 ∃ n15 : Int, ∃ n16 : Int, v13 = .tuple [.int .i64 n15, .int .i64 n16].toArray ∧
 JoinT (fun (J20 : crierlaw02_awake_J31.S → World → Prop) =>
  cnd (n9 == 0)
  (cnd (n10 == 0)
  (cnd (n15 == 2)
  (cnd (n16 == 0)
  (ldI .i64 ⟨b1, 0, none⟩ w14 fun n21 =>
  ldI .i64 ⟨b1, 1, none⟩ w14 fun n22 =>
  CV P F.ring_Ring_May [.agg [.int .i64 n21, .int .i64 n22].toArray, .int .i64 33] w14 fun v23 w24 =>
  ∃ b25 : Bool, v23 = .bool b25 ∧
  cnd (!b25)
  (CV P F.ring_Ring_Right [.agg [.int .i64 96, .int .i64 40].toArray] w24 fun v26 w27 =>
  ∃ n28 : Int, v26 = .int .i64 n28 ∧
  cnd (n28 == 1)
  (ldI .i64 ⟨b1, 0, none⟩ w27 fun n29 =>
  ldI .i64 ⟨b1, 1, none⟩ w27 fun n30 =>
  CV P F.crierlaw02_Each [.agg [.int .i64 n29, .int .i64 n30].toArray, .int .i64 64, .int .i64 32] w27 fun v31 w32 =>
  ∃ (p33 : Option Addr) (l34 c35 : Nat), v31 = .slice p33 l34 c35 ∧
  alc [.int .i64 64, .int .i64 0] T.t3 w32 fun b36 w37 =>
  CV P F.crierref01_Same [.slice p33 l34 c35, .slice (some ⟨b36, 0, none⟩) 2 2] w37 fun v38 w39 =>
  ∃ b40 : Bool, v38 = .bool b40 ∧
  J20 ((b40 : Bool)) w39)
  (J20 ((false : Bool)) w27))
  (J20 ((false : Bool)) w24))
  (J20 ((false : Bool)) w14))
  (J20 ((false : Bool)) w14))
  (J20 ((false : Bool)) w14))
  (J20 ((false : Bool)) w14))
  fun (s41 : crierlaw02_awake_J31.S) w42 => crierlaw02_awake_j0 Q s41 w42
def crierlaw02_awake_ann : Nat → Option LoopSpec := fun
  | 31 => some crierlaw02_awake_J31
  | _ => none
theorem crierlaw02_awake_eq (w : World) (Q : Value → World → Prop) : fnX P crierlaw02_awake_ann Try.f9 [] w Q = crierlaw02_awake w Q := by kernel_rfl
theorem crierlaw02_awake_cv {w : World} {Q : Value → World → Prop} (h : crierlaw02_awake w Q) : CV P F.crierlaw02_awake [] w Q := CV_of mixed Try.func9 (crierlaw02_awake_eq w Q ▸ h)

/- 10 (crier/ring.Ring).Next -/

def ring_Ring_Next (a0_0 : Int) (a0_1 : Int) (a1 : Int) (w : World) (Q : Value → World → Prop) : Prop :=
 alc [.int .i64 a0_0, .int .i64 a0_1] T.t23 w fun b4 w5 =>
 ldI .i64 ⟨b4, 0, none⟩ w5 fun n6 =>
 ldI .i64 ⟨b4, 1, none⟩ w5 fun n7 =>
 CV P F.ring_Ring_May [.agg [.int .i64 n6, .int .i64 n7].toArray, .int .i64 a1] w5 fun v8 w9 =>
 ∃ b10 : Bool, v8 = .bool b10 ∧
 cnd (!b10)
 (Q (.tuple [.int .i64 0, .int .i64 1].toArray) w9)
 (ldI .i64 ⟨b4, 1, none⟩ w9 fun n11 =>
 ldI .i64 ⟨b4, 0, none⟩ w9 fun n12 =>
 nz n12 <|
 Q (.tuple [.int .i64 (Int.tmod (IntKind.i64.wrap (a1 + n11)) n12), .int .i64 0].toArray) w9)
def ring_Ring_Next_ann : Nat → Option LoopSpec := fun _ => none
theorem ring_Ring_Next_eq (a0_0 : Int) (a0_1 : Int) (a1 : Int) (w : World) (Q : Value → World → Prop) : fnX P ring_Ring_Next_ann Try.f10 [.agg [.int .i64 a0_0, .int .i64 a0_1].toArray, .int .i64 a1] w Q = ring_Ring_Next a0_0 a0_1 a1 w Q := by kernel_rfl
theorem ring_Ring_Next_cv {a0_0 : Int} {a0_1 : Int} {a1 : Int} {w : World} {Q : Value → World → Prop} (h : ring_Ring_Next a0_0 a0_1 a1 w Q) : CV P F.ring_Ring_Next [.agg [.int .i64 a0_0, .int .i64 a0_1].toArray, .int .i64 a1] w Q := CV_of mixed Try.func10 (ring_Ring_Next_eq a0_0 a0_1 a1 w Q ▸ h)

/- 11 (crier/ring.Ring).May -/
def ring_Ring_May_J3 : LoopSpec where
  S := Bool
  emb := fun s => [(4, .bool s)]
  ext := fun t => match getL t 4 with
    | some (.bool y6) => some (y6)
    | _ => none
  slots := [4]
  fits := fun _ => rfl
  ok := by
    intro t s h x hx
    (try dsimp only at h hx)
    split at h
    · cases h
      simp only [List.mem_cons, List.not_mem_nil, or_false] at hx
      rcases hx with rfl <;> assumption
    · cases h

def ring_Ring_May_j0 (Q : Value → World → Prop) (b7 : Bool) (w8 : World) : Prop :=
 Q (.bool b7) w8

def ring_Ring_May (a0_0 : Int) (a0_1 : Int) (a1 : Int) (w : World) (Q : Value → World → Prop) : Prop :=
 alc [.int .i64 a0_0, .int .i64 a0_1] T.t23 w fun b4 w5 =>
 JoinT (fun (J9 : ring_Ring_May_J3.S → World → Prop) =>
  ldI .i64 ⟨b4, 0, none⟩ w5 fun n10 =>
  ldI .i64 ⟨b4, 1, none⟩ w5 fun n11 =>
  CV P F.ring_Ring_Right [.agg [.int .i64 n10, .int .i64 n11].toArray] w5 fun v12 w13 =>
  ∃ n14 : Int, v12 = .int .i64 n14 ∧
  cnd (n14 == 0)
  (cnd (decide (a1 ≥ 0))
  (ldI .i64 ⟨b4, 0, none⟩ w13 fun n15 =>
  cnd (decide (a1 < n15))
  (ldI .i64 ⟨b4, 1, none⟩ w13 fun n16 =>
  nz n16 <|
  J9 ((((Int.tmod a1 n16) == 0) : Bool)) w13)
  (J9 ((false : Bool)) w13))
  (J9 ((false : Bool)) w13))
  (J9 ((false : Bool)) w13))
  fun (s17 : ring_Ring_May_J3.S) w18 => ring_Ring_May_j0 Q s17 w18
def ring_Ring_May_ann : Nat → Option LoopSpec := fun
  | 3 => some ring_Ring_May_J3
  | _ => none
theorem ring_Ring_May_eq (a0_0 : Int) (a0_1 : Int) (a1 : Int) (w : World) (Q : Value → World → Prop) : fnX P ring_Ring_May_ann Try.f11 [.agg [.int .i64 a0_0, .int .i64 a0_1].toArray, .int .i64 a1] w Q = ring_Ring_May a0_0 a0_1 a1 w Q := by kernel_rfl
theorem ring_Ring_May_cv {a0_0 : Int} {a0_1 : Int} {a1 : Int} {w : World} {Q : Value → World → Prop} (h : ring_Ring_May a0_0 a0_1 a1 w Q) : CV P F.ring_Ring_May [.agg [.int .i64 a0_0, .int .i64 a0_1].toArray, .int .i64 a1] w Q := CV_of mixed Try.func11 (ring_Ring_May_eq a0_0 a0_1 a1 w Q ▸ h)

/- 12 (crier/ring.Ring).Ahead -/

def ring_Ring_Ahead (a0_0 : Int) (a0_1 : Int) (a1 : Int) (w : World) (Q : Value → World → Prop) : Prop :=
 alc [.int .i64 a0_0, .int .i64 a0_1] T.t23 w fun b4 w5 =>
 ldI .i64 ⟨b4, 0, none⟩ w5 fun n6 =>
 ldI .i64 ⟨b4, 1, none⟩ w5 fun n7 =>
 CV P F.ring_Ring_May [.agg [.int .i64 n6, .int .i64 n7].toArray, .int .i64 a1] w5 fun v8 w9 =>
 ∃ b10 : Bool, v8 = .bool b10 ∧
 cnd (!b10)
 (Q (.tuple [.int .i64 0, .int .i64 1].toArray) w9)
 (ldI .i64 ⟨b4, 1, none⟩ w9 fun n11 =>
 ldI .i64 ⟨b4, 0, none⟩ w9 fun n12 =>
 ldI .i64 ⟨b4, 0, none⟩ w9 fun n13 =>
 nz n13 <|
 Q (.tuple [.int .i64 (Int.tmod (IntKind.i64.wrap ((IntKind.i64.wrap (a1 - n11)) + n12)) n13), .int .i64 0].toArray) w9)
def ring_Ring_Ahead_ann : Nat → Option LoopSpec := fun _ => none
theorem ring_Ring_Ahead_eq (a0_0 : Int) (a0_1 : Int) (a1 : Int) (w : World) (Q : Value → World → Prop) : fnX P ring_Ring_Ahead_ann Try.f12 [.agg [.int .i64 a0_0, .int .i64 a0_1].toArray, .int .i64 a1] w Q = ring_Ring_Ahead a0_0 a0_1 a1 w Q := by kernel_rfl
theorem ring_Ring_Ahead_cv {a0_0 : Int} {a0_1 : Int} {a1 : Int} {w : World} {Q : Value → World → Prop} (h : ring_Ring_Ahead a0_0 a0_1 a1 w Q) : CV P F.ring_Ring_Ahead [.agg [.int .i64 a0_0, .int .i64 a0_1].toArray, .int .i64 a1] w Q := CV_of mixed Try.func12 (ring_Ring_Ahead_eq a0_0 a0_1 a1 w Q ▸ h)

/- 13 (crier/ring.Ring).Left -/
def ring_Ring_Left_J6 : LoopSpec where
  S := Bool
  emb := fun s => [(17, .bool s)]
  ext := fun t => match getL t 17 with
    | some (.bool y7) => some (y7)
    | _ => none
  slots := [17]
  fits := fun _ => rfl
  ok := by
    intro t s h x hx
    (try dsimp only at h hx)
    split at h
    · cases h
      simp only [List.mem_cons, List.not_mem_nil, or_false] at hx
      rcases hx with rfl <;> assumption
    · cases h

def ring_Ring_Left_j0 (a1 : Int) (a2 : Int) (Q : Value → World → Prop) (b5 : Nat) (b8 : Bool) (w9 : World) : Prop :=
 cnd b8
 (Q (.tuple [.int .i64 0, .int .i64 1].toArray) w9)
 (drw w9 fun w10 =>
 ldI .i64 ⟨b5, 0, none⟩ w10 fun n11 =>
 ldI .i64 ⟨b5, 0, none⟩ w10 fun n12 =>
 nz n12 <|
 ldI .i64 ⟨b5, 1, none⟩ w10 fun n13 =>
 nz n13 <|
 Q (.tuple [.int .i64 (IntKind.i64.wrap (Int.tdiv (Int.tmod (IntKind.i64.wrap ((IntKind.i64.wrap (a2 - a1)) + n11)) n12) n13)), .int .i64 0].toArray) w10)

def ring_Ring_Left (a0_0 : Int) (a0_1 : Int) (a1 : Int) (a2 : Int) (w : World) (Q : Value → World → Prop) : Prop :=
 alc [.int .i64 a0_0, .int .i64 a0_1] T.t23 w fun b5 w6 =>
 JoinT (fun (J14 : ring_Ring_Left_J6.S → World → Prop) =>
  ldI .i64 ⟨b5, 0, none⟩ w6 fun n15 =>
  ldI .i64 ⟨b5, 1, none⟩ w6 fun n16 =>
  CV P F.ring_Ring_May [.agg [.int .i64 n15, .int .i64 n16].toArray, .int .i64 a1] w6 fun v17 w18 =>
  ∃ b19 : Bool, v17 = .bool b19 ∧
  cnd (!b19)
  (J14 ((true : Bool)) w18)
  (ldI .i64 ⟨b5, 0, none⟩ w18 fun n20 =>
  ldI .i64 ⟨b5, 1, none⟩ w18 fun n21 =>
  CV P F.ring_Ring_May [.agg [.int .i64 n20, .int .i64 n21].toArray, .int .i64 a2] w18 fun v22 w23 =>
  ∃ b24 : Bool, v22 = .bool b24 ∧
  J14 (((!b24) : Bool)) w23))
  fun (s25 : ring_Ring_Left_J6.S) w26 => ring_Ring_Left_j0 a1 a2 Q b5 s25 w26
def ring_Ring_Left_ann : Nat → Option LoopSpec := fun
  | 6 => some ring_Ring_Left_J6
  | 14 => some (ordSpec [0, 1, 2, 3, 4, 5, 6, 7, 8, 9, 10, 11, 12, 13])
  | _ => none
theorem ring_Ring_Left_eq (a0_0 : Int) (a0_1 : Int) (a1 : Int) (a2 : Int) (w : World) (Q : Value → World → Prop) : fnX P ring_Ring_Left_ann Try.f13 [.agg [.int .i64 a0_0, .int .i64 a0_1].toArray, .int .i64 a1, .int .i64 a2] w Q = ring_Ring_Left a0_0 a0_1 a1 a2 w Q := by kernel_rfl
theorem ring_Ring_Left_cv {a0_0 : Int} {a0_1 : Int} {a1 : Int} {a2 : Int} {w : World} {Q : Value → World → Prop} (h : ring_Ring_Left a0_0 a0_1 a1 a2 w Q) : CV P F.ring_Ring_Left [.agg [.int .i64 a0_0, .int .i64 a0_1].toArray, .int .i64 a1, .int .i64 a2] w Q := CV_of mixed Try.func13 (ring_Ring_Left_eq a0_0 a0_1 a1 a2 w Q ▸ h)

/- 14 (crier/ring.Ring).Room -/

def ring_Ring_Room (a0_0 : Int) (a0_1 : Int) (a1 : Int) (a2 : Int) (w : World) (Q : Value → World → Prop) : Prop :=
 alc [.int .i64 a0_0, .int .i64 a0_1] T.t23 w fun b5 w6 =>
 ldI .i64 ⟨b5, 0, none⟩ w6 fun n7 =>
 ldI .i64 ⟨b5, 1, none⟩ w6 fun n8 =>
 CV P F.ring_Ring_Left [.agg [.int .i64 n7, .int .i64 n8].toArray, .int .i64 a1, .int .i64 a2] w6 fun v9 w10 =>
 ∃ n11 : Int, ∃ n12 : Int, v9 = .tuple [.int .i64 n11, .int .i64 n12].toArray ∧
 cnd (n12 != 0)
 (Q (.tuple [.int .i64 0, .int .i64 n12].toArray) w10)
 (ldI .i64 ⟨b5, 0, none⟩ w10 fun n13 =>
 ldI .i64 ⟨b5, 1, none⟩ w10 fun n14 =>
 nz n14 <|
 Q (.tuple [.int .i64 (IntKind.i64.wrap ((IntKind.i64.wrap ((IntKind.i64.wrap (Int.tdiv n13 n14)) - 1)) - n11)), .int .i64 0].toArray) w10)
def ring_Ring_Room_ann : Nat → Option LoopSpec := fun _ => none
theorem ring_Ring_Room_eq (a0_0 : Int) (a0_1 : Int) (a1 : Int) (a2 : Int) (w : World) (Q : Value → World → Prop) : fnX P ring_Ring_Room_ann Try.f14 [.agg [.int .i64 a0_0, .int .i64 a0_1].toArray, .int .i64 a1, .int .i64 a2] w Q = ring_Ring_Room a0_0 a0_1 a1 a2 w Q := by kernel_rfl
theorem ring_Ring_Room_cv {a0_0 : Int} {a0_1 : Int} {a1 : Int} {a2 : Int} {w : World} {Q : Value → World → Prop} (h : ring_Ring_Room a0_0 a0_1 a1 a2 w Q) : CV P F.ring_Ring_Room [.agg [.int .i64 a0_0, .int .i64 a0_1].toArray, .int .i64 a1, .int .i64 a2] w Q := CV_of mixed Try.func14 (ring_Ring_Room_eq a0_0 a0_1 a1 a2 w Q ▸ h)

/- 15 crier/crierlaw02.Each -/
def crierlaw02_Each_J29 : LoopSpec where
  S := Unit
  emb := fun _ => []
  ext := fun _ => some ()
  slots := []
  fits := fun _ => rfl
  ok := by
    intro t s h x hx; cases hx

def crierlaw02_Each_j0 (Q : Value → World → Prop) (b7 : Nat) (w14 : World) (ds15 : List Deferred) : Prop :=
 ldL ⟨b7, 0, none⟩ w14 fun p16 l17 c18 =>
 takeX ds15 w14 fun w19 =>
 Q (.slice p16 l17 c18) w19

def crierlaw02_Each_r1 (b7 : Nat) (l21 : Nat) (r22 : Loop) (vs23 : List Value) (w24 : World) (Q25 : Value → World → Prop) : Prop :=
 b1 vs23 fun v26 =>
 ∃ n27 : Int, v26 = .int .i64 n27 ∧
 recAt w24 l21 r22 .ready none ∧ setR w24 l21 r22 .busy none fun w28 =>
 ldL ⟨b7, 0, none⟩ w28 fun p29 l30 c31 =>
 alc [.int .i64 n27] T.t3 w28 fun b32 w33 =>
 runS P (Builtin.append_ #[T.t32, T.t32] T.t32 [.slice p29 l30 c31, .slice (some ⟨b32, 0, none⟩) 1 1].toArray) w33 fun p34 l35 c36 w37 =>
 st1 (.slice p34 l35 c36) ⟨b7, 0, none⟩ w37 fun w38 =>
 ldL ⟨b7, 0, none⟩ w38 fun p39 l40 c41 =>
 cnd (decide (((l40 : Nat) : Int) > 5000))
 (recAt w38 l21 r22 .busy none ∧ setR w38 l21 r22 .done (some (.exit 0)) fun w42 => Q25 (.bool false) w42)
 (recAt w38 l21 r22 .busy none ∧ setR w38 l21 r22 .ready none fun w43 => Q25 (.bool true) w43)

def crierlaw02_Each (a0_0 : Int) (a0_1 : Int) (a1 : Int) (a2 : Int) (w : World) (Q : Value → World → Prop) : Prop :=
 alc [.int .i64 a0_0, .int .i64 a0_1] T.t23 w fun b5 w6 =>
 alc [.slice none 0 0] T.t32 w6 fun b7 w8 =>
 ldI .i64 ⟨b5, 0, none⟩ w8 fun n9 =>
 ldI .i64 ⟨b5, 1, none⟩ w8 fun n10 =>
 CV P F.ring_Ring_Each [.agg [.int .i64 n9, .int .i64 n10].toArray, .int .i64 a1, .int .i64 a2] w8 fun v11 w12 =>
 ∃ v13 : Value, v11 = v13 ∧
 JoinT (fun (J20 : crierlaw02_Each_J29.S × List Deferred → World → Prop) =>
  RF P none 1 (v13) w12 (fun l21 r22 vs23 w24 Q25 => crierlaw02_Each_r1 b7 l21 r22 vs23 w24 Q25) fun mk44 jp45 w46 =>
  jmpX jp45
  (J20 ((), (mk44 ++ [])) w46)
  (takeX (mk44 ++ []) w46 fun w47 =>
  Q (.slice none 0 0) w47)
  fun id48 => (id48 = 0 → (J20 ((), (mk44 ++ [])) w46)) ∧ (id48 ≠ 0 → (False)))
  fun (s49 : crierlaw02_Each_J29.S × List Deferred) w50 => crierlaw02_Each_j0 Q b7 w50 s49.2
def crierlaw02_Each_ann : Nat → Option LoopSpec := fun
  | 29 => some crierlaw02_Each_J29
  | _ => none
theorem crierlaw02_Each_eq (a0_0 : Int) (a0_1 : Int) (a1 : Int) (a2 : Int) (w : World) (Q : Value → World → Prop) : fnX P crierlaw02_Each_ann Try.f15 [.agg [.int .i64 a0_0, .int .i64 a0_1].toArray, .int .i64 a1, .int .i64 a2] w Q = crierlaw02_Each a0_0 a0_1 a1 a2 w Q := by kernel_rfl
theorem crierlaw02_Each_cv {a0_0 : Int} {a0_1 : Int} {a1 : Int} {a2 : Int} {w : World} {Q : Value → World → Prop} (h : crierlaw02_Each a0_0 a0_1 a1 a2 w Q) : CV P F.crierlaw02_Each [.agg [.int .i64 a0_0, .int .i64 a0_1].toArray, .int .i64 a1, .int .i64 a2] w Q := CV_of mixed Try.func15 (crierlaw02_Each_eq a0_0 a0_1 a1 a2 w Q ▸ h)

/- 16 crier/crierref01.Has -/
def crierref01_Has_L26 : LoopSpec where
  S := Int
  emb := fun s => [(5, .int .i64 s)]
  ext := fun t => match getL t 5 with
    | some (.int .i64 y5) => some (y5)
    | _ => none
  slots := [5]
  fits := fun _ => rfl
  ok := by
    intro t s h x hx
    (try dsimp only at h hx)
    split at h
    · cases h
      simp only [List.mem_cons, List.not_mem_nil, or_false] at hx
      rcases hx with rfl <;> assumption
    · cases h

def crierref01_Has_l0 (a0 : Option Addr) (a0_n : Nat) (a1 : Int) (Q : Value → World → Prop) (n6 : Int) (w7 : World) (A8 : crierref01_Has_L26.S → World → Prop) : Prop :=
 cnd (decide (n6 < ((a0_n : Nat) : Int)))
 (ix n6 a0_n fun j9 => nn a0 fun a10 =>
 ldI .i64 (a10.add (j9 * 1)) w7 fun n11 =>
 cnd (n11 == a1)
 (Q (.bool true) w7)
 (A8 (((IntKind.i64.wrap (n6 + 1)) : Int)) w7))
 (Q (.bool false) w7)

def crierref01_Has (a0 : Option Addr) (a0_n : Nat) (a0_c : Nat) (a1 : Int) (w : World) (Q : Value → World → Prop) : Prop :=
 LoopT (fun (s12 : crierref01_Has_L26.S) w13 A14 => crierref01_Has_l0 a0 a0_n a1 Q s12 w13 A14) ((0 : Int)) w
def crierref01_Has_ann : Nat → Option LoopSpec := fun
  | 26 => some crierref01_Has_L26
  | _ => none
theorem crierref01_Has_eq (a0 : Option Addr) (a0_n : Nat) (a0_c : Nat) (a1 : Int) (w : World) (Q : Value → World → Prop) : fnX P crierref01_Has_ann Try.f16 [.slice a0 a0_n a0_c, .int .i64 a1] w Q = crierref01_Has a0 a0_n a0_c a1 w Q := by kernel_rfl
theorem crierref01_Has_cv {a0 : Option Addr} {a0_n : Nat} {a0_c : Nat} {a1 : Int} {w : World} {Q : Value → World → Prop} (h : crierref01_Has a0 a0_n a0_c a1 w Q) : CV P F.crierref01_Has [.slice a0 a0_n a0_c, .int .i64 a1] w Q := CV_of mixed Try.func16 (crierref01_Has_eq a0 a0_n a0_c a1 w Q ▸ h)

/- 17 (crier/ring.Ring).Waits -/
def ring_Ring_Waits_r0 (b8 : Nat) (b10 : Nat) (l25 : Nat) (r26 : Loop) (vs27 : List Value) (w28 : World) (Q29 : Value → World → Prop) : Prop :=
 b1 vs27 fun v30 =>
 ∃ n31 : Int, v30 = .int .i64 n31 ∧
 recAt w28 l25 r26 .ready none ∧ setR w28 l25 r26 .busy none fun w32 =>
 ldI .i64 ⟨b8, 0, none⟩ w32 fun n33 =>
 cnd (n31 == n33)
 (st1 (.bool true) ⟨b10, 0, none⟩ w32 fun w34 =>
 recAt w34 l25 r26 .busy none ∧ setR w34 l25 r26 .done (some .ret) fun w35 => Q29 (.bool false) w35)
 (recAt w32 l25 r26 .busy none ∧ setR w32 l25 r26 .ready none fun w36 => Q29 (.bool true) w36)

def ring_Ring_Waits (a0_0 : Int) (a0_1 : Int) (a1 : Int) (a2 : Int) (a3 : Int) (w : World) (Q : Value → World → Prop) : Prop :=
 alc [.int .i64 a0_0, .int .i64 a0_1] T.t23 w fun b6 w7 =>
 alc [.int .i64 a3] T.t3 w7 fun b8 w9 =>
 alc [.bool false] T.t4 w9 fun b10 w11 =>
 ldI .i64 ⟨b6, 0, none⟩ w11 fun n12 =>
 ldI .i64 ⟨b6, 1, none⟩ w11 fun n13 =>
 ldI .i64 ⟨b8, 0, none⟩ w11 fun n14 =>
 CV P F.ring_Ring_May [.agg [.int .i64 n12, .int .i64 n13].toArray, .int .i64 n14] w11 fun v15 w16 =>
 ∃ b17 : Bool, v15 = .bool b17 ∧
 cnd (!b17)
 (st1 (.bool false) ⟨b10, 0, none⟩ w16 fun w18 =>
 ldB ⟨b10, 0, none⟩ w18 fun b19 =>
 Q (.bool b19) w18)
 (ldI .i64 ⟨b6, 0, none⟩ w16 fun n20 =>
 ldI .i64 ⟨b6, 1, none⟩ w16 fun n21 =>
 CV P F.ring_Ring_Each [.agg [.int .i64 n20, .int .i64 n21].toArray, .int .i64 a1, .int .i64 a2] w16 fun v22 w23 =>
 ∃ v24 : Value, v22 = v24 ∧
 RF P none 1 (v24) w23 (fun l25 r26 vs27 w28 Q29 => ring_Ring_Waits_r0 b8 b10 l25 r26 vs27 w28 Q29) fun mk37 jp38 w39 =>
 jmpX jp38
 (st1 (.bool false) ⟨b10, 0, none⟩ w39 fun w40 =>
 takeX (mk37 ++ []) w40 fun w41 =>
 ldB ⟨b10, 0, none⟩ w41 fun b42 =>
 Q (.bool b42) w41)
 (takeX (mk37 ++ []) w39 fun w43 =>
 ldB ⟨b10, 0, none⟩ w43 fun b44 =>
 Q (.bool b44) w43)
 fun id45 => False)
def ring_Ring_Waits_ann : Nat → Option LoopSpec := fun _ => none
theorem ring_Ring_Waits_eq (a0_0 : Int) (a0_1 : Int) (a1 : Int) (a2 : Int) (a3 : Int) (w : World) (Q : Value → World → Prop) : fnX P ring_Ring_Waits_ann Try.f17 [.agg [.int .i64 a0_0, .int .i64 a0_1].toArray, .int .i64 a1, .int .i64 a2, .int .i64 a3] w Q = ring_Ring_Waits a0_0 a0_1 a1 a2 a3 w Q := by kernel_rfl
theorem ring_Ring_Waits_cv {a0_0 : Int} {a0_1 : Int} {a1 : Int} {a2 : Int} {a3 : Int} {w : World} {Q : Value → World → Prop} (h : ring_Ring_Waits a0_0 a0_1 a1 a2 a3 w Q) : CV P F.ring_Ring_Waits [.agg [.int .i64 a0_0, .int .i64 a0_1].toArray, .int .i64 a1, .int .i64 a2, .int .i64 a3] w Q := CV_of mixed Try.func17 (ring_Ring_Waits_eq a0_0 a0_1 a1 a2 a3 w Q ▸ h)

/- 18 (crier/ring.Ring).Index -/

def ring_Ring_Index (a0_0 : Int) (a0_1 : Int) (a1 : Int) (w : World) (Q : Value → World → Prop) : Prop :=
 alc [.int .i64 a0_0, .int .i64 a0_1] T.t23 w fun b4 w5 =>
 ldI .i64 ⟨b4, 0, none⟩ w5 fun n6 =>
 ldI .i64 ⟨b4, 1, none⟩ w5 fun n7 =>
 CV P F.ring_Ring_May [.agg [.int .i64 n6, .int .i64 n7].toArray, .int .i64 a1] w5 fun v8 w9 =>
 ∃ b10 : Bool, v8 = .bool b10 ∧
 cnd (!b10)
 (Q (.tuple [.int .i64 0, .int .i64 1].toArray) w9)
 (ldI .i64 ⟨b4, 1, none⟩ w9 fun n11 =>
 nz n11 <|
 Q (.tuple [.int .i64 (IntKind.i64.wrap (Int.tdiv a1 n11)), .int .i64 0].toArray) w9)
def ring_Ring_Index_ann : Nat → Option LoopSpec := fun _ => none
theorem ring_Ring_Index_eq (a0_0 : Int) (a0_1 : Int) (a1 : Int) (w : World) (Q : Value → World → Prop) : fnX P ring_Ring_Index_ann Try.f18 [.agg [.int .i64 a0_0, .int .i64 a0_1].toArray, .int .i64 a1] w Q = ring_Ring_Index a0_0 a0_1 a1 w Q := by kernel_rfl
theorem ring_Ring_Index_cv {a0_0 : Int} {a0_1 : Int} {a1 : Int} {w : World} {Q : Value → World → Prop} (h : ring_Ring_Index a0_0 a0_1 a1 w Q) : CV P F.ring_Ring_Index [.agg [.int .i64 a0_0, .int .i64 a0_1].toArray, .int .i64 a1] w Q := CV_of mixed Try.func18 (ring_Ring_Index_eq a0_0 a0_1 a1 w Q ▸ h)

/- 19 (crier/ring.Ring).Place -/
def ring_Ring_Place_J6 : LoopSpec where
  S := Bool
  emb := fun s => [(21, .bool s)]
  ext := fun t => match getL t 21 with
    | some (.bool y6) => some (y6)
    | _ => none
  slots := [21]
  fits := fun _ => rfl
  ok := by
    intro t s h x hx
    (try dsimp only at h hx)
    split at h
    · cases h
      simp only [List.mem_cons, List.not_mem_nil, or_false] at hx
      rcases hx with rfl <;> assumption
    · cases h

def ring_Ring_Place_j0 (a1 : Int) (Q : Value → World → Prop) (b4 : Nat) (b7 : Bool) (w8 : World) : Prop :=
 cnd b7
 (Q (.tuple [.int .i64 0, .int .i64 1].toArray) w8)
 (ldI .i64 ⟨b4, 1, none⟩ w8 fun n9 =>
 Q (.tuple [.int .i64 (IntKind.i64.wrap (a1 * n9)), .int .i64 0].toArray) w8)

def ring_Ring_Place (a0_0 : Int) (a0_1 : Int) (a1 : Int) (w : World) (Q : Value → World → Prop) : Prop :=
 alc [.int .i64 a0_0, .int .i64 a0_1] T.t23 w fun b4 w5 =>
 JoinT (fun (J10 : ring_Ring_Place_J6.S → World → Prop) =>
  ldI .i64 ⟨b4, 0, none⟩ w5 fun n11 =>
  ldI .i64 ⟨b4, 1, none⟩ w5 fun n12 =>
  CV P F.ring_Ring_Right [.agg [.int .i64 n11, .int .i64 n12].toArray] w5 fun v13 w14 =>
  ∃ n15 : Int, v13 = .int .i64 n15 ∧
  cnd (n15 != 0)
  (J10 ((true : Bool)) w14)
  (cnd (decide (a1 < 0))
  (J10 ((true : Bool)) w14)
  (ldI .i64 ⟨b4, 0, none⟩ w14 fun n16 =>
  ldI .i64 ⟨b4, 1, none⟩ w14 fun n17 =>
  nz n17 <|
  J10 (((decide (a1 ≥ (IntKind.i64.wrap (Int.tdiv n16 n17)))) : Bool)) w14)))
  fun (s18 : ring_Ring_Place_J6.S) w19 => ring_Ring_Place_j0 a1 Q b4 s18 w19
def ring_Ring_Place_ann : Nat → Option LoopSpec := fun
  | 6 => some ring_Ring_Place_J6
  | _ => none
theorem ring_Ring_Place_eq (a0_0 : Int) (a0_1 : Int) (a1 : Int) (w : World) (Q : Value → World → Prop) : fnX P ring_Ring_Place_ann Try.f19 [.agg [.int .i64 a0_0, .int .i64 a0_1].toArray, .int .i64 a1] w Q = ring_Ring_Place a0_0 a0_1 a1 w Q := by kernel_rfl
theorem ring_Ring_Place_cv {a0_0 : Int} {a0_1 : Int} {a1 : Int} {w : World} {Q : Value → World → Prop} (h : ring_Ring_Place a0_0 a0_1 a1 w Q) : CV P F.ring_Ring_Place [.agg [.int .i64 a0_0, .int .i64 a0_1].toArray, .int .i64 a1] w Q := CV_of mixed Try.func19 (ring_Ring_Place_eq a0_0 a0_1 a1 w Q ▸ h)

/- 20 crier/crierref02.Right -/
def crierref02_Right_J6 : LoopSpec where
  S := Bool
  emb := fun s => [(11, .bool s)]
  ext := fun t => match getL t 11 with
    | some (.bool y3) => some (y3)
    | _ => none
  slots := [11]
  fits := fun _ => rfl
  ok := by
    intro t s h x hx
    (try dsimp only at h hx)
    split at h
    · cases h
      simp only [List.mem_cons, List.not_mem_nil, or_false] at hx
      rcases hx with rfl <;> assumption
    · cases h

def crierref02_Right_J7 : LoopSpec where
  S := Bool
  emb := fun s => [(4, .bool s)]
  ext := fun t => match getL t 4 with
    | some (.bool y6) => some (y6)
    | _ => none
  slots := [4]
  fits := fun _ => rfl
  ok := by
    intro t s h x hx
    (try dsimp only at h hx)
    split at h
    · cases h
      simp only [List.mem_cons, List.not_mem_nil, or_false] at hx
      rcases hx with rfl <;> assumption
    · cases h

def crierref02_Right_j0 (Q : Value → World → Prop) (b7 : Bool) (w8 : World) : Prop :=
 Q (.bool b7) w8

def crierref02_Right_j1 (a0 : Int) (a1 : Int) (Q : Value → World → Prop) (b4 : Bool) (w5 : World) : Prop :=
 cnd b4
 (Q (.bool false) w5)
 (JoinT (fun (J9 : crierref02_Right_J7.S → World → Prop) =>
  nz a1 <|
  cnd ((Int.tmod a0 a1) == 0)
  (nz a1 <|
  J9 (((decide ((IntKind.i64.wrap (Int.tdiv a0 a1)) ≤ 1024)) : Bool)) w5)
  (J9 ((false : Bool)) w5))
  fun (s10 : crierref02_Right_J7.S) w11 => crierref02_Right_j0 Q s10 w11)

def crierref02_Right (a0 : Int) (a1 : Int) (w : World) (Q : Value → World → Prop) : Prop :=
 JoinT (fun (J12 : crierref02_Right_J6.S → World → Prop) =>
  cnd (decide (a1 < 1))
  (J12 ((true : Bool)) w)
  (J12 (((decide (a0 < a1)) : Bool)) w))
  fun (s13 : crierref02_Right_J6.S) w14 => crierref02_Right_j1 a0 a1 Q s13 w14
def crierref02_Right_ann : Nat → Option LoopSpec := fun
  | 6 => some crierref02_Right_J6
  | 7 => some crierref02_Right_J7
  | _ => none
theorem crierref02_Right_eq (a0 : Int) (a1 : Int) (w : World) (Q : Value → World → Prop) : fnX P crierref02_Right_ann Try.f20 [.int .i64 a0, .int .i64 a1] w Q = crierref02_Right a0 a1 w Q := by kernel_rfl
theorem crierref02_Right_cv {a0 : Int} {a1 : Int} {w : World} {Q : Value → World → Prop} (h : crierref02_Right a0 a1 w Q) : CV P F.crierref02_Right [.int .i64 a0, .int .i64 a1] w Q := CV_of mixed Try.func20 (crierref02_Right_eq a0 a1 w Q ▸ h)

/- 21 crier/crierref02.Index -/
def crierref02_Index_L58 : LoopSpec where
  S := Int
  emb := fun s => [(7, .int .i64 s)]
  ext := fun t => match getL t 7 with
    | some (.int .i64 y7) => some (y7)
    | _ => none
  slots := [7]
  fits := fun _ => rfl
  ok := by
    intro t s h x hx
    (try dsimp only at h hx)
    split at h
    · cases h
      simp only [List.mem_cons, List.not_mem_nil, or_false] at hx
      rcases hx with rfl <;> assumption
    · cases h

def crierref02_Index_l0 (a0 : Int) (a1 : Int) (a2 : Int) (Q : Value → World → Prop) (n8 : Int) (w9 : World) (A10 : crierref02_Index_L58.S → World → Prop) : Prop :=
 nz a1 <|
 cnd (decide (n8 < (IntKind.i64.wrap (Int.tdiv a0 a1))))
 (cnd ((IntKind.i64.wrap (n8 * a1)) == a2)
 (Q (.int .i64 n8) w9)
 (A10 (((IntKind.i64.wrap (n8 + 1)) : Int)) w9))
 (Q (.int .i64 (-1)) w9)

def crierref02_Index (a0 : Int) (a1 : Int) (a2 : Int) (w : World) (Q : Value → World → Prop) : Prop :=
 CV P F.crierref02_Right [.int .i64 a0, .int .i64 a1] w fun v4 w5 =>
 ∃ b6 : Bool, v4 = .bool b6 ∧
 cnd (!b6)
 (Q (.int .i64 (-1)) w5)
 (LoopT (fun (s11 : crierref02_Index_L58.S) w12 A13 => crierref02_Index_l0 a0 a1 a2 Q s11 w12 A13) ((0 : Int)) w5)
def crierref02_Index_ann : Nat → Option LoopSpec := fun
  | 58 => some crierref02_Index_L58
  | _ => none
theorem crierref02_Index_eq (a0 : Int) (a1 : Int) (a2 : Int) (w : World) (Q : Value → World → Prop) : fnX P crierref02_Index_ann Try.f21 [.int .i64 a0, .int .i64 a1, .int .i64 a2] w Q = crierref02_Index a0 a1 a2 w Q := by kernel_rfl
theorem crierref02_Index_cv {a0 : Int} {a1 : Int} {a2 : Int} {w : World} {Q : Value → World → Prop} (h : crierref02_Index a0 a1 a2 w Q) : CV P F.crierref02_Index [.int .i64 a0, .int .i64 a1, .int .i64 a2] w Q := CV_of mixed Try.func21 (crierref02_Index_eq a0 a1 a2 w Q ▸ h)

/- 22 (crier/ring.Ring).Right -/
def ring_Ring_Right_J6 : LoopSpec where
  S := Bool
  emb := fun s => [(28, .bool s)]
  ext := fun t => match getL t 28 with
    | some (.bool y5) => some (y5)
    | _ => none
  slots := [28]
  fits := fun _ => rfl
  ok := by
    intro t s h x hx
    (try dsimp only at h hx)
    split at h
    · cases h
      simp only [List.mem_cons, List.not_mem_nil, or_false] at hx
      rcases hx with rfl <;> assumption
    · cases h

def ring_Ring_Right_j0 (Q : Value → World → Prop) (b6 : Bool) (w7 : World) : Prop :=
 cnd b6
 (Q (.int .i64 1) w7)
 (Q (.int .i64 0) w7)

def ring_Ring_Right (a0_0 : Int) (a0_1 : Int) (w : World) (Q : Value → World → Prop) : Prop :=
 alc [.int .i64 a0_0, .int .i64 a0_1] T.t23 w fun b3 w4 =>
 JoinT (fun (J8 : ring_Ring_Right_J6.S → World → Prop) =>
  ldI .i64 ⟨b3, 1, none⟩ w4 fun n9 =>
  cnd (decide (n9 < 1))
  (J8 ((true : Bool)) w4)
  (ldI .i64 ⟨b3, 0, none⟩ w4 fun n10 =>
  ldI .i64 ⟨b3, 1, none⟩ w4 fun n11 =>
  cnd (decide (n10 < n11))
  (J8 ((true : Bool)) w4)
  (ldI .i64 ⟨b3, 0, none⟩ w4 fun n12 =>
  ldI .i64 ⟨b3, 1, none⟩ w4 fun n13 =>
  nz n13 <|
  cnd ((Int.tmod n12 n13) != 0)
  (J8 ((true : Bool)) w4)
  (ldI .i64 ⟨b3, 0, none⟩ w4 fun n14 =>
  ldI .i64 ⟨b3, 1, none⟩ w4 fun n15 =>
  nz n15 <|
  J8 (((decide ((IntKind.i64.wrap (Int.tdiv n14 n15)) > 1024)) : Bool)) w4))))
  fun (s16 : ring_Ring_Right_J6.S) w17 => ring_Ring_Right_j0 Q s16 w17
def ring_Ring_Right_ann : Nat → Option LoopSpec := fun
  | 6 => some ring_Ring_Right_J6
  | _ => none
theorem ring_Ring_Right_eq (a0_0 : Int) (a0_1 : Int) (w : World) (Q : Value → World → Prop) : fnX P ring_Ring_Right_ann Try.f22 [.agg [.int .i64 a0_0, .int .i64 a0_1].toArray] w Q = ring_Ring_Right a0_0 a0_1 w Q := by kernel_rfl
theorem ring_Ring_Right_cv {a0_0 : Int} {a0_1 : Int} {w : World} {Q : Value → World → Prop} (h : ring_Ring_Right a0_0 a0_1 w Q) : CV P F.ring_Ring_Right [.agg [.int .i64 a0_0, .int .i64 a0_1].toArray] w Q := CV_of mixed Try.func22 (ring_Ring_Right_eq a0_0 a0_1 w Q ▸ h)

/- 23 crier/crierref02.Waits -/
def crierref02_Waits_J62 : LoopSpec where
  S := Bool
  emb := fun s => [(25, .bool s)]
  ext := fun t => match getL t 25 with
    | some (.bool y11) => some (y11)
    | _ => none
  slots := [25]
  fits := fun _ => rfl
  ok := by
    intro t s h x hx
    (try dsimp only at h hx)
    split at h
    · cases h
      simp only [List.mem_cons, List.not_mem_nil, or_false] at hx
      rcases hx with rfl <;> assumption
    · cases h

def crierref02_Waits_L252 : LoopSpec where
  S := Int × (Option Addr × Nat × Nat)
  emb := fun s => [(9, .int .i64 s.1), (11, .slice s.2.1 s.2.2.1 s.2.2.2)]
  ext := fun t => match getL t 9, getL t 11 with
    | some (.int .i64 y14), some (.slice y15 y16 y17) => some (y14, (y15, y16, y17))
    | _, _ => none
  slots := [9, 11]
  fits := fun _ => rfl
  ok := by
    intro t s h x hx
    (try dsimp only at h hx)
    split at h
    · cases h
      simp only [List.mem_cons, List.not_mem_nil, or_false] at hx
      rcases hx with rfl | rfl <;> assumption
    · cases h

def crierref02_Waits_J1009 : LoopSpec where
  S := Int × (Option Addr × Nat × Nat)
  emb := fun s => [(9, .int .i64 s.1), (11, .slice s.2.1 s.2.2.1 s.2.2.2)]
  ext := fun t => match getL t 9, getL t 11 with
    | some (.int .i64 y24), some (.slice y25 y26 y27) => some (y24, (y25, y26, y27))
    | _, _ => none
  slots := [9, 11]
  fits := fun _ => rfl
  ok := by
    intro t s h x hx
    (try dsimp only at h hx)
    split at h
    · cases h
      simp only [List.mem_cons, List.not_mem_nil, or_false] at hx
      rcases hx with rfl | rfl <;> assumption
    · cases h

def crierref02_Waits_j0 (A23 : crierref02_Waits_L252.S → World → Prop) (n28 : Int) (p29 : Option Addr) (l30 : Nat) (c31 : Nat) (w32 : World) : Prop :=
 A23 ((n28 : Int), ((p29 : Option Addr), (l30 : Nat), (c31 : Nat))) w32

def crierref02_Waits_l1 (a0 : Int) (a1 : Int) (Q : Value → World → Prop) (n10 : Int) (n18 : Int) (p19 : Option Addr) (l20 : Nat) (c21 : Nat) (w22 : World) (A23 : crierref02_Waits_L252.S → World → Prop) : Prop :=
 cnd (n18 != n10)
 (JoinT (fun (J33 : crierref02_Waits_J1009.S → World → Prop) =>
  alc [.int .i64 (IntKind.i64.wrap (n18 * a1))] T.t3 w22 fun b34 w35 =>
  runS P (Builtin.append_ #[T.t32, T.t32] T.t32 [.slice p19 l20 c21, .slice (some ⟨b34, 0, none⟩) 1 1].toArray) w35 fun p36 l37 c38 w39 =>
  nz a1 <|
  cnd ((IntKind.i64.wrap (n18 + 1)) == (IntKind.i64.wrap (Int.tdiv a0 a1)))
  (J33 ((0 : Int), ((p36 : Option Addr), (l37 : Nat), (c38 : Nat))) w39)
  (J33 (((IntKind.i64.wrap (n18 + 1)) : Int), ((p36 : Option Addr), (l37 : Nat), (c38 : Nat))) w39))
  fun (s40 : crierref02_Waits_J1009.S) w41 => crierref02_Waits_j0 A23 s40.1 s40.2.1 s40.2.2.1 s40.2.2.2 w41)
 (Q (.slice p19 l20 c21) w22)

def crierref02_Waits_j2 (a0 : Int) (a1 : Int) (Q : Value → World → Prop) (n7 : Int) (n10 : Int) (b12 : Bool) (w13 : World) : Prop :=
 cnd b12
 (Q (.slice none 0 0) w13)
 (LoopT (fun (s42 : crierref02_Waits_L252.S) w43 A44 => crierref02_Waits_l1 a0 a1 Q n10 s42.1 s42.2.1 s42.2.2.1 s42.2.2.2 w43 A44) ((n7 : Int), ((none : Option Addr), (0 : Nat), (0 : Nat))) w13)

def crierref02_Waits (a0 : Int) (a1 : Int) (a2 : Int) (a3 : Int) (w : World) (Q : Value → World → Prop) : Prop :=
 CV P F.crierref02_Index [.int .i64 a0, .int .i64 a1, .int .i64 a2] w fun v5 w6 =>
 ∃ n7 : Int, v5 = .int .i64 n7 ∧
 CV P F.crierref02_Index [.int .i64 a0, .int .i64 a1, .int .i64 a3] w6 fun v8 w9 =>
 ∃ n10 : Int, v8 = .int .i64 n10 ∧
 JoinT (fun (J45 : crierref02_Waits_J62.S → World → Prop) =>
  cnd (decide (n7 < 0))
  (J45 ((true : Bool)) w9)
  (J45 (((decide (n10 < 0)) : Bool)) w9))
  fun (s46 : crierref02_Waits_J62.S) w47 => crierref02_Waits_j2 a0 a1 Q n7 n10 s46 w47
def crierref02_Waits_ann : Nat → Option LoopSpec := fun
  | 62 => some crierref02_Waits_J62
  | 252 => some crierref02_Waits_L252
  | 1009 => some crierref02_Waits_J1009
  | _ => none
theorem crierref02_Waits_eq (a0 : Int) (a1 : Int) (a2 : Int) (a3 : Int) (w : World) (Q : Value → World → Prop) : fnX P crierref02_Waits_ann Try.f23 [.int .i64 a0, .int .i64 a1, .int .i64 a2, .int .i64 a3] w Q = crierref02_Waits a0 a1 a2 a3 w Q := by kernel_rfl
theorem crierref02_Waits_cv {a0 : Int} {a1 : Int} {a2 : Int} {a3 : Int} {w : World} {Q : Value → World → Prop} (h : crierref02_Waits a0 a1 a2 a3 w Q) : CV P F.crierref02_Waits [.int .i64 a0, .int .i64 a1, .int .i64 a2, .int .i64 a3] w Q := CV_of mixed Try.func23 (crierref02_Waits_eq a0 a1 a2 a3 w Q ▸ h)

/- 24 crier/crierref01.Same -/
def crierref01_Same_L58 : LoopSpec where
  S := Int
  emb := fun s => [(5, .int .i64 s)]
  ext := fun t => match getL t 5 with
    | some (.int .i64 y7) => some (y7)
    | _ => none
  slots := [5]
  fits := fun _ => rfl
  ok := by
    intro t s h x hx
    (try dsimp only at h hx)
    split at h
    · cases h
      simp only [List.mem_cons, List.not_mem_nil, or_false] at hx
      rcases hx with rfl <;> assumption
    · cases h

def crierref01_Same_l0 (a0 : Option Addr) (a0_n : Nat) (a1 : Option Addr) (a1_n : Nat) (Q : Value → World → Prop) (n8 : Int) (w9 : World) (A10 : crierref01_Same_L58.S → World → Prop) : Prop :=
 cnd (decide (n8 < ((a0_n : Nat) : Int)))
 (drw w9 fun w11 =>
 ix n8 a0_n fun j12 => nn a0 fun a13 =>
 ldI .i64 (a13.add (j12 * 1)) w11 fun n14 =>
 ix n8 a1_n fun j15 => nn a1 fun a16 =>
 ldI .i64 (a16.add (j15 * 1)) w11 fun n17 =>
 cnd (n14 != n17)
 (Q (.bool false) w11)
 (A10 (((IntKind.i64.wrap (n8 + 1)) : Int)) w11))
 (Q (.bool true) w9)

def crierref01_Same (a0 : Option Addr) (a0_n : Nat) (a0_c : Nat) (a1 : Option Addr) (a1_n : Nat) (a1_c : Nat) (w : World) (Q : Value → World → Prop) : Prop :=
 cnd (((a0_n : Nat) : Int) != ((a1_n : Nat) : Int))
 (Q (.bool false) w)
 (LoopT (fun (s18 : crierref01_Same_L58.S) w19 A20 => crierref01_Same_l0 a0 a0_n a1 a1_n Q s18 w19 A20) ((0 : Int)) w)
def crierref01_Same_ann : Nat → Option LoopSpec := fun
  | 58 => some crierref01_Same_L58
  | 1864 => some (ordSpec [0, 1, 2, 3, 4, 5, 6, 7, 8])
  | _ => none
theorem crierref01_Same_eq (a0 : Option Addr) (a0_n : Nat) (a0_c : Nat) (a1 : Option Addr) (a1_n : Nat) (a1_c : Nat) (w : World) (Q : Value → World → Prop) : fnX P crierref01_Same_ann Try.f24 [.slice a0 a0_n a0_c, .slice a1 a1_n a1_c] w Q = crierref01_Same a0 a0_n a0_c a1 a1_n a1_c w Q := by kernel_rfl
theorem crierref01_Same_cv {a0 : Option Addr} {a0_n : Nat} {a0_c : Nat} {a1 : Option Addr} {a1_n : Nat} {a1_c : Nat} {w : World} {Q : Value → World → Prop} (h : crierref01_Same a0 a0_n a0_c a1 a1_n a1_c w Q) : CV P F.crierref01_Same [.slice a0 a0_n a0_c, .slice a1 a1_n a1_c] w Q := CV_of mixed Try.func24 (crierref01_Same_eq a0 a0_n a0_c a1 a1_n a1_c w Q ▸ h)

/- 25 (crier/ring.Ring).Each -/

def ring_Ring_Each (a0_0 : Int) (a0_1 : Int) (a1 : Int) (a2 : Int) (w : World) (Q : Value → World → Prop) : Prop :=
 alc [.int .i64 a0_0, .int .i64 a0_1] T.t23 w fun b5 w6 =>
 alc [.int .i64 a1] T.t3 w6 fun b7 w8 =>
 alc [.int .i64 a2] T.t3 w8 fun b9 w10 =>
 Q (.func (.func F.ring_Ring_Each_1) [].toArray [.pointer (some ⟨b5, 0, none⟩), .pointer (some ⟨b7, 0, none⟩), .pointer (some ⟨b9, 0, none⟩)].toArray) w10
def ring_Ring_Each_ann : Nat → Option LoopSpec := fun _ => none
theorem ring_Ring_Each_eq (a0_0 : Int) (a0_1 : Int) (a1 : Int) (a2 : Int) (w : World) (Q : Value → World → Prop) : fnX P ring_Ring_Each_ann Try.f25 [.agg [.int .i64 a0_0, .int .i64 a0_1].toArray, .int .i64 a1, .int .i64 a2] w Q = ring_Ring_Each a0_0 a0_1 a1 a2 w Q := by kernel_rfl
theorem ring_Ring_Each_cv {a0_0 : Int} {a0_1 : Int} {a1 : Int} {a2 : Int} {w : World} {Q : Value → World → Prop} (h : ring_Ring_Each a0_0 a0_1 a1 a2 w Q) : CV P F.ring_Ring_Each [.agg [.int .i64 a0_0, .int .i64 a0_1].toArray, .int .i64 a1, .int .i64 a2] w Q := CV_of mixed Try.func25 (ring_Ring_Each_eq a0_0 a0_1 a1 a2 w Q ▸ h)

/- 26 (crier/ring.Ring).Each$1 -/
def ring_Ring_Each_1_L14 : LoopSpec where
  S := Int × Int
  emb := fun s => [(5, .int .i64 s.1), (7, .int .i64 s.2)]
  ext := fun t => match getL t 5, getL t 7 with
    | some (.int .i64 y14), some (.int .i64 y15) => some (y14, y15)
    | _, _ => none
  slots := [5, 7]
  fits := fun _ => rfl
  ok := by
    intro t s h x hx
    (try dsimp only at h hx)
    split at h
    · cases h
      simp only [List.mem_cons, List.not_mem_nil, or_false] at hx
      rcases hx with rfl | rfl <;> assumption
    · cases h

def ring_Ring_Each_1_l0 (a0 : Value) (f0 : Addr) (Q : Value → World → Prop) (n16 : Int) (n17 : Int) (w18 : World) (A19 : ring_Ring_Each_1_L14.S → World → Prop) : Prop :=
 cnd (decide (n16 > 0))
 (callVal P a0 [.int .i64 n17] w18 fun v20 w21 =>
 ∃ b22 : Bool, v20 = .bool b22 ∧
 cnd (!b22)
 (Q (.tuple [].toArray) w21)
 (ldI .i64 (f0.add 1) w21 fun n23 =>
 ldI .i64 f0 w21 fun n24 =>
 nz n24 <|
 A19 (((IntKind.i64.wrap (n16 - 1)) : Int), ((Int.tmod (IntKind.i64.wrap (n17 + n23)) n24) : Int)) w21))
 (Q (.tuple [].toArray) w18)

def ring_Ring_Each_1 (a0 : Value) (f0 : Addr) (f1 : Addr) (f2 : Addr) (w : World) (Q : Value → World → Prop) : Prop :=
 ldI .i64 f0 w fun n5 =>
 ldI .i64 (f0.add 1) w fun n6 =>
 ldI .i64 f1 w fun n7 =>
 ldI .i64 f2 w fun n8 =>
 CV P F.ring_Ring_Left [.agg [.int .i64 n5, .int .i64 n6].toArray, .int .i64 n7, .int .i64 n8] w fun v9 w10 =>
 ∃ n11 : Int, ∃ n12 : Int, v9 = .tuple [.int .i64 n11, .int .i64 n12].toArray ∧
 ldI .i64 f1 w10 fun n13 =>
 LoopT (fun (s25 : ring_Ring_Each_1_L14.S) w26 A27 => ring_Ring_Each_1_l0 a0 f0 Q s25.1 s25.2 w26 A27) ((n11 : Int), (n13 : Int)) w10
def ring_Ring_Each_1_ann : Nat → Option LoopSpec := fun
  | 14 => some ring_Ring_Each_1_L14
  | _ => none
theorem ring_Ring_Each_1_eq (a0 : Value) (f0 : Addr) (f1 : Addr) (f2 : Addr) (w : World) (Q : Value → World → Prop) : fnX P ring_Ring_Each_1_ann Try.f26 [a0, .pointer (some f0), .pointer (some f1), .pointer (some f2)] w Q = ring_Ring_Each_1 a0 f0 f1 f2 w Q := by kernel_rfl
theorem ring_Ring_Each_1_cv {a0 : Value} {f0 : Addr} {f1 : Addr} {f2 : Addr} {w : World} {Q : Value → World → Prop} (h : ring_Ring_Each_1 a0 f0 f1 f2 w Q) : CV P F.ring_Ring_Each_1 [a0, .pointer (some f0), .pointer (some f1), .pointer (some f2)] w Q := CV_of mixed Try.func26 (ring_Ring_Each_1_eq a0 f0 f1 f2 w Q ▸ h)

end Go.Proofs.Ytacklapiboeagaa
