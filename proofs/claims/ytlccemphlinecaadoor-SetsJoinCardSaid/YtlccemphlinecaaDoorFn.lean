/-
  The functions' words, printed by Gen.lean out of the translation: each word's equation with the code is asked of the kernel.
-/
import Derived.Test.YtlccemphlinecaaDoorX8
import Derived.Test.YtlccemphlinecaaDoorChecked
namespace Go.Proofs.YtlccemphlinecaaDoor
open Go X
set_option maxRecDepth 100000
set_option linter.unusedVariables false
noncomputable abbrev P : Program := Tryd.prog
theorem mixed : P.follows .mixedOrders = true := Checked.mixed Tryd.checked
abbrev F.gosem_cut_init : FuncId := 2
abbrev F.crierlaw01_SetsLeft : FuncId := 3
abbrev F.crierlaw01_SetsAny : FuncId := 4
abbrev F.crierlaw01_SetsCounts : FuncId := 5
abbrev F.crierlaw01_SetsRuns : FuncId := 6
abbrev F.crierlaw01_SetsDoes : FuncId := 7
abbrev F.crierlaw01_SetsJoin : FuncId := 8
abbrev F.crierlaw01_awake : FuncId := 9
abbrev F.sets_Of_int : FuncId := 10
abbrev F.crierlaw01_from : FuncId := 11
abbrev F.crierref01_Same : FuncId := 12
abbrev F.sets_Set_int_From : FuncId := 13
abbrev F.sets_Set_int_Take : FuncId := 14
abbrev F.sets_Set_int_Put : FuncId := 15
abbrev F.sets_Set_int_Has : FuncId := 16
abbrev F.sets_Same_int : FuncId := 17
abbrev F.sets_Set_int_Len : FuncId := 18
abbrev F.crierlaw01_List : FuncId := 19
abbrev F.sets_Union_int : FuncId := 20
abbrev F.sets_Meet_int : FuncId := 21
abbrev F.sets_Less_int : FuncId := 22
abbrev F.sets_Set_int_Runs : FuncId := 23
abbrev F.crierref01_Of : FuncId := 24
abbrev F.crierlaw01_Alike : FuncId := 25
abbrev F.crierref01_Has : FuncId := 26
abbrev F.sets_Set_int_Copy : FuncId := 27
abbrev F.crierlaw01_l0 : FuncId := 28
abbrev F.crierref01_May : FuncId := 29
abbrev F.crierref01_Put : FuncId := 30
abbrev F.crierref01_Take : FuncId := 31
abbrev F.crierref01_From : FuncId := 32
abbrev F.crierref01_Union : FuncId := 33
abbrev F.crierref01_Meet : FuncId := 34
abbrev F.crierref01_Less : FuncId := 35
abbrev F.sets_Set_int_Least : FuncId := 36
abbrev F.slices_Clone__uint64_uint64 : FuncId := 37
abbrev F.sets_Set_int_From_1 : FuncId := 38
abbrev F.math_bits_TrailingZeros64 : FuncId := 39
abbrev F.sets_word : FuncId := 40
abbrev F.math_bits_OnesCount64 : FuncId := 41
abbrev F.sets_Set_int_All : FuncId := 42
abbrev F.sets_join_int : FuncId := 43
abbrev F.sets_Union_int_1 : FuncId := 44
abbrev F.sets_Meet_int_1 : FuncId := 45
abbrev F.sets_Less_int_1 : FuncId := 46
abbrev F.sets_Set_int_Runs_1 : FuncId := 47
abbrev F.crierlaw01_Runs : FuncId := 48
abbrev F.crierref01_Runs : FuncId := 49
abbrev F.sets_Set_int_Most : FuncId := 50
abbrev F.math_bits_LeadingZeros64 : FuncId := 51
abbrev F.math_bits_Len64 : FuncId := 52
abbrev F.gosem_cut_vars : FuncId := 72
abbrev T.t0 : TypeId := 0
abbrev T.t1 : TypeId := 1
abbrev T.t2 : TypeId := 2
abbrev T.t3 : TypeId := 3
abbrev T.t4 : TypeId := 4
abbrev T.t5 : TypeId := 5
abbrev T.t6 : TypeId := 6
abbrev T.t7 : TypeId := 7
abbrev T.t8 : TypeId := 8
abbrev T.t9 : TypeId := 9
abbrev T.t10 : TypeId := 10
abbrev T.t11 : TypeId := 11
abbrev T.t12 : TypeId := 12
abbrev T.t13 : TypeId := 13
abbrev T.t14 : TypeId := 14
abbrev T.t15 : TypeId := 15
abbrev T.t16 : TypeId := 16
abbrev T.t17 : TypeId := 17
abbrev T.t18 : TypeId := 18
abbrev T.t19 : TypeId := 19
abbrev T.t20 : TypeId := 20
abbrev T.t21 : TypeId := 21
abbrev T.t22 : TypeId := 22
abbrev T.t23 : TypeId := 23
abbrev T.t24 : TypeId := 24
abbrev T.t25 : TypeId := 25
abbrev T.t26 : TypeId := 26
abbrev T.t27 : TypeId := 27
abbrev T.t28 : TypeId := 28
abbrev T.t29 : TypeId := 29
abbrev T.t30 : TypeId := 30
abbrev T.t31 : TypeId := 31
abbrev T.t32 : TypeId := 32
abbrev T.t33 : TypeId := 33
abbrev T.t34 : TypeId := 34
abbrev T.t35 : TypeId := 35
abbrev T.t36 : TypeId := 36
abbrev T.t37 : TypeId := 37
abbrev T.t38 : TypeId := 38
abbrev T.t39 : TypeId := 39
abbrev T.t40 : TypeId := 40
abbrev T.t41 : TypeId := 41
abbrev T.t42 : TypeId := 42
abbrev T.t43 : TypeId := 43
abbrev T.t44 : TypeId := 44
abbrev T.t45 : TypeId := 45
abbrev T.t46 : TypeId := 46
abbrev T.t47 : TypeId := 47
abbrev T.t48 : TypeId := 48
abbrev T.t49 : TypeId := 49
abbrev T.t50 : TypeId := 50
abbrev T.t51 : TypeId := 51
abbrev T.t52 : TypeId := 52
abbrev T.t53 : TypeId := 53
abbrev T.t54 : TypeId := 54
abbrev T.t55 : TypeId := 55
abbrev T.t56 : TypeId := 56
abbrev T.t57 : TypeId := 57
abbrev T.t58 : TypeId := 58
abbrev T.t59 : TypeId := 59
abbrev T.t60 : TypeId := 60
abbrev T.t61 : TypeId := 61
abbrev T.t62 : TypeId := 62
abbrev T.t63 : TypeId := 63
abbrev T.t64 : TypeId := 64
abbrev T.t65 : TypeId := 65
abbrev T.t66 : TypeId := 66
abbrev T.t67 : TypeId := 67
abbrev T.t68 : TypeId := 68
abbrev T.t69 : TypeId := 69
abbrev T.t70 : TypeId := 70
abbrev T.t71 : TypeId := 71
abbrev T.t72 : TypeId := 72
abbrev T.t73 : TypeId := 73
abbrev T.t74 : TypeId := 74
abbrev T.t75 : TypeId := 75
abbrev T.t76 : TypeId := 76
abbrev T.t77 : TypeId := 77
abbrev T.t78 : TypeId := 78
abbrev T.t79 : TypeId := 79
abbrev T.t80 : TypeId := 80
abbrev T.t81 : TypeId := 81
abbrev T.t82 : TypeId := 82
/- 3 crier/crierlaw01.SetsLeft -/
def crierlaw01_SetsLeft_J126 : LoopSpec where
  S := Bool
  emb := fun s => [(29, .bool s)]
  ext := fun t => match getL t 29 with
    | some (.bool y18) => some (y18)
    | _ => none
  slots := [29]
  fits := fun _ => rfl
  ok := by
    intro t s h x hx
    (try dsimp only at h hx)
    split at h
    · cases h
      simp only [List.mem_cons, List.not_mem_nil, or_false] at hx
      rcases hx with rfl <;> assumption
    · cases h

def crierlaw01_SetsLeft_J1022 : LoopSpec where
  S := Bool
  emb := fun s => [(54, .bool s)]
  ext := fun t => match getL t 54 with
    | some (.bool y33) => some (y33)
    | _ => none
  slots := [54]
  fits := fun _ => rfl
  ok := by
    intro t s h x hx
    (try dsimp only at h hx)
    split at h
    · cases h
      simp only [List.mem_cons, List.not_mem_nil, or_false] at hx
      rcases hx with rfl <;> assumption
    · cases h

def crierlaw01_SetsLeft_J8189 : LoopSpec where
  S := Unit
  emb := fun _ => []
  ext := fun _ => some ()
  slots := []
  fits := fun _ => rfl
  ok := by
    intro t s h x hx; cases hx

def crierlaw01_SetsLeft_j0 (Q : Value → World → Prop) (p24 : Option Addr) (l25 : Nat) (c26 : Nat) (b36 : Nat) (w42 : World) (ds43 : List Deferred) : Prop :=
 ldL ⟨b36, 0, none⟩ w42 fun p44 l45 c46 =>
 CV P F.crierref01_Same [.slice p44 l45 c46, .slice p24 l25 c26] w42 fun v47 w48 =>
 ∃ b49 : Bool, v47 = .bool b49 ∧
 takeX ds43 w48 fun w50 =>
 Q (.bool b49) w50

def crierlaw01_SetsLeft_r1 (b7 : Nat) (b15 : Nat) (b36 : Nat) (l52 : Nat) (r53 : Loop) (vs54 : List Value) (w55 : World) (Q56 : Value → World → Prop) : Prop :=
 X.b1 vs54 fun v57 =>
 ∃ n58 : Int, v57 = .int .i64 n58 ∧
 recAt w55 l52 r53 .ready none ∧ setR w55 l52 r53 .busy none fun w59 =>
 ldL ⟨b36, 0, none⟩ w59 fun p60 l61 c62 =>
 alc [.int .i64 n58] T.t3 w59 fun b63 w64 =>
 runS P (Builtin.append_ #[T.t22, T.t22] T.t22 [.slice p60 l61 c62, .slice (some ⟨b63, 0, none⟩) 1 1].toArray) w64 fun p65 l66 c67 w68 =>
 st1 (.slice p65 l66 c67) ⟨b36, 0, none⟩ w68 fun w69 =>
 ldP ⟨b15, 0, none⟩ w69 fun p70 =>
 ldI .i64 ⟨b7, 0, none⟩ w69 fun n71 =>
 CV P F.sets_Set_int_Take [.pointer p70, .int .i64 n71] w69 fun v72 w73 =>
 ∃ b74 : Bool, v72 = .bool b74 ∧
 ldP ⟨b15, 0, none⟩ w73 fun p75 =>
 CV P F.sets_Set_int_Take [.pointer p75, .int .i64 n58] w73 fun v76 w77 =>
 ∃ b78 : Bool, v76 = .bool b78 ∧
 ldP ⟨b15, 0, none⟩ w77 fun p79 =>
 CV P F.sets_Set_int_Put [.pointer p79, .int .i64 (IntKind.i64.wrap (n58 + 1))] w77 fun v80 w81 =>
 ∃ b82 : Bool, v80 = .bool b82 ∧
 ldL ⟨b36, 0, none⟩ w81 fun p83 l84 c85 =>
 cnd (decide (((l84 : Nat) : Int) > 20000))
 (recAt w81 l52 r53 .busy none ∧ setR w81 l52 r53 .done (some (.exit 0)) fun w86 => Q56 (.bool false) w86)
 (recAt w81 l52 r53 .busy none ∧ setR w81 l52 r53 .ready none fun w87 => Q56 (.bool true) w87)

def crierlaw01_SetsLeft_j2 (a1 : Int) (Q : Value → World → Prop) (b7 : Nat) (b15 : Nat) (p24 : Option Addr) (l25 : Nat) (c26 : Nat) (b34 : Bool) (w35 : World) : Prop :=
 cnd b34
 (Q (.bool false) w35)
 (alc [.slice none 0 0] T.t22 w35 fun b36 w37 =>
 ldP ⟨b15, 0, none⟩ w37 fun p38 =>
 CV P F.sets_Set_int_From [.pointer p38, .int .i64 a1] w37 fun v39 w40 =>
 ∃ v41 : Value, v39 = v41 ∧
 JoinT (fun (J51 : crierlaw01_SetsLeft_J8189.S × List Deferred → World → Prop) =>
  RF P none 1 (v41) w40 (fun l52 r53 vs54 w55 Q56 => crierlaw01_SetsLeft_r1 b7 b15 b36 l52 r53 vs54 w55 Q56) fun mk88 jp89 w90 =>
  jmpX jp89
  (J51 ((), (mk88 ++ [])) w90)
  (takeX (mk88 ++ []) w90 fun w91 =>
  Q (.bool false) w91)
  fun id92 => (id92 = 0 → (J51 ((), (mk88 ++ [])) w90)) ∧ (id92 ≠ 0 → (False)))
  fun (s93 : crierlaw01_SetsLeft_J8189.S × List Deferred) w94 => crierlaw01_SetsLeft_j0 Q p24 l25 c26 b36 w94 s93.2)

def crierlaw01_SetsLeft_j3 (a1 : Int) (a2 : Int) (Q : Value → World → Prop) (b7 : Nat) (b15 : Nat) (b19 : Bool) (w20 : World) : Prop :=
 cnd b19
 (Q (.bool false) w20)
 (ldP ⟨b15, 0, none⟩ w20 fun p21 =>
 CV P F.crierlaw01_from [.pointer p21, .int .i64 a1, .int .i64 20000] w20 fun v22 w23 =>
 ∃ (p24 : Option Addr) (l25 c26 : Nat), v22 = .slice p24 l25 c26 ∧
 ldP ⟨b15, 0, none⟩ w23 fun p27 =>
 CV P F.crierlaw01_from [.pointer p27, .int .i64 a1, .int .i64 (IntKind.i64.wrap (a2))] w23 fun v28 w29 =>
 ∃ (p30 : Option Addr) (l31 c32 : Nat), v28 = .slice p30 l31 c32 ∧
 JoinT (fun (J95 : crierlaw01_SetsLeft_J1022.S → World → Prop) =>
  cnd (((l31 : Nat) : Int) != (if (IntKind.i64.wrap (a2)) < ((l25 : Nat) : Int) then (IntKind.i64.wrap (a2)) else ((l25 : Nat) : Int)))
  (J95 ((true : Bool)) w29)
  (slL p24 l25 c26 1 none (some ((l31 : Nat) : Int)) none fun p96 l97 c98 =>
  CV P F.crierref01_Same [.slice p30 l31 c32, .slice p96 l97 c98] w29 fun v99 w100 =>
  ∃ b101 : Bool, v99 = .bool b101 ∧
  J95 (((!b101) : Bool)) w100))
  fun (s102 : crierlaw01_SetsLeft_J1022.S) w103 => crierlaw01_SetsLeft_j2 a1 Q b7 b15 p24 l25 c26 s102 w103)

def crierlaw01_SetsLeft (a0 : Option Addr) (a0_n : Nat) (a0_c : Nat) (a1 : Int) (a2 : Int) (a3 : Int) (w : World) (Q : Value → World → Prop) : Prop :=
 alc [.int .i64 a3] T.t3 w fun b7 w8 =>
 CV P F.crierlaw01_awake [] w8 fun v9 w10 =>
 ∃ b11 : Bool, v9 = .bool b11 ∧
 cnd (!b11)
 (Q (.bool false) w10)
 (cnd (decide (((a0_n : Nat) : Int) > 2000))
 (Q (.bool b11) w10)
 (CV P F.sets_Of_int [.slice a0 a0_n a0_c] w10 fun v12 w13 =>
 ∃ p14 : Option Addr, v12 = .pointer p14 ∧
 alc [.pointer none] T.t24 w13 fun b15 w16 =>
 st1 (.pointer p14) ⟨b15, 0, none⟩ w16 fun w17 =>
 JoinT (fun (J104 : crierlaw01_SetsLeft_J126.S → World → Prop) =>
  cnd (!b11)
  (J104 ((true : Bool)) w17)
  (ldP ⟨b15, 0, none⟩ w17 fun p105 =>
  J104 (((Option.isNone p105) : Bool)) w17))
  fun (s106 : crierlaw01_SetsLeft_J126.S) w107 => crierlaw01_SetsLeft_j3 a1 a2 Q b7 b15 s106 w107))
def crierlaw01_SetsLeft_ann : Nat → Option LoopSpec := fun
  | 126 => some crierlaw01_SetsLeft_J126
  | 1022 => some crierlaw01_SetsLeft_J1022
  | 8189 => some crierlaw01_SetsLeft_J8189
  | _ => none
theorem crierlaw01_SetsLeft_eq (a0 : Option Addr) (a0_n : Nat) (a0_c : Nat) (a1 : Int) (a2 : Int) (a3 : Int) (w : World) (Q : Value → World → Prop) : fnX P crierlaw01_SetsLeft_ann Tryd.f3 [.slice a0 a0_n a0_c, .int .i64 a1, .int .u8 a2, .int .i64 a3] w Q = crierlaw01_SetsLeft a0 a0_n a0_c a1 a2 a3 w Q := by kernel_rfl
theorem crierlaw01_SetsLeft_cv {a0 : Option Addr} {a0_n : Nat} {a0_c : Nat} {a1 : Int} {a2 : Int} {a3 : Int} {w : World} {Q : Value → World → Prop} (h : crierlaw01_SetsLeft a0 a0_n a0_c a1 a2 a3 w Q) : CV P F.crierlaw01_SetsLeft [.slice a0 a0_n a0_c, .int .i64 a1, .int .u8 a2, .int .i64 a3] w Q := CV_of mixed Tryd.func3 (crierlaw01_SetsLeft_eq a0 a0_n a0_c a1 a2 a3 w Q ▸ h)

/- 4 crier/crierlaw01.SetsAny -/
def crierlaw01_SetsAny_J30 : LoopSpec where
  S := Bool
  emb := fun s => [(21, .bool s)]
  ext := fun t => match getL t 21 with
    | some (.bool y10) => some (y10)
    | _ => none
  slots := [21]
  fits := fun _ => rfl
  ok := by
    intro t s h x hx
    (try dsimp only at h hx)
    split at h
    · cases h
      simp only [List.mem_cons, List.not_mem_nil, or_false] at hx
      rcases hx with rfl <;> assumption
    · cases h

def crierlaw01_SetsAny_J126 : LoopSpec where
  S := Bool
  emb := fun s => [(35, .bool s)]
  ext := fun t => match getL t 35 with
    | some (.bool y19) => some (y19)
    | _ => none
  slots := [35]
  fits := fun _ => rfl
  ok := by
    intro t s h x hx
    (try dsimp only at h hx)
    split at h
    · cases h
      simp only [List.mem_cons, List.not_mem_nil, or_false] at hx
      rcases hx with rfl <;> assumption
    · cases h

def crierlaw01_SetsAny_L1018 : LoopSpec where
  S := Int
  emb := fun s => [(8, .int .i64 s)]
  ext := fun t => match getL t 8 with
    | some (.int .i64 y22) => some (y22)
    | _ => none
  slots := [8]
  fits := fun _ => rfl
  ok := by
    intro t s h x hx
    (try dsimp only at h hx)
    split at h
    · cases h
      simp only [List.mem_cons, List.not_mem_nil, or_false] at hx
      rcases hx with rfl <;> assumption
    · cases h

def crierlaw01_SetsAny_L2042 : LoopSpec where
  S := Int
  emb := fun s => [(9, .int .i64 s)]
  ext := fun t => match getL t 9 with
    | some (.int .i64 y32) => some (y32)
    | _ => none
  slots := [9]
  fits := fun _ => rfl
  ok := by
    intro t s h x hx
    (try dsimp only at h hx)
    split at h
    · cases h
      simp only [List.mem_cons, List.not_mem_nil, or_false] at hx
      rcases hx with rfl <;> assumption
    · cases h

def crierlaw01_SetsAny_L4090 : LoopSpec where
  S := Int
  emb := fun s => [(10, .int .i64 s)]
  ext := fun t => match getL t 10 with
    | some (.int .i64 y42) => some (y42)
    | _ => none
  slots := [10]
  fits := fun _ => rfl
  ok := by
    intro t s h x hx
    (try dsimp only at h hx)
    split at h
    · cases h
      simp only [List.mem_cons, List.not_mem_nil, or_false] at hx
      rcases hx with rfl <;> assumption
    · cases h

def crierlaw01_SetsAny_J32722 : LoopSpec where
  S := Unit
  emb := fun _ => []
  ext := fun _ => some ()
  slots := []
  fits := fun _ => rfl
  ok := by
    intro t s h x hx; cases hx

def crierlaw01_SetsAny_j0 (n43 : Int) (A45 : crierlaw01_SetsAny_L4090.S → World → Prop) (w46 : World) : Prop :=
 A45 (((IntKind.i64.wrap (n43 + 1)) : Int)) w46

def crierlaw01_SetsAny_J1023 : LoopSpec where
  S := Bool
  emb := fun s => [(4, .bool s)]
  ext := fun t => match getL t 4 with
    | some (.bool y62) => some (y62)
    | _ => none
  slots := [4]
  fits := fun _ => rfl
  ok := by
    intro t s h x hx
    (try dsimp only at h hx)
    split at h
    · cases h
      simp only [List.mem_cons, List.not_mem_nil, or_false] at hx
      rcases hx with rfl <;> assumption
    · cases h

def crierlaw01_SetsAny_j1 (Q : Value → World → Prop) (b63 : Bool) (w64 : World) : Prop :=
 Q (.bool b63) w64

def crierlaw01_SetsAny_l2 (a1 : Option Addr) (a1_n : Nat) (Q : Value → World → Prop) (p15 : Option Addr) (p18 : Option Addr) (n43 : Int) (w44 : World) (A45 : crierlaw01_SetsAny_L4090.S → World → Prop) : Prop :=
 cnd (decide (n43 < ((a1_n : Nat) : Int)))
 (JoinT (fun (J47 : crierlaw01_SetsAny_J32722.S → World → Prop) =>
  ix n43 a1_n fun j48 => nn a1 fun a49 =>
  ldI .i64 (a49.add (j48 * 1)) w44 fun n50 =>
  CV P F.sets_Set_int_Has [.pointer p15, .int .i64 n50] w44 fun v51 w52 =>
  ∃ b53 : Bool, v51 = .bool b53 ∧
  cnd (!b53)
  (ix n43 a1_n fun j54 => nn a1 fun a55 =>
  ldI .i64 (a55.add (j54 * 1)) w52 fun n56 =>
  CV P F.sets_Set_int_Take [.pointer p18, .int .i64 n56] w52 fun v57 w58 =>
  ∃ b59 : Bool, v57 = .bool b59 ∧
  J47 () w58)
  (J47 () w52))
  fun (s60 : crierlaw01_SetsAny_J32722.S) w61 => crierlaw01_SetsAny_j0 n43 A45 w61)
 (JoinT (fun (J65 : crierlaw01_SetsAny_J1023.S → World → Prop) =>
  CV P F.sets_Same_int [.pointer p15, .pointer p18] w44 fun v66 w67 =>
  ∃ b68 : Bool, v66 = .bool b68 ∧
  cnd b68
  (CV P F.sets_Same_int [.pointer p18, .pointer p15] w67 fun v69 w70 =>
  ∃ b71 : Bool, v69 = .bool b71 ∧
  cnd b71
  (CV P F.sets_Set_int_Len [.pointer p15] w70 fun v72 w73 =>
  ∃ n74 : Int, v72 = .int .i64 n74 ∧
  CV P F.sets_Set_int_Len [.pointer p18] w73 fun v75 w76 =>
  ∃ n77 : Int, v75 = .int .i64 n77 ∧
  cnd (n74 == n77)
  (CV P F.crierlaw01_List [.pointer p15] w76 fun v78 w79 =>
  ∃ (p80 : Option Addr) (l81 c82 : Nat), v78 = .slice p80 l81 c82 ∧
  CV P F.crierlaw01_List [.pointer p18] w79 fun v83 w84 =>
  ∃ (p85 : Option Addr) (l86 c87 : Nat), v83 = .slice p85 l86 c87 ∧
  CV P F.crierref01_Same [.slice p80 l81 c82, .slice p85 l86 c87] w84 fun v88 w89 =>
  ∃ b90 : Bool, v88 = .bool b90 ∧
  J65 ((b90 : Bool)) w89)
  (J65 ((false : Bool)) w76))
  (J65 ((false : Bool)) w70))
  (J65 ((false : Bool)) w67))
  fun (s91 : crierlaw01_SetsAny_J1023.S) w92 => crierlaw01_SetsAny_j1 Q s91 w92)

def crierlaw01_SetsAny_l3 (a0 : Option Addr) (a0_n : Nat) (a1 : Option Addr) (a1_n : Nat) (Q : Value → World → Prop) (p15 : Option Addr) (p18 : Option Addr) (n33 : Int) (w34 : World) (A35 : crierlaw01_SetsAny_L2042.S → World → Prop) : Prop :=
 cnd (decide (n33 ≥ 0))
 (ix n33 a0_n fun j36 => nn a0 fun a37 =>
 ldI .i64 (a37.add (j36 * 1)) w34 fun n38 =>
 CV P F.sets_Set_int_Put [.pointer p18, .int .i64 n38] w34 fun v39 w40 =>
 ∃ b41 : Bool, v39 = .bool b41 ∧
 A35 (((IntKind.i64.wrap (n33 - 1)) : Int)) w40)
 (LoopT (fun (s93 : crierlaw01_SetsAny_L4090.S) w94 A95 => crierlaw01_SetsAny_l2 a1 a1_n Q p15 p18 s93 w94 A95) ((0 : Int)) w34)

def crierlaw01_SetsAny_l4 (a0 : Option Addr) (a0_n : Nat) (a1 : Option Addr) (a1_n : Nat) (Q : Value → World → Prop) (p15 : Option Addr) (p18 : Option Addr) (n23 : Int) (w24 : World) (A25 : crierlaw01_SetsAny_L1018.S → World → Prop) : Prop :=
 cnd (decide (n23 < ((a1_n : Nat) : Int)))
 (ix n23 a1_n fun j26 => nn a1 fun a27 =>
 ldI .i64 (a27.add (j26 * 1)) w24 fun n28 =>
 CV P F.sets_Set_int_Put [.pointer p18, .int .i64 n28] w24 fun v29 w30 =>
 ∃ b31 : Bool, v29 = .bool b31 ∧
 A25 (((IntKind.i64.wrap (n23 + 1)) : Int)) w30)
 (LoopT (fun (s96 : crierlaw01_SetsAny_L2042.S) w97 A98 => crierlaw01_SetsAny_l3 a0 a0_n a1 a1_n Q p15 p18 s96 w97 A98) (((IntKind.i64.wrap (((a0_n : Nat) : Int) - 1)) : Int)) w24)

def crierlaw01_SetsAny_j5 (a0 : Option Addr) (a0_n : Nat) (a1 : Option Addr) (a1_n : Nat) (Q : Value → World → Prop) (p15 : Option Addr) (p18 : Option Addr) (b20 : Bool) (w21 : World) : Prop :=
 cnd b20
 (Q (.bool false) w21)
 (LoopT (fun (s99 : crierlaw01_SetsAny_L1018.S) w100 A101 => crierlaw01_SetsAny_l4 a0 a0_n a1 a1_n Q p15 p18 s99 w100 A101) ((0 : Int)) w21)

def crierlaw01_SetsAny_j6 (a0 : Option Addr) (a0_n : Nat) (a0_c : Nat) (a1 : Option Addr) (a1_n : Nat) (Q : Value → World → Prop) (b9 : Bool) (b11 : Bool) (w12 : World) : Prop :=
 cnd b11
 (Q (.bool b9) w12)
 (CV P F.sets_Of_int [.slice a0 a0_n a0_c] w12 fun v13 w14 =>
 ∃ p15 : Option Addr, v13 = .pointer p15 ∧
 CV P F.sets_Of_int [.slice none 0 0] w14 fun v16 w17 =>
 ∃ p18 : Option Addr, v16 = .pointer p18 ∧
 JoinT (fun (J102 : crierlaw01_SetsAny_J126.S → World → Prop) =>
  cnd (!b9)
  (J102 ((true : Bool)) w17)
  (cnd (Option.isNone p15)
  (J102 ((true : Bool)) w17)
  (J102 (((Option.isNone p18) : Bool)) w17)))
  fun (s103 : crierlaw01_SetsAny_J126.S) w104 => crierlaw01_SetsAny_j5 a0 a0_n a1 a1_n Q p15 p18 s103 w104)

def crierlaw01_SetsAny (a0 : Option Addr) (a0_n : Nat) (a0_c : Nat) (a1 : Option Addr) (a1_n : Nat) (a1_c : Nat) (w : World) (Q : Value → World → Prop) : Prop :=
 CV P F.crierlaw01_awake [] w fun v7 w8 =>
 ∃ b9 : Bool, v7 = .bool b9 ∧
 cnd (!b9)
 (Q (.bool false) w8)
 (JoinT (fun (J105 : crierlaw01_SetsAny_J30.S → World → Prop) =>
  cnd (decide (((a0_n : Nat) : Int) > 2000))
  (J105 ((true : Bool)) w8)
  (J105 (((decide (((a1_n : Nat) : Int) > 2000)) : Bool)) w8))
  fun (s106 : crierlaw01_SetsAny_J30.S) w107 => crierlaw01_SetsAny_j6 a0 a0_n a0_c a1 a1_n Q b9 s106 w107)
def crierlaw01_SetsAny_ann : Nat → Option LoopSpec := fun
  | 30 => some crierlaw01_SetsAny_J30
  | 126 => some crierlaw01_SetsAny_J126
  | 1018 => some crierlaw01_SetsAny_L1018
  | 2042 => some crierlaw01_SetsAny_L2042
  | 4090 => some crierlaw01_SetsAny_L4090
  | 32722 => some crierlaw01_SetsAny_J32722
  | 1023 => some crierlaw01_SetsAny_J1023
  | _ => none
theorem crierlaw01_SetsAny_eq (a0 : Option Addr) (a0_n : Nat) (a0_c : Nat) (a1 : Option Addr) (a1_n : Nat) (a1_c : Nat) (w : World) (Q : Value → World → Prop) : fnX P crierlaw01_SetsAny_ann Tryd.f4 [.slice a0 a0_n a0_c, .slice a1 a1_n a1_c] w Q = crierlaw01_SetsAny a0 a0_n a0_c a1 a1_n a1_c w Q := by kernel_rfl
theorem crierlaw01_SetsAny_cv {a0 : Option Addr} {a0_n : Nat} {a0_c : Nat} {a1 : Option Addr} {a1_n : Nat} {a1_c : Nat} {w : World} {Q : Value → World → Prop} (h : crierlaw01_SetsAny a0 a0_n a0_c a1 a1_n a1_c w Q) : CV P F.crierlaw01_SetsAny [.slice a0 a0_n a0_c, .slice a1 a1_n a1_c] w Q := CV_of mixed Tryd.func4 (crierlaw01_SetsAny_eq a0 a0_n a0_c a1 a1_n a1_c w Q ▸ h)

/- 5 crier/crierlaw01.SetsCounts -/
def crierlaw01_SetsCounts_J30 : LoopSpec where
  S := Bool
  emb := fun s => [(21, .bool s)]
  ext := fun t => match getL t 21 with
    | some (.bool y10) => some (y10)
    | _ => none
  slots := [21]
  fits := fun _ => rfl
  ok := by
    intro t s h x hx
    (try dsimp only at h hx)
    split at h
    · cases h
      simp only [List.mem_cons, List.not_mem_nil, or_false] at hx
      rcases hx with rfl <;> assumption
    · cases h

def crierlaw01_SetsCounts_J126 : LoopSpec where
  S := Bool
  emb := fun s => [(36, .bool s)]
  ext := fun t => match getL t 36 with
    | some (.bool y19) => some (y19)
    | _ => none
  slots := [36]
  fits := fun _ => rfl
  ok := by
    intro t s h x hx
    (try dsimp only at h hx)
    split at h
    · cases h
      simp only [List.mem_cons, List.not_mem_nil, or_false] at hx
      rcases hx with rfl <;> assumption
    · cases h

def crierlaw01_SetsCounts_J510 : LoopSpec where
  S := Bool
  emb := fun s => [(55, .bool s)]
  ext := fun t => match getL t 55 with
    | some (.bool y31) => some (y31)
    | _ => none
  slots := [55]
  fits := fun _ => rfl
  ok := by
    intro t s h x hx
    (try dsimp only at h hx)
    split at h
    · cases h
      simp only [List.mem_cons, List.not_mem_nil, or_false] at hx
      rcases hx with rfl <;> assumption
    · cases h

def crierlaw01_SetsCounts_J511 : LoopSpec where
  S := Bool
  emb := fun s => [(4, .bool s)]
  ext := fun t => match getL t 4 with
    | some (.bool y34) => some (y34)
    | _ => none
  slots := [4]
  fits := fun _ => rfl
  ok := by
    intro t s h x hx
    (try dsimp only at h hx)
    split at h
    · cases h
      simp only [List.mem_cons, List.not_mem_nil, or_false] at hx
      rcases hx with rfl <;> assumption
    · cases h

def crierlaw01_SetsCounts_j0 (Q : Value → World → Prop) (b35 : Bool) (w36 : World) : Prop :=
 Q (.bool b35) w36

def crierlaw01_SetsCounts_j1 (Q : Value → World → Prop) (p15 : Option Addr) (p18 : Option Addr) (p24 : Option Addr) (p27 : Option Addr) (p30 : Option Addr) (b32 : Bool) (w33 : World) : Prop :=
 cnd b32
 (Q (.bool false) w33)
 (JoinT (fun (J37 : crierlaw01_SetsCounts_J511.S → World → Prop) =>
  CV P F.sets_Set_int_Len [.pointer p24] w33 fun v38 w39 =>
  ∃ n40 : Int, v38 = .int .i64 n40 ∧
  CV P F.sets_Set_int_Len [.pointer p27] w39 fun v41 w42 =>
  ∃ n43 : Int, v41 = .int .i64 n43 ∧
  CV P F.sets_Set_int_Len [.pointer p15] w42 fun v44 w45 =>
  ∃ n46 : Int, v44 = .int .i64 n46 ∧
  CV P F.sets_Set_int_Len [.pointer p18] w45 fun v47 w48 =>
  ∃ n49 : Int, v47 = .int .i64 n49 ∧
  cnd ((IntKind.i64.wrap (n40 + n43)) == (IntKind.i64.wrap (n46 + n49)))
  (CV P F.sets_Set_int_Len [.pointer p30] w48 fun v50 w51 =>
  ∃ n52 : Int, v50 = .int .i64 n52 ∧
  CV P F.sets_Set_int_Len [.pointer p27] w51 fun v53 w54 =>
  ∃ n55 : Int, v53 = .int .i64 n55 ∧
  CV P F.sets_Set_int_Len [.pointer p15] w54 fun v56 w57 =>
  ∃ n58 : Int, v56 = .int .i64 n58 ∧
  cnd ((IntKind.i64.wrap (n52 + n55)) == n58)
  (CV P F.sets_Union_int [.pointer p30, .pointer p27] w57 fun v59 w60 =>
  ∃ p61 : Option Addr, v59 = .pointer p61 ∧
  CV P F.sets_Same_int [.pointer p61, .pointer p15] w60 fun v62 w63 =>
  ∃ b64 : Bool, v62 = .bool b64 ∧
  cnd b64
  (CV P F.sets_Union_int [.pointer p18, .pointer p15] w63 fun v65 w66 =>
  ∃ p67 : Option Addr, v65 = .pointer p67 ∧
  CV P F.sets_Same_int [.pointer p67, .pointer p24] w66 fun v68 w69 =>
  ∃ b70 : Bool, v68 = .bool b70 ∧
  J37 ((b70 : Bool)) w69)
  (J37 ((false : Bool)) w63))
  (J37 ((false : Bool)) w57))
  (J37 ((false : Bool)) w48))
  fun (s71 : crierlaw01_SetsCounts_J511.S) w72 => crierlaw01_SetsCounts_j0 Q s71 w72)

def crierlaw01_SetsCounts_j2 (Q : Value → World → Prop) (p15 : Option Addr) (p18 : Option Addr) (b20 : Bool) (w21 : World) : Prop :=
 cnd b20
 (Q (.bool false) w21)
 (CV P F.sets_Union_int [.pointer p15, .pointer p18] w21 fun v22 w23 =>
 ∃ p24 : Option Addr, v22 = .pointer p24 ∧
 CV P F.sets_Meet_int [.pointer p15, .pointer p18] w23 fun v25 w26 =>
 ∃ p27 : Option Addr, v25 = .pointer p27 ∧
 CV P F.sets_Less_int [.pointer p15, .pointer p18] w26 fun v28 w29 =>
 ∃ p30 : Option Addr, v28 = .pointer p30 ∧
 JoinT (fun (J73 : crierlaw01_SetsCounts_J510.S → World → Prop) =>
  cnd (Option.isNone p24)
  (J73 ((true : Bool)) w29)
  (cnd (Option.isNone p27)
  (J73 ((true : Bool)) w29)
  (J73 (((Option.isNone p30) : Bool)) w29)))
  fun (s74 : crierlaw01_SetsCounts_J510.S) w75 => crierlaw01_SetsCounts_j1 Q p15 p18 p24 p27 p30 s74 w75)

def crierlaw01_SetsCounts_j3 (a0 : Option Addr) (a0_n : Nat) (a0_c : Nat) (a1 : Option Addr) (a1_n : Nat) (a1_c : Nat) (Q : Value → World → Prop) (b9 : Bool) (b11 : Bool) (w12 : World) : Prop :=
 cnd b11
 (Q (.bool b9) w12)
 (CV P F.sets_Of_int [.slice a0 a0_n a0_c] w12 fun v13 w14 =>
 ∃ p15 : Option Addr, v13 = .pointer p15 ∧
 CV P F.sets_Of_int [.slice a1 a1_n a1_c] w14 fun v16 w17 =>
 ∃ p18 : Option Addr, v16 = .pointer p18 ∧
 JoinT (fun (J76 : crierlaw01_SetsCounts_J126.S → World → Prop) =>
  cnd (!b9)
  (J76 ((true : Bool)) w17)
  (cnd (Option.isNone p15)
  (J76 ((true : Bool)) w17)
  (J76 (((Option.isNone p18) : Bool)) w17)))
  fun (s77 : crierlaw01_SetsCounts_J126.S) w78 => crierlaw01_SetsCounts_j2 Q p15 p18 s77 w78)

def crierlaw01_SetsCounts (a0 : Option Addr) (a0_n : Nat) (a0_c : Nat) (a1 : Option Addr) (a1_n : Nat) (a1_c : Nat) (w : World) (Q : Value → World → Prop) : Prop :=
 CV P F.crierlaw01_awake [] w fun v7 w8 =>
 ∃ b9 : Bool, v7 = .bool b9 ∧
 cnd (!b9)
 (Q (.bool false) w8)
 (JoinT (fun (J79 : crierlaw01_SetsCounts_J30.S → World → Prop) =>
  cnd (decide (((a0_n : Nat) : Int) > 2000))
  (J79 ((true : Bool)) w8)
  (J79 (((decide (((a1_n : Nat) : Int) > 2000)) : Bool)) w8))
  fun (s80 : crierlaw01_SetsCounts_J30.S) w81 => crierlaw01_SetsCounts_j3 a0 a0_n a0_c a1 a1_n a1_c Q b9 s80 w81)
def crierlaw01_SetsCounts_ann : Nat → Option LoopSpec := fun
  | 30 => some crierlaw01_SetsCounts_J30
  | 126 => some crierlaw01_SetsCounts_J126
  | 510 => some crierlaw01_SetsCounts_J510
  | 511 => some crierlaw01_SetsCounts_J511
  | _ => none
theorem crierlaw01_SetsCounts_eq (a0 : Option Addr) (a0_n : Nat) (a0_c : Nat) (a1 : Option Addr) (a1_n : Nat) (a1_c : Nat) (w : World) (Q : Value → World → Prop) : fnX P crierlaw01_SetsCounts_ann Tryd.f5 [.slice a0 a0_n a0_c, .slice a1 a1_n a1_c] w Q = crierlaw01_SetsCounts a0 a0_n a0_c a1 a1_n a1_c w Q := by kernel_rfl
theorem crierlaw01_SetsCounts_cv {a0 : Option Addr} {a0_n : Nat} {a0_c : Nat} {a1 : Option Addr} {a1_n : Nat} {a1_c : Nat} {w : World} {Q : Value → World → Prop} (h : crierlaw01_SetsCounts a0 a0_n a0_c a1 a1_n a1_c w Q) : CV P F.crierlaw01_SetsCounts [.slice a0 a0_n a0_c, .slice a1 a1_n a1_c] w Q := CV_of mixed Tryd.func5 (crierlaw01_SetsCounts_eq a0 a0_n a0_c a1 a1_n a1_c w Q ▸ h)

/- 6 crier/crierlaw01.SetsRuns -/
def crierlaw01_SetsRuns_J126 : LoopSpec where
  S := Bool
  emb := fun s => [(24, .bool s)]
  ext := fun t => match getL t 24 with
    | some (.bool y16) => some (y16)
    | _ => none
  slots := [24]
  fits := fun _ => rfl
  ok := by
    intro t s h x hx
    (try dsimp only at h hx)
    split at h
    · cases h
      simp only [List.mem_cons, List.not_mem_nil, or_false] at hx
      rcases hx with rfl <;> assumption
    · cases h

def crierlaw01_SetsRuns_J32724 : LoopSpec where
  S := Bool
  emb := fun s => [(42, .bool s)]
  ext := fun t => match getL t 42 with
    | some (.bool y43) => some (y43)
    | _ => none
  slots := [42]
  fits := fun _ => rfl
  ok := by
    intro t s h x hx
    (try dsimp only at h hx)
    split at h
    · cases h
      simp only [List.mem_cons, List.not_mem_nil, or_false] at hx
      rcases hx with rfl <;> assumption
    · cases h

def crierlaw01_SetsRuns_L261802 : LoopSpec where
  S := Int
  emb := fun s => [(9, .int .i64 s)]
  ext := fun t => match getL t 9 with
    | some (.int .i64 y48) => some (y48)
    | _ => none
  slots := [9]
  fits := fun _ => rfl
  ok := by
    intro t s h x hx
    (try dsimp only at h hx)
    split at h
    · cases h
      simp only [List.mem_cons, List.not_mem_nil, or_false] at hx
      rcases hx with rfl <;> assumption
    · cases h

def crierlaw01_SetsRuns_J1047208 : LoopSpec where
  S := Bool
  emb := fun s => [(50, .bool s)]
  ext := fun t => match getL t 50 with
    | some (.bool y52) => some (y52)
    | _ => none
  slots := [50]
  fits := fun _ => rfl
  ok := by
    intro t s h x hx
    (try dsimp only at h hx)
    split at h
    · cases h
      simp only [List.mem_cons, List.not_mem_nil, or_false] at hx
      rcases hx with rfl <;> assumption
    · cases h

def crierlaw01_SetsRuns_j0 (b24 : Nat) (b27 : Nat) (l33 : Nat) (r34 : Loop) (Q37 : Value → World → Prop) (n41 : Int) (n49 : Int) (A51 : crierlaw01_SetsRuns_L261802.S → World → Prop) (b53 : Bool) (w54 : World) : Prop :=
 cnd b53
 (ldP ⟨b24, 0, none⟩ w54 fun p55 =>
 CV P F.sets_Set_int_Put [.pointer p55, .int .i64 n49] w54 fun v56 w57 =>
 ∃ b58 : Bool, v56 = .bool b58 ∧
 A51 (((IntKind.i64.wrap (n49 + 1)) : Int)) w57)
 (st1 (.int .i64 n41) ⟨b27, 0, none⟩ w54 fun w59 =>
 recAt w59 l33 r34 .busy none ∧ setR w59 l33 r34 .ready none fun w60 => Q37 (.bool true) w60)

def crierlaw01_SetsRuns_l1 (b24 : Nat) (b27 : Nat) (l33 : Nat) (r34 : Loop) (Q37 : Value → World → Prop) (n41 : Int) (n49 : Int) (w50 : World) (A51 : crierlaw01_SetsRuns_L261802.S → World → Prop) : Prop :=
 JoinT (fun (J61 : crierlaw01_SetsRuns_J1047208.S → World → Prop) =>
  cnd (decide (n49 ≤ n41))
  (J61 (((decide (n49 < 20000)) : Bool)) w50)
  (J61 ((false : Bool)) w50))
  fun (s62 : crierlaw01_SetsRuns_J1047208.S) w63 => crierlaw01_SetsRuns_j0 b24 b27 l33 r34 Q37 n41 n49 A51 s62 w63

def crierlaw01_SetsRuns_j2 (b4 : Nat) (b24 : Nat) (b27 : Nat) (l33 : Nat) (r34 : Loop) (Q37 : Value → World → Prop) (n40 : Int) (n41 : Int) (b44 : Bool) (w45 : World) : Prop :=
 cnd b44
 (st1 (.bool false) ⟨b4, 0, none⟩ w45 fun w46 =>
 recAt w46 l33 r34 .busy none ∧ setR w46 l33 r34 .done (some .ret) fun w47 => Q37 (.bool false) w47)
 (LoopT (fun (s64 : crierlaw01_SetsRuns_L261802.S) w65 A66 => crierlaw01_SetsRuns_l1 b24 b27 l33 r34 Q37 n41 s64 w65 A66) ((n40 : Int)) w45)

def crierlaw01_SetsRuns_r3 (b4 : Nat) (b24 : Nat) (b27 : Nat) (l33 : Nat) (r34 : Loop) (vs35 : List Value) (w36 : World) (Q37 : Value → World → Prop) : Prop :=
 X.b2 vs35 fun v38 v39 =>
 ∃ n40 : Int, v38 = .int .i64 n40 ∧
 ∃ n41 : Int, v39 = .int .i64 n41 ∧
 recAt w36 l33 r34 .ready none ∧ setR w36 l33 r34 .busy none fun w42 =>
 JoinT (fun (J67 : crierlaw01_SetsRuns_J32724.S → World → Prop) =>
  cnd (decide (n40 > n41))
  (J67 ((true : Bool)) w42)
  (ldI .i64 ⟨b27, 0, none⟩ w42 fun n68 =>
  cnd (decide (n40 ≤ (IntKind.i64.wrap (n68 + 1))))
  (J67 ((true : Bool)) w42)
  (ldP ⟨b24, 0, none⟩ w42 fun p69 =>
  J67 (((Option.isNone p69) : Bool)) w42)))
  fun (s70 : crierlaw01_SetsRuns_J32724.S) w71 => crierlaw01_SetsRuns_j2 b4 b24 b27 l33 r34 Q37 n40 n41 s70 w71

def crierlaw01_SetsRuns_j4 (Q : Value → World → Prop) (b4 : Nat) (p15 : Option Addr) (b17 : Bool) (w18 : World) : Prop :=
 cnd b17
 (st1 (.bool false) ⟨b4, 0, none⟩ w18 fun w19 =>
 ldB ⟨b4, 0, none⟩ w19 fun b20 =>
 Q (.bool b20) w19)
 (CV P F.sets_Of_int [.slice none 0 0] w18 fun v21 w22 =>
 ∃ p23 : Option Addr, v21 = .pointer p23 ∧
 alc [.pointer none] T.t24 w22 fun b24 w25 =>
 st1 (.pointer p23) ⟨b24, 0, none⟩ w25 fun w26 =>
 alc [.int .i64 0] T.t3 w26 fun b27 w28 =>
 st1 (.int .i64 (-2)) ⟨b27, 0, none⟩ w28 fun w29 =>
 CV P F.sets_Set_int_Runs [.pointer p15] w29 fun v30 w31 =>
 ∃ v32 : Value, v30 = v32 ∧
 RF P none 2 (v32) w31 (fun l33 r34 vs35 w36 Q37 => crierlaw01_SetsRuns_r3 b4 b24 b27 l33 r34 vs35 w36 Q37) fun mk72 jp73 w74 =>
 jmpX jp73
 (ldP ⟨b24, 0, none⟩ w74 fun p75 =>
 CV P F.sets_Same_int [.pointer p15, .pointer p75] w74 fun v76 w77 =>
 ∃ b78 : Bool, v76 = .bool b78 ∧
 st1 (.bool b78) ⟨b4, 0, none⟩ w77 fun w79 =>
 takeX (mk72 ++ []) w79 fun w80 =>
 ldB ⟨b4, 0, none⟩ w80 fun b81 =>
 Q (.bool b81) w80)
 (takeX (mk72 ++ []) w74 fun w82 =>
 ldB ⟨b4, 0, none⟩ w82 fun b83 =>
 Q (.bool b83) w82)
 fun id84 => False)

def crierlaw01_SetsRuns (a0 : Option Addr) (a0_n : Nat) (a0_c : Nat) (w : World) (Q : Value → World → Prop) : Prop :=
 alc [.bool false] T.t4 w fun b4 w5 =>
 CV P F.crierlaw01_awake [] w5 fun v6 w7 =>
 ∃ b8 : Bool, v6 = .bool b8 ∧
 cnd (!b8)
 (st1 (.bool false) ⟨b4, 0, none⟩ w7 fun w9 =>
 ldB ⟨b4, 0, none⟩ w9 fun b10 =>
 Q (.bool b10) w9)
 (cnd (decide (((a0_n : Nat) : Int) > 2000))
 (st1 (.bool b8) ⟨b4, 0, none⟩ w7 fun w11 =>
 ldB ⟨b4, 0, none⟩ w11 fun b12 =>
 Q (.bool b12) w11)
 (CV P F.sets_Of_int [.slice a0 a0_n a0_c] w7 fun v13 w14 =>
 ∃ p15 : Option Addr, v13 = .pointer p15 ∧
 JoinT (fun (J85 : crierlaw01_SetsRuns_J126.S → World → Prop) =>
  cnd (!b8)
  (J85 ((true : Bool)) w14)
  (J85 (((Option.isNone p15) : Bool)) w14))
  fun (s86 : crierlaw01_SetsRuns_J126.S) w87 => crierlaw01_SetsRuns_j4 Q b4 p15 s86 w87))
def crierlaw01_SetsRuns_ann : Nat → Option LoopSpec := fun
  | 126 => some crierlaw01_SetsRuns_J126
  | 32724 => some crierlaw01_SetsRuns_J32724
  | 261802 => some crierlaw01_SetsRuns_L261802
  | 1047208 => some crierlaw01_SetsRuns_J1047208
  | _ => none
theorem crierlaw01_SetsRuns_eq (a0 : Option Addr) (a0_n : Nat) (a0_c : Nat) (w : World) (Q : Value → World → Prop) : fnX P crierlaw01_SetsRuns_ann Tryd.f6 [.slice a0 a0_n a0_c] w Q = crierlaw01_SetsRuns a0 a0_n a0_c w Q := by kernel_rfl
theorem crierlaw01_SetsRuns_cv {a0 : Option Addr} {a0_n : Nat} {a0_c : Nat} {w : World} {Q : Value → World → Prop} (h : crierlaw01_SetsRuns a0 a0_n a0_c w Q) : CV P F.crierlaw01_SetsRuns [.slice a0 a0_n a0_c] w Q := CV_of mixed Tryd.func6 (crierlaw01_SetsRuns_eq a0 a0_n a0_c w Q ▸ h)

/- 7 crier/crierlaw01.SetsDoes -/
def crierlaw01_SetsDoes_J30 : LoopSpec where
  S := Bool
  emb := fun s => [(24, .bool s)]
  ext := fun t => match getL t 24 with
    | some (.bool y10) => some (y10)
    | _ => none
  slots := [24]
  fits := fun _ => rfl
  ok := by
    intro t s h x hx
    (try dsimp only at h hx)
    split at h
    · cases h
      simp only [List.mem_cons, List.not_mem_nil, or_false] at hx
      rcases hx with rfl <;> assumption
    · cases h

def crierlaw01_SetsDoes_L2042 : LoopSpec where
  S := Int
  emb := fun s => [(8, .int .i64 s)]
  ext := fun t => match getL t 8 with
    | some (.int .i64 y20) => some (y20)
    | _ => none
  slots := [8]
  fits := fun _ => rfl
  ok := by
    intro t s h x hx
    (try dsimp only at h hx)
    split at h
    · cases h
      simp only [List.mem_cons, List.not_mem_nil, or_false] at hx
      rcases hx with rfl <;> assumption
    · cases h

def crierlaw01_SetsDoes_J2046 : LoopSpec where
  S := Bool
  emb := fun s => [(49, .bool s)]
  ext := fun t => match getL t 49 with
    | some (.bool y32) => some (y32)
    | _ => none
  slots := [49]
  fits := fun _ => rfl
  ok := by
    intro t s h x hx
    (try dsimp only at h hx)
    split at h
    · cases h
      simp only [List.mem_cons, List.not_mem_nil, or_false] at hx
      rcases hx with rfl <;> assumption
    · cases h

def crierlaw01_SetsDoes_L16378 : LoopSpec where
  S := Option Addr × (Option Addr × Nat × Nat) × Int
  emb := fun s => [(7, .pointer s.1), (9, .slice s.2.1.1 s.2.1.2.1 s.2.1.2.2), (10, .int .i64 s.2.2)]
  ext := fun t => match getL t 7, getL t 9, getL t 10 with
    | some (.pointer y35), some (.slice y36 y37 y38), some (.int .i64 y39) => some (y35, (y36, y37, y38), y39)
    | _, _, _ => none
  slots := [7, 9, 10]
  fits := fun _ => rfl
  ok := by
    intro t s h x hx
    (try dsimp only at h hx)
    split at h
    · cases h
      simp only [List.mem_cons, List.not_mem_nil, or_false] at hx
      rcases hx with rfl | rfl | rfl <;> assumption
    · cases h

def crierlaw01_SetsDoes_J1048211 : LoopSpec where
  S := Option Addr
  emb := fun s => [(7, .pointer s)]
  ext := fun t => match getL t 7 with
    | some (.pointer y59) => some (y59)
    | _ => none
  slots := [7]
  fits := fun _ => rfl
  ok := by
    intro t s h x hx
    (try dsimp only at h hx)
    split at h
    · cases h
      simp only [List.mem_cons, List.not_mem_nil, or_false] at hx
      rcases hx with rfl <;> assumption
    · cases h

def crierlaw01_SetsDoes_J4192846 : LoopSpec where
  S := Bool
  emb := fun s => [(111, .bool s)]
  ext := fun t => match getL t 111 with
    | some (.bool y62) => some (y62)
    | _ => none
  slots := [111]
  fits := fun _ => rfl
  ok := by
    intro t s h x hx
    (try dsimp only at h hx)
    split at h
    · cases h
      simp only [List.mem_cons, List.not_mem_nil, or_false] at hx
      rcases hx with rfl <;> assumption
    · cases h

def crierlaw01_SetsDoes_J4192847 : LoopSpec where
  S := (Option Addr × Nat × Nat)
  emb := fun s => [(9, .slice s.1 s.2.1 s.2.2)]
  ext := fun t => match getL t 9 with
    | some (.slice y65 y66 y67) => some ((y65, y66, y67))
    | _ => none
  slots := [9]
  fits := fun _ => rfl
  ok := by
    intro t s h x hx
    (try dsimp only at h hx)
    split at h
    · cases h
      simp only [List.mem_cons, List.not_mem_nil, or_false] at hx
      rcases hx with rfl <;> assumption
    · cases h

def crierlaw01_SetsDoes_J8385695 : LoopSpec where
  S := (Option Addr × Nat × Nat)
  emb := fun s => [(9, .slice s.1 s.2.1 s.2.2)]
  ext := fun t => match getL t 9 with
    | some (.slice y72 y73 y74) => some ((y72, y73, y74))
    | _ => none
  slots := [9]
  fits := fun _ => rfl
  ok := by
    intro t s h x hx
    (try dsimp only at h hx)
    split at h
    · cases h
      simp only [List.mem_cons, List.not_mem_nil, or_false] at hx
      rcases hx with rfl <;> assumption
    · cases h

def crierlaw01_SetsDoes_J16771391 : LoopSpec where
  S := Bool
  emb := fun s => [(152, .bool s)]
  ext := fun t => match getL t 152 with
    | some (.bool y79) => some (y79)
    | _ => none
  slots := [152]
  fits := fun _ => rfl
  ok := by
    intro t s h x hx
    (try dsimp only at h hx)
    split at h
    · cases h
      simp only [List.mem_cons, List.not_mem_nil, or_false] at hx
      rcases hx with rfl <;> assumption
    · cases h

def crierlaw01_SetsDoes_j0 (Q : Value → World → Prop) (n44 : Int) (A46 : crierlaw01_SetsDoes_L16378.S → World → Prop) (p60 : Option Addr) (p75 : Option Addr) (l76 : Nat) (c77 : Nat) (b80 : Bool) (w81 : World) : Prop :=
 cnd b80
 (Q (.bool false) w81)
 (A46 ((p60 : Option Addr), ((p75 : Option Addr), (l76 : Nat), (c77 : Nat)), ((IntKind.i64.wrap (n44 + 1)) : Int)) w81)

def crierlaw01_SetsDoes_j1 (Q : Value → World → Prop) (n44 : Int) (A46 : crierlaw01_SetsDoes_L16378.S → World → Prop) (b51 : Nat) (p60 : Option Addr) (p75 : Option Addr) (l76 : Nat) (c77 : Nat) (w78 : World) : Prop :=
 JoinT (fun (J82 : crierlaw01_SetsDoes_J16771391.S → World → Prop) =>
  drw w78 fun w83 =>
  CV P F.crierlaw01_Alike [.pointer p60, .slice p75 l76 c77] w83 fun v84 w85 =>
  ∃ b86 : Bool, v84 = .bool b86 ∧
  cnd (!b86)
  (J82 ((true : Bool)) w85)
  (ldI .i64 ⟨b51, 1, none⟩ w85 fun n87 =>
  ldI .i64 ⟨b51, 1, none⟩ w85 fun n88 =>
  CV P F.sets_Set_int_Has [.pointer p60, .int .i64 n87] w85 fun v89 w90 =>
  ∃ b91 : Bool, v89 = .bool b91 ∧
  (ldI .i64 ⟨b51, 1, none⟩ w90 fun n92 =>
  ((.int .i64 n92 : Value) = .int .i64 n88)) ∧
  CV P F.crierref01_Has [.slice p75 l76 c77, .int .i64 n88] w90 fun v93 w94 =>
  ∃ b95 : Bool, v93 = .bool b95 ∧
  cnd (!(b91 == b95))
  (J82 ((true : Bool)) w94)
  (ldI .i64 ⟨b51, 1, none⟩ w94 fun n96 =>
  ldI .i64 ⟨b51, 1, none⟩ w94 fun n97 =>
  CV P F.crierlaw01_from [.pointer p60, .int .i64 n96, .int .i64 20000] w94 fun v98 w99 =>
  ∃ (p100 : Option Addr) (l101 c102 : Nat), v98 = .slice p100 l101 c102 ∧
  (ldI .i64 ⟨b51, 1, none⟩ w99 fun n103 =>
  ((.int .i64 n103 : Value) = .int .i64 n97)) ∧
  CV P F.crierref01_From [.slice p75 l76 c77, .int .i64 n97] w99 fun v104 w105 =>
  ∃ (p106 : Option Addr) (l107 c108 : Nat), v104 = .slice p106 l107 c108 ∧
  CV P F.crierref01_Same [.slice p100 l101 c102, .slice p106 l107 c108] w105 fun v109 w110 =>
  ∃ b111 : Bool, v109 = .bool b111 ∧
  J82 (((!b111) : Bool)) w110)))
  fun (s112 : crierlaw01_SetsDoes_J16771391.S) w113 => crierlaw01_SetsDoes_j0 Q n44 A46 p60 p75 l76 c77 s112 w113

def crierlaw01_SetsDoes_j2 (Q : Value → World → Prop) (n44 : Int) (A46 : crierlaw01_SetsDoes_L16378.S → World → Prop) (b51 : Nat) (p60 : Option Addr) (p68 : Option Addr) (l69 : Nat) (c70 : Nat) (w71 : World) : Prop :=
 JoinT (fun (J114 : crierlaw01_SetsDoes_J8385695.S → World → Prop) =>
  ldI .i64 ⟨b51, 0, none⟩ w71 fun n115 =>
  cnd (n115 == 2)
  (ldI .i64 ⟨b51, 1, none⟩ w71 fun n116 =>
  CV P F.crierref01_Take [.slice p68 l69 c70, .int .i64 n116] w71 fun v117 w118 =>
  ∃ (p119 : Option Addr) (l120 c121 : Nat), v117 = .slice p119 l120 c121 ∧
  J114 (((p119 : Option Addr), (l120 : Nat), (c121 : Nat))) w118)
  (J114 (((p68 : Option Addr), (l69 : Nat), (c70 : Nat))) w71))
  fun (s122 : crierlaw01_SetsDoes_J8385695.S) w123 => crierlaw01_SetsDoes_j1 Q n44 A46 b51 p60 s122.1 s122.2.1 s122.2.2 w123

def crierlaw01_SetsDoes_j3 (Q : Value → World → Prop) (p41 : Option Addr) (l42 : Nat) (c43 : Nat) (n44 : Int) (A46 : crierlaw01_SetsDoes_L16378.S → World → Prop) (b51 : Nat) (p60 : Option Addr) (b63 : Bool) (w64 : World) : Prop :=
 cnd b63
 (Q (.bool false) w64)
 (JoinT (fun (J124 : crierlaw01_SetsDoes_J4192847.S → World → Prop) =>
  ldI .i64 ⟨b51, 0, none⟩ w64 fun n125 =>
  cnd (n125 == 1)
  (ldI .i64 ⟨b51, 1, none⟩ w64 fun n126 =>
  CV P F.crierref01_Put [.slice p41 l42 c43, .int .i64 n126] w64 fun v127 w128 =>
  ∃ (p129 : Option Addr) (l130 c131 : Nat), v127 = .slice p129 l130 c131 ∧
  J124 (((p129 : Option Addr), (l130 : Nat), (c131 : Nat))) w128)
  (J124 (((p41 : Option Addr), (l42 : Nat), (c43 : Nat))) w64))
  fun (s132 : crierlaw01_SetsDoes_J4192847.S) w133 => crierlaw01_SetsDoes_j2 Q n44 A46 b51 p60 s132.1 s132.2.1 s132.2.2 w133)

def crierlaw01_SetsDoes_j4 (Q : Value → World → Prop) (p41 : Option Addr) (l42 : Nat) (c43 : Nat) (n44 : Int) (A46 : crierlaw01_SetsDoes_L16378.S → World → Prop) (b51 : Nat) (b58 : Bool) (p60 : Option Addr) (w61 : World) : Prop :=
 JoinT (fun (J134 : crierlaw01_SetsDoes_J4192846.S → World → Prop) =>
  drw w61 fun w135 =>
  ldI .i64 ⟨b51, 0, none⟩ w135 fun n136 =>
  cnd (n136 == 1)
  (ldI .i64 ⟨b51, 1, none⟩ w135 fun n137 =>
  ldI .i64 ⟨b51, 1, none⟩ w135 fun n138 =>
  CV P F.sets_Set_int_Put [.pointer p60, .int .i64 n137] w135 fun v139 w140 =>
  ∃ b141 : Bool, v139 = .bool b141 ∧
  (ldI .i64 ⟨b51, 1, none⟩ w140 fun n142 =>
  ((.int .i64 n142 : Value) = .int .i64 n138)) ∧
  CV P F.crierref01_May [.int .i64 n138] w140 fun v143 w144 =>
  ∃ b145 : Bool, v143 = .bool b145 ∧
  cnd b145
  (cnd (!(b141 == (!b58)))
  (J134 ((true : Bool)) w144)
  (ldI .i64 ⟨b51, 0, none⟩ w144 fun n146 =>
  cnd (n146 == 2)
  (ldI .i64 ⟨b51, 1, none⟩ w144 fun n147 =>
  CV P F.sets_Set_int_Take [.pointer p60, .int .i64 n147] w144 fun v148 w149 =>
  ∃ b150 : Bool, v148 = .bool b150 ∧
  J134 (((!(b150 == b58)) : Bool)) w149)
  (J134 ((false : Bool)) w144)))
  (cnd (!(b141 == false))
  (J134 ((true : Bool)) w144)
  (ldI .i64 ⟨b51, 0, none⟩ w144 fun n151 =>
  cnd (n151 == 2)
  (ldI .i64 ⟨b51, 1, none⟩ w144 fun n152 =>
  CV P F.sets_Set_int_Take [.pointer p60, .int .i64 n152] w144 fun v153 w154 =>
  ∃ b155 : Bool, v153 = .bool b155 ∧
  J134 (((!(b155 == b58)) : Bool)) w154)
  (J134 ((false : Bool)) w144))))
  (ldI .i64 ⟨b51, 0, none⟩ w135 fun n156 =>
  cnd (n156 == 2)
  (ldI .i64 ⟨b51, 1, none⟩ w135 fun n157 =>
  CV P F.sets_Set_int_Take [.pointer p60, .int .i64 n157] w135 fun v158 w159 =>
  ∃ b160 : Bool, v158 = .bool b160 ∧
  J134 (((!(b160 == b58)) : Bool)) w159)
  (J134 ((false : Bool)) w135)))
  fun (s161 : crierlaw01_SetsDoes_J4192846.S) w162 => crierlaw01_SetsDoes_j3 Q p41 l42 c43 n44 A46 b51 p60 s161 w162

def crierlaw01_SetsDoes_l5 (a1 : Option Addr) (a1_n : Nat) (Q : Value → World → Prop) (p40 : Option Addr) (p41 : Option Addr) (l42 : Nat) (c43 : Nat) (n44 : Int) (w45 : World) (A46 : crierlaw01_SetsDoes_L16378.S → World → Prop) : Prop :=
 cnd (decide (n44 < ((a1_n : Nat) : Int)))
 (ix n44 a1_n fun j47 => nn a1 fun a48 =>
 ldI .i64 (a48.add (j47 * 2)) w45 fun n49 =>
 ldI .i64 ((a48.add (j47 * 2)).add 1) w45 fun n50 =>
 alc [.int .i64 0, .int .i64 0] T.t45 w45 fun b51 w52 =>
 st1 (.int .i64 n49) ⟨b51, 0, none⟩ w52 fun w53 =>
 st1 (.int .i64 n50) ⟨b51, 1, none⟩ w53 fun w54 =>
 ldI .i64 ⟨b51, 1, none⟩ w54 fun n55 =>
 CV P F.crierref01_Has [.slice p41 l42 c43, .int .i64 n55] w54 fun v56 w57 =>
 ∃ b58 : Bool, v56 = .bool b58 ∧
 JoinT (fun (J163 : crierlaw01_SetsDoes_J1048211.S → World → Prop) =>
  ldI .i64 ⟨b51, 0, none⟩ w57 fun n164 =>
  cnd (n164 == 3)
  (CV P F.sets_Set_int_Copy [.pointer p40] w57 fun v165 w166 =>
  ∃ p167 : Option Addr, v165 = .pointer p167 ∧
  cnd (Option.isNone p167)
  (Q (.bool false) w166)
  (ldI .i64 ⟨b51, 1, none⟩ w166 fun n168 =>
  CV P F.sets_Set_int_Put [.pointer p40, .int .i64 n168] w166 fun v169 w170 =>
  ∃ b171 : Bool, v169 = .bool b171 ∧
  CV P F.sets_Set_int_Put [.pointer p40, .int .i64 9] w170 fun v172 w173 =>
  ∃ b174 : Bool, v172 = .bool b174 ∧
  CV P F.crierlaw01_l0 [.slice p41 l42 c43] w173 fun v175 w176 =>
  ∃ n177 : Int, v175 = .int .i64 n177 ∧
  CV P F.sets_Set_int_Take [.pointer p40, .int .i64 n177] w176 fun v178 w179 =>
  ∃ b180 : Bool, v178 = .bool b180 ∧
  J163 ((p167 : Option Addr)) w179))
  (J163 ((p40 : Option Addr)) w57))
  fun (s181 : crierlaw01_SetsDoes_J1048211.S) w182 => crierlaw01_SetsDoes_j4 Q p41 l42 c43 n44 A46 b51 b58 s181 w182)
 (Q (.bool true) w45)

def crierlaw01_SetsDoes_j6 (a1 : Option Addr) (a1_n : Nat) (Q : Value → World → Prop) (p19 : Option Addr) (p29 : Option Addr) (l30 : Nat) (c31 : Nat) (b33 : Bool) (w34 : World) : Prop :=
 cnd b33
 (Q (.bool false) w34)
 (LoopT (fun (s183 : crierlaw01_SetsDoes_L16378.S) w184 A185 => crierlaw01_SetsDoes_l5 a1 a1_n Q s183.1 s183.2.1.1 s183.2.1.2.1 s183.2.1.2.2 s183.2.2 w184 A185) ((p19 : Option Addr), ((p29 : Option Addr), (l30 : Nat), (c31 : Nat)), (0 : Int)) w34)

def crierlaw01_SetsDoes_l7 (a0 : Option Addr) (a0_n : Nat) (a0_c : Nat) (a1 : Option Addr) (a1_n : Nat) (Q : Value → World → Prop) (b9 : Bool) (p13 : Option Addr) (l14 : Nat) (p19 : Option Addr) (n21 : Int) (w22 : World) (A23 : crierlaw01_SetsDoes_L2042.S → World → Prop) : Prop :=
 cnd (decide (n21 < ((l14 : Nat) : Int)))
 (ix n21 l14 fun j24 => nn p13 fun a25 =>
 st1 (.int .i64 7) (a25.add (j24 * 1)) w22 fun w26 =>
 A23 (((IntKind.i64.wrap (n21 + 1)) : Int)) w26)
 (CV P F.crierref01_Of [.slice a0 a0_n a0_c] w22 fun v27 w28 =>
 ∃ (p29 : Option Addr) (l30 c31 : Nat), v27 = .slice p29 l30 c31 ∧
 JoinT (fun (J186 : crierlaw01_SetsDoes_J2046.S → World → Prop) =>
  cnd (!b9)
  (J186 ((true : Bool)) w28)
  (CV P F.crierlaw01_Alike [.pointer p19, .slice p29 l30 c31] w28 fun v187 w188 =>
  ∃ b189 : Bool, v187 = .bool b189 ∧
  J186 (((!b189) : Bool)) w188))
  fun (s190 : crierlaw01_SetsDoes_J2046.S) w191 => crierlaw01_SetsDoes_j6 a1 a1_n Q p19 p29 l30 c31 s190 w191)

def crierlaw01_SetsDoes_j8 (a0 : Option Addr) (a0_n : Nat) (a0_c : Nat) (a1 : Option Addr) (a1_n : Nat) (Q : Value → World → Prop) (b9 : Bool) (b11 : Bool) (w12 : World) : Prop :=
 cnd b11
 (Q (.bool b9) w12)
 (runS P (Builtin.append_ #[T.t22, T.t22] T.t22 [.slice none 0 0, .slice a0 a0_n a0_c].toArray) w12 fun p13 l14 c15 w16 =>
 CV P F.sets_Of_int [.slice p13 l14 c15] w16 fun v17 w18 =>
 ∃ p19 : Option Addr, v17 = .pointer p19 ∧
 LoopT (fun (s192 : crierlaw01_SetsDoes_L2042.S) w193 A194 => crierlaw01_SetsDoes_l7 a0 a0_n a0_c a1 a1_n Q b9 p13 l14 p19 s192 w193 A194) ((0 : Int)) w18)

def crierlaw01_SetsDoes (a0 : Option Addr) (a0_n : Nat) (a0_c : Nat) (a1 : Option Addr) (a1_n : Nat) (a1_c : Nat) (w : World) (Q : Value → World → Prop) : Prop :=
 CV P F.crierlaw01_awake [] w fun v7 w8 =>
 ∃ b9 : Bool, v7 = .bool b9 ∧
 cnd (!b9)
 (Q (.bool false) w8)
 (JoinT (fun (J195 : crierlaw01_SetsDoes_J30.S → World → Prop) =>
  cnd (decide (((a0_n : Nat) : Int) > 2000))
  (J195 ((true : Bool)) w8)
  (J195 (((decide (((a1_n : Nat) : Int) > 2000)) : Bool)) w8))
  fun (s196 : crierlaw01_SetsDoes_J30.S) w197 => crierlaw01_SetsDoes_j8 a0 a0_n a0_c a1 a1_n Q b9 s196 w197)
def crierlaw01_SetsDoes_ann : Nat → Option LoopSpec := fun
  | 30 => some crierlaw01_SetsDoes_J30
  | 2042 => some crierlaw01_SetsDoes_L2042
  | 2046 => some crierlaw01_SetsDoes_J2046
  | 16378 => some crierlaw01_SetsDoes_L16378
  | 1048211 => some crierlaw01_SetsDoes_J1048211
  | 4192846 => some crierlaw01_SetsDoes_J4192846
  | 4192847 => some crierlaw01_SetsDoes_J4192847
  | 8385695 => some crierlaw01_SetsDoes_J8385695
  | 16771391 => some crierlaw01_SetsDoes_J16771391
  | 33542782 => some (ordSpec [0, 1, 2, 3, 4, 5, 6, 7, 9, 10, 11, 8, 12, 13, 14, 15, 16, 17, 18, 20, 21, 22, 19, 23, 24, 25, 26])
  | 8385692 => some (ordSpec [0, 1, 2, 3, 4, 5, 6, 8, 9, 7, 10, 11, 12, 13, 14, 15, 16, 17, 18, 19, 20, 21, 22, 23, 24, 26, 25, 27, 28, 29])
  | _ => none
theorem crierlaw01_SetsDoes_eq (a0 : Option Addr) (a0_n : Nat) (a0_c : Nat) (a1 : Option Addr) (a1_n : Nat) (a1_c : Nat) (w : World) (Q : Value → World → Prop) : fnX P crierlaw01_SetsDoes_ann Tryd.f7 [.slice a0 a0_n a0_c, .slice a1 a1_n a1_c] w Q = crierlaw01_SetsDoes a0 a0_n a0_c a1 a1_n a1_c w Q := by kernel_rfl
theorem crierlaw01_SetsDoes_cv {a0 : Option Addr} {a0_n : Nat} {a0_c : Nat} {a1 : Option Addr} {a1_n : Nat} {a1_c : Nat} {w : World} {Q : Value → World → Prop} (h : crierlaw01_SetsDoes a0 a0_n a0_c a1 a1_n a1_c w Q) : CV P F.crierlaw01_SetsDoes [.slice a0 a0_n a0_c, .slice a1 a1_n a1_c] w Q := CV_of mixed Tryd.func7 (crierlaw01_SetsDoes_eq a0 a0_n a0_c a1 a1_n a1_c w Q ▸ h)

/- 8 crier/crierlaw01.SetsJoin -/
def crierlaw01_SetsJoin_J30 : LoopSpec where
  S := Bool
  emb := fun s => [(23, .bool s)]
  ext := fun t => match getL t 23 with
    | some (.bool y10) => some (y10)
    | _ => none
  slots := [23]
  fits := fun _ => rfl
  ok := by
    intro t s h x hx
    (try dsimp only at h hx)
    split at h
    · cases h
      simp only [List.mem_cons, List.not_mem_nil, or_false] at hx
      rcases hx with rfl <;> assumption
    · cases h

def crierlaw01_SetsJoin_J254 : LoopSpec where
  S := Bool
  emb := fun s => [(42, .bool s)]
  ext := fun t => match getL t 42 with
    | some (.bool y29) => some (y29)
    | _ => none
  slots := [42]
  fits := fun _ => rfl
  ok := by
    intro t s h x hx
    (try dsimp only at h hx)
    split at h
    · cases h
      simp only [List.mem_cons, List.not_mem_nil, or_false] at hx
      rcases hx with rfl <;> assumption
    · cases h

def crierlaw01_SetsJoin_J1022 : LoopSpec where
  S := Bool
  emb := fun s => [(73, .bool s)]
  ext := fun t => match getL t 73 with
    | some (.bool y41) => some (y41)
    | _ => none
  slots := [73]
  fits := fun _ => rfl
  ok := by
    intro t s h x hx
    (try dsimp only at h hx)
    split at h
    · cases h
      simp only [List.mem_cons, List.not_mem_nil, or_false] at hx
      rcases hx with rfl <;> assumption
    · cases h

def crierlaw01_SetsJoin_J8191 : LoopSpec where
  S := Bool
  emb := fun s => [(4, .bool s)]
  ext := fun t => match getL t 4 with
    | some (.bool y53) => some (y53)
    | _ => none
  slots := [4]
  fits := fun _ => rfl
  ok := by
    intro t s h x hx
    (try dsimp only at h hx)
    split at h
    · cases h
      simp only [List.mem_cons, List.not_mem_nil, or_false] at hx
      rcases hx with rfl <;> assumption
    · cases h

def crierlaw01_SetsJoin_j0 (Q : Value → World → Prop) (b54 : Bool) (w55 : World) : Prop :=
 Q (.bool b54) w55

def crierlaw01_SetsJoin_j1 (Q : Value → World → Prop) (p15 : Option Addr) (p18 : Option Addr) (p21 : Option Addr) (l22 : Nat) (c23 : Nat) (p26 : Option Addr) (l27 : Nat) (c28 : Nat) (p34 : Option Addr) (p37 : Option Addr) (p40 : Option Addr) (b42 : Bool) (w43 : World) : Prop :=
 cnd b42
 (Q (.bool false) w43)
 (CV P F.sets_Set_int_Put [.pointer p34, .int .i64 11] w43 fun v44 w45 =>
 ∃ b46 : Bool, v44 = .bool b46 ∧
 CV P F.sets_Set_int_Put [.pointer p37, .int .i64 12] w45 fun v47 w48 =>
 ∃ b49 : Bool, v47 = .bool b49 ∧
 CV P F.sets_Set_int_Put [.pointer p40, .int .i64 13] w48 fun v50 w51 =>
 ∃ b52 : Bool, v50 = .bool b52 ∧
 JoinT (fun (J56 : crierlaw01_SetsJoin_J8191.S → World → Prop) =>
  CV P F.crierlaw01_Alike [.pointer p15, .slice p21 l22 c23] w51 fun v57 w58 =>
  ∃ b59 : Bool, v57 = .bool b59 ∧
  cnd b59
  (CV P F.crierlaw01_Alike [.pointer p18, .slice p26 l27 c28] w58 fun v60 w61 =>
  ∃ b62 : Bool, v60 = .bool b62 ∧
  cnd b62
  (CV P F.sets_Same_int [.pointer p15, .pointer p18] w61 fun v63 w64 =>
  ∃ b65 : Bool, v63 = .bool b65 ∧
  CV P F.crierref01_Same [.slice p21 l22 c23, .slice p26 l27 c28] w64 fun v66 w67 =>
  ∃ b68 : Bool, v66 = .bool b68 ∧
  J56 (((b65 == b68) : Bool)) w67)
  (J56 ((false : Bool)) w61))
  (J56 ((false : Bool)) w58))
  fun (s69 : crierlaw01_SetsJoin_J8191.S) w70 => crierlaw01_SetsJoin_j0 Q s69 w70)

def crierlaw01_SetsJoin_j2 (Q : Value → World → Prop) (p15 : Option Addr) (p18 : Option Addr) (p21 : Option Addr) (l22 : Nat) (c23 : Nat) (p26 : Option Addr) (l27 : Nat) (c28 : Nat) (b30 : Bool) (w31 : World) : Prop :=
 cnd b30
 (Q (.bool false) w31)
 (CV P F.sets_Union_int [.pointer p15, .pointer p18] w31 fun v32 w33 =>
 ∃ p34 : Option Addr, v32 = .pointer p34 ∧
 CV P F.sets_Meet_int [.pointer p15, .pointer p18] w33 fun v35 w36 =>
 ∃ p37 : Option Addr, v35 = .pointer p37 ∧
 CV P F.sets_Less_int [.pointer p15, .pointer p18] w36 fun v38 w39 =>
 ∃ p40 : Option Addr, v38 = .pointer p40 ∧
 JoinT (fun (J71 : crierlaw01_SetsJoin_J1022.S → World → Prop) =>
  CV P F.crierref01_Union [.slice p21 l22 c23, .slice p26 l27 c28] w39 fun v72 w73 =>
  ∃ (p74 : Option Addr) (l75 c76 : Nat), v72 = .slice p74 l75 c76 ∧
  CV P F.crierlaw01_Alike [.pointer p34, .slice p74 l75 c76] w73 fun v77 w78 =>
  ∃ b79 : Bool, v77 = .bool b79 ∧
  cnd (!b79)
  (J71 ((true : Bool)) w78)
  (CV P F.crierref01_Meet [.slice p21 l22 c23, .slice p26 l27 c28] w78 fun v80 w81 =>
  ∃ (p82 : Option Addr) (l83 c84 : Nat), v80 = .slice p82 l83 c84 ∧
  CV P F.crierlaw01_Alike [.pointer p37, .slice p82 l83 c84] w81 fun v85 w86 =>
  ∃ b87 : Bool, v85 = .bool b87 ∧
  cnd (!b87)
  (J71 ((true : Bool)) w86)
  (CV P F.crierref01_Less [.slice p21 l22 c23, .slice p26 l27 c28] w86 fun v88 w89 =>
  ∃ (p90 : Option Addr) (l91 c92 : Nat), v88 = .slice p90 l91 c92 ∧
  CV P F.crierlaw01_Alike [.pointer p40, .slice p90 l91 c92] w89 fun v93 w94 =>
  ∃ b95 : Bool, v93 = .bool b95 ∧
  J71 (((!b95) : Bool)) w94)))
  fun (s96 : crierlaw01_SetsJoin_J1022.S) w97 => crierlaw01_SetsJoin_j1 Q p15 p18 p21 l22 c23 p26 l27 c28 p34 p37 p40 s96 w97)

def crierlaw01_SetsJoin_j3 (a0 : Option Addr) (a0_n : Nat) (a0_c : Nat) (a1 : Option Addr) (a1_n : Nat) (a1_c : Nat) (Q : Value → World → Prop) (b9 : Bool) (b11 : Bool) (w12 : World) : Prop :=
 cnd b11
 (Q (.bool b9) w12)
 (CV P F.sets_Of_int [.slice a0 a0_n a0_c] w12 fun v13 w14 =>
 ∃ p15 : Option Addr, v13 = .pointer p15 ∧
 CV P F.sets_Of_int [.slice a1 a1_n a1_c] w14 fun v16 w17 =>
 ∃ p18 : Option Addr, v16 = .pointer p18 ∧
 CV P F.crierref01_Of [.slice a0 a0_n a0_c] w17 fun v19 w20 =>
 ∃ (p21 : Option Addr) (l22 c23 : Nat), v19 = .slice p21 l22 c23 ∧
 CV P F.crierref01_Of [.slice a1 a1_n a1_c] w20 fun v24 w25 =>
 ∃ (p26 : Option Addr) (l27 c28 : Nat), v24 = .slice p26 l27 c28 ∧
 JoinT (fun (J98 : crierlaw01_SetsJoin_J254.S → World → Prop) =>
  cnd (!b9)
  (J98 ((true : Bool)) w25)
  (cnd (Option.isNone p15)
  (J98 ((true : Bool)) w25)
  (J98 (((Option.isNone p18) : Bool)) w25)))
  fun (s99 : crierlaw01_SetsJoin_J254.S) w100 => crierlaw01_SetsJoin_j2 Q p15 p18 p21 l22 c23 p26 l27 c28 s99 w100)

def crierlaw01_SetsJoin (a0 : Option Addr) (a0_n : Nat) (a0_c : Nat) (a1 : Option Addr) (a1_n : Nat) (a1_c : Nat) (w : World) (Q : Value → World → Prop) : Prop :=
 CV P F.crierlaw01_awake [] w fun v7 w8 =>
 ∃ b9 : Bool, v7 = .bool b9 ∧
 cnd (!b9)
 (Q (.bool false) w8)
 (JoinT (fun (J101 : crierlaw01_SetsJoin_J30.S → World → Prop) =>
  cnd (decide (((a0_n : Nat) : Int) > 2000))
  (J101 ((true : Bool)) w8)
  (J101 (((decide (((a1_n : Nat) : Int) > 2000)) : Bool)) w8))
  fun (s102 : crierlaw01_SetsJoin_J30.S) w103 => crierlaw01_SetsJoin_j3 a0 a0_n a0_c a1 a1_n a1_c Q b9 s102 w103)
def crierlaw01_SetsJoin_ann : Nat → Option LoopSpec := fun
  | 30 => some crierlaw01_SetsJoin_J30
  | 254 => some crierlaw01_SetsJoin_J254
  | 1022 => some crierlaw01_SetsJoin_J1022
  | 8191 => some crierlaw01_SetsJoin_J8191
  | _ => none
theorem crierlaw01_SetsJoin_eq (a0 : Option Addr) (a0_n : Nat) (a0_c : Nat) (a1 : Option Addr) (a1_n : Nat) (a1_c : Nat) (w : World) (Q : Value → World → Prop) : fnX P crierlaw01_SetsJoin_ann Tryd.f8 [.slice a0 a0_n a0_c, .slice a1 a1_n a1_c] w Q = crierlaw01_SetsJoin a0 a0_n a0_c a1 a1_n a1_c w Q := by kernel_rfl
theorem crierlaw01_SetsJoin_cv {a0 : Option Addr} {a0_n : Nat} {a0_c : Nat} {a1 : Option Addr} {a1_n : Nat} {a1_c : Nat} {w : World} {Q : Value → World → Prop} (h : crierlaw01_SetsJoin a0 a0_n a0_c a1 a1_n a1_c w Q) : CV P F.crierlaw01_SetsJoin [.slice a0 a0_n a0_c, .slice a1 a1_n a1_c] w Q := CV_of mixed Tryd.func8 (crierlaw01_SetsJoin_eq a0 a0_n a0_c a1 a1_n a1_c w Q ▸ h)

/- 9 crier/crierlaw01.awake -/
def crierlaw01_awake_J14 : LoopSpec where
  S := Bool
  emb := fun s => [(21, .bool s)]
  ext := fun t => match getL t 21 with
    | some (.bool y6) => some (y6)
    | _ => none
  slots := [21]
  fits := fun _ => rfl
  ok := by
    intro t s h x hx
    (try dsimp only at h hx)
    split at h
    · cases h
      simp only [List.mem_cons, List.not_mem_nil, or_false] at hx
      rcases hx with rfl <;> assumption
    · cases h

def crierlaw01_awake_J31 : LoopSpec where
  S := Bool
  emb := fun s => [(0, .bool s)]
  ext := fun t => match getL t 0 with
    | some (.bool y13) => some (y13)
    | _ => none
  slots := [0]
  fits := fun _ => rfl
  ok := by
    intro t s h x hx
    (try dsimp only at h hx)
    split at h
    · cases h
      simp only [List.mem_cons, List.not_mem_nil, or_false] at hx
      rcases hx with rfl <;> assumption
    · cases h

def crierlaw01_awake_j0 (Q : Value → World → Prop) (b14 : Bool) (w15 : World) : Prop :=
 Q (.bool b14) w15

def crierlaw01_awake_j1 (Q : Value → World → Prop) (p5 : Option Addr) (b7 : Bool) (w8 : World) : Prop :=
 cnd b7
 (Q (.bool false) w8)
 (CV P F.sets_Set_int_Least [.pointer p5] w8 fun v9 w10 =>
 ∃ n11 : Int, ∃ b12 : Bool, v9 = .tuple [.int .i64 n11, .bool b12].toArray ∧
 JoinT (fun (J16 : crierlaw01_awake_J31.S → World → Prop) =>
  cnd b12
  (cnd (n11 == 5)
  (CV P F.crierlaw01_List [.pointer p5] w10 fun v17 w18 =>
  ∃ (p19 : Option Addr) (l20 c21 : Nat), v17 = .slice p19 l20 c21 ∧
  alc [.int .i64 5] T.t3 w18 fun b22 w23 =>
  CV P F.crierref01_Same [.slice p19 l20 c21, .slice (some ⟨b22, 0, none⟩) 1 1] w23 fun v24 w25 =>
  ∃ b26 : Bool, v24 = .bool b26 ∧
  J16 ((b26 : Bool)) w25)
  (J16 ((false : Bool)) w10))
  (J16 ((false : Bool)) w10))
  fun (s27 : crierlaw01_awake_J31.S) w28 => crierlaw01_awake_j0 Q s27 w28)

def crierlaw01_awake (w : World) (Q : Value → World → Prop) : Prop :=
 alc [.int .i64 5, .int .i64 3, .int .i64 5, .int .i64 (-1), .int .i64 16384] T.t3 w fun b1 w2 =>
 CV P F.sets_Of_int [.slice (some ⟨b1, 0, none⟩) 5 5] w2 fun v3 w4 =>
 ∃ p5 : Option Addr, v3 = .pointer p5 ∧
 JoinT (fun (J29 : crierlaw01_awake_J14.S → World → Prop) =>
  cnd (Option.isNone p5)
  (J29 ((true : Bool)) w4)
  (CV P F.sets_Set_int_Len [.pointer p5] w4 fun v30 w31 =>
  ∃ n32 : Int, v30 = .int .i64 n32 ∧
  cnd (n32 != 2)
  (J29 ((true : Bool)) w31)
  (CV P F.sets_Set_int_Put [.pointer p5, .int .i64 3] w31 fun v33 w34 =>
  ∃ b35 : Bool, v33 = .bool b35 ∧
  cnd b35
  (J29 ((true : Bool)) w34)
  (CV P F.sets_Set_int_Take [.pointer p5, .int .i64 3] w34 fun v36 w37 =>
  ∃ b38 : Bool, v36 = .bool b38 ∧
  J29 (((!b38) : Bool)) w37))))
  fun (s39 : crierlaw01_awake_J14.S) w40 => crierlaw01_awake_j1 Q p5 s39 w40
def crierlaw01_awake_ann : Nat → Option LoopSpec := fun
  | 14 => some crierlaw01_awake_J14
  | 31 => some crierlaw01_awake_J31
  | _ => none
theorem crierlaw01_awake_eq (w : World) (Q : Value → World → Prop) : fnX P crierlaw01_awake_ann Tryd.f9 [] w Q = crierlaw01_awake w Q := by kernel_rfl
theorem crierlaw01_awake_cv {w : World} {Q : Value → World → Prop} (h : crierlaw01_awake w Q) : CV P F.crierlaw01_awake [] w Q := CV_of mixed Tryd.func9 (crierlaw01_awake_eq w Q ▸ h)

/- 10 crier/sets.Of[int] -/
def sets_Of_int_L58 : LoopSpec where
  S := Int
  emb := fun s => [(10, .int .i64 s)]
  ext := fun t => match getL t 10 with
    | some (.int .i64 y6) => some (y6)
    | _ => none
  slots := [10]
  fits := fun _ => rfl
  ok := by
    intro t s h x hx
    (try dsimp only at h hx)
    split at h
    · cases h
      simp only [List.mem_cons, List.not_mem_nil, or_false] at hx
      rcases hx with rfl <;> assumption
    · cases h

def sets_Of_int_l0 (a0 : Option Addr) (a0_n : Nat) (Q : Value → World → Prop) (b4 : Nat) (n7 : Int) (w8 : World) (A9 : sets_Of_int_L58.S → World → Prop) : Prop :=
 cnd (decide (n7 < ((a0_n : Nat) : Int)))
 (ix n7 a0_n fun j10 => nn a0 fun a11 =>
 ldI .i64 (a11.add (j10 * 1)) w8 fun n12 =>
 CV P F.sets_Set_int_Put [.pointer (some ⟨b4, 0, none⟩), .int .i64 n12] w8 fun v13 w14 =>
 ∃ b15 : Bool, v13 = .bool b15 ∧
 A9 (((IntKind.i64.wrap (n7 + 1)) : Int)) w14)
 (Q (.pointer (some ⟨b4, 0, none⟩)) w8)

def sets_Of_int (a0 : Option Addr) (a0_n : Nat) (a0_c : Nat) (w : World) (Q : Value → World → Prop) : Prop :=
 alc [.slice none 0 0] T.t56 w fun b4 w5 =>
 LoopT (fun (s16 : sets_Of_int_L58.S) w17 A18 => sets_Of_int_l0 a0 a0_n Q b4 s16 w17 A18) ((0 : Int)) w5
def sets_Of_int_ann : Nat → Option LoopSpec := fun
  | 58 => some sets_Of_int_L58
  | _ => none
theorem sets_Of_int_eq (a0 : Option Addr) (a0_n : Nat) (a0_c : Nat) (w : World) (Q : Value → World → Prop) : fnX P sets_Of_int_ann Tryd.f10 [.slice a0 a0_n a0_c] w Q = sets_Of_int a0 a0_n a0_c w Q := by kernel_rfl
theorem sets_Of_int_cv {a0 : Option Addr} {a0_n : Nat} {a0_c : Nat} {w : World} {Q : Value → World → Prop} (h : sets_Of_int a0 a0_n a0_c w Q) : CV P F.sets_Of_int [.slice a0 a0_n a0_c] w Q := CV_of mixed Tryd.func10 (sets_Of_int_eq a0 a0_n a0_c w Q ▸ h)

/- 11 crier/crierlaw01.from -/
def crierlaw01_from_J29 : LoopSpec where
  S := Unit
  emb := fun _ => []
  ext := fun _ => some ()
  slots := []
  fits := fun _ => rfl
  ok := by
    intro t s h x hx; cases hx

def crierlaw01_from_j0 (Q : Value → World → Prop) (b6 : Nat) (w11 : World) (ds12 : List Deferred) : Prop :=
 ldL ⟨b6, 0, none⟩ w11 fun p13 l14 c15 =>
 takeX ds12 w11 fun w16 =>
 Q (.slice p13 l14 c15) w16

def crierlaw01_from_r1 (b4 : Nat) (b6 : Nat) (l18 : Nat) (r19 : Loop) (vs20 : List Value) (w21 : World) (Q22 : Value → World → Prop) : Prop :=
 X.b1 vs20 fun v23 =>
 ∃ n24 : Int, v23 = .int .i64 n24 ∧
 recAt w21 l18 r19 .ready none ∧ setR w21 l18 r19 .busy none fun w25 =>
 ldL ⟨b6, 0, none⟩ w25 fun p26 l27 c28 =>
 ldI .i64 ⟨b4, 0, none⟩ w25 fun n29 =>
 cnd (decide (((l27 : Nat) : Int) ≥ n29))
 (recAt w25 l18 r19 .busy none ∧ setR w25 l18 r19 .done (some (.exit 0)) fun w30 => Q22 (.bool false) w30)
 (ldL ⟨b6, 0, none⟩ w25 fun p31 l32 c33 =>
 alc [.int .i64 n24] T.t3 w25 fun b34 w35 =>
 runS P (Builtin.append_ #[T.t22, T.t22] T.t22 [.slice p31 l32 c33, .slice (some ⟨b34, 0, none⟩) 1 1].toArray) w35 fun p36 l37 c38 w39 =>
 st1 (.slice p36 l37 c38) ⟨b6, 0, none⟩ w39 fun w40 =>
 recAt w40 l18 r19 .busy none ∧ setR w40 l18 r19 .ready none fun w41 => Q22 (.bool true) w41)

def crierlaw01_from (a0 : Option Addr) (a1 : Int) (a2 : Int) (w : World) (Q : Value → World → Prop) : Prop :=
 alc [.int .i64 a2] T.t3 w fun b4 w5 =>
 alc [.slice none 0 0] T.t22 w5 fun b6 w7 =>
 CV P F.sets_Set_int_From [.pointer a0, .int .i64 a1] w7 fun v8 w9 =>
 ∃ v10 : Value, v8 = v10 ∧
 JoinT (fun (J17 : crierlaw01_from_J29.S × List Deferred → World → Prop) =>
  RF P none 1 (v10) w9 (fun l18 r19 vs20 w21 Q22 => crierlaw01_from_r1 b4 b6 l18 r19 vs20 w21 Q22) fun mk42 jp43 w44 =>
  jmpX jp43
  (J17 ((), (mk42 ++ [])) w44)
  (takeX (mk42 ++ []) w44 fun w45 =>
  Q (.slice none 0 0) w45)
  fun id46 => (id46 = 0 → (J17 ((), (mk42 ++ [])) w44)) ∧ (id46 ≠ 0 → (False)))
  fun (s47 : crierlaw01_from_J29.S × List Deferred) w48 => crierlaw01_from_j0 Q b6 w48 s47.2
def crierlaw01_from_ann : Nat → Option LoopSpec := fun
  | 29 => some crierlaw01_from_J29
  | _ => none
theorem crierlaw01_from_eq (a0 : Option Addr) (a1 : Int) (a2 : Int) (w : World) (Q : Value → World → Prop) : fnX P crierlaw01_from_ann Tryd.f11 [.pointer a0, .int .i64 a1, .int .i64 a2] w Q = crierlaw01_from a0 a1 a2 w Q := by kernel_rfl
theorem crierlaw01_from_cv {a0 : Option Addr} {a1 : Int} {a2 : Int} {w : World} {Q : Value → World → Prop} (h : crierlaw01_from a0 a1 a2 w Q) : CV P F.crierlaw01_from [.pointer a0, .int .i64 a1, .int .i64 a2] w Q := CV_of mixed Tryd.func11 (crierlaw01_from_eq a0 a1 a2 w Q ▸ h)

/- 12 crier/crierref01.Same -/
def crierref01_Same_L58 : LoopSpec where
  S := Int
  emb := fun s => [(5, .int .i64 s)]
  ext := fun t => match getL t 5 with
    | some (.int .i64 y7) => some (y7)
    | _ => none
  slots := [5]
  fits := fun _ => rfl
  ok := by
    intro t s h x hx
    (try dsimp only at h hx)
    split at h
    · cases h
      simp only [List.mem_cons, List.not_mem_nil, or_false] at hx
      rcases hx with rfl <;> assumption
    · cases h

def crierref01_Same_l0 (a0 : Option Addr) (a0_n : Nat) (a1 : Option Addr) (a1_n : Nat) (Q : Value → World → Prop) (n8 : Int) (w9 : World) (A10 : crierref01_Same_L58.S → World → Prop) : Prop :=
 cnd (decide (n8 < ((a0_n : Nat) : Int)))
 (drw w9 fun w11 =>
 ix n8 a0_n fun j12 => nn a0 fun a13 =>
 ldI .i64 (a13.add (j12 * 1)) w11 fun n14 =>
 ix n8 a1_n fun j15 => nn a1 fun a16 =>
 ldI .i64 (a16.add (j15 * 1)) w11 fun n17 =>
 cnd (n14 != n17)
 (Q (.bool false) w11)
 (A10 (((IntKind.i64.wrap (n8 + 1)) : Int)) w11))
 (Q (.bool true) w9)

def crierref01_Same (a0 : Option Addr) (a0_n : Nat) (a0_c : Nat) (a1 : Option Addr) (a1_n : Nat) (a1_c : Nat) (w : World) (Q : Value → World → Prop) : Prop :=
 cnd (((a0_n : Nat) : Int) != ((a1_n : Nat) : Int))
 (Q (.bool false) w)
 (LoopT (fun (s18 : crierref01_Same_L58.S) w19 A20 => crierref01_Same_l0 a0 a0_n a1 a1_n Q s18 w19 A20) ((0 : Int)) w)
def crierref01_Same_ann : Nat → Option LoopSpec := fun
  | 58 => some crierref01_Same_L58
  | 1864 => some (ordSpec [0, 1, 2, 3, 4, 5, 6, 7, 8])
  | _ => none
theorem crierref01_Same_eq (a0 : Option Addr) (a0_n : Nat) (a0_c : Nat) (a1 : Option Addr) (a1_n : Nat) (a1_c : Nat) (w : World) (Q : Value → World → Prop) : fnX P crierref01_Same_ann Tryd.f12 [.slice a0 a0_n a0_c, .slice a1 a1_n a1_c] w Q = crierref01_Same a0 a0_n a0_c a1 a1_n a1_c w Q := by kernel_rfl
theorem crierref01_Same_cv {a0 : Option Addr} {a0_n : Nat} {a0_c : Nat} {a1 : Option Addr} {a1_n : Nat} {a1_c : Nat} {w : World} {Q : Value → World → Prop} (h : crierref01_Same a0 a0_n a0_c a1 a1_n a1_c w Q) : CV P F.crierref01_Same [.slice a0 a0_n a0_c, .slice a1 a1_n a1_c] w Q := CV_of mixed Tryd.func12 (crierref01_Same_eq a0 a0_n a0_c a1 a1_n a1_c w Q ▸ h)

/- 13 (*crier/sets.Set[int]).From -/

def sets_Set_int_From (a0 : Option Addr) (a1 : Int) (w : World) (Q : Value → World → Prop) : Prop :=
 alc [.int .i64 a1] T.t3 w fun b3 w4 =>
 nn a0 fun a5 =>
 ldL a5 w4 fun p6 l7 c8 =>
 CV P F.slices_Clone__uint64_uint64 [.slice p6 l7 c8] w4 fun v9 w10 =>
 ∃ (p11 : Option Addr) (l12 c13 : Nat), v9 = .slice p11 l12 c13 ∧
 alc [.slice none 0 0] T.t54 w10 fun b14 w15 =>
 st1 (.slice p11 l12 c13) ⟨b14, 0, none⟩ w15 fun w16 =>
 Q (.func (.func F.sets_Set_int_From_1) [].toArray [.pointer (some ⟨b14, 0, none⟩), .pointer (some ⟨b3, 0, none⟩)].toArray) w16
def sets_Set_int_From_ann : Nat → Option LoopSpec := fun _ => none
theorem sets_Set_int_From_eq (a0 : Option Addr) (a1 : Int) (w : World) (Q : Value → World → Prop) : fnX P sets_Set_int_From_ann Tryd.f13 [.pointer a0, .int .i64 a1] w Q = sets_Set_int_From a0 a1 w Q := by kernel_rfl
theorem sets_Set_int_From_cv {a0 : Option Addr} {a1 : Int} {w : World} {Q : Value → World → Prop} (h : sets_Set_int_From a0 a1 w Q) : CV P F.sets_Set_int_From [.pointer a0, .int .i64 a1] w Q := CV_of mixed Tryd.func13 (sets_Set_int_From_eq a0 a1 w Q ▸ h)

/- 14 (*crier/sets.Set[int]).Take -/

def sets_Set_int_Take (a0 : Option Addr) (a1 : Int) (w : World) (Q : Value → World → Prop) : Prop :=
 CV P F.sets_Set_int_Has [.pointer a0, .int .i64 a1] w fun v3 w4 =>
 ∃ b5 : Bool, v3 = .bool b5 ∧
 cnd (!b5)
 (Q (.bool false) w4)
 (nn a0 fun a6 =>
 ldL a6 w4 fun p7 l8 c9 =>
 nz 64 <|
 ix (IntKind.i64.wrap (Int.tdiv a1 64)) l8 fun j10 => nn p7 fun a11 =>
 ldI .u64 (a11.add (j10 * 1)) w4 fun n12 =>
 nz 64 <|
 nng (Int.tmod (IntKind.u64.wrap (a1)) 64) <|
 ix (IntKind.i64.wrap (Int.tdiv a1 64)) l8 fun j13 => nn p7 fun a14 =>
 st1 (.int .u64 (bitX .andNot .u64 n12 (IntKind.u64.wrap (1 * 2 ^ min (Int.toNat (Int.tmod (IntKind.u64.wrap (a1)) 64)) (IntKind.u64.bits))))) (a14.add (j13 * 1)) w4 fun w15 =>
 Q (.bool true) w15)
def sets_Set_int_Take_ann : Nat → Option LoopSpec := fun _ => none
theorem sets_Set_int_Take_eq (a0 : Option Addr) (a1 : Int) (w : World) (Q : Value → World → Prop) : fnX P sets_Set_int_Take_ann Tryd.f14 [.pointer a0, .int .i64 a1] w Q = sets_Set_int_Take a0 a1 w Q := by kernel_rfl
theorem sets_Set_int_Take_cv {a0 : Option Addr} {a1 : Int} {w : World} {Q : Value → World → Prop} (h : sets_Set_int_Take a0 a1 w Q) : CV P F.sets_Set_int_Take [.pointer a0, .int .i64 a1] w Q := CV_of mixed Tryd.func14 (sets_Set_int_Take_eq a0 a1 w Q ▸ h)

/- 15 (*crier/sets.Set[int]).Put -/
def sets_Set_int_Put_J6 : LoopSpec where
  S := Bool
  emb := fun s => [(15, .bool s)]
  ext := fun t => match getL t 15 with
    | some (.bool y3) => some (y3)
    | _ => none
  slots := [15]
  fits := fun _ => rfl
  ok := by
    intro t s h x hx
    (try dsimp only at h hx)
    split at h
    · cases h
      simp only [List.mem_cons, List.not_mem_nil, or_false] at hx
      rcases hx with rfl <;> assumption
    · cases h

def sets_Set_int_Put_L28 : LoopSpec where
  S := Unit
  emb := fun _ => []
  ext := fun _ => some ()
  slots := []
  fits := fun _ => rfl
  ok := by
    intro t s h x hx; cases hx

def sets_Set_int_Put_l0 (a0 : Option Addr) (a1 : Int) (Q : Value → World → Prop) (w6 : World) (A7 : sets_Set_int_Put_L28.S → World → Prop) : Prop :=
 nn a0 fun a8 =>
 ldL a8 w6 fun p9 l10 c11 =>
 nz 64 <|
 cnd (decide (((l10 : Nat) : Int) ≤ (IntKind.i64.wrap (Int.tdiv a1 64))))
 (nn a0 fun a12 =>
 ldL a12 w6 fun p13 l14 c15 =>
 alc [.int .u64 0] T.t58 w6 fun b16 w17 =>
 runS P (Builtin.append_ #[T.t54, T.t54] T.t54 [.slice p13 l14 c15, .slice (some ⟨b16, 0, none⟩) 1 1].toArray) w17 fun p18 l19 c20 w21 =>
 nn a0 fun a22 =>
 st1 (.slice p18 l19 c20) a22 w21 fun w23 =>
 A7 () w23)
 (nn a0 fun a24 =>
 ldL a24 w6 fun p25 l26 c27 =>
 nz 64 <|
 ix (IntKind.i64.wrap (Int.tdiv a1 64)) l26 fun j28 => nn p25 fun a29 =>
 ldI .u64 (a29.add (j28 * 1)) w6 fun n30 =>
 nz 64 <|
 nng (Int.tmod (IntKind.u64.wrap (a1)) 64) <|
 ix (IntKind.i64.wrap (Int.tdiv a1 64)) l26 fun j31 => nn p25 fun a32 =>
 st1 (.int .u64 (bitX .or .u64 n30 (IntKind.u64.wrap (1 * 2 ^ min (Int.toNat (Int.tmod (IntKind.u64.wrap (a1)) 64)) (IntKind.u64.bits))))) (a32.add (j31 * 1)) w6 fun w33 =>
 Q (.bool true) w33)

def sets_Set_int_Put_j1 (a0 : Option Addr) (a1 : Int) (Q : Value → World → Prop) (b4 : Bool) (w5 : World) : Prop :=
 cnd b4
 (Q (.bool false) w5)
 (LoopT (fun (s34 : sets_Set_int_Put_L28.S) w35 A36 => sets_Set_int_Put_l0 a0 a1 Q w35 A36) () w5)

def sets_Set_int_Put (a0 : Option Addr) (a1 : Int) (w : World) (Q : Value → World → Prop) : Prop :=
 JoinT (fun (J37 : sets_Set_int_Put_J6.S → World → Prop) =>
  cnd (decide (a1 < 0))
  (J37 ((true : Bool)) w)
  (cnd (decide (a1 ≥ 16384))
  (J37 ((true : Bool)) w)
  (CV P F.sets_Set_int_Has [.pointer a0, .int .i64 a1] w fun v38 w39 =>
  ∃ b40 : Bool, v38 = .bool b40 ∧
  J37 ((b40 : Bool)) w39)))
  fun (s41 : sets_Set_int_Put_J6.S) w42 => sets_Set_int_Put_j1 a0 a1 Q s41 w42
def sets_Set_int_Put_ann : Nat → Option LoopSpec := fun
  | 6 => some sets_Set_int_Put_J6
  | 28 => some sets_Set_int_Put_L28
  | _ => none
theorem sets_Set_int_Put_eq (a0 : Option Addr) (a1 : Int) (w : World) (Q : Value → World → Prop) : fnX P sets_Set_int_Put_ann Tryd.f15 [.pointer a0, .int .i64 a1] w Q = sets_Set_int_Put a0 a1 w Q := by kernel_rfl
theorem sets_Set_int_Put_cv {a0 : Option Addr} {a1 : Int} {w : World} {Q : Value → World → Prop} (h : sets_Set_int_Put a0 a1 w Q) : CV P F.sets_Set_int_Put [.pointer a0, .int .i64 a1] w Q := CV_of mixed Tryd.func15 (sets_Set_int_Put_eq a0 a1 w Q ▸ h)

/- 16 (*crier/sets.Set[int]).Has -/
def sets_Set_int_Has_J3 : LoopSpec where
  S := Bool
  emb := fun s => [(4, .bool s)]
  ext := fun t => match getL t 4 with
    | some (.bool y3) => some (y3)
    | _ => none
  slots := [4]
  fits := fun _ => rfl
  ok := by
    intro t s h x hx
    (try dsimp only at h hx)
    split at h
    · cases h
      simp only [List.mem_cons, List.not_mem_nil, or_false] at hx
      rcases hx with rfl <;> assumption
    · cases h

def sets_Set_int_Has_j0 (Q : Value → World → Prop) (b4 : Bool) (w5 : World) : Prop :=
 Q (.bool b4) w5

def sets_Set_int_Has (a0 : Option Addr) (a1 : Int) (w : World) (Q : Value → World → Prop) : Prop :=
 JoinT (fun (J6 : sets_Set_int_Has_J3.S → World → Prop) =>
  cnd (decide (a1 ≥ 0))
  (nn a0 fun a7 =>
  ldL a7 w fun p8 l9 c10 =>
  cnd (decide (a1 < (IntKind.i64.wrap (64 * ((l9 : Nat) : Int)))))
  (nn a0 fun a11 =>
  ldL a11 w fun p12 l13 c14 =>
  nz 64 <|
  ix (IntKind.i64.wrap (Int.tdiv a1 64)) l13 fun j15 => nn p12 fun a16 =>
  ldI .u64 (a16.add (j15 * 1)) w fun n17 =>
  nz 64 <|
  nng (Int.tmod (IntKind.u64.wrap (a1)) 64) <|
  J6 ((((bitX .and .u64 (Int.fdiv n17 (2 ^ min (Int.toNat (Int.tmod (IntKind.u64.wrap (a1)) 64)) (IntKind.u64.bits))) 1) == 1) : Bool)) w)
  (J6 ((false : Bool)) w))
  (J6 ((false : Bool)) w))
  fun (s18 : sets_Set_int_Has_J3.S) w19 => sets_Set_int_Has_j0 Q s18 w19
def sets_Set_int_Has_ann : Nat → Option LoopSpec := fun
  | 3 => some sets_Set_int_Has_J3
  | _ => none
theorem sets_Set_int_Has_eq (a0 : Option Addr) (a1 : Int) (w : World) (Q : Value → World → Prop) : fnX P sets_Set_int_Has_ann Tryd.f16 [.pointer a0, .int .i64 a1] w Q = sets_Set_int_Has a0 a1 w Q := by kernel_rfl
theorem sets_Set_int_Has_cv {a0 : Option Addr} {a1 : Int} {w : World} {Q : Value → World → Prop} (h : sets_Set_int_Has a0 a1 w Q) : CV P F.sets_Set_int_Has [.pointer a0, .int .i64 a1] w Q := CV_of mixed Tryd.func16 (sets_Set_int_Has_eq a0 a1 w Q ▸ h)

/- 17 crier/sets.Same[int] -/
def sets_Same_int_L26 : LoopSpec where
  S := Int
  emb := fun s => [(17, .int .i64 s)]
  ext := fun t => match getL t 17 with
    | some (.int .i64 y12) => some (y12)
    | _ => none
  slots := [17]
  fits := fun _ => rfl
  ok := by
    intro t s h x hx
    (try dsimp only at h hx)
    split at h
    · cases h
      simp only [List.mem_cons, List.not_mem_nil, or_false] at hx
      rcases hx with rfl <;> assumption
    · cases h

def sets_Same_int_l0 (a0 : Option Addr) (a1 : Option Addr) (Q : Value → World → Prop) (l6 : Nat) (l10 : Nat) (n13 : Int) (w14 : World) (A15 : sets_Same_int_L26.S → World → Prop) : Prop :=
 cnd (decide (n13 < (if ((l10 : Nat) : Int) > ((l6 : Nat) : Int) then ((l10 : Nat) : Int) else ((l6 : Nat) : Int))))
 (drw w14 fun w16 =>
 nn a0 fun a17 =>
 ldL a17 w16 fun p18 l19 c20 =>
 nn a1 fun a21 =>
 ldL a21 w16 fun p22 l23 c24 =>
 CV P F.sets_word [.slice p18 l19 c20, .int .i64 n13] w16 fun v25 w26 =>
 ∃ n27 : Int, v25 = .int .u64 n27 ∧
 (ldL a21 w26 fun p28 l29 c30 =>
 ((.slice p28 l29 c30 : Value) = .slice p22 l23 c24)) ∧
 CV P F.sets_word [.slice p22 l23 c24, .int .i64 n13] w26 fun v31 w32 =>
 ∃ n33 : Int, v31 = .int .u64 n33 ∧
 cnd (n27 != n33)
 (Q (.bool false) w32)
 (A15 (((IntKind.i64.wrap (n13 + 1)) : Int)) w32))
 (Q (.bool true) w14)

def sets_Same_int (a0 : Option Addr) (a1 : Option Addr) (w : World) (Q : Value → World → Prop) : Prop :=
 drw w fun w3 =>
 nn a0 fun a4 =>
 ldL a4 w3 fun p5 l6 c7 =>
 nn a1 fun a8 =>
 ldL a8 w3 fun p9 l10 c11 =>
 LoopT (fun (s34 : sets_Same_int_L26.S) w35 A36 => sets_Same_int_l0 a0 a1 Q l6 l10 s34 w35 A36) ((0 : Int)) w3
def sets_Same_int_ann : Nat → Option LoopSpec := fun
  | 12 => some (ordSpec [0, 1, 2, 3, 4, 5, 6, 7, 8, 9, 10, 11])
  | 26 => some sets_Same_int_L26
  | 3378 => some (ordSpec [0, 1, 2, 3, 4, 6, 7, 8, 9, 10, 5, 11, 12])
  | _ => none
theorem sets_Same_int_eq (a0 : Option Addr) (a1 : Option Addr) (w : World) (Q : Value → World → Prop) : fnX P sets_Same_int_ann Tryd.f17 [.pointer a0, .pointer a1] w Q = sets_Same_int a0 a1 w Q := by kernel_rfl
theorem sets_Same_int_cv {a0 : Option Addr} {a1 : Option Addr} {w : World} {Q : Value → World → Prop} (h : sets_Same_int a0 a1 w Q) : CV P F.sets_Same_int [.pointer a0, .pointer a1] w Q := CV_of mixed Tryd.func17 (sets_Same_int_eq a0 a1 w Q ▸ h)

/- 18 (*crier/sets.Set[int]).Len -/
def sets_Set_int_Len_L58 : LoopSpec where
  S := Int × Int
  emb := fun s => [(3, .int .i64 s.1), (11, .int .i64 s.2)]
  ext := fun t => match getL t 3, getL t 11 with
    | some (.int .i64 y6), some (.int .i64 y7) => some (y6, y7)
    | _, _ => none
  slots := [3, 11]
  fits := fun _ => rfl
  ok := by
    intro t s h x hx
    (try dsimp only at h hx)
    split at h
    · cases h
      simp only [List.mem_cons, List.not_mem_nil, or_false] at hx
      rcases hx with rfl | rfl <;> assumption
    · cases h

def sets_Set_int_Len_l0 (Q : Value → World → Prop) (p3 : Option Addr) (l4 : Nat) (n8 : Int) (n9 : Int) (w10 : World) (A11 : sets_Set_int_Len_L58.S → World → Prop) : Prop :=
 cnd (decide (n9 < ((l4 : Nat) : Int)))
 (ix n9 l4 fun j12 => nn p3 fun a13 =>
 ldI .u64 (a13.add (j12 * 1)) w10 fun n14 =>
 CV P F.math_bits_OnesCount64 [.int .u64 n14] w10 fun v15 w16 =>
 ∃ n17 : Int, v15 = .int .i64 n17 ∧
 A11 (((IntKind.i64.wrap (n8 + n17)) : Int), ((IntKind.i64.wrap (n9 + 1)) : Int)) w16)
 (Q (.int .i64 n8) w10)

def sets_Set_int_Len (a0 : Option Addr) (w : World) (Q : Value → World → Prop) : Prop :=
 nn a0 fun a2 =>
 ldL a2 w fun p3 l4 c5 =>
 LoopT (fun (s18 : sets_Set_int_Len_L58.S) w19 A20 => sets_Set_int_Len_l0 Q p3 l4 s18.1 s18.2 w19 A20) ((0 : Int), (0 : Int)) w
def sets_Set_int_Len_ann : Nat → Option LoopSpec := fun
  | 58 => some sets_Set_int_Len_L58
  | _ => none
theorem sets_Set_int_Len_eq (a0 : Option Addr) (w : World) (Q : Value → World → Prop) : fnX P sets_Set_int_Len_ann Tryd.f18 [.pointer a0] w Q = sets_Set_int_Len a0 w Q := by kernel_rfl
theorem sets_Set_int_Len_cv {a0 : Option Addr} {w : World} {Q : Value → World → Prop} (h : sets_Set_int_Len a0 w Q) : CV P F.sets_Set_int_Len [.pointer a0] w Q := CV_of mixed Tryd.func18 (sets_Set_int_Len_eq a0 w Q ▸ h)

/- 19 crier/crierlaw01.List -/
def crierlaw01_List_J29 : LoopSpec where
  S := Unit
  emb := fun _ => []
  ext := fun _ => some ()
  slots := []
  fits := fun _ => rfl
  ok := by
    intro t s h x hx; cases hx

def crierlaw01_List_j0 (Q : Value → World → Prop) (b2 : Nat) (w7 : World) (ds8 : List Deferred) : Prop :=
 ldL ⟨b2, 0, none⟩ w7 fun p9 l10 c11 =>
 takeX ds8 w7 fun w12 =>
 Q (.slice p9 l10 c11) w12

def crierlaw01_List_r1 (b2 : Nat) (l14 : Nat) (r15 : Loop) (vs16 : List Value) (w17 : World) (Q18 : Value → World → Prop) : Prop :=
 X.b1 vs16 fun v19 =>
 ∃ n20 : Int, v19 = .int .i64 n20 ∧
 recAt w17 l14 r15 .ready none ∧ setR w17 l14 r15 .busy none fun w21 =>
 ldL ⟨b2, 0, none⟩ w21 fun p22 l23 c24 =>
 alc [.int .i64 n20] T.t3 w21 fun b25 w26 =>
 runS P (Builtin.append_ #[T.t22, T.t22] T.t22 [.slice p22 l23 c24, .slice (some ⟨b25, 0, none⟩) 1 1].toArray) w26 fun p27 l28 c29 w30 =>
 st1 (.slice p27 l28 c29) ⟨b2, 0, none⟩ w30 fun w31 =>
 ldL ⟨b2, 0, none⟩ w31 fun p32 l33 c34 =>
 cnd (decide (((l33 : Nat) : Int) > 20000))
 (recAt w31 l14 r15 .busy none ∧ setR w31 l14 r15 .done (some (.exit 0)) fun w35 => Q18 (.bool false) w35)
 (recAt w31 l14 r15 .busy none ∧ setR w31 l14 r15 .ready none fun w36 => Q18 (.bool true) w36)

def crierlaw01_List (a0 : Option Addr) (w : World) (Q : Value → World → Prop) : Prop :=
 alc [.slice none 0 0] T.t22 w fun b2 w3 =>
 CV P F.sets_Set_int_All [.pointer a0] w3 fun v4 w5 =>
 ∃ v6 : Value, v4 = v6 ∧
 JoinT (fun (J13 : crierlaw01_List_J29.S × List Deferred → World → Prop) =>
  RF P none 1 (v6) w5 (fun l14 r15 vs16 w17 Q18 => crierlaw01_List_r1 b2 l14 r15 vs16 w17 Q18) fun mk37 jp38 w39 =>
  jmpX jp38
  (J13 ((), (mk37 ++ [])) w39)
  (takeX (mk37 ++ []) w39 fun w40 =>
  Q (.slice none 0 0) w40)
  fun id41 => (id41 = 0 → (J13 ((), (mk37 ++ [])) w39)) ∧ (id41 ≠ 0 → (False)))
  fun (s42 : crierlaw01_List_J29.S × List Deferred) w43 => crierlaw01_List_j0 Q b2 w43 s42.2
def crierlaw01_List_ann : Nat → Option LoopSpec := fun
  | 29 => some crierlaw01_List_J29
  | _ => none
theorem crierlaw01_List_eq (a0 : Option Addr) (w : World) (Q : Value → World → Prop) : fnX P crierlaw01_List_ann Tryd.f19 [.pointer a0] w Q = crierlaw01_List a0 w Q := by kernel_rfl
theorem crierlaw01_List_cv {a0 : Option Addr} {w : World} {Q : Value → World → Prop} (h : crierlaw01_List a0 w Q) : CV P F.crierlaw01_List [.pointer a0] w Q := CV_of mixed Tryd.func19 (crierlaw01_List_eq a0 w Q ▸ h)

/- 20 crier/sets.Union[int] -/

def sets_Union_int (a0 : Option Addr) (a1 : Option Addr) (w : World) (Q : Value → World → Prop) : Prop :=
 CV P F.sets_join_int [.pointer a0, .pointer a1, .func (.func F.sets_Union_int_1) [].toArray [].toArray] w fun v3 w4 =>
 ∃ p5 : Option Addr, v3 = .pointer p5 ∧
 Q (.pointer p5) w4
def sets_Union_int_ann : Nat → Option LoopSpec := fun _ => none
theorem sets_Union_int_eq (a0 : Option Addr) (a1 : Option Addr) (w : World) (Q : Value → World → Prop) : fnX P sets_Union_int_ann Tryd.f20 [.pointer a0, .pointer a1] w Q = sets_Union_int a0 a1 w Q := by kernel_rfl
theorem sets_Union_int_cv {a0 : Option Addr} {a1 : Option Addr} {w : World} {Q : Value → World → Prop} (h : sets_Union_int a0 a1 w Q) : CV P F.sets_Union_int [.pointer a0, .pointer a1] w Q := CV_of mixed Tryd.func20 (sets_Union_int_eq a0 a1 w Q ▸ h)

/- 21 crier/sets.Meet[int] -/

def sets_Meet_int (a0 : Option Addr) (a1 : Option Addr) (w : World) (Q : Value → World → Prop) : Prop :=
 CV P F.sets_join_int [.pointer a0, .pointer a1, .func (.func F.sets_Meet_int_1) [].toArray [].toArray] w fun v3 w4 =>
 ∃ p5 : Option Addr, v3 = .pointer p5 ∧
 Q (.pointer p5) w4
def sets_Meet_int_ann : Nat → Option LoopSpec := fun _ => none
theorem sets_Meet_int_eq (a0 : Option Addr) (a1 : Option Addr) (w : World) (Q : Value → World → Prop) : fnX P sets_Meet_int_ann Tryd.f21 [.pointer a0, .pointer a1] w Q = sets_Meet_int a0 a1 w Q := by kernel_rfl
theorem sets_Meet_int_cv {a0 : Option Addr} {a1 : Option Addr} {w : World} {Q : Value → World → Prop} (h : sets_Meet_int a0 a1 w Q) : CV P F.sets_Meet_int [.pointer a0, .pointer a1] w Q := CV_of mixed Tryd.func21 (sets_Meet_int_eq a0 a1 w Q ▸ h)

/- 22 crier/sets.Less[int] -/

def sets_Less_int (a0 : Option Addr) (a1 : Option Addr) (w : World) (Q : Value → World → Prop) : Prop :=
 CV P F.sets_join_int [.pointer a0, .pointer a1, .func (.func F.sets_Less_int_1) [].toArray [].toArray] w fun v3 w4 =>
 ∃ p5 : Option Addr, v3 = .pointer p5 ∧
 Q (.pointer p5) w4
def sets_Less_int_ann : Nat → Option LoopSpec := fun _ => none
theorem sets_Less_int_eq (a0 : Option Addr) (a1 : Option Addr) (w : World) (Q : Value → World → Prop) : fnX P sets_Less_int_ann Tryd.f22 [.pointer a0, .pointer a1] w Q = sets_Less_int a0 a1 w Q := by kernel_rfl
theorem sets_Less_int_cv {a0 : Option Addr} {a1 : Option Addr} {w : World} {Q : Value → World → Prop} (h : sets_Less_int a0 a1 w Q) : CV P F.sets_Less_int [.pointer a0, .pointer a1] w Q := CV_of mixed Tryd.func22 (sets_Less_int_eq a0 a1 w Q ▸ h)

/- 23 (*crier/sets.Set[int]).Runs -/

def sets_Set_int_Runs (a0 : Option Addr) (w : World) (Q : Value → World → Prop) : Prop :=
 CV P F.sets_Set_int_All [.pointer a0] w fun v2 w3 =>
 ∃ v4 : Value, v2 = v4 ∧
 alc [.nilFunc] T.t29 w3 fun b5 w6 =>
 oneK v4 (st1 (v4) ⟨b5, 0, none⟩ w6 fun w7 =>
 Q (.func (.func F.sets_Set_int_Runs_1) [].toArray [.pointer (some ⟨b5, 0, none⟩)].toArray) w7)
def sets_Set_int_Runs_ann : Nat → Option LoopSpec := fun _ => none
theorem sets_Set_int_Runs_eq (a0 : Option Addr) (w : World) (Q : Value → World → Prop) : fnX P sets_Set_int_Runs_ann Tryd.f23 [.pointer a0] w Q = sets_Set_int_Runs a0 w Q := by kernel_rfl
theorem sets_Set_int_Runs_cv {a0 : Option Addr} {w : World} {Q : Value → World → Prop} (h : sets_Set_int_Runs a0 w Q) : CV P F.sets_Set_int_Runs [.pointer a0] w Q := CV_of mixed Tryd.func23 (sets_Set_int_Runs_eq a0 w Q ▸ h)

/- 24 crier/crierref01.Of -/
def crierref01_Of_L58 : LoopSpec where
  S := (Option Addr × Nat × Nat) × Int
  emb := fun s => [(3, .slice s.1.1 s.1.2.1 s.1.2.2), (4, .int .i64 s.2)]
  ext := fun t => match getL t 3, getL t 4 with
    | some (.slice y4 y5 y6), some (.int .i64 y7) => some ((y4, y5, y6), y7)
    | _, _ => none
  slots := [3, 4]
  fits := fun _ => rfl
  ok := by
    intro t s h x hx
    (try dsimp only at h hx)
    split at h
    · cases h
      simp only [List.mem_cons, List.not_mem_nil, or_false] at hx
      rcases hx with rfl | rfl <;> assumption
    · cases h

def crierref01_Of_l0 (a0 : Option Addr) (a0_n : Nat) (Q : Value → World → Prop) (p8 : Option Addr) (l9 : Nat) (c10 : Nat) (n11 : Int) (w12 : World) (A13 : crierref01_Of_L58.S → World → Prop) : Prop :=
 cnd (decide (n11 < ((a0_n : Nat) : Int)))
 (ix n11 a0_n fun j14 => nn a0 fun a15 =>
 ldI .i64 (a15.add (j14 * 1)) w12 fun n16 =>
 CV P F.crierref01_Put [.slice p8 l9 c10, .int .i64 n16] w12 fun v17 w18 =>
 ∃ (p19 : Option Addr) (l20 c21 : Nat), v17 = .slice p19 l20 c21 ∧
 A13 (((p19 : Option Addr), (l20 : Nat), (c21 : Nat)), ((IntKind.i64.wrap (n11 + 1)) : Int)) w18)
 (Q (.slice p8 l9 c10) w12)

def crierref01_Of (a0 : Option Addr) (a0_n : Nat) (a0_c : Nat) (w : World) (Q : Value → World → Prop) : Prop :=
 LoopT (fun (s22 : crierref01_Of_L58.S) w23 A24 => crierref01_Of_l0 a0 a0_n Q s22.1.1 s22.1.2.1 s22.1.2.2 s22.2 w23 A24) (((none : Option Addr), (0 : Nat), (0 : Nat)), (0 : Int)) w
def crierref01_Of_ann : Nat → Option LoopSpec := fun
  | 58 => some crierref01_Of_L58
  | _ => none
theorem crierref01_Of_eq (a0 : Option Addr) (a0_n : Nat) (a0_c : Nat) (w : World) (Q : Value → World → Prop) : fnX P crierref01_Of_ann Tryd.f24 [.slice a0 a0_n a0_c] w Q = crierref01_Of a0 a0_n a0_c w Q := by kernel_rfl
theorem crierref01_Of_cv {a0 : Option Addr} {a0_n : Nat} {a0_c : Nat} {w : World} {Q : Value → World → Prop} (h : crierref01_Of a0 a0_n a0_c w Q) : CV P F.crierref01_Of [.slice a0 a0_n a0_c] w Q := CV_of mixed Tryd.func24 (crierref01_Of_eq a0 a0_n a0_c w Q ▸ h)

/- 25 crier/crierlaw01.Alike -/
def crierlaw01_Alike_J6 : LoopSpec where
  S := Bool
  emb := fun s => [(32, .bool s)]
  ext := fun t => match getL t 32 with
    | some (.bool y5) => some (y5)
    | _ => none
  slots := [32]
  fits := fun _ => rfl
  ok := by
    intro t s h x hx
    (try dsimp only at h hx)
    split at h
    · cases h
      simp only [List.mem_cons, List.not_mem_nil, or_false] at hx
      rcases hx with rfl <;> assumption
    · cases h

def crierlaw01_Alike_J250 : LoopSpec where
  S := Bool
  emb := fun s => [(4, .bool s)]
  ext := fun t => match getL t 4 with
    | some (.bool y16) => some (y16)
    | _ => none
  slots := [4]
  fits := fun _ => rfl
  ok := by
    intro t s h x hx
    (try dsimp only at h hx)
    split at h
    · cases h
      simp only [List.mem_cons, List.not_mem_nil, or_false] at hx
      rcases hx with rfl <;> assumption
    · cases h

def crierlaw01_Alike_j0 (Q : Value → World → Prop) (b17 : Bool) (w18 : World) : Prop :=
 Q (.bool b17) w18

def crierlaw01_Alike_J63 : LoopSpec where
  S := Bool
  emb := fun s => [(4, .bool s)]
  ext := fun t => match getL t 4 with
    | some (.bool y22) => some (y22)
    | _ => none
  slots := [4]
  fits := fun _ => rfl
  ok := by
    intro t s h x hx
    (try dsimp only at h hx)
    split at h
    · cases h
      simp only [List.mem_cons, List.not_mem_nil, or_false] at hx
      rcases hx with rfl <;> assumption
    · cases h

def crierlaw01_Alike_j1 (Q : Value → World → Prop) (b23 : Bool) (w24 : World) : Prop :=
 Q (.bool b23) w24

def crierlaw01_Alike_j2 (a0 : Option Addr) (a1 : Option Addr) (a1_n : Nat) (Q : Value → World → Prop) (b6 : Bool) (w7 : World) : Prop :=
 cnd b6
 (Q (.bool false) w7)
 (CV P F.sets_Set_int_Least [.pointer a0] w7 fun v8 w9 =>
 ∃ n10 : Int, ∃ b11 : Bool, v8 = .tuple [.int .i64 n10, .bool b11].toArray ∧
 CV P F.sets_Set_int_Most [.pointer a0] w9 fun v12 w13 =>
 ∃ n14 : Int, ∃ b15 : Bool, v12 = .tuple [.int .i64 n14, .bool b15].toArray ∧
 cnd (((a1_n : Nat) : Int) == 0)
 (JoinT (fun (J19 : crierlaw01_Alike_J250.S → World → Prop) =>
  cnd (!b11)
  (cnd (!b15)
  (cnd (n10 == 0)
  (J19 (((n14 == 0) : Bool)) w13)
  (J19 ((false : Bool)) w13))
  (J19 ((false : Bool)) w13))
  (J19 ((false : Bool)) w13))
  fun (s20 : crierlaw01_Alike_J250.S) w21 => crierlaw01_Alike_j0 Q s20 w21)
 (JoinT (fun (J25 : crierlaw01_Alike_J63.S → World → Prop) =>
  cnd b11
  (cnd b15
  (ix 0 a1_n fun j26 => nn a1 fun a27 =>
  ldI .i64 (a27.add (j26 * 1)) w13 fun n28 =>
  cnd (n10 == n28)
  (ix (IntKind.i64.wrap (((a1_n : Nat) : Int) - 1)) a1_n fun j29 => nn a1 fun a30 =>
  ldI .i64 (a30.add (j29 * 1)) w13 fun n31 =>
  J25 (((n14 == n31) : Bool)) w13)
  (J25 ((false : Bool)) w13))
  (J25 ((false : Bool)) w13))
  (J25 ((false : Bool)) w13))
  fun (s32 : crierlaw01_Alike_J63.S) w33 => crierlaw01_Alike_j1 Q s32 w33))

def crierlaw01_Alike (a0 : Option Addr) (a1 : Option Addr) (a1_n : Nat) (a1_c : Nat) (w : World) (Q : Value → World → Prop) : Prop :=
 JoinT (fun (J34 : crierlaw01_Alike_J6.S → World → Prop) =>
  cnd (Option.isNone a0)
  (J34 ((true : Bool)) w)
  (CV P F.sets_Set_int_Len [.pointer a0] w fun v35 w36 =>
  ∃ n37 : Int, v35 = .int .i64 n37 ∧
  cnd (n37 != ((a1_n : Nat) : Int))
  (J34 ((true : Bool)) w36)
  (CV P F.crierlaw01_List [.pointer a0] w36 fun v38 w39 =>
  ∃ (p40 : Option Addr) (l41 c42 : Nat), v38 = .slice p40 l41 c42 ∧
  CV P F.crierref01_Same [.slice p40 l41 c42, .slice a1 a1_n a1_c] w39 fun v43 w44 =>
  ∃ b45 : Bool, v43 = .bool b45 ∧
  cnd (!b45)
  (J34 ((true : Bool)) w44)
  (CV P F.crierlaw01_Runs [.pointer a0] w44 fun v46 w47 =>
  ∃ (p48 : Option Addr) (l49 c50 : Nat), v46 = .slice p48 l49 c50 ∧
  CV P F.crierref01_Runs [.slice a1 a1_n a1_c] w47 fun v51 w52 =>
  ∃ (p53 : Option Addr) (l54 c55 : Nat), v51 = .slice p53 l54 c55 ∧
  CV P F.crierref01_Same [.slice p48 l49 c50, .slice p53 l54 c55] w52 fun v56 w57 =>
  ∃ b58 : Bool, v56 = .bool b58 ∧
  J34 (((!b58) : Bool)) w57))))
  fun (s59 : crierlaw01_Alike_J6.S) w60 => crierlaw01_Alike_j2 a0 a1 a1_n Q s59 w60
def crierlaw01_Alike_ann : Nat → Option LoopSpec := fun
  | 6 => some crierlaw01_Alike_J6
  | 250 => some crierlaw01_Alike_J250
  | 63 => some crierlaw01_Alike_J63
  | _ => none
theorem crierlaw01_Alike_eq (a0 : Option Addr) (a1 : Option Addr) (a1_n : Nat) (a1_c : Nat) (w : World) (Q : Value → World → Prop) : fnX P crierlaw01_Alike_ann Tryd.f25 [.pointer a0, .slice a1 a1_n a1_c] w Q = crierlaw01_Alike a0 a1 a1_n a1_c w Q := by kernel_rfl
theorem crierlaw01_Alike_cv {a0 : Option Addr} {a1 : Option Addr} {a1_n : Nat} {a1_c : Nat} {w : World} {Q : Value → World → Prop} (h : crierlaw01_Alike a0 a1 a1_n a1_c w Q) : CV P F.crierlaw01_Alike [.pointer a0, .slice a1 a1_n a1_c] w Q := CV_of mixed Tryd.func25 (crierlaw01_Alike_eq a0 a1 a1_n a1_c w Q ▸ h)

/- 26 crier/crierref01.Has -/
def crierref01_Has_L26 : LoopSpec where
  S := Int
  emb := fun s => [(5, .int .i64 s)]
  ext := fun t => match getL t 5 with
    | some (.int .i64 y5) => some (y5)
    | _ => none
  slots := [5]
  fits := fun _ => rfl
  ok := by
    intro t s h x hx
    (try dsimp only at h hx)
    split at h
    · cases h
      simp only [List.mem_cons, List.not_mem_nil, or_false] at hx
      rcases hx with rfl <;> assumption
    · cases h

def crierref01_Has_l0 (a0 : Option Addr) (a0_n : Nat) (a1 : Int) (Q : Value → World → Prop) (n6 : Int) (w7 : World) (A8 : crierref01_Has_L26.S → World → Prop) : Prop :=
 cnd (decide (n6 < ((a0_n : Nat) : Int)))
 (ix n6 a0_n fun j9 => nn a0 fun a10 =>
 ldI .i64 (a10.add (j9 * 1)) w7 fun n11 =>
 cnd (n11 == a1)
 (Q (.bool true) w7)
 (A8 (((IntKind.i64.wrap (n6 + 1)) : Int)) w7))
 (Q (.bool false) w7)

def crierref01_Has (a0 : Option Addr) (a0_n : Nat) (a0_c : Nat) (a1 : Int) (w : World) (Q : Value → World → Prop) : Prop :=
 LoopT (fun (s12 : crierref01_Has_L26.S) w13 A14 => crierref01_Has_l0 a0 a0_n a1 Q s12 w13 A14) ((0 : Int)) w
def crierref01_Has_ann : Nat → Option LoopSpec := fun
  | 26 => some crierref01_Has_L26
  | _ => none
theorem crierref01_Has_eq (a0 : Option Addr) (a0_n : Nat) (a0_c : Nat) (a1 : Int) (w : World) (Q : Value → World → Prop) : fnX P crierref01_Has_ann Tryd.f26 [.slice a0 a0_n a0_c, .int .i64 a1] w Q = crierref01_Has a0 a0_n a0_c a1 w Q := by kernel_rfl
theorem crierref01_Has_cv {a0 : Option Addr} {a0_n : Nat} {a0_c : Nat} {a1 : Int} {w : World} {Q : Value → World → Prop} (h : crierref01_Has a0 a0_n a0_c a1 w Q) : CV P F.crierref01_Has [.slice a0 a0_n a0_c, .int .i64 a1] w Q := CV_of mixed Tryd.func26 (crierref01_Has_eq a0 a0_n a0_c a1 w Q ▸ h)

/- 27 (*crier/sets.Set[int]).Copy -/

def sets_Set_int_Copy (a0 : Option Addr) (w : World) (Q : Value → World → Prop) : Prop :=
 nn a0 fun a2 =>
 ldL a2 w fun p3 l4 c5 =>
 CV P F.slices_Clone__uint64_uint64 [.slice p3 l4 c5] w fun v6 w7 =>
 ∃ (p8 : Option Addr) (l9 c10 : Nat), v6 = .slice p8 l9 c10 ∧
 alc [.slice p8 l9 c10] T.t56 w7 fun b11 w12 =>
 Q (.pointer (some ⟨b11, 0, none⟩)) w12
def sets_Set_int_Copy_ann : Nat → Option LoopSpec := fun _ => none
theorem sets_Set_int_Copy_eq (a0 : Option Addr) (w : World) (Q : Value → World → Prop) : fnX P sets_Set_int_Copy_ann Tryd.f27 [.pointer a0] w Q = sets_Set_int_Copy a0 w Q := by kernel_rfl
theorem sets_Set_int_Copy_cv {a0 : Option Addr} {w : World} {Q : Value → World → Prop} (h : sets_Set_int_Copy a0 w Q) : CV P F.sets_Set_int_Copy [.pointer a0] w Q := CV_of mixed Tryd.func27 (sets_Set_int_Copy_eq a0 w Q ▸ h)

/- 28 crier/crierlaw01.l0 -/

def crierlaw01_l0 (a0 : Option Addr) (a0_n : Nat) (a0_c : Nat) (w : World) (Q : Value → World → Prop) : Prop :=
 cnd (decide (((a0_n : Nat) : Int) > 0))
 (ix 0 a0_n fun j4 => nn a0 fun a5 =>
 ldI .i64 (a5.add (j4 * 1)) w fun n6 =>
 Q (.int .i64 n6) w)
 (Q (.int .i64 0) w)
def crierlaw01_l0_ann : Nat → Option LoopSpec := fun _ => none
theorem crierlaw01_l0_eq (a0 : Option Addr) (a0_n : Nat) (a0_c : Nat) (w : World) (Q : Value → World → Prop) : fnX P crierlaw01_l0_ann Tryd.f28 [.slice a0 a0_n a0_c] w Q = crierlaw01_l0 a0 a0_n a0_c w Q := by kernel_rfl
theorem crierlaw01_l0_cv {a0 : Option Addr} {a0_n : Nat} {a0_c : Nat} {w : World} {Q : Value → World → Prop} (h : crierlaw01_l0 a0 a0_n a0_c w Q) : CV P F.crierlaw01_l0 [.slice a0 a0_n a0_c] w Q := CV_of mixed Tryd.func28 (crierlaw01_l0_eq a0 a0_n a0_c w Q ▸ h)

/- 29 crier/crierref01.May -/
def crierref01_May_J3 : LoopSpec where
  S := Bool
  emb := fun s => [(2, .bool s)]
  ext := fun t => match getL t 2 with
    | some (.bool y2) => some (y2)
    | _ => none
  slots := [2]
  fits := fun _ => rfl
  ok := by
    intro t s h x hx
    (try dsimp only at h hx)
    split at h
    · cases h
      simp only [List.mem_cons, List.not_mem_nil, or_false] at hx
      rcases hx with rfl <;> assumption
    · cases h

def crierref01_May_j0 (Q : Value → World → Prop) (b3 : Bool) (w4 : World) : Prop :=
 Q (.bool b3) w4

def crierref01_May (a0 : Int) (w : World) (Q : Value → World → Prop) : Prop :=
 JoinT (fun (J5 : crierref01_May_J3.S → World → Prop) =>
  cnd (decide (a0 ≥ 0))
  (J5 (((decide (a0 < 16384)) : Bool)) w)
  (J5 ((false : Bool)) w))
  fun (s6 : crierref01_May_J3.S) w7 => crierref01_May_j0 Q s6 w7
def crierref01_May_ann : Nat → Option LoopSpec := fun
  | 3 => some crierref01_May_J3
  | _ => none
theorem crierref01_May_eq (a0 : Int) (w : World) (Q : Value → World → Prop) : fnX P crierref01_May_ann Tryd.f29 [.int .i64 a0] w Q = crierref01_May a0 w Q := by kernel_rfl
theorem crierref01_May_cv {a0 : Int} {w : World} {Q : Value → World → Prop} (h : crierref01_May a0 w Q) : CV P F.crierref01_May [.int .i64 a0] w Q := CV_of mixed Tryd.func29 (crierref01_May_eq a0 w Q ▸ h)

/- 30 crier/crierref01.Put -/
def crierref01_Put_J6 : LoopSpec where
  S := Bool
  emb := fun s => [(15, .bool s)]
  ext := fun t => match getL t 15 with
    | some (.bool y5) => some (y5)
    | _ => none
  slots := [15]
  fits := fun _ => rfl
  ok := by
    intro t s h x hx
    (try dsimp only at h hx)
    split at h
    · cases h
      simp only [List.mem_cons, List.not_mem_nil, or_false] at hx
      rcases hx with rfl <;> assumption
    · cases h

def crierref01_Put_L250 : LoopSpec where
  S := (Option Addr × Nat × Nat) × Bool × Int
  emb := fun s => [(5, .slice s.1.1 s.1.2.1 s.1.2.2), (6, .bool s.2.1), (7, .int .i64 s.2.2)]
  ext := fun t => match getL t 5, getL t 6, getL t 7 with
    | some (.slice y8 y9 y10), some (.bool y11), some (.int .i64 y12) => some ((y8, y9, y10), y11, y12)
    | _, _, _ => none
  slots := [5, 6, 7]
  fits := fun _ => rfl
  ok := by
    intro t s h x hx
    (try dsimp only at h hx)
    split at h
    · cases h
      simp only [List.mem_cons, List.not_mem_nil, or_false] at hx
      rcases hx with rfl | rfl | rfl <;> assumption
    · cases h

def crierref01_Put_J4004 : LoopSpec where
  S := (Option Addr × Nat × Nat) × Bool
  emb := fun s => [(5, .slice s.1.1 s.1.2.1 s.1.2.2), (6, .bool s.2)]
  ext := fun t => match getL t 5, getL t 6 with
    | some (.slice y20 y21 y22), some (.bool y23) => some ((y20, y21, y22), y23)
    | _, _ => none
  slots := [5, 6]
  fits := fun _ => rfl
  ok := by
    intro t s h x hx
    (try dsimp only at h hx)
    split at h
    · cases h
      simp only [List.mem_cons, List.not_mem_nil, or_false] at hx
      rcases hx with rfl | rfl <;> assumption
    · cases h

def crierref01_Put_j0 (a0 : Option Addr) (a0_n : Nat) (n17 : Int) (A19 : crierref01_Put_L250.S → World → Prop) (p24 : Option Addr) (l25 : Nat) (c26 : Nat) (b27 : Bool) (w28 : World) : Prop :=
 ix n17 a0_n fun j29 => nn a0 fun a30 =>
 ldI .i64 (a30.add (j29 * 1)) w28 fun n31 =>
 alc [.int .i64 n31] T.t3 w28 fun b32 w33 =>
 runS P (Builtin.append_ #[T.t22, T.t22] T.t22 [.slice p24 l25 c26, .slice (some ⟨b32, 0, none⟩) 1 1].toArray) w33 fun p34 l35 c36 w37 =>
 A19 (((p34 : Option Addr), (l35 : Nat), (c36 : Nat)), (b27 : Bool), ((IntKind.i64.wrap (n17 + 1)) : Int)) w37

def crierref01_Put_J8008 : LoopSpec where
  S := Bool
  emb := fun s => [(32, .bool s)]
  ext := fun t => match getL t 32 with
    | some (.bool y39) => some (y39)
    | _ => none
  slots := [32]
  fits := fun _ => rfl
  ok := by
    intro t s h x hx
    (try dsimp only at h hx)
    split at h
    · cases h
      simp only [List.mem_cons, List.not_mem_nil, or_false] at hx
      rcases hx with rfl <;> assumption
    · cases h

def crierref01_Put_j1 (a1 : Int) (p13 : Option Addr) (l14 : Nat) (c15 : Nat) (b16 : Bool) (J38 : crierref01_Put_J4004.S → World → Prop) (b40 : Bool) (w41 : World) : Prop :=
 cnd b40
 (alc [.int .i64 a1] T.t3 w41 fun b42 w43 =>
 runS P (Builtin.append_ #[T.t22, T.t22] T.t22 [.slice p13 l14 c15, .slice (some ⟨b42, 0, none⟩) 1 1].toArray) w43 fun p44 l45 c46 w47 =>
 J38 (((p44 : Option Addr), (l45 : Nat), (c46 : Nat)), (true : Bool)) w47)
 (J38 (((p13 : Option Addr), (l14 : Nat), (c15 : Nat)), (b16 : Bool)) w41)

def crierref01_Put_J63 : LoopSpec where
  S := (Option Addr × Nat × Nat)
  emb := fun s => [(5, .slice s.1 s.2.1 s.2.2)]
  ext := fun t => match getL t 5 with
    | some (.slice y56 y57 y58) => some ((y56, y57, y58))
    | _ => none
  slots := [5]
  fits := fun _ => rfl
  ok := by
    intro t s h x hx
    (try dsimp only at h hx)
    split at h
    · cases h
      simp only [List.mem_cons, List.not_mem_nil, or_false] at hx
      rcases hx with rfl <;> assumption
    · cases h

def crierref01_Put_j2 (Q : Value → World → Prop) (p59 : Option Addr) (l60 : Nat) (c61 : Nat) (w62 : World) : Prop :=
 Q (.slice p59 l60 c61) w62

def crierref01_Put_l3 (a0 : Option Addr) (a0_n : Nat) (a1 : Int) (Q : Value → World → Prop) (p13 : Option Addr) (l14 : Nat) (c15 : Nat) (b16 : Bool) (n17 : Int) (w18 : World) (A19 : crierref01_Put_L250.S → World → Prop) : Prop :=
 cnd (decide (n17 < ((a0_n : Nat) : Int)))
 (JoinT (fun (J38 : crierref01_Put_J4004.S → World → Prop) =>
  JoinT (fun (J48 : crierref01_Put_J8008.S → World → Prop) =>
   ix n17 a0_n fun j49 => nn a0 fun a50 =>
   ldI .i64 (a50.add (j49 * 1)) w18 fun n51 =>
   cnd (decide (n51 > a1))
   (J48 (((!b16) : Bool)) w18)
   (J48 ((false : Bool)) w18))
   fun (s52 : crierref01_Put_J8008.S) w53 => crierref01_Put_j1 a1 p13 l14 c15 b16 J38 s52 w53)
  fun (s54 : crierref01_Put_J4004.S) w55 => crierref01_Put_j0 a0 a0_n n17 A19 s54.1.1 s54.1.2.1 s54.1.2.2 s54.2 w55)
 (JoinT (fun (J63 : crierref01_Put_J63.S → World → Prop) =>
  cnd (!b16)
  (alc [.int .i64 a1] T.t3 w18 fun b64 w65 =>
  runS P (Builtin.append_ #[T.t22, T.t22] T.t22 [.slice p13 l14 c15, .slice (some ⟨b64, 0, none⟩) 1 1].toArray) w65 fun p66 l67 c68 w69 =>
  J63 (((p66 : Option Addr), (l67 : Nat), (c68 : Nat))) w69)
  (J63 (((p13 : Option Addr), (l14 : Nat), (c15 : Nat))) w18))
  fun (s70 : crierref01_Put_J63.S) w71 => crierref01_Put_j2 Q s70.1 s70.2.1 s70.2.2 w71)

def crierref01_Put_j4 (a0 : Option Addr) (a0_n : Nat) (a0_c : Nat) (a1 : Int) (Q : Value → World → Prop) (b6 : Bool) (w7 : World) : Prop :=
 cnd b6
 (Q (.slice a0 a0_n a0_c) w7)
 (LoopT (fun (s72 : crierref01_Put_L250.S) w73 A74 => crierref01_Put_l3 a0 a0_n a1 Q s72.1.1 s72.1.2.1 s72.1.2.2 s72.2.1 s72.2.2 w73 A74) (((none : Option Addr), (0 : Nat), (0 : Nat)), (false : Bool), (0 : Int)) w7)

def crierref01_Put (a0 : Option Addr) (a0_n : Nat) (a0_c : Nat) (a1 : Int) (w : World) (Q : Value → World → Prop) : Prop :=
 JoinT (fun (J75 : crierref01_Put_J6.S → World → Prop) =>
  CV P F.crierref01_May [.int .i64 a1] w fun v76 w77 =>
  ∃ b78 : Bool, v76 = .bool b78 ∧
  cnd (!b78)
  (J75 ((true : Bool)) w77)
  (CV P F.crierref01_Has [.slice a0 a0_n a0_c, .int .i64 a1] w77 fun v79 w80 =>
  ∃ b81 : Bool, v79 = .bool b81 ∧
  J75 ((b81 : Bool)) w80))
  fun (s82 : crierref01_Put_J6.S) w83 => crierref01_Put_j4 a0 a0_n a0_c a1 Q s82 w83
def crierref01_Put_ann : Nat → Option LoopSpec := fun
  | 6 => some crierref01_Put_J6
  | 250 => some crierref01_Put_L250
  | 4004 => some crierref01_Put_J4004
  | 8008 => some crierref01_Put_J8008
  | 63 => some crierref01_Put_J63
  | _ => none
theorem crierref01_Put_eq (a0 : Option Addr) (a0_n : Nat) (a0_c : Nat) (a1 : Int) (w : World) (Q : Value → World → Prop) : fnX P crierref01_Put_ann Tryd.f30 [.slice a0 a0_n a0_c, .int .i64 a1] w Q = crierref01_Put a0 a0_n a0_c a1 w Q := by kernel_rfl
theorem crierref01_Put_cv {a0 : Option Addr} {a0_n : Nat} {a0_c : Nat} {a1 : Int} {w : World} {Q : Value → World → Prop} (h : crierref01_Put a0 a0_n a0_c a1 w Q) : CV P F.crierref01_Put [.slice a0 a0_n a0_c, .int .i64 a1] w Q := CV_of mixed Tryd.func30 (crierref01_Put_eq a0 a0_n a0_c a1 w Q ▸ h)

/- 31 crier/crierref01.Take -/
def crierref01_Take_L58 : LoopSpec where
  S := (Option Addr × Nat × Nat) × Int
  emb := fun s => [(5, .slice s.1.1 s.1.2.1 s.1.2.2), (6, .int .i64 s.2)]
  ext := fun t => match getL t 5, getL t 6 with
    | some (.slice y5 y6 y7), some (.int .i64 y8) => some ((y5, y6, y7), y8)
    | _, _ => none
  slots := [5, 6]
  fits := fun _ => rfl
  ok := by
    intro t s h x hx
    (try dsimp only at h hx)
    split at h
    · cases h
      simp only [List.mem_cons, List.not_mem_nil, or_false] at hx
      rcases hx with rfl | rfl <;> assumption
    · cases h

def crierref01_Take_J466 : LoopSpec where
  S := (Option Addr × Nat × Nat)
  emb := fun s => [(5, .slice s.1 s.2.1 s.2.2)]
  ext := fun t => match getL t 5 with
    | some (.slice y15 y16 y17) => some ((y15, y16, y17))
    | _ => none
  slots := [5]
  fits := fun _ => rfl
  ok := by
    intro t s h x hx
    (try dsimp only at h hx)
    split at h
    · cases h
      simp only [List.mem_cons, List.not_mem_nil, or_false] at hx
      rcases hx with rfl <;> assumption
    · cases h

def crierref01_Take_j0 (n12 : Int) (A14 : crierref01_Take_L58.S → World → Prop) (p18 : Option Addr) (l19 : Nat) (c20 : Nat) (w21 : World) : Prop :=
 A14 (((p18 : Option Addr), (l19 : Nat), (c20 : Nat)), ((IntKind.i64.wrap (n12 + 1)) : Int)) w21

def crierref01_Take_l1 (a0 : Option Addr) (a0_n : Nat) (a1 : Int) (Q : Value → World → Prop) (p9 : Option Addr) (l10 : Nat) (c11 : Nat) (n12 : Int) (w13 : World) (A14 : crierref01_Take_L58.S → World → Prop) : Prop :=
 cnd (decide (n12 < ((a0_n : Nat) : Int)))
 (JoinT (fun (J22 : crierref01_Take_J466.S → World → Prop) =>
  ix n12 a0_n fun j23 => nn a0 fun a24 =>
  ldI .i64 (a24.add (j23 * 1)) w13 fun n25 =>
  cnd (n25 != a1)
  (ix n12 a0_n fun j26 => nn a0 fun a27 =>
  ldI .i64 (a27.add (j26 * 1)) w13 fun n28 =>
  alc [.int .i64 n28] T.t3 w13 fun b29 w30 =>
  runS P (Builtin.append_ #[T.t22, T.t22] T.t22 [.slice p9 l10 c11, .slice (some ⟨b29, 0, none⟩) 1 1].toArray) w30 fun p31 l32 c33 w34 =>
  J22 (((p31 : Option Addr), (l32 : Nat), (c33 : Nat))) w34)
  (J22 (((p9 : Option Addr), (l10 : Nat), (c11 : Nat))) w13))
  fun (s35 : crierref01_Take_J466.S) w36 => crierref01_Take_j0 n12 A14 s35.1 s35.2.1 s35.2.2 w36)
 (Q (.slice p9 l10 c11) w13)

def crierref01_Take (a0 : Option Addr) (a0_n : Nat) (a0_c : Nat) (a1 : Int) (w : World) (Q : Value → World → Prop) : Prop :=
 LoopT (fun (s37 : crierref01_Take_L58.S) w38 A39 => crierref01_Take_l1 a0 a0_n a1 Q s37.1.1 s37.1.2.1 s37.1.2.2 s37.2 w38 A39) (((none : Option Addr), (0 : Nat), (0 : Nat)), (0 : Int)) w
def crierref01_Take_ann : Nat → Option LoopSpec := fun
  | 58 => some crierref01_Take_L58
  | 466 => some crierref01_Take_J466
  | _ => none
theorem crierref01_Take_eq (a0 : Option Addr) (a0_n : Nat) (a0_c : Nat) (a1 : Int) (w : World) (Q : Value → World → Prop) : fnX P crierref01_Take_ann Tryd.f31 [.slice a0 a0_n a0_c, .int .i64 a1] w Q = crierref01_Take a0 a0_n a0_c a1 w Q := by kernel_rfl
theorem crierref01_Take_cv {a0 : Option Addr} {a0_n : Nat} {a0_c : Nat} {a1 : Int} {w : World} {Q : Value → World → Prop} (h : crierref01_Take a0 a0_n a0_c a1 w Q) : CV P F.crierref01_Take [.slice a0 a0_n a0_c, .int .i64 a1] w Q := CV_of mixed Tryd.func31 (crierref01_Take_eq a0 a0_n a0_c a1 w Q ▸ h)

/- 32 crier/crierref01.From -/
def crierref01_From_L58 : LoopSpec where
  S := (Option Addr × Nat × Nat) × Int
  emb := fun s => [(5, .slice s.1.1 s.1.2.1 s.1.2.2), (6, .int .i64 s.2)]
  ext := fun t => match getL t 5, getL t 6 with
    | some (.slice y5 y6 y7), some (.int .i64 y8) => some ((y5, y6, y7), y8)
    | _, _ => none
  slots := [5, 6]
  fits := fun _ => rfl
  ok := by
    intro t s h x hx
    (try dsimp only at h hx)
    split at h
    · cases h
      simp only [List.mem_cons, List.not_mem_nil, or_false] at hx
      rcases hx with rfl | rfl <;> assumption
    · cases h

def crierref01_From_J466 : LoopSpec where
  S := (Option Addr × Nat × Nat)
  emb := fun s => [(5, .slice s.1 s.2.1 s.2.2)]
  ext := fun t => match getL t 5 with
    | some (.slice y15 y16 y17) => some ((y15, y16, y17))
    | _ => none
  slots := [5]
  fits := fun _ => rfl
  ok := by
    intro t s h x hx
    (try dsimp only at h hx)
    split at h
    · cases h
      simp only [List.mem_cons, List.not_mem_nil, or_false] at hx
      rcases hx with rfl <;> assumption
    · cases h

def crierref01_From_j0 (n12 : Int) (A14 : crierref01_From_L58.S → World → Prop) (p18 : Option Addr) (l19 : Nat) (c20 : Nat) (w21 : World) : Prop :=
 A14 (((p18 : Option Addr), (l19 : Nat), (c20 : Nat)), ((IntKind.i64.wrap (n12 + 1)) : Int)) w21

def crierref01_From_l1 (a0 : Option Addr) (a0_n : Nat) (a1 : Int) (Q : Value → World → Prop) (p9 : Option Addr) (l10 : Nat) (c11 : Nat) (n12 : Int) (w13 : World) (A14 : crierref01_From_L58.S → World → Prop) : Prop :=
 cnd (decide (n12 < ((a0_n : Nat) : Int)))
 (JoinT (fun (J22 : crierref01_From_J466.S → World → Prop) =>
  ix n12 a0_n fun j23 => nn a0 fun a24 =>
  ldI .i64 (a24.add (j23 * 1)) w13 fun n25 =>
  cnd (decide (n25 ≥ a1))
  (ix n12 a0_n fun j26 => nn a0 fun a27 =>
  ldI .i64 (a27.add (j26 * 1)) w13 fun n28 =>
  alc [.int .i64 n28] T.t3 w13 fun b29 w30 =>
  runS P (Builtin.append_ #[T.t22, T.t22] T.t22 [.slice p9 l10 c11, .slice (some ⟨b29, 0, none⟩) 1 1].toArray) w30 fun p31 l32 c33 w34 =>
  J22 (((p31 : Option Addr), (l32 : Nat), (c33 : Nat))) w34)
  (J22 (((p9 : Option Addr), (l10 : Nat), (c11 : Nat))) w13))
  fun (s35 : crierref01_From_J466.S) w36 => crierref01_From_j0 n12 A14 s35.1 s35.2.1 s35.2.2 w36)
 (Q (.slice p9 l10 c11) w13)

def crierref01_From (a0 : Option Addr) (a0_n : Nat) (a0_c : Nat) (a1 : Int) (w : World) (Q : Value → World → Prop) : Prop :=
 LoopT (fun (s37 : crierref01_From_L58.S) w38 A39 => crierref01_From_l1 a0 a0_n a1 Q s37.1.1 s37.1.2.1 s37.1.2.2 s37.2 w38 A39) (((none : Option Addr), (0 : Nat), (0 : Nat)), (0 : Int)) w
def crierref01_From_ann : Nat → Option LoopSpec := fun
  | 58 => some crierref01_From_L58
  | 466 => some crierref01_From_J466
  | _ => none
theorem crierref01_From_eq (a0 : Option Addr) (a0_n : Nat) (a0_c : Nat) (a1 : Int) (w : World) (Q : Value → World → Prop) : fnX P crierref01_From_ann Tryd.f32 [.slice a0 a0_n a0_c, .int .i64 a1] w Q = crierref01_From a0 a0_n a0_c a1 w Q := by kernel_rfl
theorem crierref01_From_cv {a0 : Option Addr} {a0_n : Nat} {a0_c : Nat} {a1 : Int} {w : World} {Q : Value → World → Prop} (h : crierref01_From a0 a0_n a0_c a1 w Q) : CV P F.crierref01_From [.slice a0 a0_n a0_c, .int .i64 a1] w Q := CV_of mixed Tryd.func32 (crierref01_From_eq a0 a0_n a0_c a1 w Q ▸ h)

/- 33 crier/crierref01.Union -/
def crierref01_Union_L58 : LoopSpec where
  S := (Option Addr × Nat × Nat) × Int
  emb := fun s => [(5, .slice s.1.1 s.1.2.1 s.1.2.2), (6, .int .i64 s.2)]
  ext := fun t => match getL t 5, getL t 6 with
    | some (.slice y12 y13 y14), some (.int .i64 y15) => some ((y12, y13, y14), y15)
    | _, _ => none
  slots := [5, 6]
  fits := fun _ => rfl
  ok := by
    intro t s h x hx
    (try dsimp only at h hx)
    split at h
    · cases h
      simp only [List.mem_cons, List.not_mem_nil, or_false] at hx
      rcases hx with rfl | rfl <;> assumption
    · cases h

def crierref01_Union_l0 (a1 : Option Addr) (a1_n : Nat) (Q : Value → World → Prop) (p16 : Option Addr) (l17 : Nat) (c18 : Nat) (n19 : Int) (w20 : World) (A21 : crierref01_Union_L58.S → World → Prop) : Prop :=
 cnd (decide (n19 < ((a1_n : Nat) : Int)))
 (ix n19 a1_n fun j22 => nn a1 fun a23 =>
 ldI .i64 (a23.add (j22 * 1)) w20 fun n24 =>
 CV P F.crierref01_Put [.slice p16 l17 c18, .int .i64 n24] w20 fun v25 w26 =>
 ∃ (p27 : Option Addr) (l28 c29 : Nat), v25 = .slice p27 l28 c29 ∧
 A21 (((p27 : Option Addr), (l28 : Nat), (c29 : Nat)), ((IntKind.i64.wrap (n19 + 1)) : Int)) w26)
 (Q (.slice p16 l17 c18) w20)

def crierref01_Union (a0 : Option Addr) (a0_n : Nat) (a0_c : Nat) (a1 : Option Addr) (a1_n : Nat) (a1_c : Nat) (w : World) (Q : Value → World → Prop) : Prop :=
 CV P F.crierref01_Of [.slice a0 a0_n a0_c] w fun v7 w8 =>
 ∃ (p9 : Option Addr) (l10 c11 : Nat), v7 = .slice p9 l10 c11 ∧
 LoopT (fun (s30 : crierref01_Union_L58.S) w31 A32 => crierref01_Union_l0 a1 a1_n Q s30.1.1 s30.1.2.1 s30.1.2.2 s30.2 w31 A32) (((p9 : Option Addr), (l10 : Nat), (c11 : Nat)), (0 : Int)) w8
def crierref01_Union_ann : Nat → Option LoopSpec := fun
  | 58 => some crierref01_Union_L58
  | _ => none
theorem crierref01_Union_eq (a0 : Option Addr) (a0_n : Nat) (a0_c : Nat) (a1 : Option Addr) (a1_n : Nat) (a1_c : Nat) (w : World) (Q : Value → World → Prop) : fnX P crierref01_Union_ann Tryd.f33 [.slice a0 a0_n a0_c, .slice a1 a1_n a1_c] w Q = crierref01_Union a0 a0_n a0_c a1 a1_n a1_c w Q := by kernel_rfl
theorem crierref01_Union_cv {a0 : Option Addr} {a0_n : Nat} {a0_c : Nat} {a1 : Option Addr} {a1_n : Nat} {a1_c : Nat} {w : World} {Q : Value → World → Prop} (h : crierref01_Union a0 a0_n a0_c a1 a1_n a1_c w Q) : CV P F.crierref01_Union [.slice a0 a0_n a0_c, .slice a1 a1_n a1_c] w Q := CV_of mixed Tryd.func33 (crierref01_Union_eq a0 a0_n a0_c a1 a1_n a1_c w Q ▸ h)

/- 34 crier/crierref01.Meet -/
def crierref01_Meet_L58 : LoopSpec where
  S := (Option Addr × Nat × Nat) × Int
  emb := fun s => [(5, .slice s.1.1 s.1.2.1 s.1.2.2), (6, .int .i64 s.2)]
  ext := fun t => match getL t 5, getL t 6 with
    | some (.slice y7 y8 y9), some (.int .i64 y10) => some ((y7, y8, y9), y10)
    | _, _ => none
  slots := [5, 6]
  fits := fun _ => rfl
  ok := by
    intro t s h x hx
    (try dsimp only at h hx)
    split at h
    · cases h
      simp only [List.mem_cons, List.not_mem_nil, or_false] at hx
      rcases hx with rfl | rfl <;> assumption
    · cases h

def crierref01_Meet_J466 : LoopSpec where
  S := (Option Addr × Nat × Nat)
  emb := fun s => [(5, .slice s.1 s.2.1 s.2.2)]
  ext := fun t => match getL t 5 with
    | some (.slice y17 y18 y19) => some ((y17, y18, y19))
    | _ => none
  slots := [5]
  fits := fun _ => rfl
  ok := by
    intro t s h x hx
    (try dsimp only at h hx)
    split at h
    · cases h
      simp only [List.mem_cons, List.not_mem_nil, or_false] at hx
      rcases hx with rfl <;> assumption
    · cases h

def crierref01_Meet_j0 (n14 : Int) (A16 : crierref01_Meet_L58.S → World → Prop) (p20 : Option Addr) (l21 : Nat) (c22 : Nat) (w23 : World) : Prop :=
 A16 (((p20 : Option Addr), (l21 : Nat), (c22 : Nat)), ((IntKind.i64.wrap (n14 + 1)) : Int)) w23

def crierref01_Meet_l1 (a0 : Option Addr) (a0_n : Nat) (a1 : Option Addr) (a1_n : Nat) (a1_c : Nat) (Q : Value → World → Prop) (p11 : Option Addr) (l12 : Nat) (c13 : Nat) (n14 : Int) (w15 : World) (A16 : crierref01_Meet_L58.S → World → Prop) : Prop :=
 cnd (decide (n14 < ((a0_n : Nat) : Int)))
 (JoinT (fun (J24 : crierref01_Meet_J466.S → World → Prop) =>
  ix n14 a0_n fun j25 => nn a0 fun a26 =>
  ldI .i64 (a26.add (j25 * 1)) w15 fun n27 =>
  CV P F.crierref01_Has [.slice a1 a1_n a1_c, .int .i64 n27] w15 fun v28 w29 =>
  ∃ b30 : Bool, v28 = .bool b30 ∧
  cnd b30
  (ix n14 a0_n fun j31 => nn a0 fun a32 =>
  ldI .i64 (a32.add (j31 * 1)) w29 fun n33 =>
  alc [.int .i64 n33] T.t3 w29 fun b34 w35 =>
  runS P (Builtin.append_ #[T.t22, T.t22] T.t22 [.slice p11 l12 c13, .slice (some ⟨b34, 0, none⟩) 1 1].toArray) w35 fun p36 l37 c38 w39 =>
  J24 (((p36 : Option Addr), (l37 : Nat), (c38 : Nat))) w39)
  (J24 (((p11 : Option Addr), (l12 : Nat), (c13 : Nat))) w29))
  fun (s40 : crierref01_Meet_J466.S) w41 => crierref01_Meet_j0 n14 A16 s40.1 s40.2.1 s40.2.2 w41)
 (Q (.slice p11 l12 c13) w15)

def crierref01_Meet (a0 : Option Addr) (a0_n : Nat) (a0_c : Nat) (a1 : Option Addr) (a1_n : Nat) (a1_c : Nat) (w : World) (Q : Value → World → Prop) : Prop :=
 LoopT (fun (s42 : crierref01_Meet_L58.S) w43 A44 => crierref01_Meet_l1 a0 a0_n a1 a1_n a1_c Q s42.1.1 s42.1.2.1 s42.1.2.2 s42.2 w43 A44) (((none : Option Addr), (0 : Nat), (0 : Nat)), (0 : Int)) w
def crierref01_Meet_ann : Nat → Option LoopSpec := fun
  | 58 => some crierref01_Meet_L58
  | 466 => some crierref01_Meet_J466
  | _ => none
theorem crierref01_Meet_eq (a0 : Option Addr) (a0_n : Nat) (a0_c : Nat) (a1 : Option Addr) (a1_n : Nat) (a1_c : Nat) (w : World) (Q : Value → World → Prop) : fnX P crierref01_Meet_ann Tryd.f34 [.slice a0 a0_n a0_c, .slice a1 a1_n a1_c] w Q = crierref01_Meet a0 a0_n a0_c a1 a1_n a1_c w Q := by kernel_rfl
theorem crierref01_Meet_cv {a0 : Option Addr} {a0_n : Nat} {a0_c : Nat} {a1 : Option Addr} {a1_n : Nat} {a1_c : Nat} {w : World} {Q : Value → World → Prop} (h : crierref01_Meet a0 a0_n a0_c a1 a1_n a1_c w Q) : CV P F.crierref01_Meet [.slice a0 a0_n a0_c, .slice a1 a1_n a1_c] w Q := CV_of mixed Tryd.func34 (crierref01_Meet_eq a0 a0_n a0_c a1 a1_n a1_c w Q ▸ h)

/- 35 crier/crierref01.Less -/
def crierref01_Less_L58 : LoopSpec where
  S := (Option Addr × Nat × Nat) × Int
  emb := fun s => [(5, .slice s.1.1 s.1.2.1 s.1.2.2), (6, .int .i64 s.2)]
  ext := fun t => match getL t 5, getL t 6 with
    | some (.slice y7 y8 y9), some (.int .i64 y10) => some ((y7, y8, y9), y10)
    | _, _ => none
  slots := [5, 6]
  fits := fun _ => rfl
  ok := by
    intro t s h x hx
    (try dsimp only at h hx)
    split at h
    · cases h
      simp only [List.mem_cons, List.not_mem_nil, or_false] at hx
      rcases hx with rfl | rfl <;> assumption
    · cases h

def crierref01_Less_J466 : LoopSpec where
  S := (Option Addr × Nat × Nat)
  emb := fun s => [(5, .slice s.1 s.2.1 s.2.2)]
  ext := fun t => match getL t 5 with
    | some (.slice y17 y18 y19) => some ((y17, y18, y19))
    | _ => none
  slots := [5]
  fits := fun _ => rfl
  ok := by
    intro t s h x hx
    (try dsimp only at h hx)
    split at h
    · cases h
      simp only [List.mem_cons, List.not_mem_nil, or_false] at hx
      rcases hx with rfl <;> assumption
    · cases h

def crierref01_Less_j0 (n14 : Int) (A16 : crierref01_Less_L58.S → World → Prop) (p20 : Option Addr) (l21 : Nat) (c22 : Nat) (w23 : World) : Prop :=
 A16 (((p20 : Option Addr), (l21 : Nat), (c22 : Nat)), ((IntKind.i64.wrap (n14 + 1)) : Int)) w23

def crierref01_Less_l1 (a0 : Option Addr) (a0_n : Nat) (a1 : Option Addr) (a1_n : Nat) (a1_c : Nat) (Q : Value → World → Prop) (p11 : Option Addr) (l12 : Nat) (c13 : Nat) (n14 : Int) (w15 : World) (A16 : crierref01_Less_L58.S → World → Prop) : Prop :=
 cnd (decide (n14 < ((a0_n : Nat) : Int)))
 (JoinT (fun (J24 : crierref01_Less_J466.S → World → Prop) =>
  ix n14 a0_n fun j25 => nn a0 fun a26 =>
  ldI .i64 (a26.add (j25 * 1)) w15 fun n27 =>
  CV P F.crierref01_Has [.slice a1 a1_n a1_c, .int .i64 n27] w15 fun v28 w29 =>
  ∃ b30 : Bool, v28 = .bool b30 ∧
  cnd (!b30)
  (ix n14 a0_n fun j31 => nn a0 fun a32 =>
  ldI .i64 (a32.add (j31 * 1)) w29 fun n33 =>
  alc [.int .i64 n33] T.t3 w29 fun b34 w35 =>
  runS P (Builtin.append_ #[T.t22, T.t22] T.t22 [.slice p11 l12 c13, .slice (some ⟨b34, 0, none⟩) 1 1].toArray) w35 fun p36 l37 c38 w39 =>
  J24 (((p36 : Option Addr), (l37 : Nat), (c38 : Nat))) w39)
  (J24 (((p11 : Option Addr), (l12 : Nat), (c13 : Nat))) w29))
  fun (s40 : crierref01_Less_J466.S) w41 => crierref01_Less_j0 n14 A16 s40.1 s40.2.1 s40.2.2 w41)
 (Q (.slice p11 l12 c13) w15)

def crierref01_Less (a0 : Option Addr) (a0_n : Nat) (a0_c : Nat) (a1 : Option Addr) (a1_n : Nat) (a1_c : Nat) (w : World) (Q : Value → World → Prop) : Prop :=
 LoopT (fun (s42 : crierref01_Less_L58.S) w43 A44 => crierref01_Less_l1 a0 a0_n a1 a1_n a1_c Q s42.1.1 s42.1.2.1 s42.1.2.2 s42.2 w43 A44) (((none : Option Addr), (0 : Nat), (0 : Nat)), (0 : Int)) w
def crierref01_Less_ann : Nat → Option LoopSpec := fun
  | 58 => some crierref01_Less_L58
  | 466 => some crierref01_Less_J466
  | _ => none
theorem crierref01_Less_eq (a0 : Option Addr) (a0_n : Nat) (a0_c : Nat) (a1 : Option Addr) (a1_n : Nat) (a1_c : Nat) (w : World) (Q : Value → World → Prop) : fnX P crierref01_Less_ann Tryd.f35 [.slice a0 a0_n a0_c, .slice a1 a1_n a1_c] w Q = crierref01_Less a0 a0_n a0_c a1 a1_n a1_c w Q := by kernel_rfl
theorem crierref01_Less_cv {a0 : Option Addr} {a0_n : Nat} {a0_c : Nat} {a1 : Option Addr} {a1_n : Nat} {a1_c : Nat} {w : World} {Q : Value → World → Prop} (h : crierref01_Less a0 a0_n a0_c a1 a1_n a1_c w Q) : CV P F.crierref01_Less [.slice a0 a0_n a0_c, .slice a1 a1_n a1_c] w Q := CV_of mixed Tryd.func35 (crierref01_Less_eq a0 a0_n a0_c a1 a1_n a1_c w Q ▸ h)

/- 36 (*crier/sets.Set[int]).Least -/
def sets_Set_int_Least_r0 (b2 : Nat) (b4 : Nat) (l9 : Nat) (r10 : Loop) (vs11 : List Value) (w12 : World) (Q13 : Value → World → Prop) : Prop :=
 X.b1 vs11 fun v14 =>
 ∃ n15 : Int, v14 = .int .i64 n15 ∧
 recAt w12 l9 r10 .ready none ∧ setR w12 l9 r10 .busy none fun w16 =>
 st1 (.int .i64 n15) ⟨b2, 0, none⟩ w16 fun w17 =>
 st1 (.bool true) ⟨b4, 0, none⟩ w17 fun w18 =>
 recAt w18 l9 r10 .busy none ∧ setR w18 l9 r10 .done (some .ret) fun w19 => Q13 (.bool false) w19

def sets_Set_int_Least (a0 : Option Addr) (w : World) (Q : Value → World → Prop) : Prop :=
 alc [.int .i64 0] T.t3 w fun b2 w3 =>
 alc [.bool false] T.t4 w3 fun b4 w5 =>
 CV P F.sets_Set_int_All [.pointer a0] w5 fun v6 w7 =>
 ∃ v8 : Value, v6 = v8 ∧
 RF P none 1 (v8) w7 (fun l9 r10 vs11 w12 Q13 => sets_Set_int_Least_r0 b2 b4 l9 r10 vs11 w12 Q13) fun mk20 jp21 w22 =>
 jmpX jp21
 (st1 (.int .i64 0) ⟨b2, 0, none⟩ w22 fun w23 =>
 st1 (.bool false) ⟨b4, 0, none⟩ w23 fun w24 =>
 takeX (mk20 ++ []) w24 fun w25 =>
 ldI .i64 ⟨b2, 0, none⟩ w25 fun n26 =>
 ldB ⟨b4, 0, none⟩ w25 fun b27 =>
 Q (.tuple [.int .i64 n26, .bool b27].toArray) w25)
 (takeX (mk20 ++ []) w22 fun w28 =>
 ldI .i64 ⟨b2, 0, none⟩ w28 fun n29 =>
 ldB ⟨b4, 0, none⟩ w28 fun b30 =>
 Q (.tuple [.int .i64 n29, .bool b30].toArray) w28)
 fun id31 => False
def sets_Set_int_Least_ann : Nat → Option LoopSpec := fun _ => none
theorem sets_Set_int_Least_eq (a0 : Option Addr) (w : World) (Q : Value → World → Prop) : fnX P sets_Set_int_Least_ann Tryd.f36 [.pointer a0] w Q = sets_Set_int_Least a0 w Q := by kernel_rfl
theorem sets_Set_int_Least_cv {a0 : Option Addr} {w : World} {Q : Value → World → Prop} (h : sets_Set_int_Least a0 w Q) : CV P F.sets_Set_int_Least [.pointer a0] w Q := CV_of mixed Tryd.func36 (sets_Set_int_Least_eq a0 w Q ▸ h)

/- 37 slices.Clone[[]uint64,uint64] -/

def slices_Clone__uint64_uint64 (a0 : Option Addr) (a0_n : Nat) (a0_c : Nat) (w : World) (Q : Value → World → Prop) : Prop :=
 cnd (Option.isNone a0)
 (Q (.slice none 0 0) w)
 (alc [] T.t58 w fun b4 w5 =>
 runS P (Builtin.append_ #[T.t54, T.t54] T.t54 [.slice (some ⟨b4, 0, none⟩) 0 0, .slice a0 a0_n a0_c].toArray) w5 fun p6 l7 c8 w9 =>
 Q (.slice p6 l7 c8) w9)
def slices_Clone__uint64_uint64_ann : Nat → Option LoopSpec := fun _ => none
theorem slices_Clone__uint64_uint64_eq (a0 : Option Addr) (a0_n : Nat) (a0_c : Nat) (w : World) (Q : Value → World → Prop) : fnX P slices_Clone__uint64_uint64_ann Tryd.f37 [.slice a0 a0_n a0_c] w Q = slices_Clone__uint64_uint64 a0 a0_n a0_c w Q := by kernel_rfl
theorem slices_Clone__uint64_uint64_cv {a0 : Option Addr} {a0_n : Nat} {a0_c : Nat} {w : World} {Q : Value → World → Prop} (h : slices_Clone__uint64_uint64 a0 a0_n a0_c w Q) : CV P F.slices_Clone__uint64_uint64 [.slice a0 a0_n a0_c] w Q := CV_of mixed Tryd.func37 (slices_Clone__uint64_uint64_eq a0 a0_n a0_c w Q ▸ h)

/- 38 (*crier/sets.Set[int]).From$1 -/
def sets_Set_int_From_1_L6 : LoopSpec where
  S := Int
  emb := fun s => [(9, .int .i64 s)]
  ext := fun t => match getL t 9 with
    | some (.int .i64 y7) => some (y7)
    | _ => none
  slots := [9]
  fits := fun _ => rfl
  ok := by
    intro t s h x hx
    (try dsimp only at h hx)
    split at h
    · cases h
      simp only [List.mem_cons, List.not_mem_nil, or_false] at hx
      rcases hx with rfl <;> assumption
    · cases h

def sets_Set_int_From_1_L818 : LoopSpec where
  S := Int
  emb := fun s => [(5, .int .u64 s)]
  ext := fun t => match getL t 5 with
    | some (.int .u64 y14) => some (y14)
    | _ => none
  slots := [5]
  fits := fun _ => rfl
  ok := by
    intro t s h x hx
    (try dsimp only at h hx)
    split at h
    · cases h
      simp only [List.mem_cons, List.not_mem_nil, or_false] at hx
      rcases hx with rfl <;> assumption
    · cases h

def sets_Set_int_From_1_J26187 : LoopSpec where
  S := Bool
  emb := fun s => [(33, .bool s)]
  ext := fun t => match getL t 33 with
    | some (.bool y21) => some (y21)
    | _ => none
  slots := [33]
  fits := fun _ => rfl
  ok := by
    intro t s h x hx
    (try dsimp only at h hx)
    split at h
    · cases h
      simp only [List.mem_cons, List.not_mem_nil, or_false] at hx
      rcases hx with rfl <;> assumption
    · cases h

def sets_Set_int_From_1_j0 (Q : Value → World → Prop) (n15 : Int) (A17 : sets_Set_int_From_1_L818.S → World → Prop) (b22 : Bool) (w23 : World) : Prop :=
 cnd b22
 (Q (.tuple [].toArray) w23)
 (A17 (((bitX .and .u64 n15 (IntKind.u64.wrap (n15 - 1))) : Int)) w23)

def sets_Set_int_From_1_l1 (a0 : Value) (f1 : Addr) (Q : Value → World → Prop) (n8 : Int) (A10 : sets_Set_int_From_1_L6.S → World → Prop) (n15 : Int) (w16 : World) (A17 : sets_Set_int_From_1_L818.S → World → Prop) : Prop :=
 cnd (n15 != 0)
 (CV P F.math_bits_TrailingZeros64 [.int .u64 n15] w16 fun v18 w19 =>
 ∃ n20 : Int, v18 = .int .i64 n20 ∧
 JoinT (fun (J24 : sets_Set_int_From_1_J26187.S → World → Prop) =>
  ldI .i64 f1 w19 fun n25 =>
  cnd (decide ((IntKind.i64.wrap ((IntKind.i64.wrap (64 * n8)) + n20)) ≥ n25))
  (callVal P a0 [.int .i64 (IntKind.i64.wrap ((IntKind.i64.wrap (64 * n8)) + n20))] w19 fun v26 w27 =>
  ∃ b28 : Bool, v26 = .bool b28 ∧
  J24 (((!b28) : Bool)) w27)
  (J24 ((false : Bool)) w19))
  fun (s29 : sets_Set_int_From_1_J26187.S) w30 => sets_Set_int_From_1_j0 Q n15 A17 s29 w30)
 (A10 (((IntKind.i64.wrap (n8 + 1)) : Int)) w16)

def sets_Set_int_From_1_l2 (a0 : Value) (f1 : Addr) (Q : Value → World → Prop) (p4 : Option Addr) (l5 : Nat) (n8 : Int) (w9 : World) (A10 : sets_Set_int_From_1_L6.S → World → Prop) : Prop :=
 cnd (decide (n8 < ((l5 : Nat) : Int)))
 (ix n8 l5 fun j11 => nn p4 fun a12 =>
 ldI .u64 (a12.add (j11 * 1)) w9 fun n13 =>
 LoopT (fun (s31 : sets_Set_int_From_1_L818.S) w32 A33 => sets_Set_int_From_1_l1 a0 f1 Q n8 A10 s31 w32 A33) ((n13 : Int)) w9)
 (Q (.tuple [].toArray) w9)

def sets_Set_int_From_1 (a0 : Value) (f0 : Addr) (f1 : Addr) (w : World) (Q : Value → World → Prop) : Prop :=
 ldL f0 w fun p4 l5 c6 =>
 LoopT (fun (s34 : sets_Set_int_From_1_L6.S) w35 A36 => sets_Set_int_From_1_l2 a0 f1 Q p4 l5 s34 w35 A36) ((0 : Int)) w
def sets_Set_int_From_1_ann : Nat → Option LoopSpec := fun
  | 6 => some sets_Set_int_From_1_L6
  | 818 => some sets_Set_int_From_1_L818
  | 26187 => some sets_Set_int_From_1_J26187
  | _ => none
theorem sets_Set_int_From_1_eq (a0 : Value) (f0 : Addr) (f1 : Addr) (w : World) (Q : Value → World → Prop) : fnX P sets_Set_int_From_1_ann Tryd.f38 [a0, .pointer (some f0), .pointer (some f1)] w Q = sets_Set_int_From_1 a0 f0 f1 w Q := by kernel_rfl
theorem sets_Set_int_From_1_cv {a0 : Value} {f0 : Addr} {f1 : Addr} {w : World} {Q : Value → World → Prop} (h : sets_Set_int_From_1 a0 f0 f1 w Q) : CV P F.sets_Set_int_From_1 [a0, .pointer (some f0), .pointer (some f1)] w Q := CV_of mixed Tryd.func38 (sets_Set_int_From_1_eq a0 f0 f1 w Q ▸ h)

/- 39 math/bits.TrailingZeros64 -/

def math_bits_TrailingZeros64 (a0 : Int) (w : World) (Q : Value → World → Prop) : Prop :=
 cnd (a0 == 0)
 (Q (.int .i64 64) w)
 (nng 58 <|
 ix (Int.fdiv (IntKind.u64.wrap ((bitX .and .u64 a0 (IntKind.u64.wrap (0 - a0))) * 285870213051353865)) (2 ^ min (Int.toNat 58) (IntKind.u64.bits))) 64 fun j2 =>
 ldI .u8 (Addr.add ⟨0, 0, none⟩ (j2 * 1)) w fun n3 =>
 Q (.int .i64 (IntKind.i64.wrap (n3))) w)
def math_bits_TrailingZeros64_ann : Nat → Option LoopSpec := fun _ => none
theorem math_bits_TrailingZeros64_eq (a0 : Int) (w : World) (Q : Value → World → Prop) : fnX P math_bits_TrailingZeros64_ann Tryd.f39 [.int .u64 a0] w Q = math_bits_TrailingZeros64 a0 w Q := by kernel_rfl
theorem math_bits_TrailingZeros64_cv {a0 : Int} {w : World} {Q : Value → World → Prop} (h : math_bits_TrailingZeros64 a0 w Q) : CV P F.math_bits_TrailingZeros64 [.int .u64 a0] w Q := CV_of mixed Tryd.func39 (math_bits_TrailingZeros64_eq a0 w Q ▸ h)

/- 40 crier/sets.word -/

def sets_word (a0 : Option Addr) (a0_n : Nat) (a0_c : Nat) (a1 : Int) (w : World) (Q : Value → World → Prop) : Prop :=
 cnd (decide (a1 < ((a0_n : Nat) : Int)))
 (ix a1 a0_n fun j5 => nn a0 fun a6 =>
 ldI .u64 (a6.add (j5 * 1)) w fun n7 =>
 Q (.int .u64 n7) w)
 (Q (.int .u64 0) w)
def sets_word_ann : Nat → Option LoopSpec := fun _ => none
theorem sets_word_eq (a0 : Option Addr) (a0_n : Nat) (a0_c : Nat) (a1 : Int) (w : World) (Q : Value → World → Prop) : fnX P sets_word_ann Tryd.f40 [.slice a0 a0_n a0_c, .int .i64 a1] w Q = sets_word a0 a0_n a0_c a1 w Q := by kernel_rfl
theorem sets_word_cv {a0 : Option Addr} {a0_n : Nat} {a0_c : Nat} {a1 : Int} {w : World} {Q : Value → World → Prop} (h : sets_word a0 a0_n a0_c a1 w Q) : CV P F.sets_word [.slice a0 a0_n a0_c, .int .i64 a1] w Q := CV_of mixed Tryd.func40 (sets_word_eq a0 a0_n a0_c a1 w Q ▸ h)

/- 41 math/bits.OnesCount64 -/

def math_bits_OnesCount64 (a0 : Int) (w : World) (Q : Value → World → Prop) : Prop :=
 nng 1 <|
 nng 2 <|
 nng 4 <|
 nng 8 <|
 nng 16 <|
 nng 32 <|
 Q (.int .i64 (bitX .and .i64 (IntKind.i64.wrap ((IntKind.u64.wrap ((IntKind.u64.wrap ((IntKind.u64.wrap ((bitX .and .u64 (IntKind.u64.wrap ((Int.fdiv (IntKind.u64.wrap ((bitX .and .u64 (Int.fdiv (IntKind.u64.wrap ((bitX .and .u64 (Int.fdiv a0 (2 ^ min (Int.toNat 1) (IntKind.u64.bits))) 6148914691236517205) + (bitX .and .u64 a0 6148914691236517205))) (2 ^ min (Int.toNat 2) (IntKind.u64.bits))) 3689348814741910323) + (bitX .and .u64 (IntKind.u64.wrap ((bitX .and .u64 (Int.fdiv a0 (2 ^ min (Int.toNat 1) (IntKind.u64.bits))) 6148914691236517205) + (bitX .and .u64 a0 6148914691236517205))) 3689348814741910323))) (2 ^ min (Int.toNat 4) (IntKind.u64.bits))) + (IntKind.u64.wrap ((bitX .and .u64 (Int.fdiv (IntKind.u64.wrap ((bitX .and .u64 (Int.fdiv a0 (2 ^ min (Int.toNat 1) (IntKind.u64.bits))) 6148914691236517205) + (bitX .and .u64 a0 6148914691236517205))) (2 ^ min (Int.toNat 2) (IntKind.u64.bits))) 3689348814741910323) + (bitX .and .u64 (IntKind.u64.wrap ((bitX .and .u64 (Int.fdiv a0 (2 ^ min (Int.toNat 1) (IntKind.u64.bits))) 6148914691236517205) + (bitX .and .u64 a0 6148914691236517205))) 3689348814741910323))))) 1085102592571150095) + (Int.fdiv (bitX .and .u64 (IntKind.u64.wrap ((Int.fdiv (IntKind.u64.wrap ((bitX .and .u64 (Int.fdiv (IntKind.u64.wrap ((bitX .and .u64 (Int.fdiv a0 (2 ^ min (Int.toNat 1) (IntKind.u64.bits))) 6148914691236517205) + (bitX .and .u64 a0 6148914691236517205))) (2 ^ min (Int.toNat 2) (IntKind.u64.bits))) 3689348814741910323) + (bitX .and .u64 (IntKind.u64.wrap ((bitX .and .u64 (Int.fdiv a0 (2 ^ min (Int.toNat 1) (IntKind.u64.bits))) 6148914691236517205) + (bitX .and .u64 a0 6148914691236517205))) 3689348814741910323))) (2 ^ min (Int.toNat 4) (IntKind.u64.bits))) + (IntKind.u64.wrap ((bitX .and .u64 (Int.fdiv (IntKind.u64.wrap ((bitX .and .u64 (Int.fdiv a0 (2 ^ min (Int.toNat 1) (IntKind.u64.bits))) 6148914691236517205) + (bitX .and .u64 a0 6148914691236517205))) (2 ^ min (Int.toNat 2) (IntKind.u64.bits))) 3689348814741910323) + (bitX .and .u64 (IntKind.u64.wrap ((bitX .and .u64 (Int.fdiv a0 (2 ^ min (Int.toNat 1) (IntKind.u64.bits))) 6148914691236517205) + (bitX .and .u64 a0 6148914691236517205))) 3689348814741910323))))) 1085102592571150095) (2 ^ min (Int.toNat 8) (IntKind.u64.bits))))) + (Int.fdiv (IntKind.u64.wrap ((bitX .and .u64 (IntKind.u64.wrap ((Int.fdiv (IntKind.u64.wrap ((bitX .and .u64 (Int.fdiv (IntKind.u64.wrap ((bitX .and .u64 (Int.fdiv a0 (2 ^ min (Int.toNat 1) (IntKind.u64.bits))) 6148914691236517205) + (bitX .and .u64 a0 6148914691236517205))) (2 ^ min (Int.toNat 2) (IntKind.u64.bits))) 3689348814741910323) + (bitX .and .u64 (IntKind.u64.wrap ((bitX .and .u64 (Int.fdiv a0 (2 ^ min (Int.toNat 1) (IntKind.u64.bits))) 6148914691236517205) + (bitX .and .u64 a0 6148914691236517205))) 3689348814741910323))) (2 ^ min (Int.toNat 4) (IntKind.u64.bits))) + (IntKind.u64.wrap ((bitX .and .u64 (Int.fdiv (IntKind.u64.wrap ((bitX .and .u64 (Int.fdiv a0 (2 ^ min (Int.toNat 1) (IntKind.u64.bits))) 6148914691236517205) + (bitX .and .u64 a0 6148914691236517205))) (2 ^ min (Int.toNat 2) (IntKind.u64.bits))) 3689348814741910323) + (bitX .and .u64 (IntKind.u64.wrap ((bitX .and .u64 (Int.fdiv a0 (2 ^ min (Int.toNat 1) (IntKind.u64.bits))) 6148914691236517205) + (bitX .and .u64 a0 6148914691236517205))) 3689348814741910323))))) 1085102592571150095) + (Int.fdiv (bitX .and .u64 (IntKind.u64.wrap ((Int.fdiv (IntKind.u64.wrap ((bitX .and .u64 (Int.fdiv (IntKind.u64.wrap ((bitX .and .u64 (Int.fdiv a0 (2 ^ min (Int.toNat 1) (IntKind.u64.bits))) 6148914691236517205) + (bitX .and .u64 a0 6148914691236517205))) (2 ^ min (Int.toNat 2) (IntKind.u64.bits))) 3689348814741910323) + (bitX .and .u64 (IntKind.u64.wrap ((bitX .and .u64 (Int.fdiv a0 (2 ^ min (Int.toNat 1) (IntKind.u64.bits))) 6148914691236517205) + (bitX .and .u64 a0 6148914691236517205))) 3689348814741910323))) (2 ^ min (Int.toNat 4) (IntKind.u64.bits))) + (IntKind.u64.wrap ((bitX .and .u64 (Int.fdiv (IntKind.u64.wrap ((bitX .and .u64 (Int.fdiv a0 (2 ^ min (Int.toNat 1) (IntKind.u64.bits))) 6148914691236517205) + (bitX .and .u64 a0 6148914691236517205))) (2 ^ min (Int.toNat 2) (IntKind.u64.bits))) 3689348814741910323) + (bitX .and .u64 (IntKind.u64.wrap ((bitX .and .u64 (Int.fdiv a0 (2 ^ min (Int.toNat 1) (IntKind.u64.bits))) 6148914691236517205) + (bitX .and .u64 a0 6148914691236517205))) 3689348814741910323))))) 1085102592571150095) (2 ^ min (Int.toNat 8) (IntKind.u64.bits))))) (2 ^ min (Int.toNat 16) (IntKind.u64.bits))))) + (Int.fdiv (IntKind.u64.wrap ((IntKind.u64.wrap ((bitX .and .u64 (IntKind.u64.wrap ((Int.fdiv (IntKind.u64.wrap ((bitX .and .u64 (Int.fdiv (IntKind.u64.wrap ((bitX .and .u64 (Int.fdiv a0 (2 ^ min (Int.toNat 1) (IntKind.u64.bits))) 6148914691236517205) + (bitX .and .u64 a0 6148914691236517205))) (2 ^ min (Int.toNat 2) (IntKind.u64.bits))) 3689348814741910323) + (bitX .and .u64 (IntKind.u64.wrap ((bitX .and .u64 (Int.fdiv a0 (2 ^ min (Int.toNat 1) (IntKind.u64.bits))) 6148914691236517205) + (bitX .and .u64 a0 6148914691236517205))) 3689348814741910323))) (2 ^ min (Int.toNat 4) (IntKind.u64.bits))) + (IntKind.u64.wrap ((bitX .and .u64 (Int.fdiv (IntKind.u64.wrap ((bitX .and .u64 (Int.fdiv a0 (2 ^ min (Int.toNat 1) (IntKind.u64.bits))) 6148914691236517205) + (bitX .and .u64 a0 6148914691236517205))) (2 ^ min (Int.toNat 2) (IntKind.u64.bits))) 3689348814741910323) + (bitX .and .u64 (IntKind.u64.wrap ((bitX .and .u64 (Int.fdiv a0 (2 ^ min (Int.toNat 1) (IntKind.u64.bits))) 6148914691236517205) + (bitX .and .u64 a0 6148914691236517205))) 3689348814741910323))))) 1085102592571150095) + (Int.fdiv (bitX .and .u64 (IntKind.u64.wrap ((Int.fdiv (IntKind.u64.wrap ((bitX .and .u64 (Int.fdiv (IntKind.u64.wrap ((bitX .and .u64 (Int.fdiv a0 (2 ^ min (Int.toNat 1) (IntKind.u64.bits))) 6148914691236517205) + (bitX .and .u64 a0 6148914691236517205))) (2 ^ min (Int.toNat 2) (IntKind.u64.bits))) 3689348814741910323) + (bitX .and .u64 (IntKind.u64.wrap ((bitX .and .u64 (Int.fdiv a0 (2 ^ min (Int.toNat 1) (IntKind.u64.bits))) 6148914691236517205) + (bitX .and .u64 a0 6148914691236517205))) 3689348814741910323))) (2 ^ min (Int.toNat 4) (IntKind.u64.bits))) + (IntKind.u64.wrap ((bitX .and .u64 (Int.fdiv (IntKind.u64.wrap ((bitX .and .u64 (Int.fdiv a0 (2 ^ min (Int.toNat 1) (IntKind.u64.bits))) 6148914691236517205) + (bitX .and .u64 a0 6148914691236517205))) (2 ^ min (Int.toNat 2) (IntKind.u64.bits))) 3689348814741910323) + (bitX .and .u64 (IntKind.u64.wrap ((bitX .and .u64 (Int.fdiv a0 (2 ^ min (Int.toNat 1) (IntKind.u64.bits))) 6148914691236517205) + (bitX .and .u64 a0 6148914691236517205))) 3689348814741910323))))) 1085102592571150095) (2 ^ min (Int.toNat 8) (IntKind.u64.bits))))) + (Int.fdiv (IntKind.u64.wrap ((bitX .and .u64 (IntKind.u64.wrap ((Int.fdiv (IntKind.u64.wrap ((bitX .and .u64 (Int.fdiv (IntKind.u64.wrap ((bitX .and .u64 (Int.fdiv a0 (2 ^ min (Int.toNat 1) (IntKind.u64.bits))) 6148914691236517205) + (bitX .and .u64 a0 6148914691236517205))) (2 ^ min (Int.toNat 2) (IntKind.u64.bits))) 3689348814741910323) + (bitX .and .u64 (IntKind.u64.wrap ((bitX .and .u64 (Int.fdiv a0 (2 ^ min (Int.toNat 1) (IntKind.u64.bits))) 6148914691236517205) + (bitX .and .u64 a0 6148914691236517205))) 3689348814741910323))) (2 ^ min (Int.toNat 4) (IntKind.u64.bits))) + (IntKind.u64.wrap ((bitX .and .u64 (Int.fdiv (IntKind.u64.wrap ((bitX .and .u64 (Int.fdiv a0 (2 ^ min (Int.toNat 1) (IntKind.u64.bits))) 6148914691236517205) + (bitX .and .u64 a0 6148914691236517205))) (2 ^ min (Int.toNat 2) (IntKind.u64.bits))) 3689348814741910323) + (bitX .and .u64 (IntKind.u64.wrap ((bitX .and .u64 (Int.fdiv a0 (2 ^ min (Int.toNat 1) (IntKind.u64.bits))) 6148914691236517205) + (bitX .and .u64 a0 6148914691236517205))) 3689348814741910323))))) 1085102592571150095) + (Int.fdiv (bitX .and .u64 (IntKind.u64.wrap ((Int.fdiv (IntKind.u64.wrap ((bitX .and .u64 (Int.fdiv (IntKind.u64.wrap ((bitX .and .u64 (Int.fdiv a0 (2 ^ min (Int.toNat 1) (IntKind.u64.bits))) 6148914691236517205) + (bitX .and .u64 a0 6148914691236517205))) (2 ^ min (Int.toNat 2) (IntKind.u64.bits))) 3689348814741910323) + (bitX .and .u64 (IntKind.u64.wrap ((bitX .and .u64 (Int.fdiv a0 (2 ^ min (Int.toNat 1) (IntKind.u64.bits))) 6148914691236517205) + (bitX .and .u64 a0 6148914691236517205))) 3689348814741910323))) (2 ^ min (Int.toNat 4) (IntKind.u64.bits))) + (IntKind.u64.wrap ((bitX .and .u64 (Int.fdiv (IntKind.u64.wrap ((bitX .and .u64 (Int.fdiv a0 (2 ^ min (Int.toNat 1) (IntKind.u64.bits))) 6148914691236517205) + (bitX .and .u64 a0 6148914691236517205))) (2 ^ min (Int.toNat 2) (IntKind.u64.bits))) 3689348814741910323) + (bitX .and .u64 (IntKind.u64.wrap ((bitX .and .u64 (Int.fdiv a0 (2 ^ min (Int.toNat 1) (IntKind.u64.bits))) 6148914691236517205) + (bitX .and .u64 a0 6148914691236517205))) 3689348814741910323))))) 1085102592571150095) (2 ^ min (Int.toNat 8) (IntKind.u64.bits))))) (2 ^ min (Int.toNat 16) (IntKind.u64.bits))))) (2 ^ min (Int.toNat 32) (IntKind.u64.bits))))))) 127)) w
def math_bits_OnesCount64_ann : Nat → Option LoopSpec := fun _ => none
theorem math_bits_OnesCount64_eq (a0 : Int) (w : World) (Q : Value → World → Prop) : fnX P math_bits_OnesCount64_ann Tryd.f41 [.int .u64 a0] w Q = math_bits_OnesCount64 a0 w Q := by kernel_rfl
theorem math_bits_OnesCount64_cv {a0 : Int} {w : World} {Q : Value → World → Prop} (h : math_bits_OnesCount64 a0 w Q) : CV P F.math_bits_OnesCount64 [.int .u64 a0] w Q := CV_of mixed Tryd.func41 (math_bits_OnesCount64_eq a0 w Q ▸ h)

/- 42 (*crier/sets.Set[int]).All -/

def sets_Set_int_All (a0 : Option Addr) (w : World) (Q : Value → World → Prop) : Prop :=
 CV P F.sets_Set_int_From [.pointer a0, .int .i64 0] w fun v2 w3 =>
 ∃ v4 : Value, v2 = v4 ∧
 Q (v4) w3
def sets_Set_int_All_ann : Nat → Option LoopSpec := fun _ => none
theorem sets_Set_int_All_eq (a0 : Option Addr) (w : World) (Q : Value → World → Prop) : fnX P sets_Set_int_All_ann Tryd.f42 [.pointer a0] w Q = sets_Set_int_All a0 w Q := by kernel_rfl
theorem sets_Set_int_All_cv {a0 : Option Addr} {w : World} {Q : Value → World → Prop} (h : sets_Set_int_All a0 w Q) : CV P F.sets_Set_int_All [.pointer a0] w Q := CV_of mixed Tryd.func42 (sets_Set_int_All_eq a0 w Q ▸ h)

/- 43 crier/sets.join[int] -/
def sets_join_int_L58 : LoopSpec where
  S := Int
  emb := fun s => [(22, .int .i64 s)]
  ext := fun t => match getL t 22 with
    | some (.int .i64 y15) => some (y15)
    | _ => none
  slots := [22]
  fits := fun _ => rfl
  ok := by
    intro t s h x hx
    (try dsimp only at h hx)
    split at h
    · cases h
      simp only [List.mem_cons, List.not_mem_nil, or_false] at hx
      rcases hx with rfl <;> assumption
    · cases h

def sets_join_int_l0 (a0 : Option Addr) (a1 : Option Addr) (a2 : Value) (Q : Value → World → Prop) (b4 : Nat) (l9 : Nat) (l13 : Nat) (n16 : Int) (w17 : World) (A18 : sets_join_int_L58.S → World → Prop) : Prop :=
 cnd (decide (n16 < (if ((l13 : Nat) : Int) > ((l9 : Nat) : Int) then ((l13 : Nat) : Int) else ((l9 : Nat) : Int))))
 (drw w17 fun w19 =>
 ldL ⟨b4, 0, none⟩ w19 fun p20 l21 c22 =>
 nn a0 fun a23 =>
 ldL a23 w19 fun p24 l25 c26 =>
 nn a1 fun a27 =>
 ldL a27 w19 fun p28 l29 c30 =>
 CV P F.sets_word [.slice p24 l25 c26, .int .i64 n16] w19 fun v31 w32 =>
 ∃ n33 : Int, v31 = .int .u64 n33 ∧
 (ldL a27 w32 fun p34 l35 c36 =>
 ((.slice p34 l35 c36 : Value) = .slice p28 l29 c30)) ∧
 (ldL ⟨b4, 0, none⟩ w32 fun p37 l38 c39 =>
 ((.slice p37 l38 c39 : Value) = .slice p20 l21 c22)) ∧
 CV P F.sets_word [.slice p28 l29 c30, .int .i64 n16] w32 fun v40 w41 =>
 ∃ n42 : Int, v40 = .int .u64 n42 ∧
 (ldL ⟨b4, 0, none⟩ w41 fun p43 l44 c45 =>
 ((.slice p43 l44 c45 : Value) = .slice p20 l21 c22)) ∧
 callVal P a2 [.int .u64 n33, .int .u64 n42] w41 fun v46 w47 =>
 ∃ n48 : Int, v46 = .int .u64 n48 ∧
 (ldL ⟨b4, 0, none⟩ w47 fun p49 l50 c51 =>
 ((.slice p49 l50 c51 : Value) = .slice p20 l21 c22)) ∧
 alc [.int .u64 n48] T.t58 w47 fun b52 w53 =>
 (ldL ⟨b4, 0, none⟩ w53 fun p54 l55 c56 =>
 ((.slice p54 l55 c56 : Value) = .slice p20 l21 c22)) ∧
 runS P (Builtin.append_ #[T.t54, T.t54] T.t54 [.slice p20 l21 c22, .slice (some ⟨b52, 0, none⟩) 1 1].toArray) w53 fun p57 l58 c59 w60 =>
 st1 (.slice p57 l58 c59) ⟨b4, 0, none⟩ w60 fun w61 =>
 A18 (((IntKind.i64.wrap (n16 + 1)) : Int)) w61)
 (Q (.pointer (some ⟨b4, 0, none⟩)) w17)

def sets_join_int (a0 : Option Addr) (a1 : Option Addr) (a2 : Value) (w : World) (Q : Value → World → Prop) : Prop :=
 alc [.slice none 0 0] T.t56 w fun b4 w5 =>
 drw w5 fun w6 =>
 nn a0 fun a7 =>
 ldL a7 w6 fun p8 l9 c10 =>
 nn a1 fun a11 =>
 ldL a11 w6 fun p12 l13 c14 =>
 LoopT (fun (s62 : sets_join_int_L58.S) w63 A64 => sets_join_int_l0 a0 a1 a2 Q b4 l9 l13 s62 w63 A64) ((0 : Int)) w6
def sets_join_int_ann : Nat → Option LoopSpec := fun
  | 28 => some (ordSpec [0, 1, 2, 3, 4, 5, 6, 7, 8, 9, 10, 11])
  | 58 => some sets_join_int_L58
  | 3737 => some (ordSpec [0, 1, 2, 3, 4, 5, 6, 7, 8, 9, 10, 12, 13, 14, 15, 16, 11, 17, 18, 19, 20, 21, 22, 23])
  | _ => none
theorem sets_join_int_eq (a0 : Option Addr) (a1 : Option Addr) (a2 : Value) (w : World) (Q : Value → World → Prop) : fnX P sets_join_int_ann Tryd.f43 [.pointer a0, .pointer a1, a2] w Q = sets_join_int a0 a1 a2 w Q := by kernel_rfl
theorem sets_join_int_cv {a0 : Option Addr} {a1 : Option Addr} {a2 : Value} {w : World} {Q : Value → World → Prop} (h : sets_join_int a0 a1 a2 w Q) : CV P F.sets_join_int [.pointer a0, .pointer a1, a2] w Q := CV_of mixed Tryd.func43 (sets_join_int_eq a0 a1 a2 w Q ▸ h)

/- 44 crier/sets.Union[int]$1 -/

def sets_Union_int_1 (a0 : Int) (a1 : Int) (w : World) (Q : Value → World → Prop) : Prop :=
 Q (.int .u64 (bitX .or .u64 a0 a1)) w
def sets_Union_int_1_ann : Nat → Option LoopSpec := fun _ => none
theorem sets_Union_int_1_eq (a0 : Int) (a1 : Int) (w : World) (Q : Value → World → Prop) : fnX P sets_Union_int_1_ann Tryd.f44 [.int .u64 a0, .int .u64 a1] w Q = sets_Union_int_1 a0 a1 w Q := by kernel_rfl
theorem sets_Union_int_1_cv {a0 : Int} {a1 : Int} {w : World} {Q : Value → World → Prop} (h : sets_Union_int_1 a0 a1 w Q) : CV P F.sets_Union_int_1 [.int .u64 a0, .int .u64 a1] w Q := CV_of mixed Tryd.func44 (sets_Union_int_1_eq a0 a1 w Q ▸ h)

/- 45 crier/sets.Meet[int]$1 -/

def sets_Meet_int_1 (a0 : Int) (a1 : Int) (w : World) (Q : Value → World → Prop) : Prop :=
 Q (.int .u64 (bitX .and .u64 a0 a1)) w
def sets_Meet_int_1_ann : Nat → Option LoopSpec := fun _ => none
theorem sets_Meet_int_1_eq (a0 : Int) (a1 : Int) (w : World) (Q : Value → World → Prop) : fnX P sets_Meet_int_1_ann Tryd.f45 [.int .u64 a0, .int .u64 a1] w Q = sets_Meet_int_1 a0 a1 w Q := by kernel_rfl
theorem sets_Meet_int_1_cv {a0 : Int} {a1 : Int} {w : World} {Q : Value → World → Prop} (h : sets_Meet_int_1 a0 a1 w Q) : CV P F.sets_Meet_int_1 [.int .u64 a0, .int .u64 a1] w Q := CV_of mixed Tryd.func45 (sets_Meet_int_1_eq a0 a1 w Q ▸ h)

/- 46 crier/sets.Less[int]$1 -/

def sets_Less_int_1 (a0 : Int) (a1 : Int) (w : World) (Q : Value → World → Prop) : Prop :=
 Q (.int .u64 (bitX .andNot .u64 a0 a1)) w
def sets_Less_int_1_ann : Nat → Option LoopSpec := fun _ => none
theorem sets_Less_int_1_eq (a0 : Int) (a1 : Int) (w : World) (Q : Value → World → Prop) : fnX P sets_Less_int_1_ann Tryd.f46 [.int .u64 a0, .int .u64 a1] w Q = sets_Less_int_1 a0 a1 w Q := by kernel_rfl
theorem sets_Less_int_1_cv {a0 : Int} {a1 : Int} {w : World} {Q : Value → World → Prop} (h : sets_Less_int_1 a0 a1 w Q) : CV P F.sets_Less_int_1 [.int .u64 a0, .int .u64 a1] w Q := CV_of mixed Tryd.func46 (sets_Less_int_1_eq a0 a1 w Q ▸ h)

/- 47 (*crier/sets.Set[int]).Runs$1 -/
def sets_Set_int_Runs_1_J117 : LoopSpec where
  S := Unit
  emb := fun _ => []
  ext := fun _ => some ()
  slots := []
  fits := fun _ => rfl
  ok := by
    intro t s h x hx; cases hx

def sets_Set_int_Runs_1_j0 (l15 : Nat) (r16 : Loop) (Q19 : Value → World → Prop) (w23 : World) : Prop :=
 recAt w23 l15 r16 .busy none ∧ setR w23 l15 r16 .ready none fun w24 => Q19 (.bool true) w24

def sets_Set_int_Runs_1_J468 : LoopSpec where
  S := Bool
  emb := fun s => [(17, .bool s)]
  ext := fun t => match getL t 17 with
    | some (.bool y26) => some (y26)
    | _ => none
  slots := [17]
  fits := fun _ => rfl
  ok := by
    intro t s h x hx
    (try dsimp only at h hx)
    split at h
    · cases h
      simp only [List.mem_cons, List.not_mem_nil, or_false] at hx
      rcases hx with rfl <;> assumption
    · cases h

def sets_Set_int_Runs_1_J938 : LoopSpec where
  S := Bool
  emb := fun s => [(26, .bool s)]
  ext := fun t => match getL t 26 with
    | some (.bool y30) => some (y30)
    | _ => none
  slots := [26]
  fits := fun _ => rfl
  ok := by
    intro t s h x hx
    (try dsimp only at h hx)
    split at h
    · cases h
      simp only [List.mem_cons, List.not_mem_nil, or_false] at hx
      rcases hx with rfl <;> assumption
    · cases h

def sets_Set_int_Runs_1_j1 (b5 : Nat) (b7 : Nat) (b9 : Nat) (l15 : Nat) (r16 : Loop) (Q19 : Value → World → Prop) (n21 : Int) (J25 : sets_Set_int_Runs_1_J117.S → World → Prop) (b31 : Bool) (w32 : World) : Prop :=
 cnd b31
 (recAt w32 l15 r16 .busy none ∧ setR w32 l15 r16 .done (some .ret) fun w33 => Q19 (.bool false) w33)
 (st1 (.int .i64 n21) ⟨b5, 0, none⟩ w32 fun w34 =>
 st1 (.int .i64 n21) ⟨b7, 0, none⟩ w34 fun w35 =>
 st1 (.bool true) ⟨b9, 0, none⟩ w35 fun w36 =>
 J25 () w36)

def sets_Set_int_Runs_1_j2 (b3 : Nat) (b5 : Nat) (b7 : Nat) (b9 : Nat) (l15 : Nat) (r16 : Loop) (Q19 : Value → World → Prop) (n21 : Int) (J25 : sets_Set_int_Runs_1_J117.S → World → Prop) (b27 : Bool) (w28 : World) : Prop :=
 cnd b27
 (st1 (.int .i64 n21) ⟨b7, 0, none⟩ w28 fun w29 =>
 J25 () w29)
 (JoinT (fun (J37 : sets_Set_int_Runs_1_J938.S → World → Prop) =>
  ldB ⟨b9, 0, none⟩ w28 fun b38 =>
  cnd b38
  (ldV ⟨b3, 0, none⟩ w28 fun v39 =>
  ldI .i64 ⟨b5, 0, none⟩ w28 fun n40 =>
  ldI .i64 ⟨b7, 0, none⟩ w28 fun n41 =>
  callVal P v39 [.int .i64 n40, .int .i64 n41] w28 fun v42 w43 =>
  ∃ b44 : Bool, v42 = .bool b44 ∧
  J37 (((!b44) : Bool)) w43)
  (J37 ((false : Bool)) w28))
  fun (s45 : sets_Set_int_Runs_1_J938.S) w46 => sets_Set_int_Runs_1_j1 b5 b7 b9 l15 r16 Q19 n21 J25 s45 w46)

def sets_Set_int_Runs_1_r3 (b3 : Nat) (b5 : Nat) (b7 : Nat) (b9 : Nat) (l15 : Nat) (r16 : Loop) (vs17 : List Value) (w18 : World) (Q19 : Value → World → Prop) : Prop :=
 X.b1 vs17 fun v20 =>
 ∃ n21 : Int, v20 = .int .i64 n21 ∧
 recAt w18 l15 r16 .ready none ∧ setR w18 l15 r16 .busy none fun w22 =>
 JoinT (fun (J25 : sets_Set_int_Runs_1_J117.S → World → Prop) =>
  JoinT (fun (J47 : sets_Set_int_Runs_1_J468.S → World → Prop) =>
   ldB ⟨b9, 0, none⟩ w22 fun b48 =>
   cnd b48
   (ldI .i64 ⟨b7, 0, none⟩ w22 fun n49 =>
   J47 (((n21 == (IntKind.i64.wrap (n49 + 1))) : Bool)) w22)
   (J47 ((false : Bool)) w22))
   fun (s50 : sets_Set_int_Runs_1_J468.S) w51 => sets_Set_int_Runs_1_j2 b3 b5 b7 b9 l15 r16 Q19 n21 J25 s50 w51)
  fun (s52 : sets_Set_int_Runs_1_J117.S) w53 => sets_Set_int_Runs_1_j0 l15 r16 Q19 w53

def sets_Set_int_Runs_1 (a0 : Value) (f0 : Addr) (w : World) (Q : Value → World → Prop) : Prop :=
 oneK a0 <|
 alc [a0] T.t65 w fun b3 w4 =>
 alc [.int .i64 0] T.t3 w4 fun b5 w6 =>
 alc [.int .i64 0] T.t3 w6 fun b7 w8 =>
 alc [.bool false] T.t4 w8 fun b9 w10 =>
 st1 (.int .i64 0) ⟨b5, 0, none⟩ w10 fun w11 =>
 st1 (.int .i64 0) ⟨b7, 0, none⟩ w11 fun w12 =>
 st1 (.bool false) ⟨b9, 0, none⟩ w12 fun w13 =>
 ldV f0 w13 fun v14 =>
 RF P none 1 (v14) w13 (fun l15 r16 vs17 w18 Q19 => sets_Set_int_Runs_1_r3 b3 b5 b7 b9 l15 r16 vs17 w18 Q19) fun mk54 jp55 w56 =>
 jmpX jp55
 (ldB ⟨b9, 0, none⟩ w56 fun b57 =>
 cnd b57
 (ldV ⟨b3, 0, none⟩ w56 fun v58 =>
 ldI .i64 ⟨b5, 0, none⟩ w56 fun n59 =>
 ldI .i64 ⟨b7, 0, none⟩ w56 fun n60 =>
 callVal P v58 [.int .i64 n59, .int .i64 n60] w56 fun v61 w62 =>
 ∃ b63 : Bool, v61 = .bool b63 ∧
 takeX (mk54 ++ []) w62 fun w64 =>
 Q (.tuple [].toArray) w64)
 (takeX (mk54 ++ []) w56 fun w65 =>
 Q (.tuple [].toArray) w65))
 (takeX (mk54 ++ []) w56 fun w66 =>
 Q (.tuple [].toArray) w66)
 fun id67 => False
def sets_Set_int_Runs_1_ann : Nat → Option LoopSpec := fun
  | 117 => some sets_Set_int_Runs_1_J117
  | 468 => some sets_Set_int_Runs_1_J468
  | 938 => some sets_Set_int_Runs_1_J938
  | _ => none
theorem sets_Set_int_Runs_1_eq (a0 : Value) (f0 : Addr) (w : World) (Q : Value → World → Prop) : fnX P sets_Set_int_Runs_1_ann Tryd.f47 [a0, .pointer (some f0)] w Q = sets_Set_int_Runs_1 a0 f0 w Q := by kernel_rfl
theorem sets_Set_int_Runs_1_cv {a0 : Value} {f0 : Addr} {w : World} {Q : Value → World → Prop} (h : sets_Set_int_Runs_1 a0 f0 w Q) : CV P F.sets_Set_int_Runs_1 [a0, .pointer (some f0)] w Q := CV_of mixed Tryd.func47 (sets_Set_int_Runs_1_eq a0 f0 w Q ▸ h)

/- 48 crier/crierlaw01.Runs -/
def crierlaw01_Runs_J29 : LoopSpec where
  S := Unit
  emb := fun _ => []
  ext := fun _ => some ()
  slots := []
  fits := fun _ => rfl
  ok := by
    intro t s h x hx; cases hx

def crierlaw01_Runs_j0 (Q : Value → World → Prop) (b2 : Nat) (w7 : World) (ds8 : List Deferred) : Prop :=
 ldL ⟨b2, 0, none⟩ w7 fun p9 l10 c11 =>
 takeX ds8 w7 fun w12 =>
 Q (.slice p9 l10 c11) w12

def crierlaw01_Runs_r1 (b2 : Nat) (l14 : Nat) (r15 : Loop) (vs16 : List Value) (w17 : World) (Q18 : Value → World → Prop) : Prop :=
 X.b2 vs16 fun v19 v20 =>
 ∃ n21 : Int, v19 = .int .i64 n21 ∧
 ∃ n22 : Int, v20 = .int .i64 n22 ∧
 recAt w17 l14 r15 .ready none ∧ setR w17 l14 r15 .busy none fun w23 =>
 ldL ⟨b2, 0, none⟩ w23 fun p24 l25 c26 =>
 alc [.int .i64 n21, .int .i64 n22] T.t3 w23 fun b27 w28 =>
 runS P (Builtin.append_ #[T.t22, T.t22] T.t22 [.slice p24 l25 c26, .slice (some ⟨b27, 0, none⟩) 2 2].toArray) w28 fun p29 l30 c31 w32 =>
 st1 (.slice p29 l30 c31) ⟨b2, 0, none⟩ w32 fun w33 =>
 ldL ⟨b2, 0, none⟩ w33 fun p34 l35 c36 =>
 cnd (decide (((l35 : Nat) : Int) > 20000))
 (recAt w33 l14 r15 .busy none ∧ setR w33 l14 r15 .done (some (.exit 0)) fun w37 => Q18 (.bool false) w37)
 (recAt w33 l14 r15 .busy none ∧ setR w33 l14 r15 .ready none fun w38 => Q18 (.bool true) w38)

def crierlaw01_Runs (a0 : Option Addr) (w : World) (Q : Value → World → Prop) : Prop :=
 alc [.slice none 0 0] T.t22 w fun b2 w3 =>
 CV P F.sets_Set_int_Runs [.pointer a0] w3 fun v4 w5 =>
 ∃ v6 : Value, v4 = v6 ∧
 JoinT (fun (J13 : crierlaw01_Runs_J29.S × List Deferred → World → Prop) =>
  RF P none 2 (v6) w5 (fun l14 r15 vs16 w17 Q18 => crierlaw01_Runs_r1 b2 l14 r15 vs16 w17 Q18) fun mk39 jp40 w41 =>
  jmpX jp40
  (J13 ((), (mk39 ++ [])) w41)
  (takeX (mk39 ++ []) w41 fun w42 =>
  Q (.slice none 0 0) w42)
  fun id43 => (id43 = 0 → (J13 ((), (mk39 ++ [])) w41)) ∧ (id43 ≠ 0 → (False)))
  fun (s44 : crierlaw01_Runs_J29.S × List Deferred) w45 => crierlaw01_Runs_j0 Q b2 w45 s44.2
def crierlaw01_Runs_ann : Nat → Option LoopSpec := fun
  | 29 => some crierlaw01_Runs_J29
  | _ => none
theorem crierlaw01_Runs_eq (a0 : Option Addr) (w : World) (Q : Value → World → Prop) : fnX P crierlaw01_Runs_ann Tryd.f48 [.pointer a0] w Q = crierlaw01_Runs a0 w Q := by kernel_rfl
theorem crierlaw01_Runs_cv {a0 : Option Addr} {w : World} {Q : Value → World → Prop} (h : crierlaw01_Runs a0 w Q) : CV P F.crierlaw01_Runs [.pointer a0] w Q := CV_of mixed Tryd.func48 (crierlaw01_Runs_eq a0 w Q ▸ h)

/- 49 crier/crierref01.Runs -/
def crierref01_Runs_L58 : LoopSpec where
  S := (Option Addr × Nat × Nat) × Int
  emb := fun s => [(3, .slice s.1.1 s.1.2.1 s.1.2.2), (4, .int .i64 s.2)]
  ext := fun t => match getL t 3, getL t 4 with
    | some (.slice y4 y5 y6), some (.int .i64 y7) => some ((y4, y5, y6), y7)
    | _, _ => none
  slots := [3, 4]
  fits := fun _ => rfl
  ok := by
    intro t s h x hx
    (try dsimp only at h hx)
    split at h
    · cases h
      simp only [List.mem_cons, List.not_mem_nil, or_false] at hx
      rcases hx with rfl | rfl <;> assumption
    · cases h

def crierref01_Runs_J466 : LoopSpec where
  S := (Option Addr × Nat × Nat)
  emb := fun s => [(3, .slice s.1 s.2.1 s.2.2)]
  ext := fun t => match getL t 3 with
    | some (.slice y14 y15 y16) => some ((y14, y15, y16))
    | _ => none
  slots := [3]
  fits := fun _ => rfl
  ok := by
    intro t s h x hx
    (try dsimp only at h hx)
    split at h
    · cases h
      simp only [List.mem_cons, List.not_mem_nil, or_false] at hx
      rcases hx with rfl <;> assumption
    · cases h

def crierref01_Runs_j0 (n11 : Int) (A13 : crierref01_Runs_L58.S → World → Prop) (p17 : Option Addr) (l18 : Nat) (c19 : Nat) (w20 : World) : Prop :=
 A13 (((p17 : Option Addr), (l18 : Nat), (c19 : Nat)), ((IntKind.i64.wrap (n11 + 1)) : Int)) w20

def crierref01_Runs_J932 : LoopSpec where
  S := (Option Addr × Nat × Nat)
  emb := fun s => [(3, .slice s.1 s.2.1 s.2.2)]
  ext := fun t => match getL t 3 with
    | some (.slice y22 y23 y24) => some ((y22, y23, y24))
    | _ => none
  slots := [3]
  fits := fun _ => rfl
  ok := by
    intro t s h x hx
    (try dsimp only at h hx)
    split at h
    · cases h
      simp only [List.mem_cons, List.not_mem_nil, or_false] at hx
      rcases hx with rfl <;> assumption
    · cases h

def crierref01_Runs_J1865 : LoopSpec where
  S := Bool
  emb := fun s => [(50, .bool s)]
  ext := fun t => match getL t 50 with
    | some (.bool y29) => some (y29)
    | _ => none
  slots := [50]
  fits := fun _ => rfl
  ok := by
    intro t s h x hx
    (try dsimp only at h hx)
    split at h
    · cases h
      simp only [List.mem_cons, List.not_mem_nil, or_false] at hx
      rcases hx with rfl <;> assumption
    · cases h

def crierref01_Runs_j1 (a0 : Option Addr) (a0_n : Nat) (n11 : Int) (J21 : crierref01_Runs_J466.S → World → Prop) (p25 : Option Addr) (l26 : Nat) (c27 : Nat) (b30 : Bool) (w31 : World) : Prop :=
 cnd b30
 (ix n11 a0_n fun j32 => nn a0 fun a33 =>
 ldI .i64 (a33.add (j32 * 1)) w31 fun n34 =>
 alc [.int .i64 n34] T.t3 w31 fun b35 w36 =>
 runS P (Builtin.append_ #[T.t22, T.t22] T.t22 [.slice p25 l26 c27, .slice (some ⟨b35, 0, none⟩) 1 1].toArray) w36 fun p37 l38 c39 w40 =>
 J21 (((p37 : Option Addr), (l38 : Nat), (c39 : Nat))) w40)
 (J21 (((p25 : Option Addr), (l26 : Nat), (c27 : Nat))) w31)

def crierref01_Runs_j2 (a0 : Option Addr) (a0_n : Nat) (n11 : Int) (J21 : crierref01_Runs_J466.S → World → Prop) (p25 : Option Addr) (l26 : Nat) (c27 : Nat) (w28 : World) : Prop :=
 JoinT (fun (J41 : crierref01_Runs_J1865.S → World → Prop) =>
  drw w28 fun w42 =>
  cnd ((IntKind.i64.wrap (n11 + 1)) == ((a0_n : Nat) : Int))
  (J41 ((true : Bool)) w42)
  (ix (IntKind.i64.wrap (n11 + 1)) a0_n fun j43 => nn a0 fun a44 =>
  ldI .i64 (a44.add (j43 * 1)) w42 fun n45 =>
  ix n11 a0_n fun j46 => nn a0 fun a47 =>
  ldI .i64 (a47.add (j46 * 1)) w42 fun n48 =>
  J41 (((n45 != (IntKind.i64.wrap (n48 + 1))) : Bool)) w42))
  fun (s49 : crierref01_Runs_J1865.S) w50 => crierref01_Runs_j1 a0 a0_n n11 J21 p25 l26 c27 s49 w50

def crierref01_Runs_J1864 : LoopSpec where
  S := Bool
  emb := fun s => [(25, .bool s)]
  ext := fun t => match getL t 25 with
    | some (.bool y52) => some (y52)
    | _ => none
  slots := [25]
  fits := fun _ => rfl
  ok := by
    intro t s h x hx
    (try dsimp only at h hx)
    split at h
    · cases h
      simp only [List.mem_cons, List.not_mem_nil, or_false] at hx
      rcases hx with rfl <;> assumption
    · cases h

def crierref01_Runs_j3 (a0 : Option Addr) (a0_n : Nat) (p8 : Option Addr) (l9 : Nat) (c10 : Nat) (n11 : Int) (J51 : crierref01_Runs_J932.S → World → Prop) (b53 : Bool) (w54 : World) : Prop :=
 cnd b53
 (ix n11 a0_n fun j55 => nn a0 fun a56 =>
 ldI .i64 (a56.add (j55 * 1)) w54 fun n57 =>
 alc [.int .i64 n57] T.t3 w54 fun b58 w59 =>
 runS P (Builtin.append_ #[T.t22, T.t22] T.t22 [.slice p8 l9 c10, .slice (some ⟨b58, 0, none⟩) 1 1].toArray) w59 fun p60 l61 c62 w63 =>
 J51 (((p60 : Option Addr), (l61 : Nat), (c62 : Nat))) w63)
 (J51 (((p8 : Option Addr), (l9 : Nat), (c10 : Nat))) w54)

def crierref01_Runs_l4 (a0 : Option Addr) (a0_n : Nat) (Q : Value → World → Prop) (p8 : Option Addr) (l9 : Nat) (c10 : Nat) (n11 : Int) (w12 : World) (A13 : crierref01_Runs_L58.S → World → Prop) : Prop :=
 cnd (decide (n11 < ((a0_n : Nat) : Int)))
 (JoinT (fun (J21 : crierref01_Runs_J466.S → World → Prop) =>
  JoinT (fun (J51 : crierref01_Runs_J932.S → World → Prop) =>
   JoinT (fun (J64 : crierref01_Runs_J1864.S → World → Prop) =>
    drw w12 fun w65 =>
    cnd (n11 == 0)
    (J64 ((true : Bool)) w65)
    (ix n11 a0_n fun j66 => nn a0 fun a67 =>
    ldI .i64 (a67.add (j66 * 1)) w65 fun n68 =>
    ix (IntKind.i64.wrap (n11 - 1)) a0_n fun j69 => nn a0 fun a70 =>
    ldI .i64 (a70.add (j69 * 1)) w65 fun n71 =>
    J64 (((n68 != (IntKind.i64.wrap (n71 + 1))) : Bool)) w65))
    fun (s72 : crierref01_Runs_J1864.S) w73 => crierref01_Runs_j3 a0 a0_n p8 l9 c10 n11 J51 s72 w73)
   fun (s74 : crierref01_Runs_J932.S) w75 => crierref01_Runs_j2 a0 a0_n n11 J21 s74.1 s74.2.1 s74.2.2 w75)
  fun (s76 : crierref01_Runs_J466.S) w77 => crierref01_Runs_j0 n11 A13 s76.1 s76.2.1 s76.2.2 w77)
 (Q (.slice p8 l9 c10) w12)

def crierref01_Runs (a0 : Option Addr) (a0_n : Nat) (a0_c : Nat) (w : World) (Q : Value → World → Prop) : Prop :=
 LoopT (fun (s78 : crierref01_Runs_L58.S) w79 A80 => crierref01_Runs_l4 a0 a0_n Q s78.1.1 s78.1.2.1 s78.1.2.2 s78.2 w79 A80) (((none : Option Addr), (0 : Nat), (0 : Nat)), (0 : Int)) w
def crierref01_Runs_ann : Nat → Option LoopSpec := fun
  | 58 => some crierref01_Runs_L58
  | 466 => some crierref01_Runs_J466
  | 932 => some crierref01_Runs_J932
  | 1865 => some crierref01_Runs_J1865
  | 3730 => some (ordSpec [0, 1, 2, 3, 4, 5, 6, 7, 8, 9, 10, 11, 12, 13, 14, 15, 16, 17])
  | 1864 => some crierref01_Runs_J1864
  | 3728 => some (ordSpec [0, 1, 2, 3, 4, 5, 6, 7, 8, 9, 10, 11, 12, 13, 14])
  | _ => none
theorem crierref01_Runs_eq (a0 : Option Addr) (a0_n : Nat) (a0_c : Nat) (w : World) (Q : Value → World → Prop) : fnX P crierref01_Runs_ann Tryd.f49 [.slice a0 a0_n a0_c] w Q = crierref01_Runs a0 a0_n a0_c w Q := by kernel_rfl
theorem crierref01_Runs_cv {a0 : Option Addr} {a0_n : Nat} {a0_c : Nat} {w : World} {Q : Value → World → Prop} (h : crierref01_Runs a0 a0_n a0_c w Q) : CV P F.crierref01_Runs [.slice a0 a0_n a0_c] w Q := CV_of mixed Tryd.func49 (crierref01_Runs_eq a0 a0_n a0_c w Q ▸ h)

/- 50 (*crier/sets.Set[int]).Most -/
def sets_Set_int_Most_L26 : LoopSpec where
  S := Int
  emb := fun s => [(4, .int .i64 s)]
  ext := fun t => match getL t 4 with
    | some (.int .i64 y6) => some (y6)
    | _ => none
  slots := [4]
  fits := fun _ => rfl
  ok := by
    intro t s h x hx
    (try dsimp only at h hx)
    split at h
    · cases h
      simp only [List.mem_cons, List.not_mem_nil, or_false] at hx
      rcases hx with rfl <;> assumption
    · cases h

def sets_Set_int_Most_l0 (a0 : Option Addr) (Q : Value → World → Prop) (n7 : Int) (w8 : World) (A9 : sets_Set_int_Most_L26.S → World → Prop) : Prop :=
 cnd (decide (n7 ≥ 0))
 (nn a0 fun a10 =>
 ldL a10 w8 fun p11 l12 c13 =>
 ix n7 l12 fun j14 => nn p11 fun a15 =>
 ldI .u64 (a15.add (j14 * 1)) w8 fun n16 =>
 cnd (n16 != 0)
 (CV P F.math_bits_LeadingZeros64 [.int .u64 n16] w8 fun v17 w18 =>
 ∃ n19 : Int, v17 = .int .i64 n19 ∧
 Q (.tuple [.int .i64 (IntKind.i64.wrap ((IntKind.i64.wrap ((IntKind.i64.wrap (64 * n7)) + 63)) - n19)), .bool true].toArray) w18)
 (A9 (((IntKind.i64.wrap (n7 - 1)) : Int)) w8))
 (Q (.tuple [.int .i64 0, .bool false].toArray) w8)

def sets_Set_int_Most (a0 : Option Addr) (w : World) (Q : Value → World → Prop) : Prop :=
 nn a0 fun a2 =>
 ldL a2 w fun p3 l4 c5 =>
 LoopT (fun (s20 : sets_Set_int_Most_L26.S) w21 A22 => sets_Set_int_Most_l0 a0 Q s20 w21 A22) (((IntKind.i64.wrap (((l4 : Nat) : Int) - 1)) : Int)) w
def sets_Set_int_Most_ann : Nat → Option LoopSpec := fun
  | 26 => some sets_Set_int_Most_L26
  | _ => none
theorem sets_Set_int_Most_eq (a0 : Option Addr) (w : World) (Q : Value → World → Prop) : fnX P sets_Set_int_Most_ann Tryd.f50 [.pointer a0] w Q = sets_Set_int_Most a0 w Q := by kernel_rfl
theorem sets_Set_int_Most_cv {a0 : Option Addr} {w : World} {Q : Value → World → Prop} (h : sets_Set_int_Most a0 w Q) : CV P F.sets_Set_int_Most [.pointer a0] w Q := CV_of mixed Tryd.func50 (sets_Set_int_Most_eq a0 w Q ▸ h)

/- 51 math/bits.LeadingZeros64 -/

def math_bits_LeadingZeros64 (a0 : Int) (w : World) (Q : Value → World → Prop) : Prop :=
 CV P F.math_bits_Len64 [.int .u64 a0] w fun v2 w3 =>
 ∃ n4 : Int, v2 = .int .i64 n4 ∧
 Q (.int .i64 (IntKind.i64.wrap (64 - n4))) w3
def math_bits_LeadingZeros64_ann : Nat → Option LoopSpec := fun _ => none
theorem math_bits_LeadingZeros64_eq (a0 : Int) (w : World) (Q : Value → World → Prop) : fnX P math_bits_LeadingZeros64_ann Tryd.f51 [.int .u64 a0] w Q = math_bits_LeadingZeros64 a0 w Q := by kernel_rfl
theorem math_bits_LeadingZeros64_cv {a0 : Int} {w : World} {Q : Value → World → Prop} (h : math_bits_LeadingZeros64 a0 w Q) : CV P F.math_bits_LeadingZeros64 [.int .u64 a0] w Q := CV_of mixed Tryd.func51 (math_bits_LeadingZeros64_eq a0 w Q ▸ h)

/- 52 math/bits.Len64 -/
def math_bits_Len64_J3 : LoopSpec where
  S := Int × Int
  emb := fun s => [(0, .int .u64 s.1), (2, .int .i64 s.2)]
  ext := fun t => match getL t 0, getL t 2 with
    | some (.int .u64 y2), some (.int .i64 y3) => some (y2, y3)
    | _, _ => none
  slots := [0, 2]
  fits := fun _ => rfl
  ok := by
    intro t s h x hx
    (try dsimp only at h hx)
    split at h
    · cases h
      simp only [List.mem_cons, List.not_mem_nil, or_false] at hx
      rcases hx with rfl | rfl <;> assumption
    · cases h

def math_bits_Len64_J7 : LoopSpec where
  S := Int × Int
  emb := fun s => [(0, .int .u64 s.1), (2, .int .i64 s.2)]
  ext := fun t => match getL t 0, getL t 2 with
    | some (.int .u64 y7), some (.int .i64 y8) => some (y7, y8)
    | _, _ => none
  slots := [0, 2]
  fits := fun _ => rfl
  ok := by
    intro t s h x hx
    (try dsimp only at h hx)
    split at h
    · cases h
      simp only [List.mem_cons, List.not_mem_nil, or_false] at hx
      rcases hx with rfl | rfl <;> assumption
    · cases h

def math_bits_Len64_J15 : LoopSpec where
  S := Int × Int
  emb := fun s => [(0, .int .u64 s.1), (2, .int .i64 s.2)]
  ext := fun t => match getL t 0, getL t 2 with
    | some (.int .u64 y12), some (.int .i64 y13) => some (y12, y13)
    | _, _ => none
  slots := [0, 2]
  fits := fun _ => rfl
  ok := by
    intro t s h x hx
    (try dsimp only at h hx)
    split at h
    · cases h
      simp only [List.mem_cons, List.not_mem_nil, or_false] at hx
      rcases hx with rfl | rfl <;> assumption
    · cases h

def math_bits_Len64_j0 (Q : Value → World → Prop) (n14 : Int) (n15 : Int) (w16 : World) : Prop :=
 sx ⟨#[0, 1, 2, 2, 3, 3, 3, 3, 4, 4, 4, 4, 4, 4, 4, 4, 5, 5, 5, 5, 5, 5, 5, 5, 5, 5, 5, 5, 5, 5, 5, 5, 6, 6, 6, 6, 6, 6, 6, 6, 6, 6, 6, 6, 6, 6, 6, 6, 6, 6, 6, 6, 6, 6, 6, 6, 6, 6, 6, 6, 6, 6, 6, 6, 7, 7, 7, 7, 7, 7, 7, 7, 7, 7, 7, 7, 7, 7, 7, 7, 7, 7, 7, 7, 7, 7, 7, 7, 7, 7, 7, 7, 7, 7, 7, 7, 7, 7, 7, 7, 7, 7, 7, 7, 7, 7, 7, 7, 7, 7, 7, 7, 7, 7, 7, 7, 7, 7, 7, 7, 7, 7, 7, 7, 7, 7, 7, 7, 8, 8, 8, 8, 8, 8, 8, 8, 8, 8, 8, 8, 8, 8, 8, 8, 8, 8, 8, 8, 8, 8, 8, 8, 8, 8, 8, 8, 8, 8, 8, 8, 8, 8, 8, 8, 8, 8, 8, 8, 8, 8, 8, 8, 8, 8, 8, 8, 8, 8, 8, 8, 8, 8, 8, 8, 8, 8, 8, 8, 8, 8, 8, 8, 8, 8, 8, 8, 8, 8, 8, 8, 8, 8, 8, 8, 8, 8, 8, 8, 8, 8, 8, 8, 8, 8, 8, 8, 8, 8, 8, 8, 8, 8, 8, 8, 8, 8, 8, 8, 8, 8, 8, 8, 8, 8, 8, 8, 8, 8, 8, 8, 8, 8, 8, 8, 8, 8, 8, 8, 8, 8, 8, 8, 8, 8, 8, 8]⟩ (IntKind.u8.wrap (n14)) fun n17 =>
 Q (.int .i64 (IntKind.i64.wrap (n15 + (IntKind.i64.wrap (n17))))) w16

def math_bits_Len64_j1 (Q : Value → World → Prop) (n9 : Int) (n10 : Int) (w11 : World) : Prop :=
 JoinT (fun (J18 : math_bits_Len64_J15.S → World → Prop) =>
  cnd (decide (n9 ≥ 256))
  (nng 8 <|
  J18 (((Int.fdiv n9 (2 ^ min (Int.toNat 8) (IntKind.u64.bits))) : Int), ((IntKind.i64.wrap (n10 + 8)) : Int)) w11)
  (J18 ((n9 : Int), (n10 : Int)) w11))
  fun (s19 : math_bits_Len64_J15.S) w20 => math_bits_Len64_j0 Q s19.1 s19.2 w20

def math_bits_Len64_j2 (Q : Value → World → Prop) (n4 : Int) (n5 : Int) (w6 : World) : Prop :=
 JoinT (fun (J21 : math_bits_Len64_J7.S → World → Prop) =>
  cnd (decide (n4 ≥ 65536))
  (nng 16 <|
  J21 (((Int.fdiv n4 (2 ^ min (Int.toNat 16) (IntKind.u64.bits))) : Int), ((IntKind.i64.wrap (n5 + 16)) : Int)) w6)
  (J21 ((n4 : Int), (n5 : Int)) w6))
  fun (s22 : math_bits_Len64_J7.S) w23 => math_bits_Len64_j1 Q s22.1 s22.2 w23

def math_bits_Len64 (a0 : Int) (w : World) (Q : Value → World → Prop) : Prop :=
 JoinT (fun (J24 : math_bits_Len64_J3.S → World → Prop) =>
  cnd (decide (a0 ≥ 4294967296))
  (nng 32 <|
  J24 (((Int.fdiv a0 (2 ^ min (Int.toNat 32) (IntKind.u64.bits))) : Int), (32 : Int)) w)
  (J24 ((a0 : Int), (0 : Int)) w))
  fun (s25 : math_bits_Len64_J3.S) w26 => math_bits_Len64_j2 Q s25.1 s25.2 w26
def math_bits_Len64_ann : Nat → Option LoopSpec := fun
  | 3 => some math_bits_Len64_J3
  | 7 => some math_bits_Len64_J7
  | 15 => some math_bits_Len64_J15
  | _ => none
theorem math_bits_Len64_eq (a0 : Int) (w : World) (Q : Value → World → Prop) : fnX P math_bits_Len64_ann Tryd.f52 [.int .u64 a0] w Q = math_bits_Len64 a0 w Q := by kernel_rfl
theorem math_bits_Len64_cv {a0 : Int} {w : World} {Q : Value → World → Prop} (h : math_bits_Len64 a0 w Q) : CV P F.math_bits_Len64 [.int .u64 a0] w Q := CV_of mixed Tryd.func52 (math_bits_Len64_eq a0 w Q ▸ h)

end Go.Proofs.YtlccemphlinecaaDoor
