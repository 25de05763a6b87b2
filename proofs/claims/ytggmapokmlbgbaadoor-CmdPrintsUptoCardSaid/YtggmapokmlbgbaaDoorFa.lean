/-
  The functions' words, printed by Gen.lean out of the translation.
-/
import Derived.Test.YtggmapokmlbgbaaDoorFn0
namespace Go.Proofs.YtggmapokmlbgbaaDoor
open Go X
set_option maxRecDepth 100000
set_option linter.unusedVariables false
/- 3 crier/crierlaw16.CmdWords -/
def crierlaw16_CmdWords_J63 : LoopSpec where
  S := Bool
  emb := fun s => [(4, .bool s)]
  ext := fun t => match getL t 4 with
    | some (.bool y116) => some (y116)
    | _ => none
  slots := [4]
  fits := fun _ => rfl
  ok := by
    intro t s h x hx
    (try dsimp only at h hx)
    split at h
    · cases h
      simp only [List.mem_cons, List.not_mem_nil, or_false] at hx
      rcases hx with rfl <;> assumption
    · cases h

def crierlaw16_CmdWords_j0 (Q : Value → World → Prop) (b117 : Bool) (w118 : World) : Prop :=
 Q (.bool b117) w118

def crierlaw16_CmdWords (a0_0 : Int) (a0_1 : Int) (a0_2 : Int) (a0_3 : Int) (a0_4 : Int) (a0_5 : Int) (a0_6 : Int) (a0_7 : Int) (a0_8 : Bool) (a1_0 : Int) (a1_1 : Int) (a1_2 : Int) (a1_3 : Int) (w : World) (Q : Value → World → Prop) : Prop :=
 alc [.int .i64 a0_0, .int .i64 a0_1, .int .i64 a0_2, .int .i64 a0_3, .int .i64 a0_4, .int .i64 a0_5, .int .i64 a0_6, .int .i64 a0_7, .bool a0_8] T.t24 w fun b14 w15 =>
 alc [.int .u64 a1_0, .int .u64 a1_1, .int .u64 a1_2, .int .u64 a1_3] T.t26 w15 fun b16 w17 =>
 ldI .i64 ⟨b14, 0, none⟩ w17 fun n18 =>
 ldI .i64 ⟨b14, 1, none⟩ w17 fun n19 =>
 ldI .i64 ⟨b14, 2, none⟩ w17 fun n20 =>
 ldI .i64 ⟨b14, 3, none⟩ w17 fun n21 =>
 ldI .i64 ⟨b14, 4, none⟩ w17 fun n22 =>
 ldI .i64 ⟨b14, 5, none⟩ w17 fun n23 =>
 ldI .i64 ⟨b14, 6, none⟩ w17 fun n24 =>
 ldI .i64 ⟨b14, 7, none⟩ w17 fun n25 =>
 ldB ⟨b14, 8, none⟩ w17 fun b26 =>
 CV P F.cmd_Encode [.agg [.int .i64 n18, .int .i64 n19, .int .i64 n20, .int .i64 n21, .int .i64 n22, .int .i64 n23, .int .i64 n24, .int .i64 n25, .bool b26].toArray] w17 fun v27 w28 =>
 ∃ n29 : Int, ∃ n30 : Int, ∃ n31 : Int, ∃ n32 : Int, ∃ n33 : Int, v27 = .tuple [.agg [.int .u64 n29, .int .u64 n30, .int .u64 n31, .int .u64 n32].toArray, .int .i64 n33].toArray ∧
 alc [.int .u64 0, .int .u64 0, .int .u64 0, .int .u64 0] T.t26 w28 fun b34 w35 =>
 st1 (.int .u64 n29) ⟨b34, 0, none⟩ w35 fun w36 =>
 st1 (.int .u64 n30) ⟨b34, 1, none⟩ w36 fun w37 =>
 st1 (.int .u64 n31) ⟨b34, 2, none⟩ w37 fun w38 =>
 st1 (.int .u64 n32) ⟨b34, 3, none⟩ w38 fun w39 =>
 ldI .i64 ⟨b14, 0, none⟩ w39 fun n40 =>
 ldI .i64 ⟨b14, 1, none⟩ w39 fun n41 =>
 ldI .i64 ⟨b14, 2, none⟩ w39 fun n42 =>
 ldI .i64 ⟨b14, 3, none⟩ w39 fun n43 =>
 ldI .i64 ⟨b14, 4, none⟩ w39 fun n44 =>
 ldI .i64 ⟨b14, 5, none⟩ w39 fun n45 =>
 ldI .i64 ⟨b14, 6, none⟩ w39 fun n46 =>
 ldI .i64 ⟨b14, 7, none⟩ w39 fun n47 =>
 ldB ⟨b14, 8, none⟩ w39 fun b48 =>
 CV P F.crierref16_Encode [.agg [.int .i64 n40, .int .i64 n41, .int .i64 n42, .int .i64 n43, .int .i64 n44, .int .i64 n45, .int .i64 n46, .int .i64 n47, .bool b48].toArray] w39 fun v49 w50 =>
 ∃ n51 : Int, ∃ n52 : Int, ∃ n53 : Int, ∃ n54 : Int, ∃ b55 : Bool, v49 = .tuple [.agg [.int .u64 n51, .int .u64 n52, .int .u64 n53, .int .u64 n54].toArray, .bool b55].toArray ∧
 alc [.int .u64 0, .int .u64 0, .int .u64 0, .int .u64 0] T.t26 w50 fun b56 w57 =>
 st1 (.int .u64 n51) ⟨b56, 0, none⟩ w57 fun w58 =>
 st1 (.int .u64 n52) ⟨b56, 1, none⟩ w58 fun w59 =>
 st1 (.int .u64 n53) ⟨b56, 2, none⟩ w59 fun w60 =>
 st1 (.int .u64 n54) ⟨b56, 3, none⟩ w60 fun w61 =>
 ldI .u64 ⟨b16, 0, none⟩ w61 fun n62 =>
 ldI .u64 ⟨b16, 1, none⟩ w61 fun n63 =>
 ldI .u64 ⟨b16, 2, none⟩ w61 fun n64 =>
 ldI .u64 ⟨b16, 3, none⟩ w61 fun n65 =>
 CV P F.cmd_Decode [.agg [.int .u64 n62, .int .u64 n63, .int .u64 n64, .int .u64 n65].toArray] w61 fun v66 w67 =>
 ∃ n68 : Int, ∃ n69 : Int, ∃ n70 : Int, ∃ n71 : Int, ∃ n72 : Int, ∃ n73 : Int, ∃ n74 : Int, ∃ n75 : Int, ∃ b76 : Bool, ∃ n77 : Int, v66 = .tuple [.agg [.int .i64 n68, .int .i64 n69, .int .i64 n70, .int .i64 n71, .int .i64 n72, .int .i64 n73, .int .i64 n74, .int .i64 n75, .bool b76].toArray, .int .i64 n77].toArray ∧
 alc [.int .i64 0, .int .i64 0, .int .i64 0, .int .i64 0, .int .i64 0, .int .i64 0, .int .i64 0, .int .i64 0, .bool false] T.t24 w67 fun b78 w79 =>
 st1 (.int .i64 n68) ⟨b78, 0, none⟩ w79 fun w80 =>
 st1 (.int .i64 n69) ⟨b78, 1, none⟩ w80 fun w81 =>
 st1 (.int .i64 n70) ⟨b78, 2, none⟩ w81 fun w82 =>
 st1 (.int .i64 n71) ⟨b78, 3, none⟩ w82 fun w83 =>
 st1 (.int .i64 n72) ⟨b78, 4, none⟩ w83 fun w84 =>
 st1 (.int .i64 n73) ⟨b78, 5, none⟩ w84 fun w85 =>
 st1 (.int .i64 n74) ⟨b78, 6, none⟩ w85 fun w86 =>
 st1 (.int .i64 n75) ⟨b78, 7, none⟩ w86 fun w87 =>
 st1 (.bool b76) ⟨b78, 8, none⟩ w87 fun w88 =>
 ldI .u64 ⟨b16, 0, none⟩ w88 fun n89 =>
 ldI .u64 ⟨b16, 1, none⟩ w88 fun n90 =>
 ldI .u64 ⟨b16, 2, none⟩ w88 fun n91 =>
 ldI .u64 ⟨b16, 3, none⟩ w88 fun n92 =>
 CV P F.crierref16_Decode [.agg [.int .u64 n89, .int .u64 n90, .int .u64 n91, .int .u64 n92].toArray] w88 fun v93 w94 =>
 ∃ n95 : Int, ∃ n96 : Int, ∃ n97 : Int, ∃ n98 : Int, ∃ n99 : Int, ∃ n100 : Int, ∃ n101 : Int, ∃ n102 : Int, ∃ b103 : Bool, ∃ b104 : Bool, v93 = .tuple [.agg [.int .i64 n95, .int .i64 n96, .int .i64 n97, .int .i64 n98, .int .i64 n99, .int .i64 n100, .int .i64 n101, .int .i64 n102, .bool b103].toArray, .bool b104].toArray ∧
 alc [.int .i64 0, .int .i64 0, .int .i64 0, .int .i64 0, .int .i64 0, .int .i64 0, .int .i64 0, .int .i64 0, .bool false] T.t24 w94 fun b105 w106 =>
 st1 (.int .i64 n95) ⟨b105, 0, none⟩ w106 fun w107 =>
 st1 (.int .i64 n96) ⟨b105, 1, none⟩ w107 fun w108 =>
 st1 (.int .i64 n97) ⟨b105, 2, none⟩ w108 fun w109 =>
 st1 (.int .i64 n98) ⟨b105, 3, none⟩ w109 fun w110 =>
 st1 (.int .i64 n99) ⟨b105, 4, none⟩ w110 fun w111 =>
 st1 (.int .i64 n100) ⟨b105, 5, none⟩ w111 fun w112 =>
 st1 (.int .i64 n101) ⟨b105, 6, none⟩ w112 fun w113 =>
 st1 (.int .i64 n102) ⟨b105, 7, none⟩ w113 fun w114 =>
 st1 (.bool b103) ⟨b105, 8, none⟩ w114 fun w115 =>
 JoinT (fun (J119 : crierlaw16_CmdWords_J63.S → World → Prop) =>
  drw w115 fun w120 =>
  CV P F.crierlaw16_awake [] w120 fun v121 w122 =>
  ∃ b123 : Bool, v121 = .bool b123 ∧
  cnd b123
  (ldI .u64 ⟨b34, 0, none⟩ w122 fun n124 =>
  ldI .u64 ⟨b34, 1, none⟩ w122 fun n125 =>
  ldI .u64 ⟨b34, 2, none⟩ w122 fun n126 =>
  ldI .u64 ⟨b34, 3, none⟩ w122 fun n127 =>
  ldI .u64 ⟨b56, 0, none⟩ w122 fun n128 =>
  ldI .u64 ⟨b56, 1, none⟩ w122 fun n129 =>
  ldI .u64 ⟨b56, 2, none⟩ w122 fun n130 =>
  ldI .u64 ⟨b56, 3, none⟩ w122 fun n131 =>
  eqA P .eql T.t26 (.agg [.int .u64 n124, .int .u64 n125, .int .u64 n126, .int .u64 n127].toArray) (.agg [.int .u64 n128, .int .u64 n129, .int .u64 n130, .int .u64 n131].toArray) w122 fun b132 =>
  cnd b132
  (CV P F.crierlaw16_told [.int .i64 n33, .bool b55] w122 fun v133 w134 =>
  ∃ b135 : Bool, v133 = .bool b135 ∧
  cnd b135
  (ldI .i64 ⟨b78, 0, none⟩ w134 fun n136 =>
  ldI .i64 ⟨b78, 1, none⟩ w134 fun n137 =>
  ldI .i64 ⟨b78, 2, none⟩ w134 fun n138 =>
  ldI .i64 ⟨b78, 3, none⟩ w134 fun n139 =>
  ldI .i64 ⟨b78, 4, none⟩ w134 fun n140 =>
  ldI .i64 ⟨b78, 5, none⟩ w134 fun n141 =>
  ldI .i64 ⟨b78, 6, none⟩ w134 fun n142 =>
  ldI .i64 ⟨b78, 7, none⟩ w134 fun n143 =>
  ldB ⟨b78, 8, none⟩ w134 fun b144 =>
  ldI .i64 ⟨b105, 0, none⟩ w134 fun n145 =>
  ldI .i64 ⟨b105, 1, none⟩ w134 fun n146 =>
  ldI .i64 ⟨b105, 2, none⟩ w134 fun n147 =>
  ldI .i64 ⟨b105, 3, none⟩ w134 fun n148 =>
  ldI .i64 ⟨b105, 4, none⟩ w134 fun n149 =>
  ldI .i64 ⟨b105, 5, none⟩ w134 fun n150 =>
  ldI .i64 ⟨b105, 6, none⟩ w134 fun n151 =>
  ldI .i64 ⟨b105, 7, none⟩ w134 fun n152 =>
  ldB ⟨b105, 8, none⟩ w134 fun b153 =>
  eqA P .eql T.t24 (.agg [.int .i64 n136, .int .i64 n137, .int .i64 n138, .int .i64 n139, .int .i64 n140, .int .i64 n141, .int .i64 n142, .int .i64 n143, .bool b144].toArray) (.agg [.int .i64 n145, .int .i64 n146, .int .i64 n147, .int .i64 n148, .int .i64 n149, .int .i64 n150, .int .i64 n151, .int .i64 n152, .bool b153].toArray) w134 fun b154 =>
  cnd b154
  (CV P F.crierlaw16_told [.int .i64 n77, .bool b104] w134 fun v155 w156 =>
  ∃ b157 : Bool, v155 = .bool b157 ∧
  cnd b157
  (ldI .i64 ⟨b14, 0, none⟩ w156 fun n158 =>
  ldI .i64 ⟨b14, 0, none⟩ w156 fun n159 =>
  CV P F.cmd_Known [.int .i64 n158] w156 fun v160 w161 =>
  ∃ b162 : Bool, v160 = .bool b162 ∧
  (ldI .i64 ⟨b14, 0, none⟩ w161 fun n163 =>
  ((.int .i64 n163 : Value) = .int .i64 n159)) ∧
  CV P F.crierref16_Known [.int .i64 n159] w161 fun v164 w165 =>
  ∃ b166 : Bool, v164 = .bool b166 ∧
  J119 (((b162 == b166) : Bool)) w165)
  (J119 ((false : Bool)) w156))
  (J119 ((false : Bool)) w134))
  (J119 ((false : Bool)) w134))
  (J119 ((false : Bool)) w122))
  (J119 ((false : Bool)) w122))
  fun (s167 : crierlaw16_CmdWords_J63.S) w168 => crierlaw16_CmdWords_j0 Q s167 w168
def crierlaw16_CmdWords_ann : Nat → Option LoopSpec := fun
  | 63 => some crierlaw16_CmdWords_J63
  | 126 => some (ordSpec [0, 1, 2, 3, 4, 5, 6, 7, 8, 9, 10, 11, 12, 13, 14, 15, 16, 17, 18, 19, 20, 21, 22, 23, 25, 26, 24, 27, 28, 29, 30])
  | _ => none
theorem crierlaw16_CmdWords_eq (a0_0 : Int) (a0_1 : Int) (a0_2 : Int) (a0_3 : Int) (a0_4 : Int) (a0_5 : Int) (a0_6 : Int) (a0_7 : Int) (a0_8 : Bool) (a1_0 : Int) (a1_1 : Int) (a1_2 : Int) (a1_3 : Int) (w : World) (Q : Value → World → Prop) : fnX P crierlaw16_CmdWords_ann Tryd.f3 [.agg [.int .i64 a0_0, .int .i64 a0_1, .int .i64 a0_2, .int .i64 a0_3, .int .i64 a0_4, .int .i64 a0_5, .int .i64 a0_6, .int .i64 a0_7, .bool a0_8].toArray, .agg [.int .u64 a1_0, .int .u64 a1_1, .int .u64 a1_2, .int .u64 a1_3].toArray] w Q = crierlaw16_CmdWords a0_0 a0_1 a0_2 a0_3 a0_4 a0_5 a0_6 a0_7 a0_8 a1_0 a1_1 a1_2 a1_3 w Q := by kernel_rfl
theorem crierlaw16_CmdWords_cv {a0_0 : Int} {a0_1 : Int} {a0_2 : Int} {a0_3 : Int} {a0_4 : Int} {a0_5 : Int} {a0_6 : Int} {a0_7 : Int} {a0_8 : Bool} {a1_0 : Int} {a1_1 : Int} {a1_2 : Int} {a1_3 : Int} {w : World} {Q : Value → World → Prop} (h : crierlaw16_CmdWords a0_0 a0_1 a0_2 a0_3 a0_4 a0_5 a0_6 a0_7 a0_8 a1_0 a1_1 a1_2 a1_3 w Q) : CV P F.crierlaw16_CmdWords [.agg [.int .i64 a0_0, .int .i64 a0_1, .int .i64 a0_2, .int .i64 a0_3, .int .i64 a0_4, .int .i64 a0_5, .int .i64 a0_6, .int .i64 a0_7, .bool a0_8].toArray, .agg [.int .u64 a1_0, .int .u64 a1_1, .int .u64 a1_2, .int .u64 a1_3].toArray] w Q := CV_of mixed Tryd.func3 (crierlaw16_CmdWords_eq a0_0 a0_1 a0_2 a0_3 a0_4 a0_5 a0_6 a0_7 a0_8 a1_0 a1_1 a1_2 a1_3 w Q ▸ h)

/- 4 crier/crierlaw16.CmdOne -/
def crierlaw16_CmdOne_J510 : LoopSpec where
  S := Bool
  emb := fun s => [(44, .bool s)]
  ext := fun t => match getL t 44 with
    | some (.bool y96) => some (y96)
    | _ => none
  slots := [44]
  fits := fun _ => rfl
  ok := by
    intro t s h x hx
    (try dsimp only at h hx)
    split at h
    · cases h
      simp only [List.mem_cons, List.not_mem_nil, or_false] at hx
      rcases hx with rfl <;> assumption
    · cases h

def crierlaw16_CmdOne_J511 : LoopSpec where
  S := Bool
  emb := fun s => [(4, .bool s)]
  ext := fun t => match getL t 4 with
    | some (.bool y99) => some (y99)
    | _ => none
  slots := [4]
  fits := fun _ => rfl
  ok := by
    intro t s h x hx
    (try dsimp only at h hx)
    split at h
    · cases h
      simp only [List.mem_cons, List.not_mem_nil, or_false] at hx
      rcases hx with rfl <;> assumption
    · cases h

def crierlaw16_CmdOne_j0 (Q : Value → World → Prop) (b100 : Bool) (w101 : World) : Prop :=
 Q (.bool b100) w101

def crierlaw16_CmdOne_j1 (Q : Value → World → Prop) (b19 : Nat) (b21 : Nat) (b25 : Bool) (n41 : Int) (b42 : Nat) (n63 : Int) (b64 : Nat) (s81 : ByteArray) (s94 : ByteArray) (b97 : Bool) (w98 : World) : Prop :=
 cnd b97
 (Q (.bool false) w98)
 (JoinT (fun (J102 : crierlaw16_CmdOne_J511.S → World → Prop) =>
  drw w98 fun w103 =>
  cnd b25
  (cnd (n41 != 0)
  (J102 ((true : Bool)) w103)
  (cnd (n63 != 0)
  (J102 ((true : Bool)) w103)
  (ldI .i64 ⟨b19, 0, none⟩ w103 fun n104 =>
  ldI .i64 ⟨b19, 1, none⟩ w103 fun n105 =>
  ldI .i64 ⟨b19, 2, none⟩ w103 fun n106 =>
  ldI .i64 ⟨b19, 3, none⟩ w103 fun n107 =>
  ldI .i64 ⟨b19, 4, none⟩ w103 fun n108 =>
  ldI .i64 ⟨b19, 5, none⟩ w103 fun n109 =>
  ldI .i64 ⟨b19, 6, none⟩ w103 fun n110 =>
  ldI .i64 ⟨b19, 7, none⟩ w103 fun n111 =>
  ldB ⟨b19, 8, none⟩ w103 fun b112 =>
  ldI .i64 ⟨b21, 0, none⟩ w103 fun n113 =>
  ldI .i64 ⟨b21, 1, none⟩ w103 fun n114 =>
  ldI .i64 ⟨b21, 2, none⟩ w103 fun n115 =>
  ldI .i64 ⟨b21, 3, none⟩ w103 fun n116 =>
  ldI .i64 ⟨b21, 4, none⟩ w103 fun n117 =>
  ldI .i64 ⟨b21, 5, none⟩ w103 fun n118 =>
  ldI .i64 ⟨b21, 6, none⟩ w103 fun n119 =>
  ldI .i64 ⟨b21, 7, none⟩ w103 fun n120 =>
  ldB ⟨b21, 8, none⟩ w103 fun b121 =>
  eqA P .eql T.t24 (.agg [.int .i64 n104, .int .i64 n105, .int .i64 n106, .int .i64 n107, .int .i64 n108, .int .i64 n109, .int .i64 n110, .int .i64 n111, .bool b112].toArray) (.agg [.int .i64 n113, .int .i64 n114, .int .i64 n115, .int .i64 n116, .int .i64 n117, .int .i64 n118, .int .i64 n119, .int .i64 n120, .bool b121].toArray) w103 fun b122 =>
  ldI .u64 ⟨b42, 0, none⟩ w103 fun n123 =>
  ldI .u64 ⟨b42, 1, none⟩ w103 fun n124 =>
  ldI .u64 ⟨b42, 2, none⟩ w103 fun n125 =>
  ldI .u64 ⟨b42, 3, none⟩ w103 fun n126 =>
  ldI .u64 ⟨b64, 0, none⟩ w103 fun n127 =>
  ldI .u64 ⟨b64, 1, none⟩ w103 fun n128 =>
  ldI .u64 ⟨b64, 2, none⟩ w103 fun n129 =>
  ldI .u64 ⟨b64, 3, none⟩ w103 fun n130 =>
  eqA P .eql T.t26 (.agg [.int .u64 n123, .int .u64 n124, .int .u64 n125, .int .u64 n126].toArray) (.agg [.int .u64 n127, .int .u64 n128, .int .u64 n129, .int .u64 n130].toArray) w103 fun b131 =>
  cnd (b122 == b131)
  (ldI .i64 ⟨b19, 0, none⟩ w103 fun n132 =>
  ldI .i64 ⟨b19, 1, none⟩ w103 fun n133 =>
  ldI .i64 ⟨b19, 2, none⟩ w103 fun n134 =>
  ldI .i64 ⟨b19, 3, none⟩ w103 fun n135 =>
  ldI .i64 ⟨b19, 4, none⟩ w103 fun n136 =>
  ldI .i64 ⟨b19, 5, none⟩ w103 fun n137 =>
  ldI .i64 ⟨b19, 6, none⟩ w103 fun n138 =>
  ldI .i64 ⟨b19, 7, none⟩ w103 fun n139 =>
  ldB ⟨b19, 8, none⟩ w103 fun b140 =>
  ldI .i64 ⟨b21, 0, none⟩ w103 fun n141 =>
  ldI .i64 ⟨b21, 1, none⟩ w103 fun n142 =>
  ldI .i64 ⟨b21, 2, none⟩ w103 fun n143 =>
  ldI .i64 ⟨b21, 3, none⟩ w103 fun n144 =>
  ldI .i64 ⟨b21, 4, none⟩ w103 fun n145 =>
  ldI .i64 ⟨b21, 5, none⟩ w103 fun n146 =>
  ldI .i64 ⟨b21, 6, none⟩ w103 fun n147 =>
  ldI .i64 ⟨b21, 7, none⟩ w103 fun n148 =>
  ldB ⟨b21, 8, none⟩ w103 fun b149 =>
  eqA P .eql T.t24 (.agg [.int .i64 n132, .int .i64 n133, .int .i64 n134, .int .i64 n135, .int .i64 n136, .int .i64 n137, .int .i64 n138, .int .i64 n139, .bool b140].toArray) (.agg [.int .i64 n141, .int .i64 n142, .int .i64 n143, .int .i64 n144, .int .i64 n145, .int .i64 n146, .int .i64 n147, .int .i64 n148, .bool b149].toArray) w103 fun b150 =>
  J102 (((b150 == ((s81 : ByteArray).toList == (s94 : ByteArray).toList)) : Bool)) w103)
  (J102 ((false : Bool)) w103))))
  (J102 ((false : Bool)) w103))
  fun (s151 : crierlaw16_CmdOne_J511.S) w152 => crierlaw16_CmdOne_j0 Q s151 w152)

def crierlaw16_CmdOne (a0_0 : Int) (a0_1 : Int) (a0_2 : Int) (a0_3 : Int) (a0_4 : Int) (a0_5 : Int) (a0_6 : Int) (a0_7 : Int) (a0_8 : Bool) (a1_0 : Int) (a1_1 : Int) (a1_2 : Int) (a1_3 : Int) (a1_4 : Int) (a1_5 : Int) (a1_6 : Int) (a1_7 : Int) (a1_8 : Bool) (w : World) (Q : Value → World → Prop) : Prop :=
 alc [.int .i64 a0_0, .int .i64 a0_1, .int .i64 a0_2, .int .i64 a0_3, .int .i64 a0_4, .int .i64 a0_5, .int .i64 a0_6, .int .i64 a0_7, .bool a0_8] T.t24 w fun b19 w20 =>
 alc [.int .i64 a1_0, .int .i64 a1_1, .int .i64 a1_2, .int .i64 a1_3, .int .i64 a1_4, .int .i64 a1_5, .int .i64 a1_6, .int .i64 a1_7, .bool a1_8] T.t24 w20 fun b21 w22 =>
 CV P F.crierlaw16_awake [] w22 fun v23 w24 =>
 ∃ b25 : Bool, v23 = .bool b25 ∧
 cnd (!b25)
 (Q (.bool false) w24)
 (ldI .i64 ⟨b19, 0, none⟩ w24 fun n26 =>
 ldI .i64 ⟨b19, 1, none⟩ w24 fun n27 =>
 ldI .i64 ⟨b19, 2, none⟩ w24 fun n28 =>
 ldI .i64 ⟨b19, 3, none⟩ w24 fun n29 =>
 ldI .i64 ⟨b19, 4, none⟩ w24 fun n30 =>
 ldI .i64 ⟨b19, 5, none⟩ w24 fun n31 =>
 ldI .i64 ⟨b19, 6, none⟩ w24 fun n32 =>
 ldI .i64 ⟨b19, 7, none⟩ w24 fun n33 =>
 ldB ⟨b19, 8, none⟩ w24 fun b34 =>
 CV P F.cmd_Encode [.agg [.int .i64 n26, .int .i64 n27, .int .i64 n28, .int .i64 n29, .int .i64 n30, .int .i64 n31, .int .i64 n32, .int .i64 n33, .bool b34].toArray] w24 fun v35 w36 =>
 ∃ n37 : Int, ∃ n38 : Int, ∃ n39 : Int, ∃ n40 : Int, ∃ n41 : Int, v35 = .tuple [.agg [.int .u64 n37, .int .u64 n38, .int .u64 n39, .int .u64 n40].toArray, .int .i64 n41].toArray ∧
 alc [.int .u64 0, .int .u64 0, .int .u64 0, .int .u64 0] T.t26 w36 fun b42 w43 =>
 st1 (.int .u64 n37) ⟨b42, 0, none⟩ w43 fun w44 =>
 st1 (.int .u64 n38) ⟨b42, 1, none⟩ w44 fun w45 =>
 st1 (.int .u64 n39) ⟨b42, 2, none⟩ w45 fun w46 =>
 st1 (.int .u64 n40) ⟨b42, 3, none⟩ w46 fun w47 =>
 ldI .i64 ⟨b21, 0, none⟩ w47 fun n48 =>
 ldI .i64 ⟨b21, 1, none⟩ w47 fun n49 =>
 ldI .i64 ⟨b21, 2, none⟩ w47 fun n50 =>
 ldI .i64 ⟨b21, 3, none⟩ w47 fun n51 =>
 ldI .i64 ⟨b21, 4, none⟩ w47 fun n52 =>
 ldI .i64 ⟨b21, 5, none⟩ w47 fun n53 =>
 ldI .i64 ⟨b21, 6, none⟩ w47 fun n54 =>
 ldI .i64 ⟨b21, 7, none⟩ w47 fun n55 =>
 ldB ⟨b21, 8, none⟩ w47 fun b56 =>
 CV P F.cmd_Encode [.agg [.int .i64 n48, .int .i64 n49, .int .i64 n50, .int .i64 n51, .int .i64 n52, .int .i64 n53, .int .i64 n54, .int .i64 n55, .bool b56].toArray] w47 fun v57 w58 =>
 ∃ n59 : Int, ∃ n60 : Int, ∃ n61 : Int, ∃ n62 : Int, ∃ n63 : Int, v57 = .tuple [.agg [.int .u64 n59, .int .u64 n60, .int .u64 n61, .int .u64 n62].toArray, .int .i64 n63].toArray ∧
 alc [.int .u64 0, .int .u64 0, .int .u64 0, .int .u64 0] T.t26 w58 fun b64 w65 =>
 st1 (.int .u64 n59) ⟨b64, 0, none⟩ w65 fun w66 =>
 st1 (.int .u64 n60) ⟨b64, 1, none⟩ w66 fun w67 =>
 st1 (.int .u64 n61) ⟨b64, 2, none⟩ w67 fun w68 =>
 st1 (.int .u64 n62) ⟨b64, 3, none⟩ w68 fun w69 =>
 ldI .i64 ⟨b19, 0, none⟩ w69 fun n70 =>
 ldI .i64 ⟨b19, 1, none⟩ w69 fun n71 =>
 ldI .i64 ⟨b19, 2, none⟩ w69 fun n72 =>
 ldI .i64 ⟨b19, 3, none⟩ w69 fun n73 =>
 ldI .i64 ⟨b19, 4, none⟩ w69 fun n74 =>
 ldI .i64 ⟨b19, 5, none⟩ w69 fun n75 =>
 ldI .i64 ⟨b19, 6, none⟩ w69 fun n76 =>
 ldI .i64 ⟨b19, 7, none⟩ w69 fun n77 =>
 ldB ⟨b19, 8, none⟩ w69 fun b78 =>
 CV P F.cmd_Print [.agg [.int .i64 n70, .int .i64 n71, .int .i64 n72, .int .i64 n73, .int .i64 n74, .int .i64 n75, .int .i64 n76, .int .i64 n77, .bool b78].toArray] w69 fun v79 w80 =>
 ∃ s81 : ByteArray, ∃ n82 : Int, v79 = .tuple [.string s81, .int .i64 n82].toArray ∧
 ldI .i64 ⟨b21, 0, none⟩ w80 fun n83 =>
 ldI .i64 ⟨b21, 1, none⟩ w80 fun n84 =>
 ldI .i64 ⟨b21, 2, none⟩ w80 fun n85 =>
 ldI .i64 ⟨b21, 3, none⟩ w80 fun n86 =>
 ldI .i64 ⟨b21, 4, none⟩ w80 fun n87 =>
 ldI .i64 ⟨b21, 5, none⟩ w80 fun n88 =>
 ldI .i64 ⟨b21, 6, none⟩ w80 fun n89 =>
 ldI .i64 ⟨b21, 7, none⟩ w80 fun n90 =>
 ldB ⟨b21, 8, none⟩ w80 fun b91 =>
 CV P F.cmd_Print [.agg [.int .i64 n83, .int .i64 n84, .int .i64 n85, .int .i64 n86, .int .i64 n87, .int .i64 n88, .int .i64 n89, .int .i64 n90, .bool b91].toArray] w80 fun v92 w93 =>
 ∃ s94 : ByteArray, ∃ n95 : Int, v92 = .tuple [.string s94, .int .i64 n95].toArray ∧
 JoinT (fun (J153 : crierlaw16_CmdOne_J510.S → World → Prop) =>
  cnd (n41 != n82)
  (J153 ((true : Bool)) w93)
  (J153 (((n63 != n95) : Bool)) w93))
  fun (s154 : crierlaw16_CmdOne_J510.S) w155 => crierlaw16_CmdOne_j1 Q b19 b21 b25 n41 b42 n63 b64 s81 s94 s154 w155)
def crierlaw16_CmdOne_ann : Nat → Option LoopSpec := fun
  | 510 => some crierlaw16_CmdOne_J510
  | 511 => some crierlaw16_CmdOne_J511
  | 1022 => some (ordSpec [0, 1, 2, 3, 4, 5, 6, 7, 8, 9, 10, 11, 12, 13, 14, 15, 16, 17, 18, 19, 20, 21, 22, 23, 24, 25, 26, 27])
  | _ => none
theorem crierlaw16_CmdOne_eq (a0_0 : Int) (a0_1 : Int) (a0_2 : Int) (a0_3 : Int) (a0_4 : Int) (a0_5 : Int) (a0_6 : Int) (a0_7 : Int) (a0_8 : Bool) (a1_0 : Int) (a1_1 : Int) (a1_2 : Int) (a1_3 : Int) (a1_4 : Int) (a1_5 : Int) (a1_6 : Int) (a1_7 : Int) (a1_8 : Bool) (w : World) (Q : Value → World → Prop) : fnX P crierlaw16_CmdOne_ann Tryd.f4 [.agg [.int .i64 a0_0, .int .i64 a0_1, .int .i64 a0_2, .int .i64 a0_3, .int .i64 a0_4, .int .i64 a0_5, .int .i64 a0_6, .int .i64 a0_7, .bool a0_8].toArray, .agg [.int .i64 a1_0, .int .i64 a1_1, .int .i64 a1_2, .int .i64 a1_3, .int .i64 a1_4, .int .i64 a1_5, .int .i64 a1_6, .int .i64 a1_7, .bool a1_8].toArray] w Q = crierlaw16_CmdOne a0_0 a0_1 a0_2 a0_3 a0_4 a0_5 a0_6 a0_7 a0_8 a1_0 a1_1 a1_2 a1_3 a1_4 a1_5 a1_6 a1_7 a1_8 w Q := by kernel_rfl
theorem crierlaw16_CmdOne_cv {a0_0 : Int} {a0_1 : Int} {a0_2 : Int} {a0_3 : Int} {a0_4 : Int} {a0_5 : Int} {a0_6 : Int} {a0_7 : Int} {a0_8 : Bool} {a1_0 : Int} {a1_1 : Int} {a1_2 : Int} {a1_3 : Int} {a1_4 : Int} {a1_5 : Int} {a1_6 : Int} {a1_7 : Int} {a1_8 : Bool} {w : World} {Q : Value → World → Prop} (h : crierlaw16_CmdOne a0_0 a0_1 a0_2 a0_3 a0_4 a0_5 a0_6 a0_7 a0_8 a1_0 a1_1 a1_2 a1_3 a1_4 a1_5 a1_6 a1_7 a1_8 w Q) : CV P F.crierlaw16_CmdOne [.agg [.int .i64 a0_0, .int .i64 a0_1, .int .i64 a0_2, .int .i64 a0_3, .int .i64 a0_4, .int .i64 a0_5, .int .i64 a0_6, .int .i64 a0_7, .bool a0_8].toArray, .agg [.int .i64 a1_0, .int .i64 a1_1, .int .i64 a1_2, .int .i64 a1_3, .int .i64 a1_4, .int .i64 a1_5, .int .i64 a1_6, .int .i64 a1_7, .bool a1_8].toArray] w Q := CV_of mixed Tryd.func4 (crierlaw16_CmdOne_eq a0_0 a0_1 a0_2 a0_3 a0_4 a0_5 a0_6 a0_7 a0_8 a1_0 a1_1 a1_2 a1_3 a1_4 a1_5 a1_6 a1_7 a1_8 w Q ▸ h)

/- 5 crier/crierlaw16.CmdTurned -/
def crierlaw16_CmdTurned_J255 : LoopSpec where
  S := Bool
  emb := fun s => [(6, .bool s)]
  ext := fun t => match getL t 6 with
    | some (.bool y70) => some (y70)
    | _ => none
  slots := [6]
  fits := fun _ => rfl
  ok := by
    intro t s h x hx
    (try dsimp only at h hx)
    split at h
    · cases h
      simp only [List.mem_cons, List.not_mem_nil, or_false] at hx
      rcases hx with rfl <;> assumption
    · cases h

def crierlaw16_CmdTurned_j0 (Q : Value → World → Prop) (b71 : Bool) (w72 : World) : Prop :=
 Q (.bool b71) w72

def crierlaw16_CmdTurned (a0_0 : Int) (a0_1 : Int) (a0_2 : Int) (a0_3 : Int) (a0_4 : Int) (a0_5 : Int) (a0_6 : Int) (a0_7 : Int) (a0_8 : Bool) (a1 : Int) (a2 : Int) (w : World) (Q : Value → World → Prop) : Prop :=
 alc [.int .i64 a0_0, .int .i64 a0_1, .int .i64 a0_2, .int .i64 a0_3, .int .i64 a0_4, .int .i64 a0_5, .int .i64 a0_6, .int .i64 a0_7, .bool a0_8] T.t24 w fun b12 w13 =>
 CV P F.crierlaw16_awake [] w13 fun v14 w15 =>
 ∃ b16 : Bool, v14 = .bool b16 ∧
 cnd (!b16)
 (Q (.bool false) w15)
 (ldI .i64 ⟨b12, 0, none⟩ w15 fun n17 =>
 ldI .i64 ⟨b12, 1, none⟩ w15 fun n18 =>
 ldI .i64 ⟨b12, 2, none⟩ w15 fun n19 =>
 ldI .i64 ⟨b12, 3, none⟩ w15 fun n20 =>
 ldI .i64 ⟨b12, 4, none⟩ w15 fun n21 =>
 ldI .i64 ⟨b12, 5, none⟩ w15 fun n22 =>
 ldI .i64 ⟨b12, 6, none⟩ w15 fun n23 =>
 ldI .i64 ⟨b12, 7, none⟩ w15 fun n24 =>
 ldB ⟨b12, 8, none⟩ w15 fun b25 =>
 CV P F.cmd_Encode [.agg [.int .i64 n17, .int .i64 n18, .int .i64 n19, .int .i64 n20, .int .i64 n21, .int .i64 n22, .int .i64 n23, .int .i64 n24, .bool b25].toArray] w15 fun v26 w27 =>
 ∃ n28 : Int, ∃ n29 : Int, ∃ n30 : Int, ∃ n31 : Int, ∃ n32 : Int, v26 = .tuple [.agg [.int .u64 n28, .int .u64 n29, .int .u64 n30, .int .u64 n31].toArray, .int .i64 n32].toArray ∧
 alc [.int .u64 0, .int .u64 0, .int .u64 0, .int .u64 0] T.t26 w27 fun b33 w34 =>
 st1 (.int .u64 n28) ⟨b33, 0, none⟩ w34 fun w35 =>
 st1 (.int .u64 n29) ⟨b33, 1, none⟩ w35 fun w36 =>
 st1 (.int .u64 n30) ⟨b33, 2, none⟩ w36 fun w37 =>
 st1 (.int .u64 n31) ⟨b33, 3, none⟩ w37 fun w38 =>
 cnd (n32 != 0)
 (Q (.bool b16) w38)
 ((nz 4 <|
 (nz 4 <|
 ix (Int.tmod a1 4) 4 fun j39 =>
 ldI .u64 (Addr.add ⟨b33, 0, none⟩ (j39 * 1)) w38 fun n40 =>
 (nz 64 <|
 (nng (Int.tmod a2 64) <|
 ix (Int.tmod a1 4) 4 fun j41 =>
 st1 (.int .u64 (bitX .xor .u64 n40 (IntKind.u64.wrap (1 * 2 ^ min (Int.toNat (Int.tmod a2 64)) (IntKind.u64.bits))))) (Addr.add ⟨b33, 0, none⟩ (j41 * 1)) w38 fun w42 =>
 ldI .u64 ⟨b33, 0, none⟩ w42 fun n43 =>
 ldI .u64 ⟨b33, 1, none⟩ w42 fun n44 =>
 ldI .u64 ⟨b33, 2, none⟩ w42 fun n45 =>
 ldI .u64 ⟨b33, 3, none⟩ w42 fun n46 =>
 CV P F.cmd_Decode [.agg [.int .u64 n43, .int .u64 n44, .int .u64 n45, .int .u64 n46].toArray] w42 fun v47 w48 =>
 ∃ n49 : Int, ∃ n50 : Int, ∃ n51 : Int, ∃ n52 : Int, ∃ n53 : Int, ∃ n54 : Int, ∃ n55 : Int, ∃ n56 : Int, ∃ b57 : Bool, ∃ n58 : Int, v47 = .tuple [.agg [.int .i64 n49, .int .i64 n50, .int .i64 n51, .int .i64 n52, .int .i64 n53, .int .i64 n54, .int .i64 n55, .int .i64 n56, .bool b57].toArray, .int .i64 n58].toArray ∧
 alc [.int .i64 0, .int .i64 0, .int .i64 0, .int .i64 0, .int .i64 0, .int .i64 0, .int .i64 0, .int .i64 0, .bool false] T.t24 w48 fun b59 w60 =>
 st1 (.int .i64 n49) ⟨b59, 0, none⟩ w60 fun w61 =>
 st1 (.int .i64 n50) ⟨b59, 1, none⟩ w61 fun w62 =>
 st1 (.int .i64 n51) ⟨b59, 2, none⟩ w62 fun w63 =>
 st1 (.int .i64 n52) ⟨b59, 3, none⟩ w63 fun w64 =>
 st1 (.int .i64 n53) ⟨b59, 4, none⟩ w64 fun w65 =>
 st1 (.int .i64 n54) ⟨b59, 5, none⟩ w65 fun w66 =>
 st1 (.int .i64 n55) ⟨b59, 6, none⟩ w66 fun w67 =>
 st1 (.int .i64 n56) ⟨b59, 7, none⟩ w67 fun w68 =>
 st1 (.bool b57) ⟨b59, 8, none⟩ w68 fun w69 =>
 JoinT (fun (J73 : crierlaw16_CmdTurned_J255.S → World → Prop) =>
  cnd b16
  (cnd (n58 == 160)
  (ldI .i64 ⟨b59, 0, none⟩ w69 fun n74 =>
  ldI .i64 ⟨b59, 1, none⟩ w69 fun n75 =>
  ldI .i64 ⟨b59, 2, none⟩ w69 fun n76 =>
  ldI .i64 ⟨b59, 3, none⟩ w69 fun n77 =>
  ldI .i64 ⟨b59, 4, none⟩ w69 fun n78 =>
  ldI .i64 ⟨b59, 5, none⟩ w69 fun n79 =>
  ldI .i64 ⟨b59, 6, none⟩ w69 fun n80 =>
  ldI .i64 ⟨b59, 7, none⟩ w69 fun n81 =>
  ldB ⟨b59, 8, none⟩ w69 fun b82 =>
  eqA P .eql T.t24 (.agg [.int .i64 n74, .int .i64 n75, .int .i64 n76, .int .i64 n77, .int .i64 n78, .int .i64 n79, .int .i64 n80, .int .i64 n81, .bool b82].toArray) (.agg [.int .i64 0, .int .i64 0, .int .i64 0, .int .i64 0, .int .i64 0, .int .i64 0, .int .i64 0, .int .i64 0, .bool false].toArray) w69 fun b83 =>
  cnd b83
  (J73 ((true : Bool)) w69)
  (cnd (n58 == 0)
  (ldI .i64 ⟨b59, 0, none⟩ w69 fun n84 =>
  ldI .i64 ⟨b59, 1, none⟩ w69 fun n85 =>
  ldI .i64 ⟨b59, 2, none⟩ w69 fun n86 =>
  ldI .i64 ⟨b59, 3, none⟩ w69 fun n87 =>
  ldI .i64 ⟨b59, 4, none⟩ w69 fun n88 =>
  ldI .i64 ⟨b59, 5, none⟩ w69 fun n89 =>
  ldI .i64 ⟨b59, 6, none⟩ w69 fun n90 =>
  ldI .i64 ⟨b59, 7, none⟩ w69 fun n91 =>
  ldB ⟨b59, 8, none⟩ w69 fun b92 =>
  ldI .i64 ⟨b12, 0, none⟩ w69 fun n93 =>
  ldI .i64 ⟨b12, 1, none⟩ w69 fun n94 =>
  ldI .i64 ⟨b12, 2, none⟩ w69 fun n95 =>
  ldI .i64 ⟨b12, 3, none⟩ w69 fun n96 =>
  ldI .i64 ⟨b12, 4, none⟩ w69 fun n97 =>
  ldI .i64 ⟨b12, 5, none⟩ w69 fun n98 =>
  ldI .i64 ⟨b12, 6, none⟩ w69 fun n99 =>
  ldI .i64 ⟨b12, 7, none⟩ w69 fun n100 =>
  ldB ⟨b12, 8, none⟩ w69 fun b101 =>
  eqA P .neq T.t24 (.agg [.int .i64 n84, .int .i64 n85, .int .i64 n86, .int .i64 n87, .int .i64 n88, .int .i64 n89, .int .i64 n90, .int .i64 n91, .bool b92].toArray) (.agg [.int .i64 n93, .int .i64 n94, .int .i64 n95, .int .i64 n96, .int .i64 n97, .int .i64 n98, .int .i64 n99, .int .i64 n100, .bool b101].toArray) w69 fun b102 =>
  J73 ((b102 : Bool)) w69)
  (J73 ((false : Bool)) w69)))
  (cnd (n58 == 0)
  (ldI .i64 ⟨b59, 0, none⟩ w69 fun n103 =>
  ldI .i64 ⟨b59, 1, none⟩ w69 fun n104 =>
  ldI .i64 ⟨b59, 2, none⟩ w69 fun n105 =>
  ldI .i64 ⟨b59, 3, none⟩ w69 fun n106 =>
  ldI .i64 ⟨b59, 4, none⟩ w69 fun n107 =>
  ldI .i64 ⟨b59, 5, none⟩ w69 fun n108 =>
  ldI .i64 ⟨b59, 6, none⟩ w69 fun n109 =>
  ldI .i64 ⟨b59, 7, none⟩ w69 fun n110 =>
  ldB ⟨b59, 8, none⟩ w69 fun b111 =>
  ldI .i64 ⟨b12, 0, none⟩ w69 fun n112 =>
  ldI .i64 ⟨b12, 1, none⟩ w69 fun n113 =>
  ldI .i64 ⟨b12, 2, none⟩ w69 fun n114 =>
  ldI .i64 ⟨b12, 3, none⟩ w69 fun n115 =>
  ldI .i64 ⟨b12, 4, none⟩ w69 fun n116 =>
  ldI .i64 ⟨b12, 5, none⟩ w69 fun n117 =>
  ldI .i64 ⟨b12, 6, none⟩ w69 fun n118 =>
  ldI .i64 ⟨b12, 7, none⟩ w69 fun n119 =>
  ldB ⟨b12, 8, none⟩ w69 fun b120 =>
  eqA P .neq T.t24 (.agg [.int .i64 n103, .int .i64 n104, .int .i64 n105, .int .i64 n106, .int .i64 n107, .int .i64 n108, .int .i64 n109, .int .i64 n110, .bool b111].toArray) (.agg [.int .i64 n112, .int .i64 n113, .int .i64 n114, .int .i64 n115, .int .i64 n116, .int .i64 n117, .int .i64 n118, .int .i64 n119, .bool b120].toArray) w69 fun b121 =>
  J73 ((b121 : Bool)) w69)
  (J73 ((false : Bool)) w69)))
  (J73 ((false : Bool)) w69))
  fun (s122 : crierlaw16_CmdTurned_J255.S) w123 => crierlaw16_CmdTurned_j0 Q s122 w123))))))
def crierlaw16_CmdTurned_ann : Nat → Option LoopSpec := fun
  | 255 => some crierlaw16_CmdTurned_J255
  | _ => none
theorem crierlaw16_CmdTurned_eq (a0_0 : Int) (a0_1 : Int) (a0_2 : Int) (a0_3 : Int) (a0_4 : Int) (a0_5 : Int) (a0_6 : Int) (a0_7 : Int) (a0_8 : Bool) (a1 : Int) (a2 : Int) (w : World) (Q : Value → World → Prop) : fnX P crierlaw16_CmdTurned_ann Tryd.f5 [.agg [.int .i64 a0_0, .int .i64 a0_1, .int .i64 a0_2, .int .i64 a0_3, .int .i64 a0_4, .int .i64 a0_5, .int .i64 a0_6, .int .i64 a0_7, .bool a0_8].toArray, .int .u8 a1, .int .u8 a2] w Q = crierlaw16_CmdTurned a0_0 a0_1 a0_2 a0_3 a0_4 a0_5 a0_6 a0_7 a0_8 a1 a2 w Q := by kernel_rfl
theorem crierlaw16_CmdTurned_cv {a0_0 : Int} {a0_1 : Int} {a0_2 : Int} {a0_3 : Int} {a0_4 : Int} {a0_5 : Int} {a0_6 : Int} {a0_7 : Int} {a0_8 : Bool} {a1 : Int} {a2 : Int} {w : World} {Q : Value → World → Prop} (h : crierlaw16_CmdTurned a0_0 a0_1 a0_2 a0_3 a0_4 a0_5 a0_6 a0_7 a0_8 a1 a2 w Q) : CV P F.crierlaw16_CmdTurned [.agg [.int .i64 a0_0, .int .i64 a0_1, .int .i64 a0_2, .int .i64 a0_3, .int .i64 a0_4, .int .i64 a0_5, .int .i64 a0_6, .int .i64 a0_7, .bool a0_8].toArray, .int .u8 a1, .int .u8 a2] w Q := CV_of mixed Tryd.func5 (crierlaw16_CmdTurned_eq a0_0 a0_1 a0_2 a0_3 a0_4 a0_5 a0_6 a0_7 a0_8 a1 a2 w Q ▸ h)

/- 6 crier/crierlaw16.CmdKeeps -/
def crierlaw16_CmdKeeps_J62 : LoopSpec where
  S := Bool
  emb := fun s => [(37, .bool s)]
  ext := fun t => match getL t 37 with
    | some (.bool y29) => some (y29)
    | _ => none
  slots := [37]
  fits := fun _ => rfl
  ok := by
    intro t s h x hx
    (try dsimp only at h hx)
    split at h
    · cases h
      simp only [List.mem_cons, List.not_mem_nil, or_false] at hx
      rcases hx with rfl <;> assumption
    · cases h

def crierlaw16_CmdKeeps_L506 : LoopSpec where
  S := Int
  emb := fun s => [(16, .int .i64 s)]
  ext := fun t => match getL t 16 with
    | some (.int .i64 y32) => some (y32)
    | _ => none
  slots := [16]
  fits := fun _ => rfl
  ok := by
    intro t s h x hx
    (try dsimp only at h hx)
    split at h
    · cases h
      simp only [List.mem_cons, List.not_mem_nil, or_false] at hx
      rcases hx with rfl <;> assumption
    · cases h

def crierlaw16_CmdKeeps_J4095 : LoopSpec where
  S := Bool
  emb := fun s => [(23, .bool s)]
  ext := fun t => match getL t 23 with
    | some (.bool y84) => some (y84)
    | _ => none
  slots := [23]
  fits := fun _ => rfl
  ok := by
    intro t s h x hx
    (try dsimp only at h hx)
    split at h
    · cases h
      simp only [List.mem_cons, List.not_mem_nil, or_false] at hx
      rcases hx with rfl <;> assumption
    · cases h

def crierlaw16_CmdKeeps_J8191 : LoopSpec where
  S := Bool
  emb := fun s => [(12, .bool s)]
  ext := fun t => match getL t 12 with
    | some (.bool y87) => some (y87)
    | _ => none
  slots := [12]
  fits := fun _ => rfl
  ok := by
    intro t s h x hx
    (try dsimp only at h hx)
    split at h
    · cases h
      simp only [List.mem_cons, List.not_mem_nil, or_false] at hx
      rcases hx with rfl <;> assumption
    · cases h

def crierlaw16_CmdKeeps_j0 (Q : Value → World → Prop) (b88 : Bool) (w89 : World) : Prop :=
 Q (.bool b88) w89

def crierlaw16_CmdKeeps_j1 (Q : Value → World → Prop) (p58 : Option Addr) (l59 : Nat) (c60 : Nat) (p80 : Option Addr) (l81 : Nat) (c82 : Nat) (n83 : Int) (b85 : Bool) (w86 : World) : Prop :=
 JoinT (fun (J90 : crierlaw16_CmdKeeps_J8191.S → World → Prop) =>
  cnd (n83 == 0)
  (cnd b85
  (J90 ((true : Bool)) w86)
  (X.runT P (Conv.bytesToString (.slice p58 l59 c60)) w86 fun s91 =>
  X.runT P (Conv.bytesToString (.slice p80 l81 c82)) w86 fun s92 =>
  J90 ((((s91 : ByteArray).toList == (s92 : ByteArray).toList) : Bool)) w86))
  (J90 ((false : Bool)) w86))
  fun (s93 : crierlaw16_CmdKeeps_J8191.S) w94 => crierlaw16_CmdKeeps_j0 Q s93 w94

def crierlaw16_CmdKeeps_l2 (a1 : Option Addr) (a1_n : Nat) (a3 : Int) (a5 : Int) (Q : Value → World → Prop) (b18 : Nat) (b20 : Nat) (p27 : Option Addr) (n33 : Int) (w34 : World) (A35 : crierlaw16_CmdKeeps_L506.S → World → Prop) : Prop :=
 cnd (decide (n33 < ((a1_n : Nat) : Int)))
 (ix n33 a1_n fun j36 => nn a1 fun a37 =>
 ldI .i64 (a37.add (j36 * 7)) w34 fun n38 =>
 ldI .i64 ((a37.add (j36 * 7)).add 1) w34 fun n39 =>
 ldI .i64 ((a37.add (j36 * 7)).add 2) w34 fun n40 =>
 ldI .i64 ((a37.add (j36 * 7)).add 3) w34 fun n41 =>
 ldI .i64 ((a37.add (j36 * 7)).add 4) w34 fun n42 =>
 ldI .u64 ((a37.add (j36 * 7)).add 5) w34 fun n43 =>
 ldL ((a37.add (j36 * 7)).add 6) w34 fun p44 l45 c46 =>
 CV P F.crierlaw04_Does [.pointer p27, .agg [.int .i64 n38, .int .i64 n39, .int .i64 n40, .int .i64 n41, .int .i64 n42, .int .u64 n43, .slice p44 l45 c46].toArray] w34 fun v47 w48 =>
 ∃ n49 : Int, v47 = .int .i64 n49 ∧
 A35 (((IntKind.i64.wrap (n33 + 1)) : Int)) w48)
 (alc [.int .i64 0, .int .i64 0] T.t46 w34 fun b50 w51 =>
 st1 (.int .i64 a5) ⟨b50, 0, none⟩ w51 fun w52 =>
 st1 (.int .i64 1) ⟨b50, 1, none⟩ w52 fun w53 =>
 ldI .i64 ⟨b50, 0, none⟩ w53 fun n54 =>
 ldI .i64 ⟨b50, 1, none⟩ w53 fun n55 =>
 CV P F.mem_Mem_Bytes [.pointer p27, .agg [.int .i64 n54, .int .i64 n55].toArray] w53 fun v56 w57 =>
 ∃ (p58 : Option Addr) (l59 c60 : Nat), ∃ n61 : Int, v56 = .tuple [.slice p58 l59 c60, .int .i64 n61].toArray ∧
 ldI .i64 ⟨b18, 0, none⟩ w57 fun n62 =>
 ldI .i64 ⟨b18, 1, none⟩ w57 fun n63 =>
 ldI .i64 ⟨b20, 0, none⟩ w57 fun n64 =>
 ldI .i64 ⟨b20, 1, none⟩ w57 fun n65 =>
 ldI .i64 ⟨b20, 2, none⟩ w57 fun n66 =>
 ldI .i64 ⟨b20, 3, none⟩ w57 fun n67 =>
 ldI .i64 ⟨b20, 4, none⟩ w57 fun n68 =>
 ldI .i64 ⟨b20, 5, none⟩ w57 fun n69 =>
 ldI .i64 ⟨b20, 6, none⟩ w57 fun n70 =>
 ldI .i64 ⟨b20, 7, none⟩ w57 fun n71 =>
 ldB ⟨b20, 8, none⟩ w57 fun b72 =>
 CV P F.cmd_Store [.pointer p27, .agg [.int .i64 n62, .int .i64 n63].toArray, .int .i64 a3, .agg [.int .i64 n64, .int .i64 n65, .int .i64 n66, .int .i64 n67, .int .i64 n68, .int .i64 n69, .int .i64 n70, .int .i64 n71, .bool b72].toArray] w57 fun v73 w74 =>
 ∃ n75 : Int, v73 = .int .i64 n75 ∧
 ldI .i64 ⟨b50, 0, none⟩ w74 fun n76 =>
 ldI .i64 ⟨b50, 1, none⟩ w74 fun n77 =>
 CV P F.mem_Mem_Bytes [.pointer p27, .agg [.int .i64 n76, .int .i64 n77].toArray] w74 fun v78 w79 =>
 ∃ (p80 : Option Addr) (l81 c82 : Nat), ∃ n83 : Int, v78 = .tuple [.slice p80 l81 c82, .int .i64 n83].toArray ∧
 cnd (n61 != 0)
 (Q (.bool (n83 == n61)) w79)
 (JoinT (fun (J95 : crierlaw16_CmdKeeps_J4095.S → World → Prop) =>
  cnd (n75 == 0)
  (ldI .i64 ⟨b18, 0, none⟩ w79 fun n96 =>
  cnd (decide (a5 ≥ (IntKind.i64.wrap (n96 + a3))))
  (ldI .i64 ⟨b18, 0, none⟩ w79 fun n97 =>
  J95 (((decide (a5 < (IntKind.i64.wrap ((IntKind.i64.wrap (n97 + a3)) + 32)))) : Bool)) w79)
  (J95 ((false : Bool)) w79))
  (J95 ((false : Bool)) w79))
  fun (s98 : crierlaw16_CmdKeeps_J4095.S) w99 => crierlaw16_CmdKeeps_j1 Q p58 l59 c60 p80 l81 c82 n83 s98 w99))

def crierlaw16_CmdKeeps_j3 (a1 : Option Addr) (a1_n : Nat) (a3 : Int) (a5 : Int) (Q : Value → World → Prop) (b18 : Nat) (b20 : Nat) (p27 : Option Addr) (b30 : Bool) (w31 : World) : Prop :=
 cnd b30
 (Q (.bool false) w31)
 (LoopT (fun (s100 : crierlaw16_CmdKeeps_L506.S) w101 A102 => crierlaw16_CmdKeeps_l2 a1 a1_n a3 a5 Q b18 b20 p27 s100 w101 A102) ((0 : Int)) w31)

def crierlaw16_CmdKeeps (a0 : Int) (a1 : Option Addr) (a1_n : Nat) (a1_c : Nat) (a2_0 : Int) (a2_1 : Int) (a3 : Int) (a4_0 : Int) (a4_1 : Int) (a4_2 : Int) (a4_3 : Int) (a4_4 : Int) (a4_5 : Int) (a4_6 : Int) (a4_7 : Int) (a4_8 : Bool) (a5 : Int) (w : World) (Q : Value → World → Prop) : Prop :=
 alc [.int .i64 a2_0, .int .i64 a2_1] T.t46 w fun b18 w19 =>
 alc [.int .i64 a4_0, .int .i64 a4_1, .int .i64 a4_2, .int .i64 a4_3, .int .i64 a4_4, .int .i64 a4_5, .int .i64 a4_6, .int .i64 a4_7, .bool a4_8] T.t24 w19 fun b20 w21 =>
 CV P F.crierlaw16_awake [] w21 fun v22 w23 =>
 ∃ b24 : Bool, v22 = .bool b24 ∧
 cnd (!b24)
 (Q (.bool false) w23)
 (CV P F.crierlaw04_New [.int .i64 a0] w23 fun v25 w26 =>
 ∃ p27 : Option Addr, ∃ p28 : Option Addr, v25 = .tuple [.pointer p27, .pointer p28].toArray ∧
 JoinT (fun (J103 : crierlaw16_CmdKeeps_J62.S → World → Prop) =>
  cnd (!b24)
  (J103 ((true : Bool)) w26)
  (J103 (((Option.isNone p27) : Bool)) w26))
  fun (s104 : crierlaw16_CmdKeeps_J62.S) w105 => crierlaw16_CmdKeeps_j3 a1 a1_n a3 a5 Q b18 b20 p27 s104 w105)
def crierlaw16_CmdKeeps_ann : Nat → Option LoopSpec := fun
  | 62 => some crierlaw16_CmdKeeps_J62
  | 506 => some crierlaw16_CmdKeeps_L506
  | 4095 => some crierlaw16_CmdKeeps_J4095
  | 8191 => some crierlaw16_CmdKeeps_J8191
  | _ => none
theorem crierlaw16_CmdKeeps_eq (a0 : Int) (a1 : Option Addr) (a1_n : Nat) (a1_c : Nat) (a2_0 : Int) (a2_1 : Int) (a3 : Int) (a4_0 : Int) (a4_1 : Int) (a4_2 : Int) (a4_3 : Int) (a4_4 : Int) (a4_5 : Int) (a4_6 : Int) (a4_7 : Int) (a4_8 : Bool) (a5 : Int) (w : World) (Q : Value → World → Prop) : fnX P crierlaw16_CmdKeeps_ann Tryd.f6 [.int .i64 a0, .slice a1 a1_n a1_c, .agg [.int .i64 a2_0, .int .i64 a2_1].toArray, .int .i64 a3, .agg [.int .i64 a4_0, .int .i64 a4_1, .int .i64 a4_2, .int .i64 a4_3, .int .i64 a4_4, .int .i64 a4_5, .int .i64 a4_6, .int .i64 a4_7, .bool a4_8].toArray, .int .i64 a5] w Q = crierlaw16_CmdKeeps a0 a1 a1_n a1_c a2_0 a2_1 a3 a4_0 a4_1 a4_2 a4_3 a4_4 a4_5 a4_6 a4_7 a4_8 a5 w Q := by kernel_rfl
theorem crierlaw16_CmdKeeps_cv {a0 : Int} {a1 : Option Addr} {a1_n : Nat} {a1_c : Nat} {a2_0 : Int} {a2_1 : Int} {a3 : Int} {a4_0 : Int} {a4_1 : Int} {a4_2 : Int} {a4_3 : Int} {a4_4 : Int} {a4_5 : Int} {a4_6 : Int} {a4_7 : Int} {a4_8 : Bool} {a5 : Int} {w : World} {Q : Value → World → Prop} (h : crierlaw16_CmdKeeps a0 a1 a1_n a1_c a2_0 a2_1 a3 a4_0 a4_1 a4_2 a4_3 a4_4 a4_5 a4_6 a4_7 a4_8 a5 w Q) : CV P F.crierlaw16_CmdKeeps [.int .i64 a0, .slice a1 a1_n a1_c, .agg [.int .i64 a2_0, .int .i64 a2_1].toArray, .int .i64 a3, .agg [.int .i64 a4_0, .int .i64 a4_1, .int .i64 a4_2, .int .i64 a4_3, .int .i64 a4_4, .int .i64 a4_5, .int .i64 a4_6, .int .i64 a4_7, .bool a4_8].toArray, .int .i64 a5] w Q := CV_of mixed Tryd.func6 (crierlaw16_CmdKeeps_eq a0 a1 a1_n a1_c a2_0 a2_1 a3 a4_0 a4_1 a4_2 a4_3 a4_4 a4_5 a4_6 a4_7 a4_8 a5 w Q ▸ h)

/- 7 crier/crierlaw16.CmdStores -/
def crierlaw16_CmdStores_J62 : LoopSpec where
  S := Bool
  emb := fun s => [(36, .bool s)]
  ext := fun t => match getL t 36 with
    | some (.bool y29) => some (y29)
    | _ => none
  slots := [36]
  fits := fun _ => rfl
  ok := by
    intro t s h x hx
    (try dsimp only at h hx)
    split at h
    · cases h
      simp only [List.mem_cons, List.not_mem_nil, or_false] at hx
      rcases hx with rfl <;> assumption
    · cases h

def crierlaw16_CmdStores_L506 : LoopSpec where
  S := Int
  emb := fun s => [(16, .int .i64 s)]
  ext := fun t => match getL t 16 with
    | some (.int .i64 y32) => some (y32)
    | _ => none
  slots := [16]
  fits := fun _ => rfl
  ok := by
    intro t s h x hx
    (try dsimp only at h hx)
    split at h
    · cases h
      simp only [List.mem_cons, List.not_mem_nil, or_false] at hx
      rcases hx with rfl <;> assumption
    · cases h

def crierlaw16_CmdStores_J254 : LoopSpec where
  S := Bool
  emb := fun s => [(71, .bool s)]
  ext := fun t => match getL t 71 with
    | some (.bool y64) => some (y64)
    | _ => none
  slots := [71]
  fits := fun _ => rfl
  ok := by
    intro t s h x hx
    (try dsimp only at h hx)
    split at h
    · cases h
      simp only [List.mem_cons, List.not_mem_nil, or_false] at hx
      rcases hx with rfl <;> assumption
    · cases h

def crierlaw16_CmdStores_L2042 : LoopSpec where
  S := Int
  emb := fun s => [(76, .int .i64 s)]
  ext := fun t => match getL t 76 with
    | some (.int .i64 y69) => some (y69)
    | _ => none
  slots := [76]
  fits := fun _ => rfl
  ok := by
    intro t s h x hx
    (try dsimp only at h hx)
    split at h
    · cases h
      simp only [List.mem_cons, List.not_mem_nil, or_false] at hx
      rcases hx with rfl <;> assumption
    · cases h

def crierlaw16_CmdStores_J522855 : LoopSpec where
  S := Bool
  emb := fun s => [(101, .bool s)]
  ext := fun t => match getL t 101 with
    | some (.bool y125) => some (y125)
    | _ => none
  slots := [101]
  fits := fun _ => rfl
  ok := by
    intro t s h x hx
    (try dsimp only at h hx)
    split at h
    · cases h
      simp only [List.mem_cons, List.not_mem_nil, or_false] at hx
      rcases hx with rfl <;> assumption
    · cases h

def crierlaw16_CmdStores_j0 (Q : Value → World → Prop) (n70 : Int) (A72 : crierlaw16_CmdStores_L2042.S → World → Prop) (b126 : Bool) (w127 : World) : Prop :=
 cnd b126
 (Q (.bool false) w127)
 (A72 (((IntKind.i64.wrap (n70 + 1)) : Int)) w127)

def crierlaw16_CmdStores_l1 (Q : Value → World → Prop) (b18 : Nat) (p27 : Option Addr) (p28 : Option Addr) (b67 : Nat) (n70 : Int) (w71 : World) (A72 : crierlaw16_CmdStores_L2042.S → World → Prop) : Prop :=
 cnd (decide (n70 < ((2 : Nat) : Int)))
 (ix n70 2 fun j73 =>
 ldI .i64 (Addr.add ⟨b67, 0, none⟩ (j73 * 1)) w71 fun n74 =>
 ldI .i64 ⟨b18, 0, none⟩ w71 fun n75 =>
 ldI .i64 ⟨b18, 1, none⟩ w71 fun n76 =>
 CV P F.cmd_Load [.pointer p27, .agg [.int .i64 n75, .int .i64 n76].toArray, .int .i64 n74] w71 fun v77 w78 =>
 ∃ n79 : Int, ∃ n80 : Int, ∃ n81 : Int, ∃ n82 : Int, ∃ n83 : Int, ∃ n84 : Int, ∃ n85 : Int, ∃ n86 : Int, ∃ b87 : Bool, ∃ n88 : Int, v77 = .tuple [.agg [.int .i64 n79, .int .i64 n80, .int .i64 n81, .int .i64 n82, .int .i64 n83, .int .i64 n84, .int .i64 n85, .int .i64 n86, .bool b87].toArray, .int .i64 n88].toArray ∧
 alc [.int .i64 0, .int .i64 0, .int .i64 0, .int .i64 0, .int .i64 0, .int .i64 0, .int .i64 0, .int .i64 0, .bool false] T.t24 w78 fun b89 w90 =>
 st1 (.int .i64 n79) ⟨b89, 0, none⟩ w90 fun w91 =>
 st1 (.int .i64 n80) ⟨b89, 1, none⟩ w91 fun w92 =>
 st1 (.int .i64 n81) ⟨b89, 2, none⟩ w92 fun w93 =>
 st1 (.int .i64 n82) ⟨b89, 3, none⟩ w93 fun w94 =>
 st1 (.int .i64 n83) ⟨b89, 4, none⟩ w94 fun w95 =>
 st1 (.int .i64 n84) ⟨b89, 5, none⟩ w95 fun w96 =>
 st1 (.int .i64 n85) ⟨b89, 6, none⟩ w96 fun w97 =>
 st1 (.int .i64 n86) ⟨b89, 7, none⟩ w97 fun w98 =>
 st1 (.bool b87) ⟨b89, 8, none⟩ w98 fun w99 =>
 ldI .i64 ⟨b18, 0, none⟩ w99 fun n100 =>
 ldI .i64 ⟨b18, 1, none⟩ w99 fun n101 =>
 CV P F.crierref16_Load [.pointer p28, .agg [.int .i64 n100, .int .i64 n101].toArray, .int .i64 n74] w99 fun v102 w103 =>
 ∃ n104 : Int, ∃ n105 : Int, ∃ n106 : Int, ∃ n107 : Int, ∃ n108 : Int, ∃ n109 : Int, ∃ n110 : Int, ∃ n111 : Int, ∃ b112 : Bool, ∃ n113 : Int, v102 = .tuple [.agg [.int .i64 n104, .int .i64 n105, .int .i64 n106, .int .i64 n107, .int .i64 n108, .int .i64 n109, .int .i64 n110, .int .i64 n111, .bool b112].toArray, .int .i64 n113].toArray ∧
 alc [.int .i64 0, .int .i64 0, .int .i64 0, .int .i64 0, .int .i64 0, .int .i64 0, .int .i64 0, .int .i64 0, .bool false] T.t24 w103 fun b114 w115 =>
 st1 (.int .i64 n104) ⟨b114, 0, none⟩ w115 fun w116 =>
 st1 (.int .i64 n105) ⟨b114, 1, none⟩ w116 fun w117 =>
 st1 (.int .i64 n106) ⟨b114, 2, none⟩ w117 fun w118 =>
 st1 (.int .i64 n107) ⟨b114, 3, none⟩ w118 fun w119 =>
 st1 (.int .i64 n108) ⟨b114, 4, none⟩ w119 fun w120 =>
 st1 (.int .i64 n109) ⟨b114, 5, none⟩ w120 fun w121 =>
 st1 (.int .i64 n110) ⟨b114, 6, none⟩ w121 fun w122 =>
 st1 (.int .i64 n111) ⟨b114, 7, none⟩ w122 fun w123 =>
 st1 (.bool b112) ⟨b114, 8, none⟩ w123 fun w124 =>
 JoinT (fun (J128 : crierlaw16_CmdStores_J522855.S → World → Prop) =>
  ldI .i64 ⟨b89, 0, none⟩ w124 fun n129 =>
  ldI .i64 ⟨b89, 1, none⟩ w124 fun n130 =>
  ldI .i64 ⟨b89, 2, none⟩ w124 fun n131 =>
  ldI .i64 ⟨b89, 3, none⟩ w124 fun n132 =>
  ldI .i64 ⟨b89, 4, none⟩ w124 fun n133 =>
  ldI .i64 ⟨b89, 5, none⟩ w124 fun n134 =>
  ldI .i64 ⟨b89, 6, none⟩ w124 fun n135 =>
  ldI .i64 ⟨b89, 7, none⟩ w124 fun n136 =>
  ldB ⟨b89, 8, none⟩ w124 fun b137 =>
  ldI .i64 ⟨b114, 0, none⟩ w124 fun n138 =>
  ldI .i64 ⟨b114, 1, none⟩ w124 fun n139 =>
  ldI .i64 ⟨b114, 2, none⟩ w124 fun n140 =>
  ldI .i64 ⟨b114, 3, none⟩ w124 fun n141 =>
  ldI .i64 ⟨b114, 4, none⟩ w124 fun n142 =>
  ldI .i64 ⟨b114, 5, none⟩ w124 fun n143 =>
  ldI .i64 ⟨b114, 6, none⟩ w124 fun n144 =>
  ldI .i64 ⟨b114, 7, none⟩ w124 fun n145 =>
  ldB ⟨b114, 8, none⟩ w124 fun b146 =>
  eqA P .neq T.t24 (.agg [.int .i64 n129, .int .i64 n130, .int .i64 n131, .int .i64 n132, .int .i64 n133, .int .i64 n134, .int .i64 n135, .int .i64 n136, .bool b137].toArray) (.agg [.int .i64 n138, .int .i64 n139, .int .i64 n140, .int .i64 n141, .int .i64 n142, .int .i64 n143, .int .i64 n144, .int .i64 n145, .bool b146].toArray) w124 fun b147 =>
  cnd b147
  (J128 ((true : Bool)) w124)
  (J128 (((n88 != n113) : Bool)) w124))
  fun (s148 : crierlaw16_CmdStores_J522855.S) w149 => crierlaw16_CmdStores_j0 Q n70 A72 s148 w149)
 (Q (.bool true) w71)

def crierlaw16_CmdStores_j2 (a3 : Int) (a5 : Int) (Q : Value → World → Prop) (b18 : Nat) (p27 : Option Addr) (p28 : Option Addr) (b65 : Bool) (w66 : World) : Prop :=
 cnd b65
 (Q (.bool false) w66)
 (alc [.int .i64 a3, .int .i64 a5] T.t3 w66 fun b67 w68 =>
 LoopT (fun (s150 : crierlaw16_CmdStores_L2042.S) w151 A152 => crierlaw16_CmdStores_l1 Q b18 p27 p28 b67 s150 w151 A152) ((0 : Int)) w68)

def crierlaw16_CmdStores_l3 (a1 : Option Addr) (a1_n : Nat) (a3 : Int) (a5 : Int) (Q : Value → World → Prop) (b18 : Nat) (b20 : Nat) (p27 : Option Addr) (p28 : Option Addr) (n33 : Int) (w34 : World) (A35 : crierlaw16_CmdStores_L506.S → World → Prop) : Prop :=
 cnd (decide (n33 < ((a1_n : Nat) : Int)))
 (ix n33 a1_n fun j36 => nn a1 fun a37 =>
 ldI .i64 (a37.add (j36 * 7)) w34 fun n38 =>
 ldI .i64 ((a37.add (j36 * 7)).add 1) w34 fun n39 =>
 ldI .i64 ((a37.add (j36 * 7)).add 2) w34 fun n40 =>
 ldI .i64 ((a37.add (j36 * 7)).add 3) w34 fun n41 =>
 ldI .i64 ((a37.add (j36 * 7)).add 4) w34 fun n42 =>
 ldI .u64 ((a37.add (j36 * 7)).add 5) w34 fun n43 =>
 ldL ((a37.add (j36 * 7)).add 6) w34 fun p44 l45 c46 =>
 CV P F.crierlaw04_Does [.pointer p27, .agg [.int .i64 n38, .int .i64 n39, .int .i64 n40, .int .i64 n41, .int .i64 n42, .int .u64 n43, .slice p44 l45 c46].toArray] w34 fun v47 w48 =>
 ∃ n49 : Int, v47 = .int .i64 n49 ∧
 ix n33 a1_n fun j50 => nn a1 fun a51 =>
 ldI .i64 (a51.add (j50 * 7)) w48 fun n52 =>
 ldI .i64 ((a51.add (j50 * 7)).add 1) w48 fun n53 =>
 ldI .i64 ((a51.add (j50 * 7)).add 2) w48 fun n54 =>
 ldI .i64 ((a51.add (j50 * 7)).add 3) w48 fun n55 =>
 ldI .i64 ((a51.add (j50 * 7)).add 4) w48 fun n56 =>
 ldI .u64 ((a51.add (j50 * 7)).add 5) w48 fun n57 =>
 ldL ((a51.add (j50 * 7)).add 6) w48 fun p58 l59 c60 =>
 CV P F.crierlaw04_Model [.pointer p28, .agg [.int .i64 n52, .int .i64 n53, .int .i64 n54, .int .i64 n55, .int .i64 n56, .int .u64 n57, .slice p58 l59 c60].toArray] w48 fun v61 w62 =>
 ∃ n63 : Int, v61 = .int .i64 n63 ∧
 A35 (((IntKind.i64.wrap (n33 + 1)) : Int)) w62)
 (JoinT (fun (J153 : crierlaw16_CmdStores_J254.S → World → Prop) =>
  drw w34 fun w154 =>
  ldI .i64 ⟨b18, 0, none⟩ w154 fun n155 =>
  ldI .i64 ⟨b18, 1, none⟩ w154 fun n156 =>
  ldI .i64 ⟨b20, 0, none⟩ w154 fun n157 =>
  ldI .i64 ⟨b20, 1, none⟩ w154 fun n158 =>
  ldI .i64 ⟨b20, 2, none⟩ w154 fun n159 =>
  ldI .i64 ⟨b20, 3, none⟩ w154 fun n160 =>
  ldI .i64 ⟨b20, 4, none⟩ w154 fun n161 =>
  ldI .i64 ⟨b20, 5, none⟩ w154 fun n162 =>
  ldI .i64 ⟨b20, 6, none⟩ w154 fun n163 =>
  ldI .i64 ⟨b20, 7, none⟩ w154 fun n164 =>
  ldB ⟨b20, 8, none⟩ w154 fun b165 =>
  ldI .i64 ⟨b18, 0, none⟩ w154 fun n166 =>
  ldI .i64 ⟨b18, 1, none⟩ w154 fun n167 =>
  ldI .i64 ⟨b20, 0, none⟩ w154 fun n168 =>
  ldI .i64 ⟨b20, 1, none⟩ w154 fun n169 =>
  ldI .i64 ⟨b20, 2, none⟩ w154 fun n170 =>
  ldI .i64 ⟨b20, 3, none⟩ w154 fun n171 =>
  ldI .i64 ⟨b20, 4, none⟩ w154 fun n172 =>
  ldI .i64 ⟨b20, 5, none⟩ w154 fun n173 =>
  ldI .i64 ⟨b20, 6, none⟩ w154 fun n174 =>
  ldI .i64 ⟨b20, 7, none⟩ w154 fun n175 =>
  ldB ⟨b20, 8, none⟩ w154 fun b176 =>
  CV P F.cmd_Store [.pointer p27, .agg [.int .i64 n155, .int .i64 n156].toArray, .int .i64 a3, .agg [.int .i64 n157, .int .i64 n158, .int .i64 n159, .int .i64 n160, .int .i64 n161, .int .i64 n162, .int .i64 n163, .int .i64 n164, .bool b165].toArray] w154 fun v177 w178 =>
  ∃ n179 : Int, v177 = .int .i64 n179 ∧
  (ldI .i64 ⟨b20, 0, none⟩ w178 fun n180 =>
  ldI .i64 ⟨b20, 1, none⟩ w178 fun n181 =>
  ldI .i64 ⟨b20, 2, none⟩ w178 fun n182 =>
  ldI .i64 ⟨b20, 3, none⟩ w178 fun n183 =>
  ldI .i64 ⟨b20, 4, none⟩ w178 fun n184 =>
  ldI .i64 ⟨b20, 5, none⟩ w178 fun n185 =>
  ldI .i64 ⟨b20, 6, none⟩ w178 fun n186 =>
  ldI .i64 ⟨b20, 7, none⟩ w178 fun n187 =>
  ldB ⟨b20, 8, none⟩ w178 fun b188 =>
  ((.agg [.int .i64 n180, .int .i64 n181, .int .i64 n182, .int .i64 n183, .int .i64 n184, .int .i64 n185, .int .i64 n186, .int .i64 n187, .bool b188].toArray : Value) = .agg [.int .i64 n168, .int .i64 n169, .int .i64 n170, .int .i64 n171, .int .i64 n172, .int .i64 n173, .int .i64 n174, .int .i64 n175, .bool b176].toArray)) ∧
  (ldI .i64 ⟨b18, 0, none⟩ w178 fun n189 =>
  ldI .i64 ⟨b18, 1, none⟩ w178 fun n190 =>
  ((.agg [.int .i64 n189, .int .i64 n190].toArray : Value) = .agg [.int .i64 n166, .int .i64 n167].toArray)) ∧
  CV P F.crierref16_Store [.pointer p28, .agg [.int .i64 n166, .int .i64 n167].toArray, .int .i64 a3, .agg [.int .i64 n168, .int .i64 n169, .int .i64 n170, .int .i64 n171, .int .i64 n172, .int .i64 n173, .int .i64 n174, .int .i64 n175, .bool b176].toArray] w178 fun v191 w192 =>
  ∃ n193 : Int, v191 = .int .i64 n193 ∧
  cnd (n179 != n193)
  (J153 ((true : Bool)) w192)
  (CV P F.crierlaw04_Same [.pointer p27, .pointer p28] w192 fun v194 w195 =>
  ∃ b196 : Bool, v194 = .bool b196 ∧
  J153 (((!b196) : Bool)) w195))
  fun (s197 : crierlaw16_CmdStores_J254.S) w198 => crierlaw16_CmdStores_j2 a3 a5 Q b18 p27 p28 s197 w198)

def crierlaw16_CmdStores_j4 (a1 : Option Addr) (a1_n : Nat) (a3 : Int) (a5 : Int) (Q : Value → World → Prop) (b18 : Nat) (b20 : Nat) (p27 : Option Addr) (p28 : Option Addr) (b30 : Bool) (w31 : World) : Prop :=
 cnd b30
 (Q (.bool false) w31)
 (LoopT (fun (s199 : crierlaw16_CmdStores_L506.S) w200 A201 => crierlaw16_CmdStores_l3 a1 a1_n a3 a5 Q b18 b20 p27 p28 s199 w200 A201) ((0 : Int)) w31)

def crierlaw16_CmdStores (a0 : Int) (a1 : Option Addr) (a1_n : Nat) (a1_c : Nat) (a2_0 : Int) (a2_1 : Int) (a3 : Int) (a4_0 : Int) (a4_1 : Int) (a4_2 : Int) (a4_3 : Int) (a4_4 : Int) (a4_5 : Int) (a4_6 : Int) (a4_7 : Int) (a4_8 : Bool) (a5 : Int) (w : World) (Q : Value → World → Prop) : Prop :=
 alc [.int .i64 a2_0, .int .i64 a2_1] T.t46 w fun b18 w19 =>
 alc [.int .i64 a4_0, .int .i64 a4_1, .int .i64 a4_2, .int .i64 a4_3, .int .i64 a4_4, .int .i64 a4_5, .int .i64 a4_6, .int .i64 a4_7, .bool a4_8] T.t24 w19 fun b20 w21 =>
 CV P F.crierlaw16_awake [] w21 fun v22 w23 =>
 ∃ b24 : Bool, v22 = .bool b24 ∧
 cnd (!b24)
 (Q (.bool false) w23)
 (CV P F.crierlaw04_New [.int .i64 a0] w23 fun v25 w26 =>
 ∃ p27 : Option Addr, ∃ p28 : Option Addr, v25 = .tuple [.pointer p27, .pointer p28].toArray ∧
 JoinT (fun (J202 : crierlaw16_CmdStores_J62.S → World → Prop) =>
  cnd (!b24)
  (J202 ((true : Bool)) w26)
  (J202 (((Option.isNone p27) : Bool)) w26))
  fun (s203 : crierlaw16_CmdStores_J62.S) w204 => crierlaw16_CmdStores_j4 a1 a1_n a3 a5 Q b18 b20 p27 p28 s203 w204)
def crierlaw16_CmdStores_ann : Nat → Option LoopSpec := fun
  | 62 => some crierlaw16_CmdStores_J62
  | 506 => some crierlaw16_CmdStores_L506
  | 254 => some crierlaw16_CmdStores_J254
  | 2042 => some crierlaw16_CmdStores_L2042
  | 522855 => some crierlaw16_CmdStores_J522855
  | 508 => some (ordSpec [0, 1, 2, 3, 5, 6, 7, 8, 4, 9, 10, 11, 12, 13, 14, 15, 16])
  | _ => none
theorem crierlaw16_CmdStores_eq (a0 : Int) (a1 : Option Addr) (a1_n : Nat) (a1_c : Nat) (a2_0 : Int) (a2_1 : Int) (a3 : Int) (a4_0 : Int) (a4_1 : Int) (a4_2 : Int) (a4_3 : Int) (a4_4 : Int) (a4_5 : Int) (a4_6 : Int) (a4_7 : Int) (a4_8 : Bool) (a5 : Int) (w : World) (Q : Value → World → Prop) : fnX P crierlaw16_CmdStores_ann Tryd.f7 [.int .i64 a0, .slice a1 a1_n a1_c, .agg [.int .i64 a2_0, .int .i64 a2_1].toArray, .int .i64 a3, .agg [.int .i64 a4_0, .int .i64 a4_1, .int .i64 a4_2, .int .i64 a4_3, .int .i64 a4_4, .int .i64 a4_5, .int .i64 a4_6, .int .i64 a4_7, .bool a4_8].toArray, .int .i64 a5] w Q = crierlaw16_CmdStores a0 a1 a1_n a1_c a2_0 a2_1 a3 a4_0 a4_1 a4_2 a4_3 a4_4 a4_5 a4_6 a4_7 a4_8 a5 w Q := by kernel_rfl
theorem crierlaw16_CmdStores_cv {a0 : Int} {a1 : Option Addr} {a1_n : Nat} {a1_c : Nat} {a2_0 : Int} {a2_1 : Int} {a3 : Int} {a4_0 : Int} {a4_1 : Int} {a4_2 : Int} {a4_3 : Int} {a4_4 : Int} {a4_5 : Int} {a4_6 : Int} {a4_7 : Int} {a4_8 : Bool} {a5 : Int} {w : World} {Q : Value → World → Prop} (h : crierlaw16_CmdStores a0 a1 a1_n a1_c a2_0 a2_1 a3 a4_0 a4_1 a4_2 a4_3 a4_4 a4_5 a4_6 a4_7 a4_8 a5 w Q) : CV P F.crierlaw16_CmdStores [.int .i64 a0, .slice a1 a1_n a1_c, .agg [.int .i64 a2_0, .int .i64 a2_1].toArray, .int .i64 a3, .agg [.int .i64 a4_0, .int .i64 a4_1, .int .i64 a4_2, .int .i64 a4_3, .int .i64 a4_4, .int .i64 a4_5, .int .i64 a4_6, .int .i64 a4_7, .bool a4_8].toArray, .int .i64 a5] w Q := CV_of mixed Tryd.func7 (crierlaw16_CmdStores_eq a0 a1 a1_n a1_c a2_0 a2_1 a3 a4_0 a4_1 a4_2 a4_3 a4_4 a4_5 a4_6 a4_7 a4_8 a5 w Q ▸ h)

/- 8 crier/crierlaw16.CmdPrints -/
def crierlaw16_CmdPrints_J126 : LoopSpec where
  S := Bool
  emb := fun s => [(35, .bool s)]
  ext := fun t => match getL t 35 with
    | some (.bool y42) => some (y42)
    | _ => none
  slots := [35]
  fits := fun _ => rfl
  ok := by
    intro t s h x hx
    (try dsimp only at h hx)
    split at h
    · cases h
      simp only [List.mem_cons, List.not_mem_nil, or_false] at hx
      rcases hx with rfl <;> assumption
    · cases h

def crierlaw16_CmdPrints_J511 : LoopSpec where
  S := Bool
  emb := fun s => [(4, .bool s)]
  ext := fun t => match getL t 4 with
    | some (.bool y81) => some (y81)
    | _ => none
  slots := [4]
  fits := fun _ => rfl
  ok := by
    intro t s h x hx
    (try dsimp only at h hx)
    split at h
    · cases h
      simp only [List.mem_cons, List.not_mem_nil, or_false] at hx
      rcases hx with rfl <;> assumption
    · cases h

def crierlaw16_CmdPrints_j0 (Q : Value → World → Prop) (b82 : Bool) (w83 : World) : Prop :=
 Q (.bool b82) w83

def crierlaw16_CmdPrints_j1 (a1 : ByteArray) (Q : Value → World → Prop) (b15 : Bool) (b43 : Bool) (w44 : World) : Prop :=
 cnd b43
 (Q (.bool false) w44)
 (CV P F.cmd_Parse [.string a1] w44 fun v45 w46 =>
 ∃ n47 : Int, ∃ n48 : Int, ∃ n49 : Int, ∃ n50 : Int, ∃ n51 : Int, ∃ n52 : Int, ∃ n53 : Int, ∃ n54 : Int, ∃ b55 : Bool, ∃ n56 : Int, v45 = .tuple [.agg [.int .i64 n47, .int .i64 n48, .int .i64 n49, .int .i64 n50, .int .i64 n51, .int .i64 n52, .int .i64 n53, .int .i64 n54, .bool b55].toArray, .int .i64 n56].toArray ∧
 alc [.int .i64 0, .int .i64 0, .int .i64 0, .int .i64 0, .int .i64 0, .int .i64 0, .int .i64 0, .int .i64 0, .bool false] T.t24 w46 fun b57 w58 =>
 st1 (.int .i64 n47) ⟨b57, 0, none⟩ w58 fun w59 =>
 st1 (.int .i64 n48) ⟨b57, 1, none⟩ w59 fun w60 =>
 st1 (.int .i64 n49) ⟨b57, 2, none⟩ w60 fun w61 =>
 st1 (.int .i64 n50) ⟨b57, 3, none⟩ w61 fun w62 =>
 st1 (.int .i64 n51) ⟨b57, 4, none⟩ w62 fun w63 =>
 st1 (.int .i64 n52) ⟨b57, 5, none⟩ w63 fun w64 =>
 st1 (.int .i64 n53) ⟨b57, 6, none⟩ w64 fun w65 =>
 st1 (.int .i64 n54) ⟨b57, 7, none⟩ w65 fun w66 =>
 st1 (.bool b55) ⟨b57, 8, none⟩ w66 fun w67 =>
 ldI .i64 ⟨b57, 0, none⟩ w67 fun n68 =>
 ldI .i64 ⟨b57, 1, none⟩ w67 fun n69 =>
 ldI .i64 ⟨b57, 2, none⟩ w67 fun n70 =>
 ldI .i64 ⟨b57, 3, none⟩ w67 fun n71 =>
 ldI .i64 ⟨b57, 4, none⟩ w67 fun n72 =>
 ldI .i64 ⟨b57, 5, none⟩ w67 fun n73 =>
 ldI .i64 ⟨b57, 6, none⟩ w67 fun n74 =>
 ldI .i64 ⟨b57, 7, none⟩ w67 fun n75 =>
 ldB ⟨b57, 8, none⟩ w67 fun b76 =>
 CV P F.crierref16_Print [.agg [.int .i64 n68, .int .i64 n69, .int .i64 n70, .int .i64 n71, .int .i64 n72, .int .i64 n73, .int .i64 n74, .int .i64 n75, .bool b76].toArray] w67 fun v77 w78 =>
 ∃ s79 : ByteArray, ∃ b80 : Bool, v77 = .tuple [.string s79, .bool b80].toArray ∧
 JoinT (fun (J84 : crierlaw16_CmdPrints_J511.S → World → Prop) =>
  cnd b15
  (cnd (n56 == 0)
  (cnd b80
  (cnd ((s79 : ByteArray).toList == (a1 : ByteArray).toList)
  (J84 ((true : Bool)) w78)
  (cnd (n56 == 160)
  (ldI .i64 ⟨b57, 0, none⟩ w78 fun n85 =>
  ldI .i64 ⟨b57, 1, none⟩ w78 fun n86 =>
  ldI .i64 ⟨b57, 2, none⟩ w78 fun n87 =>
  ldI .i64 ⟨b57, 3, none⟩ w78 fun n88 =>
  ldI .i64 ⟨b57, 4, none⟩ w78 fun n89 =>
  ldI .i64 ⟨b57, 5, none⟩ w78 fun n90 =>
  ldI .i64 ⟨b57, 6, none⟩ w78 fun n91 =>
  ldI .i64 ⟨b57, 7, none⟩ w78 fun n92 =>
  ldB ⟨b57, 8, none⟩ w78 fun b93 =>
  eqA P .eql T.t24 (.agg [.int .i64 n85, .int .i64 n86, .int .i64 n87, .int .i64 n88, .int .i64 n89, .int .i64 n90, .int .i64 n91, .int .i64 n92, .bool b93].toArray) (.agg [.int .i64 0, .int .i64 0, .int .i64 0, .int .i64 0, .int .i64 0, .int .i64 0, .int .i64 0, .int .i64 0, .bool false].toArray) w78 fun b94 =>
  J84 ((b94 : Bool)) w78)
  (J84 ((false : Bool)) w78)))
  (cnd (n56 == 160)
  (ldI .i64 ⟨b57, 0, none⟩ w78 fun n95 =>
  ldI .i64 ⟨b57, 1, none⟩ w78 fun n96 =>
  ldI .i64 ⟨b57, 2, none⟩ w78 fun n97 =>
  ldI .i64 ⟨b57, 3, none⟩ w78 fun n98 =>
  ldI .i64 ⟨b57, 4, none⟩ w78 fun n99 =>
  ldI .i64 ⟨b57, 5, none⟩ w78 fun n100 =>
  ldI .i64 ⟨b57, 6, none⟩ w78 fun n101 =>
  ldI .i64 ⟨b57, 7, none⟩ w78 fun n102 =>
  ldB ⟨b57, 8, none⟩ w78 fun b103 =>
  eqA P .eql T.t24 (.agg [.int .i64 n95, .int .i64 n96, .int .i64 n97, .int .i64 n98, .int .i64 n99, .int .i64 n100, .int .i64 n101, .int .i64 n102, .bool b103].toArray) (.agg [.int .i64 0, .int .i64 0, .int .i64 0, .int .i64 0, .int .i64 0, .int .i64 0, .int .i64 0, .int .i64 0, .bool false].toArray) w78 fun b104 =>
  J84 ((b104 : Bool)) w78)
  (J84 ((false : Bool)) w78)))
  (cnd (n56 == 160)
  (ldI .i64 ⟨b57, 0, none⟩ w78 fun n105 =>
  ldI .i64 ⟨b57, 1, none⟩ w78 fun n106 =>
  ldI .i64 ⟨b57, 2, none⟩ w78 fun n107 =>
  ldI .i64 ⟨b57, 3, none⟩ w78 fun n108 =>
  ldI .i64 ⟨b57, 4, none⟩ w78 fun n109 =>
  ldI .i64 ⟨b57, 5, none⟩ w78 fun n110 =>
  ldI .i64 ⟨b57, 6, none⟩ w78 fun n111 =>
  ldI .i64 ⟨b57, 7, none⟩ w78 fun n112 =>
  ldB ⟨b57, 8, none⟩ w78 fun b113 =>
  eqA P .eql T.t24 (.agg [.int .i64 n105, .int .i64 n106, .int .i64 n107, .int .i64 n108, .int .i64 n109, .int .i64 n110, .int .i64 n111, .int .i64 n112, .bool b113].toArray) (.agg [.int .i64 0, .int .i64 0, .int .i64 0, .int .i64 0, .int .i64 0, .int .i64 0, .int .i64 0, .int .i64 0, .bool false].toArray) w78 fun b114 =>
  J84 ((b114 : Bool)) w78)
  (J84 ((false : Bool)) w78)))
  (J84 ((false : Bool)) w78))
  fun (s115 : crierlaw16_CmdPrints_J511.S) w116 => crierlaw16_CmdPrints_j0 Q s115 w116)

def crierlaw16_CmdPrints (a0_0 : Int) (a0_1 : Int) (a0_2 : Int) (a0_3 : Int) (a0_4 : Int) (a0_5 : Int) (a0_6 : Int) (a0_7 : Int) (a0_8 : Bool) (a1 : ByteArray) (w : World) (Q : Value → World → Prop) : Prop :=
 alc [.int .i64 a0_0, .int .i64 a0_1, .int .i64 a0_2, .int .i64 a0_3, .int .i64 a0_4, .int .i64 a0_5, .int .i64 a0_6, .int .i64 a0_7, .bool a0_8] T.t24 w fun b11 w12 =>
 CV P F.crierlaw16_awake [] w12 fun v13 w14 =>
 ∃ b15 : Bool, v13 = .bool b15 ∧
 cnd (!b15)
 (Q (.bool false) w14)
 (ldI .i64 ⟨b11, 0, none⟩ w14 fun n16 =>
 ldI .i64 ⟨b11, 1, none⟩ w14 fun n17 =>
 ldI .i64 ⟨b11, 2, none⟩ w14 fun n18 =>
 ldI .i64 ⟨b11, 3, none⟩ w14 fun n19 =>
 ldI .i64 ⟨b11, 4, none⟩ w14 fun n20 =>
 ldI .i64 ⟨b11, 5, none⟩ w14 fun n21 =>
 ldI .i64 ⟨b11, 6, none⟩ w14 fun n22 =>
 ldI .i64 ⟨b11, 7, none⟩ w14 fun n23 =>
 ldB ⟨b11, 8, none⟩ w14 fun b24 =>
 CV P F.cmd_Print [.agg [.int .i64 n16, .int .i64 n17, .int .i64 n18, .int .i64 n19, .int .i64 n20, .int .i64 n21, .int .i64 n22, .int .i64 n23, .bool b24].toArray] w14 fun v25 w26 =>
 ∃ s27 : ByteArray, ∃ n28 : Int, v25 = .tuple [.string s27, .int .i64 n28].toArray ∧
 ldI .i64 ⟨b11, 0, none⟩ w26 fun n29 =>
 ldI .i64 ⟨b11, 1, none⟩ w26 fun n30 =>
 ldI .i64 ⟨b11, 2, none⟩ w26 fun n31 =>
 ldI .i64 ⟨b11, 3, none⟩ w26 fun n32 =>
 ldI .i64 ⟨b11, 4, none⟩ w26 fun n33 =>
 ldI .i64 ⟨b11, 5, none⟩ w26 fun n34 =>
 ldI .i64 ⟨b11, 6, none⟩ w26 fun n35 =>
 ldI .i64 ⟨b11, 7, none⟩ w26 fun n36 =>
 ldB ⟨b11, 8, none⟩ w26 fun b37 =>
 CV P F.crierref16_Print [.agg [.int .i64 n29, .int .i64 n30, .int .i64 n31, .int .i64 n32, .int .i64 n33, .int .i64 n34, .int .i64 n35, .int .i64 n36, .bool b37].toArray] w26 fun v38 w39 =>
 ∃ s40 : ByteArray, ∃ b41 : Bool, v38 = .tuple [.string s40, .bool b41].toArray ∧
 JoinT (fun (J117 : crierlaw16_CmdPrints_J126.S → World → Prop) =>
  cnd (!((s27 : ByteArray).toList == (s40 : ByteArray).toList))
  (J117 ((true : Bool)) w39)
  (CV P F.crierlaw16_told [.int .i64 n28, .bool b41] w39 fun v118 w119 =>
  ∃ b120 : Bool, v118 = .bool b120 ∧
  J117 (((!b120) : Bool)) w119))
  fun (s121 : crierlaw16_CmdPrints_J126.S) w122 => crierlaw16_CmdPrints_j1 a1 Q b15 s121 w122)
def crierlaw16_CmdPrints_ann : Nat → Option LoopSpec := fun
  | 126 => some crierlaw16_CmdPrints_J126
  | 511 => some crierlaw16_CmdPrints_J511
  | _ => none
theorem crierlaw16_CmdPrints_eq (a0_0 : Int) (a0_1 : Int) (a0_2 : Int) (a0_3 : Int) (a0_4 : Int) (a0_5 : Int) (a0_6 : Int) (a0_7 : Int) (a0_8 : Bool) (a1 : ByteArray) (w : World) (Q : Value → World → Prop) : fnX P crierlaw16_CmdPrints_ann Tryd.f8 [.agg [.int .i64 a0_0, .int .i64 a0_1, .int .i64 a0_2, .int .i64 a0_3, .int .i64 a0_4, .int .i64 a0_5, .int .i64 a0_6, .int .i64 a0_7, .bool a0_8].toArray, .string a1] w Q = crierlaw16_CmdPrints a0_0 a0_1 a0_2 a0_3 a0_4 a0_5 a0_6 a0_7 a0_8 a1 w Q := by kernel_rfl
theorem crierlaw16_CmdPrints_cv {a0_0 : Int} {a0_1 : Int} {a0_2 : Int} {a0_3 : Int} {a0_4 : Int} {a0_5 : Int} {a0_6 : Int} {a0_7 : Int} {a0_8 : Bool} {a1 : ByteArray} {w : World} {Q : Value → World → Prop} (h : crierlaw16_CmdPrints a0_0 a0_1 a0_2 a0_3 a0_4 a0_5 a0_6 a0_7 a0_8 a1 w Q) : CV P F.crierlaw16_CmdPrints [.agg [.int .i64 a0_0, .int .i64 a0_1, .int .i64 a0_2, .int .i64 a0_3, .int .i64 a0_4, .int .i64 a0_5, .int .i64 a0_6, .int .i64 a0_7, .bool a0_8].toArray, .string a1] w Q := CV_of mixed Tryd.func8 (crierlaw16_CmdPrints_eq a0_0 a0_1 a0_2 a0_3 a0_4 a0_5 a0_6 a0_7 a0_8 a1 w Q ▸ h)

/- 9 crier/crierlaw16.CmdBack -/
def crierlaw16_CmdBack_J31 : LoopSpec where
  S := Unit
  emb := fun _ => []
  ext := fun _ => some ()
  slots := []
  fits := fun _ => rfl
  ok := by
    intro t s h x hx; cases hx

def crierlaw16_CmdBack_J1018 : LoopSpec where
  S := Bool
  emb := fun s => [(6, .bool s)]
  ext := fun t => match getL t 6 with
    | some (.bool y72) => some (y72)
    | _ => none
  slots := [6]
  fits := fun _ => rfl
  ok := by
    intro t s h x hx
    (try dsimp only at h hx)
    split at h
    · cases h
      simp only [List.mem_cons, List.not_mem_nil, or_false] at hx
      rcases hx with rfl <;> assumption
    · cases h

def crierlaw16_CmdBack_j0 (Q : Value → World → Prop) (b73 : Bool) (w74 : World) : Prop :=
 Q (.bool b73) w74

def crierlaw16_CmdBack_J65535 : LoopSpec where
  S := Bool
  emb := fun s => [(6, .bool s)]
  ext := fun t => match getL t 6 with
    | some (.bool y193) => some (y193)
    | _ => none
  slots := [6]
  fits := fun _ => rfl
  ok := by
    intro t s h x hx
    (try dsimp only at h hx)
    split at h
    · cases h
      simp only [List.mem_cons, List.not_mem_nil, or_false] at hx
      rcases hx with rfl <;> assumption
    · cases h

def crierlaw16_CmdBack_j1 (Q : Value → World → Prop) (b194 : Bool) (w195 : World) : Prop :=
 Q (.bool b194) w195

def crierlaw16_CmdBack_j2 (a2 : Int) (Q : Value → World → Prop) (b15 : Nat) (b21 : Bool) (w49 : World) : Prop :=
 ldI .i64 ⟨b15, 0, none⟩ w49 fun n50 =>
 ldI .i64 ⟨b15, 1, none⟩ w49 fun n51 =>
 ldI .i64 ⟨b15, 2, none⟩ w49 fun n52 =>
 ldI .i64 ⟨b15, 3, none⟩ w49 fun n53 =>
 ldI .i64 ⟨b15, 4, none⟩ w49 fun n54 =>
 ldI .i64 ⟨b15, 5, none⟩ w49 fun n55 =>
 ldI .i64 ⟨b15, 6, none⟩ w49 fun n56 =>
 ldI .i64 ⟨b15, 7, none⟩ w49 fun n57 =>
 ldB ⟨b15, 8, none⟩ w49 fun b58 =>
 CV P F.cmd_Encode [.agg [.int .i64 n50, .int .i64 n51, .int .i64 n52, .int .i64 n53, .int .i64 n54, .int .i64 n55, .int .i64 n56, .int .i64 n57, .bool b58].toArray] w49 fun v59 w60 =>
 ∃ n61 : Int, ∃ n62 : Int, ∃ n63 : Int, ∃ n64 : Int, ∃ n65 : Int, v59 = .tuple [.agg [.int .u64 n61, .int .u64 n62, .int .u64 n63, .int .u64 n64].toArray, .int .i64 n65].toArray ∧
 alc [.int .u64 0, .int .u64 0, .int .u64 0, .int .u64 0] T.t26 w60 fun b66 w67 =>
 st1 (.int .u64 n61) ⟨b66, 0, none⟩ w67 fun w68 =>
 st1 (.int .u64 n62) ⟨b66, 1, none⟩ w68 fun w69 =>
 st1 (.int .u64 n63) ⟨b66, 2, none⟩ w69 fun w70 =>
 st1 (.int .u64 n64) ⟨b66, 3, none⟩ w70 fun w71 =>
 cnd (n65 != 0)
 (JoinT (fun (J75 : crierlaw16_CmdBack_J1018.S → World → Prop) =>
  cnd b21
  (ldI .u64 ⟨b66, 0, none⟩ w71 fun n76 =>
  ldI .u64 ⟨b66, 1, none⟩ w71 fun n77 =>
  ldI .u64 ⟨b66, 2, none⟩ w71 fun n78 =>
  ldI .u64 ⟨b66, 3, none⟩ w71 fun n79 =>
  eqA P .eql T.t26 (.agg [.int .u64 n76, .int .u64 n77, .int .u64 n78, .int .u64 n79].toArray) (.agg [.int .u64 0, .int .u64 0, .int .u64 0, .int .u64 0].toArray) w71 fun b80 =>
  J75 ((b80 : Bool)) w71)
  (J75 ((false : Bool)) w71))
  fun (s81 : crierlaw16_CmdBack_J1018.S) w82 => crierlaw16_CmdBack_j0 Q s81 w82)
 (ldI .u64 ⟨b66, 0, none⟩ w71 fun n83 =>
 ldI .u64 ⟨b66, 1, none⟩ w71 fun n84 =>
 ldI .u64 ⟨b66, 2, none⟩ w71 fun n85 =>
 ldI .u64 ⟨b66, 3, none⟩ w71 fun n86 =>
 CV P F.cmd_Decode [.agg [.int .u64 n83, .int .u64 n84, .int .u64 n85, .int .u64 n86].toArray] w71 fun v87 w88 =>
 ∃ n89 : Int, ∃ n90 : Int, ∃ n91 : Int, ∃ n92 : Int, ∃ n93 : Int, ∃ n94 : Int, ∃ n95 : Int, ∃ n96 : Int, ∃ b97 : Bool, ∃ n98 : Int, v87 = .tuple [.agg [.int .i64 n89, .int .i64 n90, .int .i64 n91, .int .i64 n92, .int .i64 n93, .int .i64 n94, .int .i64 n95, .int .i64 n96, .bool b97].toArray, .int .i64 n98].toArray ∧
 alc [.int .i64 0, .int .i64 0, .int .i64 0, .int .i64 0, .int .i64 0, .int .i64 0, .int .i64 0, .int .i64 0, .bool false] T.t24 w88 fun b99 w100 =>
 st1 (.int .i64 n89) ⟨b99, 0, none⟩ w100 fun w101 =>
 st1 (.int .i64 n90) ⟨b99, 1, none⟩ w101 fun w102 =>
 st1 (.int .i64 n91) ⟨b99, 2, none⟩ w102 fun w103 =>
 st1 (.int .i64 n92) ⟨b99, 3, none⟩ w103 fun w104 =>
 st1 (.int .i64 n93) ⟨b99, 4, none⟩ w104 fun w105 =>
 st1 (.int .i64 n94) ⟨b99, 5, none⟩ w105 fun w106 =>
 st1 (.int .i64 n95) ⟨b99, 6, none⟩ w106 fun w107 =>
 st1 (.int .i64 n96) ⟨b99, 7, none⟩ w107 fun w108 =>
 st1 (.bool b97) ⟨b99, 8, none⟩ w108 fun w109 =>
 ldI .i64 ⟨b15, 0, none⟩ w109 fun n110 =>
 ldI .i64 ⟨b15, 1, none⟩ w109 fun n111 =>
 ldI .i64 ⟨b15, 2, none⟩ w109 fun n112 =>
 ldI .i64 ⟨b15, 3, none⟩ w109 fun n113 =>
 ldI .i64 ⟨b15, 4, none⟩ w109 fun n114 =>
 ldI .i64 ⟨b15, 5, none⟩ w109 fun n115 =>
 ldI .i64 ⟨b15, 6, none⟩ w109 fun n116 =>
 ldI .i64 ⟨b15, 7, none⟩ w109 fun n117 =>
 ldB ⟨b15, 8, none⟩ w109 fun b118 =>
 CV P F.cmd_Print [.agg [.int .i64 n110, .int .i64 n111, .int .i64 n112, .int .i64 n113, .int .i64 n114, .int .i64 n115, .int .i64 n116, .int .i64 n117, .bool b118].toArray] w109 fun v119 w120 =>
 ∃ s121 : ByteArray, ∃ n122 : Int, v119 = .tuple [.string s121, .int .i64 n122].toArray ∧
 CV P F.cmd_Parse [.string s121] w120 fun v123 w124 =>
 ∃ n125 : Int, ∃ n126 : Int, ∃ n127 : Int, ∃ n128 : Int, ∃ n129 : Int, ∃ n130 : Int, ∃ n131 : Int, ∃ n132 : Int, ∃ b133 : Bool, ∃ n134 : Int, v123 = .tuple [.agg [.int .i64 n125, .int .i64 n126, .int .i64 n127, .int .i64 n128, .int .i64 n129, .int .i64 n130, .int .i64 n131, .int .i64 n132, .bool b133].toArray, .int .i64 n134].toArray ∧
 alc [.int .i64 0, .int .i64 0, .int .i64 0, .int .i64 0, .int .i64 0, .int .i64 0, .int .i64 0, .int .i64 0, .bool false] T.t24 w124 fun b135 w136 =>
 st1 (.int .i64 n125) ⟨b135, 0, none⟩ w136 fun w137 =>
 st1 (.int .i64 n126) ⟨b135, 1, none⟩ w137 fun w138 =>
 st1 (.int .i64 n127) ⟨b135, 2, none⟩ w138 fun w139 =>
 st1 (.int .i64 n128) ⟨b135, 3, none⟩ w139 fun w140 =>
 st1 (.int .i64 n129) ⟨b135, 4, none⟩ w140 fun w141 =>
 st1 (.int .i64 n130) ⟨b135, 5, none⟩ w141 fun w142 =>
 st1 (.int .i64 n131) ⟨b135, 6, none⟩ w142 fun w143 =>
 st1 (.int .i64 n132) ⟨b135, 7, none⟩ w143 fun w144 =>
 st1 (.bool b133) ⟨b135, 8, none⟩ w144 fun w145 =>
 CV P F.crierlaw04_New [.int .i64 400] w145 fun v146 w147 =>
 ∃ p148 : Option Addr, ∃ p149 : Option Addr, v146 = .tuple [.pointer p148, .pointer p149].toArray ∧
 alc [.int .i64 0, .int .i64 0] T.t46 w147 fun b150 w151 =>
 st1 (.int .i64 3) ⟨b150, 0, none⟩ w151 fun w152 =>
 st1 (.int .i64 300) ⟨b150, 1, none⟩ w152 fun w153 =>
 cnd (Option.isNone p148)
 (Q (.bool false) w153)
 (ldI .i64 ⟨b150, 0, none⟩ w153 fun n154 =>
 ldI .i64 ⟨b150, 1, none⟩ w153 fun n155 =>
 (nz 8 <|
 ldI .i64 ⟨b15, 0, none⟩ w153 fun n156 =>
 ldI .i64 ⟨b15, 1, none⟩ w153 fun n157 =>
 ldI .i64 ⟨b15, 2, none⟩ w153 fun n158 =>
 ldI .i64 ⟨b15, 3, none⟩ w153 fun n159 =>
 ldI .i64 ⟨b15, 4, none⟩ w153 fun n160 =>
 ldI .i64 ⟨b15, 5, none⟩ w153 fun n161 =>
 ldI .i64 ⟨b15, 6, none⟩ w153 fun n162 =>
 ldI .i64 ⟨b15, 7, none⟩ w153 fun n163 =>
 ldB ⟨b15, 8, none⟩ w153 fun b164 =>
 CV P F.cmd_Store [.pointer p148, .agg [.int .i64 n154, .int .i64 n155].toArray, .int .i64 (IntKind.i64.wrap ((IntKind.i64.wrap (Int.tdiv (IntKind.i64.wrap (a2)) 8)) * 8)), .agg [.int .i64 n156, .int .i64 n157, .int .i64 n158, .int .i64 n159, .int .i64 n160, .int .i64 n161, .int .i64 n162, .int .i64 n163, .bool b164].toArray] w153 fun v165 w166 =>
 ∃ n167 : Int, v165 = .int .i64 n167 ∧
 ldI .i64 ⟨b150, 0, none⟩ w166 fun n168 =>
 ldI .i64 ⟨b150, 1, none⟩ w166 fun n169 =>
 (nz 8 <|
 CV P F.cmd_Load [.pointer p148, .agg [.int .i64 n168, .int .i64 n169].toArray, .int .i64 (IntKind.i64.wrap ((IntKind.i64.wrap (Int.tdiv (IntKind.i64.wrap (a2)) 8)) * 8))] w166 fun v170 w171 =>
 ∃ n172 : Int, ∃ n173 : Int, ∃ n174 : Int, ∃ n175 : Int, ∃ n176 : Int, ∃ n177 : Int, ∃ n178 : Int, ∃ n179 : Int, ∃ b180 : Bool, ∃ n181 : Int, v170 = .tuple [.agg [.int .i64 n172, .int .i64 n173, .int .i64 n174, .int .i64 n175, .int .i64 n176, .int .i64 n177, .int .i64 n178, .int .i64 n179, .bool b180].toArray, .int .i64 n181].toArray ∧
 alc [.int .i64 0, .int .i64 0, .int .i64 0, .int .i64 0, .int .i64 0, .int .i64 0, .int .i64 0, .int .i64 0, .bool false] T.t24 w171 fun b182 w183 =>
 st1 (.int .i64 n172) ⟨b182, 0, none⟩ w183 fun w184 =>
 st1 (.int .i64 n173) ⟨b182, 1, none⟩ w184 fun w185 =>
 st1 (.int .i64 n174) ⟨b182, 2, none⟩ w185 fun w186 =>
 st1 (.int .i64 n175) ⟨b182, 3, none⟩ w186 fun w187 =>
 st1 (.int .i64 n176) ⟨b182, 4, none⟩ w187 fun w188 =>
 st1 (.int .i64 n177) ⟨b182, 5, none⟩ w188 fun w189 =>
 st1 (.int .i64 n178) ⟨b182, 6, none⟩ w189 fun w190 =>
 st1 (.int .i64 n179) ⟨b182, 7, none⟩ w190 fun w191 =>
 st1 (.bool b180) ⟨b182, 8, none⟩ w191 fun w192 =>
 JoinT (fun (J196 : crierlaw16_CmdBack_J65535.S → World → Prop) =>
  cnd b21
  (ldI .i64 ⟨b99, 0, none⟩ w192 fun n197 =>
  ldI .i64 ⟨b99, 1, none⟩ w192 fun n198 =>
  ldI .i64 ⟨b99, 2, none⟩ w192 fun n199 =>
  ldI .i64 ⟨b99, 3, none⟩ w192 fun n200 =>
  ldI .i64 ⟨b99, 4, none⟩ w192 fun n201 =>
  ldI .i64 ⟨b99, 5, none⟩ w192 fun n202 =>
  ldI .i64 ⟨b99, 6, none⟩ w192 fun n203 =>
  ldI .i64 ⟨b99, 7, none⟩ w192 fun n204 =>
  ldB ⟨b99, 8, none⟩ w192 fun b205 =>
  ldI .i64 ⟨b15, 0, none⟩ w192 fun n206 =>
  ldI .i64 ⟨b15, 1, none⟩ w192 fun n207 =>
  ldI .i64 ⟨b15, 2, none⟩ w192 fun n208 =>
  ldI .i64 ⟨b15, 3, none⟩ w192 fun n209 =>
  ldI .i64 ⟨b15, 4, none⟩ w192 fun n210 =>
  ldI .i64 ⟨b15, 5, none⟩ w192 fun n211 =>
  ldI .i64 ⟨b15, 6, none⟩ w192 fun n212 =>
  ldI .i64 ⟨b15, 7, none⟩ w192 fun n213 =>
  ldB ⟨b15, 8, none⟩ w192 fun b214 =>
  eqA P .eql T.t24 (.agg [.int .i64 n197, .int .i64 n198, .int .i64 n199, .int .i64 n200, .int .i64 n201, .int .i64 n202, .int .i64 n203, .int .i64 n204, .bool b205].toArray) (.agg [.int .i64 n206, .int .i64 n207, .int .i64 n208, .int .i64 n209, .int .i64 n210, .int .i64 n211, .int .i64 n212, .int .i64 n213, .bool b214].toArray) w192 fun b215 =>
  cnd b215
  (cnd (n98 == 0)
  (cnd (n122 == 0)
  (ldI .i64 ⟨b135, 0, none⟩ w192 fun n216 =>
  ldI .i64 ⟨b135, 1, none⟩ w192 fun n217 =>
  ldI .i64 ⟨b135, 2, none⟩ w192 fun n218 =>
  ldI .i64 ⟨b135, 3, none⟩ w192 fun n219 =>
  ldI .i64 ⟨b135, 4, none⟩ w192 fun n220 =>
  ldI .i64 ⟨b135, 5, none⟩ w192 fun n221 =>
  ldI .i64 ⟨b135, 6, none⟩ w192 fun n222 =>
  ldI .i64 ⟨b135, 7, none⟩ w192 fun n223 =>
  ldB ⟨b135, 8, none⟩ w192 fun b224 =>
  ldI .i64 ⟨b15, 0, none⟩ w192 fun n225 =>
  ldI .i64 ⟨b15, 1, none⟩ w192 fun n226 =>
  ldI .i64 ⟨b15, 2, none⟩ w192 fun n227 =>
  ldI .i64 ⟨b15, 3, none⟩ w192 fun n228 =>
  ldI .i64 ⟨b15, 4, none⟩ w192 fun n229 =>
  ldI .i64 ⟨b15, 5, none⟩ w192 fun n230 =>
  ldI .i64 ⟨b15, 6, none⟩ w192 fun n231 =>
  ldI .i64 ⟨b15, 7, none⟩ w192 fun n232 =>
  ldB ⟨b15, 8, none⟩ w192 fun b233 =>
  eqA P .eql T.t24 (.agg [.int .i64 n216, .int .i64 n217, .int .i64 n218, .int .i64 n219, .int .i64 n220, .int .i64 n221, .int .i64 n222, .int .i64 n223, .bool b224].toArray) (.agg [.int .i64 n225, .int .i64 n226, .int .i64 n227, .int .i64 n228, .int .i64 n229, .int .i64 n230, .int .i64 n231, .int .i64 n232, .bool b233].toArray) w192 fun b234 =>
  cnd b234
  (cnd (n134 == 0)
  (cnd (n167 == 0)
  (ldI .i64 ⟨b182, 0, none⟩ w192 fun n235 =>
  ldI .i64 ⟨b182, 1, none⟩ w192 fun n236 =>
  ldI .i64 ⟨b182, 2, none⟩ w192 fun n237 =>
  ldI .i64 ⟨b182, 3, none⟩ w192 fun n238 =>
  ldI .i64 ⟨b182, 4, none⟩ w192 fun n239 =>
  ldI .i64 ⟨b182, 5, none⟩ w192 fun n240 =>
  ldI .i64 ⟨b182, 6, none⟩ w192 fun n241 =>
  ldI .i64 ⟨b182, 7, none⟩ w192 fun n242 =>
  ldB ⟨b182, 8, none⟩ w192 fun b243 =>
  ldI .i64 ⟨b15, 0, none⟩ w192 fun n244 =>
  ldI .i64 ⟨b15, 1, none⟩ w192 fun n245 =>
  ldI .i64 ⟨b15, 2, none⟩ w192 fun n246 =>
  ldI .i64 ⟨b15, 3, none⟩ w192 fun n247 =>
  ldI .i64 ⟨b15, 4, none⟩ w192 fun n248 =>
  ldI .i64 ⟨b15, 5, none⟩ w192 fun n249 =>
  ldI .i64 ⟨b15, 6, none⟩ w192 fun n250 =>
  ldI .i64 ⟨b15, 7, none⟩ w192 fun n251 =>
  ldB ⟨b15, 8, none⟩ w192 fun b252 =>
  eqA P .eql T.t24 (.agg [.int .i64 n235, .int .i64 n236, .int .i64 n237, .int .i64 n238, .int .i64 n239, .int .i64 n240, .int .i64 n241, .int .i64 n242, .bool b243].toArray) (.agg [.int .i64 n244, .int .i64 n245, .int .i64 n246, .int .i64 n247, .int .i64 n248, .int .i64 n249, .int .i64 n250, .int .i64 n251, .bool b252].toArray) w192 fun b253 =>
  cnd b253
  (J196 (((n181 == 0) : Bool)) w192)
  (J196 ((false : Bool)) w192))
  (J196 ((false : Bool)) w192))
  (J196 ((false : Bool)) w192))
  (J196 ((false : Bool)) w192))
  (J196 ((false : Bool)) w192))
  (J196 ((false : Bool)) w192))
  (J196 ((false : Bool)) w192))
  (J196 ((false : Bool)) w192))
  fun (s254 : crierlaw16_CmdBack_J65535.S) w255 => crierlaw16_CmdBack_j1 Q s254 w255))))

def crierlaw16_CmdBack_J501 : LoopSpec where
  S := Bool
  emb := fun s => [(53, .bool s)]
  ext := fun t => match getL t 53 with
    | some (.bool y279) => some (y279)
    | _ => none
  slots := [53]
  fits := fun _ => rfl
  ok := by
    intro t s h x hx
    (try dsimp only at h hx)
    split at h
    · cases h
      simp only [List.mem_cons, List.not_mem_nil, or_false] at hx
      rcases hx with rfl <;> assumption
    · cases h

def crierlaw16_CmdBack_j3 (Q : Value → World → Prop) (J256 : crierlaw16_CmdBack_J31.S → World → Prop) (b280 : Bool) (w281 : World) : Prop :=
 cnd b280
 (Q (.bool false) w281)
 (J256 () w281)

def crierlaw16_CmdBack (a0_0 : Int) (a0_1 : Int) (a0_2 : Int) (a0_3 : Int) (a0_4 : Int) (a0_5 : Int) (a0_6 : Int) (a0_7 : Int) (a0_8 : Bool) (a1_0 : Int) (a1_1 : Int) (a1_2 : Int) (a1_3 : Int) (a2 : Int) (w : World) (Q : Value → World → Prop) : Prop :=
 alc [.int .i64 a0_0, .int .i64 a0_1, .int .i64 a0_2, .int .i64 a0_3, .int .i64 a0_4, .int .i64 a0_5, .int .i64 a0_6, .int .i64 a0_7, .bool a0_8] T.t24 w fun b15 w16 =>
 alc [.int .u64 a1_0, .int .u64 a1_1, .int .u64 a1_2, .int .u64 a1_3] T.t26 w16 fun b17 w18 =>
 CV P F.crierlaw16_awake [] w18 fun v19 w20 =>
 ∃ b21 : Bool, v19 = .bool b21 ∧
 cnd (!b21)
 (Q (.bool false) w20)
 (ldI .u64 ⟨b17, 0, none⟩ w20 fun n22 =>
 ldI .u64 ⟨b17, 1, none⟩ w20 fun n23 =>
 ldI .u64 ⟨b17, 2, none⟩ w20 fun n24 =>
 ldI .u64 ⟨b17, 3, none⟩ w20 fun n25 =>
 CV P F.cmd_Decode [.agg [.int .u64 n22, .int .u64 n23, .int .u64 n24, .int .u64 n25].toArray] w20 fun v26 w27 =>
 ∃ n28 : Int, ∃ n29 : Int, ∃ n30 : Int, ∃ n31 : Int, ∃ n32 : Int, ∃ n33 : Int, ∃ n34 : Int, ∃ n35 : Int, ∃ b36 : Bool, ∃ n37 : Int, v26 = .tuple [.agg [.int .i64 n28, .int .i64 n29, .int .i64 n30, .int .i64 n31, .int .i64 n32, .int .i64 n33, .int .i64 n34, .int .i64 n35, .bool b36].toArray, .int .i64 n37].toArray ∧
 alc [.int .i64 0, .int .i64 0, .int .i64 0, .int .i64 0, .int .i64 0, .int .i64 0, .int .i64 0, .int .i64 0, .bool false] T.t24 w27 fun b38 w39 =>
 st1 (.int .i64 n28) ⟨b38, 0, none⟩ w39 fun w40 =>
 st1 (.int .i64 n29) ⟨b38, 1, none⟩ w40 fun w41 =>
 st1 (.int .i64 n30) ⟨b38, 2, none⟩ w41 fun w42 =>
 st1 (.int .i64 n31) ⟨b38, 3, none⟩ w42 fun w43 =>
 st1 (.int .i64 n32) ⟨b38, 4, none⟩ w43 fun w44 =>
 st1 (.int .i64 n33) ⟨b38, 5, none⟩ w44 fun w45 =>
 st1 (.int .i64 n34) ⟨b38, 6, none⟩ w45 fun w46 =>
 st1 (.int .i64 n35) ⟨b38, 7, none⟩ w46 fun w47 =>
 st1 (.bool b36) ⟨b38, 8, none⟩ w47 fun w48 =>
 JoinT (fun (J256 : crierlaw16_CmdBack_J31.S → World → Prop) =>
  cnd (n37 == 0)
  (ldI .i64 ⟨b38, 0, none⟩ w48 fun n257 =>
  ldI .i64 ⟨b38, 1, none⟩ w48 fun n258 =>
  ldI .i64 ⟨b38, 2, none⟩ w48 fun n259 =>
  ldI .i64 ⟨b38, 3, none⟩ w48 fun n260 =>
  ldI .i64 ⟨b38, 4, none⟩ w48 fun n261 =>
  ldI .i64 ⟨b38, 5, none⟩ w48 fun n262 =>
  ldI .i64 ⟨b38, 6, none⟩ w48 fun n263 =>
  ldI .i64 ⟨b38, 7, none⟩ w48 fun n264 =>
  ldB ⟨b38, 8, none⟩ w48 fun b265 =>
  CV P F.cmd_Encode [.agg [.int .i64 n257, .int .i64 n258, .int .i64 n259, .int .i64 n260, .int .i64 n261, .int .i64 n262, .int .i64 n263, .int .i64 n264, .bool b265].toArray] w48 fun v266 w267 =>
  ∃ n268 : Int, ∃ n269 : Int, ∃ n270 : Int, ∃ n271 : Int, ∃ n272 : Int, v266 = .tuple [.agg [.int .u64 n268, .int .u64 n269, .int .u64 n270, .int .u64 n271].toArray, .int .i64 n272].toArray ∧
  alc [.int .u64 0, .int .u64 0, .int .u64 0, .int .u64 0] T.t26 w267 fun b273 w274 =>
  st1 (.int .u64 n268) ⟨b273, 0, none⟩ w274 fun w275 =>
  st1 (.int .u64 n269) ⟨b273, 1, none⟩ w275 fun w276 =>
  st1 (.int .u64 n270) ⟨b273, 2, none⟩ w276 fun w277 =>
  st1 (.int .u64 n271) ⟨b273, 3, none⟩ w277 fun w278 =>
  JoinT (fun (J282 : crierlaw16_CmdBack_J501.S → World → Prop) =>
   cnd (n272 != 0)
   (J282 ((true : Bool)) w278)
   (ldI .u64 ⟨b273, 0, none⟩ w278 fun n283 =>
   ldI .u64 ⟨b273, 1, none⟩ w278 fun n284 =>
   ldI .u64 ⟨b273, 2, none⟩ w278 fun n285 =>
   ldI .u64 ⟨b273, 3, none⟩ w278 fun n286 =>
   ldI .u64 ⟨b17, 0, none⟩ w278 fun n287 =>
   ldI .u64 ⟨b17, 1, none⟩ w278 fun n288 =>
   ldI .u64 ⟨b17, 2, none⟩ w278 fun n289 =>
   ldI .u64 ⟨b17, 3, none⟩ w278 fun n290 =>
   eqA P .neq T.t26 (.agg [.int .u64 n283, .int .u64 n284, .int .u64 n285, .int .u64 n286].toArray) (.agg [.int .u64 n287, .int .u64 n288, .int .u64 n289, .int .u64 n290].toArray) w278 fun b291 =>
   cnd b291
   (J282 ((true : Bool)) w278)
   (ldI .i64 ⟨b38, 0, none⟩ w278 fun n292 =>
   CV P F.cmd_Known [.int .i64 n292] w278 fun v293 w294 =>
   ∃ b295 : Bool, v293 = .bool b295 ∧
   J282 (((!b295) : Bool)) w294)))
   fun (s296 : crierlaw16_CmdBack_J501.S) w297 => crierlaw16_CmdBack_j3 Q J256 s296 w297)
  (J256 () w48))
  fun (s298 : crierlaw16_CmdBack_J31.S) w299 => crierlaw16_CmdBack_j2 a2 Q b15 b21 w299)
def crierlaw16_CmdBack_ann : Nat → Option LoopSpec := fun
  | 31 => some crierlaw16_CmdBack_J31
  | 1018 => some crierlaw16_CmdBack_J1018
  | 65535 => some crierlaw16_CmdBack_J65535
  | 501 => some crierlaw16_CmdBack_J501
  | _ => none
theorem crierlaw16_CmdBack_eq (a0_0 : Int) (a0_1 : Int) (a0_2 : Int) (a0_3 : Int) (a0_4 : Int) (a0_5 : Int) (a0_6 : Int) (a0_7 : Int) (a0_8 : Bool) (a1_0 : Int) (a1_1 : Int) (a1_2 : Int) (a1_3 : Int) (a2 : Int) (w : World) (Q : Value → World → Prop) : fnX P crierlaw16_CmdBack_ann Tryd.f9 [.agg [.int .i64 a0_0, .int .i64 a0_1, .int .i64 a0_2, .int .i64 a0_3, .int .i64 a0_4, .int .i64 a0_5, .int .i64 a0_6, .int .i64 a0_7, .bool a0_8].toArray, .agg [.int .u64 a1_0, .int .u64 a1_1, .int .u64 a1_2, .int .u64 a1_3].toArray, .int .u8 a2] w Q = crierlaw16_CmdBack a0_0 a0_1 a0_2 a0_3 a0_4 a0_5 a0_6 a0_7 a0_8 a1_0 a1_1 a1_2 a1_3 a2 w Q := by kernel_rfl
theorem crierlaw16_CmdBack_cv {a0_0 : Int} {a0_1 : Int} {a0_2 : Int} {a0_3 : Int} {a0_4 : Int} {a0_5 : Int} {a0_6 : Int} {a0_7 : Int} {a0_8 : Bool} {a1_0 : Int} {a1_1 : Int} {a1_2 : Int} {a1_3 : Int} {a2 : Int} {w : World} {Q : Value → World → Prop} (h : crierlaw16_CmdBack a0_0 a0_1 a0_2 a0_3 a0_4 a0_5 a0_6 a0_7 a0_8 a1_0 a1_1 a1_2 a1_3 a2 w Q) : CV P F.crierlaw16_CmdBack [.agg [.int .i64 a0_0, .int .i64 a0_1, .int .i64 a0_2, .int .i64 a0_3, .int .i64 a0_4, .int .i64 a0_5, .int .i64 a0_6, .int .i64 a0_7, .bool a0_8].toArray, .agg [.int .u64 a1_0, .int .u64 a1_1, .int .u64 a1_2, .int .u64 a1_3].toArray, .int .u8 a2] w Q := CV_of mixed Tryd.func9 (crierlaw16_CmdBack_eq a0_0 a0_1 a0_2 a0_3 a0_4 a0_5 a0_6 a0_7 a0_8 a1_0 a1_1 a1_2 a1_3 a2 w Q ▸ h)

/- 10 crier/cmd.Encode -/
def cmd_Encode_J14 : LoopSpec where
  S := Bool
  emb := fun s => [(22, .bool s)]
  ext := fun t => match getL t 22 with
    | some (.bool y21) => some (y21)
    | _ => none
  slots := [22]
  fits := fun _ => rfl
  ok := by
    intro t s h x hx
    (try dsimp only at h hx)
    split at h
    · cases h
      simp only [List.mem_cons, List.not_mem_nil, or_false] at hx
      rcases hx with rfl <;> assumption
    · cases h

def cmd_Encode_L122 : LoopSpec where
  S := Int
  emb := fun s => [(5, .int .i64 s)]
  ext := fun t => match getL t 5 with
    | some (.int .i64 y32) => some (y32)
    | _ => none
  slots := [5]
  fits := fun _ => rfl
  ok := by
    intro t s h x hx
    (try dsimp only at h hx)
    split at h
    · cases h
      simp only [List.mem_cons, List.not_mem_nil, or_false] at hx
      rcases hx with rfl <;> assumption
    · cases h

def cmd_Encode_J978 : LoopSpec where
  S := Unit
  emb := fun _ => []
  ext := fun _ => some ()
  slots := []
  fits := fun _ => rfl
  ok := by
    intro t s h x hx; cases hx

def cmd_Encode_j0 (n33 : Int) (A35 : cmd_Encode_L122.S → World → Prop) (w36 : World) : Prop :=
 A35 (((IntKind.i64.wrap (n33 + 1)) : Int)) w36

def cmd_Encode_J15654 : LoopSpec where
  S := Bool
  emb := fun s => [(54, .bool s)]
  ext := fun t => match getL t 54 with
    | some (.bool y62) => some (y62)
    | _ => none
  slots := [54]
  fits := fun _ => rfl
  ok := by
    intro t s h x hx
    (try dsimp only at h hx)
    split at h
    · cases h
      simp only [List.mem_cons, List.not_mem_nil, or_false] at hx
      rcases hx with rfl <;> assumption
    · cases h

def cmd_Encode_j1 (Q : Value → World → Prop) (b12 : Nat) (b15 : Nat) (J37 : cmd_Encode_J978.S → World → Prop) (b44 : Bool) (b45 : Nat) (n61 : Int) (b63 : Bool) (w64 : World) : Prop :=
 cnd b63
 (st1 (.int .u64 0) ⟨b12, 0, none⟩ w64 fun w65 =>
 st1 (.int .u64 0) ⟨b12, 1, none⟩ w65 fun w66 =>
 st1 (.int .u64 0) ⟨b12, 2, none⟩ w66 fun w67 =>
 st1 (.int .u64 0) ⟨b12, 3, none⟩ w67 fun w68 =>
 ldI .u64 ⟨b12, 0, none⟩ w68 fun n69 =>
 ldI .u64 ⟨b12, 1, none⟩ w68 fun n70 =>
 ldI .u64 ⟨b12, 2, none⟩ w68 fun n71 =>
 ldI .u64 ⟨b12, 3, none⟩ w68 fun n72 =>
 Q (.tuple [.agg [.int .u64 n69, .int .u64 n70, .int .u64 n71, .int .u64 n72].toArray, .int .i64 160].toArray) w68)
 (cnd b44
 (drw w64 fun w73 =>
 ldI .i64 ⟨b45, 0, none⟩ w73 fun n74 =>
 ix n74 4 fun j75 =>
 ldI .u64 (Addr.add ⟨b15, 0, none⟩ (j75 * 1)) w73 fun n76 =>
 ldI .i64 ⟨b45, 1, none⟩ w73 fun n77 =>
 (nng n77 <|
 ix n74 4 fun j78 =>
 st1 (.int .u64 (bitX .or .u64 n76 (IntKind.u64.wrap ((IntKind.u64.wrap (n61)) * 2 ^ min (Int.toNat n77) (IntKind.u64.bits))))) (Addr.add ⟨b15, 0, none⟩ (j78 * 1)) w73 fun w79 =>
 J37 () w79))
 (J37 () w64))

def cmd_Encode_l2 (Q : Value → World → Prop) (b10 : Nat) (b12 : Nat) (b15 : Nat) (n33 : Int) (w34 : World) (A35 : cmd_Encode_L122.S → World → Prop) : Prop :=
 cnd (decide (n33 < 8))
 (JoinT (fun (J37 : cmd_Encode_J978.S → World → Prop) =>
  ldI .i64 ⟨b10, 0, none⟩ w34 fun n38 =>
  CV P F.cmd_parted [.int .i64 n38, .int .i64 n33] w34 fun v39 w40 =>
  ∃ n41 : Int, ∃ n42 : Int, ∃ n43 : Int, ∃ b44 : Bool, v39 = .tuple [.agg [.int .i64 n41, .int .i64 n42, .int .i64 n43].toArray, .bool b44].toArray ∧
  alc [.int .i64 0, .int .i64 0, .int .i64 0] T.t72 w40 fun b45 w46 =>
  st1 (.int .i64 n41) ⟨b45, 0, none⟩ w46 fun w47 =>
  st1 (.int .i64 n42) ⟨b45, 1, none⟩ w47 fun w48 =>
  st1 (.int .i64 n43) ⟨b45, 2, none⟩ w48 fun w49 =>
  ldI .i64 ⟨b10, 0, none⟩ w49 fun n50 =>
  ldI .i64 ⟨b10, 1, none⟩ w49 fun n51 =>
  ldI .i64 ⟨b10, 2, none⟩ w49 fun n52 =>
  ldI .i64 ⟨b10, 3, none⟩ w49 fun n53 =>
  ldI .i64 ⟨b10, 4, none⟩ w49 fun n54 =>
  ldI .i64 ⟨b10, 5, none⟩ w49 fun n55 =>
  ldI .i64 ⟨b10, 6, none⟩ w49 fun n56 =>
  ldI .i64 ⟨b10, 7, none⟩ w49 fun n57 =>
  ldB ⟨b10, 8, none⟩ w49 fun b58 =>
  CV P F.cmd_get [.agg [.int .i64 n50, .int .i64 n51, .int .i64 n52, .int .i64 n53, .int .i64 n54, .int .i64 n55, .int .i64 n56, .int .i64 n57, .bool b58].toArray, .int .i64 n33] w49 fun v59 w60 =>
  ∃ n61 : Int, v59 = .int .i64 n61 ∧
  JoinT (fun (J80 : cmd_Encode_J15654.S → World → Prop) =>
   cnd (!b44)
   (cnd (n61 != 0)
   (J80 ((true : Bool)) w60)
   (cnd (decide (n61 < 0))
   (J80 ((true : Bool)) w60)
   (ldI .i64 ⟨b45, 2, none⟩ w60 fun n81 =>
   (nng n81 <|
   J80 (((decide (n61 ≥ (IntKind.i64.wrap (1 * 2 ^ min (Int.toNat n81) (IntKind.i64.bits))))) : Bool)) w60))))
   (cnd (decide (n61 < 0))
   (J80 ((true : Bool)) w60)
   (ldI .i64 ⟨b45, 2, none⟩ w60 fun n82 =>
   (nng n82 <|
   J80 (((decide (n61 ≥ (IntKind.i64.wrap (1 * 2 ^ min (Int.toNat n82) (IntKind.i64.bits))))) : Bool)) w60))))
   fun (s83 : cmd_Encode_J15654.S) w84 => cmd_Encode_j1 Q b12 b15 J37 b44 b45 n61 s83 w84)
  fun (s85 : cmd_Encode_J978.S) w86 => cmd_Encode_j0 n33 A35 w86)
 (ldI .u64 ⟨b15, 0, none⟩ w34 fun n87 =>
 ldI .u64 ⟨b15, 1, none⟩ w34 fun n88 =>
 ldI .u64 ⟨b15, 2, none⟩ w34 fun n89 =>
 ldI .u64 ⟨b15, 3, none⟩ w34 fun n90 =>
 st1 (.int .u64 n87) ⟨b12, 0, none⟩ w34 fun w91 =>
 st1 (.int .u64 n88) ⟨b12, 1, none⟩ w91 fun w92 =>
 st1 (.int .u64 n89) ⟨b12, 2, none⟩ w92 fun w93 =>
 st1 (.int .u64 n90) ⟨b12, 3, none⟩ w93 fun w94 =>
 ldI .u64 ⟨b12, 0, none⟩ w94 fun n95 =>
 ldI .u64 ⟨b12, 1, none⟩ w94 fun n96 =>
 ldI .u64 ⟨b12, 2, none⟩ w94 fun n97 =>
 ldI .u64 ⟨b12, 3, none⟩ w94 fun n98 =>
 Q (.tuple [.agg [.int .u64 n95, .int .u64 n96, .int .u64 n97, .int .u64 n98].toArray, .int .i64 0].toArray) w94)

def cmd_Encode_j3 (Q : Value → World → Prop) (b10 : Nat) (b12 : Nat) (b15 : Nat) (b22 : Bool) (w23 : World) : Prop :=
 cnd b22
 (st1 (.int .u64 0) ⟨b12, 0, none⟩ w23 fun w24 =>
 st1 (.int .u64 0) ⟨b12, 1, none⟩ w24 fun w25 =>
 st1 (.int .u64 0) ⟨b12, 2, none⟩ w25 fun w26 =>
 st1 (.int .u64 0) ⟨b12, 3, none⟩ w26 fun w27 =>
 ldI .u64 ⟨b12, 0, none⟩ w27 fun n28 =>
 ldI .u64 ⟨b12, 1, none⟩ w27 fun n29 =>
 ldI .u64 ⟨b12, 2, none⟩ w27 fun n30 =>
 ldI .u64 ⟨b12, 3, none⟩ w27 fun n31 =>
 Q (.tuple [.agg [.int .u64 n28, .int .u64 n29, .int .u64 n30, .int .u64 n31].toArray, .int .i64 160].toArray) w27)
 (LoopT (fun (s99 : cmd_Encode_L122.S) w100 A101 => cmd_Encode_l2 Q b10 b12 b15 s99 w100 A101) ((0 : Int)) w23)

def cmd_Encode (a0_0 : Int) (a0_1 : Int) (a0_2 : Int) (a0_3 : Int) (a0_4 : Int) (a0_5 : Int) (a0_6 : Int) (a0_7 : Int) (a0_8 : Bool) (w : World) (Q : Value → World → Prop) : Prop :=
 alc [.int .i64 a0_0, .int .i64 a0_1, .int .i64 a0_2, .int .i64 a0_3, .int .i64 a0_4, .int .i64 a0_5, .int .i64 a0_6, .int .i64 a0_7, .bool a0_8] T.t24 w fun b10 w11 =>
 alc [.int .u64 0, .int .u64 0, .int .u64 0, .int .u64 0] T.t26 w11 fun b12 w13 =>
 ldI .i64 ⟨b10, 0, none⟩ w13 fun n14 =>
 alc [.int .u64 0, .int .u64 0, .int .u64 0, .int .u64 0] T.t26 w13 fun b15 w16 =>
 st1 (.int .u64 (IntKind.u64.wrap (n14))) ⟨b15, 0, none⟩ w16 fun w17 =>
 st1 (.int .u64 0) ⟨b15, 1, none⟩ w17 fun w18 =>
 st1 (.int .u64 0) ⟨b15, 2, none⟩ w18 fun w19 =>
 st1 (.int .u64 0) ⟨b15, 3, none⟩ w19 fun w20 =>
 JoinT (fun (J102 : cmd_Encode_J14.S → World → Prop) =>
  ldI .i64 ⟨b10, 0, none⟩ w20 fun n103 =>
  CV P F.cmd_Known [.int .i64 n103] w20 fun v104 w105 =>
  ∃ b106 : Bool, v104 = .bool b106 ∧
  cnd (!b106)
  (J102 ((true : Bool)) w105)
  (ldI .i64 ⟨b10, 7, none⟩ w105 fun n107 =>
  J102 ((((bitX .and .i64 n107 255) != 0) : Bool)) w105))
  fun (s108 : cmd_Encode_J14.S) w109 => cmd_Encode_j3 Q b10 b12 b15 s108 w109
def cmd_Encode_ann : Nat → Option LoopSpec := fun
  | 14 => some cmd_Encode_J14
  | 122 => some cmd_Encode_L122
  | 978 => some cmd_Encode_J978
  | 15654 => some cmd_Encode_J15654
  | 62622 => some (ordSpec [0, 1, 2, 3, 4, 5, 6, 7, 8, 9, 10, 11])
  | _ => none
theorem cmd_Encode_eq (a0_0 : Int) (a0_1 : Int) (a0_2 : Int) (a0_3 : Int) (a0_4 : Int) (a0_5 : Int) (a0_6 : Int) (a0_7 : Int) (a0_8 : Bool) (w : World) (Q : Value → World → Prop) : fnX P cmd_Encode_ann Tryd.f10 [.agg [.int .i64 a0_0, .int .i64 a0_1, .int .i64 a0_2, .int .i64 a0_3, .int .i64 a0_4, .int .i64 a0_5, .int .i64 a0_6, .int .i64 a0_7, .bool a0_8].toArray] w Q = cmd_Encode a0_0 a0_1 a0_2 a0_3 a0_4 a0_5 a0_6 a0_7 a0_8 w Q := by kernel_rfl
theorem cmd_Encode_cv {a0_0 : Int} {a0_1 : Int} {a0_2 : Int} {a0_3 : Int} {a0_4 : Int} {a0_5 : Int} {a0_6 : Int} {a0_7 : Int} {a0_8 : Bool} {w : World} {Q : Value → World → Prop} (h : cmd_Encode a0_0 a0_1 a0_2 a0_3 a0_4 a0_5 a0_6 a0_7 a0_8 w Q) : CV P F.cmd_Encode [.agg [.int .i64 a0_0, .int .i64 a0_1, .int .i64 a0_2, .int .i64 a0_3, .int .i64 a0_4, .int .i64 a0_5, .int .i64 a0_6, .int .i64 a0_7, .bool a0_8].toArray] w Q := CV_of mixed Tryd.func10 (cmd_Encode_eq a0_0 a0_1 a0_2 a0_3 a0_4 a0_5 a0_6 a0_7 a0_8 w Q ▸ h)

/- 11 crier/crierref16.Encode -/
def crierref16_Encode_J14 : LoopSpec where
  S := Bool
  emb := fun s => [(21, .bool s)]
  ext := fun t => match getL t 21 with
    | some (.bool y29) => some (y29)
    | _ => none
  slots := [21]
  fits := fun _ => rfl
  ok := by
    intro t s h x hx
    (try dsimp only at h hx)
    split at h
    · cases h
      simp only [List.mem_cons, List.not_mem_nil, or_false] at hx
      rcases hx with rfl <;> assumption
    · cases h

def crierref16_Encode_L250 : LoopSpec where
  S := Int
  emb := fun s => [(7, .int .i64 s)]
  ext := fun t => match getL t 7 with
    | some (.int .i64 y47) => some (y47)
    | _ => none
  slots := [7]
  fits := fun _ => rfl
  ok := by
    intro t s h x hx
    (try dsimp only at h hx)
    split at h
    · cases h
      simp only [List.mem_cons, List.not_mem_nil, or_false] at hx
      rcases hx with rfl <;> assumption
    · cases h

def crierref16_Encode_J16018 : LoopSpec where
  S := Bool
  emb := fun s => [(47, .bool s)]
  ext := fun t => match getL t 47 with
    | some (.bool y63) => some (y63)
    | _ => none
  slots := [47]
  fits := fun _ => rfl
  ok := by
    intro t s h x hx
    (try dsimp only at h hx)
    split at h
    · cases h
      simp only [List.mem_cons, List.not_mem_nil, or_false] at hx
      rcases hx with rfl <;> assumption
    · cases h

def crierref16_Encode_j0 (Q : Value → World → Prop) (b12 : Nat) (b41 : Nat) (n48 : Int) (A50 : crierref16_Encode_L250.S → World → Prop) (b57 : Nat) (b64 : Bool) (w65 : World) : Prop :=
 cnd b64
 (st1 (.int .u64 0) ⟨b12, 0, none⟩ w65 fun w66 =>
 st1 (.int .u64 0) ⟨b12, 1, none⟩ w66 fun w67 =>
 st1 (.int .u64 0) ⟨b12, 2, none⟩ w67 fun w68 =>
 st1 (.int .u64 0) ⟨b12, 3, none⟩ w68 fun w69 =>
 ldI .u64 ⟨b12, 0, none⟩ w69 fun n70 =>
 ldI .u64 ⟨b12, 1, none⟩ w69 fun n71 =>
 ldI .u64 ⟨b12, 2, none⟩ w69 fun n72 =>
 ldI .u64 ⟨b12, 3, none⟩ w69 fun n73 =>
 Q (.tuple [.agg [.int .u64 n70, .int .u64 n71, .int .u64 n72, .int .u64 n73].toArray, .bool false].toArray) w69)
 (drw w65 fun w74 =>
 ldI .i64 ⟨b57, 0, none⟩ w74 fun n75 =>
 ldI .i64 ⟨b57, 0, none⟩ w74 fun n76 =>
 ix n76 4 fun j77 =>
 ldI .u64 (Addr.add ⟨b41, 0, none⟩ (j77 * 1)) w74 fun n78 =>
 ldI .i64 ⟨b57, 3, none⟩ w74 fun n79 =>
 ldI .i64 ⟨b57, 1, none⟩ w74 fun n80 =>
 (nng n80 <|
 ix n75 4 fun j81 =>
 st1 (.int .u64 (IntKind.u64.wrap (n78 + (IntKind.u64.wrap ((IntKind.u64.wrap (n79)) * 2 ^ min (Int.toNat n80) (IntKind.u64.bits)))))) (Addr.add ⟨b41, 0, none⟩ (j81 * 1)) w74 fun w82 =>
 A50 (((IntKind.i64.wrap (n48 + 1)) : Int)) w82))

def crierref16_Encode_l1 (Q : Value → World → Prop) (b12 : Nat) (p25 : Option Addr) (l26 : Nat) (b41 : Nat) (n48 : Int) (w49 : World) (A50 : crierref16_Encode_L250.S → World → Prop) : Prop :=
 cnd (decide (n48 < ((l26 : Nat) : Int)))
 (ix n48 l26 fun j51 => nn p25 fun a52 =>
 ldI .i64 (a52.add (j51 * 4)) w49 fun n53 =>
 ldI .i64 ((a52.add (j51 * 4)).add 1) w49 fun n54 =>
 ldI .i64 ((a52.add (j51 * 4)).add 2) w49 fun n55 =>
 ldI .i64 ((a52.add (j51 * 4)).add 3) w49 fun n56 =>
 alc [.int .i64 0, .int .i64 0, .int .i64 0, .int .i64 0] T.t80 w49 fun b57 w58 =>
 st1 (.int .i64 n53) ⟨b57, 0, none⟩ w58 fun w59 =>
 st1 (.int .i64 n54) ⟨b57, 1, none⟩ w59 fun w60 =>
 st1 (.int .i64 n55) ⟨b57, 2, none⟩ w60 fun w61 =>
 st1 (.int .i64 n56) ⟨b57, 3, none⟩ w61 fun w62 =>
 JoinT (fun (J83 : crierref16_Encode_J16018.S → World → Prop) =>
  drw w62 fun w84 =>
  ldI .i64 ⟨b57, 3, none⟩ w84 fun n85 =>
  cnd (decide (n85 < 0))
  (J83 ((true : Bool)) w84)
  (ldI .i64 ⟨b57, 3, none⟩ w84 fun n86 =>
  ldI .i64 ⟨b57, 2, none⟩ w84 fun n87 =>
  (nng n87 <|
  J83 (((decide (n86 ≥ (IntKind.i64.wrap (1 * 2 ^ min (Int.toNat n87) (IntKind.i64.bits))))) : Bool)) w84)))
  fun (s88 : crierref16_Encode_J16018.S) w89 => crierref16_Encode_j0 Q b12 b41 n48 A50 b57 s88 w89)
 (ldI .u64 ⟨b41, 0, none⟩ w49 fun n90 =>
 ldI .u64 ⟨b41, 1, none⟩ w49 fun n91 =>
 ldI .u64 ⟨b41, 2, none⟩ w49 fun n92 =>
 ldI .u64 ⟨b41, 3, none⟩ w49 fun n93 =>
 st1 (.int .u64 n90) ⟨b12, 0, none⟩ w49 fun w94 =>
 st1 (.int .u64 n91) ⟨b12, 1, none⟩ w94 fun w95 =>
 st1 (.int .u64 n92) ⟨b12, 2, none⟩ w95 fun w96 =>
 st1 (.int .u64 n93) ⟨b12, 3, none⟩ w96 fun w97 =>
 ldI .u64 ⟨b12, 0, none⟩ w97 fun n98 =>
 ldI .u64 ⟨b12, 1, none⟩ w97 fun n99 =>
 ldI .u64 ⟨b12, 2, none⟩ w97 fun n100 =>
 ldI .u64 ⟨b12, 3, none⟩ w97 fun n101 =>
 Q (.tuple [.agg [.int .u64 n98, .int .u64 n99, .int .u64 n100, .int .u64 n101].toArray, .bool true].toArray) w97)

def crierref16_Encode_j2 (Q : Value → World → Prop) (b10 : Nat) (b12 : Nat) (p25 : Option Addr) (l26 : Nat) (b30 : Bool) (w31 : World) : Prop :=
 cnd b30
 (st1 (.int .u64 0) ⟨b12, 0, none⟩ w31 fun w32 =>
 st1 (.int .u64 0) ⟨b12, 1, none⟩ w32 fun w33 =>
 st1 (.int .u64 0) ⟨b12, 2, none⟩ w33 fun w34 =>
 st1 (.int .u64 0) ⟨b12, 3, none⟩ w34 fun w35 =>
 ldI .u64 ⟨b12, 0, none⟩ w35 fun n36 =>
 ldI .u64 ⟨b12, 1, none⟩ w35 fun n37 =>
 ldI .u64 ⟨b12, 2, none⟩ w35 fun n38 =>
 ldI .u64 ⟨b12, 3, none⟩ w35 fun n39 =>
 Q (.tuple [.agg [.int .u64 n36, .int .u64 n37, .int .u64 n38, .int .u64 n39].toArray, .bool false].toArray) w35)
 (ldI .i64 ⟨b10, 0, none⟩ w31 fun n40 =>
 alc [.int .u64 0, .int .u64 0, .int .u64 0, .int .u64 0] T.t26 w31 fun b41 w42 =>
 st1 (.int .u64 (IntKind.u64.wrap (n40))) ⟨b41, 0, none⟩ w42 fun w43 =>
 st1 (.int .u64 0) ⟨b41, 1, none⟩ w43 fun w44 =>
 st1 (.int .u64 0) ⟨b41, 2, none⟩ w44 fun w45 =>
 st1 (.int .u64 0) ⟨b41, 3, none⟩ w45 fun w46 =>
 LoopT (fun (s102 : crierref16_Encode_L250.S) w103 A104 => crierref16_Encode_l1 Q b12 p25 l26 b41 s102 w103 A104) ((0 : Int)) w46)

def crierref16_Encode (a0_0 : Int) (a0_1 : Int) (a0_2 : Int) (a0_3 : Int) (a0_4 : Int) (a0_5 : Int) (a0_6 : Int) (a0_7 : Int) (a0_8 : Bool) (w : World) (Q : Value → World → Prop) : Prop :=
 alc [.int .i64 a0_0, .int .i64 a0_1, .int .i64 a0_2, .int .i64 a0_3, .int .i64 a0_4, .int .i64 a0_5, .int .i64 a0_6, .int .i64 a0_7, .bool a0_8] T.t24 w fun b10 w11 =>
 alc [.int .u64 0, .int .u64 0, .int .u64 0, .int .u64 0] T.t26 w11 fun b12 w13 =>
 ldI .i64 ⟨b10, 0, none⟩ w13 fun n14 =>
 ldI .i64 ⟨b10, 1, none⟩ w13 fun n15 =>
 ldI .i64 ⟨b10, 2, none⟩ w13 fun n16 =>
 ldI .i64 ⟨b10, 3, none⟩ w13 fun n17 =>
 ldI .i64 ⟨b10, 4, none⟩ w13 fun n18 =>
 ldI .i64 ⟨b10, 5, none⟩ w13 fun n19 =>
 ldI .i64 ⟨b10, 6, none⟩ w13 fun n20 =>
 ldI .i64 ⟨b10, 7, none⟩ w13 fun n21 =>
 ldB ⟨b10, 8, none⟩ w13 fun b22 =>
 CV P F.crierref16_Fields [.agg [.int .i64 n14, .int .i64 n15, .int .i64 n16, .int .i64 n17, .int .i64 n18, .int .i64 n19, .int .i64 n20, .int .i64 n21, .bool b22].toArray] w13 fun v23 w24 =>
 ∃ (p25 : Option Addr) (l26 c27 : Nat), ∃ b28 : Bool, v23 = .tuple [.slice p25 l26 c27, .bool b28].toArray ∧
 JoinT (fun (J105 : crierref16_Encode_J14.S → World → Prop) =>
  cnd (!b28)
  (J105 ((true : Bool)) w24)
  (ldI .i64 ⟨b10, 0, none⟩ w24 fun n106 =>
  CV P F.crierref16_Known [.int .i64 n106] w24 fun v107 w108 =>
  ∃ b109 : Bool, v107 = .bool b109 ∧
  J105 (((!b109) : Bool)) w108))
  fun (s110 : crierref16_Encode_J14.S) w111 => crierref16_Encode_j2 Q b10 b12 p25 l26 s110 w111
def crierref16_Encode_ann : Nat → Option LoopSpec := fun
  | 14 => some crierref16_Encode_J14
  | 250 => some crierref16_Encode_L250
  | 16018 => some crierref16_Encode_J16018
  | 16019 => some (ordSpec [0, 1, 2, 3, 4, 5, 6, 7, 8, 9, 10, 11, 12, 13, 14])
  | 32036 => some (ordSpec [0, 1, 2, 3, 4, 5, 6, 7, 8, 9, 10])
  | _ => none
theorem crierref16_Encode_eq (a0_0 : Int) (a0_1 : Int) (a0_2 : Int) (a0_3 : Int) (a0_4 : Int) (a0_5 : Int) (a0_6 : Int) (a0_7 : Int) (a0_8 : Bool) (w : World) (Q : Value → World → Prop) : fnX P crierref16_Encode_ann Tryd.f11 [.agg [.int .i64 a0_0, .int .i64 a0_1, .int .i64 a0_2, .int .i64 a0_3, .int .i64 a0_4, .int .i64 a0_5, .int .i64 a0_6, .int .i64 a0_7, .bool a0_8].toArray] w Q = crierref16_Encode a0_0 a0_1 a0_2 a0_3 a0_4 a0_5 a0_6 a0_7 a0_8 w Q := by kernel_rfl
theorem crierref16_Encode_cv {a0_0 : Int} {a0_1 : Int} {a0_2 : Int} {a0_3 : Int} {a0_4 : Int} {a0_5 : Int} {a0_6 : Int} {a0_7 : Int} {a0_8 : Bool} {w : World} {Q : Value → World → Prop} (h : crierref16_Encode a0_0 a0_1 a0_2 a0_3 a0_4 a0_5 a0_6 a0_7 a0_8 w Q) : CV P F.crierref16_Encode [.agg [.int .i64 a0_0, .int .i64 a0_1, .int .i64 a0_2, .int .i64 a0_3, .int .i64 a0_4, .int .i64 a0_5, .int .i64 a0_6, .int .i64 a0_7, .bool a0_8].toArray] w Q := CV_of mixed Tryd.func11 (crierref16_Encode_eq a0_0 a0_1 a0_2 a0_3 a0_4 a0_5 a0_6 a0_7 a0_8 w Q ▸ h)

/- 12 crier/cmd.Decode -/
def cmd_Decode_L58 : LoopSpec where
  S := Int
  emb := fun s => [(5, .int .i64 s)]
  ext := fun t => match getL t 5 with
    | some (.int .i64 y22) => some (y22)
    | _ => none
  slots := [5]
  fits := fun _ => rfl
  ok := by
    intro t s h x hx
    (try dsimp only at h hx)
    split at h
    · cases h
      simp only [List.mem_cons, List.not_mem_nil, or_false] at hx
      rcases hx with rfl <;> assumption
    · cases h

def cmd_Decode_J466 : LoopSpec where
  S := Unit
  emb := fun _ => []
  ext := fun _ => some ()
  slots := []
  fits := fun _ => rfl
  ok := by
    intro t s h x hx; cases hx

def cmd_Decode_j0 (n23 : Int) (A25 : cmd_Decode_L58.S → World → Prop) (w26 : World) : Prop :=
 A25 (((IntKind.i64.wrap (n23 + 1)) : Int)) w26

def cmd_Decode_J61 : LoopSpec where
  S := Bool
  emb := fun s => [(53, .bool s)]
  ext := fun t => match getL t 53 with
    | some (.bool y72) => some (y72)
    | _ => none
  slots := [53]
  fits := fun _ => rfl
  ok := by
    intro t s h x hx
    (try dsimp only at h hx)
    split at h
    · cases h
      simp only [List.mem_cons, List.not_mem_nil, or_false] at hx
      rcases hx with rfl <;> assumption
    · cases h

def cmd_Decode_j1 (Q : Value → World → Prop) (b7 : Nat) (b11 : Nat) (b73 : Bool) (w74 : World) : Prop :=
 cnd b73
 (st1 (.int .i64 0) ⟨b7, 0, none⟩ w74 fun w75 =>
 st1 (.int .i64 0) ⟨b7, 1, none⟩ w75 fun w76 =>
 st1 (.int .i64 0) ⟨b7, 2, none⟩ w76 fun w77 =>
 st1 (.int .i64 0) ⟨b7, 3, none⟩ w77 fun w78 =>
 st1 (.int .i64 0) ⟨b7, 4, none⟩ w78 fun w79 =>
 st1 (.int .i64 0) ⟨b7, 5, none⟩ w79 fun w80 =>
 st1 (.int .i64 0) ⟨b7, 6, none⟩ w80 fun w81 =>
 st1 (.int .i64 0) ⟨b7, 7, none⟩ w81 fun w82 =>
 st1 (.bool false) ⟨b7, 8, none⟩ w82 fun w83 =>
 ldI .i64 ⟨b7, 0, none⟩ w83 fun n84 =>
 ldI .i64 ⟨b7, 1, none⟩ w83 fun n85 =>
 ldI .i64 ⟨b7, 2, none⟩ w83 fun n86 =>
 ldI .i64 ⟨b7, 3, none⟩ w83 fun n87 =>
 ldI .i64 ⟨b7, 4, none⟩ w83 fun n88 =>
 ldI .i64 ⟨b7, 5, none⟩ w83 fun n89 =>
 ldI .i64 ⟨b7, 6, none⟩ w83 fun n90 =>
 ldI .i64 ⟨b7, 7, none⟩ w83 fun n91 =>
 ldB ⟨b7, 8, none⟩ w83 fun b92 =>
 Q (.tuple [.agg [.int .i64 n84, .int .i64 n85, .int .i64 n86, .int .i64 n87, .int .i64 n88, .int .i64 n89, .int .i64 n90, .int .i64 n91, .bool b92].toArray, .int .i64 160].toArray) w83)
 (ldI .i64 ⟨b11, 0, none⟩ w74 fun n93 =>
 ldI .i64 ⟨b11, 1, none⟩ w74 fun n94 =>
 ldI .i64 ⟨b11, 2, none⟩ w74 fun n95 =>
 ldI .i64 ⟨b11, 3, none⟩ w74 fun n96 =>
 ldI .i64 ⟨b11, 4, none⟩ w74 fun n97 =>
 ldI .i64 ⟨b11, 5, none⟩ w74 fun n98 =>
 ldI .i64 ⟨b11, 6, none⟩ w74 fun n99 =>
 ldI .i64 ⟨b11, 7, none⟩ w74 fun n100 =>
 ldB ⟨b11, 8, none⟩ w74 fun b101 =>
 st1 (.int .i64 n93) ⟨b7, 0, none⟩ w74 fun w102 =>
 st1 (.int .i64 n94) ⟨b7, 1, none⟩ w102 fun w103 =>
 st1 (.int .i64 n95) ⟨b7, 2, none⟩ w103 fun w104 =>
 st1 (.int .i64 n96) ⟨b7, 3, none⟩ w104 fun w105 =>
 st1 (.int .i64 n97) ⟨b7, 4, none⟩ w105 fun w106 =>
 st1 (.int .i64 n98) ⟨b7, 5, none⟩ w106 fun w107 =>
 st1 (.int .i64 n99) ⟨b7, 6, none⟩ w107 fun w108 =>
 st1 (.int .i64 n100) ⟨b7, 7, none⟩ w108 fun w109 =>
 st1 (.bool b101) ⟨b7, 8, none⟩ w109 fun w110 =>
 ldI .i64 ⟨b7, 0, none⟩ w110 fun n111 =>
 ldI .i64 ⟨b7, 1, none⟩ w110 fun n112 =>
 ldI .i64 ⟨b7, 2, none⟩ w110 fun n113 =>
 ldI .i64 ⟨b7, 3, none⟩ w110 fun n114 =>
 ldI .i64 ⟨b7, 4, none⟩ w110 fun n115 =>
 ldI .i64 ⟨b7, 5, none⟩ w110 fun n116 =>
 ldI .i64 ⟨b7, 6, none⟩ w110 fun n117 =>
 ldI .i64 ⟨b7, 7, none⟩ w110 fun n118 =>
 ldB ⟨b7, 8, none⟩ w110 fun b119 =>
 Q (.tuple [.agg [.int .i64 n111, .int .i64 n112, .int .i64 n113, .int .i64 n114, .int .i64 n115, .int .i64 n116, .int .i64 n117, .int .i64 n118, .bool b119].toArray, .int .i64 0].toArray) w110)

def cmd_Decode_l2 (Q : Value → World → Prop) (b5 : Nat) (b7 : Nat) (b11 : Nat) (n23 : Int) (w24 : World) (A25 : cmd_Decode_L58.S → World → Prop) : Prop :=
 cnd (decide (n23 < 8))
 (JoinT (fun (J27 : cmd_Decode_J466.S → World → Prop) =>
  ldI .i64 ⟨b11, 0, none⟩ w24 fun n28 =>
  CV P F.cmd_parted [.int .i64 n28, .int .i64 n23] w24 fun v29 w30 =>
  ∃ n31 : Int, ∃ n32 : Int, ∃ n33 : Int, ∃ b34 : Bool, v29 = .tuple [.agg [.int .i64 n31, .int .i64 n32, .int .i64 n33].toArray, .bool b34].toArray ∧
  alc [.int .i64 0, .int .i64 0, .int .i64 0] T.t72 w30 fun b35 w36 =>
  st1 (.int .i64 n31) ⟨b35, 0, none⟩ w36 fun w37 =>
  st1 (.int .i64 n32) ⟨b35, 1, none⟩ w37 fun w38 =>
  st1 (.int .i64 n33) ⟨b35, 2, none⟩ w38 fun w39 =>
  cnd b34
  (drw w39 fun w40 =>
  ldI .i64 ⟨b35, 0, none⟩ w40 fun n41 =>
  ix n41 4 fun j42 =>
  ldI .u64 (Addr.add ⟨b5, 0, none⟩ (j42 * 1)) w40 fun n43 =>
  ldI .i64 ⟨b35, 1, none⟩ w40 fun n44 =>
  (nng n44 <|
  ldI .i64 ⟨b35, 2, none⟩ w40 fun n45 =>
  (nng n45 <|
  CV P F.cmd_put [.pointer (some ⟨b11, 0, none⟩), .int .i64 n23, .int .i64 (IntKind.i64.wrap ((bitX .and .u64 (Int.fdiv n43 (2 ^ min (Int.toNat n44) (IntKind.u64.bits))) (IntKind.u64.wrap ((IntKind.u64.wrap (1 * 2 ^ min (Int.toNat n45) (IntKind.u64.bits))) - 1)))))] w40 fun v46 w47 =>
  v46 = .tuple [].toArray ∧
  J27 () w47)))
  (J27 () w39))
  fun (s48 : cmd_Decode_J466.S) w49 => cmd_Decode_j0 n23 A25 w49)
 (ldI .i64 ⟨b11, 0, none⟩ w24 fun n50 =>
 ldI .i64 ⟨b11, 1, none⟩ w24 fun n51 =>
 ldI .i64 ⟨b11, 2, none⟩ w24 fun n52 =>
 ldI .i64 ⟨b11, 3, none⟩ w24 fun n53 =>
 ldI .i64 ⟨b11, 4, none⟩ w24 fun n54 =>
 ldI .i64 ⟨b11, 5, none⟩ w24 fun n55 =>
 ldI .i64 ⟨b11, 6, none⟩ w24 fun n56 =>
 ldI .i64 ⟨b11, 7, none⟩ w24 fun n57 =>
 ldB ⟨b11, 8, none⟩ w24 fun b58 =>
 CV P F.cmd_Encode [.agg [.int .i64 n50, .int .i64 n51, .int .i64 n52, .int .i64 n53, .int .i64 n54, .int .i64 n55, .int .i64 n56, .int .i64 n57, .bool b58].toArray] w24 fun v59 w60 =>
 ∃ n61 : Int, ∃ n62 : Int, ∃ n63 : Int, ∃ n64 : Int, ∃ n65 : Int, v59 = .tuple [.agg [.int .u64 n61, .int .u64 n62, .int .u64 n63, .int .u64 n64].toArray, .int .i64 n65].toArray ∧
 alc [.int .u64 0, .int .u64 0, .int .u64 0, .int .u64 0] T.t26 w60 fun b66 w67 =>
 st1 (.int .u64 n61) ⟨b66, 0, none⟩ w67 fun w68 =>
 st1 (.int .u64 n62) ⟨b66, 1, none⟩ w68 fun w69 =>
 st1 (.int .u64 n63) ⟨b66, 2, none⟩ w69 fun w70 =>
 st1 (.int .u64 n64) ⟨b66, 3, none⟩ w70 fun w71 =>
 JoinT (fun (J120 : cmd_Decode_J61.S → World → Prop) =>
  cnd (n65 != 0)
  (J120 ((true : Bool)) w71)
  (ldI .u64 ⟨b66, 0, none⟩ w71 fun n121 =>
  ldI .u64 ⟨b66, 1, none⟩ w71 fun n122 =>
  ldI .u64 ⟨b66, 2, none⟩ w71 fun n123 =>
  ldI .u64 ⟨b66, 3, none⟩ w71 fun n124 =>
  ldI .u64 ⟨b5, 0, none⟩ w71 fun n125 =>
  ldI .u64 ⟨b5, 1, none⟩ w71 fun n126 =>
  ldI .u64 ⟨b5, 2, none⟩ w71 fun n127 =>
  ldI .u64 ⟨b5, 3, none⟩ w71 fun n128 =>
  eqA P .neq T.t26 (.agg [.int .u64 n121, .int .u64 n122, .int .u64 n123, .int .u64 n124].toArray) (.agg [.int .u64 n125, .int .u64 n126, .int .u64 n127, .int .u64 n128].toArray) w71 fun b129 =>
  J120 ((b129 : Bool)) w71))
  fun (s130 : cmd_Decode_J61.S) w131 => cmd_Decode_j1 Q b7 b11 s130 w131)

def cmd_Decode (a0_0 : Int) (a0_1 : Int) (a0_2 : Int) (a0_3 : Int) (w : World) (Q : Value → World → Prop) : Prop :=
 alc [.int .u64 a0_0, .int .u64 a0_1, .int .u64 a0_2, .int .u64 a0_3] T.t26 w fun b5 w6 =>
 alc [.int .i64 0, .int .i64 0, .int .i64 0, .int .i64 0, .int .i64 0, .int .i64 0, .int .i64 0, .int .i64 0, .bool false] T.t24 w6 fun b7 w8 =>
 ix 0 4 fun j9 =>
 ldI .u64 (Addr.add ⟨b5, 0, none⟩ (j9 * 1)) w8 fun n10 =>
 alc [.int .i64 0, .int .i64 0, .int .i64 0, .int .i64 0, .int .i64 0, .int .i64 0, .int .i64 0, .int .i64 0, .bool false] T.t24 w8 fun b11 w12 =>
 st1 (.int .i64 (IntKind.i64.wrap ((bitX .and .u64 n10 255)))) ⟨b11, 0, none⟩ w12 fun w13 =>
 st1 (.int .i64 0) ⟨b11, 1, none⟩ w13 fun w14 =>
 st1 (.int .i64 0) ⟨b11, 2, none⟩ w14 fun w15 =>
 st1 (.int .i64 0) ⟨b11, 3, none⟩ w15 fun w16 =>
 st1 (.int .i64 0) ⟨b11, 4, none⟩ w16 fun w17 =>
 st1 (.int .i64 0) ⟨b11, 5, none⟩ w17 fun w18 =>
 st1 (.int .i64 0) ⟨b11, 6, none⟩ w18 fun w19 =>
 st1 (.int .i64 0) ⟨b11, 7, none⟩ w19 fun w20 =>
 st1 (.bool false) ⟨b11, 8, none⟩ w20 fun w21 =>
 LoopT (fun (s132 : cmd_Decode_L58.S) w133 A134 => cmd_Decode_l2 Q b5 b7 b11 s132 w133 A134) ((0 : Int)) w21
def cmd_Decode_ann : Nat → Option LoopSpec := fun
  | 58 => some cmd_Decode_L58
  | 466 => some cmd_Decode_J466
  | 7462 => some (ordSpec [0, 1, 2, 3, 4, 5, 6, 7, 8, 9, 10, 11, 12, 13, 14])
  | 61 => some cmd_Decode_J61
  | _ => none
theorem cmd_Decode_eq (a0_0 : Int) (a0_1 : Int) (a0_2 : Int) (a0_3 : Int) (w : World) (Q : Value → World → Prop) : fnX P cmd_Decode_ann Tryd.f12 [.agg [.int .u64 a0_0, .int .u64 a0_1, .int .u64 a0_2, .int .u64 a0_3].toArray] w Q = cmd_Decode a0_0 a0_1 a0_2 a0_3 w Q := by kernel_rfl
theorem cmd_Decode_cv {a0_0 : Int} {a0_1 : Int} {a0_2 : Int} {a0_3 : Int} {w : World} {Q : Value → World → Prop} (h : cmd_Decode a0_0 a0_1 a0_2 a0_3 w Q) : CV P F.cmd_Decode [.agg [.int .u64 a0_0, .int .u64 a0_1, .int .u64 a0_2, .int .u64 a0_3].toArray] w Q := CV_of mixed Tryd.func12 (cmd_Decode_eq a0_0 a0_1 a0_2 a0_3 w Q ▸ h)

end Go.Proofs.YtggmapokmlbgbaaDoor
