/-
  The functions' words, printed by Gen.lean out of the translation.
-/
import Derived.Test.YtbnadobjnmboiaaDoorFn0
namespace Go.Proofs.YtbnadobjnmboiaaDoor
open Go X
set_option maxRecDepth 100000
set_option linter.unusedVariables false
/- 14 crier/text.Parse -/
def text_Parse_J30 : LoopSpec where
  S := Bool
  emb := fun s => [(34, .bool s)]
  ext := fun t => match getL t 34 with
    | some (.bool y23) => some (y23)
    | _ => none
  slots := [34]
  fits := fun _ => rfl
  ok := by
    intro t s h x hx
    (try dsimp only at h hx)
    split at h
    · cases h
      simp only [List.mem_cons, List.not_mem_nil, or_false] at hx
      rcases hx with rfl <;> assumption
    · cases h

def text_Parse_L506 : LoopSpec where
  S := Int
  emb := fun s => [(42, .int .i64 s)]
  ext := fun t => match getL t 42 with
    | some (.int .i64 y69) => some (y69)
    | _ => none
  slots := [42]
  fits := fun _ => rfl
  ok := by
    intro t s h x hx
    (try dsimp only at h hx)
    split at h
    · cases h
      simp only [List.mem_cons, List.not_mem_nil, or_false] at hx
      rcases hx with rfl <;> assumption
    · cases h

def text_Parse_J509 : LoopSpec where
  S := Bool
  emb := fun s => [(83, .bool s)]
  ext := fun t => match getL t 83 with
    | some (.bool y148) => some (y148)
    | _ => none
  slots := [83]
  fits := fun _ => rfl
  ok := by
    intro t s h x hx
    (try dsimp only at h hx)
    split at h
    · cases h
      simp only [List.mem_cons, List.not_mem_nil, or_false] at hx
      rcases hx with rfl <;> assumption
    · cases h

def text_Parse_j0 (Q : Value → World → Prop) (b2 : Nat) (b53 : Nat) (b149 : Bool) (w150 : World) : Prop :=
 cnd b149
 (st1 (.int .i64 0) ⟨b2, 0, none⟩ w150 fun w151 =>
 st1 (.int .i64 0) ⟨b2, 1, none⟩ w151 fun w152 =>
 st1 (.int .i64 0) ⟨b2, 2, none⟩ w152 fun w153 =>
 st1 (.int .i64 0) ⟨b2, 3, none⟩ w153 fun w154 =>
 st1 (.int .i64 0) ⟨b2, 4, none⟩ w154 fun w155 =>
 st1 (.int .i64 0) ⟨b2, 5, none⟩ w155 fun w156 =>
 st1 (.int .i64 0) ⟨b2, 6, none⟩ w156 fun w157 =>
 st1 (.int .i64 0) ⟨b2, 7, none⟩ w157 fun w158 =>
 st1 (.int .i64 0) ⟨b2, 8, none⟩ w158 fun w159 =>
 st1 (.int .i64 0) ⟨b2, 9, none⟩ w159 fun w160 =>
 st1 (.int .i64 0) ⟨b2, 10, none⟩ w160 fun w161 =>
 st1 (.int .u64 0) ⟨b2, 11, none⟩ w161 fun w162 =>
 st1 (.bool false) ⟨b2, 12, none⟩ w162 fun w163 =>
 ldI .i64 ⟨b2, 0, none⟩ w163 fun n164 =>
 ldI .i64 ⟨b2, 1, none⟩ w163 fun n165 =>
 ldI .i64 ⟨b2, 2, none⟩ w163 fun n166 =>
 ldI .i64 ⟨b2, 3, none⟩ w163 fun n167 =>
 ldI .i64 ⟨b2, 4, none⟩ w163 fun n168 =>
 ldI .i64 ⟨b2, 5, none⟩ w163 fun n169 =>
 ldI .i64 ⟨b2, 6, none⟩ w163 fun n170 =>
 ldI .i64 ⟨b2, 7, none⟩ w163 fun n171 =>
 ldI .i64 ⟨b2, 8, none⟩ w163 fun n172 =>
 ldI .i64 ⟨b2, 9, none⟩ w163 fun n173 =>
 ldI .i64 ⟨b2, 10, none⟩ w163 fun n174 =>
 ldI .u64 ⟨b2, 11, none⟩ w163 fun n175 =>
 ldB ⟨b2, 12, none⟩ w163 fun b176 =>
 Q (.tuple [.agg [.int .i64 n164, .int .i64 n165, .int .i64 n166, .int .i64 n167, .int .i64 n168, .int .i64 n169, .int .i64 n170, .int .i64 n171, .int .i64 n172, .int .i64 n173, .int .i64 n174, .int .u64 n175, .bool b176].toArray, .int .i64 290].toArray) w163)
 (ldI .i64 ⟨b53, 0, none⟩ w150 fun n177 =>
 ldI .i64 ⟨b53, 1, none⟩ w150 fun n178 =>
 ldI .i64 ⟨b53, 2, none⟩ w150 fun n179 =>
 ldI .i64 ⟨b53, 3, none⟩ w150 fun n180 =>
 ldI .i64 ⟨b53, 4, none⟩ w150 fun n181 =>
 ldI .i64 ⟨b53, 5, none⟩ w150 fun n182 =>
 ldI .i64 ⟨b53, 6, none⟩ w150 fun n183 =>
 ldI .i64 ⟨b53, 7, none⟩ w150 fun n184 =>
 ldI .i64 ⟨b53, 8, none⟩ w150 fun n185 =>
 ldI .i64 ⟨b53, 9, none⟩ w150 fun n186 =>
 ldI .i64 ⟨b53, 10, none⟩ w150 fun n187 =>
 ldI .u64 ⟨b53, 11, none⟩ w150 fun n188 =>
 ldB ⟨b53, 12, none⟩ w150 fun b189 =>
 st1 (.int .i64 n177) ⟨b2, 0, none⟩ w150 fun w190 =>
 st1 (.int .i64 n178) ⟨b2, 1, none⟩ w190 fun w191 =>
 st1 (.int .i64 n179) ⟨b2, 2, none⟩ w191 fun w192 =>
 st1 (.int .i64 n180) ⟨b2, 3, none⟩ w192 fun w193 =>
 st1 (.int .i64 n181) ⟨b2, 4, none⟩ w193 fun w194 =>
 st1 (.int .i64 n182) ⟨b2, 5, none⟩ w194 fun w195 =>
 st1 (.int .i64 n183) ⟨b2, 6, none⟩ w195 fun w196 =>
 st1 (.int .i64 n184) ⟨b2, 7, none⟩ w196 fun w197 =>
 st1 (.int .i64 n185) ⟨b2, 8, none⟩ w197 fun w198 =>
 st1 (.int .i64 n186) ⟨b2, 9, none⟩ w198 fun w199 =>
 st1 (.int .i64 n187) ⟨b2, 10, none⟩ w199 fun w200 =>
 st1 (.int .u64 n188) ⟨b2, 11, none⟩ w200 fun w201 =>
 st1 (.bool b189) ⟨b2, 12, none⟩ w201 fun w202 =>
 ldI .i64 ⟨b2, 0, none⟩ w202 fun n203 =>
 ldI .i64 ⟨b2, 1, none⟩ w202 fun n204 =>
 ldI .i64 ⟨b2, 2, none⟩ w202 fun n205 =>
 ldI .i64 ⟨b2, 3, none⟩ w202 fun n206 =>
 ldI .i64 ⟨b2, 4, none⟩ w202 fun n207 =>
 ldI .i64 ⟨b2, 5, none⟩ w202 fun n208 =>
 ldI .i64 ⟨b2, 6, none⟩ w202 fun n209 =>
 ldI .i64 ⟨b2, 7, none⟩ w202 fun n210 =>
 ldI .i64 ⟨b2, 8, none⟩ w202 fun n211 =>
 ldI .i64 ⟨b2, 9, none⟩ w202 fun n212 =>
 ldI .i64 ⟨b2, 10, none⟩ w202 fun n213 =>
 ldI .u64 ⟨b2, 11, none⟩ w202 fun n214 =>
 ldB ⟨b2, 12, none⟩ w202 fun b215 =>
 Q (.tuple [.agg [.int .i64 n203, .int .i64 n204, .int .i64 n205, .int .i64 n206, .int .i64 n207, .int .i64 n208, .int .i64 n209, .int .i64 n210, .int .i64 n211, .int .i64 n212, .int .i64 n213, .int .u64 n214, .bool b215].toArray, .int .i64 0].toArray) w202)

def text_Parse_l1 (a0 : ByteArray) (Q : Value → World → Prop) (b2 : Nat) (p6 : Option Addr) (l7 : Nat) (b18 : Nat) (b53 : Nat) (s68 : ByteArray) (n70 : Int) (w71 : World) (A72 : text_Parse_L506.S → World → Prop) : Prop :=
 cnd (decide (n70 < (((s68 : ByteArray).size : Nat) : Int)))
 (ix (IntKind.i64.wrap (1 + n70)) l7 fun j73 => nn p6 fun a74 =>
 ldS (a74.add (j73 * 1)) w71 fun s75 =>
 CV P F.strconv_Atoi [.string s75] w71 fun v76 w77 =>
 ∃ n78 : Int, ∃ v79 : Value, v76 = .tuple [.int .i64 n78, v79].toArray ∧
 ix (IntKind.i64.wrap (1 + n70)) l7 fun j80 => nn p6 fun a81 =>
 ldS (a81.add (j80 * 1)) w77 fun s82 =>
 CV P F.strconv_ParseUint [.string s82, .int .i64 10, .int .i64 64] w77 fun v83 w84 =>
 ∃ n85 : Int, ∃ v86 : Value, v83 = .tuple [.int .u64 n85, v86].toArray ∧
 drw w84 fun w87 =>
 ldI .i64 ⟨b53, 0, none⟩ w87 fun n88 =>
 ldI .i64 ⟨b53, 1, none⟩ w87 fun n89 =>
 ldI .i64 ⟨b53, 2, none⟩ w87 fun n90 =>
 ldI .i64 ⟨b53, 3, none⟩ w87 fun n91 =>
 ldI .i64 ⟨b53, 4, none⟩ w87 fun n92 =>
 ldI .i64 ⟨b53, 5, none⟩ w87 fun n93 =>
 ldI .i64 ⟨b53, 6, none⟩ w87 fun n94 =>
 ldI .i64 ⟨b53, 7, none⟩ w87 fun n95 =>
 ldI .i64 ⟨b53, 8, none⟩ w87 fun n96 =>
 ldI .i64 ⟨b53, 9, none⟩ w87 fun n97 =>
 ldI .i64 ⟨b53, 10, none⟩ w87 fun n98 =>
 ldI .u64 ⟨b53, 11, none⟩ w87 fun n99 =>
 ldB ⟨b53, 12, none⟩ w87 fun b100 =>
 ldS ⟨b18, 2, none⟩ w87 fun s101 =>
 sx s101 n70 fun n102 =>
 CV P F.text_with [.agg [.int .i64 n88, .int .i64 n89, .int .i64 n90, .int .i64 n91, .int .i64 n92, .int .i64 n93, .int .i64 n94, .int .i64 n95, .int .i64 n96, .int .i64 n97, .int .i64 n98, .int .u64 n99, .bool b100].toArray, .int .u8 n102, .int .i64 n78, .int .u64 n85] w87 fun v103 w104 =>
 ∃ n105 : Int, ∃ n106 : Int, ∃ n107 : Int, ∃ n108 : Int, ∃ n109 : Int, ∃ n110 : Int, ∃ n111 : Int, ∃ n112 : Int, ∃ n113 : Int, ∃ n114 : Int, ∃ n115 : Int, ∃ n116 : Int, ∃ b117 : Bool, v103 = .agg [.int .i64 n105, .int .i64 n106, .int .i64 n107, .int .i64 n108, .int .i64 n109, .int .i64 n110, .int .i64 n111, .int .i64 n112, .int .i64 n113, .int .i64 n114, .int .i64 n115, .int .u64 n116, .bool b117].toArray ∧
 st1 (.int .i64 n105) ⟨b53, 0, none⟩ w104 fun w118 =>
 st1 (.int .i64 n106) ⟨b53, 1, none⟩ w118 fun w119 =>
 st1 (.int .i64 n107) ⟨b53, 2, none⟩ w119 fun w120 =>
 st1 (.int .i64 n108) ⟨b53, 3, none⟩ w120 fun w121 =>
 st1 (.int .i64 n109) ⟨b53, 4, none⟩ w121 fun w122 =>
 st1 (.int .i64 n110) ⟨b53, 5, none⟩ w122 fun w123 =>
 st1 (.int .i64 n111) ⟨b53, 6, none⟩ w123 fun w124 =>
 st1 (.int .i64 n112) ⟨b53, 7, none⟩ w124 fun w125 =>
 st1 (.int .i64 n113) ⟨b53, 8, none⟩ w125 fun w126 =>
 st1 (.int .i64 n114) ⟨b53, 9, none⟩ w126 fun w127 =>
 st1 (.int .i64 n115) ⟨b53, 10, none⟩ w127 fun w128 =>
 st1 (.int .u64 n116) ⟨b53, 11, none⟩ w128 fun w129 =>
 st1 (.bool b117) ⟨b53, 12, none⟩ w129 fun w130 =>
 A72 (((IntKind.i64.wrap (n70 + 1)) : Int)) w130)
 (ldI .i64 ⟨b53, 0, none⟩ w71 fun n131 =>
 ldI .i64 ⟨b53, 1, none⟩ w71 fun n132 =>
 ldI .i64 ⟨b53, 2, none⟩ w71 fun n133 =>
 ldI .i64 ⟨b53, 3, none⟩ w71 fun n134 =>
 ldI .i64 ⟨b53, 4, none⟩ w71 fun n135 =>
 ldI .i64 ⟨b53, 5, none⟩ w71 fun n136 =>
 ldI .i64 ⟨b53, 6, none⟩ w71 fun n137 =>
 ldI .i64 ⟨b53, 7, none⟩ w71 fun n138 =>
 ldI .i64 ⟨b53, 8, none⟩ w71 fun n139 =>
 ldI .i64 ⟨b53, 9, none⟩ w71 fun n140 =>
 ldI .i64 ⟨b53, 10, none⟩ w71 fun n141 =>
 ldI .u64 ⟨b53, 11, none⟩ w71 fun n142 =>
 ldB ⟨b53, 12, none⟩ w71 fun b143 =>
 CV P F.text_Print [.agg [.int .i64 n131, .int .i64 n132, .int .i64 n133, .int .i64 n134, .int .i64 n135, .int .i64 n136, .int .i64 n137, .int .i64 n138, .int .i64 n139, .int .i64 n140, .int .i64 n141, .int .u64 n142, .bool b143].toArray] w71 fun v144 w145 =>
 ∃ s146 : ByteArray, ∃ n147 : Int, v144 = .tuple [.string s146, .int .i64 n147].toArray ∧
 JoinT (fun (J216 : text_Parse_J509.S → World → Prop) =>
  cnd (n147 != 0)
  (J216 ((true : Bool)) w145)
  (J216 (((!((s146 : ByteArray).toList == (a0 : ByteArray).toList)) : Bool)) w145))
  fun (s217 : text_Parse_J509.S) w218 => text_Parse_j0 Q b2 b53 s217 w218)

def text_Parse_j2 (a0 : ByteArray) (Q : Value → World → Prop) (b2 : Nat) (p6 : Option Addr) (l7 : Nat) (b18 : Nat) (b24 : Bool) (w25 : World) : Prop :=
 cnd b24
 (st1 (.int .i64 0) ⟨b2, 0, none⟩ w25 fun w26 =>
 st1 (.int .i64 0) ⟨b2, 1, none⟩ w26 fun w27 =>
 st1 (.int .i64 0) ⟨b2, 2, none⟩ w27 fun w28 =>
 st1 (.int .i64 0) ⟨b2, 3, none⟩ w28 fun w29 =>
 st1 (.int .i64 0) ⟨b2, 4, none⟩ w29 fun w30 =>
 st1 (.int .i64 0) ⟨b2, 5, none⟩ w30 fun w31 =>
 st1 (.int .i64 0) ⟨b2, 6, none⟩ w31 fun w32 =>
 st1 (.int .i64 0) ⟨b2, 7, none⟩ w32 fun w33 =>
 st1 (.int .i64 0) ⟨b2, 8, none⟩ w33 fun w34 =>
 st1 (.int .i64 0) ⟨b2, 9, none⟩ w34 fun w35 =>
 st1 (.int .i64 0) ⟨b2, 10, none⟩ w35 fun w36 =>
 st1 (.int .u64 0) ⟨b2, 11, none⟩ w36 fun w37 =>
 st1 (.bool false) ⟨b2, 12, none⟩ w37 fun w38 =>
 ldI .i64 ⟨b2, 0, none⟩ w38 fun n39 =>
 ldI .i64 ⟨b2, 1, none⟩ w38 fun n40 =>
 ldI .i64 ⟨b2, 2, none⟩ w38 fun n41 =>
 ldI .i64 ⟨b2, 3, none⟩ w38 fun n42 =>
 ldI .i64 ⟨b2, 4, none⟩ w38 fun n43 =>
 ldI .i64 ⟨b2, 5, none⟩ w38 fun n44 =>
 ldI .i64 ⟨b2, 6, none⟩ w38 fun n45 =>
 ldI .i64 ⟨b2, 7, none⟩ w38 fun n46 =>
 ldI .i64 ⟨b2, 8, none⟩ w38 fun n47 =>
 ldI .i64 ⟨b2, 9, none⟩ w38 fun n48 =>
 ldI .i64 ⟨b2, 10, none⟩ w38 fun n49 =>
 ldI .u64 ⟨b2, 11, none⟩ w38 fun n50 =>
 ldB ⟨b2, 12, none⟩ w38 fun b51 =>
 Q (.tuple [.agg [.int .i64 n39, .int .i64 n40, .int .i64 n41, .int .i64 n42, .int .i64 n43, .int .i64 n44, .int .i64 n45, .int .i64 n46, .int .i64 n47, .int .i64 n48, .int .i64 n49, .int .u64 n50, .bool b51].toArray, .int .i64 290].toArray) w38)
 (ldI .i64 ⟨b18, 0, none⟩ w25 fun n52 =>
 alc [.int .i64 0, .int .i64 0, .int .i64 0, .int .i64 0, .int .i64 0, .int .i64 0, .int .i64 0, .int .i64 0, .int .i64 0, .int .i64 0, .int .i64 0, .int .u64 0, .bool false] T.t40 w25 fun b53 w54 =>
 st1 (.int .i64 n52) ⟨b53, 0, none⟩ w54 fun w55 =>
 st1 (.int .i64 0) ⟨b53, 1, none⟩ w55 fun w56 =>
 st1 (.int .i64 0) ⟨b53, 2, none⟩ w56 fun w57 =>
 st1 (.int .i64 0) ⟨b53, 3, none⟩ w57 fun w58 =>
 st1 (.int .i64 0) ⟨b53, 4, none⟩ w58 fun w59 =>
 st1 (.int .i64 0) ⟨b53, 5, none⟩ w59 fun w60 =>
 st1 (.int .i64 0) ⟨b53, 6, none⟩ w60 fun w61 =>
 st1 (.int .i64 0) ⟨b53, 7, none⟩ w61 fun w62 =>
 st1 (.int .i64 0) ⟨b53, 8, none⟩ w62 fun w63 =>
 st1 (.int .i64 0) ⟨b53, 9, none⟩ w63 fun w64 =>
 st1 (.int .i64 0) ⟨b53, 10, none⟩ w64 fun w65 =>
 st1 (.int .u64 0) ⟨b53, 11, none⟩ w65 fun w66 =>
 st1 (.bool false) ⟨b53, 12, none⟩ w66 fun w67 =>
 ldS ⟨b18, 2, none⟩ w67 fun s68 =>
 LoopT (fun (s219 : text_Parse_L506.S) w220 A221 => text_Parse_l1 a0 Q b2 p6 l7 b18 b53 s68 s219 w220 A221) ((0 : Int)) w67)

def text_Parse (a0 : ByteArray) (w : World) (Q : Value → World → Prop) : Prop :=
 alc [.int .i64 0, .int .i64 0, .int .i64 0, .int .i64 0, .int .i64 0, .int .i64 0, .int .i64 0, .int .i64 0, .int .i64 0, .int .i64 0, .int .i64 0, .int .u64 0, .bool false] T.t40 w fun b2 w3 =>
 CV P F.strings_Split [.string a0, .string ⟨#[32]⟩] w3 fun v4 w5 =>
 ∃ (p6 : Option Addr) (l7 c8 : Nat), v4 = .slice p6 l7 c8 ∧
 ix 0 l7 fun j9 => nn p6 fun a10 =>
 ldS (a10.add (j9 * 1)) w5 fun s11 =>
 CV P F.text_find [.string s11, .int .i64 0] w5 fun v12 w13 =>
 ∃ n14 : Int, ∃ s15 : ByteArray, ∃ s16 : ByteArray, ∃ b17 : Bool, v12 = .tuple [.agg [.int .i64 n14, .string s15, .string s16].toArray, .bool b17].toArray ∧
 alc [.int .i64 0, .string ⟨#[]⟩, .string ⟨#[]⟩] T.t64 w13 fun b18 w19 =>
 st1 (.int .i64 n14) ⟨b18, 0, none⟩ w19 fun w20 =>
 st1 (.string s15) ⟨b18, 1, none⟩ w20 fun w21 =>
 st1 (.string s16) ⟨b18, 2, none⟩ w21 fun w22 =>
 JoinT (fun (J222 : text_Parse_J30.S → World → Prop) =>
  cnd (!b17)
  (J222 ((true : Bool)) w22)
  (ldS ⟨b18, 2, none⟩ w22 fun s223 =>
  J222 (((((l7 : Nat) : Int) != (IntKind.i64.wrap (1 + (((s223 : ByteArray).size : Nat) : Int)))) : Bool)) w22))
  fun (s224 : text_Parse_J30.S) w225 => text_Parse_j2 a0 Q b2 p6 l7 b18 s224 w225
def text_Parse_ann : Nat → Option LoopSpec := fun
  | 30 => some text_Parse_J30
  | 506 => some text_Parse_L506
  | 129639 => some (ordSpec [0, 1, 2, 3, 4, 5, 6, 7, 8])
  | 509 => some text_Parse_J509
  | _ => none
theorem text_Parse_eq (a0 : ByteArray) (w : World) (Q : Value → World → Prop) : fnX P text_Parse_ann Tryd.f14 [.string a0] w Q = text_Parse a0 w Q := by kernel_rfl
theorem text_Parse_cv {a0 : ByteArray} {w : World} {Q : Value → World → Prop} (h : text_Parse a0 w Q) : CV P F.text_Parse [.string a0] w Q := CV_of mixed Tryd.func14 (text_Parse_eq a0 w Q ▸ h)

/- 15 crier/text.Print -/
def text_Print_L250 : LoopSpec where
  S := (Option Addr × Nat × Nat) × Int
  emb := fun s => [(6, .slice s.1.1 s.1.2.1 s.1.2.2), (24, .int .i64 s.2)]
  ext := fun t => match getL t 6, getL t 24 with
    | some (.slice y36 y37 y38), some (.int .i64 y39) => some ((y36, y37, y38), y39)
    | _, _ => none
  slots := [6, 24]
  fits := fun _ => rfl
  ok := by
    intro t s h x hx
    (try dsimp only at h hx)
    split at h
    · cases h
      simp only [List.mem_cons, List.not_mem_nil, or_false] at hx
      rcases hx with rfl | rfl <;> assumption
    · cases h

def text_Print_l0 (Q : Value → World → Prop) (b14 : Nat) (p32 : Option Addr) (l33 : Nat) (p40 : Option Addr) (l41 : Nat) (c42 : Nat) (n43 : Int) (w44 : World) (A45 : text_Print_L250.S → World → Prop) : Prop :=
 cnd (decide (n43 < ((l33 : Nat) : Int)))
 (ix n43 l33 fun j46 => nn p32 fun a47 =>
 ldI .u8 (a47.add (j46 * 1)) w44 fun n48 =>
 ldI .i64 ⟨b14, 0, none⟩ w44 fun n49 =>
 ldI .i64 ⟨b14, 1, none⟩ w44 fun n50 =>
 ldI .i64 ⟨b14, 2, none⟩ w44 fun n51 =>
 ldI .i64 ⟨b14, 3, none⟩ w44 fun n52 =>
 ldI .i64 ⟨b14, 4, none⟩ w44 fun n53 =>
 ldI .i64 ⟨b14, 5, none⟩ w44 fun n54 =>
 ldI .i64 ⟨b14, 6, none⟩ w44 fun n55 =>
 ldI .i64 ⟨b14, 7, none⟩ w44 fun n56 =>
 ldI .i64 ⟨b14, 8, none⟩ w44 fun n57 =>
 ldI .i64 ⟨b14, 9, none⟩ w44 fun n58 =>
 ldI .i64 ⟨b14, 10, none⟩ w44 fun n59 =>
 ldI .u64 ⟨b14, 11, none⟩ w44 fun n60 =>
 ldB ⟨b14, 12, none⟩ w44 fun b61 =>
 CV P F.text_field [.agg [.int .i64 n49, .int .i64 n50, .int .i64 n51, .int .i64 n52, .int .i64 n53, .int .i64 n54, .int .i64 n55, .int .i64 n56, .int .i64 n57, .int .i64 n58, .int .i64 n59, .int .u64 n60, .bool b61].toArray, .int .u8 n48] w44 fun v62 w63 =>
 ∃ s64 : ByteArray, v62 = .string s64 ∧
 alc [.string s64] T.t9 w63 fun b65 w66 =>
 runS P (Builtin.append_ #[T.t24, T.t24] T.t24 [.slice p40 l41 c42, .slice (some ⟨b65, 0, none⟩) 1 1].toArray) w66 fun p67 l68 c69 w70 =>
 A45 (((p67 : Option Addr), (l68 : Nat), (c69 : Nat)), ((IntKind.i64.wrap (n43 + 1)) : Int)) w70)
 (CV P F.strings_Join [.slice p40 l41 c42, .string ⟨#[32]⟩] w44 fun v71 w72 =>
 ∃ s73 : ByteArray, v71 = .string s73 ∧
 Q (.tuple [.string s73, .int .i64 0].toArray) w72)

def text_Print (a0_0 : Int) (a0_1 : Int) (a0_2 : Int) (a0_3 : Int) (a0_4 : Int) (a0_5 : Int) (a0_6 : Int) (a0_7 : Int) (a0_8 : Int) (a0_9 : Int) (a0_10 : Int) (a0_11 : Int) (a0_12 : Bool) (w : World) (Q : Value → World → Prop) : Prop :=
 alc [.int .i64 a0_0, .int .i64 a0_1, .int .i64 a0_2, .int .i64 a0_3, .int .i64 a0_4, .int .i64 a0_5, .int .i64 a0_6, .int .i64 a0_7, .int .i64 a0_8, .int .i64 a0_9, .int .i64 a0_10, .int .u64 a0_11, .bool a0_12] T.t40 w fun b14 w15 =>
 ldI .i64 ⟨b14, 0, none⟩ w15 fun n16 =>
 CV P F.text_find [.string ⟨#[]⟩, .int .i64 n16] w15 fun v17 w18 =>
 ∃ n19 : Int, ∃ s20 : ByteArray, ∃ s21 : ByteArray, ∃ b22 : Bool, v17 = .tuple [.agg [.int .i64 n19, .string s20, .string s21].toArray, .bool b22].toArray ∧
 alc [.int .i64 0, .string ⟨#[]⟩, .string ⟨#[]⟩] T.t64 w18 fun b23 w24 =>
 st1 (.int .i64 n19) ⟨b23, 0, none⟩ w24 fun w25 =>
 st1 (.string s20) ⟨b23, 1, none⟩ w25 fun w26 =>
 st1 (.string s21) ⟨b23, 2, none⟩ w26 fun w27 =>
 cnd (!b22)
 (Q (.tuple [.string ⟨#[]⟩, .int .i64 280].toArray) w27)
 (ldS ⟨b23, 1, none⟩ w27 fun s28 =>
 alc [.string s28] T.t9 w27 fun b29 w30 =>
 ldS ⟨b23, 2, none⟩ w30 fun s31 =>
 runS P (Go.convert T.t9 T.t74 (.string s31)) w30 fun p32 l33 c34 w35 =>
 LoopT (fun (s74 : text_Print_L250.S) w75 A76 => text_Print_l0 Q b14 p32 l33 s74.1.1 s74.1.2.1 s74.1.2.2 s74.2 w75 A76) ((((some ⟨b29, 0, none⟩) : Option Addr), (1 : Nat), (1 : Nat)), (0 : Int)) w35)
def text_Print_ann : Nat → Option LoopSpec := fun
  | 250 => some text_Print_L250
  | _ => none
theorem text_Print_eq (a0_0 : Int) (a0_1 : Int) (a0_2 : Int) (a0_3 : Int) (a0_4 : Int) (a0_5 : Int) (a0_6 : Int) (a0_7 : Int) (a0_8 : Int) (a0_9 : Int) (a0_10 : Int) (a0_11 : Int) (a0_12 : Bool) (w : World) (Q : Value → World → Prop) : fnX P text_Print_ann Tryd.f15 [.agg [.int .i64 a0_0, .int .i64 a0_1, .int .i64 a0_2, .int .i64 a0_3, .int .i64 a0_4, .int .i64 a0_5, .int .i64 a0_6, .int .i64 a0_7, .int .i64 a0_8, .int .i64 a0_9, .int .i64 a0_10, .int .u64 a0_11, .bool a0_12].toArray] w Q = text_Print a0_0 a0_1 a0_2 a0_3 a0_4 a0_5 a0_6 a0_7 a0_8 a0_9 a0_10 a0_11 a0_12 w Q := by kernel_rfl
theorem text_Print_cv {a0_0 : Int} {a0_1 : Int} {a0_2 : Int} {a0_3 : Int} {a0_4 : Int} {a0_5 : Int} {a0_6 : Int} {a0_7 : Int} {a0_8 : Int} {a0_9 : Int} {a0_10 : Int} {a0_11 : Int} {a0_12 : Bool} {w : World} {Q : Value → World → Prop} (h : text_Print a0_0 a0_1 a0_2 a0_3 a0_4 a0_5 a0_6 a0_7 a0_8 a0_9 a0_10 a0_11 a0_12 w Q) : CV P F.text_Print [.agg [.int .i64 a0_0, .int .i64 a0_1, .int .i64 a0_2, .int .i64 a0_3, .int .i64 a0_4, .int .i64 a0_5, .int .i64 a0_6, .int .i64 a0_7, .int .i64 a0_8, .int .i64 a0_9, .int .i64 a0_10, .int .u64 a0_11, .bool a0_12].toArray] w Q := CV_of mixed Tryd.func15 (text_Print_eq a0_0 a0_1 a0_2 a0_3 a0_4 a0_5 a0_6 a0_7 a0_8 a0_9 a0_10 a0_11 a0_12 w Q ▸ h)

/- 16 crier/crierref29.Print -/
def crierref29_Print_J6 : LoopSpec where
  S := Bool
  emb := fun s => [(14, .bool s)]
  ext := fun t => match getL t 14 with
    | some (.bool y16) => some (y16)
    | _ => none
  slots := [14]
  fits := fun _ => rfl
  ok := by
    intro t s h x hx
    (try dsimp only at h hx)
    split at h
    · cases h
      simp only [List.mem_cons, List.not_mem_nil, or_false] at hx
      rcases hx with rfl <;> assumption
    · cases h

def crierref29_Print_L250 : LoopSpec where
  S := ByteArray × Int
  emb := fun s => [(4, .string s.1), (6, .int .i64 s.2)]
  ext := fun t => match getL t 4, getL t 6 with
    | some (.string y41), some (.int .i64 y42) => some (y41, y42)
    | _, _ => none
  slots := [4, 6]
  fits := fun _ => rfl
  ok := by
    intro t s h x hx
    (try dsimp only at h hx)
    split at h
    · cases h
      simp only [List.mem_cons, List.not_mem_nil, or_false] at hx
      rcases hx with rfl | rfl <;> assumption
    · cases h

def crierref29_Print_J2002 : LoopSpec where
  S := ByteArray
  emb := fun s => [(4, .string s)]
  ext := fun t => match getL t 4 with
    | some (.string y47) => some (y47)
    | _ => none
  slots := [4]
  fits := fun _ => rfl
  ok := by
    intro t s h x hx
    (try dsimp only at h hx)
    split at h
    · cases h
      simp only [List.mem_cons, List.not_mem_nil, or_false] at hx
      rcases hx with rfl <;> assumption
    · cases h

def crierref29_Print_j0 (n44 : Int) (A46 : crierref29_Print_L250.S → World → Prop) (s48 : ByteArray) (w49 : World) : Prop :=
 A46 ((s48 : ByteArray), ((IntKind.i64.wrap (n44 + 1)) : Int)) w49

def crierref29_Print_l1 (Q : Value → World → Prop) (b14 : Nat) (s40 : ByteArray) (s43 : ByteArray) (n44 : Int) (w45 : World) (A46 : crierref29_Print_L250.S → World → Prop) : Prop :=
 cnd (decide (n44 < (((s40 : ByteArray).size : Nat) : Int)))
 (JoinT (fun (J50 : crierref29_Print_J2002.S → World → Prop) =>
  sx s40 n44 fun n51 =>
  cnd (n51 == 120)
  ((((s43 : ByteArray).size + (⟨#[32]⟩ : ByteArray).size : Nat) : Int) ≤ IntKind.i64.max ∧
  ldI .u64 ⟨b14, 11, none⟩ w45 fun n52 =>
  CV P F.strconv_FormatUint [.int .u64 n52, .int .i64 10] w45 fun v53 w54 =>
  ∃ s55 : ByteArray, v53 = .string s55 ∧
  ((((s43 ++ ⟨#[32]⟩) : ByteArray).size + (s55 : ByteArray).size : Nat) : Int) ≤ IntKind.i64.max ∧
  J50 ((((s43 ++ ⟨#[32]⟩) ++ s55) : ByteArray)) w54)
  (drw w45 fun w56 =>
  (((s43 : ByteArray).size + (⟨#[32]⟩ : ByteArray).size : Nat) : Int) ≤ IntKind.i64.max ∧
  ldI .i64 ⟨b14, 0, none⟩ w56 fun n57 =>
  ldI .i64 ⟨b14, 1, none⟩ w56 fun n58 =>
  ldI .i64 ⟨b14, 2, none⟩ w56 fun n59 =>
  ldI .i64 ⟨b14, 3, none⟩ w56 fun n60 =>
  ldI .i64 ⟨b14, 4, none⟩ w56 fun n61 =>
  ldI .i64 ⟨b14, 5, none⟩ w56 fun n62 =>
  ldI .i64 ⟨b14, 6, none⟩ w56 fun n63 =>
  ldI .i64 ⟨b14, 7, none⟩ w56 fun n64 =>
  ldI .i64 ⟨b14, 8, none⟩ w56 fun n65 =>
  ldI .i64 ⟨b14, 9, none⟩ w56 fun n66 =>
  ldI .i64 ⟨b14, 10, none⟩ w56 fun n67 =>
  ldI .u64 ⟨b14, 11, none⟩ w56 fun n68 =>
  ldB ⟨b14, 12, none⟩ w56 fun b69 =>
  sx s40 n44 fun n70 =>
  CV P F.crierref29_number [.agg [.int .i64 n57, .int .i64 n58, .int .i64 n59, .int .i64 n60, .int .i64 n61, .int .i64 n62, .int .i64 n63, .int .i64 n64, .int .i64 n65, .int .i64 n66, .int .i64 n67, .int .u64 n68, .bool b69].toArray, .int .u8 n70] w56 fun v71 w72 =>
  ∃ n73 : Int, v71 = .int .i64 n73 ∧
  CV P F.strconv_Itoa [.int .i64 n73] w72 fun v74 w75 =>
  ∃ s76 : ByteArray, v74 = .string s76 ∧
  ((((s43 ++ ⟨#[32]⟩) : ByteArray).size + (s76 : ByteArray).size : Nat) : Int) ≤ IntKind.i64.max ∧
  J50 ((((s43 ++ ⟨#[32]⟩) ++ s76) : ByteArray)) w75))
  fun (s77 : crierref29_Print_J2002.S) w78 => crierref29_Print_j0 n44 A46 s77 w78)
 (Q (.tuple [.string s43, .bool true].toArray) w45)

def crierref29_Print_j2 (Q : Value → World → Prop) (b14 : Nat) (b17 : Bool) (w18 : World) : Prop :=
 cnd b17
 (Q (.tuple [.string ⟨#[]⟩, .bool false].toArray) w18)
 (drw w18 fun w19 =>
 ldI .i64 ⟨b14, 0, none⟩ w19 fun n20 =>
 CV P F.crierref29_Names [] w19 fun v21 w22 =>
 ∃ (p23 : Option Addr) (l24 c25 : Nat), v21 = .slice p23 l24 c25 ∧
 (ldI .i64 ⟨b14, 0, none⟩ w22 fun n26 =>
 ((.int .i64 n26 : Value) = .int .i64 n20)) ∧
 ix (IntKind.i64.wrap (n20 - 1)) l24 fun j27 => nn p23 fun a28 =>
 ldS (a28.add (j27 * 1)) w22 fun s29 =>
 drw w22 fun w30 =>
 ldI .i64 ⟨b14, 0, none⟩ w30 fun n31 =>
 CV P F.crierref29_Fields [] w30 fun v32 w33 =>
 ∃ (p34 : Option Addr) (l35 c36 : Nat), v32 = .slice p34 l35 c36 ∧
 (ldI .i64 ⟨b14, 0, none⟩ w33 fun n37 =>
 ((.int .i64 n37 : Value) = .int .i64 n31)) ∧
 ix (IntKind.i64.wrap (n31 - 1)) l35 fun j38 => nn p34 fun a39 =>
 ldS (a39.add (j38 * 1)) w33 fun s40 =>
 LoopT (fun (s79 : crierref29_Print_L250.S) w80 A81 => crierref29_Print_l1 Q b14 s40 s79.1 s79.2 w80 A81) ((s29 : ByteArray), (0 : Int)) w33)

def crierref29_Print (a0_0 : Int) (a0_1 : Int) (a0_2 : Int) (a0_3 : Int) (a0_4 : Int) (a0_5 : Int) (a0_6 : Int) (a0_7 : Int) (a0_8 : Int) (a0_9 : Int) (a0_10 : Int) (a0_11 : Int) (a0_12 : Bool) (w : World) (Q : Value → World → Prop) : Prop :=
 alc [.int .i64 a0_0, .int .i64 a0_1, .int .i64 a0_2, .int .i64 a0_3, .int .i64 a0_4, .int .i64 a0_5, .int .i64 a0_6, .int .i64 a0_7, .int .i64 a0_8, .int .i64 a0_9, .int .i64 a0_10, .int .u64 a0_11, .bool a0_12] T.t40 w fun b14 w15 =>
 JoinT (fun (J82 : crierref29_Print_J6.S → World → Prop) =>
  ldI .i64 ⟨b14, 0, none⟩ w15 fun n83 =>
  cnd (decide (n83 < 1))
  (J82 ((true : Bool)) w15)
  (ldI .i64 ⟨b14, 0, none⟩ w15 fun n84 =>
  J82 (((decide (n84 > 12)) : Bool)) w15))
  fun (s85 : crierref29_Print_J6.S) w86 => crierref29_Print_j2 Q b14 s85 w86
def crierref29_Print_ann : Nat → Option LoopSpec := fun
  | 6 => some crierref29_Print_J6
  | 14 => some (ordSpec [1, 2, 3, 0, 4, 5, 6])
  | 30 => some (ordSpec [1, 2, 3, 0, 4, 5, 6])
  | 250 => some crierref29_Print_L250
  | 2002 => some crierref29_Print_J2002
  | 16019 => some (ordSpec [0, 1, 2, 3, 4, 5, 6, 7, 8, 9])
  | _ => none
theorem crierref29_Print_eq (a0_0 : Int) (a0_1 : Int) (a0_2 : Int) (a0_3 : Int) (a0_4 : Int) (a0_5 : Int) (a0_6 : Int) (a0_7 : Int) (a0_8 : Int) (a0_9 : Int) (a0_10 : Int) (a0_11 : Int) (a0_12 : Bool) (w : World) (Q : Value → World → Prop) : fnX P crierref29_Print_ann Tryd.f16 [.agg [.int .i64 a0_0, .int .i64 a0_1, .int .i64 a0_2, .int .i64 a0_3, .int .i64 a0_4, .int .i64 a0_5, .int .i64 a0_6, .int .i64 a0_7, .int .i64 a0_8, .int .i64 a0_9, .int .i64 a0_10, .int .u64 a0_11, .bool a0_12].toArray] w Q = crierref29_Print a0_0 a0_1 a0_2 a0_3 a0_4 a0_5 a0_6 a0_7 a0_8 a0_9 a0_10 a0_11 a0_12 w Q := by kernel_rfl
theorem crierref29_Print_cv {a0_0 : Int} {a0_1 : Int} {a0_2 : Int} {a0_3 : Int} {a0_4 : Int} {a0_5 : Int} {a0_6 : Int} {a0_7 : Int} {a0_8 : Int} {a0_9 : Int} {a0_10 : Int} {a0_11 : Int} {a0_12 : Bool} {w : World} {Q : Value → World → Prop} (h : crierref29_Print a0_0 a0_1 a0_2 a0_3 a0_4 a0_5 a0_6 a0_7 a0_8 a0_9 a0_10 a0_11 a0_12 w Q) : CV P F.crierref29_Print [.agg [.int .i64 a0_0, .int .i64 a0_1, .int .i64 a0_2, .int .i64 a0_3, .int .i64 a0_4, .int .i64 a0_5, .int .i64 a0_6, .int .i64 a0_7, .int .i64 a0_8, .int .i64 a0_9, .int .i64 a0_10, .int .u64 a0_11, .bool a0_12].toArray] w Q := CV_of mixed Tryd.func16 (crierref29_Print_eq a0_0 a0_1 a0_2 a0_3 a0_4 a0_5 a0_6 a0_7 a0_8 a0_9 a0_10 a0_11 a0_12 w Q ▸ h)

/- 17 crier/text.Plain -/
def text_Plain_L250 : LoopSpec where
  S := Int
  emb := fun s => [(27, .int .i64 s)]
  ext := fun t => match getL t 27 with
    | some (.int .i64 y77) => some (y77)
    | _ => none
  slots := [27]
  fits := fun _ => rfl
  ok := by
    intro t s h x hx
    (try dsimp only at h hx)
    split at h
    · cases h
      simp only [List.mem_cons, List.not_mem_nil, or_false] at hx
      rcases hx with rfl <;> assumption
    · cases h

def text_Plain_l0 (Q : Value → World → Prop) (b14 : Nat) (b16 : Nat) (b57 : Nat) (p73 : Option Addr) (l74 : Nat) (n78 : Int) (w79 : World) (A80 : text_Plain_L250.S → World → Prop) : Prop :=
 cnd (decide (n78 < ((l74 : Nat) : Int)))
 (ix n78 l74 fun j81 => nn p73 fun a82 =>
 ldI .u8 (a82.add (j81 * 1)) w79 fun n83 =>
 ldI .i64 ⟨b14, 0, none⟩ w79 fun n84 =>
 ldI .i64 ⟨b14, 1, none⟩ w79 fun n85 =>
 ldI .i64 ⟨b14, 2, none⟩ w79 fun n86 =>
 ldI .i64 ⟨b14, 3, none⟩ w79 fun n87 =>
 ldI .i64 ⟨b14, 4, none⟩ w79 fun n88 =>
 ldI .i64 ⟨b14, 5, none⟩ w79 fun n89 =>
 ldI .i64 ⟨b14, 6, none⟩ w79 fun n90 =>
 ldI .i64 ⟨b14, 7, none⟩ w79 fun n91 =>
 ldI .i64 ⟨b14, 8, none⟩ w79 fun n92 =>
 ldI .i64 ⟨b14, 9, none⟩ w79 fun n93 =>
 ldI .i64 ⟨b14, 10, none⟩ w79 fun n94 =>
 ldI .u64 ⟨b14, 11, none⟩ w79 fun n95 =>
 ldB ⟨b14, 12, none⟩ w79 fun b96 =>
 CV P F.text_field [.agg [.int .i64 n84, .int .i64 n85, .int .i64 n86, .int .i64 n87, .int .i64 n88, .int .i64 n89, .int .i64 n90, .int .i64 n91, .int .i64 n92, .int .i64 n93, .int .i64 n94, .int .u64 n95, .bool b96].toArray, .int .u8 n83] w79 fun v97 w98 =>
 ∃ s99 : ByteArray, v97 = .string s99 ∧
 CV P F.strconv_Atoi [.string s99] w98 fun v100 w101 =>
 ∃ n102 : Int, ∃ v103 : Value, v100 = .tuple [.int .i64 n102, v103].toArray ∧
 ldI .i64 ⟨b57, 0, none⟩ w101 fun n104 =>
 ldI .i64 ⟨b57, 1, none⟩ w101 fun n105 =>
 ldI .i64 ⟨b57, 2, none⟩ w101 fun n106 =>
 ldI .i64 ⟨b57, 3, none⟩ w101 fun n107 =>
 ldI .i64 ⟨b57, 4, none⟩ w101 fun n108 =>
 ldI .i64 ⟨b57, 5, none⟩ w101 fun n109 =>
 ldI .i64 ⟨b57, 6, none⟩ w101 fun n110 =>
 ldI .i64 ⟨b57, 7, none⟩ w101 fun n111 =>
 ldI .i64 ⟨b57, 8, none⟩ w101 fun n112 =>
 ldI .i64 ⟨b57, 9, none⟩ w101 fun n113 =>
 ldI .i64 ⟨b57, 10, none⟩ w101 fun n114 =>
 ldI .u64 ⟨b57, 11, none⟩ w101 fun n115 =>
 ldB ⟨b57, 12, none⟩ w101 fun b116 =>
 ldI .u64 ⟨b14, 11, none⟩ w101 fun n117 =>
 CV P F.text_with [.agg [.int .i64 n104, .int .i64 n105, .int .i64 n106, .int .i64 n107, .int .i64 n108, .int .i64 n109, .int .i64 n110, .int .i64 n111, .int .i64 n112, .int .i64 n113, .int .i64 n114, .int .u64 n115, .bool b116].toArray, .int .u8 n83, .int .i64 n102, .int .u64 n117] w101 fun v118 w119 =>
 ∃ n120 : Int, ∃ n121 : Int, ∃ n122 : Int, ∃ n123 : Int, ∃ n124 : Int, ∃ n125 : Int, ∃ n126 : Int, ∃ n127 : Int, ∃ n128 : Int, ∃ n129 : Int, ∃ n130 : Int, ∃ n131 : Int, ∃ b132 : Bool, v118 = .agg [.int .i64 n120, .int .i64 n121, .int .i64 n122, .int .i64 n123, .int .i64 n124, .int .i64 n125, .int .i64 n126, .int .i64 n127, .int .i64 n128, .int .i64 n129, .int .i64 n130, .int .u64 n131, .bool b132].toArray ∧
 st1 (.int .i64 n120) ⟨b57, 0, none⟩ w119 fun w133 =>
 st1 (.int .i64 n121) ⟨b57, 1, none⟩ w133 fun w134 =>
 st1 (.int .i64 n122) ⟨b57, 2, none⟩ w134 fun w135 =>
 st1 (.int .i64 n123) ⟨b57, 3, none⟩ w135 fun w136 =>
 st1 (.int .i64 n124) ⟨b57, 4, none⟩ w136 fun w137 =>
 st1 (.int .i64 n125) ⟨b57, 5, none⟩ w137 fun w138 =>
 st1 (.int .i64 n126) ⟨b57, 6, none⟩ w138 fun w139 =>
 st1 (.int .i64 n127) ⟨b57, 7, none⟩ w139 fun w140 =>
 st1 (.int .i64 n128) ⟨b57, 8, none⟩ w140 fun w141 =>
 st1 (.int .i64 n129) ⟨b57, 9, none⟩ w141 fun w142 =>
 st1 (.int .i64 n130) ⟨b57, 10, none⟩ w142 fun w143 =>
 st1 (.int .u64 n131) ⟨b57, 11, none⟩ w143 fun w144 =>
 st1 (.bool b132) ⟨b57, 12, none⟩ w144 fun w145 =>
 A80 (((IntKind.i64.wrap (n78 + 1)) : Int)) w145)
 (ldI .i64 ⟨b57, 0, none⟩ w79 fun n146 =>
 ldI .i64 ⟨b57, 1, none⟩ w79 fun n147 =>
 ldI .i64 ⟨b57, 2, none⟩ w79 fun n148 =>
 ldI .i64 ⟨b57, 3, none⟩ w79 fun n149 =>
 ldI .i64 ⟨b57, 4, none⟩ w79 fun n150 =>
 ldI .i64 ⟨b57, 5, none⟩ w79 fun n151 =>
 ldI .i64 ⟨b57, 6, none⟩ w79 fun n152 =>
 ldI .i64 ⟨b57, 7, none⟩ w79 fun n153 =>
 ldI .i64 ⟨b57, 8, none⟩ w79 fun n154 =>
 ldI .i64 ⟨b57, 9, none⟩ w79 fun n155 =>
 ldI .i64 ⟨b57, 10, none⟩ w79 fun n156 =>
 ldI .u64 ⟨b57, 11, none⟩ w79 fun n157 =>
 ldB ⟨b57, 12, none⟩ w79 fun b158 =>
 st1 (.int .i64 n146) ⟨b16, 0, none⟩ w79 fun w159 =>
 st1 (.int .i64 n147) ⟨b16, 1, none⟩ w159 fun w160 =>
 st1 (.int .i64 n148) ⟨b16, 2, none⟩ w160 fun w161 =>
 st1 (.int .i64 n149) ⟨b16, 3, none⟩ w161 fun w162 =>
 st1 (.int .i64 n150) ⟨b16, 4, none⟩ w162 fun w163 =>
 st1 (.int .i64 n151) ⟨b16, 5, none⟩ w163 fun w164 =>
 st1 (.int .i64 n152) ⟨b16, 6, none⟩ w164 fun w165 =>
 st1 (.int .i64 n153) ⟨b16, 7, none⟩ w165 fun w166 =>
 st1 (.int .i64 n154) ⟨b16, 8, none⟩ w166 fun w167 =>
 st1 (.int .i64 n155) ⟨b16, 9, none⟩ w167 fun w168 =>
 st1 (.int .i64 n156) ⟨b16, 10, none⟩ w168 fun w169 =>
 st1 (.int .u64 n157) ⟨b16, 11, none⟩ w169 fun w170 =>
 st1 (.bool b158) ⟨b16, 12, none⟩ w170 fun w171 =>
 ldI .i64 ⟨b16, 0, none⟩ w171 fun n172 =>
 ldI .i64 ⟨b16, 1, none⟩ w171 fun n173 =>
 ldI .i64 ⟨b16, 2, none⟩ w171 fun n174 =>
 ldI .i64 ⟨b16, 3, none⟩ w171 fun n175 =>
 ldI .i64 ⟨b16, 4, none⟩ w171 fun n176 =>
 ldI .i64 ⟨b16, 5, none⟩ w171 fun n177 =>
 ldI .i64 ⟨b16, 6, none⟩ w171 fun n178 =>
 ldI .i64 ⟨b16, 7, none⟩ w171 fun n179 =>
 ldI .i64 ⟨b16, 8, none⟩ w171 fun n180 =>
 ldI .i64 ⟨b16, 9, none⟩ w171 fun n181 =>
 ldI .i64 ⟨b16, 10, none⟩ w171 fun n182 =>
 ldI .u64 ⟨b16, 11, none⟩ w171 fun n183 =>
 ldB ⟨b16, 12, none⟩ w171 fun b184 =>
 Q (.tuple [.agg [.int .i64 n172, .int .i64 n173, .int .i64 n174, .int .i64 n175, .int .i64 n176, .int .i64 n177, .int .i64 n178, .int .i64 n179, .int .i64 n180, .int .i64 n181, .int .i64 n182, .int .u64 n183, .bool b184].toArray, .int .i64 0].toArray) w171)

def text_Plain (a0_0 : Int) (a0_1 : Int) (a0_2 : Int) (a0_3 : Int) (a0_4 : Int) (a0_5 : Int) (a0_6 : Int) (a0_7 : Int) (a0_8 : Int) (a0_9 : Int) (a0_10 : Int) (a0_11 : Int) (a0_12 : Bool) (w : World) (Q : Value → World → Prop) : Prop :=
 alc [.int .i64 a0_0, .int .i64 a0_1, .int .i64 a0_2, .int .i64 a0_3, .int .i64 a0_4, .int .i64 a0_5, .int .i64 a0_6, .int .i64 a0_7, .int .i64 a0_8, .int .i64 a0_9, .int .i64 a0_10, .int .u64 a0_11, .bool a0_12] T.t40 w fun b14 w15 =>
 alc [.int .i64 0, .int .i64 0, .int .i64 0, .int .i64 0, .int .i64 0, .int .i64 0, .int .i64 0, .int .i64 0, .int .i64 0, .int .i64 0, .int .i64 0, .int .u64 0, .bool false] T.t40 w15 fun b16 w17 =>
 ldI .i64 ⟨b14, 0, none⟩ w17 fun n18 =>
 CV P F.text_find [.string ⟨#[]⟩, .int .i64 n18] w17 fun v19 w20 =>
 ∃ n21 : Int, ∃ s22 : ByteArray, ∃ s23 : ByteArray, ∃ b24 : Bool, v19 = .tuple [.agg [.int .i64 n21, .string s22, .string s23].toArray, .bool b24].toArray ∧
 alc [.int .i64 0, .string ⟨#[]⟩, .string ⟨#[]⟩] T.t64 w20 fun b25 w26 =>
 st1 (.int .i64 n21) ⟨b25, 0, none⟩ w26 fun w27 =>
 st1 (.string s22) ⟨b25, 1, none⟩ w27 fun w28 =>
 st1 (.string s23) ⟨b25, 2, none⟩ w28 fun w29 =>
 cnd (!b24)
 (st1 (.int .i64 0) ⟨b16, 0, none⟩ w29 fun w30 =>
 st1 (.int .i64 0) ⟨b16, 1, none⟩ w30 fun w31 =>
 st1 (.int .i64 0) ⟨b16, 2, none⟩ w31 fun w32 =>
 st1 (.int .i64 0) ⟨b16, 3, none⟩ w32 fun w33 =>
 st1 (.int .i64 0) ⟨b16, 4, none⟩ w33 fun w34 =>
 st1 (.int .i64 0) ⟨b16, 5, none⟩ w34 fun w35 =>
 st1 (.int .i64 0) ⟨b16, 6, none⟩ w35 fun w36 =>
 st1 (.int .i64 0) ⟨b16, 7, none⟩ w36 fun w37 =>
 st1 (.int .i64 0) ⟨b16, 8, none⟩ w37 fun w38 =>
 st1 (.int .i64 0) ⟨b16, 9, none⟩ w38 fun w39 =>
 st1 (.int .i64 0) ⟨b16, 10, none⟩ w39 fun w40 =>
 st1 (.int .u64 0) ⟨b16, 11, none⟩ w40 fun w41 =>
 st1 (.bool false) ⟨b16, 12, none⟩ w41 fun w42 =>
 ldI .i64 ⟨b16, 0, none⟩ w42 fun n43 =>
 ldI .i64 ⟨b16, 1, none⟩ w42 fun n44 =>
 ldI .i64 ⟨b16, 2, none⟩ w42 fun n45 =>
 ldI .i64 ⟨b16, 3, none⟩ w42 fun n46 =>
 ldI .i64 ⟨b16, 4, none⟩ w42 fun n47 =>
 ldI .i64 ⟨b16, 5, none⟩ w42 fun n48 =>
 ldI .i64 ⟨b16, 6, none⟩ w42 fun n49 =>
 ldI .i64 ⟨b16, 7, none⟩ w42 fun n50 =>
 ldI .i64 ⟨b16, 8, none⟩ w42 fun n51 =>
 ldI .i64 ⟨b16, 9, none⟩ w42 fun n52 =>
 ldI .i64 ⟨b16, 10, none⟩ w42 fun n53 =>
 ldI .u64 ⟨b16, 11, none⟩ w42 fun n54 =>
 ldB ⟨b16, 12, none⟩ w42 fun b55 =>
 Q (.tuple [.agg [.int .i64 n43, .int .i64 n44, .int .i64 n45, .int .i64 n46, .int .i64 n47, .int .i64 n48, .int .i64 n49, .int .i64 n50, .int .i64 n51, .int .i64 n52, .int .i64 n53, .int .u64 n54, .bool b55].toArray, .int .i64 280].toArray) w42)
 (ldI .i64 ⟨b14, 0, none⟩ w29 fun n56 =>
 alc [.int .i64 0, .int .i64 0, .int .i64 0, .int .i64 0, .int .i64 0, .int .i64 0, .int .i64 0, .int .i64 0, .int .i64 0, .int .i64 0, .int .i64 0, .int .u64 0, .bool false] T.t40 w29 fun b57 w58 =>
 st1 (.int .i64 n56) ⟨b57, 0, none⟩ w58 fun w59 =>
 st1 (.int .i64 0) ⟨b57, 1, none⟩ w59 fun w60 =>
 st1 (.int .i64 0) ⟨b57, 2, none⟩ w60 fun w61 =>
 st1 (.int .i64 0) ⟨b57, 3, none⟩ w61 fun w62 =>
 st1 (.int .i64 0) ⟨b57, 4, none⟩ w62 fun w63 =>
 st1 (.int .i64 0) ⟨b57, 5, none⟩ w63 fun w64 =>
 st1 (.int .i64 0) ⟨b57, 6, none⟩ w64 fun w65 =>
 st1 (.int .i64 0) ⟨b57, 7, none⟩ w65 fun w66 =>
 st1 (.int .i64 0) ⟨b57, 8, none⟩ w66 fun w67 =>
 st1 (.int .i64 0) ⟨b57, 9, none⟩ w67 fun w68 =>
 st1 (.int .i64 0) ⟨b57, 10, none⟩ w68 fun w69 =>
 st1 (.int .u64 0) ⟨b57, 11, none⟩ w69 fun w70 =>
 st1 (.bool false) ⟨b57, 12, none⟩ w70 fun w71 =>
 ldS ⟨b25, 2, none⟩ w71 fun s72 =>
 runS P (Go.convert T.t9 T.t74 (.string s72)) w71 fun p73 l74 c75 w76 =>
 LoopT (fun (s185 : text_Plain_L250.S) w186 A187 => text_Plain_l0 Q b14 b16 b57 p73 l74 s185 w186 A187) ((0 : Int)) w76)
def text_Plain_ann : Nat → Option LoopSpec := fun
  | 250 => some text_Plain_L250
  | _ => none
theorem text_Plain_eq (a0_0 : Int) (a0_1 : Int) (a0_2 : Int) (a0_3 : Int) (a0_4 : Int) (a0_5 : Int) (a0_6 : Int) (a0_7 : Int) (a0_8 : Int) (a0_9 : Int) (a0_10 : Int) (a0_11 : Int) (a0_12 : Bool) (w : World) (Q : Value → World → Prop) : fnX P text_Plain_ann Tryd.f17 [.agg [.int .i64 a0_0, .int .i64 a0_1, .int .i64 a0_2, .int .i64 a0_3, .int .i64 a0_4, .int .i64 a0_5, .int .i64 a0_6, .int .i64 a0_7, .int .i64 a0_8, .int .i64 a0_9, .int .i64 a0_10, .int .u64 a0_11, .bool a0_12].toArray] w Q = text_Plain a0_0 a0_1 a0_2 a0_3 a0_4 a0_5 a0_6 a0_7 a0_8 a0_9 a0_10 a0_11 a0_12 w Q := by kernel_rfl
theorem text_Plain_cv {a0_0 : Int} {a0_1 : Int} {a0_2 : Int} {a0_3 : Int} {a0_4 : Int} {a0_5 : Int} {a0_6 : Int} {a0_7 : Int} {a0_8 : Int} {a0_9 : Int} {a0_10 : Int} {a0_11 : Int} {a0_12 : Bool} {w : World} {Q : Value → World → Prop} (h : text_Plain a0_0 a0_1 a0_2 a0_3 a0_4 a0_5 a0_6 a0_7 a0_8 a0_9 a0_10 a0_11 a0_12 w Q) : CV P F.text_Plain [.agg [.int .i64 a0_0, .int .i64 a0_1, .int .i64 a0_2, .int .i64 a0_3, .int .i64 a0_4, .int .i64 a0_5, .int .i64 a0_6, .int .i64 a0_7, .int .i64 a0_8, .int .i64 a0_9, .int .i64 a0_10, .int .u64 a0_11, .bool a0_12].toArray] w Q := CV_of mixed Tryd.func17 (text_Plain_eq a0_0 a0_1 a0_2 a0_3 a0_4 a0_5 a0_6 a0_7 a0_8 a0_9 a0_10 a0_11 a0_12 w Q ▸ h)

/- 18 crier/crierref29.Plain -/
def crierref29_Plain_J6 : LoopSpec where
  S := Bool
  emb := fun s => [(14, .bool s)]
  ext := fun t => match getL t 14 with
    | some (.bool y18) => some (y18)
    | _ => none
  slots := [14]
  fits := fun _ => rfl
  ok := by
    intro t s h x hx
    (try dsimp only at h hx)
    split at h
    · cases h
      simp only [List.mem_cons, List.not_mem_nil, or_false] at hx
      rcases hx with rfl <;> assumption
    · cases h

def crierref29_Plain_L250 : LoopSpec where
  S := Int
  emb := fun s => [(6, .int .i64 s)]
  ext := fun t => match getL t 6 with
    | some (.int .i64 y74) => some (y74)
    | _ => none
  slots := [6]
  fits := fun _ => rfl
  ok := by
    intro t s h x hx
    (try dsimp only at h hx)
    split at h
    · cases h
      simp only [List.mem_cons, List.not_mem_nil, or_false] at hx
      rcases hx with rfl <;> assumption
    · cases h

def crierref29_Plain_J8009 : LoopSpec where
  S := Unit
  emb := fun _ => []
  ext := fun _ => some ()
  slots := []
  fits := fun _ => rfl
  ok := by
    intro t s h x hx; cases hx

def crierref29_Plain_j0 (n75 : Int) (A77 : crierref29_Plain_L250.S → World → Prop) (w79 : World) : Prop :=
 A77 (((IntKind.i64.wrap (n75 + 1)) : Int)) w79

def crierref29_Plain_l1 (Q : Value → World → Prop) (b14 : Nat) (b16 : Nat) (b48 : Nat) (s73 : ByteArray) (n75 : Int) (w76 : World) (A77 : crierref29_Plain_L250.S → World → Prop) : Prop :=
 cnd (decide (n75 < (((s73 : ByteArray).size : Nat) : Int)))
 (sx s73 n75 fun n78 =>
 JoinT (fun (J80 : crierref29_Plain_J8009.S → World → Prop) =>
  cnd (n78 == 103)
  (ldI .i64 ⟨b14, 1, none⟩ w76 fun n81 =>
  st1 (.int .i64 n81) ⟨b48, 1, none⟩ w76 fun w82 =>
  J80 () w82)
  (cnd (n78 == 118)
  (ldI .i64 ⟨b14, 2, none⟩ w76 fun n83 =>
  st1 (.int .i64 n83) ⟨b48, 2, none⟩ w76 fun w84 =>
  J80 () w84)
  (cnd (n78 == 99)
  (ldI .i64 ⟨b14, 3, none⟩ w76 fun n85 =>
  st1 (.int .i64 n85) ⟨b48, 3, none⟩ w76 fun w86 =>
  J80 () w86)
  (cnd (n78 == 100)
  (ldI .i64 ⟨b14, 4, none⟩ w76 fun n87 =>
  st1 (.int .i64 n87) ⟨b48, 4, none⟩ w76 fun w88 =>
  J80 () w88)
  (cnd (n78 == 101)
  (ldI .i64 ⟨b14, 5, none⟩ w76 fun n89 =>
  st1 (.int .i64 n89) ⟨b48, 5, none⟩ w76 fun w90 =>
  J80 () w90)
  (cnd (n78 == 110)
  (ldI .i64 ⟨b14, 6, none⟩ w76 fun n91 =>
  st1 (.int .i64 n91) ⟨b48, 6, none⟩ w76 fun w92 =>
  J80 () w92)
  (cnd (n78 == 114)
  (ldI .i64 ⟨b14, 7, none⟩ w76 fun n93 =>
  st1 (.int .i64 n93) ⟨b48, 7, none⟩ w76 fun w94 =>
  J80 () w94)
  (cnd (n78 == 116)
  (ldI .i64 ⟨b14, 8, none⟩ w76 fun n95 =>
  st1 (.int .i64 n95) ⟨b48, 8, none⟩ w76 fun w96 =>
  J80 () w96)
  (cnd (n78 == 97)
  (ldI .i64 ⟨b14, 9, none⟩ w76 fun n97 =>
  st1 (.int .i64 n97) ⟨b48, 9, none⟩ w76 fun w98 =>
  J80 () w98)
  (cnd (n78 == 119)
  (ldI .i64 ⟨b14, 10, none⟩ w76 fun n99 =>
  st1 (.int .i64 n99) ⟨b48, 10, none⟩ w76 fun w100 =>
  J80 () w100)
  (cnd (n78 == 120)
  (ldI .u64 ⟨b14, 11, none⟩ w76 fun n101 =>
  st1 (.int .u64 n101) ⟨b48, 11, none⟩ w76 fun w102 =>
  J80 () w102)
  (cnd (n78 == 104)
  (ldB ⟨b14, 12, none⟩ w76 fun b103 =>
  st1 (.bool b103) ⟨b48, 12, none⟩ w76 fun w104 =>
  J80 () w104)
  (J80 () w76)))))))))))))
  fun (s105 : crierref29_Plain_J8009.S) w106 => crierref29_Plain_j0 n75 A77 w106)
 (ldI .i64 ⟨b48, 0, none⟩ w76 fun n107 =>
 ldI .i64 ⟨b48, 1, none⟩ w76 fun n108 =>
 ldI .i64 ⟨b48, 2, none⟩ w76 fun n109 =>
 ldI .i64 ⟨b48, 3, none⟩ w76 fun n110 =>
 ldI .i64 ⟨b48, 4, none⟩ w76 fun n111 =>
 ldI .i64 ⟨b48, 5, none⟩ w76 fun n112 =>
 ldI .i64 ⟨b48, 6, none⟩ w76 fun n113 =>
 ldI .i64 ⟨b48, 7, none⟩ w76 fun n114 =>
 ldI .i64 ⟨b48, 8, none⟩ w76 fun n115 =>
 ldI .i64 ⟨b48, 9, none⟩ w76 fun n116 =>
 ldI .i64 ⟨b48, 10, none⟩ w76 fun n117 =>
 ldI .u64 ⟨b48, 11, none⟩ w76 fun n118 =>
 ldB ⟨b48, 12, none⟩ w76 fun b119 =>
 st1 (.int .i64 n107) ⟨b16, 0, none⟩ w76 fun w120 =>
 st1 (.int .i64 n108) ⟨b16, 1, none⟩ w120 fun w121 =>
 st1 (.int .i64 n109) ⟨b16, 2, none⟩ w121 fun w122 =>
 st1 (.int .i64 n110) ⟨b16, 3, none⟩ w122 fun w123 =>
 st1 (.int .i64 n111) ⟨b16, 4, none⟩ w123 fun w124 =>
 st1 (.int .i64 n112) ⟨b16, 5, none⟩ w124 fun w125 =>
 st1 (.int .i64 n113) ⟨b16, 6, none⟩ w125 fun w126 =>
 st1 (.int .i64 n114) ⟨b16, 7, none⟩ w126 fun w127 =>
 st1 (.int .i64 n115) ⟨b16, 8, none⟩ w127 fun w128 =>
 st1 (.int .i64 n116) ⟨b16, 9, none⟩ w128 fun w129 =>
 st1 (.int .i64 n117) ⟨b16, 10, none⟩ w129 fun w130 =>
 st1 (.int .u64 n118) ⟨b16, 11, none⟩ w130 fun w131 =>
 st1 (.bool b119) ⟨b16, 12, none⟩ w131 fun w132 =>
 ldI .i64 ⟨b16, 0, none⟩ w132 fun n133 =>
 ldI .i64 ⟨b16, 1, none⟩ w132 fun n134 =>
 ldI .i64 ⟨b16, 2, none⟩ w132 fun n135 =>
 ldI .i64 ⟨b16, 3, none⟩ w132 fun n136 =>
 ldI .i64 ⟨b16, 4, none⟩ w132 fun n137 =>
 ldI .i64 ⟨b16, 5, none⟩ w132 fun n138 =>
 ldI .i64 ⟨b16, 6, none⟩ w132 fun n139 =>
 ldI .i64 ⟨b16, 7, none⟩ w132 fun n140 =>
 ldI .i64 ⟨b16, 8, none⟩ w132 fun n141 =>
 ldI .i64 ⟨b16, 9, none⟩ w132 fun n142 =>
 ldI .i64 ⟨b16, 10, none⟩ w132 fun n143 =>
 ldI .u64 ⟨b16, 11, none⟩ w132 fun n144 =>
 ldB ⟨b16, 12, none⟩ w132 fun b145 =>
 Q (.tuple [.agg [.int .i64 n133, .int .i64 n134, .int .i64 n135, .int .i64 n136, .int .i64 n137, .int .i64 n138, .int .i64 n139, .int .i64 n140, .int .i64 n141, .int .i64 n142, .int .i64 n143, .int .u64 n144, .bool b145].toArray, .bool true].toArray) w132)

def crierref29_Plain_j2 (Q : Value → World → Prop) (b14 : Nat) (b16 : Nat) (b19 : Bool) (w20 : World) : Prop :=
 cnd b19
 (st1 (.int .i64 0) ⟨b16, 0, none⟩ w20 fun w21 =>
 st1 (.int .i64 0) ⟨b16, 1, none⟩ w21 fun w22 =>
 st1 (.int .i64 0) ⟨b16, 2, none⟩ w22 fun w23 =>
 st1 (.int .i64 0) ⟨b16, 3, none⟩ w23 fun w24 =>
 st1 (.int .i64 0) ⟨b16, 4, none⟩ w24 fun w25 =>
 st1 (.int .i64 0) ⟨b16, 5, none⟩ w25 fun w26 =>
 st1 (.int .i64 0) ⟨b16, 6, none⟩ w26 fun w27 =>
 st1 (.int .i64 0) ⟨b16, 7, none⟩ w27 fun w28 =>
 st1 (.int .i64 0) ⟨b16, 8, none⟩ w28 fun w29 =>
 st1 (.int .i64 0) ⟨b16, 9, none⟩ w29 fun w30 =>
 st1 (.int .i64 0) ⟨b16, 10, none⟩ w30 fun w31 =>
 st1 (.int .u64 0) ⟨b16, 11, none⟩ w31 fun w32 =>
 st1 (.bool false) ⟨b16, 12, none⟩ w32 fun w33 =>
 ldI .i64 ⟨b16, 0, none⟩ w33 fun n34 =>
 ldI .i64 ⟨b16, 1, none⟩ w33 fun n35 =>
 ldI .i64 ⟨b16, 2, none⟩ w33 fun n36 =>
 ldI .i64 ⟨b16, 3, none⟩ w33 fun n37 =>
 ldI .i64 ⟨b16, 4, none⟩ w33 fun n38 =>
 ldI .i64 ⟨b16, 5, none⟩ w33 fun n39 =>
 ldI .i64 ⟨b16, 6, none⟩ w33 fun n40 =>
 ldI .i64 ⟨b16, 7, none⟩ w33 fun n41 =>
 ldI .i64 ⟨b16, 8, none⟩ w33 fun n42 =>
 ldI .i64 ⟨b16, 9, none⟩ w33 fun n43 =>
 ldI .i64 ⟨b16, 10, none⟩ w33 fun n44 =>
 ldI .u64 ⟨b16, 11, none⟩ w33 fun n45 =>
 ldB ⟨b16, 12, none⟩ w33 fun b46 =>
 Q (.tuple [.agg [.int .i64 n34, .int .i64 n35, .int .i64 n36, .int .i64 n37, .int .i64 n38, .int .i64 n39, .int .i64 n40, .int .i64 n41, .int .i64 n42, .int .i64 n43, .int .i64 n44, .int .u64 n45, .bool b46].toArray, .bool false].toArray) w33)
 (ldI .i64 ⟨b14, 0, none⟩ w20 fun n47 =>
 alc [.int .i64 0, .int .i64 0, .int .i64 0, .int .i64 0, .int .i64 0, .int .i64 0, .int .i64 0, .int .i64 0, .int .i64 0, .int .i64 0, .int .i64 0, .int .u64 0, .bool false] T.t40 w20 fun b48 w49 =>
 st1 (.int .i64 n47) ⟨b48, 0, none⟩ w49 fun w50 =>
 st1 (.int .i64 0) ⟨b48, 1, none⟩ w50 fun w51 =>
 st1 (.int .i64 0) ⟨b48, 2, none⟩ w51 fun w52 =>
 st1 (.int .i64 0) ⟨b48, 3, none⟩ w52 fun w53 =>
 st1 (.int .i64 0) ⟨b48, 4, none⟩ w53 fun w54 =>
 st1 (.int .i64 0) ⟨b48, 5, none⟩ w54 fun w55 =>
 st1 (.int .i64 0) ⟨b48, 6, none⟩ w55 fun w56 =>
 st1 (.int .i64 0) ⟨b48, 7, none⟩ w56 fun w57 =>
 st1 (.int .i64 0) ⟨b48, 8, none⟩ w57 fun w58 =>
 st1 (.int .i64 0) ⟨b48, 9, none⟩ w58 fun w59 =>
 st1 (.int .i64 0) ⟨b48, 10, none⟩ w59 fun w60 =>
 st1 (.int .u64 0) ⟨b48, 11, none⟩ w60 fun w61 =>
 st1 (.bool false) ⟨b48, 12, none⟩ w61 fun w62 =>
 drw w62 fun w63 =>
 ldI .i64 ⟨b14, 0, none⟩ w63 fun n64 =>
 CV P F.crierref29_Fields [] w63 fun v65 w66 =>
 ∃ (p67 : Option Addr) (l68 c69 : Nat), v65 = .slice p67 l68 c69 ∧
 (ldI .i64 ⟨b14, 0, none⟩ w66 fun n70 =>
 ((.int .i64 n70 : Value) = .int .i64 n64)) ∧
 ix (IntKind.i64.wrap (n64 - 1)) l68 fun j71 => nn p67 fun a72 =>
 ldS (a72.add (j71 * 1)) w66 fun s73 =>
 LoopT (fun (s146 : crierref29_Plain_L250.S) w147 A148 => crierref29_Plain_l1 Q b14 b16 b48 s73 s146 w147 A148) ((0 : Int)) w66)

def crierref29_Plain (a0_0 : Int) (a0_1 : Int) (a0_2 : Int) (a0_3 : Int) (a0_4 : Int) (a0_5 : Int) (a0_6 : Int) (a0_7 : Int) (a0_8 : Int) (a0_9 : Int) (a0_10 : Int) (a0_11 : Int) (a0_12 : Bool) (w : World) (Q : Value → World → Prop) : Prop :=
 alc [.int .i64 a0_0, .int .i64 a0_1, .int .i64 a0_2, .int .i64 a0_3, .int .i64 a0_4, .int .i64 a0_5, .int .i64 a0_6, .int .i64 a0_7, .int .i64 a0_8, .int .i64 a0_9, .int .i64 a0_10, .int .u64 a0_11, .bool a0_12] T.t40 w fun b14 w15 =>
 alc [.int .i64 0, .int .i64 0, .int .i64 0, .int .i64 0, .int .i64 0, .int .i64 0, .int .i64 0, .int .i64 0, .int .i64 0, .int .i64 0, .int .i64 0, .int .u64 0, .bool false] T.t40 w15 fun b16 w17 =>
 JoinT (fun (J149 : crierref29_Plain_J6.S → World → Prop) =>
  ldI .i64 ⟨b14, 0, none⟩ w17 fun n150 =>
  cnd (decide (n150 < 1))
  (J149 ((true : Bool)) w17)
  (ldI .i64 ⟨b14, 0, none⟩ w17 fun n151 =>
  J149 (((decide (n151 > 12)) : Bool)) w17))
  fun (s152 : crierref29_Plain_J6.S) w153 => crierref29_Plain_j2 Q b14 b16 s152 w153
def crierref29_Plain_ann : Nat → Option LoopSpec := fun
  | 6 => some crierref29_Plain_J6
  | 30 => some (ordSpec [1, 2, 3, 0, 4, 5, 6])
  | 250 => some crierref29_Plain_L250
  | 8009 => some crierref29_Plain_J8009
  | _ => none
theorem crierref29_Plain_eq (a0_0 : Int) (a0_1 : Int) (a0_2 : Int) (a0_3 : Int) (a0_4 : Int) (a0_5 : Int) (a0_6 : Int) (a0_7 : Int) (a0_8 : Int) (a0_9 : Int) (a0_10 : Int) (a0_11 : Int) (a0_12 : Bool) (w : World) (Q : Value → World → Prop) : fnX P crierref29_Plain_ann Tryd.f18 [.agg [.int .i64 a0_0, .int .i64 a0_1, .int .i64 a0_2, .int .i64 a0_3, .int .i64 a0_4, .int .i64 a0_5, .int .i64 a0_6, .int .i64 a0_7, .int .i64 a0_8, .int .i64 a0_9, .int .i64 a0_10, .int .u64 a0_11, .bool a0_12].toArray] w Q = crierref29_Plain a0_0 a0_1 a0_2 a0_3 a0_4 a0_5 a0_6 a0_7 a0_8 a0_9 a0_10 a0_11 a0_12 w Q := by kernel_rfl
theorem crierref29_Plain_cv {a0_0 : Int} {a0_1 : Int} {a0_2 : Int} {a0_3 : Int} {a0_4 : Int} {a0_5 : Int} {a0_6 : Int} {a0_7 : Int} {a0_8 : Int} {a0_9 : Int} {a0_10 : Int} {a0_11 : Int} {a0_12 : Bool} {w : World} {Q : Value → World → Prop} (h : crierref29_Plain a0_0 a0_1 a0_2 a0_3 a0_4 a0_5 a0_6 a0_7 a0_8 a0_9 a0_10 a0_11 a0_12 w Q) : CV P F.crierref29_Plain [.agg [.int .i64 a0_0, .int .i64 a0_1, .int .i64 a0_2, .int .i64 a0_3, .int .i64 a0_4, .int .i64 a0_5, .int .i64 a0_6, .int .i64 a0_7, .int .i64 a0_8, .int .i64 a0_9, .int .i64 a0_10, .int .u64 a0_11, .bool a0_12].toArray] w Q := CV_of mixed Tryd.func18 (crierref29_Plain_eq a0_0 a0_1 a0_2 a0_3 a0_4 a0_5 a0_6 a0_7 a0_8 a0_9 a0_10 a0_11 a0_12 w Q ▸ h)

/- 19 crier/crierref29.Known -/

def crierref29_Known (a0 : Bool) (a1 : Int) (w : World) (Q : Value → World → Prop) : Prop :=
 cnd a0
 (Q (.int .i64 0) w)
 (Q (.int .i64 a1) w)
def crierref29_Known_ann : Nat → Option LoopSpec := fun _ => none
theorem crierref29_Known_eq (a0 : Bool) (a1 : Int) (w : World) (Q : Value → World → Prop) : fnX P crierref29_Known_ann Tryd.f19 [.bool a0, .int .i64 a1] w Q = crierref29_Known a0 a1 w Q := by kernel_rfl
theorem crierref29_Known_cv {a0 : Bool} {a1 : Int} {w : World} {Q : Value → World → Prop} (h : crierref29_Known a0 a1 w Q) : CV P F.crierref29_Known [.bool a0, .int .i64 a1] w Q := CV_of mixed Tryd.func19 (crierref29_Known_eq a0 a1 w Q ▸ h)

/- 20 crier/text.Text -/
def text_Text_L58 : LoopSpec where
  S := Int
  emb := fun s => [(11, .int .i64 s)]
  ext := fun t => match getL t 11 with
    | some (.int .i64 y6) => some (y6)
    | _ => none
  slots := [11]
  fits := fun _ => rfl
  ok := by
    intro t s h x hx
    (try dsimp only at h hx)
    split at h
    · cases h
      simp only [List.mem_cons, List.not_mem_nil, or_false] at hx
      rcases hx with rfl <;> assumption
    · cases h

def text_Text_l0 (a0 : Option Addr) (a0_n : Nat) (Q : Value → World → Prop) (b4 : Nat) (n7 : Int) (w8 : World) (A9 : text_Text_L58.S → World → Prop) : Prop :=
 cnd (decide (n7 < ((a0_n : Nat) : Int)))
 (ix n7 a0_n fun j10 => nn a0 fun a11 =>
 ldI .i64 (a11.add (j10 * 13)) w8 fun n12 =>
 ldI .i64 ((a11.add (j10 * 13)).add 1) w8 fun n13 =>
 ldI .i64 ((a11.add (j10 * 13)).add 2) w8 fun n14 =>
 ldI .i64 ((a11.add (j10 * 13)).add 3) w8 fun n15 =>
 ldI .i64 ((a11.add (j10 * 13)).add 4) w8 fun n16 =>
 ldI .i64 ((a11.add (j10 * 13)).add 5) w8 fun n17 =>
 ldI .i64 ((a11.add (j10 * 13)).add 6) w8 fun n18 =>
 ldI .i64 ((a11.add (j10 * 13)).add 7) w8 fun n19 =>
 ldI .i64 ((a11.add (j10 * 13)).add 8) w8 fun n20 =>
 ldI .i64 ((a11.add (j10 * 13)).add 9) w8 fun n21 =>
 ldI .i64 ((a11.add (j10 * 13)).add 10) w8 fun n22 =>
 ldI .u64 ((a11.add (j10 * 13)).add 11) w8 fun n23 =>
 ldB ((a11.add (j10 * 13)).add 12) w8 fun b24 =>
 alc [.int .i64 0, .int .i64 0, .int .i64 0, .int .i64 0, .int .i64 0, .int .i64 0, .int .i64 0, .int .i64 0, .int .i64 0, .int .i64 0, .int .i64 0, .int .u64 0, .bool false] T.t40 w8 fun b25 w26 =>
 st1 (.int .i64 n12) ⟨b25, 0, none⟩ w26 fun w27 =>
 st1 (.int .i64 n13) ⟨b25, 1, none⟩ w27 fun w28 =>
 st1 (.int .i64 n14) ⟨b25, 2, none⟩ w28 fun w29 =>
 st1 (.int .i64 n15) ⟨b25, 3, none⟩ w29 fun w30 =>
 st1 (.int .i64 n16) ⟨b25, 4, none⟩ w30 fun w31 =>
 st1 (.int .i64 n17) ⟨b25, 5, none⟩ w31 fun w32 =>
 st1 (.int .i64 n18) ⟨b25, 6, none⟩ w32 fun w33 =>
 st1 (.int .i64 n19) ⟨b25, 7, none⟩ w33 fun w34 =>
 st1 (.int .i64 n20) ⟨b25, 8, none⟩ w34 fun w35 =>
 st1 (.int .i64 n21) ⟨b25, 9, none⟩ w35 fun w36 =>
 st1 (.int .i64 n22) ⟨b25, 10, none⟩ w36 fun w37 =>
 st1 (.int .u64 n23) ⟨b25, 11, none⟩ w37 fun w38 =>
 st1 (.bool b24) ⟨b25, 12, none⟩ w38 fun w39 =>
 ldI .i64 ⟨b25, 0, none⟩ w39 fun n40 =>
 ldI .i64 ⟨b25, 1, none⟩ w39 fun n41 =>
 ldI .i64 ⟨b25, 2, none⟩ w39 fun n42 =>
 ldI .i64 ⟨b25, 3, none⟩ w39 fun n43 =>
 ldI .i64 ⟨b25, 4, none⟩ w39 fun n44 =>
 ldI .i64 ⟨b25, 5, none⟩ w39 fun n45 =>
 ldI .i64 ⟨b25, 6, none⟩ w39 fun n46 =>
 ldI .i64 ⟨b25, 7, none⟩ w39 fun n47 =>
 ldI .i64 ⟨b25, 8, none⟩ w39 fun n48 =>
 ldI .i64 ⟨b25, 9, none⟩ w39 fun n49 =>
 ldI .i64 ⟨b25, 10, none⟩ w39 fun n50 =>
 ldI .u64 ⟨b25, 11, none⟩ w39 fun n51 =>
 ldB ⟨b25, 12, none⟩ w39 fun b52 =>
 CV P F.text_Print [.agg [.int .i64 n40, .int .i64 n41, .int .i64 n42, .int .i64 n43, .int .i64 n44, .int .i64 n45, .int .i64 n46, .int .i64 n47, .int .i64 n48, .int .i64 n49, .int .i64 n50, .int .u64 n51, .bool b52].toArray] w39 fun v53 w54 =>
 ∃ s55 : ByteArray, ∃ n56 : Int, v53 = .tuple [.string s55, .int .i64 n56].toArray ∧
 cnd (n56 != 0)
 (Q (.tuple [.string ⟨#[]⟩, .int .i64 n56].toArray) w54)
 (CV P F.strings_Builder_WriteString [.pointer (some ⟨b4, 0, none⟩), .string s55] w54 fun v57 w58 =>
 ∃ n59 : Int, ∃ v60 : Value, v57 = .tuple [.int .i64 n59, v60].toArray ∧
 CV P F.strings_Builder_WriteByte [.pointer (some ⟨b4, 0, none⟩), .int .u8 10] w58 fun v61 w62 =>
 ∃ v63 : Value, v61 = v63 ∧
 A9 (((IntKind.i64.wrap (n7 + 1)) : Int)) w62))
 (CV P F.strings_Builder_String [.pointer (some ⟨b4, 0, none⟩)] w8 fun v64 w65 =>
 ∃ s66 : ByteArray, v64 = .string s66 ∧
 Q (.tuple [.string s66, .int .i64 0].toArray) w65)

def text_Text (a0 : Option Addr) (a0_n : Nat) (a0_c : Nat) (w : World) (Q : Value → World → Prop) : Prop :=
 alc [.pointer none, .slice none 0 0] T.t83 w fun b4 w5 =>
 LoopT (fun (s67 : text_Text_L58.S) w68 A69 => text_Text_l0 a0 a0_n Q b4 s67 w68 A69) ((0 : Int)) w5
def text_Text_ann : Nat → Option LoopSpec := fun
  | 58 => some text_Text_L58
  | _ => none
theorem text_Text_eq (a0 : Option Addr) (a0_n : Nat) (a0_c : Nat) (w : World) (Q : Value → World → Prop) : fnX P text_Text_ann Tryd.f20 [.slice a0 a0_n a0_c] w Q = text_Text a0 a0_n a0_c w Q := by kernel_rfl
theorem text_Text_cv {a0 : Option Addr} {a0_n : Nat} {a0_c : Nat} {w : World} {Q : Value → World → Prop} (h : text_Text a0 a0_n a0_c w Q) : CV P F.text_Text [.slice a0 a0_n a0_c] w Q := CV_of mixed Tryd.func20 (text_Text_eq a0 a0_n a0_c w Q ▸ h)

/- 21 crier/text.Lines$1 -/
def text_Lines_1_J491 : LoopSpec where
  S := Bool
  emb := fun s => [(25, .bool s)]
  ext := fun t => match getL t 25 with
    | some (.bool y25) => some (y25)
    | _ => none
  slots := [25]
  fits := fun _ => rfl
  ok := by
    intro t s h x hx
    (try dsimp only at h hx)
    split at h
    · cases h
      simp only [List.mem_cons, List.not_mem_nil, or_false] at hx
      rcases hx with rfl <;> assumption
    · cases h

def text_Lines_1_j0 (l12 : Nat) (r13 : Loop) (Q16 : Value → World → Prop) (b26 : Bool) (w27 : World) : Prop :=
 cnd b26
 (recAt w27 l12 r13 .busy none ∧ setR w27 l12 r13 .done (some .ret) fun w28 => Q16 (.bool false) w28)
 (recAt w27 l12 r13 .busy none ∧ setR w27 l12 r13 .ready none fun w29 => Q16 (.bool true) w29)

def text_Lines_1_r1 (b3 : Nat) (b5 : Nat) (l12 : Nat) (r13 : Loop) (vs14 : List Value) (w15 : World) (Q16 : Value → World → Prop) : Prop :=
 X.b1 vs14 fun v17 =>
 ∃ s18 : ByteArray, v17 = .string s18 ∧
 recAt w15 l12 r13 .ready none ∧ setR w15 l12 r13 .busy none fun w19 =>
 ldI .i64 ⟨b5, 0, none⟩ w19 fun n20 =>
 st1 (.int .i64 (IntKind.i64.wrap (n20 + 1))) ⟨b5, 0, none⟩ w19 fun w21 =>
 CV P F.strings_TrimSuffix [.string s18, .string ⟨#[10]⟩] w21 fun v22 w23 =>
 ∃ s24 : ByteArray, v22 = .string s24 ∧
 JoinT (fun (J30 : text_Lines_1_J491.S → World → Prop) =>
  cnd (!((s24 : ByteArray).toList == (⟨#[]⟩ : ByteArray).toList))
  (sx s24 0 fun n31 =>
  cnd (n31 != 35)
  (ldV ⟨b3, 0, none⟩ w23 fun v32 =>
  ldI .i64 ⟨b5, 0, none⟩ w23 fun n33 =>
  callVal P v32 [.int .i64 n33, .string s24] w23 fun v34 w35 =>
  ∃ b36 : Bool, v34 = .bool b36 ∧
  J30 (((!b36) : Bool)) w35)
  (J30 ((false : Bool)) w23))
  (J30 ((false : Bool)) w23))
  fun (s37 : text_Lines_1_J491.S) w38 => text_Lines_1_j0 l12 r13 Q16 s37 w38

def text_Lines_1 (a0 : Value) (f0 : Addr) (w : World) (Q : Value → World → Prop) : Prop :=
 (oneK a0 <|
 alc [a0] T.t57 w fun b3 w4 =>
 alc [.int .i64 0] T.t3 w4 fun b5 w6 =>
 st1 (.int .i64 0) ⟨b5, 0, none⟩ w6 fun w7 =>
 ldS f0 w7 fun s8 =>
 CV P F.strings_Lines [.string s8] w7 fun v9 w10 =>
 ∃ v11 : Value, v9 = v11 ∧
 RF P none 1 (v11) w10 (fun l12 r13 vs14 w15 Q16 => text_Lines_1_r1 b3 b5 l12 r13 vs14 w15 Q16) fun mk39 jp40 w41 =>
 jmpX jp40
 (takeX (mk39 ++ []) w41 fun w42 =>
 Q (.tuple [].toArray) w42)
 (takeX (mk39 ++ []) w41 fun w43 =>
 Q (.tuple [].toArray) w43)
 fun id44 => False)
def text_Lines_1_ann : Nat → Option LoopSpec := fun
  | 491 => some text_Lines_1_J491
  | _ => none
theorem text_Lines_1_eq (a0 : Value) (f0 : Addr) (w : World) (Q : Value → World → Prop) : fnX P text_Lines_1_ann Tryd.f21 [a0, .pointer (some f0)] w Q = text_Lines_1 a0 f0 w Q := by kernel_rfl
theorem text_Lines_1_cv {a0 : Value} {f0 : Addr} {w : World} {Q : Value → World → Prop} (h : text_Lines_1 a0 f0 w Q) : CV P F.text_Lines_1 [a0, .pointer (some f0)] w Q := CV_of mixed Tryd.func21 (text_Lines_1_eq a0 f0 w Q ▸ h)

/- 22 strings.Lines -/

def strings_Lines (a0 : ByteArray) (w : World) (Q : Value → World → Prop) : Prop :=
 alc [.string a0] T.t9 w fun b2 w3 =>
 Q (.func (.func F.strings_Lines_1) [].toArray [.pointer (some ⟨b2, 0, none⟩)].toArray) w3
def strings_Lines_ann : Nat → Option LoopSpec := fun _ => none
theorem strings_Lines_eq (a0 : ByteArray) (w : World) (Q : Value → World → Prop) : fnX P strings_Lines_ann Tryd.f22 [.string a0] w Q = strings_Lines a0 w Q := by kernel_rfl
theorem strings_Lines_cv {a0 : ByteArray} {w : World} {Q : Value → World → Prop} (h : strings_Lines a0 w Q) : CV P F.strings_Lines [.string a0] w Q := CV_of mixed Tryd.func22 (strings_Lines_eq a0 w Q ▸ h)

/- 23 strings.TrimSuffix -/

def strings_TrimSuffix (a0 : ByteArray) (a1 : ByteArray) (w : World) (Q : Value → World → Prop) : Prop :=
 CV P F.internal_stringslite_TrimSuffix [.string a0, .string a1] w fun v3 w4 =>
 ∃ s5 : ByteArray, v3 = .string s5 ∧
 Q (.string s5) w4
def strings_TrimSuffix_ann : Nat → Option LoopSpec := fun _ => none
theorem strings_TrimSuffix_eq (a0 : ByteArray) (a1 : ByteArray) (w : World) (Q : Value → World → Prop) : fnX P strings_TrimSuffix_ann Tryd.f23 [.string a0, .string a1] w Q = strings_TrimSuffix a0 a1 w Q := by kernel_rfl
theorem strings_TrimSuffix_cv {a0 : ByteArray} {a1 : ByteArray} {w : World} {Q : Value → World → Prop} (h : strings_TrimSuffix a0 a1 w Q) : CV P F.strings_TrimSuffix [.string a0, .string a1] w Q := CV_of mixed Tryd.func23 (strings_TrimSuffix_eq a0 a1 w Q ▸ h)

/- 25 crier/text.find -/
def text_find_L26 : LoopSpec where
  S := Int
  emb := fun s => [(10, .int .i64 s)]
  ext := fun t => match getL t 10 with
    | some (.int .i64 y10) => some (y10)
    | _ => none
  slots := [10]
  fits := fun _ => rfl
  ok := by
    intro t s h x hx
    (try dsimp only at h hx)
    split at h
    · cases h
      simp only [List.mem_cons, List.not_mem_nil, or_false] at hx
      rcases hx with rfl <;> assumption
    · cases h

def text_find_J1689 : LoopSpec where
  S := Bool
  emb := fun s => [(23, .bool s)]
  ext := fun t => match getL t 23 with
    | some (.bool y24) => some (y24)
    | _ => none
  slots := [23]
  fits := fun _ => rfl
  ok := by
    intro t s h x hx
    (try dsimp only at h hx)
    split at h
    · cases h
      simp only [List.mem_cons, List.not_mem_nil, or_false] at hx
      rcases hx with rfl <;> assumption
    · cases h

def text_find_j0 (Q : Value → World → Prop) (b3 : Nat) (n11 : Int) (A13 : text_find_L26.S → World → Prop) (b19 : Nat) (b25 : Bool) (w26 : World) : Prop :=
 cnd b25
 (ldI .i64 ⟨b19, 0, none⟩ w26 fun n27 =>
 ldS ⟨b19, 1, none⟩ w26 fun s28 =>
 ldS ⟨b19, 2, none⟩ w26 fun s29 =>
 st1 (.int .i64 n27) ⟨b3, 0, none⟩ w26 fun w30 =>
 st1 (.string s28) ⟨b3, 1, none⟩ w30 fun w31 =>
 st1 (.string s29) ⟨b3, 2, none⟩ w31 fun w32 =>
 ldI .i64 ⟨b3, 0, none⟩ w32 fun n33 =>
 ldS ⟨b3, 1, none⟩ w32 fun s34 =>
 ldS ⟨b3, 2, none⟩ w32 fun s35 =>
 Q (.tuple [.agg [.int .i64 n33, .string s34, .string s35].toArray, .bool true].toArray) w32)
 (A13 (((IntKind.i64.wrap (n11 + 1)) : Int)) w26)

def text_find_l1 (a0 : ByteArray) (a1 : Int) (Q : Value → World → Prop) (b3 : Nat) (p7 : Option Addr) (l8 : Nat) (n11 : Int) (w12 : World) (A13 : text_find_L26.S → World → Prop) : Prop :=
 cnd (decide (n11 < ((l8 : Nat) : Int)))
 (ix n11 l8 fun j14 => nn p7 fun a15 =>
 ldI .i64 (a15.add (j14 * 3)) w12 fun n16 =>
 ldS ((a15.add (j14 * 3)).add 1) w12 fun s17 =>
 ldS ((a15.add (j14 * 3)).add 2) w12 fun s18 =>
 alc [.int .i64 0, .string ⟨#[]⟩, .string ⟨#[]⟩] T.t64 w12 fun b19 w20 =>
 st1 (.int .i64 n16) ⟨b19, 0, none⟩ w20 fun w21 =>
 st1 (.string s17) ⟨b19, 1, none⟩ w21 fun w22 =>
 st1 (.string s18) ⟨b19, 2, none⟩ w22 fun w23 =>
 JoinT (fun (J36 : text_find_J1689.S → World → Prop) =>
  ldS ⟨b19, 1, none⟩ w23 fun s37 =>
  cnd ((s37 : ByteArray).toList == (a0 : ByteArray).toList)
  (J36 ((true : Bool)) w23)
  (ldI .i64 ⟨b19, 0, none⟩ w23 fun n38 =>
  J36 (((n38 == a1) : Bool)) w23))
  fun (s39 : text_find_J1689.S) w40 => text_find_j0 Q b3 n11 A13 b19 s39 w40)
 (st1 (.int .i64 0) ⟨b3, 0, none⟩ w12 fun w41 =>
 st1 (.string ⟨#[]⟩) ⟨b3, 1, none⟩ w41 fun w42 =>
 st1 (.string ⟨#[]⟩) ⟨b3, 2, none⟩ w42 fun w43 =>
 ldI .i64 ⟨b3, 0, none⟩ w43 fun n44 =>
 ldS ⟨b3, 1, none⟩ w43 fun s45 =>
 ldS ⟨b3, 2, none⟩ w43 fun s46 =>
 Q (.tuple [.agg [.int .i64 n44, .string s45, .string s46].toArray, .bool false].toArray) w43)

def text_find (a0 : ByteArray) (a1 : Int) (w : World) (Q : Value → World → Prop) : Prop :=
 alc [.int .i64 0, .string ⟨#[]⟩, .string ⟨#[]⟩] T.t64 w fun b3 w4 =>
 CV P F.text_words [] w4 fun v5 w6 =>
 ∃ (p7 : Option Addr) (l8 c9 : Nat), v5 = .slice p7 l8 c9 ∧
 LoopT (fun (s47 : text_find_L26.S) w48 A49 => text_find_l1 a0 a1 Q b3 p7 l8 s47 w48 A49) ((0 : Int)) w6
def text_find_ann : Nat → Option LoopSpec := fun
  | 26 => some text_find_L26
  | 1689 => some text_find_J1689
  | _ => none
theorem text_find_eq (a0 : ByteArray) (a1 : Int) (w : World) (Q : Value → World → Prop) : fnX P text_find_ann Tryd.f25 [.string a0, .int .i64 a1] w Q = text_find a0 a1 w Q := by kernel_rfl
theorem text_find_cv {a0 : ByteArray} {a1 : Int} {w : World} {Q : Value → World → Prop} (h : text_find a0 a1 w Q) : CV P F.text_find [.string a0, .int .i64 a1] w Q := CV_of mixed Tryd.func25 (text_find_eq a0 a1 w Q ▸ h)

/- 28 crier/text.with -/
def text_with_J13 : LoopSpec where
  S := Unit
  emb := fun _ => []
  ext := fun _ => some ()
  slots := []
  fits := fun _ => rfl
  ok := by
    intro t s h x hx; cases hx

def text_with_j0 (Q : Value → World → Prop) (b17 : Nat) (b19 : Nat) (w21 : World) : Prop :=
 ldI .i64 ⟨b17, 0, none⟩ w21 fun n22 =>
 ldI .i64 ⟨b17, 1, none⟩ w21 fun n23 =>
 ldI .i64 ⟨b17, 2, none⟩ w21 fun n24 =>
 ldI .i64 ⟨b17, 3, none⟩ w21 fun n25 =>
 ldI .i64 ⟨b17, 4, none⟩ w21 fun n26 =>
 ldI .i64 ⟨b17, 5, none⟩ w21 fun n27 =>
 ldI .i64 ⟨b17, 6, none⟩ w21 fun n28 =>
 ldI .i64 ⟨b17, 7, none⟩ w21 fun n29 =>
 ldI .i64 ⟨b17, 8, none⟩ w21 fun n30 =>
 ldI .i64 ⟨b17, 9, none⟩ w21 fun n31 =>
 ldI .i64 ⟨b17, 10, none⟩ w21 fun n32 =>
 ldI .u64 ⟨b17, 11, none⟩ w21 fun n33 =>
 ldB ⟨b17, 12, none⟩ w21 fun b34 =>
 st1 (.int .i64 n22) ⟨b19, 0, none⟩ w21 fun w35 =>
 st1 (.int .i64 n23) ⟨b19, 1, none⟩ w35 fun w36 =>
 st1 (.int .i64 n24) ⟨b19, 2, none⟩ w36 fun w37 =>
 st1 (.int .i64 n25) ⟨b19, 3, none⟩ w37 fun w38 =>
 st1 (.int .i64 n26) ⟨b19, 4, none⟩ w38 fun w39 =>
 st1 (.int .i64 n27) ⟨b19, 5, none⟩ w39 fun w40 =>
 st1 (.int .i64 n28) ⟨b19, 6, none⟩ w40 fun w41 =>
 st1 (.int .i64 n29) ⟨b19, 7, none⟩ w41 fun w42 =>
 st1 (.int .i64 n30) ⟨b19, 8, none⟩ w42 fun w43 =>
 st1 (.int .i64 n31) ⟨b19, 9, none⟩ w43 fun w44 =>
 st1 (.int .i64 n32) ⟨b19, 10, none⟩ w44 fun w45 =>
 st1 (.int .u64 n33) ⟨b19, 11, none⟩ w45 fun w46 =>
 st1 (.bool b34) ⟨b19, 12, none⟩ w46 fun w47 =>
 ldI .i64 ⟨b19, 0, none⟩ w47 fun n48 =>
 ldI .i64 ⟨b19, 1, none⟩ w47 fun n49 =>
 ldI .i64 ⟨b19, 2, none⟩ w47 fun n50 =>
 ldI .i64 ⟨b19, 3, none⟩ w47 fun n51 =>
 ldI .i64 ⟨b19, 4, none⟩ w47 fun n52 =>
 ldI .i64 ⟨b19, 5, none⟩ w47 fun n53 =>
 ldI .i64 ⟨b19, 6, none⟩ w47 fun n54 =>
 ldI .i64 ⟨b19, 7, none⟩ w47 fun n55 =>
 ldI .i64 ⟨b19, 8, none⟩ w47 fun n56 =>
 ldI .i64 ⟨b19, 9, none⟩ w47 fun n57 =>
 ldI .i64 ⟨b19, 10, none⟩ w47 fun n58 =>
 ldI .u64 ⟨b19, 11, none⟩ w47 fun n59 =>
 ldB ⟨b19, 12, none⟩ w47 fun b60 =>
 Q (.agg [.int .i64 n48, .int .i64 n49, .int .i64 n50, .int .i64 n51, .int .i64 n52, .int .i64 n53, .int .i64 n54, .int .i64 n55, .int .i64 n56, .int .i64 n57, .int .i64 n58, .int .u64 n59, .bool b60].toArray) w47

def text_with (a0_0 : Int) (a0_1 : Int) (a0_2 : Int) (a0_3 : Int) (a0_4 : Int) (a0_5 : Int) (a0_6 : Int) (a0_7 : Int) (a0_8 : Int) (a0_9 : Int) (a0_10 : Int) (a0_11 : Int) (a0_12 : Bool) (a1 : Int) (a2 : Int) (a3 : Int) (w : World) (Q : Value → World → Prop) : Prop :=
 alc [.int .i64 a0_0, .int .i64 a0_1, .int .i64 a0_2, .int .i64 a0_3, .int .i64 a0_4, .int .i64 a0_5, .int .i64 a0_6, .int .i64 a0_7, .int .i64 a0_8, .int .i64 a0_9, .int .i64 a0_10, .int .u64 a0_11, .bool a0_12] T.t40 w fun b17 w18 =>
 alc [.int .i64 0, .int .i64 0, .int .i64 0, .int .i64 0, .int .i64 0, .int .i64 0, .int .i64 0, .int .i64 0, .int .i64 0, .int .i64 0, .int .i64 0, .int .u64 0, .bool false] T.t40 w18 fun b19 w20 =>
 JoinT (fun (J61 : text_with_J13.S → World → Prop) =>
  cnd (a1 == 103)
  (st1 (.int .i64 a2) ⟨b17, 1, none⟩ w20 fun w62 =>
  J61 () w62)
  (cnd (a1 == 118)
  (st1 (.int .i64 a2) ⟨b17, 2, none⟩ w20 fun w63 =>
  J61 () w63)
  (cnd (a1 == 99)
  (st1 (.int .i64 a2) ⟨b17, 3, none⟩ w20 fun w64 =>
  J61 () w64)
  (cnd (a1 == 100)
  (st1 (.int .i64 a2) ⟨b17, 4, none⟩ w20 fun w65 =>
  J61 () w65)
  (cnd (a1 == 101)
  (st1 (.int .i64 a2) ⟨b17, 5, none⟩ w20 fun w66 =>
  J61 () w66)
  (cnd (a1 == 110)
  (st1 (.int .i64 a2) ⟨b17, 6, none⟩ w20 fun w67 =>
  J61 () w67)
  (cnd (a1 == 114)
  (st1 (.int .i64 a2) ⟨b17, 7, none⟩ w20 fun w68 =>
  J61 () w68)
  (cnd (a1 == 116)
  (st1 (.int .i64 a2) ⟨b17, 8, none⟩ w20 fun w69 =>
  J61 () w69)
  (cnd (a1 == 97)
  (st1 (.int .i64 a2) ⟨b17, 9, none⟩ w20 fun w70 =>
  J61 () w70)
  (cnd (a1 == 119)
  (st1 (.int .i64 a2) ⟨b17, 10, none⟩ w20 fun w71 =>
  J61 () w71)
  (cnd (a1 == 120)
  (st1 (.int .u64 a3) ⟨b17, 11, none⟩ w20 fun w72 =>
  J61 () w72)
  (cnd (a1 == 104)
  (st1 (.bool (a2 == 1)) ⟨b17, 12, none⟩ w20 fun w73 =>
  J61 () w73)
  (J61 () w20)))))))))))))
  fun (s74 : text_with_J13.S) w75 => text_with_j0 Q b17 b19 w75
def text_with_ann : Nat → Option LoopSpec := fun
  | 13 => some text_with_J13
  | _ => none
theorem text_with_eq (a0_0 : Int) (a0_1 : Int) (a0_2 : Int) (a0_3 : Int) (a0_4 : Int) (a0_5 : Int) (a0_6 : Int) (a0_7 : Int) (a0_8 : Int) (a0_9 : Int) (a0_10 : Int) (a0_11 : Int) (a0_12 : Bool) (a1 : Int) (a2 : Int) (a3 : Int) (w : World) (Q : Value → World → Prop) : fnX P text_with_ann Tryd.f28 [.agg [.int .i64 a0_0, .int .i64 a0_1, .int .i64 a0_2, .int .i64 a0_3, .int .i64 a0_4, .int .i64 a0_5, .int .i64 a0_6, .int .i64 a0_7, .int .i64 a0_8, .int .i64 a0_9, .int .i64 a0_10, .int .u64 a0_11, .bool a0_12].toArray, .int .u8 a1, .int .i64 a2, .int .u64 a3] w Q = text_with a0_0 a0_1 a0_2 a0_3 a0_4 a0_5 a0_6 a0_7 a0_8 a0_9 a0_10 a0_11 a0_12 a1 a2 a3 w Q := by kernel_rfl
theorem text_with_cv {a0_0 : Int} {a0_1 : Int} {a0_2 : Int} {a0_3 : Int} {a0_4 : Int} {a0_5 : Int} {a0_6 : Int} {a0_7 : Int} {a0_8 : Int} {a0_9 : Int} {a0_10 : Int} {a0_11 : Int} {a0_12 : Bool} {a1 : Int} {a2 : Int} {a3 : Int} {w : World} {Q : Value → World → Prop} (h : text_with a0_0 a0_1 a0_2 a0_3 a0_4 a0_5 a0_6 a0_7 a0_8 a0_9 a0_10 a0_11 a0_12 a1 a2 a3 w Q) : CV P F.text_with [.agg [.int .i64 a0_0, .int .i64 a0_1, .int .i64 a0_2, .int .i64 a0_3, .int .i64 a0_4, .int .i64 a0_5, .int .i64 a0_6, .int .i64 a0_7, .int .i64 a0_8, .int .i64 a0_9, .int .i64 a0_10, .int .u64 a0_11, .bool a0_12].toArray, .int .u8 a1, .int .i64 a2, .int .u64 a3] w Q := CV_of mixed Tryd.func28 (text_with_eq a0_0 a0_1 a0_2 a0_3 a0_4 a0_5 a0_6 a0_7 a0_8 a0_9 a0_10 a0_11 a0_12 a1 a2 a3 w Q ▸ h)

/- 29 crier/text.field -/

def text_field (a0_0 : Int) (a0_1 : Int) (a0_2 : Int) (a0_3 : Int) (a0_4 : Int) (a0_5 : Int) (a0_6 : Int) (a0_7 : Int) (a0_8 : Int) (a0_9 : Int) (a0_10 : Int) (a0_11 : Int) (a0_12 : Bool) (a1 : Int) (w : World) (Q : Value → World → Prop) : Prop :=
 alc [.int .i64 a0_0, .int .i64 a0_1, .int .i64 a0_2, .int .i64 a0_3, .int .i64 a0_4, .int .i64 a0_5, .int .i64 a0_6, .int .i64 a0_7, .int .i64 a0_8, .int .i64 a0_9, .int .i64 a0_10, .int .u64 a0_11, .bool a0_12] T.t40 w fun b15 w16 =>
 cnd (a1 == 103)
 (ldI .i64 ⟨b15, 1, none⟩ w16 fun n17 =>
 CV P F.strconv_Itoa [.int .i64 n17] w16 fun v18 w19 =>
 ∃ s20 : ByteArray, v18 = .string s20 ∧
 Q (.string s20) w19)
 (cnd (a1 == 118)
 (ldI .i64 ⟨b15, 2, none⟩ w16 fun n21 =>
 CV P F.strconv_Itoa [.int .i64 n21] w16 fun v22 w23 =>
 ∃ s24 : ByteArray, v22 = .string s24 ∧
 Q (.string s24) w23)
 (cnd (a1 == 99)
 (ldI .i64 ⟨b15, 3, none⟩ w16 fun n25 =>
 CV P F.strconv_Itoa [.int .i64 n25] w16 fun v26 w27 =>
 ∃ s28 : ByteArray, v26 = .string s28 ∧
 Q (.string s28) w27)
 (cnd (a1 == 100)
 (ldI .i64 ⟨b15, 4, none⟩ w16 fun n29 =>
 CV P F.strconv_Itoa [.int .i64 n29] w16 fun v30 w31 =>
 ∃ s32 : ByteArray, v30 = .string s32 ∧
 Q (.string s32) w31)
 (cnd (a1 == 101)
 (ldI .i64 ⟨b15, 5, none⟩ w16 fun n33 =>
 CV P F.strconv_Itoa [.int .i64 n33] w16 fun v34 w35 =>
 ∃ s36 : ByteArray, v34 = .string s36 ∧
 Q (.string s36) w35)
 (cnd (a1 == 110)
 (ldI .i64 ⟨b15, 6, none⟩ w16 fun n37 =>
 CV P F.strconv_Itoa [.int .i64 n37] w16 fun v38 w39 =>
 ∃ s40 : ByteArray, v38 = .string s40 ∧
 Q (.string s40) w39)
 (cnd (a1 == 114)
 (ldI .i64 ⟨b15, 7, none⟩ w16 fun n41 =>
 CV P F.strconv_Itoa [.int .i64 n41] w16 fun v42 w43 =>
 ∃ s44 : ByteArray, v42 = .string s44 ∧
 Q (.string s44) w43)
 (cnd (a1 == 116)
 (ldI .i64 ⟨b15, 8, none⟩ w16 fun n45 =>
 CV P F.strconv_Itoa [.int .i64 n45] w16 fun v46 w47 =>
 ∃ s48 : ByteArray, v46 = .string s48 ∧
 Q (.string s48) w47)
 (cnd (a1 == 97)
 (ldI .i64 ⟨b15, 9, none⟩ w16 fun n49 =>
 CV P F.strconv_Itoa [.int .i64 n49] w16 fun v50 w51 =>
 ∃ s52 : ByteArray, v50 = .string s52 ∧
 Q (.string s52) w51)
 (cnd (a1 == 119)
 (ldI .i64 ⟨b15, 10, none⟩ w16 fun n53 =>
 CV P F.strconv_Itoa [.int .i64 n53] w16 fun v54 w55 =>
 ∃ s56 : ByteArray, v54 = .string s56 ∧
 Q (.string s56) w55)
 (cnd (a1 == 120)
 (ldI .u64 ⟨b15, 11, none⟩ w16 fun n57 =>
 CV P F.strconv_FormatUint [.int .u64 n57, .int .i64 10] w16 fun v58 w59 =>
 ∃ s60 : ByteArray, v58 = .string s60 ∧
 Q (.string s60) w59)
 (ldB ⟨b15, 12, none⟩ w16 fun b61 =>
 cnd b61
 (Q (.string ⟨#[49]⟩) w16)
 (Q (.string ⟨#[48]⟩) w16))))))))))))
def text_field_ann : Nat → Option LoopSpec := fun _ => none
theorem text_field_eq (a0_0 : Int) (a0_1 : Int) (a0_2 : Int) (a0_3 : Int) (a0_4 : Int) (a0_5 : Int) (a0_6 : Int) (a0_7 : Int) (a0_8 : Int) (a0_9 : Int) (a0_10 : Int) (a0_11 : Int) (a0_12 : Bool) (a1 : Int) (w : World) (Q : Value → World → Prop) : fnX P text_field_ann Tryd.f29 [.agg [.int .i64 a0_0, .int .i64 a0_1, .int .i64 a0_2, .int .i64 a0_3, .int .i64 a0_4, .int .i64 a0_5, .int .i64 a0_6, .int .i64 a0_7, .int .i64 a0_8, .int .i64 a0_9, .int .i64 a0_10, .int .u64 a0_11, .bool a0_12].toArray, .int .u8 a1] w Q = text_field a0_0 a0_1 a0_2 a0_3 a0_4 a0_5 a0_6 a0_7 a0_8 a0_9 a0_10 a0_11 a0_12 a1 w Q := by kernel_rfl
theorem text_field_cv {a0_0 : Int} {a0_1 : Int} {a0_2 : Int} {a0_3 : Int} {a0_4 : Int} {a0_5 : Int} {a0_6 : Int} {a0_7 : Int} {a0_8 : Int} {a0_9 : Int} {a0_10 : Int} {a0_11 : Int} {a0_12 : Bool} {a1 : Int} {w : World} {Q : Value → World → Prop} (h : text_field a0_0 a0_1 a0_2 a0_3 a0_4 a0_5 a0_6 a0_7 a0_8 a0_9 a0_10 a0_11 a0_12 a1 w Q) : CV P F.text_field [.agg [.int .i64 a0_0, .int .i64 a0_1, .int .i64 a0_2, .int .i64 a0_3, .int .i64 a0_4, .int .i64 a0_5, .int .i64 a0_6, .int .i64 a0_7, .int .i64 a0_8, .int .i64 a0_9, .int .i64 a0_10, .int .u64 a0_11, .bool a0_12].toArray, .int .u8 a1] w Q := CV_of mixed Tryd.func29 (text_field_eq a0_0 a0_1 a0_2 a0_3 a0_4 a0_5 a0_6 a0_7 a0_8 a0_9 a0_10 a0_11 a0_12 a1 w Q ▸ h)

/- NOT 30 strings.Join: operation -/

/- 31 crier/crierref29.Names -/

def crierref29_Names (w : World) (Q : Value → World → Prop) : Prop :=
 alc [.string ⟨#[97, 99, 99, 101, 115, 115]⟩, .string ⟨#[108, 111, 97, 100]⟩, .string ⟨#[115, 116, 111, 114, 101]⟩, .string ⟨#[99, 111, 110, 115, 117, 109, 101]⟩, .string ⟨#[109, 101, 115, 115, 97, 103, 101]⟩, .string ⟨#[99, 111, 114, 101]⟩, .string ⟨#[115, 99, 104, 101, 100]⟩, .string ⟨#[119, 105, 114, 101]⟩, .string ⟨#[108, 105, 110, 101]⟩, .string ⟨#[112, 111, 119, 101, 114]⟩, .string ⟨#[116, 105, 99, 107]⟩, .string ⟨#[116, 105, 109, 101, 114]⟩] T.t9 w fun b1 w2 =>
 Q (.slice (some ⟨b1, 0, none⟩) 12 12) w2
def crierref29_Names_ann : Nat → Option LoopSpec := fun _ => none
theorem crierref29_Names_eq (w : World) (Q : Value → World → Prop) : fnX P crierref29_Names_ann Tryd.f31 [] w Q = crierref29_Names w Q := by kernel_rfl
theorem crierref29_Names_cv {w : World} {Q : Value → World → Prop} (h : crierref29_Names w Q) : CV P F.crierref29_Names [] w Q := CV_of mixed Tryd.func31 (crierref29_Names_eq w Q ▸ h)

/- 32 crier/crierref29.Fields -/

def crierref29_Fields (w : World) (Q : Value → World → Prop) : Prop :=
 alc [.string ⟨#[103, 118, 114, 104, 120]⟩, .string ⟨#[103, 118, 97, 119]⟩, .string ⟨#[103, 118, 97, 119, 120]⟩, .string ⟨#[103]⟩, .string ⟨#[100, 101]⟩, .string ⟨#[99]⟩, .string ⟨#[99, 103, 118]⟩, .string ⟨#[103, 118, 110, 104]⟩, .string ⟨#[110, 104]⟩, .string ⟨#[99, 104]⟩, .string ⟨#[120]⟩, .string ⟨#[103, 118, 116, 104, 120]⟩] T.t9 w fun b1 w2 =>
 Q (.slice (some ⟨b1, 0, none⟩) 12 12) w2
def crierref29_Fields_ann : Nat → Option LoopSpec := fun _ => none
theorem crierref29_Fields_eq (w : World) (Q : Value → World → Prop) : fnX P crierref29_Fields_ann Tryd.f32 [] w Q = crierref29_Fields w Q := by kernel_rfl
theorem crierref29_Fields_cv {w : World} {Q : Value → World → Prop} (h : crierref29_Fields w Q) : CV P F.crierref29_Fields [] w Q := CV_of mixed Tryd.func32 (crierref29_Fields_eq w Q ▸ h)

/- 33 strconv.FormatUint -/

def strconv_FormatUint (a0 : Int) (a1 : Int) (w : World) (Q : Value → World → Prop) : Prop :=
 CV P F.internal_strconv_FormatUint [.int .u64 a0, .int .i64 a1] w fun v3 w4 =>
 ∃ s5 : ByteArray, v3 = .string s5 ∧
 Q (.string s5) w4
def strconv_FormatUint_ann : Nat → Option LoopSpec := fun _ => none
theorem strconv_FormatUint_eq (a0 : Int) (a1 : Int) (w : World) (Q : Value → World → Prop) : fnX P strconv_FormatUint_ann Tryd.f33 [.int .u64 a0, .int .i64 a1] w Q = strconv_FormatUint a0 a1 w Q := by kernel_rfl
theorem strconv_FormatUint_cv {a0 : Int} {a1 : Int} {w : World} {Q : Value → World → Prop} (h : strconv_FormatUint a0 a1 w Q) : CV P F.strconv_FormatUint [.int .u64 a0, .int .i64 a1] w Q := CV_of mixed Tryd.func33 (strconv_FormatUint_eq a0 a1 w Q ▸ h)

/- 35 crier/crierref29.number -/
def crierref29_number_J13 : LoopSpec where
  S := Unit
  emb := fun _ => []
  ext := fun _ => some ()
  slots := []
  fits := fun _ => rfl
  ok := by
    intro t s h x hx; cases hx

def crierref29_number_j0 (Q : Value → World → Prop) (w17 : World) : Prop :=
 Q (.int .i64 0) w17

def crierref29_number (a0_0 : Int) (a0_1 : Int) (a0_2 : Int) (a0_3 : Int) (a0_4 : Int) (a0_5 : Int) (a0_6 : Int) (a0_7 : Int) (a0_8 : Int) (a0_9 : Int) (a0_10 : Int) (a0_11 : Int) (a0_12 : Bool) (a1 : Int) (w : World) (Q : Value → World → Prop) : Prop :=
 alc [.int .i64 a0_0, .int .i64 a0_1, .int .i64 a0_2, .int .i64 a0_3, .int .i64 a0_4, .int .i64 a0_5, .int .i64 a0_6, .int .i64 a0_7, .int .i64 a0_8, .int .i64 a0_9, .int .i64 a0_10, .int .u64 a0_11, .bool a0_12] T.t40 w fun b15 w16 =>
 JoinT (fun (J18 : crierref29_number_J13.S → World → Prop) =>
  cnd (a1 == 103)
  (ldI .i64 ⟨b15, 1, none⟩ w16 fun n19 =>
  Q (.int .i64 n19) w16)
  (cnd (a1 == 118)
  (ldI .i64 ⟨b15, 2, none⟩ w16 fun n20 =>
  Q (.int .i64 n20) w16)
  (cnd (a1 == 99)
  (ldI .i64 ⟨b15, 3, none⟩ w16 fun n21 =>
  Q (.int .i64 n21) w16)
  (cnd (a1 == 100)
  (ldI .i64 ⟨b15, 4, none⟩ w16 fun n22 =>
  Q (.int .i64 n22) w16)
  (cnd (a1 == 101)
  (ldI .i64 ⟨b15, 5, none⟩ w16 fun n23 =>
  Q (.int .i64 n23) w16)
  (cnd (a1 == 110)
  (ldI .i64 ⟨b15, 6, none⟩ w16 fun n24 =>
  Q (.int .i64 n24) w16)
  (cnd (a1 == 114)
  (ldI .i64 ⟨b15, 7, none⟩ w16 fun n25 =>
  Q (.int .i64 n25) w16)
  (cnd (a1 == 116)
  (ldI .i64 ⟨b15, 8, none⟩ w16 fun n26 =>
  Q (.int .i64 n26) w16)
  (cnd (a1 == 97)
  (ldI .i64 ⟨b15, 9, none⟩ w16 fun n27 =>
  Q (.int .i64 n27) w16)
  (cnd (a1 == 119)
  (ldI .i64 ⟨b15, 10, none⟩ w16 fun n28 =>
  Q (.int .i64 n28) w16)
  (cnd (a1 == 104)
  (ldB ⟨b15, 12, none⟩ w16 fun b29 =>
  cnd b29
  (Q (.int .i64 1) w16)
  (J18 () w16))
  (J18 () w16))))))))))))
  fun (s30 : crierref29_number_J13.S) w31 => crierref29_number_j0 Q w31
def crierref29_number_ann : Nat → Option LoopSpec := fun
  | 13 => some crierref29_number_J13
  | _ => none
theorem crierref29_number_eq (a0_0 : Int) (a0_1 : Int) (a0_2 : Int) (a0_3 : Int) (a0_4 : Int) (a0_5 : Int) (a0_6 : Int) (a0_7 : Int) (a0_8 : Int) (a0_9 : Int) (a0_10 : Int) (a0_11 : Int) (a0_12 : Bool) (a1 : Int) (w : World) (Q : Value → World → Prop) : fnX P crierref29_number_ann Tryd.f35 [.agg [.int .i64 a0_0, .int .i64 a0_1, .int .i64 a0_2, .int .i64 a0_3, .int .i64 a0_4, .int .i64 a0_5, .int .i64 a0_6, .int .i64 a0_7, .int .i64 a0_8, .int .i64 a0_9, .int .i64 a0_10, .int .u64 a0_11, .bool a0_12].toArray, .int .u8 a1] w Q = crierref29_number a0_0 a0_1 a0_2 a0_3 a0_4 a0_5 a0_6 a0_7 a0_8 a0_9 a0_10 a0_11 a0_12 a1 w Q := by kernel_rfl
theorem crierref29_number_cv {a0_0 : Int} {a0_1 : Int} {a0_2 : Int} {a0_3 : Int} {a0_4 : Int} {a0_5 : Int} {a0_6 : Int} {a0_7 : Int} {a0_8 : Int} {a0_9 : Int} {a0_10 : Int} {a0_11 : Int} {a0_12 : Bool} {a1 : Int} {w : World} {Q : Value → World → Prop} (h : crierref29_number a0_0 a0_1 a0_2 a0_3 a0_4 a0_5 a0_6 a0_7 a0_8 a0_9 a0_10 a0_11 a0_12 a1 w Q) : CV P F.crierref29_number [.agg [.int .i64 a0_0, .int .i64 a0_1, .int .i64 a0_2, .int .i64 a0_3, .int .i64 a0_4, .int .i64 a0_5, .int .i64 a0_6, .int .i64 a0_7, .int .i64 a0_8, .int .i64 a0_9, .int .i64 a0_10, .int .u64 a0_11, .bool a0_12].toArray, .int .u8 a1] w Q := CV_of mixed Tryd.func35 (crierref29_number_eq a0_0 a0_1 a0_2 a0_3 a0_4 a0_5 a0_6 a0_7 a0_8 a0_9 a0_10 a0_11 a0_12 a1 w Q ▸ h)

/- 36 (*strings.Builder).WriteString -/

def strings_Builder_WriteString (a0 : Option Addr) (a1 : ByteArray) (w : World) (Q : Value → World → Prop) : Prop :=
 CV P F.strings_Builder_copyCheck [.pointer a0] w fun v3 w4 =>
 v3 = .tuple [].toArray ∧
 nn a0 fun a5 =>
 ldL (a5.add 1) w4 fun p6 l7 c8 =>
 runS P (Builtin.append_ #[T.t74, T.t9] T.t74 [.slice p6 l7 c8, .string a1].toArray) w4 fun p9 l10 c11 w12 =>
 nn a0 fun a13 =>
 st1 (.slice p9 l10 c11) (a13.add 1) w12 fun w14 =>
 Q (.tuple [.int .i64 (((a1 : ByteArray).size : Nat) : Int), .nilIface].toArray) w14
def strings_Builder_WriteString_ann : Nat → Option LoopSpec := fun _ => none
theorem strings_Builder_WriteString_eq (a0 : Option Addr) (a1 : ByteArray) (w : World) (Q : Value → World → Prop) : fnX P strings_Builder_WriteString_ann Tryd.f36 [.pointer a0, .string a1] w Q = strings_Builder_WriteString a0 a1 w Q := by kernel_rfl
theorem strings_Builder_WriteString_cv {a0 : Option Addr} {a1 : ByteArray} {w : World} {Q : Value → World → Prop} (h : strings_Builder_WriteString a0 a1 w Q) : CV P F.strings_Builder_WriteString [.pointer a0, .string a1] w Q := CV_of mixed Tryd.func36 (strings_Builder_WriteString_eq a0 a1 w Q ▸ h)

/- 37 (*strings.Builder).WriteByte -/

def strings_Builder_WriteByte (a0 : Option Addr) (a1 : Int) (w : World) (Q : Value → World → Prop) : Prop :=
 CV P F.strings_Builder_copyCheck [.pointer a0] w fun v3 w4 =>
 v3 = .tuple [].toArray ∧
 nn a0 fun a5 =>
 ldL (a5.add 1) w4 fun p6 l7 c8 =>
 alc [.int .u8 a1] T.t5 w4 fun b9 w10 =>
 runS P (Builtin.append_ #[T.t74, T.t74] T.t74 [.slice p6 l7 c8, .slice (some ⟨b9, 0, none⟩) 1 1].toArray) w10 fun p11 l12 c13 w14 =>
 nn a0 fun a15 =>
 st1 (.slice p11 l12 c13) (a15.add 1) w14 fun w16 =>
 Q (.nilIface) w16
def strings_Builder_WriteByte_ann : Nat → Option LoopSpec := fun _ => none
theorem strings_Builder_WriteByte_eq (a0 : Option Addr) (a1 : Int) (w : World) (Q : Value → World → Prop) : fnX P strings_Builder_WriteByte_ann Tryd.f37 [.pointer a0, .int .u8 a1] w Q = strings_Builder_WriteByte a0 a1 w Q := by kernel_rfl
theorem strings_Builder_WriteByte_cv {a0 : Option Addr} {a1 : Int} {w : World} {Q : Value → World → Prop} (h : strings_Builder_WriteByte a0 a1 w Q) : CV P F.strings_Builder_WriteByte [.pointer a0, .int .u8 a1] w Q := CV_of mixed Tryd.func37 (strings_Builder_WriteByte_eq a0 a1 w Q ▸ h)

/- NOT 38 (*strings.Builder).String: region 1 (builder.go:47): op 4: kind 3 -/

/- 39 strings.Lines$1 -/
def strings_Lines_1_L2 : LoopSpec where
  S := Unit
  emb := fun _ => []
  ext := fun _ => some ()
  slots := []
  fits := fun _ => rfl
  ok := by
    intro t s h x hx; cases hx

def strings_Lines_1_J37 : LoopSpec where
  S := ByteArray
  emb := fun s => [(3, .string s)]
  ext := fun t => match getL t 3 with
    | some (.string y6) => some (y6)
    | _ => none
  slots := [3]
  fits := fun _ => rfl
  ok := by
    intro t s h x hx
    (try dsimp only at h hx)
    split at h
    · cases h
      simp only [List.mem_cons, List.not_mem_nil, or_false] at hx
      rcases hx with rfl <;> assumption
    · cases h

def strings_Lines_1_j0 (a0 : Value) (Q : Value → World → Prop) (A4 : strings_Lines_1_L2.S → World → Prop) (s7 : ByteArray) (w8 : World) : Prop :=
 callVal P a0 [.string s7] w8 fun v9 w10 =>
 ∃ b11 : Bool, v9 = .bool b11 ∧
 cnd (!b11)
 (Q (.tuple [].toArray) w10)
 (A4 () w10)

def strings_Lines_1_l1 (a0 : Value) (f0 : Addr) (Q : Value → World → Prop) (w3 : World) (A4 : strings_Lines_1_L2.S → World → Prop) : Prop :=
 ldS f0 w3 fun s5 =>
 cnd (decide ((((s5 : ByteArray).size : Nat) : Int) > 0))
 (JoinT (fun (J12 : strings_Lines_1_J37.S → World → Prop) =>
  ldS f0 w3 fun s13 =>
  CV P F.strings_IndexByte [.string s13, .int .u8 10] w3 fun v14 w15 =>
  ∃ n16 : Int, v14 = .int .i64 n16 ∧
  cnd (decide (n16 ≥ 0))
  (drw w15 fun w17 =>
  ldS f0 w17 fun s18 =>
  slS s18 none (some (IntKind.i64.wrap (n16 + 1))) fun s19 =>
  ldS f0 w17 fun s20 =>
  slS s20 (some (IntKind.i64.wrap (n16 + 1))) none fun s21 =>
  st1 (.string s21) f0 w17 fun w22 =>
  J12 ((s19 : ByteArray)) w22)
  (ldS f0 w15 fun s23 =>
  st1 (.string ⟨#[]⟩) f0 w15 fun w24 =>
  J12 ((s23 : ByteArray)) w24))
  fun (s25 : strings_Lines_1_J37.S) w26 => strings_Lines_1_j0 a0 Q A4 s25 w26)
 (Q (.tuple [].toArray) w3)

def strings_Lines_1 (a0 : Value) (f0 : Addr) (w : World) (Q : Value → World → Prop) : Prop :=
 LoopT (fun (s27 : strings_Lines_1_L2.S) w28 A29 => strings_Lines_1_l1 a0 f0 Q w28 A29) () w
def strings_Lines_1_ann : Nat → Option LoopSpec := fun
  | 2 => some strings_Lines_1_L2
  | 37 => some strings_Lines_1_J37
  | 598 => some (ordSpec [0, 1, 2, 3, 4, 5, 6, 7, 8, 9])
  | _ => none
theorem strings_Lines_1_eq (a0 : Value) (f0 : Addr) (w : World) (Q : Value → World → Prop) : fnX P strings_Lines_1_ann Tryd.f39 [a0, .pointer (some f0)] w Q = strings_Lines_1 a0 f0 w Q := by kernel_rfl
theorem strings_Lines_1_cv {a0 : Value} {f0 : Addr} {w : World} {Q : Value → World → Prop} (h : strings_Lines_1 a0 f0 w Q) : CV P F.strings_Lines_1 [a0, .pointer (some f0)] w Q := CV_of mixed Tryd.func39 (strings_Lines_1_eq a0 f0 w Q ▸ h)

/- 40 strings.IndexByte -/

def strings_IndexByte (a0 : ByteArray) (a1 : Int) (w : World) (Q : Value → World → Prop) : Prop :=
 CV P F.internal_stringslite_IndexByte [.string a0, .int .u8 a1] w fun v3 w4 =>
 ∃ n5 : Int, v3 = .int .i64 n5 ∧
 Q (.int .i64 n5) w4
def strings_IndexByte_ann : Nat → Option LoopSpec := fun _ => none
theorem strings_IndexByte_eq (a0 : ByteArray) (a1 : Int) (w : World) (Q : Value → World → Prop) : fnX P strings_IndexByte_ann Tryd.f40 [.string a0, .int .u8 a1] w Q = strings_IndexByte a0 a1 w Q := by kernel_rfl
theorem strings_IndexByte_cv {a0 : ByteArray} {a1 : Int} {w : World} {Q : Value → World → Prop} (h : strings_IndexByte a0 a1 w Q) : CV P F.strings_IndexByte [.string a0, .int .u8 a1] w Q := CV_of mixed Tryd.func40 (strings_IndexByte_eq a0 a1 w Q ▸ h)

/- 41 internal/stringslite.TrimSuffix -/

def internal_stringslite_TrimSuffix (a0 : ByteArray) (a1 : ByteArray) (w : World) (Q : Value → World → Prop) : Prop :=
 CV P F.internal_stringslite_HasSuffix [.string a0, .string a1] w fun v3 w4 =>
 ∃ b5 : Bool, v3 = .bool b5 ∧
 cnd b5
 (slS a0 none (some (IntKind.i64.wrap ((((a0 : ByteArray).size : Nat) : Int) - (((a1 : ByteArray).size : Nat) : Int)))) fun s6 =>
 Q (.string s6) w4)
 (Q (.string a0) w4)
def internal_stringslite_TrimSuffix_ann : Nat → Option LoopSpec := fun _ => none
theorem internal_stringslite_TrimSuffix_eq (a0 : ByteArray) (a1 : ByteArray) (w : World) (Q : Value → World → Prop) : fnX P internal_stringslite_TrimSuffix_ann Tryd.f41 [.string a0, .string a1] w Q = internal_stringslite_TrimSuffix a0 a1 w Q := by kernel_rfl
theorem internal_stringslite_TrimSuffix_cv {a0 : ByteArray} {a1 : ByteArray} {w : World} {Q : Value → World → Prop} (h : internal_stringslite_TrimSuffix a0 a1 w Q) : CV P F.internal_stringslite_TrimSuffix [.string a0, .string a1] w Q := CV_of mixed Tryd.func41 (internal_stringslite_TrimSuffix_eq a0 a1 w Q ▸ h)

/- 43 crier/text.words -/

def text_words (w : World) (Q : Value → World → Prop) : Prop :=
 alc [.int .i64 1, .string ⟨#[97, 99, 99, 101, 115, 115]⟩, .string ⟨#[103, 118, 114, 104, 120]⟩, .int .i64 2, .string ⟨#[108, 111, 97, 100]⟩, .string ⟨#[103, 118, 97, 119]⟩, .int .i64 3, .string ⟨#[115, 116, 111, 114, 101]⟩, .string ⟨#[103, 118, 97, 119, 120]⟩, .int .i64 4, .string ⟨#[99, 111, 110, 115, 117, 109, 101]⟩, .string ⟨#[103]⟩, .int .i64 5, .string ⟨#[109, 101, 115, 115, 97, 103, 101]⟩, .string ⟨#[100, 101]⟩, .int .i64 6, .string ⟨#[99, 111, 114, 101]⟩, .string ⟨#[99]⟩, .int .i64 7, .string ⟨#[115, 99, 104, 101, 100]⟩, .string ⟨#[99, 103, 118]⟩, .int .i64 8, .string ⟨#[119, 105, 114, 101]⟩, .string ⟨#[103, 118, 110, 104]⟩, .int .i64 9, .string ⟨#[108, 105, 110, 101]⟩, .string ⟨#[110, 104]⟩, .int .i64 10, .string ⟨#[112, 111, 119, 101, 114]⟩, .string ⟨#[99, 104]⟩, .int .i64 11, .string ⟨#[116, 105, 99, 107]⟩, .string ⟨#[120]⟩, .int .i64 12, .string ⟨#[116, 105, 109, 101, 114]⟩, .string ⟨#[103, 118, 116, 104, 120]⟩] T.t64 w fun b1 w2 =>
 Q (.slice (some ⟨b1, 0, none⟩) 12 12) w2
def text_words_ann : Nat → Option LoopSpec := fun _ => none
theorem text_words_eq (w : World) (Q : Value → World → Prop) : fnX P text_words_ann Tryd.f43 [] w Q = text_words w Q := by kernel_rfl
theorem text_words_cv {w : World} {Q : Value → World → Prop} (h : text_words w Q) : CV P F.text_words [] w Q := CV_of mixed Tryd.func43 (text_words_eq w Q ▸ h)

/- 48 internal/strconv.FormatUint -/

def internal_strconv_FormatUint (a0 : Int) (a1 : Int) (w : World) (Q : Value → World → Prop) : Prop :=
 cnd (a1 == 10)
 (cnd (decide (a0 < 100))
 (CV P F.internal_strconv_small [.int .i64 (IntKind.i64.wrap (a0))] w fun v3 w4 =>
 ∃ s5 : ByteArray, v3 = .string s5 ∧
 Q (.string s5) w4)
 (alc [.int .u8 0, .int .u8 0, .int .u8 0, .int .u8 0, .int .u8 0, .int .u8 0, .int .u8 0, .int .u8 0, .int .u8 0, .int .u8 0, .int .u8 0, .int .u8 0, .int .u8 0, .int .u8 0, .int .u8 0, .int .u8 0, .int .u8 0, .int .u8 0, .int .u8 0, .int .u8 0, .int .u8 0, .int .u8 0, .int .u8 0, .int .u8 0] T.t104 w fun b6 w7 =>
 CV P F.internal_strconv_numDigits [.int .u64 a0] w7 fun v8 w9 =>
 ∃ n10 : Int, v8 = .int .i64 n10 ∧
 slL (some ⟨b6, 0, none⟩) 24 24 1 none (some n10) none fun p11 l12 c13 =>
 CV P F.internal_strconv_formatBase10 [.slice p11 l12 c13, .int .u64 a0] w9 fun v14 w15 =>
 v14 = .tuple [].toArray ∧
 slL (some ⟨b6, 0, none⟩) 24 24 1 none (some n10) none fun p16 l17 c18 =>
 X.runT P (Conv.bytesToString (.slice p16 l17 c18)) w15 fun s19 =>
 Q (.string s19) w15))
 (CV P F.internal_strconv_formatBits [.slice none 0 0, .int .u64 a0, .int .i64 a1, .bool false, .bool false] w fun v20 w21 =>
 ∃ (p22 : Option Addr) (l23 c24 : Nat), ∃ s25 : ByteArray, v20 = .tuple [.slice p22 l23 c24, .string s25].toArray ∧
 Q (.string s25) w21)
def internal_strconv_FormatUint_ann : Nat → Option LoopSpec := fun _ => none
theorem internal_strconv_FormatUint_eq (a0 : Int) (a1 : Int) (w : World) (Q : Value → World → Prop) : fnX P internal_strconv_FormatUint_ann Tryd.f48 [.int .u64 a0, .int .i64 a1] w Q = internal_strconv_FormatUint a0 a1 w Q := by kernel_rfl
theorem internal_strconv_FormatUint_cv {a0 : Int} {a1 : Int} {w : World} {Q : Value → World → Prop} (h : internal_strconv_FormatUint a0 a1 w Q) : CV P F.internal_strconv_FormatUint [.int .u64 a0, .int .i64 a1] w Q := CV_of mixed Tryd.func48 (internal_strconv_FormatUint_eq a0 a1 w Q ▸ h)

/- 51 internal/stringslite.IndexByte -/

def internal_stringslite_IndexByte (a0 : ByteArray) (a1 : Int) (w : World) (Q : Value → World → Prop) : Prop :=
 extX P F.internal_bytealg_IndexByteString [.string a0, .int .u8 a1] w fun v3 w4 =>
 ∃ n5 : Int, v3 = .int .i64 n5 ∧
 Q (.int .i64 n5) w4
def internal_stringslite_IndexByte_ann : Nat → Option LoopSpec := fun _ => none
theorem internal_stringslite_IndexByte_eq (a0 : ByteArray) (a1 : Int) (w : World) (Q : Value → World → Prop) : fnX P internal_stringslite_IndexByte_ann Tryd.f51 [.string a0, .int .u8 a1] w Q = internal_stringslite_IndexByte a0 a1 w Q := by kernel_rfl
theorem internal_stringslite_IndexByte_cv {a0 : ByteArray} {a1 : Int} {w : World} {Q : Value → World → Prop} (h : internal_stringslite_IndexByte a0 a1 w Q) : CV P F.internal_stringslite_IndexByte [.string a0, .int .u8 a1] w Q := CV_of mixed Tryd.func51 (internal_stringslite_IndexByte_eq a0 a1 w Q ▸ h)

/- 52 internal/stringslite.HasSuffix -/
def internal_stringslite_HasSuffix_J3 : LoopSpec where
  S := Bool
  emb := fun s => [(4, .bool s)]
  ext := fun t => match getL t 4 with
    | some (.bool y3) => some (y3)
    | _ => none
  slots := [4]
  fits := fun _ => rfl
  ok := by
    intro t s h x hx
    (try dsimp only at h hx)
    split at h
    · cases h
      simp only [List.mem_cons, List.not_mem_nil, or_false] at hx
      rcases hx with rfl <;> assumption
    · cases h

def internal_stringslite_HasSuffix_j0 (Q : Value → World → Prop) (b4 : Bool) (w5 : World) : Prop :=
 Q (.bool b4) w5

def internal_stringslite_HasSuffix (a0 : ByteArray) (a1 : ByteArray) (w : World) (Q : Value → World → Prop) : Prop :=
 JoinT (fun (J6 : internal_stringslite_HasSuffix_J3.S → World → Prop) =>
  cnd (decide ((((a0 : ByteArray).size : Nat) : Int) ≥ (((a1 : ByteArray).size : Nat) : Int)))
  (slS a0 (some (IntKind.i64.wrap ((((a0 : ByteArray).size : Nat) : Int) - (((a1 : ByteArray).size : Nat) : Int)))) none fun s7 =>
  J6 ((((s7 : ByteArray).toList == (a1 : ByteArray).toList) : Bool)) w)
  (J6 ((false : Bool)) w))
  fun (s8 : internal_stringslite_HasSuffix_J3.S) w9 => internal_stringslite_HasSuffix_j0 Q s8 w9
def internal_stringslite_HasSuffix_ann : Nat → Option LoopSpec := fun
  | 3 => some internal_stringslite_HasSuffix_J3
  | _ => none
theorem internal_stringslite_HasSuffix_eq (a0 : ByteArray) (a1 : ByteArray) (w : World) (Q : Value → World → Prop) : fnX P internal_stringslite_HasSuffix_ann Tryd.f52 [.string a0, .string a1] w Q = internal_stringslite_HasSuffix a0 a1 w Q := by kernel_rfl
theorem internal_stringslite_HasSuffix_cv {a0 : ByteArray} {a1 : ByteArray} {w : World} {Q : Value → World → Prop} (h : internal_stringslite_HasSuffix a0 a1 w Q) : CV P F.internal_stringslite_HasSuffix [.string a0, .string a1] w Q := CV_of mixed Tryd.func52 (internal_stringslite_HasSuffix_eq a0 a1 w Q ▸ h)

/- 89 internal/bytealg.hashStr[string] -/
def internal_bytealg_hashStr_string_L58 : LoopSpec where
  S := Int × Int
  emb := fun s => [(4, .int .u32 s.1), (5, .int .i64 s.2)]
  ext := fun t => match getL t 4, getL t 5 with
    | some (.int .u32 y2), some (.int .i64 y3) => some (y2, y3)
    | _, _ => none
  slots := [4, 5]
  fits := fun _ => rfl
  ok := by
    intro t s h x hx
    (try dsimp only at h hx)
    split at h
    · cases h
      simp only [List.mem_cons, List.not_mem_nil, or_false] at hx
      rcases hx with rfl | rfl <;> assumption
    · cases h

def internal_bytealg_hashStr_string_L250 : LoopSpec where
  S := Int × Int × Int
  emb := fun s => [(6, .int .u32 s.1), (7, .int .u32 s.2.1), (8, .int .i64 s.2.2)]
  ext := fun t => match getL t 6, getL t 7, getL t 8 with
    | some (.int .u32 y9), some (.int .u32 y10), some (.int .i64 y11) => some (y9, y10, y11)
    | _, _, _ => none
  slots := [6, 7, 8]
  fits := fun _ => rfl
  ok := by
    intro t s h x hx
    (try dsimp only at h hx)
    split at h
    · cases h
      simp only [List.mem_cons, List.not_mem_nil, or_false] at hx
      rcases hx with rfl | rfl | rfl <;> assumption
    · cases h

def internal_bytealg_hashStr_string_J4004 : LoopSpec where
  S := Int
  emb := fun s => [(6, .int .u32 s)]
  ext := fun t => match getL t 6 with
    | some (.int .u32 y17) => some (y17)
    | _ => none
  slots := [6]
  fits := fun _ => rfl
  ok := by
    intro t s h x hx
    (try dsimp only at h hx)
    split at h
    · cases h
      simp only [List.mem_cons, List.not_mem_nil, or_false] at hx
      rcases hx with rfl <;> assumption
    · cases h

def internal_bytealg_hashStr_string_j0 (n13 : Int) (n14 : Int) (A16 : internal_bytealg_hashStr_string_L250.S → World → Prop) (n18 : Int) (w19 : World) : Prop :=
 (nng 1 <|
 A16 ((n18 : Int), ((IntKind.u32.wrap (n13 * n13)) : Int), ((Int.fdiv n14 (2 ^ min (Int.toNat 1) (IntKind.i64.bits))) : Int)) w19)

def internal_bytealg_hashStr_string_l1 (Q : Value → World → Prop) (n4 : Int) (n12 : Int) (n13 : Int) (n14 : Int) (w15 : World) (A16 : internal_bytealg_hashStr_string_L250.S → World → Prop) : Prop :=
 cnd (decide (n14 > 0))
 (JoinT (fun (J20 : internal_bytealg_hashStr_string_J4004.S → World → Prop) =>
  cnd ((bitX .and .i64 n14 1) != 0)
  (J20 (((IntKind.u32.wrap (n12 * n13)) : Int)) w15)
  (J20 ((n12 : Int)) w15))
  fun (s21 : internal_bytealg_hashStr_string_J4004.S) w22 => internal_bytealg_hashStr_string_j0 n13 n14 A16 s21 w22)
 (Q (.tuple [.int .u32 n4, .int .u32 n12].toArray) w15)

def internal_bytealg_hashStr_string_l2 (a0 : ByteArray) (Q : Value → World → Prop) (n4 : Int) (n5 : Int) (w6 : World) (A7 : internal_bytealg_hashStr_string_L58.S → World → Prop) : Prop :=
 cnd (decide (n5 < (((a0 : ByteArray).size : Nat) : Int)))
 (sx a0 n5 fun n8 =>
 A7 (((IntKind.u32.wrap ((IntKind.u32.wrap (n4 * 16777619)) + (IntKind.u32.wrap (n8)))) : Int), ((IntKind.i64.wrap (n5 + 1)) : Int)) w6)
 (LoopT (fun (s23 : internal_bytealg_hashStr_string_L250.S) w24 A25 => internal_bytealg_hashStr_string_l1 Q n4 s23.1 s23.2.1 s23.2.2 w24 A25) ((1 : Int), (16777619 : Int), ((((a0 : ByteArray).size : Nat) : Int) : Int)) w6)

def internal_bytealg_hashStr_string (a0 : ByteArray) (w : World) (Q : Value → World → Prop) : Prop :=
 LoopT (fun (s26 : internal_bytealg_hashStr_string_L58.S) w27 A28 => internal_bytealg_hashStr_string_l2 a0 Q s26.1 s26.2 w27 A28) ((0 : Int), (0 : Int)) w
def internal_bytealg_hashStr_string_ann : Nat → Option LoopSpec := fun
  | 58 => some internal_bytealg_hashStr_string_L58
  | 250 => some internal_bytealg_hashStr_string_L250
  | 4004 => some internal_bytealg_hashStr_string_J4004
  | _ => none
theorem internal_bytealg_hashStr_string_eq (a0 : ByteArray) (w : World) (Q : Value → World → Prop) : fnX P internal_bytealg_hashStr_string_ann Tryd.f89 [.string a0] w Q = internal_bytealg_hashStr_string a0 w Q := by kernel_rfl
theorem internal_bytealg_hashStr_string_cv {a0 : ByteArray} {w : World} {Q : Value → World → Prop} (h : internal_bytealg_hashStr_string a0 w Q) : CV P F.internal_bytealg_hashStr_string [.string a0] w Q := CV_of mixed Tryd.func89 (internal_bytealg_hashStr_string_eq a0 w Q ▸ h)
end Go.Proofs.YtbnadobjnmboiaaDoor
