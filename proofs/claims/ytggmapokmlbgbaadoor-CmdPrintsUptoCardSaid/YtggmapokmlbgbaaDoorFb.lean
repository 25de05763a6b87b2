/-
  The functions' words, printed by Gen.lean out of the translation.
-/
import Derived.Test.YtggmapokmlbgbaaDoorFn0
namespace Go.Proofs.YtggmapokmlbgbaaDoor
open Go X
set_option maxRecDepth 100000
set_option linter.unusedVariables false
/- 13 crier/crierref16.Decode -/
def crierref16_Decode_L506 : LoopSpec where
  S := Int
  emb := fun s => [(8, .int .i64 s)]
  ext := fun t => match getL t 8 with
    | some (.int .i64 y71) => some (y71)
    | _ => none
  slots := [8]
  fits := fun _ => rfl
  ok := by
    intro t s h x hx
    (try dsimp only at h hx)
    split at h
    · cases h
      simp only [List.mem_cons, List.not_mem_nil, or_false] at hx
      rcases hx with rfl <;> assumption
    · cases h

def crierref16_Decode_J32403 : LoopSpec where
  S := Unit
  emb := fun _ => []
  ext := fun _ => some ()
  slots := []
  fits := fun _ => rfl
  ok := by
    intro t s h x hx; cases hx

def crierref16_Decode_j0 (n72 : Int) (A74 : crierref16_Decode_L506.S → World → Prop) (w96 : World) : Prop :=
 A74 (((IntKind.i64.wrap (n72 + 1)) : Int)) w96

def crierref16_Decode_J259227 : LoopSpec where
  S := Bool
  emb := fun s => [(59, .bool s)]
  ext := fun t => match getL t 59 with
    | some (.bool y100) => some (y100)
    | _ => none
  slots := [59]
  fits := fun _ => rfl
  ok := by
    intro t s h x hx
    (try dsimp only at h hx)
    split at h
    · cases h
      simp only [List.mem_cons, List.not_mem_nil, or_false] at hx
      rcases hx with rfl <;> assumption
    · cases h

def crierref16_Decode_J1036911 : LoopSpec where
  S := Bool
  emb := fun s => [(73, .bool s)]
  ext := fun t => match getL t 73 with
    | some (.bool y104) => some (y104)
    | _ => none
  slots := [73]
  fits := fun _ => rfl
  ok := by
    intro t s h x hx
    (try dsimp only at h hx)
    split at h
    · cases h
      simp only [List.mem_cons, List.not_mem_nil, or_false] at hx
      rcases hx with rfl <;> assumption
    · cases h

def crierref16_Decode_j1 (b11 : Nat) (b81 : Nat) (n95 : Int) (J97 : crierref16_Decode_J32403.S → World → Prop) (b105 : Bool) (w106 : World) : Prop :=
 cnd b105
 (st1 (.int .i64 n95) ⟨b11, 2, none⟩ w106 fun w107 =>
 J97 () w107)
 (ldI .i64 ⟨b81, 0, none⟩ w106 fun n108 =>
 cnd (n108 == 1)
 (st1 (.int .i64 n95) ⟨b11, 6, none⟩ w106 fun w109 =>
 J97 () w109)
 (ldI .i64 ⟨b81, 1, none⟩ w106 fun n110 =>
 cnd (n110 == 0)
 (st1 (.int .i64 n95) ⟨b11, 4, none⟩ w106 fun w111 =>
 J97 () w111)
 (ldI .i64 ⟨b81, 1, none⟩ w106 fun n112 =>
 cnd (n112 == 16)
 (st1 (.int .i64 n95) ⟨b11, 5, none⟩ w106 fun w113 =>
 J97 () w113)
 (ldI .i64 ⟨b81, 1, none⟩ w106 fun n114 =>
 cnd (n114 == 8)
 (st1 (.int .i64 (IntKind.i64.wrap (256 * n95))) ⟨b11, 7, none⟩ w106 fun w115 =>
 J97 () w115)
 (st1 (.bool (n95 == 1)) ⟨b11, 8, none⟩ w106 fun w116 =>
 J97 () w116)))))

def crierref16_Decode_j2 (b11 : Nat) (b81 : Nat) (n95 : Int) (J97 : crierref16_Decode_J32403.S → World → Prop) (b101 : Bool) (w102 : World) : Prop :=
 cnd b101
 (st1 (.int .i64 n95) ⟨b11, 3, none⟩ w102 fun w103 =>
 J97 () w103)
 (JoinT (fun (J117 : crierref16_Decode_J1036911.S → World → Prop) =>
  ldI .i64 ⟨b81, 0, none⟩ w102 fun n118 =>
  cnd (n118 == 1)
  (ldI .i64 ⟨b81, 2, none⟩ w102 fun n119 =>
  J117 (((n119 == 32) : Bool)) w102)
  (J117 ((false : Bool)) w102))
  fun (s120 : crierref16_Decode_J1036911.S) w121 => crierref16_Decode_j1 b11 b81 n95 J97 s120 w121)

def crierref16_Decode_J510 : LoopSpec where
  S := Bool
  emb := fun s => [(120, .bool s)]
  ext := fun t => match getL t 120 with
    | some (.bool y152) => some (y152)
    | _ => none
  slots := [120]
  fits := fun _ => rfl
  ok := by
    intro t s h x hx
    (try dsimp only at h hx)
    split at h
    · cases h
      simp only [List.mem_cons, List.not_mem_nil, or_false] at hx
      rcases hx with rfl <;> assumption
    · cases h

def crierref16_Decode_j3 (Q : Value → World → Prop) (b7 : Nat) (b11 : Nat) (b153 : Bool) (w154 : World) : Prop :=
 cnd b153
 (st1 (.int .i64 0) ⟨b7, 0, none⟩ w154 fun w155 =>
 st1 (.int .i64 0) ⟨b7, 1, none⟩ w155 fun w156 =>
 st1 (.int .i64 0) ⟨b7, 2, none⟩ w156 fun w157 =>
 st1 (.int .i64 0) ⟨b7, 3, none⟩ w157 fun w158 =>
 st1 (.int .i64 0) ⟨b7, 4, none⟩ w158 fun w159 =>
 st1 (.int .i64 0) ⟨b7, 5, none⟩ w159 fun w160 =>
 st1 (.int .i64 0) ⟨b7, 6, none⟩ w160 fun w161 =>
 st1 (.int .i64 0) ⟨b7, 7, none⟩ w161 fun w162 =>
 st1 (.bool false) ⟨b7, 8, none⟩ w162 fun w163 =>
 ldI .i64 ⟨b7, 0, none⟩ w163 fun n164 =>
 ldI .i64 ⟨b7, 1, none⟩ w163 fun n165 =>
 ldI .i64 ⟨b7, 2, none⟩ w163 fun n166 =>
 ldI .i64 ⟨b7, 3, none⟩ w163 fun n167 =>
 ldI .i64 ⟨b7, 4, none⟩ w163 fun n168 =>
 ldI .i64 ⟨b7, 5, none⟩ w163 fun n169 =>
 ldI .i64 ⟨b7, 6, none⟩ w163 fun n170 =>
 ldI .i64 ⟨b7, 7, none⟩ w163 fun n171 =>
 ldB ⟨b7, 8, none⟩ w163 fun b172 =>
 Q (.tuple [.agg [.int .i64 n164, .int .i64 n165, .int .i64 n166, .int .i64 n167, .int .i64 n168, .int .i64 n169, .int .i64 n170, .int .i64 n171, .bool b172].toArray, .bool false].toArray) w163)
 (ldI .i64 ⟨b11, 0, none⟩ w154 fun n173 =>
 ldI .i64 ⟨b11, 1, none⟩ w154 fun n174 =>
 ldI .i64 ⟨b11, 2, none⟩ w154 fun n175 =>
 ldI .i64 ⟨b11, 3, none⟩ w154 fun n176 =>
 ldI .i64 ⟨b11, 4, none⟩ w154 fun n177 =>
 ldI .i64 ⟨b11, 5, none⟩ w154 fun n178 =>
 ldI .i64 ⟨b11, 6, none⟩ w154 fun n179 =>
 ldI .i64 ⟨b11, 7, none⟩ w154 fun n180 =>
 ldB ⟨b11, 8, none⟩ w154 fun b181 =>
 st1 (.int .i64 n173) ⟨b7, 0, none⟩ w154 fun w182 =>
 st1 (.int .i64 n174) ⟨b7, 1, none⟩ w182 fun w183 =>
 st1 (.int .i64 n175) ⟨b7, 2, none⟩ w183 fun w184 =>
 st1 (.int .i64 n176) ⟨b7, 3, none⟩ w184 fun w185 =>
 st1 (.int .i64 n177) ⟨b7, 4, none⟩ w185 fun w186 =>
 st1 (.int .i64 n178) ⟨b7, 5, none⟩ w186 fun w187 =>
 st1 (.int .i64 n179) ⟨b7, 6, none⟩ w187 fun w188 =>
 st1 (.int .i64 n180) ⟨b7, 7, none⟩ w188 fun w189 =>
 st1 (.bool b181) ⟨b7, 8, none⟩ w189 fun w190 =>
 ldI .i64 ⟨b7, 0, none⟩ w190 fun n191 =>
 ldI .i64 ⟨b7, 1, none⟩ w190 fun n192 =>
 ldI .i64 ⟨b7, 2, none⟩ w190 fun n193 =>
 ldI .i64 ⟨b7, 3, none⟩ w190 fun n194 =>
 ldI .i64 ⟨b7, 4, none⟩ w190 fun n195 =>
 ldI .i64 ⟨b7, 5, none⟩ w190 fun n196 =>
 ldI .i64 ⟨b7, 6, none⟩ w190 fun n197 =>
 ldI .i64 ⟨b7, 7, none⟩ w190 fun n198 =>
 ldB ⟨b7, 8, none⟩ w190 fun b199 =>
 Q (.tuple [.agg [.int .i64 n191, .int .i64 n192, .int .i64 n193, .int .i64 n194, .int .i64 n195, .int .i64 n196, .int .i64 n197, .int .i64 n198, .bool b199].toArray, .bool true].toArray) w190)

def crierref16_Decode_l4 (Q : Value → World → Prop) (b5 : Nat) (b7 : Nat) (b11 : Nat) (p45 : Option Addr) (l46 : Nat) (n72 : Int) (w73 : World) (A74 : crierref16_Decode_L506.S → World → Prop) : Prop :=
 cnd (decide (n72 < ((l46 : Nat) : Int)))
 (ix n72 l46 fun j75 => nn p45 fun a76 =>
 ldI .i64 (a76.add (j75 * 4)) w73 fun n77 =>
 ldI .i64 ((a76.add (j75 * 4)).add 1) w73 fun n78 =>
 ldI .i64 ((a76.add (j75 * 4)).add 2) w73 fun n79 =>
 ldI .i64 ((a76.add (j75 * 4)).add 3) w73 fun n80 =>
 alc [.int .i64 0, .int .i64 0, .int .i64 0, .int .i64 0] T.t80 w73 fun b81 w82 =>
 st1 (.int .i64 n77) ⟨b81, 0, none⟩ w82 fun w83 =>
 st1 (.int .i64 n78) ⟨b81, 1, none⟩ w83 fun w84 =>
 st1 (.int .i64 n79) ⟨b81, 2, none⟩ w84 fun w85 =>
 st1 (.int .i64 n80) ⟨b81, 3, none⟩ w85 fun w86 =>
 drw w86 fun w87 =>
 ldI .i64 ⟨b81, 0, none⟩ w87 fun n88 =>
 ix n88 4 fun j89 =>
 ldI .u64 (Addr.add ⟨b5, 0, none⟩ (j89 * 1)) w87 fun n90 =>
 ldI .i64 ⟨b81, 1, none⟩ w87 fun n91 =>
 ldI .i64 ⟨b81, 2, none⟩ w87 fun n92 =>
 CV P F.crierref16_part [.int .u64 n90, .int .i64 n91, .int .i64 n92] w87 fun v93 w94 =>
 ∃ n95 : Int, v93 = .int .i64 n95 ∧
 JoinT (fun (J97 : crierref16_Decode_J32403.S → World → Prop) =>
  ldI .i64 ⟨b81, 0, none⟩ w94 fun n98 =>
  cnd (n98 == 0)
  (st1 (.int .i64 n95) ⟨b11, 1, none⟩ w94 fun w99 =>
  J97 () w99)
  (JoinT (fun (J122 : crierref16_Decode_J259227.S → World → Prop) =>
   ldI .i64 ⟨b81, 0, none⟩ w94 fun n123 =>
   cnd (n123 == 3)
   (J122 (((n123 == 3) : Bool)) w94)
   (ldI .i64 ⟨b81, 0, none⟩ w94 fun n124 =>
   cnd (n124 == 1)
   (ldI .i64 ⟨b81, 1, none⟩ w94 fun n125 =>
   J122 (((n125 == 32) : Bool)) w94)
   (J122 ((false : Bool)) w94)))
   fun (s126 : crierref16_Decode_J259227.S) w127 => crierref16_Decode_j2 b11 b81 n95 J97 s126 w127))
  fun (s128 : crierref16_Decode_J32403.S) w129 => crierref16_Decode_j0 n72 A74 w129)
 (ldI .i64 ⟨b11, 0, none⟩ w73 fun n130 =>
 ldI .i64 ⟨b11, 1, none⟩ w73 fun n131 =>
 ldI .i64 ⟨b11, 2, none⟩ w73 fun n132 =>
 ldI .i64 ⟨b11, 3, none⟩ w73 fun n133 =>
 ldI .i64 ⟨b11, 4, none⟩ w73 fun n134 =>
 ldI .i64 ⟨b11, 5, none⟩ w73 fun n135 =>
 ldI .i64 ⟨b11, 6, none⟩ w73 fun n136 =>
 ldI .i64 ⟨b11, 7, none⟩ w73 fun n137 =>
 ldB ⟨b11, 8, none⟩ w73 fun b138 =>
 CV P F.crierref16_Encode [.agg [.int .i64 n130, .int .i64 n131, .int .i64 n132, .int .i64 n133, .int .i64 n134, .int .i64 n135, .int .i64 n136, .int .i64 n137, .bool b138].toArray] w73 fun v139 w140 =>
 ∃ n141 : Int, ∃ n142 : Int, ∃ n143 : Int, ∃ n144 : Int, ∃ b145 : Bool, v139 = .tuple [.agg [.int .u64 n141, .int .u64 n142, .int .u64 n143, .int .u64 n144].toArray, .bool b145].toArray ∧
 alc [.int .u64 0, .int .u64 0, .int .u64 0, .int .u64 0] T.t26 w140 fun b146 w147 =>
 st1 (.int .u64 n141) ⟨b146, 0, none⟩ w147 fun w148 =>
 st1 (.int .u64 n142) ⟨b146, 1, none⟩ w148 fun w149 =>
 st1 (.int .u64 n143) ⟨b146, 2, none⟩ w149 fun w150 =>
 st1 (.int .u64 n144) ⟨b146, 3, none⟩ w150 fun w151 =>
 JoinT (fun (J200 : crierref16_Decode_J510.S → World → Prop) =>
  cnd (!b145)
  (J200 ((true : Bool)) w151)
  (ldI .u64 ⟨b146, 0, none⟩ w151 fun n201 =>
  ldI .u64 ⟨b146, 1, none⟩ w151 fun n202 =>
  ldI .u64 ⟨b146, 2, none⟩ w151 fun n203 =>
  ldI .u64 ⟨b146, 3, none⟩ w151 fun n204 =>
  ldI .u64 ⟨b5, 0, none⟩ w151 fun n205 =>
  ldI .u64 ⟨b5, 1, none⟩ w151 fun n206 =>
  ldI .u64 ⟨b5, 2, none⟩ w151 fun n207 =>
  ldI .u64 ⟨b5, 3, none⟩ w151 fun n208 =>
  eqA P .neq T.t26 (.agg [.int .u64 n201, .int .u64 n202, .int .u64 n203, .int .u64 n204].toArray) (.agg [.int .u64 n205, .int .u64 n206, .int .u64 n207, .int .u64 n208].toArray) w151 fun b209 =>
  J200 ((b209 : Bool)) w151))
  fun (s210 : crierref16_Decode_J510.S) w211 => crierref16_Decode_j3 Q b7 b11 s210 w211)

def crierref16_Decode (a0_0 : Int) (a0_1 : Int) (a0_2 : Int) (a0_3 : Int) (w : World) (Q : Value → World → Prop) : Prop :=
 alc [.int .u64 a0_0, .int .u64 a0_1, .int .u64 a0_2, .int .u64 a0_3] T.t26 w fun b5 w6 =>
 alc [.int .i64 0, .int .i64 0, .int .i64 0, .int .i64 0, .int .i64 0, .int .i64 0, .int .i64 0, .int .i64 0, .bool false] T.t24 w6 fun b7 w8 =>
 ix 0 4 fun j9 =>
 ldI .u64 (Addr.add ⟨b5, 0, none⟩ (j9 * 1)) w8 fun n10 =>
 (nz 256 <|
 alc [.int .i64 0, .int .i64 0, .int .i64 0, .int .i64 0, .int .i64 0, .int .i64 0, .int .i64 0, .int .i64 0, .bool false] T.t24 w8 fun b11 w12 =>
 st1 (.int .i64 (IntKind.i64.wrap ((Int.tmod n10 256)))) ⟨b11, 0, none⟩ w12 fun w13 =>
 st1 (.int .i64 0) ⟨b11, 1, none⟩ w13 fun w14 =>
 st1 (.int .i64 0) ⟨b11, 2, none⟩ w14 fun w15 =>
 st1 (.int .i64 0) ⟨b11, 3, none⟩ w15 fun w16 =>
 st1 (.int .i64 0) ⟨b11, 4, none⟩ w16 fun w17 =>
 st1 (.int .i64 0) ⟨b11, 5, none⟩ w17 fun w18 =>
 st1 (.int .i64 0) ⟨b11, 6, none⟩ w18 fun w19 =>
 st1 (.int .i64 0) ⟨b11, 7, none⟩ w19 fun w20 =>
 st1 (.bool false) ⟨b11, 8, none⟩ w20 fun w21 =>
 ldI .i64 ⟨b11, 0, none⟩ w21 fun n22 =>
 alc [.int .i64 0, .int .i64 0, .int .i64 0, .int .i64 0, .int .i64 0, .int .i64 0, .int .i64 0, .int .i64 0, .bool false] T.t24 w21 fun b23 w24 =>
 st1 (.int .i64 n22) ⟨b23, 0, none⟩ w24 fun w25 =>
 st1 (.int .i64 0) ⟨b23, 1, none⟩ w25 fun w26 =>
 st1 (.int .i64 0) ⟨b23, 2, none⟩ w26 fun w27 =>
 st1 (.int .i64 0) ⟨b23, 3, none⟩ w27 fun w28 =>
 st1 (.int .i64 0) ⟨b23, 4, none⟩ w28 fun w29 =>
 st1 (.int .i64 0) ⟨b23, 5, none⟩ w29 fun w30 =>
 st1 (.int .i64 0) ⟨b23, 6, none⟩ w30 fun w31 =>
 st1 (.int .i64 0) ⟨b23, 7, none⟩ w31 fun w32 =>
 st1 (.bool false) ⟨b23, 8, none⟩ w32 fun w33 =>
 ldI .i64 ⟨b23, 0, none⟩ w33 fun n34 =>
 ldI .i64 ⟨b23, 1, none⟩ w33 fun n35 =>
 ldI .i64 ⟨b23, 2, none⟩ w33 fun n36 =>
 ldI .i64 ⟨b23, 3, none⟩ w33 fun n37 =>
 ldI .i64 ⟨b23, 4, none⟩ w33 fun n38 =>
 ldI .i64 ⟨b23, 5, none⟩ w33 fun n39 =>
 ldI .i64 ⟨b23, 6, none⟩ w33 fun n40 =>
 ldI .i64 ⟨b23, 7, none⟩ w33 fun n41 =>
 ldB ⟨b23, 8, none⟩ w33 fun b42 =>
 CV P F.crierref16_Fields [.agg [.int .i64 n34, .int .i64 n35, .int .i64 n36, .int .i64 n37, .int .i64 n38, .int .i64 n39, .int .i64 n40, .int .i64 n41, .bool b42].toArray] w33 fun v43 w44 =>
 ∃ (p45 : Option Addr) (l46 c47 : Nat), ∃ b48 : Bool, v43 = .tuple [.slice p45 l46 c47, .bool b48].toArray ∧
 ldI .i64 ⟨b11, 0, none⟩ w44 fun n49 =>
 CV P F.crierref16_Known [.int .i64 n49] w44 fun v50 w51 =>
 ∃ b52 : Bool, v50 = .bool b52 ∧
 cnd (!b52)
 (st1 (.int .i64 0) ⟨b7, 0, none⟩ w51 fun w53 =>
 st1 (.int .i64 0) ⟨b7, 1, none⟩ w53 fun w54 =>
 st1 (.int .i64 0) ⟨b7, 2, none⟩ w54 fun w55 =>
 st1 (.int .i64 0) ⟨b7, 3, none⟩ w55 fun w56 =>
 st1 (.int .i64 0) ⟨b7, 4, none⟩ w56 fun w57 =>
 st1 (.int .i64 0) ⟨b7, 5, none⟩ w57 fun w58 =>
 st1 (.int .i64 0) ⟨b7, 6, none⟩ w58 fun w59 =>
 st1 (.int .i64 0) ⟨b7, 7, none⟩ w59 fun w60 =>
 st1 (.bool false) ⟨b7, 8, none⟩ w60 fun w61 =>
 ldI .i64 ⟨b7, 0, none⟩ w61 fun n62 =>
 ldI .i64 ⟨b7, 1, none⟩ w61 fun n63 =>
 ldI .i64 ⟨b7, 2, none⟩ w61 fun n64 =>
 ldI .i64 ⟨b7, 3, none⟩ w61 fun n65 =>
 ldI .i64 ⟨b7, 4, none⟩ w61 fun n66 =>
 ldI .i64 ⟨b7, 5, none⟩ w61 fun n67 =>
 ldI .i64 ⟨b7, 6, none⟩ w61 fun n68 =>
 ldI .i64 ⟨b7, 7, none⟩ w61 fun n69 =>
 ldB ⟨b7, 8, none⟩ w61 fun b70 =>
 Q (.tuple [.agg [.int .i64 n62, .int .i64 n63, .int .i64 n64, .int .i64 n65, .int .i64 n66, .int .i64 n67, .int .i64 n68, .int .i64 n69, .bool b70].toArray, .bool false].toArray) w61)
 (LoopT (fun (s212 : crierref16_Decode_L506.S) w213 A214 => crierref16_Decode_l4 Q b5 b7 b11 p45 l46 s212 w213 A214) ((0 : Int)) w51))
def crierref16_Decode_ann : Nat → Option LoopSpec := fun
  | 506 => some crierref16_Decode_L506
  | 32402 => some (ordSpec [0, 1, 2, 3, 4, 5, 6, 7, 8, 9])
  | 32403 => some crierref16_Decode_J32403
  | 259227 => some crierref16_Decode_J259227
  | 1036911 => some crierref16_Decode_J1036911
  | 510 => some crierref16_Decode_J510
  | _ => none
theorem crierref16_Decode_eq (a0_0 : Int) (a0_1 : Int) (a0_2 : Int) (a0_3 : Int) (w : World) (Q : Value → World → Prop) : fnX P crierref16_Decode_ann Tryd.f13 [.agg [.int .u64 a0_0, .int .u64 a0_1, .int .u64 a0_2, .int .u64 a0_3].toArray] w Q = crierref16_Decode a0_0 a0_1 a0_2 a0_3 w Q := by kernel_rfl
theorem crierref16_Decode_cv {a0_0 : Int} {a0_1 : Int} {a0_2 : Int} {a0_3 : Int} {w : World} {Q : Value → World → Prop} (h : crierref16_Decode a0_0 a0_1 a0_2 a0_3 w Q) : CV P F.crierref16_Decode [.agg [.int .u64 a0_0, .int .u64 a0_1, .int .u64 a0_2, .int .u64 a0_3].toArray] w Q := CV_of mixed Tryd.func13 (crierref16_Decode_eq a0_0 a0_1 a0_2 a0_3 w Q ▸ h)

/- 14 crier/crierlaw16.awake -/
def crierlaw16_awake_J127 : LoopSpec where
  S := Bool
  emb := fun s => [(0, .bool s)]
  ext := fun t => match getL t 0 with
    | some (.bool y83) => some (y83)
    | _ => none
  slots := [0]
  fits := fun _ => rfl
  ok := by
    intro t s h x hx
    (try dsimp only at h hx)
    split at h
    · cases h
      simp only [List.mem_cons, List.not_mem_nil, or_false] at hx
      rcases hx with rfl <;> assumption
    · cases h

def crierlaw16_awake_j0 (Q : Value → World → Prop) (b84 : Bool) (w85 : World) : Prop :=
 Q (.bool b84) w85

def crierlaw16_awake (w : World) (Q : Value → World → Prop) : Prop :=
 alc [.int .i64 0, .int .i64 0, .int .i64 0, .int .i64 0, .int .i64 0, .int .i64 0, .int .i64 0, .int .i64 0, .bool false] T.t24 w fun b1 w2 =>
 st1 (.int .i64 10) ⟨b1, 0, none⟩ w2 fun w3 =>
 st1 (.int .i64 3) ⟨b1, 1, none⟩ w3 fun w4 =>
 st1 (.int .i64 2) ⟨b1, 2, none⟩ w4 fun w5 =>
 st1 (.int .i64 8200) ⟨b1, 3, none⟩ w5 fun w6 =>
 st1 (.int .i64 1) ⟨b1, 4, none⟩ w6 fun w7 =>
 st1 (.int .i64 0) ⟨b1, 5, none⟩ w7 fun w8 =>
 st1 (.int .i64 0) ⟨b1, 6, none⟩ w8 fun w9 =>
 st1 (.int .i64 0) ⟨b1, 7, none⟩ w9 fun w10 =>
 st1 (.bool false) ⟨b1, 8, none⟩ w10 fun w11 =>
 ldI .i64 ⟨b1, 0, none⟩ w11 fun n12 =>
 ldI .i64 ⟨b1, 1, none⟩ w11 fun n13 =>
 ldI .i64 ⟨b1, 2, none⟩ w11 fun n14 =>
 ldI .i64 ⟨b1, 3, none⟩ w11 fun n15 =>
 ldI .i64 ⟨b1, 4, none⟩ w11 fun n16 =>
 ldI .i64 ⟨b1, 5, none⟩ w11 fun n17 =>
 ldI .i64 ⟨b1, 6, none⟩ w11 fun n18 =>
 ldI .i64 ⟨b1, 7, none⟩ w11 fun n19 =>
 ldB ⟨b1, 8, none⟩ w11 fun b20 =>
 CV P F.cmd_Encode [.agg [.int .i64 n12, .int .i64 n13, .int .i64 n14, .int .i64 n15, .int .i64 n16, .int .i64 n17, .int .i64 n18, .int .i64 n19, .bool b20].toArray] w11 fun v21 w22 =>
 ∃ n23 : Int, ∃ n24 : Int, ∃ n25 : Int, ∃ n26 : Int, ∃ n27 : Int, v21 = .tuple [.agg [.int .u64 n23, .int .u64 n24, .int .u64 n25, .int .u64 n26].toArray, .int .i64 n27].toArray ∧
 alc [.int .u64 0, .int .u64 0, .int .u64 0, .int .u64 0] T.t26 w22 fun b28 w29 =>
 st1 (.int .u64 n23) ⟨b28, 0, none⟩ w29 fun w30 =>
 st1 (.int .u64 n24) ⟨b28, 1, none⟩ w30 fun w31 =>
 st1 (.int .u64 n25) ⟨b28, 2, none⟩ w31 fun w32 =>
 st1 (.int .u64 n26) ⟨b28, 3, none⟩ w32 fun w33 =>
 ldI .i64 ⟨b1, 0, none⟩ w33 fun n34 =>
 ldI .i64 ⟨b1, 1, none⟩ w33 fun n35 =>
 ldI .i64 ⟨b1, 2, none⟩ w33 fun n36 =>
 ldI .i64 ⟨b1, 3, none⟩ w33 fun n37 =>
 ldI .i64 ⟨b1, 4, none⟩ w33 fun n38 =>
 ldI .i64 ⟨b1, 5, none⟩ w33 fun n39 =>
 ldI .i64 ⟨b1, 6, none⟩ w33 fun n40 =>
 ldI .i64 ⟨b1, 7, none⟩ w33 fun n41 =>
 ldB ⟨b1, 8, none⟩ w33 fun b42 =>
 CV P F.cmd_Print [.agg [.int .i64 n34, .int .i64 n35, .int .i64 n36, .int .i64 n37, .int .i64 n38, .int .i64 n39, .int .i64 n40, .int .i64 n41, .bool b42].toArray] w33 fun v43 w44 =>
 ∃ s45 : ByteArray, ∃ n46 : Int, v43 = .tuple [.string s45, .int .i64 n46].toArray ∧
 CV P F.cmd_Decode [.agg [.int .u64 4294967304, .int .u64 3, .int .u64 9223372036854777856, .int .u64 0].toArray] w44 fun v47 w48 =>
 ∃ n49 : Int, ∃ n50 : Int, ∃ n51 : Int, ∃ n52 : Int, ∃ n53 : Int, ∃ n54 : Int, ∃ n55 : Int, ∃ n56 : Int, ∃ b57 : Bool, ∃ n58 : Int, v47 = .tuple [.agg [.int .i64 n49, .int .i64 n50, .int .i64 n51, .int .i64 n52, .int .i64 n53, .int .i64 n54, .int .i64 n55, .int .i64 n56, .bool b57].toArray, .int .i64 n58].toArray ∧
 alc [.int .i64 0, .int .i64 0, .int .i64 0, .int .i64 0, .int .i64 0, .int .i64 0, .int .i64 0, .int .i64 0, .bool false] T.t24 w48 fun b59 w60 =>
 st1 (.int .i64 n49) ⟨b59, 0, none⟩ w60 fun w61 =>
 st1 (.int .i64 n50) ⟨b59, 1, none⟩ w61 fun w62 =>
 st1 (.int .i64 n51) ⟨b59, 2, none⟩ w62 fun w63 =>
 st1 (.int .i64 n52) ⟨b59, 3, none⟩ w63 fun w64 =>
 st1 (.int .i64 n53) ⟨b59, 4, none⟩ w64 fun w65 =>
 st1 (.int .i64 n54) ⟨b59, 5, none⟩ w65 fun w66 =>
 st1 (.int .i64 n55) ⟨b59, 6, none⟩ w66 fun w67 =>
 st1 (.int .i64 n56) ⟨b59, 7, none⟩ w67 fun w68 =>
 st1 (.bool b57) ⟨b59, 8, none⟩ w68 fun w69 =>
 CV P F.cmd_Encode [.agg [.int .i64 5, .int .i64 0, .int .i64 0, .int .i64 0, .int .i64 1, .int .i64 0, .int .i64 0, .int .i64 0, .bool false].toArray] w69 fun v70 w71 =>
 ∃ n72 : Int, ∃ n73 : Int, ∃ n74 : Int, ∃ n75 : Int, ∃ n76 : Int, v70 = .tuple [.agg [.int .u64 n72, .int .u64 n73, .int .u64 n74, .int .u64 n75].toArray, .int .i64 n76].toArray ∧
 alc [.int .u64 0, .int .u64 0, .int .u64 0, .int .u64 0] T.t26 w71 fun b77 w78 =>
 st1 (.int .u64 n72) ⟨b77, 0, none⟩ w78 fun w79 =>
 st1 (.int .u64 n73) ⟨b77, 1, none⟩ w79 fun w80 =>
 st1 (.int .u64 n74) ⟨b77, 2, none⟩ w80 fun w81 =>
 st1 (.int .u64 n75) ⟨b77, 3, none⟩ w81 fun w82 =>
 JoinT (fun (J86 : crierlaw16_awake_J127.S → World → Prop) =>
  ldI .u64 ⟨b28, 0, none⟩ w82 fun n87 =>
  ldI .u64 ⟨b28, 1, none⟩ w82 fun n88 =>
  ldI .u64 ⟨b28, 2, none⟩ w82 fun n89 =>
  ldI .u64 ⟨b28, 3, none⟩ w82 fun n90 =>
  eqA P .eql T.t26 (.agg [.int .u64 n87, .int .u64 n88, .int .u64 n89, .int .u64 n90].toArray) (.agg [.int .u64 12884901898, .int .u64 35218731827202, .int .u64 1, .int .u64 0].toArray) w82 fun b91 =>
  cnd b91
  (cnd (n27 == 0)
  (cnd ((s45 : ByteArray).toList == (⟨#[109, 97, 112, 116, 105, 32, 51, 32, 50, 32, 56, 50, 48, 48, 32, 49]⟩ : ByteArray).toList)
  (cnd (n46 == 0)
  (ldI .i64 ⟨b59, 0, none⟩ w82 fun n92 =>
  ldI .i64 ⟨b59, 1, none⟩ w82 fun n93 =>
  ldI .i64 ⟨b59, 2, none⟩ w82 fun n94 =>
  ldI .i64 ⟨b59, 3, none⟩ w82 fun n95 =>
  ldI .i64 ⟨b59, 4, none⟩ w82 fun n96 =>
  ldI .i64 ⟨b59, 5, none⟩ w82 fun n97 =>
  ldI .i64 ⟨b59, 6, none⟩ w82 fun n98 =>
  ldI .i64 ⟨b59, 7, none⟩ w82 fun n99 =>
  ldB ⟨b59, 8, none⟩ w82 fun b100 =>
  eqA P .eql T.t24 (.agg [.int .i64 n92, .int .i64 n93, .int .i64 n94, .int .i64 n95, .int .i64 n96, .int .i64 n97, .int .i64 n98, .int .i64 n99, .bool b100].toArray) (.agg [.int .i64 8, .int .i64 1, .int .i64 0, .int .i64 0, .int .i64 0, .int .i64 0, .int .i64 3, .int .i64 2048, .bool true].toArray) w82 fun b101 =>
  cnd b101
  (cnd (n58 == 0)
  (J86 (((n76 == 160) : Bool)) w82)
  (J86 ((false : Bool)) w82))
  (J86 ((false : Bool)) w82))
  (J86 ((false : Bool)) w82))
  (J86 ((false : Bool)) w82))
  (J86 ((false : Bool)) w82))
  (J86 ((false : Bool)) w82))
  fun (s102 : crierlaw16_awake_J127.S) w103 => crierlaw16_awake_j0 Q s102 w103
def crierlaw16_awake_ann : Nat → Option LoopSpec := fun
  | 127 => some crierlaw16_awake_J127
  | _ => none
theorem crierlaw16_awake_eq (w : World) (Q : Value → World → Prop) : fnX P crierlaw16_awake_ann Tryd.f14 [] w Q = crierlaw16_awake w Q := by kernel_rfl
theorem crierlaw16_awake_cv {w : World} {Q : Value → World → Prop} (h : crierlaw16_awake w Q) : CV P F.crierlaw16_awake [] w Q := CV_of mixed Tryd.func14 (crierlaw16_awake_eq w Q ▸ h)

/- 15 crier/crierlaw16.told -/
def crierlaw16_told_J3 : LoopSpec where
  S := Bool
  emb := fun s => [(4, .bool s)]
  ext := fun t => match getL t 4 with
    | some (.bool y3) => some (y3)
    | _ => none
  slots := [4]
  fits := fun _ => rfl
  ok := by
    intro t s h x hx
    (try dsimp only at h hx)
    split at h
    · cases h
      simp only [List.mem_cons, List.not_mem_nil, or_false] at hx
      rcases hx with rfl <;> assumption
    · cases h

def crierlaw16_told_j0 (Q : Value → World → Prop) (b4 : Bool) (w5 : World) : Prop :=
 Q (.bool b4) w5

def crierlaw16_told (a0 : Int) (a1 : Bool) (w : World) (Q : Value → World → Prop) : Prop :=
 JoinT (fun (J6 : crierlaw16_told_J3.S → World → Prop) =>
  cnd a1
  (cnd (a0 == 0)
  (J6 ((true : Bool)) w)
  (cnd (!a1)
  (J6 (((a0 == 160) : Bool)) w)
  (J6 ((false : Bool)) w)))
  (cnd (!a1)
  (J6 (((a0 == 160) : Bool)) w)
  (J6 ((false : Bool)) w)))
  fun (s7 : crierlaw16_told_J3.S) w8 => crierlaw16_told_j0 Q s7 w8
def crierlaw16_told_ann : Nat → Option LoopSpec := fun
  | 3 => some crierlaw16_told_J3
  | _ => none
theorem crierlaw16_told_eq (a0 : Int) (a1 : Bool) (w : World) (Q : Value → World → Prop) : fnX P crierlaw16_told_ann Tryd.f15 [.int .i64 a0, .bool a1] w Q = crierlaw16_told a0 a1 w Q := by kernel_rfl
theorem crierlaw16_told_cv {a0 : Int} {a1 : Bool} {w : World} {Q : Value → World → Prop} (h : crierlaw16_told a0 a1 w Q) : CV P F.crierlaw16_told [.int .i64 a0, .bool a1] w Q := CV_of mixed Tryd.func15 (crierlaw16_told_eq a0 a1 w Q ▸ h)

/- 16 crier/cmd.Known -/
def cmd_Known_J3 : LoopSpec where
  S := Bool
  emb := fun s => [(2, .bool s)]
  ext := fun t => match getL t 2 with
    | some (.bool y2) => some (y2)
    | _ => none
  slots := [2]
  fits := fun _ => rfl
  ok := by
    intro t s h x hx
    (try dsimp only at h hx)
    split at h
    · cases h
      simp only [List.mem_cons, List.not_mem_nil, or_false] at hx
      rcases hx with rfl <;> assumption
    · cases h

def cmd_Known_j0 (Q : Value → World → Prop) (b3 : Bool) (w4 : World) : Prop :=
 Q (.bool b3) w4

def cmd_Known (a0 : Int) (w : World) (Q : Value → World → Prop) : Prop :=
 JoinT (fun (J5 : cmd_Known_J3.S → World → Prop) =>
  cnd (a0 == 1)
  (J5 ((true : Bool)) w)
  (cnd (decide (a0 ≥ 3))
  (cnd (decide (a0 ≤ 5))
  (J5 ((true : Bool)) w)
  (cnd (decide (a0 ≥ 8))
  (J5 (((decide (a0 ≤ 15)) : Bool)) w)
  (J5 ((false : Bool)) w)))
  (cnd (decide (a0 ≥ 8))
  (J5 (((decide (a0 ≤ 15)) : Bool)) w)
  (J5 ((false : Bool)) w))))
  fun (s6 : cmd_Known_J3.S) w7 => cmd_Known_j0 Q s6 w7
def cmd_Known_ann : Nat → Option LoopSpec := fun
  | 3 => some cmd_Known_J3
  | _ => none
theorem cmd_Known_eq (a0 : Int) (w : World) (Q : Value → World → Prop) : fnX P cmd_Known_ann Tryd.f16 [.int .i64 a0] w Q = cmd_Known a0 w Q := by kernel_rfl
theorem cmd_Known_cv {a0 : Int} {w : World} {Q : Value → World → Prop} (h : cmd_Known a0 w Q) : CV P F.cmd_Known [.int .i64 a0] w Q := CV_of mixed Tryd.func16 (cmd_Known_eq a0 w Q ▸ h)

/- 17 crier/crierref16.Known -/

def crierref16_Known (a0 : Int) (w : World) (Q : Value → World → Prop) : Prop :=
 alc [.int .i64 1, .int .i64 3, .int .i64 4, .int .i64 5, .int .i64 8, .int .i64 9, .int .i64 10, .int .i64 11, .int .i64 12, .int .i64 13, .int .i64 14, .int .i64 15] T.t22 w fun b2 w3 =>
 CV P F.crierref16_has [.int .i64 a0, .slice (some ⟨b2, 0, none⟩) 12 12] w3 fun v4 w5 =>
 ∃ b6 : Bool, v4 = .bool b6 ∧
 Q (.bool b6) w5
def crierref16_Known_ann : Nat → Option LoopSpec := fun _ => none
theorem crierref16_Known_eq (a0 : Int) (w : World) (Q : Value → World → Prop) : fnX P crierref16_Known_ann Tryd.f17 [.int .i64 a0] w Q = crierref16_Known a0 w Q := by kernel_rfl
theorem crierref16_Known_cv {a0 : Int} {w : World} {Q : Value → World → Prop} (h : crierref16_Known a0 w Q) : CV P F.crierref16_Known [.int .i64 a0] w Q := CV_of mixed Tryd.func17 (crierref16_Known_eq a0 w Q ▸ h)

/- 18 crier/cmd.Print -/
def cmd_Print_L122 : LoopSpec where
  S := (Option Addr × Nat × Nat) × Int
  emb := fun s => [(6, .slice s.1.1 s.1.2.1 s.1.2.2), (7, .int .i64 s.2)]
  ext := fun t => match getL t 6, getL t 7 with
    | some (.slice y40 y41 y42), some (.int .i64 y43) => some ((y40, y41, y42), y43)
    | _, _ => none
  slots := [6, 7]
  fits := fun _ => rfl
  ok := by
    intro t s h x hx
    (try dsimp only at h hx)
    split at h
    · cases h
      simp only [List.mem_cons, List.not_mem_nil, or_false] at hx
      rcases hx with rfl | rfl <;> assumption
    · cases h

def cmd_Print_J978 : LoopSpec where
  S := (Option Addr × Nat × Nat)
  emb := fun s => [(6, .slice s.1 s.2.1 s.2.2)]
  ext := fun t => match getL t 6 with
    | some (.slice y50 y51 y52) => some ((y50, y51, y52))
    | _ => none
  slots := [6]
  fits := fun _ => rfl
  ok := by
    intro t s h x hx
    (try dsimp only at h hx)
    split at h
    · cases h
      simp only [List.mem_cons, List.not_mem_nil, or_false] at hx
      rcases hx with rfl <;> assumption
    · cases h

def cmd_Print_j0 (n47 : Int) (A49 : cmd_Print_L122.S → World → Prop) (p53 : Option Addr) (l54 : Nat) (c55 : Nat) (w56 : World) : Prop :=
 A49 (((p53 : Option Addr), (l54 : Nat), (c55 : Nat)), ((IntKind.i64.wrap (n47 + 1)) : Int)) w56

def cmd_Print_l1 (Q : Value → World → Prop) (b10 : Nat) (p44 : Option Addr) (l45 : Nat) (c46 : Nat) (n47 : Int) (w48 : World) (A49 : cmd_Print_L122.S → World → Prop) : Prop :=
 cnd (decide (n47 < 8))
 (JoinT (fun (J57 : cmd_Print_J978.S → World → Prop) =>
  ldI .i64 ⟨b10, 0, none⟩ w48 fun n58 =>
  CV P F.cmd_parted [.int .i64 n58, .int .i64 n47] w48 fun v59 w60 =>
  ∃ n61 : Int, ∃ n62 : Int, ∃ n63 : Int, ∃ b64 : Bool, v59 = .tuple [.agg [.int .i64 n61, .int .i64 n62, .int .i64 n63].toArray, .bool b64].toArray ∧
  alc [.int .i64 0, .int .i64 0, .int .i64 0] T.t72 w60 fun b65 w66 =>
  st1 (.int .i64 n61) ⟨b65, 0, none⟩ w66 fun w67 =>
  st1 (.int .i64 n62) ⟨b65, 1, none⟩ w67 fun w68 =>
  st1 (.int .i64 n63) ⟨b65, 2, none⟩ w68 fun w69 =>
  cnd b64
  (ldI .i64 ⟨b10, 0, none⟩ w69 fun n70 =>
  ldI .i64 ⟨b10, 1, none⟩ w69 fun n71 =>
  ldI .i64 ⟨b10, 2, none⟩ w69 fun n72 =>
  ldI .i64 ⟨b10, 3, none⟩ w69 fun n73 =>
  ldI .i64 ⟨b10, 4, none⟩ w69 fun n74 =>
  ldI .i64 ⟨b10, 5, none⟩ w69 fun n75 =>
  ldI .i64 ⟨b10, 6, none⟩ w69 fun n76 =>
  ldI .i64 ⟨b10, 7, none⟩ w69 fun n77 =>
  ldB ⟨b10, 8, none⟩ w69 fun b78 =>
  CV P F.cmd_get [.agg [.int .i64 n70, .int .i64 n71, .int .i64 n72, .int .i64 n73, .int .i64 n74, .int .i64 n75, .int .i64 n76, .int .i64 n77, .bool b78].toArray, .int .i64 n47] w69 fun v79 w80 =>
  ∃ n81 : Int, v79 = .int .i64 n81 ∧
  CV P F.strconv_Itoa [.int .i64 n81] w80 fun v82 w83 =>
  ∃ s84 : ByteArray, v82 = .string s84 ∧
  alc [.string s84] T.t9 w83 fun b85 w86 =>
  runS P (Builtin.append_ #[T.t87, T.t87] T.t87 [.slice p44 l45 c46, .slice (some ⟨b85, 0, none⟩) 1 1].toArray) w86 fun p87 l88 c89 w90 =>
  J57 (((p87 : Option Addr), (l88 : Nat), (c89 : Nat))) w90)
  (J57 (((p44 : Option Addr), (l45 : Nat), (c46 : Nat))) w69))
  fun (s91 : cmd_Print_J978.S) w92 => cmd_Print_j0 n47 A49 s91.1 s91.2.1 s91.2.2 w92)
 (CV P F.strings_Join [.slice p44 l45 c46, .string ⟨#[32]⟩] w48 fun v93 w94 =>
 ∃ s95 : ByteArray, v93 = .string s95 ∧
 Q (.tuple [.string s95, .int .i64 0].toArray) w94)

def cmd_Print (a0_0 : Int) (a0_1 : Int) (a0_2 : Int) (a0_3 : Int) (a0_4 : Int) (a0_5 : Int) (a0_6 : Int) (a0_7 : Int) (a0_8 : Bool) (w : World) (Q : Value → World → Prop) : Prop :=
 alc [.int .i64 a0_0, .int .i64 a0_1, .int .i64 a0_2, .int .i64 a0_3, .int .i64 a0_4, .int .i64 a0_5, .int .i64 a0_6, .int .i64 a0_7, .bool a0_8] T.t24 w fun b10 w11 =>
 ldI .i64 ⟨b10, 0, none⟩ w11 fun n12 =>
 ldI .i64 ⟨b10, 1, none⟩ w11 fun n13 =>
 ldI .i64 ⟨b10, 2, none⟩ w11 fun n14 =>
 ldI .i64 ⟨b10, 3, none⟩ w11 fun n15 =>
 ldI .i64 ⟨b10, 4, none⟩ w11 fun n16 =>
 ldI .i64 ⟨b10, 5, none⟩ w11 fun n17 =>
 ldI .i64 ⟨b10, 6, none⟩ w11 fun n18 =>
 ldI .i64 ⟨b10, 7, none⟩ w11 fun n19 =>
 ldB ⟨b10, 8, none⟩ w11 fun b20 =>
 CV P F.cmd_Encode [.agg [.int .i64 n12, .int .i64 n13, .int .i64 n14, .int .i64 n15, .int .i64 n16, .int .i64 n17, .int .i64 n18, .int .i64 n19, .bool b20].toArray] w11 fun v21 w22 =>
 ∃ n23 : Int, ∃ n24 : Int, ∃ n25 : Int, ∃ n26 : Int, ∃ n27 : Int, v21 = .tuple [.agg [.int .u64 n23, .int .u64 n24, .int .u64 n25, .int .u64 n26].toArray, .int .i64 n27].toArray ∧
 alc [.int .u64 0, .int .u64 0, .int .u64 0, .int .u64 0] T.t26 w22 fun b28 w29 =>
 st1 (.int .u64 n23) ⟨b28, 0, none⟩ w29 fun w30 =>
 st1 (.int .u64 n24) ⟨b28, 1, none⟩ w30 fun w31 =>
 st1 (.int .u64 n25) ⟨b28, 2, none⟩ w31 fun w32 =>
 st1 (.int .u64 n26) ⟨b28, 3, none⟩ w32 fun w33 =>
 cnd (n27 != 0)
 (Q (.tuple [.string ⟨#[]⟩, .int .i64 n27].toArray) w33)
 (ldI .i64 ⟨b10, 0, none⟩ w33 fun n34 =>
 CV P F.cmd_name [.int .i64 n34] w33 fun v35 w36 =>
 ∃ s37 : ByteArray, v35 = .string s37 ∧
 alc [.string s37] T.t9 w36 fun b38 w39 =>
 LoopT (fun (s96 : cmd_Print_L122.S) w97 A98 => cmd_Print_l1 Q b10 s96.1.1 s96.1.2.1 s96.1.2.2 s96.2 w97 A98) ((((some ⟨b38, 0, none⟩) : Option Addr), (1 : Nat), (1 : Nat)), (0 : Int)) w39)
def cmd_Print_ann : Nat → Option LoopSpec := fun
  | 122 => some cmd_Print_L122
  | 978 => some cmd_Print_J978
  | _ => none
theorem cmd_Print_eq (a0_0 : Int) (a0_1 : Int) (a0_2 : Int) (a0_3 : Int) (a0_4 : Int) (a0_5 : Int) (a0_6 : Int) (a0_7 : Int) (a0_8 : Bool) (w : World) (Q : Value → World → Prop) : fnX P cmd_Print_ann Tryd.f18 [.agg [.int .i64 a0_0, .int .i64 a0_1, .int .i64 a0_2, .int .i64 a0_3, .int .i64 a0_4, .int .i64 a0_5, .int .i64 a0_6, .int .i64 a0_7, .bool a0_8].toArray] w Q = cmd_Print a0_0 a0_1 a0_2 a0_3 a0_4 a0_5 a0_6 a0_7 a0_8 w Q := by kernel_rfl
theorem cmd_Print_cv {a0_0 : Int} {a0_1 : Int} {a0_2 : Int} {a0_3 : Int} {a0_4 : Int} {a0_5 : Int} {a0_6 : Int} {a0_7 : Int} {a0_8 : Bool} {w : World} {Q : Value → World → Prop} (h : cmd_Print a0_0 a0_1 a0_2 a0_3 a0_4 a0_5 a0_6 a0_7 a0_8 w Q) : CV P F.cmd_Print [.agg [.int .i64 a0_0, .int .i64 a0_1, .int .i64 a0_2, .int .i64 a0_3, .int .i64 a0_4, .int .i64 a0_5, .int .i64 a0_6, .int .i64 a0_7, .bool a0_8].toArray] w Q := CV_of mixed Tryd.func18 (cmd_Print_eq a0_0 a0_1 a0_2 a0_3 a0_4 a0_5 a0_6 a0_7 a0_8 w Q ▸ h)

/- 19 crier/crierlaw04.New -/
def crierlaw04_New_J3 : LoopSpec where
  S := Int
  emb := fun s => [(0, .int .i64 s)]
  ext := fun t => match getL t 0 with
    | some (.int .i64 y2) => some (y2)
    | _ => none
  slots := [0]
  fits := fun _ => rfl
  ok := by
    intro t s h x hx
    (try dsimp only at h hx)
    split at h
    · cases h
      simp only [List.mem_cons, List.not_mem_nil, or_false] at hx
      rcases hx with rfl <;> assumption
    · cases h

def crierlaw04_New_j0 (Q : Value → World → Prop) (n3 : Int) (w4 : World) : Prop :=
 CV P F.mem_New [.int .i64 n3] w4 fun v5 w6 =>
 ∃ p7 : Option Addr, ∃ n8 : Int, v5 = .tuple [.pointer p7, .int .i64 n8].toArray ∧
 cnd (n8 != 0)
 (Q (.tuple [.pointer none, .pointer none].toArray) w6)
 (drw w6 fun w9 =>
 runS P (Instr.makeSlice T.t52 (.int .i64 n3) (.int .i64 n3)) w9 fun p10 l11 c12 w13 =>
 alc [.slice p10 l11 c12] T.t93 w13 fun b14 w15 =>
 Q (.tuple [.pointer p7, .pointer (some ⟨b14, 0, none⟩)].toArray) w15)

def crierlaw04_New_J6 : LoopSpec where
  S := Bool
  emb := fun s => [(11, .bool s)]
  ext := fun t => match getL t 11 with
    | some (.bool y17) => some (y17)
    | _ => none
  slots := [11]
  fits := fun _ => rfl
  ok := by
    intro t s h x hx
    (try dsimp only at h hx)
    split at h
    · cases h
      simp only [List.mem_cons, List.not_mem_nil, or_false] at hx
      rcases hx with rfl <;> assumption
    · cases h

def crierlaw04_New_j1 (a0 : Int) (J16 : crierlaw04_New_J3.S → World → Prop) (b18 : Bool) (w19 : World) : Prop :=
 cnd b18
 (J16 ((200 : Int)) w19)
 (J16 ((a0 : Int)) w19)

def crierlaw04_New (a0 : Int) (w : World) (Q : Value → World → Prop) : Prop :=
 JoinT (fun (J16 : crierlaw04_New_J3.S → World → Prop) =>
  JoinT (fun (J20 : crierlaw04_New_J6.S → World → Prop) =>
   cnd (decide (a0 < 0))
   (J20 ((true : Bool)) w)
   (J20 (((decide (a0 > 4096)) : Bool)) w))
   fun (s21 : crierlaw04_New_J6.S) w22 => crierlaw04_New_j1 a0 J16 s21 w22)
  fun (s23 : crierlaw04_New_J3.S) w24 => crierlaw04_New_j0 Q s23 w24
def crierlaw04_New_ann : Nat → Option LoopSpec := fun
  | 3 => some crierlaw04_New_J3
  | 62 => some (ordSpec [0, 1, 5, 2, 3, 4, 6])
  | 6 => some crierlaw04_New_J6
  | _ => none
theorem crierlaw04_New_eq (a0 : Int) (w : World) (Q : Value → World → Prop) : fnX P crierlaw04_New_ann Tryd.f19 [.int .i64 a0] w Q = crierlaw04_New a0 w Q := by kernel_rfl
theorem crierlaw04_New_cv {a0 : Int} {w : World} {Q : Value → World → Prop} (h : crierlaw04_New a0 w Q) : CV P F.crierlaw04_New [.int .i64 a0] w Q := CV_of mixed Tryd.func19 (crierlaw04_New_eq a0 w Q ▸ h)

/- 20 crier/crierlaw04.Does -/
def crierlaw04_Does_L27578 : LoopSpec where
  S := Int
  emb := fun s => [(7, .int .i64 s)]
  ext := fun t => match getL t 7 with
    | some (.int .i64 y34) => some (y34)
    | _ => none
  slots := [7]
  fits := fun _ => rfl
  ok := by
    intro t s h x hx
    (try dsimp only at h hx)
    split at h
    · cases h
      simp only [List.mem_cons, List.not_mem_nil, or_false] at hx
      rcases hx with rfl <;> assumption
    · cases h

def crierlaw04_Does_l0 (Q : Value → World → Prop) (p25 : Option Addr) (l26 : Nat) (n33 : Int) (n35 : Int) (w36 : World) (A37 : crierlaw04_Does_L27578.S → World → Prop) : Prop :=
 cnd (decide (n35 < ((l26 : Nat) : Int)))
 (ix n35 l26 fun j38 => nn p25 fun a39 =>
 st1 (.int .u8 77) (a39.add (j38 * 1)) w36 fun w40 =>
 A37 (((IntKind.i64.wrap (n35 + 1)) : Int)) w40)
 (Q (.int .i64 n33) w36)

def crierlaw04_Does (a0 : Option Addr) (a1_0 : Int) (a1_1 : Int) (a1_2 : Int) (a1_3 : Int) (a1_4 : Int) (a1_5 : Int) (a1_6 : Option Addr) (a1_6_n : Nat) (a1_6_c : Nat) (w : World) (Q : Value → World → Prop) : Prop :=
 alc [.int .i64 a1_0, .int .i64 a1_1, .int .i64 a1_2, .int .i64 a1_3, .int .i64 a1_4, .int .u64 a1_5, .slice a1_6 a1_6_n a1_6_c] T.t54 w fun b11 w12 =>
 ldI .i64 ⟨b11, 0, none⟩ w12 fun n13 =>
 cnd (n13 == 1)
 (ldI .i64 ⟨b11, 1, none⟩ w12 fun n14 =>
 ldI .i64 ⟨b11, 2, none⟩ w12 fun n15 =>
 ldI .i64 ⟨b11, 3, none⟩ w12 fun n16 =>
 ldI .i64 ⟨b11, 4, none⟩ w12 fun n17 =>
 ldI .u64 ⟨b11, 5, none⟩ w12 fun n18 =>
 CV P F.mem_Mem_Write [.pointer a0, .agg [.int .i64 n14, .int .i64 n15].toArray, .int .i64 n16, .int .i64 n17, .int .u64 n18] w12 fun v19 w20 =>
 ∃ n21 : Int, v19 = .int .i64 n21 ∧
 Q (.int .i64 n21) w20)
 (cnd (n13 == 2)
 (ldL ⟨b11, 6, none⟩ w12 fun p22 l23 c24 =>
 runS P (Builtin.append_ #[T.t52, T.t52] T.t52 [.slice none 0 0, .slice p22 l23 c24].toArray) w12 fun p25 l26 c27 w28 =>
 ldI .i64 ⟨b11, 1, none⟩ w28 fun n29 =>
 ldI .i64 ⟨b11, 2, none⟩ w28 fun n30 =>
 CV P F.mem_Mem_Put [.pointer a0, .agg [.int .i64 n29, .int .i64 n30].toArray, .slice p25 l26 c27] w28 fun v31 w32 =>
 ∃ n33 : Int, v31 = .int .i64 n33 ∧
 LoopT (fun (s41 : crierlaw04_Does_L27578.S) w42 A43 => crierlaw04_Does_l0 Q p25 l26 n33 s41 w42 A43) ((0 : Int)) w32)
 (cnd (n13 == 3)
 (ldI .i64 ⟨b11, 1, none⟩ w12 fun n44 =>
 ldI .i64 ⟨b11, 2, none⟩ w12 fun n45 =>
 CV P F.mem_Mem_Wipe [.pointer a0, .agg [.int .i64 n44, .int .i64 n45].toArray] w12 fun v46 w47 =>
 ∃ n48 : Int, v46 = .int .i64 n48 ∧
 Q (.int .i64 n48) w47)
 (Q (.int .i64 0) w12)))
def crierlaw04_Does_ann : Nat → Option LoopSpec := fun
  | 27578 => some crierlaw04_Does_L27578
  | _ => none
theorem crierlaw04_Does_eq (a0 : Option Addr) (a1_0 : Int) (a1_1 : Int) (a1_2 : Int) (a1_3 : Int) (a1_4 : Int) (a1_5 : Int) (a1_6 : Option Addr) (a1_6_n : Nat) (a1_6_c : Nat) (w : World) (Q : Value → World → Prop) : fnX P crierlaw04_Does_ann Tryd.f20 [.pointer a0, .agg [.int .i64 a1_0, .int .i64 a1_1, .int .i64 a1_2, .int .i64 a1_3, .int .i64 a1_4, .int .u64 a1_5, .slice a1_6 a1_6_n a1_6_c].toArray] w Q = crierlaw04_Does a0 a1_0 a1_1 a1_2 a1_3 a1_4 a1_5 a1_6 a1_6_n a1_6_c w Q := by kernel_rfl
theorem crierlaw04_Does_cv {a0 : Option Addr} {a1_0 : Int} {a1_1 : Int} {a1_2 : Int} {a1_3 : Int} {a1_4 : Int} {a1_5 : Int} {a1_6 : Option Addr} {a1_6_n : Nat} {a1_6_c : Nat} {w : World} {Q : Value → World → Prop} (h : crierlaw04_Does a0 a1_0 a1_1 a1_2 a1_3 a1_4 a1_5 a1_6 a1_6_n a1_6_c w Q) : CV P F.crierlaw04_Does [.pointer a0, .agg [.int .i64 a1_0, .int .i64 a1_1, .int .i64 a1_2, .int .i64 a1_3, .int .i64 a1_4, .int .u64 a1_5, .slice a1_6 a1_6_n a1_6_c].toArray] w Q := CV_of mixed Tryd.func20 (crierlaw04_Does_eq a0 a1_0 a1_1 a1_2 a1_3 a1_4 a1_5 a1_6 a1_6_n a1_6_c w Q ▸ h)

/- 21 (*crier/mem.Mem).Bytes -/

def mem_Mem_Bytes (a0 : Option Addr) (a1_0 : Int) (a1_1 : Int) (w : World) (Q : Value → World → Prop) : Prop :=
 alc [.int .i64 a1_0, .int .i64 a1_1] T.t46 w fun b4 w5 =>
 ldI .i64 ⟨b4, 0, none⟩ w5 fun n6 =>
 ldI .i64 ⟨b4, 1, none⟩ w5 fun n7 =>
 CV P F.mem_Mem_Holds [.pointer a0, .agg [.int .i64 n6, .int .i64 n7].toArray] w5 fun v8 w9 =>
 ∃ b10 : Bool, v8 = .bool b10 ∧
 cnd (!b10)
 (Q (.tuple [.slice none 0 0, .int .i64 42].toArray) w9)
 (drw w9 fun w11 =>
 nn a0 fun a12 =>
 ldL a12 w11 fun p13 l14 c15 =>
 ldI .i64 ⟨b4, 0, none⟩ w11 fun n16 =>
 ldI .i64 ⟨b4, 0, none⟩ w11 fun n17 =>
 ldI .i64 ⟨b4, 1, none⟩ w11 fun n18 =>
 slL p13 l14 c15 1 (some n16) (some (IntKind.i64.wrap (n17 + n18))) none fun p19 l20 c21 =>
 CV P F.slices_Clone__byte_byte [.slice p19 l20 c21] w11 fun v22 w23 =>
 ∃ (p24 : Option Addr) (l25 c26 : Nat), v22 = .slice p24 l25 c26 ∧
 Q (.tuple [.slice p24 l25 c26, .int .i64 0].toArray) w23)
def mem_Mem_Bytes_ann : Nat → Option LoopSpec := fun
  | 14 => some (ordSpec [0, 1, 2, 3, 4, 5, 6, 7, 8, 9, 10, 11, 12, 13, 14])
  | _ => none
theorem mem_Mem_Bytes_eq (a0 : Option Addr) (a1_0 : Int) (a1_1 : Int) (w : World) (Q : Value → World → Prop) : fnX P mem_Mem_Bytes_ann Tryd.f21 [.pointer a0, .agg [.int .i64 a1_0, .int .i64 a1_1].toArray] w Q = mem_Mem_Bytes a0 a1_0 a1_1 w Q := by kernel_rfl
theorem mem_Mem_Bytes_cv {a0 : Option Addr} {a1_0 : Int} {a1_1 : Int} {w : World} {Q : Value → World → Prop} (h : mem_Mem_Bytes a0 a1_0 a1_1 w Q) : CV P F.mem_Mem_Bytes [.pointer a0, .agg [.int .i64 a1_0, .int .i64 a1_1].toArray] w Q := CV_of mixed Tryd.func21 (mem_Mem_Bytes_eq a0 a1_0 a1_1 w Q ▸ h)

/- 22 crier/cmd.Store -/
def cmd_Store_J61 : LoopSpec where
  S := Bool
  emb := fun s => [(40, .bool s)]
  ext := fun t => match getL t 40 with
    | some (.bool y44) => some (y44)
    | _ => none
  slots := [40]
  fits := fun _ => rfl
  ok := by
    intro t s h x hx
    (try dsimp only at h hx)
    split at h
    · cases h
      simp only [List.mem_cons, List.not_mem_nil, or_false] at hx
      rcases hx with rfl <;> assumption
    · cases h

def cmd_Store_L250 : LoopSpec where
  S := Int
  emb := fun s => [(42, .int .i64 s)]
  ext := fun t => match getL t 42 with
    | some (.int .i64 y51) => some (y51)
    | _ => none
  slots := [42]
  fits := fun _ => rfl
  ok := by
    intro t s h x hx
    (try dsimp only at h hx)
    split at h
    · cases h
      simp only [List.mem_cons, List.not_mem_nil, or_false] at hx
      rcases hx with rfl <;> assumption
    · cases h

def cmd_Store_l0 (a0 : Option Addr) (a2 : Int) (Q : Value → World → Prop) (b14 : Nat) (n47 : Int) (n48 : Int) (n49 : Int) (n50 : Int) (n52 : Int) (w53 : World) (A54 : cmd_Store_L250.S → World → Prop) : Prop :=
 cnd (decide (n52 < 4))
 (ix n52 4 fun j55 => ∃ v56 : Value, ([.int .u64 n47, .int .u64 n48, .int .u64 n49, .int .u64 n50] : List Value)[j55 * 1]? = some v56 ∧
 ∃ n57 : Int, v56 = .int .u64 n57 ∧
 ldI .i64 ⟨b14, 0, none⟩ w53 fun n58 =>
 ldI .i64 ⟨b14, 1, none⟩ w53 fun n59 =>
 CV P F.mem_Mem_Write [.pointer a0, .agg [.int .i64 n58, .int .i64 n59].toArray, .int .i64 (IntKind.i64.wrap (a2 + (IntKind.i64.wrap (8 * n52)))), .int .i64 8, .int .u64 n57] w53 fun v60 w61 =>
 ∃ n62 : Int, v60 = .int .i64 n62 ∧
 A54 (((IntKind.i64.wrap (n52 + 1)) : Int)) w61)
 (Q (.int .i64 0) w53)

def cmd_Store_j1 (a0 : Option Addr) (a2 : Int) (Q : Value → World → Prop) (b14 : Nat) (b34 : Nat) (b45 : Bool) (w46 : World) : Prop :=
 cnd b45
 (Q (.int .i64 42) w46)
 (ldI .u64 ⟨b34, 0, none⟩ w46 fun n47 =>
 ldI .u64 ⟨b34, 1, none⟩ w46 fun n48 =>
 ldI .u64 ⟨b34, 2, none⟩ w46 fun n49 =>
 ldI .u64 ⟨b34, 3, none⟩ w46 fun n50 =>
 LoopT (fun (s63 : cmd_Store_L250.S) w64 A65 => cmd_Store_l0 a0 a2 Q b14 n47 n48 n49 n50 s63 w64 A65) ((0 : Int)) w46)

def cmd_Store (a0 : Option Addr) (a1_0 : Int) (a1_1 : Int) (a2 : Int) (a3_0 : Int) (a3_1 : Int) (a3_2 : Int) (a3_3 : Int) (a3_4 : Int) (a3_5 : Int) (a3_6 : Int) (a3_7 : Int) (a3_8 : Bool) (w : World) (Q : Value → World → Prop) : Prop :=
 alc [.int .i64 a1_0, .int .i64 a1_1] T.t46 w fun b14 w15 =>
 alc [.int .i64 a3_0, .int .i64 a3_1, .int .i64 a3_2, .int .i64 a3_3, .int .i64 a3_4, .int .i64 a3_5, .int .i64 a3_6, .int .i64 a3_7, .bool a3_8] T.t24 w15 fun b16 w17 =>
 ldI .i64 ⟨b16, 0, none⟩ w17 fun n18 =>
 ldI .i64 ⟨b16, 1, none⟩ w17 fun n19 =>
 ldI .i64 ⟨b16, 2, none⟩ w17 fun n20 =>
 ldI .i64 ⟨b16, 3, none⟩ w17 fun n21 =>
 ldI .i64 ⟨b16, 4, none⟩ w17 fun n22 =>
 ldI .i64 ⟨b16, 5, none⟩ w17 fun n23 =>
 ldI .i64 ⟨b16, 6, none⟩ w17 fun n24 =>
 ldI .i64 ⟨b16, 7, none⟩ w17 fun n25 =>
 ldB ⟨b16, 8, none⟩ w17 fun b26 =>
 CV P F.cmd_Encode [.agg [.int .i64 n18, .int .i64 n19, .int .i64 n20, .int .i64 n21, .int .i64 n22, .int .i64 n23, .int .i64 n24, .int .i64 n25, .bool b26].toArray] w17 fun v27 w28 =>
 ∃ n29 : Int, ∃ n30 : Int, ∃ n31 : Int, ∃ n32 : Int, ∃ n33 : Int, v27 = .tuple [.agg [.int .u64 n29, .int .u64 n30, .int .u64 n31, .int .u64 n32].toArray, .int .i64 n33].toArray ∧
 alc [.int .u64 0, .int .u64 0, .int .u64 0, .int .u64 0] T.t26 w28 fun b34 w35 =>
 st1 (.int .u64 n29) ⟨b34, 0, none⟩ w35 fun w36 =>
 st1 (.int .u64 n30) ⟨b34, 1, none⟩ w36 fun w37 =>
 st1 (.int .u64 n31) ⟨b34, 2, none⟩ w37 fun w38 =>
 st1 (.int .u64 n32) ⟨b34, 3, none⟩ w38 fun w39 =>
 cnd (n33 != 0)
 (Q (.int .i64 n33) w39)
 (ldI .i64 ⟨b14, 1, none⟩ w39 fun n40 =>
 CV P F.mem_May [.int .i64 n40, .int .i64 a2, .int .i64 8] w39 fun v41 w42 =>
 ∃ n43 : Int, v41 = .int .i64 n43 ∧
 JoinT (fun (J66 : cmd_Store_J61.S → World → Prop) =>
  cnd (n43 != 0)
  (J66 ((true : Bool)) w42)
  (ldI .i64 ⟨b14, 1, none⟩ w42 fun n67 =>
  cnd (decide (a2 > (IntKind.i64.wrap (n67 - 32))))
  (J66 ((true : Bool)) w42)
  (ldI .i64 ⟨b14, 0, none⟩ w42 fun n68 =>
  ldI .i64 ⟨b14, 1, none⟩ w42 fun n69 =>
  CV P F.mem_Mem_Holds [.pointer a0, .agg [.int .i64 n68, .int .i64 n69].toArray] w42 fun v70 w71 =>
  ∃ b72 : Bool, v70 = .bool b72 ∧
  J66 (((!b72) : Bool)) w71)))
  fun (s73 : cmd_Store_J61.S) w74 => cmd_Store_j1 a0 a2 Q b14 b34 s73 w74)
def cmd_Store_ann : Nat → Option LoopSpec := fun
  | 61 => some cmd_Store_J61
  | 250 => some cmd_Store_L250
  | _ => none
theorem cmd_Store_eq (a0 : Option Addr) (a1_0 : Int) (a1_1 : Int) (a2 : Int) (a3_0 : Int) (a3_1 : Int) (a3_2 : Int) (a3_3 : Int) (a3_4 : Int) (a3_5 : Int) (a3_6 : Int) (a3_7 : Int) (a3_8 : Bool) (w : World) (Q : Value → World → Prop) : fnX P cmd_Store_ann Tryd.f22 [.pointer a0, .agg [.int .i64 a1_0, .int .i64 a1_1].toArray, .int .i64 a2, .agg [.int .i64 a3_0, .int .i64 a3_1, .int .i64 a3_2, .int .i64 a3_3, .int .i64 a3_4, .int .i64 a3_5, .int .i64 a3_6, .int .i64 a3_7, .bool a3_8].toArray] w Q = cmd_Store a0 a1_0 a1_1 a2 a3_0 a3_1 a3_2 a3_3 a3_4 a3_5 a3_6 a3_7 a3_8 w Q := by kernel_rfl
theorem cmd_Store_cv {a0 : Option Addr} {a1_0 : Int} {a1_1 : Int} {a2 : Int} {a3_0 : Int} {a3_1 : Int} {a3_2 : Int} {a3_3 : Int} {a3_4 : Int} {a3_5 : Int} {a3_6 : Int} {a3_7 : Int} {a3_8 : Bool} {w : World} {Q : Value → World → Prop} (h : cmd_Store a0 a1_0 a1_1 a2 a3_0 a3_1 a3_2 a3_3 a3_4 a3_5 a3_6 a3_7 a3_8 w Q) : CV P F.cmd_Store [.pointer a0, .agg [.int .i64 a1_0, .int .i64 a1_1].toArray, .int .i64 a2, .agg [.int .i64 a3_0, .int .i64 a3_1, .int .i64 a3_2, .int .i64 a3_3, .int .i64 a3_4, .int .i64 a3_5, .int .i64 a3_6, .int .i64 a3_7, .bool a3_8].toArray] w Q := CV_of mixed Tryd.func22 (cmd_Store_eq a0 a1_0 a1_1 a2 a3_0 a3_1 a3_2 a3_3 a3_4 a3_5 a3_6 a3_7 a3_8 w Q ▸ h)

/- 23 crier/crierlaw04.Model -/

def crierlaw04_Model (a0 : Option Addr) (a1_0 : Int) (a1_1 : Int) (a1_2 : Int) (a1_3 : Int) (a1_4 : Int) (a1_5 : Int) (a1_6 : Option Addr) (a1_6_n : Nat) (a1_6_c : Nat) (w : World) (Q : Value → World → Prop) : Prop :=
 alc [.int .i64 a1_0, .int .i64 a1_1, .int .i64 a1_2, .int .i64 a1_3, .int .i64 a1_4, .int .u64 a1_5, .slice a1_6 a1_6_n a1_6_c] T.t54 w fun b11 w12 =>
 ldI .i64 ⟨b11, 0, none⟩ w12 fun n13 =>
 cnd (n13 == 1)
 (ldI .i64 ⟨b11, 1, none⟩ w12 fun n14 =>
 ldI .i64 ⟨b11, 2, none⟩ w12 fun n15 =>
 ldI .i64 ⟨b11, 3, none⟩ w12 fun n16 =>
 ldI .i64 ⟨b11, 4, none⟩ w12 fun n17 =>
 ldI .u64 ⟨b11, 5, none⟩ w12 fun n18 =>
 CV P F.crierref04_Mem_Write [.pointer a0, .agg [.int .i64 n14, .int .i64 n15].toArray, .int .i64 n16, .int .i64 n17, .int .u64 n18] w12 fun v19 w20 =>
 ∃ n21 : Int, v19 = .int .i64 n21 ∧
 Q (.int .i64 n21) w20)
 (cnd (n13 == 2)
 (ldI .i64 ⟨b11, 1, none⟩ w12 fun n22 =>
 ldI .i64 ⟨b11, 2, none⟩ w12 fun n23 =>
 ldL ⟨b11, 6, none⟩ w12 fun p24 l25 c26 =>
 CV P F.crierref04_Mem_Put [.pointer a0, .agg [.int .i64 n22, .int .i64 n23].toArray, .slice p24 l25 c26] w12 fun v27 w28 =>
 ∃ n29 : Int, v27 = .int .i64 n29 ∧
 Q (.int .i64 n29) w28)
 (cnd (n13 == 3)
 (ldI .i64 ⟨b11, 1, none⟩ w12 fun n30 =>
 ldI .i64 ⟨b11, 2, none⟩ w12 fun n31 =>
 CV P F.crierref04_Mem_Wipe [.pointer a0, .agg [.int .i64 n30, .int .i64 n31].toArray] w12 fun v32 w33 =>
 ∃ n34 : Int, v32 = .int .i64 n34 ∧
 Q (.int .i64 n34) w33)
 (Q (.int .i64 0) w12)))
def crierlaw04_Model_ann : Nat → Option LoopSpec := fun _ => none
theorem crierlaw04_Model_eq (a0 : Option Addr) (a1_0 : Int) (a1_1 : Int) (a1_2 : Int) (a1_3 : Int) (a1_4 : Int) (a1_5 : Int) (a1_6 : Option Addr) (a1_6_n : Nat) (a1_6_c : Nat) (w : World) (Q : Value → World → Prop) : fnX P crierlaw04_Model_ann Tryd.f23 [.pointer a0, .agg [.int .i64 a1_0, .int .i64 a1_1, .int .i64 a1_2, .int .i64 a1_3, .int .i64 a1_4, .int .u64 a1_5, .slice a1_6 a1_6_n a1_6_c].toArray] w Q = crierlaw04_Model a0 a1_0 a1_1 a1_2 a1_3 a1_4 a1_5 a1_6 a1_6_n a1_6_c w Q := by kernel_rfl
theorem crierlaw04_Model_cv {a0 : Option Addr} {a1_0 : Int} {a1_1 : Int} {a1_2 : Int} {a1_3 : Int} {a1_4 : Int} {a1_5 : Int} {a1_6 : Option Addr} {a1_6_n : Nat} {a1_6_c : Nat} {w : World} {Q : Value → World → Prop} (h : crierlaw04_Model a0 a1_0 a1_1 a1_2 a1_3 a1_4 a1_5 a1_6 a1_6_n a1_6_c w Q) : CV P F.crierlaw04_Model [.pointer a0, .agg [.int .i64 a1_0, .int .i64 a1_1, .int .i64 a1_2, .int .i64 a1_3, .int .i64 a1_4, .int .u64 a1_5, .slice a1_6 a1_6_n a1_6_c].toArray] w Q := CV_of mixed Tryd.func23 (crierlaw04_Model_eq a0 a1_0 a1_1 a1_2 a1_3 a1_4 a1_5 a1_6 a1_6_n a1_6_c w Q ▸ h)

/- 24 crier/crierref16.Store -/
def crierref16_Store_J30 : LoopSpec where
  S := Bool
  emb := fun s => [(38, .bool s)]
  ext := fun t => match getL t 38 with
    | some (.bool y40) => some (y40)
    | _ => none
  slots := [38]
  fits := fun _ => rfl
  ok := by
    intro t s h x hx
    (try dsimp only at h hx)
    split at h
    · cases h
      simp only [List.mem_cons, List.not_mem_nil, or_false] at hx
      rcases hx with rfl <;> assumption
    · cases h

def crierref16_Store_L250 : LoopSpec where
  S := Int
  emb := fun s => [(11, .int .i64 s)]
  ext := fun t => match getL t 11 with
    | some (.int .i64 y43) => some (y43)
    | _ => none
  slots := [11]
  fits := fun _ => rfl
  ok := by
    intro t s h x hx
    (try dsimp only at h hx)
    split at h
    · cases h
      simp only [List.mem_cons, List.not_mem_nil, or_false] at hx
      rcases hx with rfl <;> assumption
    · cases h

def crierref16_Store_l0 (a0 : Option Addr) (a2 : Int) (Q : Value → World → Prop) (b14 : Nat) (b34 : Nat) (n44 : Int) (w45 : World) (A46 : crierref16_Store_L250.S → World → Prop) : Prop :=
 cnd (decide (n44 < 4))
 (drw w45 fun w47 =>
 ldI .i64 ⟨b14, 0, none⟩ w47 fun n48 =>
 ldI .i64 ⟨b14, 1, none⟩ w47 fun n49 =>
 ix n44 4 fun j50 =>
 ldI .u64 (Addr.add ⟨b34, 0, none⟩ (j50 * 1)) w47 fun n51 =>
 CV P F.crierref04_Mem_Write [.pointer a0, .agg [.int .i64 n48, .int .i64 n49].toArray, .int .i64 (IntKind.i64.wrap (a2 + (IntKind.i64.wrap (8 * n44)))), .int .i64 8, .int .u64 n51] w47 fun v52 w53 =>
 ∃ n54 : Int, v52 = .int .i64 n54 ∧
 A46 (((IntKind.i64.wrap (n44 + 1)) : Int)) w53)
 (Q (.int .i64 0) w45)

def crierref16_Store_j1 (a0 : Option Addr) (a2 : Int) (Q : Value → World → Prop) (b14 : Nat) (b34 : Nat) (b41 : Bool) (w42 : World) : Prop :=
 cnd b41
 (Q (.int .i64 42) w42)
 (LoopT (fun (s55 : crierref16_Store_L250.S) w56 A57 => crierref16_Store_l0 a0 a2 Q b14 b34 s55 w56 A57) ((0 : Int)) w42)

def crierref16_Store (a0 : Option Addr) (a1_0 : Int) (a1_1 : Int) (a2 : Int) (a3_0 : Int) (a3_1 : Int) (a3_2 : Int) (a3_3 : Int) (a3_4 : Int) (a3_5 : Int) (a3_6 : Int) (a3_7 : Int) (a3_8 : Bool) (w : World) (Q : Value → World → Prop) : Prop :=
 alc [.int .i64 a1_0, .int .i64 a1_1] T.t46 w fun b14 w15 =>
 alc [.int .i64 a3_0, .int .i64 a3_1, .int .i64 a3_2, .int .i64 a3_3, .int .i64 a3_4, .int .i64 a3_5, .int .i64 a3_6, .int .i64 a3_7, .bool a3_8] T.t24 w15 fun b16 w17 =>
 ldI .i64 ⟨b16, 0, none⟩ w17 fun n18 =>
 ldI .i64 ⟨b16, 1, none⟩ w17 fun n19 =>
 ldI .i64 ⟨b16, 2, none⟩ w17 fun n20 =>
 ldI .i64 ⟨b16, 3, none⟩ w17 fun n21 =>
 ldI .i64 ⟨b16, 4, none⟩ w17 fun n22 =>
 ldI .i64 ⟨b16, 5, none⟩ w17 fun n23 =>
 ldI .i64 ⟨b16, 6, none⟩ w17 fun n24 =>
 ldI .i64 ⟨b16, 7, none⟩ w17 fun n25 =>
 ldB ⟨b16, 8, none⟩ w17 fun b26 =>
 CV P F.crierref16_Encode [.agg [.int .i64 n18, .int .i64 n19, .int .i64 n20, .int .i64 n21, .int .i64 n22, .int .i64 n23, .int .i64 n24, .int .i64 n25, .bool b26].toArray] w17 fun v27 w28 =>
 ∃ n29 : Int, ∃ n30 : Int, ∃ n31 : Int, ∃ n32 : Int, ∃ b33 : Bool, v27 = .tuple [.agg [.int .u64 n29, .int .u64 n30, .int .u64 n31, .int .u64 n32].toArray, .bool b33].toArray ∧
 alc [.int .u64 0, .int .u64 0, .int .u64 0, .int .u64 0] T.t26 w28 fun b34 w35 =>
 st1 (.int .u64 n29) ⟨b34, 0, none⟩ w35 fun w36 =>
 st1 (.int .u64 n30) ⟨b34, 1, none⟩ w36 fun w37 =>
 st1 (.int .u64 n31) ⟨b34, 2, none⟩ w37 fun w38 =>
 st1 (.int .u64 n32) ⟨b34, 3, none⟩ w38 fun w39 =>
 cnd (!b33)
 (Q (.int .i64 160) w39)
 (JoinT (fun (J58 : crierref16_Store_J30.S → World → Prop) =>
  ldI .i64 ⟨b14, 0, none⟩ w39 fun n59 =>
  ldI .i64 ⟨b14, 1, none⟩ w39 fun n60 =>
  CV P F.crierref04_Mem_Holds [.pointer a0, .agg [.int .i64 n59, .int .i64 n60].toArray] w39 fun v61 w62 =>
  ∃ b63 : Bool, v61 = .bool b63 ∧
  cnd (!b63)
  (J58 ((true : Bool)) w62)
  ((nz 8 <|
  cnd ((Int.tmod a2 8) != 0)
  (J58 ((true : Bool)) w62)
  (cnd (decide (a2 < 0))
  (J58 ((true : Bool)) w62)
  (ldI .i64 ⟨b14, 1, none⟩ w62 fun n64 =>
  J58 (((decide (a2 > (IntKind.i64.wrap (n64 - 32)))) : Bool)) w62)))))
  fun (s65 : crierref16_Store_J30.S) w66 => crierref16_Store_j1 a0 a2 Q b14 b34 s65 w66)
def crierref16_Store_ann : Nat → Option LoopSpec := fun
  | 30 => some crierref16_Store_J30
  | 250 => some crierref16_Store_L250
  | 4004 => some (ordSpec [0, 1, 2, 3, 4, 5, 6, 7, 8, 9])
  | _ => none
theorem crierref16_Store_eq (a0 : Option Addr) (a1_0 : Int) (a1_1 : Int) (a2 : Int) (a3_0 : Int) (a3_1 : Int) (a3_2 : Int) (a3_3 : Int) (a3_4 : Int) (a3_5 : Int) (a3_6 : Int) (a3_7 : Int) (a3_8 : Bool) (w : World) (Q : Value → World → Prop) : fnX P crierref16_Store_ann Tryd.f24 [.pointer a0, .agg [.int .i64 a1_0, .int .i64 a1_1].toArray, .int .i64 a2, .agg [.int .i64 a3_0, .int .i64 a3_1, .int .i64 a3_2, .int .i64 a3_3, .int .i64 a3_4, .int .i64 a3_5, .int .i64 a3_6, .int .i64 a3_7, .bool a3_8].toArray] w Q = crierref16_Store a0 a1_0 a1_1 a2 a3_0 a3_1 a3_2 a3_3 a3_4 a3_5 a3_6 a3_7 a3_8 w Q := by kernel_rfl
theorem crierref16_Store_cv {a0 : Option Addr} {a1_0 : Int} {a1_1 : Int} {a2 : Int} {a3_0 : Int} {a3_1 : Int} {a3_2 : Int} {a3_3 : Int} {a3_4 : Int} {a3_5 : Int} {a3_6 : Int} {a3_7 : Int} {a3_8 : Bool} {w : World} {Q : Value → World → Prop} (h : crierref16_Store a0 a1_0 a1_1 a2 a3_0 a3_1 a3_2 a3_3 a3_4 a3_5 a3_6 a3_7 a3_8 w Q) : CV P F.crierref16_Store [.pointer a0, .agg [.int .i64 a1_0, .int .i64 a1_1].toArray, .int .i64 a2, .agg [.int .i64 a3_0, .int .i64 a3_1, .int .i64 a3_2, .int .i64 a3_3, .int .i64 a3_4, .int .i64 a3_5, .int .i64 a3_6, .int .i64 a3_7, .bool a3_8].toArray] w Q := CV_of mixed Tryd.func24 (crierref16_Store_eq a0 a1_0 a1_1 a2 a3_0 a3_1 a3_2 a3_3 a3_4 a3_5 a3_6 a3_7 a3_8 w Q ▸ h)

/- 25 crier/crierlaw04.Same -/
def crierlaw04_Same_J7 : LoopSpec where
  S := Bool
  emb := fun s => [(4, .bool s)]
  ext := fun t => match getL t 4 with
    | some (.bool y13) => some (y13)
    | _ => none
  slots := [4]
  fits := fun _ => rfl
  ok := by
    intro t s h x hx
    (try dsimp only at h hx)
    split at h
    · cases h
      simp only [List.mem_cons, List.not_mem_nil, or_false] at hx
      rcases hx with rfl <;> assumption
    · cases h

def crierlaw04_Same_j0 (Q : Value → World → Prop) (b14 : Bool) (w15 : World) : Prop :=
 Q (.bool b14) w15

def crierlaw04_Same (a0 : Option Addr) (a1 : Option Addr) (w : World) (Q : Value → World → Prop) : Prop :=
 nn a1 fun a3 =>
 ldL a3 w fun p4 l5 c6 =>
 CV P F.mem_Mem_Bytes [.pointer a0, .agg [.int .i64 0, .int .i64 ((l5 : Nat) : Int)].toArray] w fun v7 w8 =>
 ∃ (p9 : Option Addr) (l10 c11 : Nat), ∃ n12 : Int, v7 = .tuple [.slice p9 l10 c11, .int .i64 n12].toArray ∧
 JoinT (fun (J16 : crierlaw04_Same_J7.S → World → Prop) =>
  drw w8 fun w17 =>
  nn a1 fun a18 =>
  ldL a18 w17 fun p19 l20 c21 =>
  CV P F.mem_Mem_Size [.pointer a0] w17 fun v22 w23 =>
  ∃ n24 : Int, v22 = .int .i64 n24 ∧
  (((.int .i64 ((l20 : Nat) : Int) : Value) = .int .i64 ((l20 : Nat) : Int))) ∧
  (ldL a18 w23 fun p25 l26 c27 =>
  ((.slice p25 l26 c27 : Value) = .slice p19 l20 c21)) ∧
  cnd (n24 == ((l20 : Nat) : Int))
  (cnd (n12 == 0)
  (X.runT P (Conv.bytesToString (.slice p9 l10 c11)) w23 fun s28 =>
  nn a1 fun a29 =>
  ldL a29 w23 fun p30 l31 c32 =>
  X.runT P (Conv.bytesToString (.slice p30 l31 c32)) w23 fun s33 =>
  J16 ((((s28 : ByteArray).toList == (s33 : ByteArray).toList) : Bool)) w23)
  (J16 ((false : Bool)) w23))
  (J16 ((false : Bool)) w23))
  fun (s34 : crierlaw04_Same_J7.S) w35 => crierlaw04_Same_j0 Q s34 w35
def crierlaw04_Same_ann : Nat → Option LoopSpec := fun
  | 7 => some crierlaw04_Same_J7
  | 14 => some (ordSpec [0, 2, 3, 4, 5, 6, 1, 7, 8, 9, 10, 11, 12, 13, 14, 15, 16, 17, 18, 19, 20, 21, 22])
  | _ => none
theorem crierlaw04_Same_eq (a0 : Option Addr) (a1 : Option Addr) (w : World) (Q : Value → World → Prop) : fnX P crierlaw04_Same_ann Tryd.f25 [.pointer a0, .pointer a1] w Q = crierlaw04_Same a0 a1 w Q := by kernel_rfl
theorem crierlaw04_Same_cv {a0 : Option Addr} {a1 : Option Addr} {w : World} {Q : Value → World → Prop} (h : crierlaw04_Same a0 a1 w Q) : CV P F.crierlaw04_Same [.pointer a0, .pointer a1] w Q := CV_of mixed Tryd.func25 (crierlaw04_Same_eq a0 a1 w Q ▸ h)

/- 26 crier/cmd.Load -/
def cmd_Load_L58 : LoopSpec where
  S := Int
  emb := fun s => [(12, .int .i64 s)]
  ext := fun t => match getL t 12 with
    | some (.int .i64 y11) => some (y11)
    | _ => none
  slots := [12]
  fits := fun _ => rfl
  ok := by
    intro t s h x hx
    (try dsimp only at h hx)
    split at h
    · cases h
      simp only [List.mem_cons, List.not_mem_nil, or_false] at hx
      rcases hx with rfl <;> assumption
    · cases h

def cmd_Load_l0 (a0 : Option Addr) (a2 : Int) (Q : Value → World → Prop) (b5 : Nat) (b7 : Nat) (b9 : Nat) (n12 : Int) (w13 : World) (A14 : cmd_Load_L58.S → World → Prop) : Prop :=
 cnd (decide (n12 < 4))
 (ldI .i64 ⟨b5, 0, none⟩ w13 fun n15 =>
 ldI .i64 ⟨b5, 1, none⟩ w13 fun n16 =>
 CV P F.mem_Mem_Read [.pointer a0, .agg [.int .i64 n15, .int .i64 n16].toArray, .int .i64 (IntKind.i64.wrap (a2 + (IntKind.i64.wrap (8 * n12)))), .int .i64 8] w13 fun v17 w18 =>
 ∃ n19 : Int, ∃ n20 : Int, v17 = .tuple [.int .u64 n19, .int .i64 n20].toArray ∧
 cnd (n20 != 0)
 (st1 (.int .i64 0) ⟨b7, 0, none⟩ w18 fun w21 =>
 st1 (.int .i64 0) ⟨b7, 1, none⟩ w21 fun w22 =>
 st1 (.int .i64 0) ⟨b7, 2, none⟩ w22 fun w23 =>
 st1 (.int .i64 0) ⟨b7, 3, none⟩ w23 fun w24 =>
 st1 (.int .i64 0) ⟨b7, 4, none⟩ w24 fun w25 =>
 st1 (.int .i64 0) ⟨b7, 5, none⟩ w25 fun w26 =>
 st1 (.int .i64 0) ⟨b7, 6, none⟩ w26 fun w27 =>
 st1 (.int .i64 0) ⟨b7, 7, none⟩ w27 fun w28 =>
 st1 (.bool false) ⟨b7, 8, none⟩ w28 fun w29 =>
 ldI .i64 ⟨b7, 0, none⟩ w29 fun n30 =>
 ldI .i64 ⟨b7, 1, none⟩ w29 fun n31 =>
 ldI .i64 ⟨b7, 2, none⟩ w29 fun n32 =>
 ldI .i64 ⟨b7, 3, none⟩ w29 fun n33 =>
 ldI .i64 ⟨b7, 4, none⟩ w29 fun n34 =>
 ldI .i64 ⟨b7, 5, none⟩ w29 fun n35 =>
 ldI .i64 ⟨b7, 6, none⟩ w29 fun n36 =>
 ldI .i64 ⟨b7, 7, none⟩ w29 fun n37 =>
 ldB ⟨b7, 8, none⟩ w29 fun b38 =>
 Q (.tuple [.agg [.int .i64 n30, .int .i64 n31, .int .i64 n32, .int .i64 n33, .int .i64 n34, .int .i64 n35, .int .i64 n36, .int .i64 n37, .bool b38].toArray, .int .i64 42].toArray) w29)
 (ix n12 4 fun j39 =>
 st1 (.int .u64 n19) (Addr.add ⟨b9, 0, none⟩ (j39 * 1)) w18 fun w40 =>
 A14 (((IntKind.i64.wrap (n12 + 1)) : Int)) w40))
 (ldI .u64 ⟨b9, 0, none⟩ w13 fun n41 =>
 ldI .u64 ⟨b9, 1, none⟩ w13 fun n42 =>
 ldI .u64 ⟨b9, 2, none⟩ w13 fun n43 =>
 ldI .u64 ⟨b9, 3, none⟩ w13 fun n44 =>
 CV P F.cmd_Decode [.agg [.int .u64 n41, .int .u64 n42, .int .u64 n43, .int .u64 n44].toArray] w13 fun v45 w46 =>
 ∃ n47 : Int, ∃ n48 : Int, ∃ n49 : Int, ∃ n50 : Int, ∃ n51 : Int, ∃ n52 : Int, ∃ n53 : Int, ∃ n54 : Int, ∃ b55 : Bool, ∃ n56 : Int, v45 = .tuple [.agg [.int .i64 n47, .int .i64 n48, .int .i64 n49, .int .i64 n50, .int .i64 n51, .int .i64 n52, .int .i64 n53, .int .i64 n54, .bool b55].toArray, .int .i64 n56].toArray ∧
 st1 (.int .i64 n47) ⟨b7, 0, none⟩ w46 fun w57 =>
 st1 (.int .i64 n48) ⟨b7, 1, none⟩ w57 fun w58 =>
 st1 (.int .i64 n49) ⟨b7, 2, none⟩ w58 fun w59 =>
 st1 (.int .i64 n50) ⟨b7, 3, none⟩ w59 fun w60 =>
 st1 (.int .i64 n51) ⟨b7, 4, none⟩ w60 fun w61 =>
 st1 (.int .i64 n52) ⟨b7, 5, none⟩ w61 fun w62 =>
 st1 (.int .i64 n53) ⟨b7, 6, none⟩ w62 fun w63 =>
 st1 (.int .i64 n54) ⟨b7, 7, none⟩ w63 fun w64 =>
 st1 (.bool b55) ⟨b7, 8, none⟩ w64 fun w65 =>
 ldI .i64 ⟨b7, 0, none⟩ w65 fun n66 =>
 ldI .i64 ⟨b7, 1, none⟩ w65 fun n67 =>
 ldI .i64 ⟨b7, 2, none⟩ w65 fun n68 =>
 ldI .i64 ⟨b7, 3, none⟩ w65 fun n69 =>
 ldI .i64 ⟨b7, 4, none⟩ w65 fun n70 =>
 ldI .i64 ⟨b7, 5, none⟩ w65 fun n71 =>
 ldI .i64 ⟨b7, 6, none⟩ w65 fun n72 =>
 ldI .i64 ⟨b7, 7, none⟩ w65 fun n73 =>
 ldB ⟨b7, 8, none⟩ w65 fun b74 =>
 Q (.tuple [.agg [.int .i64 n66, .int .i64 n67, .int .i64 n68, .int .i64 n69, .int .i64 n70, .int .i64 n71, .int .i64 n72, .int .i64 n73, .bool b74].toArray, .int .i64 n56].toArray) w65)

def cmd_Load (a0 : Option Addr) (a1_0 : Int) (a1_1 : Int) (a2 : Int) (w : World) (Q : Value → World → Prop) : Prop :=
 alc [.int .i64 a1_0, .int .i64 a1_1] T.t46 w fun b5 w6 =>
 alc [.int .i64 0, .int .i64 0, .int .i64 0, .int .i64 0, .int .i64 0, .int .i64 0, .int .i64 0, .int .i64 0, .bool false] T.t24 w6 fun b7 w8 =>
 alc [.int .u64 0, .int .u64 0, .int .u64 0, .int .u64 0] T.t26 w8 fun b9 w10 =>
 LoopT (fun (s75 : cmd_Load_L58.S) w76 A77 => cmd_Load_l0 a0 a2 Q b5 b7 b9 s75 w76 A77) ((0 : Int)) w10
def cmd_Load_ann : Nat → Option LoopSpec := fun
  | 58 => some cmd_Load_L58
  | _ => none
theorem cmd_Load_eq (a0 : Option Addr) (a1_0 : Int) (a1_1 : Int) (a2 : Int) (w : World) (Q : Value → World → Prop) : fnX P cmd_Load_ann Tryd.f26 [.pointer a0, .agg [.int .i64 a1_0, .int .i64 a1_1].toArray, .int .i64 a2] w Q = cmd_Load a0 a1_0 a1_1 a2 w Q := by kernel_rfl
theorem cmd_Load_cv {a0 : Option Addr} {a1_0 : Int} {a1_1 : Int} {a2 : Int} {w : World} {Q : Value → World → Prop} (h : cmd_Load a0 a1_0 a1_1 a2 w Q) : CV P F.cmd_Load [.pointer a0, .agg [.int .i64 a1_0, .int .i64 a1_1].toArray, .int .i64 a2] w Q := CV_of mixed Tryd.func26 (cmd_Load_eq a0 a1_0 a1_1 a2 w Q ▸ h)

/- 27 crier/crierref16.Load -/
def crierref16_Load_L58 : LoopSpec where
  S := Int
  emb := fun s => [(9, .int .i64 s)]
  ext := fun t => match getL t 9 with
    | some (.int .i64 y11) => some (y11)
    | _ => none
  slots := [9]
  fits := fun _ => rfl
  ok := by
    intro t s h x hx
    (try dsimp only at h hx)
    split at h
    · cases h
      simp only [List.mem_cons, List.not_mem_nil, or_false] at hx
      rcases hx with rfl <;> assumption
    · cases h

def crierref16_Load_l0 (a0 : Option Addr) (a2 : Int) (Q : Value → World → Prop) (b5 : Nat) (b7 : Nat) (b9 : Nat) (n12 : Int) (w13 : World) (A14 : crierref16_Load_L58.S → World → Prop) : Prop :=
 cnd (decide (n12 < 4))
 (ldI .i64 ⟨b5, 0, none⟩ w13 fun n15 =>
 ldI .i64 ⟨b5, 1, none⟩ w13 fun n16 =>
 CV P F.crierref04_Mem_Read [.pointer a0, .agg [.int .i64 n15, .int .i64 n16].toArray, .int .i64 (IntKind.i64.wrap (a2 + (IntKind.i64.wrap (8 * n12)))), .int .i64 8] w13 fun v17 w18 =>
 ∃ n19 : Int, ∃ n20 : Int, v17 = .tuple [.int .u64 n19, .int .i64 n20].toArray ∧
 cnd (n20 != 0)
 (st1 (.int .i64 0) ⟨b7, 0, none⟩ w18 fun w21 =>
 st1 (.int .i64 0) ⟨b7, 1, none⟩ w21 fun w22 =>
 st1 (.int .i64 0) ⟨b7, 2, none⟩ w22 fun w23 =>
 st1 (.int .i64 0) ⟨b7, 3, none⟩ w23 fun w24 =>
 st1 (.int .i64 0) ⟨b7, 4, none⟩ w24 fun w25 =>
 st1 (.int .i64 0) ⟨b7, 5, none⟩ w25 fun w26 =>
 st1 (.int .i64 0) ⟨b7, 6, none⟩ w26 fun w27 =>
 st1 (.int .i64 0) ⟨b7, 7, none⟩ w27 fun w28 =>
 st1 (.bool false) ⟨b7, 8, none⟩ w28 fun w29 =>
 ldI .i64 ⟨b7, 0, none⟩ w29 fun n30 =>
 ldI .i64 ⟨b7, 1, none⟩ w29 fun n31 =>
 ldI .i64 ⟨b7, 2, none⟩ w29 fun n32 =>
 ldI .i64 ⟨b7, 3, none⟩ w29 fun n33 =>
 ldI .i64 ⟨b7, 4, none⟩ w29 fun n34 =>
 ldI .i64 ⟨b7, 5, none⟩ w29 fun n35 =>
 ldI .i64 ⟨b7, 6, none⟩ w29 fun n36 =>
 ldI .i64 ⟨b7, 7, none⟩ w29 fun n37 =>
 ldB ⟨b7, 8, none⟩ w29 fun b38 =>
 Q (.tuple [.agg [.int .i64 n30, .int .i64 n31, .int .i64 n32, .int .i64 n33, .int .i64 n34, .int .i64 n35, .int .i64 n36, .int .i64 n37, .bool b38].toArray, .int .i64 42].toArray) w29)
 (ix n12 4 fun j39 =>
 st1 (.int .u64 n19) (Addr.add ⟨b9, 0, none⟩ (j39 * 1)) w18 fun w40 =>
 A14 (((IntKind.i64.wrap (n12 + 1)) : Int)) w40))
 (ldI .u64 ⟨b9, 0, none⟩ w13 fun n41 =>
 ldI .u64 ⟨b9, 1, none⟩ w13 fun n42 =>
 ldI .u64 ⟨b9, 2, none⟩ w13 fun n43 =>
 ldI .u64 ⟨b9, 3, none⟩ w13 fun n44 =>
 CV P F.crierref16_Decode [.agg [.int .u64 n41, .int .u64 n42, .int .u64 n43, .int .u64 n44].toArray] w13 fun v45 w46 =>
 ∃ n47 : Int, ∃ n48 : Int, ∃ n49 : Int, ∃ n50 : Int, ∃ n51 : Int, ∃ n52 : Int, ∃ n53 : Int, ∃ n54 : Int, ∃ b55 : Bool, ∃ b56 : Bool, v45 = .tuple [.agg [.int .i64 n47, .int .i64 n48, .int .i64 n49, .int .i64 n50, .int .i64 n51, .int .i64 n52, .int .i64 n53, .int .i64 n54, .bool b55].toArray, .bool b56].toArray ∧
 alc [.int .i64 0, .int .i64 0, .int .i64 0, .int .i64 0, .int .i64 0, .int .i64 0, .int .i64 0, .int .i64 0, .bool false] T.t24 w46 fun b57 w58 =>
 st1 (.int .i64 n47) ⟨b57, 0, none⟩ w58 fun w59 =>
 st1 (.int .i64 n48) ⟨b57, 1, none⟩ w59 fun w60 =>
 st1 (.int .i64 n49) ⟨b57, 2, none⟩ w60 fun w61 =>
 st1 (.int .i64 n50) ⟨b57, 3, none⟩ w61 fun w62 =>
 st1 (.int .i64 n51) ⟨b57, 4, none⟩ w62 fun w63 =>
 st1 (.int .i64 n52) ⟨b57, 5, none⟩ w63 fun w64 =>
 st1 (.int .i64 n53) ⟨b57, 6, none⟩ w64 fun w65 =>
 st1 (.int .i64 n54) ⟨b57, 7, none⟩ w65 fun w66 =>
 st1 (.bool b55) ⟨b57, 8, none⟩ w66 fun w67 =>
 cnd (!b56)
 (st1 (.int .i64 0) ⟨b7, 0, none⟩ w67 fun w68 =>
 st1 (.int .i64 0) ⟨b7, 1, none⟩ w68 fun w69 =>
 st1 (.int .i64 0) ⟨b7, 2, none⟩ w69 fun w70 =>
 st1 (.int .i64 0) ⟨b7, 3, none⟩ w70 fun w71 =>
 st1 (.int .i64 0) ⟨b7, 4, none⟩ w71 fun w72 =>
 st1 (.int .i64 0) ⟨b7, 5, none⟩ w72 fun w73 =>
 st1 (.int .i64 0) ⟨b7, 6, none⟩ w73 fun w74 =>
 st1 (.int .i64 0) ⟨b7, 7, none⟩ w74 fun w75 =>
 st1 (.bool false) ⟨b7, 8, none⟩ w75 fun w76 =>
 ldI .i64 ⟨b7, 0, none⟩ w76 fun n77 =>
 ldI .i64 ⟨b7, 1, none⟩ w76 fun n78 =>
 ldI .i64 ⟨b7, 2, none⟩ w76 fun n79 =>
 ldI .i64 ⟨b7, 3, none⟩ w76 fun n80 =>
 ldI .i64 ⟨b7, 4, none⟩ w76 fun n81 =>
 ldI .i64 ⟨b7, 5, none⟩ w76 fun n82 =>
 ldI .i64 ⟨b7, 6, none⟩ w76 fun n83 =>
 ldI .i64 ⟨b7, 7, none⟩ w76 fun n84 =>
 ldB ⟨b7, 8, none⟩ w76 fun b85 =>
 Q (.tuple [.agg [.int .i64 n77, .int .i64 n78, .int .i64 n79, .int .i64 n80, .int .i64 n81, .int .i64 n82, .int .i64 n83, .int .i64 n84, .bool b85].toArray, .int .i64 160].toArray) w76)
 (ldI .i64 ⟨b57, 0, none⟩ w67 fun n86 =>
 ldI .i64 ⟨b57, 1, none⟩ w67 fun n87 =>
 ldI .i64 ⟨b57, 2, none⟩ w67 fun n88 =>
 ldI .i64 ⟨b57, 3, none⟩ w67 fun n89 =>
 ldI .i64 ⟨b57, 4, none⟩ w67 fun n90 =>
 ldI .i64 ⟨b57, 5, none⟩ w67 fun n91 =>
 ldI .i64 ⟨b57, 6, none⟩ w67 fun n92 =>
 ldI .i64 ⟨b57, 7, none⟩ w67 fun n93 =>
 ldB ⟨b57, 8, none⟩ w67 fun b94 =>
 st1 (.int .i64 n86) ⟨b7, 0, none⟩ w67 fun w95 =>
 st1 (.int .i64 n87) ⟨b7, 1, none⟩ w95 fun w96 =>
 st1 (.int .i64 n88) ⟨b7, 2, none⟩ w96 fun w97 =>
 st1 (.int .i64 n89) ⟨b7, 3, none⟩ w97 fun w98 =>
 st1 (.int .i64 n90) ⟨b7, 4, none⟩ w98 fun w99 =>
 st1 (.int .i64 n91) ⟨b7, 5, none⟩ w99 fun w100 =>
 st1 (.int .i64 n92) ⟨b7, 6, none⟩ w100 fun w101 =>
 st1 (.int .i64 n93) ⟨b7, 7, none⟩ w101 fun w102 =>
 st1 (.bool b94) ⟨b7, 8, none⟩ w102 fun w103 =>
 ldI .i64 ⟨b7, 0, none⟩ w103 fun n104 =>
 ldI .i64 ⟨b7, 1, none⟩ w103 fun n105 =>
 ldI .i64 ⟨b7, 2, none⟩ w103 fun n106 =>
 ldI .i64 ⟨b7, 3, none⟩ w103 fun n107 =>
 ldI .i64 ⟨b7, 4, none⟩ w103 fun n108 =>
 ldI .i64 ⟨b7, 5, none⟩ w103 fun n109 =>
 ldI .i64 ⟨b7, 6, none⟩ w103 fun n110 =>
 ldI .i64 ⟨b7, 7, none⟩ w103 fun n111 =>
 ldB ⟨b7, 8, none⟩ w103 fun b112 =>
 Q (.tuple [.agg [.int .i64 n104, .int .i64 n105, .int .i64 n106, .int .i64 n107, .int .i64 n108, .int .i64 n109, .int .i64 n110, .int .i64 n111, .bool b112].toArray, .int .i64 0].toArray) w103))

def crierref16_Load (a0 : Option Addr) (a1_0 : Int) (a1_1 : Int) (a2 : Int) (w : World) (Q : Value → World → Prop) : Prop :=
 alc [.int .i64 a1_0, .int .i64 a1_1] T.t46 w fun b5 w6 =>
 alc [.int .i64 0, .int .i64 0, .int .i64 0, .int .i64 0, .int .i64 0, .int .i64 0, .int .i64 0, .int .i64 0, .bool false] T.t24 w6 fun b7 w8 =>
 alc [.int .u64 0, .int .u64 0, .int .u64 0, .int .u64 0] T.t26 w8 fun b9 w10 =>
 LoopT (fun (s113 : crierref16_Load_L58.S) w114 A115 => crierref16_Load_l0 a0 a2 Q b5 b7 b9 s113 w114 A115) ((0 : Int)) w10
def crierref16_Load_ann : Nat → Option LoopSpec := fun
  | 58 => some crierref16_Load_L58
  | _ => none
theorem crierref16_Load_eq (a0 : Option Addr) (a1_0 : Int) (a1_1 : Int) (a2 : Int) (w : World) (Q : Value → World → Prop) : fnX P crierref16_Load_ann Tryd.f27 [.pointer a0, .agg [.int .i64 a1_0, .int .i64 a1_1].toArray, .int .i64 a2] w Q = crierref16_Load a0 a1_0 a1_1 a2 w Q := by kernel_rfl
theorem crierref16_Load_cv {a0 : Option Addr} {a1_0 : Int} {a1_1 : Int} {a2 : Int} {w : World} {Q : Value → World → Prop} (h : crierref16_Load a0 a1_0 a1_1 a2 w Q) : CV P F.crierref16_Load [.pointer a0, .agg [.int .i64 a1_0, .int .i64 a1_1].toArray, .int .i64 a2] w Q := CV_of mixed Tryd.func27 (crierref16_Load_eq a0 a1_0 a1_1 a2 w Q ▸ h)

/- 28 crier/crierref16.Print -/
def crierref16_Print_L506 : LoopSpec where
  S := ByteArray × Int
  emb := fun s => [(8, .string s.1), (9, .int .i64 s.2)]
  ext := fun t => match getL t 8, getL t 9 with
    | some (.string y53), some (.int .i64 y54) => some (y53, y54)
    | _, _ => none
  slots := [8, 9]
  fits := fun _ => rfl
  ok := by
    intro t s h x hx
    (try dsimp only at h hx)
    split at h
    · cases h
      simp only [List.mem_cons, List.not_mem_nil, or_false] at hx
      rcases hx with rfl | rfl <;> assumption
    · cases h

def crierref16_Print_l0 (Q : Value → World → Prop) (p45 : Option Addr) (l46 : Nat) (s55 : ByteArray) (n56 : Int) (w57 : World) (A58 : crierref16_Print_L506.S → World → Prop) : Prop :=
 cnd (decide (n56 < ((l46 : Nat) : Int)))
 ((((s55 : ByteArray).size + (⟨#[32]⟩ : ByteArray).size : Nat) : Int) ≤ IntKind.i64.max ∧
 ix n56 l46 fun j59 => nn p45 fun a60 =>
 ldI .i64 ((a60.add (j59 * 4)).add 3) w57 fun n61 =>
 CV P F.strconv_Itoa [.int .i64 n61] w57 fun v62 w63 =>
 ∃ s64 : ByteArray, v62 = .string s64 ∧
 ((((s55 ++ ⟨#[32]⟩) : ByteArray).size + (s64 : ByteArray).size : Nat) : Int) ≤ IntKind.i64.max ∧
 A58 ((((s55 ++ ⟨#[32]⟩) ++ s64) : ByteArray), ((IntKind.i64.wrap (n56 + 1)) : Int)) w63)
 (Q (.tuple [.string s55, .bool true].toArray) w57)

def crierref16_Print (a0_0 : Int) (a0_1 : Int) (a0_2 : Int) (a0_3 : Int) (a0_4 : Int) (a0_5 : Int) (a0_6 : Int) (a0_7 : Int) (a0_8 : Bool) (w : World) (Q : Value → World → Prop) : Prop :=
 alc [.int .i64 a0_0, .int .i64 a0_1, .int .i64 a0_2, .int .i64 a0_3, .int .i64 a0_4, .int .i64 a0_5, .int .i64 a0_6, .int .i64 a0_7, .bool a0_8] T.t24 w fun b10 w11 =>
 ldI .i64 ⟨b10, 0, none⟩ w11 fun n12 =>
 ldI .i64 ⟨b10, 1, none⟩ w11 fun n13 =>
 ldI .i64 ⟨b10, 2, none⟩ w11 fun n14 =>
 ldI .i64 ⟨b10, 3, none⟩ w11 fun n15 =>
 ldI .i64 ⟨b10, 4, none⟩ w11 fun n16 =>
 ldI .i64 ⟨b10, 5, none⟩ w11 fun n17 =>
 ldI .i64 ⟨b10, 6, none⟩ w11 fun n18 =>
 ldI .i64 ⟨b10, 7, none⟩ w11 fun n19 =>
 ldB ⟨b10, 8, none⟩ w11 fun b20 =>
 CV P F.crierref16_Encode [.agg [.int .i64 n12, .int .i64 n13, .int .i64 n14, .int .i64 n15, .int .i64 n16, .int .i64 n17, .int .i64 n18, .int .i64 n19, .bool b20].toArray] w11 fun v21 w22 =>
 ∃ n23 : Int, ∃ n24 : Int, ∃ n25 : Int, ∃ n26 : Int, ∃ b27 : Bool, v21 = .tuple [.agg [.int .u64 n23, .int .u64 n24, .int .u64 n25, .int .u64 n26].toArray, .bool b27].toArray ∧
 alc [.int .u64 0, .int .u64 0, .int .u64 0, .int .u64 0] T.t26 w22 fun b28 w29 =>
 st1 (.int .u64 n23) ⟨b28, 0, none⟩ w29 fun w30 =>
 st1 (.int .u64 n24) ⟨b28, 1, none⟩ w30 fun w31 =>
 st1 (.int .u64 n25) ⟨b28, 2, none⟩ w31 fun w32 =>
 st1 (.int .u64 n26) ⟨b28, 3, none⟩ w32 fun w33 =>
 cnd (!b27)
 (Q (.tuple [.string ⟨#[]⟩, .bool false].toArray) w33)
 (ldI .i64 ⟨b10, 0, none⟩ w33 fun n34 =>
 ldI .i64 ⟨b10, 1, none⟩ w33 fun n35 =>
 ldI .i64 ⟨b10, 2, none⟩ w33 fun n36 =>
 ldI .i64 ⟨b10, 3, none⟩ w33 fun n37 =>
 ldI .i64 ⟨b10, 4, none⟩ w33 fun n38 =>
 ldI .i64 ⟨b10, 5, none⟩ w33 fun n39 =>
 ldI .i64 ⟨b10, 6, none⟩ w33 fun n40 =>
 ldI .i64 ⟨b10, 7, none⟩ w33 fun n41 =>
 ldB ⟨b10, 8, none⟩ w33 fun b42 =>
 CV P F.crierref16_Fields [.agg [.int .i64 n34, .int .i64 n35, .int .i64 n36, .int .i64 n37, .int .i64 n38, .int .i64 n39, .int .i64 n40, .int .i64 n41, .bool b42].toArray] w33 fun v43 w44 =>
 ∃ (p45 : Option Addr) (l46 c47 : Nat), ∃ b48 : Bool, v43 = .tuple [.slice p45 l46 c47, .bool b48].toArray ∧
 ldI .i64 ⟨b10, 0, none⟩ w44 fun n49 =>
 CV P F.crierref16_Name [.int .i64 n49] w44 fun v50 w51 =>
 ∃ s52 : ByteArray, v50 = .string s52 ∧
 LoopT (fun (s65 : crierref16_Print_L506.S) w66 A67 => crierref16_Print_l0 Q p45 l46 s65.1 s65.2 w66 A67) ((s52 : ByteArray), (0 : Int)) w51)
def crierref16_Print_ann : Nat → Option LoopSpec := fun
  | 506 => some crierref16_Print_L506
  | _ => none
theorem crierref16_Print_eq (a0_0 : Int) (a0_1 : Int) (a0_2 : Int) (a0_3 : Int) (a0_4 : Int) (a0_5 : Int) (a0_6 : Int) (a0_7 : Int) (a0_8 : Bool) (w : World) (Q : Value → World → Prop) : fnX P crierref16_Print_ann Tryd.f28 [.agg [.int .i64 a0_0, .int .i64 a0_1, .int .i64 a0_2, .int .i64 a0_3, .int .i64 a0_4, .int .i64 a0_5, .int .i64 a0_6, .int .i64 a0_7, .bool a0_8].toArray] w Q = crierref16_Print a0_0 a0_1 a0_2 a0_3 a0_4 a0_5 a0_6 a0_7 a0_8 w Q := by kernel_rfl
theorem crierref16_Print_cv {a0_0 : Int} {a0_1 : Int} {a0_2 : Int} {a0_3 : Int} {a0_4 : Int} {a0_5 : Int} {a0_6 : Int} {a0_7 : Int} {a0_8 : Bool} {w : World} {Q : Value → World → Prop} (h : crierref16_Print a0_0 a0_1 a0_2 a0_3 a0_4 a0_5 a0_6 a0_7 a0_8 w Q) : CV P F.crierref16_Print [.agg [.int .i64 a0_0, .int .i64 a0_1, .int .i64 a0_2, .int .i64 a0_3, .int .i64 a0_4, .int .i64 a0_5, .int .i64 a0_6, .int .i64 a0_7, .bool a0_8].toArray] w Q := CV_of mixed Tryd.func28 (crierref16_Print_eq a0_0 a0_1 a0_2 a0_3 a0_4 a0_5 a0_6 a0_7 a0_8 w Q ▸ h)

/- 29 crier/cmd.Parse -/
def cmd_Parse_L58 : LoopSpec where
  S := Int
  emb := fun s => [(5, .int .i64 s)]
  ext := fun t => match getL t 5 with
    | some (.int .i64 y9) => some (y9)
    | _ => none
  slots := [5]
  fits := fun _ => rfl
  ok := by
    intro t s h x hx
    (try dsimp only at h hx)
    split at h
    · cases h
      simp only [List.mem_cons, List.not_mem_nil, or_false] at hx
      rcases hx with rfl <;> assumption
    · cases h

def cmd_Parse_J1864 : LoopSpec where
  S := Bool
  emb := fun s => [(31, .bool s)]
  ext := fun t => match getL t 31 with
    | some (.bool y13) => some (y13)
    | _ => none
  slots := [31]
  fits := fun _ => rfl
  ok := by
    intro t s h x hx
    (try dsimp only at h hx)
    split at h
    · cases h
      simp only [List.mem_cons, List.not_mem_nil, or_false] at hx
      rcases hx with rfl <;> assumption
    · cases h

def cmd_Parse_L59706 : LoopSpec where
  S := Int × Int
  emb := fun s => [(7, .int .i64 s.1), (8, .int .i64 s.2)]
  ext := fun t => match getL t 7, getL t 8 with
    | some (.int .i64 y27), some (.int .i64 y28) => some (y27, y28)
    | _, _ => none
  slots := [7, 8]
  fits := fun _ => rfl
  ok := by
    intro t s h x hx
    (try dsimp only at h hx)
    split at h
    · cases h
      simp only [List.mem_cons, List.not_mem_nil, or_false] at hx
      rcases hx with rfl | rfl <;> assumption
    · cases h

def cmd_Parse_J477650 : LoopSpec where
  S := Int
  emb := fun s => [(7, .int .i64 s)]
  ext := fun t => match getL t 7 with
    | some (.int .i64 y33) => some (y33)
    | _ => none
  slots := [7]
  fits := fun _ => rfl
  ok := by
    intro t s h x hx
    (try dsimp only at h hx)
    split at h
    · cases h
      simp only [List.mem_cons, List.not_mem_nil, or_false] at hx
      rcases hx with rfl <;> assumption
    · cases h

def cmd_Parse_j0 (n30 : Int) (A32 : cmd_Parse_L59706.S → World → Prop) (n34 : Int) (w35 : World) : Prop :=
 A32 ((n34 : Int), ((IntKind.i64.wrap (n30 + 1)) : Int)) w35

def cmd_Parse_J1910601 : LoopSpec where
  S := Bool
  emb := fun s => [(50, .bool s)]
  ext := fun t => match getL t 50 with
    | some (.bool y48) => some (y48)
    | _ => none
  slots := [50]
  fits := fun _ => rfl
  ok := by
    intro t s h x hx
    (try dsimp only at h hx)
    split at h
    · cases h
      simp only [List.mem_cons, List.not_mem_nil, or_false] at hx
      rcases hx with rfl <;> assumption
    · cases h

def cmd_Parse_J30569626 : LoopSpec where
  S := Bool
  emb := fun s => [(68, .bool s)]
  ext := fun t => match getL t 68 with
    | some (.bool y58) => some (y58)
    | _ => none
  slots := [68]
  fits := fun _ => rfl
  ok := by
    intro t s h x hx
    (try dsimp only at h hx)
    split at h
    · cases h
      simp only [List.mem_cons, List.not_mem_nil, or_false] at hx
      rcases hx with rfl <;> assumption
    · cases h

def cmd_Parse_j1 (Q : Value → World → Prop) (b2 : Nat) (b16 : Nat) (n29 : Int) (n30 : Int) (J36 : cmd_Parse_J477650.S → World → Prop) (n56 : Int) (b59 : Bool) (w60 : World) : Prop :=
 cnd b59
 (st1 (.int .i64 0) ⟨b2, 0, none⟩ w60 fun w61 =>
 st1 (.int .i64 0) ⟨b2, 1, none⟩ w61 fun w62 =>
 st1 (.int .i64 0) ⟨b2, 2, none⟩ w62 fun w63 =>
 st1 (.int .i64 0) ⟨b2, 3, none⟩ w63 fun w64 =>
 st1 (.int .i64 0) ⟨b2, 4, none⟩ w64 fun w65 =>
 st1 (.int .i64 0) ⟨b2, 5, none⟩ w65 fun w66 =>
 st1 (.int .i64 0) ⟨b2, 6, none⟩ w66 fun w67 =>
 st1 (.int .i64 0) ⟨b2, 7, none⟩ w67 fun w68 =>
 st1 (.bool false) ⟨b2, 8, none⟩ w68 fun w69 =>
 ldI .i64 ⟨b2, 0, none⟩ w69 fun n70 =>
 ldI .i64 ⟨b2, 1, none⟩ w69 fun n71 =>
 ldI .i64 ⟨b2, 2, none⟩ w69 fun n72 =>
 ldI .i64 ⟨b2, 3, none⟩ w69 fun n73 =>
 ldI .i64 ⟨b2, 4, none⟩ w69 fun n74 =>
 ldI .i64 ⟨b2, 5, none⟩ w69 fun n75 =>
 ldI .i64 ⟨b2, 6, none⟩ w69 fun n76 =>
 ldI .i64 ⟨b2, 7, none⟩ w69 fun n77 =>
 ldB ⟨b2, 8, none⟩ w69 fun b78 =>
 Q (.tuple [.agg [.int .i64 n70, .int .i64 n71, .int .i64 n72, .int .i64 n73, .int .i64 n74, .int .i64 n75, .int .i64 n76, .int .i64 n77, .bool b78].toArray, .int .i64 160].toArray) w69)
 (CV P F.cmd_put [.pointer (some ⟨b16, 0, none⟩), .int .i64 n30, .int .i64 n56] w60 fun v79 w80 =>
 v79 = .tuple [].toArray ∧
 J36 (((IntKind.i64.wrap (n29 + 1)) : Int)) w80)

def cmd_Parse_j2 (Q : Value → World → Prop) (b2 : Nat) (p6 : Option Addr) (l7 : Nat) (b16 : Nat) (n29 : Int) (n30 : Int) (J36 : cmd_Parse_J477650.S → World → Prop) (b49 : Bool) (w50 : World) : Prop :=
 cnd b49
 (ix n29 l7 fun j51 => nn p6 fun a52 =>
 ldS (a52.add (j51 * 1)) w50 fun s53 =>
 CV P F.strconv_Atoi [.string s53] w50 fun v54 w55 =>
 ∃ n56 : Int, ∃ v57 : Value, v54 = .tuple [.int .i64 n56, v57].toArray ∧
 JoinT (fun (J81 : cmd_Parse_J30569626.S → World → Prop) =>
  eqN P .neq T.t108 (v57) (.nilIface) w55 fun b82 =>
  cnd b82
  (J81 ((true : Bool)) w55)
  (cnd (decide (n56 > 1099511627776))
  (J81 ((true : Bool)) w55)
  (J81 (((decide (n56 < 0)) : Bool)) w55)))
  fun (s83 : cmd_Parse_J30569626.S) w84 => cmd_Parse_j1 Q b2 b16 n29 n30 J36 n56 s83 w84)
 (J36 ((n29 : Int)) w50)

def cmd_Parse_J59709 : LoopSpec where
  S := Bool
  emb := fun s => [(86, .bool s)]
  ext := fun t => match getL t 86 with
    | some (.bool y103) => some (y103)
    | _ => none
  slots := [86]
  fits := fun _ => rfl
  ok := by
    intro t s h x hx
    (try dsimp only at h hx)
    split at h
    · cases h
      simp only [List.mem_cons, List.not_mem_nil, or_false] at hx
      rcases hx with rfl <;> assumption
    · cases h

def cmd_Parse_j3 (Q : Value → World → Prop) (b2 : Nat) (b16 : Nat) (b104 : Bool) (w105 : World) : Prop :=
 cnd b104
 (st1 (.int .i64 0) ⟨b2, 0, none⟩ w105 fun w106 =>
 st1 (.int .i64 0) ⟨b2, 1, none⟩ w106 fun w107 =>
 st1 (.int .i64 0) ⟨b2, 2, none⟩ w107 fun w108 =>
 st1 (.int .i64 0) ⟨b2, 3, none⟩ w108 fun w109 =>
 st1 (.int .i64 0) ⟨b2, 4, none⟩ w109 fun w110 =>
 st1 (.int .i64 0) ⟨b2, 5, none⟩ w110 fun w111 =>
 st1 (.int .i64 0) ⟨b2, 6, none⟩ w111 fun w112 =>
 st1 (.int .i64 0) ⟨b2, 7, none⟩ w112 fun w113 =>
 st1 (.bool false) ⟨b2, 8, none⟩ w113 fun w114 =>
 ldI .i64 ⟨b2, 0, none⟩ w114 fun n115 =>
 ldI .i64 ⟨b2, 1, none⟩ w114 fun n116 =>
 ldI .i64 ⟨b2, 2, none⟩ w114 fun n117 =>
 ldI .i64 ⟨b2, 3, none⟩ w114 fun n118 =>
 ldI .i64 ⟨b2, 4, none⟩ w114 fun n119 =>
 ldI .i64 ⟨b2, 5, none⟩ w114 fun n120 =>
 ldI .i64 ⟨b2, 6, none⟩ w114 fun n121 =>
 ldI .i64 ⟨b2, 7, none⟩ w114 fun n122 =>
 ldB ⟨b2, 8, none⟩ w114 fun b123 =>
 Q (.tuple [.agg [.int .i64 n115, .int .i64 n116, .int .i64 n117, .int .i64 n118, .int .i64 n119, .int .i64 n120, .int .i64 n121, .int .i64 n122, .bool b123].toArray, .int .i64 160].toArray) w114)
 (ldI .i64 ⟨b16, 0, none⟩ w105 fun n124 =>
 ldI .i64 ⟨b16, 1, none⟩ w105 fun n125 =>
 ldI .i64 ⟨b16, 2, none⟩ w105 fun n126 =>
 ldI .i64 ⟨b16, 3, none⟩ w105 fun n127 =>
 ldI .i64 ⟨b16, 4, none⟩ w105 fun n128 =>
 ldI .i64 ⟨b16, 5, none⟩ w105 fun n129 =>
 ldI .i64 ⟨b16, 6, none⟩ w105 fun n130 =>
 ldI .i64 ⟨b16, 7, none⟩ w105 fun n131 =>
 ldB ⟨b16, 8, none⟩ w105 fun b132 =>
 st1 (.int .i64 n124) ⟨b2, 0, none⟩ w105 fun w133 =>
 st1 (.int .i64 n125) ⟨b2, 1, none⟩ w133 fun w134 =>
 st1 (.int .i64 n126) ⟨b2, 2, none⟩ w134 fun w135 =>
 st1 (.int .i64 n127) ⟨b2, 3, none⟩ w135 fun w136 =>
 st1 (.int .i64 n128) ⟨b2, 4, none⟩ w136 fun w137 =>
 st1 (.int .i64 n129) ⟨b2, 5, none⟩ w137 fun w138 =>
 st1 (.int .i64 n130) ⟨b2, 6, none⟩ w138 fun w139 =>
 st1 (.int .i64 n131) ⟨b2, 7, none⟩ w139 fun w140 =>
 st1 (.bool b132) ⟨b2, 8, none⟩ w140 fun w141 =>
 ldI .i64 ⟨b2, 0, none⟩ w141 fun n142 =>
 ldI .i64 ⟨b2, 1, none⟩ w141 fun n143 =>
 ldI .i64 ⟨b2, 2, none⟩ w141 fun n144 =>
 ldI .i64 ⟨b2, 3, none⟩ w141 fun n145 =>
 ldI .i64 ⟨b2, 4, none⟩ w141 fun n146 =>
 ldI .i64 ⟨b2, 5, none⟩ w141 fun n147 =>
 ldI .i64 ⟨b2, 6, none⟩ w141 fun n148 =>
 ldI .i64 ⟨b2, 7, none⟩ w141 fun n149 =>
 ldB ⟨b2, 8, none⟩ w141 fun b150 =>
 Q (.tuple [.agg [.int .i64 n142, .int .i64 n143, .int .i64 n144, .int .i64 n145, .int .i64 n146, .int .i64 n147, .int .i64 n148, .int .i64 n149, .bool b150].toArray, .int .i64 0].toArray) w141)

def cmd_Parse_l4 (a0 : ByteArray) (Q : Value → World → Prop) (b2 : Nat) (p6 : Option Addr) (l7 : Nat) (n10 : Int) (b16 : Nat) (n29 : Int) (n30 : Int) (w31 : World) (A32 : cmd_Parse_L59706.S → World → Prop) : Prop :=
 cnd (decide (n30 < 8))
 (JoinT (fun (J36 : cmd_Parse_J477650.S → World → Prop) =>
  CV P F.cmd_parted [.int .i64 n10, .int .i64 n30] w31 fun v37 w38 =>
  ∃ n39 : Int, ∃ n40 : Int, ∃ n41 : Int, ∃ b42 : Bool, v37 = .tuple [.agg [.int .i64 n39, .int .i64 n40, .int .i64 n41].toArray, .bool b42].toArray ∧
  alc [.int .i64 0, .int .i64 0, .int .i64 0] T.t72 w38 fun b43 w44 =>
  st1 (.int .i64 n39) ⟨b43, 0, none⟩ w44 fun w45 =>
  st1 (.int .i64 n40) ⟨b43, 1, none⟩ w45 fun w46 =>
  st1 (.int .i64 n41) ⟨b43, 2, none⟩ w46 fun w47 =>
  JoinT (fun (J85 : cmd_Parse_J1910601.S → World → Prop) =>
   cnd b42
   (J85 (((decide (n29 < ((l7 : Nat) : Int))) : Bool)) w47)
   (J85 ((false : Bool)) w47))
   fun (s86 : cmd_Parse_J1910601.S) w87 => cmd_Parse_j2 Q b2 p6 l7 b16 n29 n30 J36 s86 w87)
  fun (s88 : cmd_Parse_J477650.S) w89 => cmd_Parse_j0 n30 A32 s88 w89)
 (ldI .i64 ⟨b16, 0, none⟩ w31 fun n90 =>
 ldI .i64 ⟨b16, 1, none⟩ w31 fun n91 =>
 ldI .i64 ⟨b16, 2, none⟩ w31 fun n92 =>
 ldI .i64 ⟨b16, 3, none⟩ w31 fun n93 =>
 ldI .i64 ⟨b16, 4, none⟩ w31 fun n94 =>
 ldI .i64 ⟨b16, 5, none⟩ w31 fun n95 =>
 ldI .i64 ⟨b16, 6, none⟩ w31 fun n96 =>
 ldI .i64 ⟨b16, 7, none⟩ w31 fun n97 =>
 ldB ⟨b16, 8, none⟩ w31 fun b98 =>
 CV P F.cmd_Print [.agg [.int .i64 n90, .int .i64 n91, .int .i64 n92, .int .i64 n93, .int .i64 n94, .int .i64 n95, .int .i64 n96, .int .i64 n97, .bool b98].toArray] w31 fun v99 w100 =>
 ∃ s101 : ByteArray, ∃ n102 : Int, v99 = .tuple [.string s101, .int .i64 n102].toArray ∧
 JoinT (fun (J151 : cmd_Parse_J59709.S → World → Prop) =>
  cnd (n102 != 0)
  (J151 ((true : Bool)) w100)
  (J151 (((!((s101 : ByteArray).toList == (a0 : ByteArray).toList)) : Bool)) w100))
  fun (s152 : cmd_Parse_J59709.S) w153 => cmd_Parse_j3 Q b2 b16 s152 w153)

def cmd_Parse_j5 (a0 : ByteArray) (Q : Value → World → Prop) (b2 : Nat) (p6 : Option Addr) (l7 : Nat) (n10 : Int) (A12 : cmd_Parse_L58.S → World → Prop) (b14 : Bool) (w15 : World) : Prop :=
 cnd b14
 (A12 (((IntKind.i64.wrap (n10 + 1)) : Int)) w15)
 (alc [.int .i64 0, .int .i64 0, .int .i64 0, .int .i64 0, .int .i64 0, .int .i64 0, .int .i64 0, .int .i64 0, .bool false] T.t24 w15 fun b16 w17 =>
 st1 (.int .i64 n10) ⟨b16, 0, none⟩ w17 fun w18 =>
 st1 (.int .i64 0) ⟨b16, 1, none⟩ w18 fun w19 =>
 st1 (.int .i64 0) ⟨b16, 2, none⟩ w19 fun w20 =>
 st1 (.int .i64 0) ⟨b16, 3, none⟩ w20 fun w21 =>
 st1 (.int .i64 0) ⟨b16, 4, none⟩ w21 fun w22 =>
 st1 (.int .i64 0) ⟨b16, 5, none⟩ w22 fun w23 =>
 st1 (.int .i64 0) ⟨b16, 6, none⟩ w23 fun w24 =>
 st1 (.int .i64 0) ⟨b16, 7, none⟩ w24 fun w25 =>
 st1 (.bool false) ⟨b16, 8, none⟩ w25 fun w26 =>
 LoopT (fun (s154 : cmd_Parse_L59706.S) w155 A156 => cmd_Parse_l4 a0 Q b2 p6 l7 n10 b16 s154.1 s154.2 w155 A156) ((1 : Int), (0 : Int)) w26)

def cmd_Parse_l6 (a0 : ByteArray) (Q : Value → World → Prop) (b2 : Nat) (p6 : Option Addr) (l7 : Nat) (n10 : Int) (w11 : World) (A12 : cmd_Parse_L58.S → World → Prop) : Prop :=
 cnd (decide (n10 ≤ 15))
 (JoinT (fun (J157 : cmd_Parse_J1864.S → World → Prop) =>
  drw w11 fun w158 =>
  CV P F.cmd_Known [.int .i64 n10] w158 fun v159 w160 =>
  ∃ b161 : Bool, v159 = .bool b161 ∧
  cnd (!b161)
  (J157 ((true : Bool)) w160)
  (ix 0 l7 fun j162 => nn p6 fun a163 =>
  ldS (a163.add (j162 * 1)) w160 fun s164 =>
  CV P F.cmd_name [.int .i64 n10] w160 fun v165 w166 =>
  ∃ s167 : ByteArray, v165 = .string s167 ∧
  (ldS (a163.add (j162 * 1)) w166 fun s168 =>
  ((.string s168 : Value) = .string s164)) ∧
  J157 (((!((s167 : ByteArray).toList == (s164 : ByteArray).toList)) : Bool)) w166))
  fun (s169 : cmd_Parse_J1864.S) w170 => cmd_Parse_j5 a0 Q b2 p6 l7 n10 A12 s169 w170)
 (st1 (.int .i64 0) ⟨b2, 0, none⟩ w11 fun w171 =>
 st1 (.int .i64 0) ⟨b2, 1, none⟩ w171 fun w172 =>
 st1 (.int .i64 0) ⟨b2, 2, none⟩ w172 fun w173 =>
 st1 (.int .i64 0) ⟨b2, 3, none⟩ w173 fun w174 =>
 st1 (.int .i64 0) ⟨b2, 4, none⟩ w174 fun w175 =>
 st1 (.int .i64 0) ⟨b2, 5, none⟩ w175 fun w176 =>
 st1 (.int .i64 0) ⟨b2, 6, none⟩ w176 fun w177 =>
 st1 (.int .i64 0) ⟨b2, 7, none⟩ w177 fun w178 =>
 st1 (.bool false) ⟨b2, 8, none⟩ w178 fun w179 =>
 ldI .i64 ⟨b2, 0, none⟩ w179 fun n180 =>
 ldI .i64 ⟨b2, 1, none⟩ w179 fun n181 =>
 ldI .i64 ⟨b2, 2, none⟩ w179 fun n182 =>
 ldI .i64 ⟨b2, 3, none⟩ w179 fun n183 =>
 ldI .i64 ⟨b2, 4, none⟩ w179 fun n184 =>
 ldI .i64 ⟨b2, 5, none⟩ w179 fun n185 =>
 ldI .i64 ⟨b2, 6, none⟩ w179 fun n186 =>
 ldI .i64 ⟨b2, 7, none⟩ w179 fun n187 =>
 ldB ⟨b2, 8, none⟩ w179 fun b188 =>
 Q (.tuple [.agg [.int .i64 n180, .int .i64 n181, .int .i64 n182, .int .i64 n183, .int .i64 n184, .int .i64 n185, .int .i64 n186, .int .i64 n187, .bool b188].toArray, .int .i64 160].toArray) w179)

def cmd_Parse (a0 : ByteArray) (w : World) (Q : Value → World → Prop) : Prop :=
 alc [.int .i64 0, .int .i64 0, .int .i64 0, .int .i64 0, .int .i64 0, .int .i64 0, .int .i64 0, .int .i64 0, .bool false] T.t24 w fun b2 w3 =>
 CV P F.strings_Split [.string a0, .string ⟨#[32]⟩] w3 fun v4 w5 =>
 ∃ (p6 : Option Addr) (l7 c8 : Nat), v4 = .slice p6 l7 c8 ∧
 LoopT (fun (s189 : cmd_Parse_L58.S) w190 A191 => cmd_Parse_l6 a0 Q b2 p6 l7 s189 w190 A191) ((1 : Int)) w5
def cmd_Parse_ann : Nat → Option LoopSpec := fun
  | 58 => some cmd_Parse_L58
  | 1864 => some cmd_Parse_J1864
  | 59706 => some cmd_Parse_L59706
  | 477650 => some cmd_Parse_J477650
  | 1910601 => some cmd_Parse_J1910601
  | 30569626 => some cmd_Parse_J30569626
  | 59709 => some cmd_Parse_J59709
  | 3728 => some (ordSpec [0, 1, 2, 3, 4, 6, 7, 8, 5, 9, 10])
  | _ => none
theorem cmd_Parse_eq (a0 : ByteArray) (w : World) (Q : Value → World → Prop) : fnX P cmd_Parse_ann Tryd.f29 [.string a0] w Q = cmd_Parse a0 w Q := by kernel_rfl
theorem cmd_Parse_cv {a0 : ByteArray} {w : World} {Q : Value → World → Prop} (h : cmd_Parse a0 w Q) : CV P F.cmd_Parse [.string a0] w Q := CV_of mixed Tryd.func29 (cmd_Parse_eq a0 w Q ▸ h)

/- 30 crier/cmd.parted -/
def cmd_parted_J106 : LoopSpec where
  S := Bool
  emb := fun s => [(5, .bool s)]
  ext := fun t => match getL t 5 with
    | some (.bool y5) => some (y5)
    | _ => none
  slots := [5]
  fits := fun _ => rfl
  ok := by
    intro t s h x hx
    (try dsimp only at h hx)
    split at h
    · cases h
      simp only [List.mem_cons, List.not_mem_nil, or_false] at hx
      rcases hx with rfl <;> assumption
    · cases h

def cmd_parted_j0 (Q : Value → World → Prop) (b3 : Nat) (b6 : Bool) (w7 : World) : Prop :=
 ldI .i64 ⟨b3, 0, none⟩ w7 fun n8 =>
 ldI .i64 ⟨b3, 1, none⟩ w7 fun n9 =>
 ldI .i64 ⟨b3, 2, none⟩ w7 fun n10 =>
 Q (.tuple [.agg [.int .i64 n8, .int .i64 n9, .int .i64 n10].toArray, .bool b6].toArray) w7

def cmd_parted_J430 : LoopSpec where
  S := Bool
  emb := fun s => [(5, .bool s)]
  ext := fun t => match getL t 5 with
    | some (.bool y26) => some (y26)
    | _ => none
  slots := [5]
  fits := fun _ => rfl
  ok := by
    intro t s h x hx
    (try dsimp only at h hx)
    split at h
    · cases h
      simp only [List.mem_cons, List.not_mem_nil, or_false] at hx
      rcases hx with rfl <;> assumption
    · cases h

def cmd_parted_j1 (Q : Value → World → Prop) (b3 : Nat) (b27 : Bool) (w28 : World) : Prop :=
 ldI .i64 ⟨b3, 0, none⟩ w28 fun n29 =>
 ldI .i64 ⟨b3, 1, none⟩ w28 fun n30 =>
 ldI .i64 ⟨b3, 2, none⟩ w28 fun n31 =>
 Q (.tuple [.agg [.int .i64 n29, .int .i64 n30, .int .i64 n31].toArray, .bool b27].toArray) w28

def cmd_parted_J6910 : LoopSpec where
  S := Bool
  emb := fun s => [(5, .bool s)]
  ext := fun t => match getL t 5 with
    | some (.bool y68) => some (y68)
    | _ => none
  slots := [5]
  fits := fun _ => rfl
  ok := by
    intro t s h x hx
    (try dsimp only at h hx)
    split at h
    · cases h
      simp only [List.mem_cons, List.not_mem_nil, or_false] at hx
      rcases hx with rfl <;> assumption
    · cases h

def cmd_parted_j2 (Q : Value → World → Prop) (b3 : Nat) (b69 : Bool) (w70 : World) : Prop :=
 ldI .i64 ⟨b3, 0, none⟩ w70 fun n71 =>
 ldI .i64 ⟨b3, 1, none⟩ w70 fun n72 =>
 ldI .i64 ⟨b3, 2, none⟩ w70 fun n73 =>
 Q (.tuple [.agg [.int .i64 n71, .int .i64 n72, .int .i64 n73].toArray, .bool b69].toArray) w70

def cmd_parted_J27646 : LoopSpec where
  S := Bool
  emb := fun s => [(5, .bool s)]
  ext := fun t => match getL t 5 with
    | some (.bool y92) => some (y92)
    | _ => none
  slots := [5]
  fits := fun _ => rfl
  ok := by
    intro t s h x hx
    (try dsimp only at h hx)
    split at h
    · cases h
      simp only [List.mem_cons, List.not_mem_nil, or_false] at hx
      rcases hx with rfl <;> assumption
    · cases h

def cmd_parted_j3 (Q : Value → World → Prop) (b3 : Nat) (b93 : Bool) (w94 : World) : Prop :=
 ldI .i64 ⟨b3, 0, none⟩ w94 fun n95 =>
 ldI .i64 ⟨b3, 1, none⟩ w94 fun n96 =>
 ldI .i64 ⟨b3, 2, none⟩ w94 fun n97 =>
 Q (.tuple [.agg [.int .i64 n95, .int .i64 n96, .int .i64 n97].toArray, .bool b93].toArray) w94

def cmd_parted_J7 : LoopSpec where
  S := Bool
  emb := fun s => [(5, .bool s)]
  ext := fun t => match getL t 5 with
    | some (.bool y122) => some (y122)
    | _ => none
  slots := [5]
  fits := fun _ => rfl
  ok := by
    intro t s h x hx
    (try dsimp only at h hx)
    split at h
    · cases h
      simp only [List.mem_cons, List.not_mem_nil, or_false] at hx
      rcases hx with rfl <;> assumption
    · cases h

def cmd_parted_j4 (Q : Value → World → Prop) (b3 : Nat) (b123 : Bool) (w124 : World) : Prop :=
 ldI .i64 ⟨b3, 0, none⟩ w124 fun n125 =>
 ldI .i64 ⟨b3, 1, none⟩ w124 fun n126 =>
 ldI .i64 ⟨b3, 2, none⟩ w124 fun n127 =>
 Q (.tuple [.agg [.int .i64 n125, .int .i64 n126, .int .i64 n127].toArray, .bool b123].toArray) w124

def cmd_parted (a0 : Int) (a1 : Int) (w : World) (Q : Value → World → Prop) : Prop :=
 alc [.int .i64 0, .int .i64 0, .int .i64 0] T.t72 w fun b3 w4 =>
 cnd (a1 == 0)
 (JoinT (fun (J11 : cmd_parted_J106.S → World → Prop) =>
  cnd (a0 != 9)
  (cnd (a0 != 13)
  (cnd (a0 != 14)
  (st1 (.int .i64 0) ⟨b3, 0, none⟩ w4 fun w12 =>
  st1 (.int .i64 32) ⟨b3, 1, none⟩ w12 fun w13 =>
  st1 (.int .i64 32) ⟨b3, 2, none⟩ w13 fun w14 =>
  J11 (((a0 != 5) : Bool)) w14)
  (st1 (.int .i64 0) ⟨b3, 0, none⟩ w4 fun w15 =>
  st1 (.int .i64 32) ⟨b3, 1, none⟩ w15 fun w16 =>
  st1 (.int .i64 32) ⟨b3, 2, none⟩ w16 fun w17 =>
  J11 ((false : Bool)) w17))
  (st1 (.int .i64 0) ⟨b3, 0, none⟩ w4 fun w18 =>
  st1 (.int .i64 32) ⟨b3, 1, none⟩ w18 fun w19 =>
  st1 (.int .i64 32) ⟨b3, 2, none⟩ w19 fun w20 =>
  J11 ((false : Bool)) w20))
  (st1 (.int .i64 0) ⟨b3, 0, none⟩ w4 fun w21 =>
  st1 (.int .i64 32) ⟨b3, 1, none⟩ w21 fun w22 =>
  st1 (.int .i64 32) ⟨b3, 2, none⟩ w22 fun w23 =>
  J11 ((false : Bool)) w23))
  fun (s24 : cmd_parted_J106.S) w25 => cmd_parted_j0 Q b3 s24 w25)
 (cnd (a1 == 1)
 (JoinT (fun (J32 : cmd_parted_J430.S → World → Prop) =>
  cnd (a0 == 10)
  (st1 (.int .i64 1) ⟨b3, 0, none⟩ w4 fun w33 =>
  st1 (.int .i64 0) ⟨b3, 1, none⟩ w33 fun w34 =>
  st1 (.int .i64 32) ⟨b3, 2, none⟩ w34 fun w35 =>
  J32 ((true : Bool)) w35)
  (cnd (a0 == 11)
  (st1 (.int .i64 1) ⟨b3, 0, none⟩ w4 fun w36 =>
  st1 (.int .i64 0) ⟨b3, 1, none⟩ w36 fun w37 =>
  st1 (.int .i64 32) ⟨b3, 2, none⟩ w37 fun w38 =>
  J32 ((true : Bool)) w38)
  (cnd (a0 == 1)
  (st1 (.int .i64 1) ⟨b3, 0, none⟩ w4 fun w39 =>
  st1 (.int .i64 0) ⟨b3, 1, none⟩ w39 fun w40 =>
  st1 (.int .i64 32) ⟨b3, 2, none⟩ w40 fun w41 =>
  J32 ((true : Bool)) w41)
  (cnd (a0 == 3)
  (st1 (.int .i64 1) ⟨b3, 0, none⟩ w4 fun w42 =>
  st1 (.int .i64 0) ⟨b3, 1, none⟩ w42 fun w43 =>
  st1 (.int .i64 32) ⟨b3, 2, none⟩ w43 fun w44 =>
  J32 ((true : Bool)) w44)
  (cnd (a0 == 4)
  (st1 (.int .i64 1) ⟨b3, 0, none⟩ w4 fun w45 =>
  st1 (.int .i64 0) ⟨b3, 1, none⟩ w45 fun w46 =>
  st1 (.int .i64 32) ⟨b3, 2, none⟩ w46 fun w47 =>
  J32 ((true : Bool)) w47)
  (cnd (a0 == 12)
  (st1 (.int .i64 1) ⟨b3, 0, none⟩ w4 fun w48 =>
  st1 (.int .i64 0) ⟨b3, 1, none⟩ w48 fun w49 =>
  st1 (.int .i64 32) ⟨b3, 2, none⟩ w49 fun w50 =>
  J32 ((true : Bool)) w50)
  (st1 (.int .i64 1) ⟨b3, 0, none⟩ w4 fun w51 =>
  st1 (.int .i64 0) ⟨b3, 1, none⟩ w51 fun w52 =>
  st1 (.int .i64 32) ⟨b3, 2, none⟩ w52 fun w53 =>
  J32 (((a0 == 15) : Bool)) w53)))))))
  fun (s54 : cmd_parted_J430.S) w55 => cmd_parted_j1 Q b3 s54 w55)
 (cnd (a1 == 2)
 (cnd (a0 == 14)
 (st1 (.int .i64 3) ⟨b3, 0, none⟩ w4 fun w56 =>
 st1 (.int .i64 16) ⟨b3, 1, none⟩ w56 fun w57 =>
 st1 (.int .i64 16) ⟨b3, 2, none⟩ w57 fun w58 =>
 ldI .i64 ⟨b3, 0, none⟩ w58 fun n59 =>
 ldI .i64 ⟨b3, 1, none⟩ w58 fun n60 =>
 ldI .i64 ⟨b3, 2, none⟩ w58 fun n61 =>
 Q (.tuple [.agg [.int .i64 n59, .int .i64 n60, .int .i64 n61].toArray, .bool true].toArray) w58)
 (st1 (.int .i64 1) ⟨b3, 0, none⟩ w4 fun w62 =>
 st1 (.int .i64 32) ⟨b3, 1, none⟩ w62 fun w63 =>
 st1 (.int .i64 32) ⟨b3, 2, none⟩ w63 fun w64 =>
 ldI .i64 ⟨b3, 0, none⟩ w64 fun n65 =>
 ldI .i64 ⟨b3, 1, none⟩ w64 fun n66 =>
 ldI .i64 ⟨b3, 2, none⟩ w64 fun n67 =>
 Q (.tuple [.agg [.int .i64 n65, .int .i64 n66, .int .i64 n67].toArray, .bool (a0 == 10)].toArray) w64))
 (cnd (a1 == 3)
 (JoinT (fun (J74 : cmd_parted_J6910.S → World → Prop) =>
  cnd (a0 == 9)
  (st1 (.int .i64 2) ⟨b3, 0, none⟩ w4 fun w75 =>
  st1 (.int .i64 0) ⟨b3, 1, none⟩ w75 fun w76 =>
  st1 (.int .i64 16) ⟨b3, 2, none⟩ w76 fun w77 =>
  J74 ((true : Bool)) w77)
  (cnd (a0 == 10)
  (st1 (.int .i64 2) ⟨b3, 0, none⟩ w4 fun w78 =>
  st1 (.int .i64 0) ⟨b3, 1, none⟩ w78 fun w79 =>
  st1 (.int .i64 16) ⟨b3, 2, none⟩ w79 fun w80 =>
  J74 ((true : Bool)) w80)
  (cnd (a0 == 11)
  (st1 (.int .i64 2) ⟨b3, 0, none⟩ w4 fun w81 =>
  st1 (.int .i64 0) ⟨b3, 1, none⟩ w81 fun w82 =>
  st1 (.int .i64 16) ⟨b3, 2, none⟩ w82 fun w83 =>
  J74 ((true : Bool)) w83)
  (cnd (a0 == 1)
  (st1 (.int .i64 2) ⟨b3, 0, none⟩ w4 fun w84 =>
  st1 (.int .i64 0) ⟨b3, 1, none⟩ w84 fun w85 =>
  st1 (.int .i64 16) ⟨b3, 2, none⟩ w85 fun w86 =>
  J74 ((true : Bool)) w86)
  (st1 (.int .i64 2) ⟨b3, 0, none⟩ w4 fun w87 =>
  st1 (.int .i64 0) ⟨b3, 1, none⟩ w87 fun w88 =>
  st1 (.int .i64 16) ⟨b3, 2, none⟩ w88 fun w89 =>
  J74 (((a0 == 13) : Bool)) w89)))))
  fun (s90 : cmd_parted_J6910.S) w91 => cmd_parted_j2 Q b3 s90 w91)
 (cnd (a1 == 4)
 (JoinT (fun (J98 : cmd_parted_J27646.S → World → Prop) =>
  cnd (a0 == 9)
  (st1 (.int .i64 2) ⟨b3, 0, none⟩ w4 fun w99 =>
  st1 (.int .i64 16) ⟨b3, 1, none⟩ w99 fun w100 =>
  st1 (.int .i64 16) ⟨b3, 2, none⟩ w100 fun w101 =>
  J98 ((true : Bool)) w101)
  (cnd (a0 == 14)
  (st1 (.int .i64 2) ⟨b3, 0, none⟩ w4 fun w102 =>
  st1 (.int .i64 16) ⟨b3, 1, none⟩ w102 fun w103 =>
  st1 (.int .i64 16) ⟨b3, 2, none⟩ w103 fun w104 =>
  J98 ((true : Bool)) w104)
  (st1 (.int .i64 2) ⟨b3, 0, none⟩ w4 fun w105 =>
  st1 (.int .i64 16) ⟨b3, 1, none⟩ w105 fun w106 =>
  st1 (.int .i64 16) ⟨b3, 2, none⟩ w106 fun w107 =>
  J98 (((a0 == 5) : Bool)) w107)))
  fun (s108 : cmd_parted_J27646.S) w109 => cmd_parted_j3 Q b3 s108 w109)
 (cnd (a1 == 5)
 (st1 (.int .i64 1) ⟨b3, 0, none⟩ w4 fun w110 =>
 st1 (.int .i64 0) ⟨b3, 1, none⟩ w110 fun w111 =>
 st1 (.int .i64 5) ⟨b3, 2, none⟩ w111 fun w112 =>
 ldI .i64 ⟨b3, 0, none⟩ w112 fun n113 =>
 ldI .i64 ⟨b3, 1, none⟩ w112 fun n114 =>
 ldI .i64 ⟨b3, 2, none⟩ w112 fun n115 =>
 Q (.tuple [.agg [.int .i64 n113, .int .i64 n114, .int .i64 n115].toArray, .bool (a0 == 8)].toArray) w112)
 (cnd (a1 == 6)
 (st1 (.int .i64 2) ⟨b3, 0, none⟩ w4 fun w116 =>
 st1 (.int .i64 8) ⟨b3, 1, none⟩ w116 fun w117 =>
 st1 (.int .i64 40) ⟨b3, 2, none⟩ w117 fun w118 =>
 ldI .i64 ⟨b3, 0, none⟩ w118 fun n119 =>
 ldI .i64 ⟨b3, 1, none⟩ w118 fun n120 =>
 ldI .i64 ⟨b3, 2, none⟩ w118 fun n121 =>
 Q (.tuple [.agg [.int .i64 n119, .int .i64 n120, .int .i64 n121].toArray, .bool (a0 == 8)].toArray) w118)
 (JoinT (fun (J128 : cmd_parted_J7.S → World → Prop) =>
  cnd (a0 == 8)
  (st1 (.int .i64 2) ⟨b3, 0, none⟩ w4 fun w129 =>
  st1 (.int .i64 63) ⟨b3, 1, none⟩ w129 fun w130 =>
  st1 (.int .i64 1) ⟨b3, 2, none⟩ w130 fun w131 =>
  J128 ((true : Bool)) w131)
  (st1 (.int .i64 2) ⟨b3, 0, none⟩ w4 fun w132 =>
  st1 (.int .i64 63) ⟨b3, 1, none⟩ w132 fun w133 =>
  st1 (.int .i64 1) ⟨b3, 2, none⟩ w133 fun w134 =>
  J128 (((a0 == 9) : Bool)) w134))
  fun (s135 : cmd_parted_J7.S) w136 => cmd_parted_j4 Q b3 s135 w136)))))))
def cmd_parted_ann : Nat → Option LoopSpec := fun
  | 106 => some cmd_parted_J106
  | 430 => some cmd_parted_J430
  | 6910 => some cmd_parted_J6910
  | 27646 => some cmd_parted_J27646
  | 7 => some cmd_parted_J7
  | _ => none
theorem cmd_parted_eq (a0 : Int) (a1 : Int) (w : World) (Q : Value → World → Prop) : fnX P cmd_parted_ann Tryd.f30 [.int .i64 a0, .int .i64 a1] w Q = cmd_parted a0 a1 w Q := by kernel_rfl
theorem cmd_parted_cv {a0 : Int} {a1 : Int} {w : World} {Q : Value → World → Prop} (h : cmd_parted a0 a1 w Q) : CV P F.cmd_parted [.int .i64 a0, .int .i64 a1] w Q := CV_of mixed Tryd.func30 (cmd_parted_eq a0 a1 w Q ▸ h)

/- 31 crier/cmd.get -/

def cmd_get (a0_0 : Int) (a0_1 : Int) (a0_2 : Int) (a0_3 : Int) (a0_4 : Int) (a0_5 : Int) (a0_6 : Int) (a0_7 : Int) (a0_8 : Bool) (a1 : Int) (w : World) (Q : Value → World → Prop) : Prop :=
 alc [.int .i64 a0_0, .int .i64 a0_1, .int .i64 a0_2, .int .i64 a0_3, .int .i64 a0_4, .int .i64 a0_5, .int .i64 a0_6, .int .i64 a0_7, .bool a0_8] T.t24 w fun b11 w12 =>
 cnd (a1 == 0)
 (ldI .i64 ⟨b11, 1, none⟩ w12 fun n13 =>
 Q (.int .i64 n13) w12)
 (cnd (a1 == 1)
 (ldI .i64 ⟨b11, 2, none⟩ w12 fun n14 =>
 Q (.int .i64 n14) w12)
 (cnd (a1 == 2)
 (ldI .i64 ⟨b11, 3, none⟩ w12 fun n15 =>
 Q (.int .i64 n15) w12)
 (cnd (a1 == 3)
 (ldI .i64 ⟨b11, 4, none⟩ w12 fun n16 =>
 Q (.int .i64 n16) w12)
 (cnd (a1 == 4)
 (ldI .i64 ⟨b11, 5, none⟩ w12 fun n17 =>
 Q (.int .i64 n17) w12)
 (cnd (a1 == 5)
 (ldI .i64 ⟨b11, 6, none⟩ w12 fun n18 =>
 Q (.int .i64 n18) w12)
 (cnd (a1 == 6)
 (ldI .i64 ⟨b11, 7, none⟩ w12 fun n19 =>
 (nng 8 <|
 Q (.int .i64 (Int.fdiv n19 (2 ^ min (Int.toNat 8) (IntKind.i64.bits)))) w12))
 (ldB ⟨b11, 8, none⟩ w12 fun b20 =>
 cnd b20
 (Q (.int .i64 1) w12)
 (Q (.int .i64 0) w12))))))))
def cmd_get_ann : Nat → Option LoopSpec := fun _ => none
theorem cmd_get_eq (a0_0 : Int) (a0_1 : Int) (a0_2 : Int) (a0_3 : Int) (a0_4 : Int) (a0_5 : Int) (a0_6 : Int) (a0_7 : Int) (a0_8 : Bool) (a1 : Int) (w : World) (Q : Value → World → Prop) : fnX P cmd_get_ann Tryd.f31 [.agg [.int .i64 a0_0, .int .i64 a0_1, .int .i64 a0_2, .int .i64 a0_3, .int .i64 a0_4, .int .i64 a0_5, .int .i64 a0_6, .int .i64 a0_7, .bool a0_8].toArray, .int .i64 a1] w Q = cmd_get a0_0 a0_1 a0_2 a0_3 a0_4 a0_5 a0_6 a0_7 a0_8 a1 w Q := by kernel_rfl
theorem cmd_get_cv {a0_0 : Int} {a0_1 : Int} {a0_2 : Int} {a0_3 : Int} {a0_4 : Int} {a0_5 : Int} {a0_6 : Int} {a0_7 : Int} {a0_8 : Bool} {a1 : Int} {w : World} {Q : Value → World → Prop} (h : cmd_get a0_0 a0_1 a0_2 a0_3 a0_4 a0_5 a0_6 a0_7 a0_8 a1 w Q) : CV P F.cmd_get [.agg [.int .i64 a0_0, .int .i64 a0_1, .int .i64 a0_2, .int .i64 a0_3, .int .i64 a0_4, .int .i64 a0_5, .int .i64 a0_6, .int .i64 a0_7, .bool a0_8].toArray, .int .i64 a1] w Q := CV_of mixed Tryd.func31 (cmd_get_eq a0_0 a0_1 a0_2 a0_3 a0_4 a0_5 a0_6 a0_7 a0_8 a1 w Q ▸ h)

end Go.Proofs.YtggmapokmlbgbaaDoor
