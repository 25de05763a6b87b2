/-
  The functions' words, printed by Gen.lean out of the translation.
-/
import Derived.Test.YtggmapokmlbgbaaDoorFn0
namespace Go.Proofs.YtggmapokmlbgbaaDoor
open Go X
set_option maxRecDepth 100000
set_option linter.unusedVariables false
/- 32 crier/crierref16.Fields -/
def crierref16_Fields_J31 : LoopSpec where
  S := (Option Addr × Nat × Nat)
  emb := fun s => [(4, .slice s.1 s.2.1 s.2.2)]
  ext := fun t => match getL t 4 with
    | some (.slice y33 y34 y35) => some ((y33, y34, y35))
    | _ => none
  slots := [4]
  fits := fun _ => rfl
  ok := by
    intro t s h x hx
    (try dsimp only at h hx)
    split at h
    · cases h
      simp only [List.mem_cons, List.not_mem_nil, or_false] at hx
      rcases hx with rfl <;> assumption
    · cases h

def crierref16_Fields_J63 : LoopSpec where
  S := (Option Addr × Nat × Nat)
  emb := fun s => [(4, .slice s.1 s.2.1 s.2.2)]
  ext := fun t => match getL t 4 with
    | some (.slice y40 y41 y42) => some ((y40, y41, y42))
    | _ => none
  slots := [4]
  fits := fun _ => rfl
  ok := by
    intro t s h x hx
    (try dsimp only at h hx)
    split at h
    · cases h
      simp only [List.mem_cons, List.not_mem_nil, or_false] at hx
      rcases hx with rfl <;> assumption
    · cases h

def crierref16_Fields_J127 : LoopSpec where
  S := (Option Addr × Nat × Nat)
  emb := fun s => [(4, .slice s.1 s.2.1 s.2.2)]
  ext := fun t => match getL t 4 with
    | some (.slice y47 y48 y49) => some ((y47, y48, y49))
    | _ => none
  slots := [4]
  fits := fun _ => rfl
  ok := by
    intro t s h x hx
    (try dsimp only at h hx)
    split at h
    · cases h
      simp only [List.mem_cons, List.not_mem_nil, or_false] at hx
      rcases hx with rfl <;> assumption
    · cases h

def crierref16_Fields_J255 : LoopSpec where
  S := (Option Addr × Nat × Nat)
  emb := fun s => [(4, .slice s.1 s.2.1 s.2.2)]
  ext := fun t => match getL t 4 with
    | some (.slice y54 y55 y56) => some ((y54, y55, y56))
    | _ => none
  slots := [4]
  fits := fun _ => rfl
  ok := by
    intro t s h x hx
    (try dsimp only at h hx)
    split at h
    · cases h
      simp only [List.mem_cons, List.not_mem_nil, or_false] at hx
      rcases hx with rfl <;> assumption
    · cases h

def crierref16_Fields_J511 : LoopSpec where
  S := (Option Addr × Nat × Nat)
  emb := fun s => [(4, .slice s.1 s.2.1 s.2.2)]
  ext := fun t => match getL t 4 with
    | some (.slice y61 y62 y63) => some ((y61, y62, y63))
    | _ => none
  slots := [4]
  fits := fun _ => rfl
  ok := by
    intro t s h x hx
    (try dsimp only at h hx)
    split at h
    · cases h
      simp only [List.mem_cons, List.not_mem_nil, or_false] at hx
      rcases hx with rfl <;> assumption
    · cases h

def crierref16_Fields_J1023 : LoopSpec where
  S := (Option Addr × Nat × Nat)
  emb := fun s => [(4, .slice s.1 s.2.1 s.2.2)]
  ext := fun t => match getL t 4 with
    | some (.slice y68 y69 y70) => some ((y68, y69, y70))
    | _ => none
  slots := [4]
  fits := fun _ => rfl
  ok := by
    intro t s h x hx
    (try dsimp only at h hx)
    split at h
    · cases h
      simp only [List.mem_cons, List.not_mem_nil, or_false] at hx
      rcases hx with rfl <;> assumption
    · cases h

def crierref16_Fields_J2047 : LoopSpec where
  S := (Option Addr × Nat × Nat)
  emb := fun s => [(4, .slice s.1 s.2.1 s.2.2)]
  ext := fun t => match getL t 4 with
    | some (.slice y75 y76 y77) => some ((y75, y76, y77))
    | _ => none
  slots := [4]
  fits := fun _ => rfl
  ok := by
    intro t s h x hx
    (try dsimp only at h hx)
    split at h
    · cases h
      simp only [List.mem_cons, List.not_mem_nil, or_false] at hx
      rcases hx with rfl <;> assumption
    · cases h

def crierref16_Fields_J4095 : LoopSpec where
  S := (Option Addr × Nat × Nat)
  emb := fun s => [(4, .slice s.1 s.2.1 s.2.2)]
  ext := fun t => match getL t 4 with
    | some (.slice y82 y83 y84) => some ((y82, y83, y84))
    | _ => none
  slots := [4]
  fits := fun _ => rfl
  ok := by
    intro t s h x hx
    (try dsimp only at h hx)
    split at h
    · cases h
      simp only [List.mem_cons, List.not_mem_nil, or_false] at hx
      rcases hx with rfl <;> assumption
    · cases h

def crierref16_Fields_j0 (Q : Value → World → Prop) (b21 : Nat) (p85 : Option Addr) (l86 : Nat) (c87 : Nat) (w88 : World) : Prop :=
 drw w88 fun w89 =>
 ldI .i64 ⟨b21, 0, none⟩ w89 fun n90 =>
 ldI .i64 ⟨b21, 1, none⟩ w89 fun n91 =>
 ldI .i64 ⟨b21, 2, none⟩ w89 fun n92 =>
 ldI .i64 ⟨b21, 3, none⟩ w89 fun n93 =>
 ldI .i64 ⟨b21, 4, none⟩ w89 fun n94 =>
 ldI .i64 ⟨b21, 5, none⟩ w89 fun n95 =>
 ldI .i64 ⟨b21, 6, none⟩ w89 fun n96 =>
 ldI .i64 ⟨b21, 7, none⟩ w89 fun n97 =>
 ldB ⟨b21, 8, none⟩ w89 fun b98 =>
 eqA P .eql T.t24 (.agg [.int .i64 n90, .int .i64 n91, .int .i64 n92, .int .i64 n93, .int .i64 n94, .int .i64 n95, .int .i64 n96, .int .i64 n97, .bool b98].toArray) (.agg [.int .i64 0, .int .i64 0, .int .i64 0, .int .i64 0, .int .i64 0, .int .i64 0, .int .i64 0, .int .i64 0, .bool false].toArray) w89 fun b99 =>
 Q (.tuple [.slice p85 l86 c87, .bool b99].toArray) w89

def crierref16_Fields_J8190 : LoopSpec where
  S := Bool
  emb := fun s => [(107, .bool s)]
  ext := fun t => match getL t 107 with
    | some (.bool y101) => some (y101)
    | _ => none
  slots := [107]
  fits := fun _ => rfl
  ok := by
    intro t s h x hx
    (try dsimp only at h hx)
    split at h
    · cases h
      simp only [List.mem_cons, List.not_mem_nil, or_false] at hx
      rcases hx with rfl <;> assumption
    · cases h

def crierref16_Fields_j1 (b10 : Nat) (b21 : Nat) (p78 : Option Addr) (l79 : Nat) (c80 : Nat) (J100 : crierref16_Fields_J4095.S → World → Prop) (b102 : Bool) (w103 : World) : Prop :=
 cnd b102
 (ldB ⟨b10, 8, none⟩ w103 fun b104 =>
 CV P F.crierref16_one [.bool b104] w103 fun v105 w106 =>
 ∃ n107 : Int, v105 = .int .i64 n107 ∧
 alc [.int .i64 2, .int .i64 63, .int .i64 1, .int .i64 n107] T.t80 w106 fun b108 w109 =>
 runS P (Builtin.append_ #[T.t76, T.t76] T.t76 [.slice p78 l79 c80, .slice (some ⟨b108, 0, none⟩) 1 1].toArray) w109 fun p110 l111 c112 w113 =>
 st1 (.bool false) ⟨b21, 8, none⟩ w113 fun w114 =>
 J100 (((p110 : Option Addr), (l111 : Nat), (c112 : Nat))) w114)
 (J100 (((p78 : Option Addr), (l79 : Nat), (c80 : Nat))) w103)

def crierref16_Fields_j2 (Q : Value → World → Prop) (b10 : Nat) (b21 : Nat) (p78 : Option Addr) (l79 : Nat) (c80 : Nat) (w81 : World) : Prop :=
 JoinT (fun (J100 : crierref16_Fields_J4095.S → World → Prop) =>
  JoinT (fun (J115 : crierref16_Fields_J8190.S → World → Prop) =>
   ldI .i64 ⟨b10, 0, none⟩ w81 fun n116 =>
   cnd (n116 == 8)
   (J115 ((true : Bool)) w81)
   (ldI .i64 ⟨b10, 0, none⟩ w81 fun n117 =>
   J115 (((n117 == 9) : Bool)) w81))
   fun (s118 : crierref16_Fields_J8190.S) w119 => crierref16_Fields_j1 b10 b21 p78 l79 c80 J100 s118 w119)
  fun (s120 : crierref16_Fields_J4095.S) w121 => crierref16_Fields_j0 Q b21 s120.1 s120.2.1 s120.2.2 w121

def crierref16_Fields_J131030 : LoopSpec where
  S := Bool
  emb := fun s => [(91, .bool s)]
  ext := fun t => match getL t 91 with
    | some (.bool y132) => some (y132)
    | _ => none
  slots := [91]
  fits := fun _ => rfl
  ok := by
    intro t s h x hx
    (try dsimp only at h hx)
    split at h
    · cases h
      simp only [List.mem_cons, List.not_mem_nil, or_false] at hx
      rcases hx with rfl <;> assumption
    · cases h

def crierref16_Fields_j3 (Q : Value → World → Prop) (b10 : Nat) (b21 : Nat) (J122 : crierref16_Fields_J2047.S → World → Prop) (p127 : Option Addr) (l128 : Nat) (c129 : Nat) (b133 : Bool) (w134 : World) : Prop :=
 cnd b133
 (Q (.tuple [.slice none 0 0, .bool false].toArray) w134)
 (ldI .i64 ⟨b10, 7, none⟩ w134 fun n135 =>
 (nz 256 <|
 alc [.int .i64 2, .int .i64 8, .int .i64 40, .int .i64 (IntKind.i64.wrap (Int.tdiv n135 256))] T.t80 w134 fun b136 w137 =>
 runS P (Builtin.append_ #[T.t76, T.t76] T.t76 [.slice p127 l128 c129, .slice (some ⟨b136, 0, none⟩) 1 1].toArray) w137 fun p138 l139 c140 w141 =>
 st1 (.int .i64 0) ⟨b21, 7, none⟩ w141 fun w142 =>
 J122 (((p138 : Option Addr), (l139 : Nat), (c140 : Nat))) w142))

def crierref16_Fields_j4 (Q : Value → World → Prop) (b10 : Nat) (b21 : Nat) (p71 : Option Addr) (l72 : Nat) (c73 : Nat) (w74 : World) : Prop :=
 JoinT (fun (J122 : crierref16_Fields_J2047.S → World → Prop) =>
  ldI .i64 ⟨b10, 0, none⟩ w74 fun n123 =>
  cnd (n123 == 8)
  (ldI .i64 ⟨b10, 6, none⟩ w74 fun n124 =>
  alc [.int .i64 1, .int .i64 0, .int .i64 5, .int .i64 n124] T.t80 w74 fun b125 w126 =>
  runS P (Builtin.append_ #[T.t76, T.t76] T.t76 [.slice p71 l72 c73, .slice (some ⟨b125, 0, none⟩) 1 1].toArray) w126 fun p127 l128 c129 w130 =>
  st1 (.int .i64 0) ⟨b21, 6, none⟩ w130 fun w131 =>
  JoinT (fun (J143 : crierref16_Fields_J131030.S → World → Prop) =>
   ldI .i64 ⟨b10, 7, none⟩ w131 fun n144 =>
   cnd (decide (n144 < 0))
   (J143 ((true : Bool)) w131)
   (ldI .i64 ⟨b10, 7, none⟩ w131 fun n145 =>
   (nz 256 <|
   J143 ((((Int.tmod n145 256) != 0) : Bool)) w131)))
   fun (s146 : crierref16_Fields_J131030.S) w147 => crierref16_Fields_j3 Q b10 b21 J122 p127 l128 c129 s146 w147)
  (J122 (((p71 : Option Addr), (l72 : Nat), (c73 : Nat))) w74))
  fun (s148 : crierref16_Fields_J2047.S) w149 => crierref16_Fields_j2 Q b10 b21 s148.1 s148.2.1 s148.2.2 w149

def crierref16_Fields_j5 (Q : Value → World → Prop) (b10 : Nat) (b21 : Nat) (p64 : Option Addr) (l65 : Nat) (c66 : Nat) (w67 : World) : Prop :=
 JoinT (fun (J150 : crierref16_Fields_J1023.S → World → Prop) =>
  ldI .i64 ⟨b10, 0, none⟩ w67 fun n151 =>
  alc [.int .i64 9, .int .i64 14, .int .i64 5] T.t22 w67 fun b152 w153 =>
  CV P F.crierref16_has [.int .i64 n151, .slice (some ⟨b152, 0, none⟩) 3 3] w153 fun v154 w155 =>
  ∃ b156 : Bool, v154 = .bool b156 ∧
  cnd b156
  (ldI .i64 ⟨b10, 5, none⟩ w155 fun n157 =>
  alc [.int .i64 2, .int .i64 16, .int .i64 16, .int .i64 n157] T.t80 w155 fun b158 w159 =>
  runS P (Builtin.append_ #[T.t76, T.t76] T.t76 [.slice p64 l65 c66, .slice (some ⟨b158, 0, none⟩) 1 1].toArray) w159 fun p160 l161 c162 w163 =>
  st1 (.int .i64 0) ⟨b21, 5, none⟩ w163 fun w164 =>
  J150 (((p160 : Option Addr), (l161 : Nat), (c162 : Nat))) w164)
  (J150 (((p64 : Option Addr), (l65 : Nat), (c66 : Nat))) w155))
  fun (s165 : crierref16_Fields_J1023.S) w166 => crierref16_Fields_j4 Q b10 b21 s165.1 s165.2.1 s165.2.2 w166

def crierref16_Fields_j6 (Q : Value → World → Prop) (b10 : Nat) (b21 : Nat) (p57 : Option Addr) (l58 : Nat) (c59 : Nat) (w60 : World) : Prop :=
 JoinT (fun (J167 : crierref16_Fields_J511.S → World → Prop) =>
  ldI .i64 ⟨b10, 0, none⟩ w60 fun n168 =>
  alc [.int .i64 9, .int .i64 10, .int .i64 11, .int .i64 1, .int .i64 13] T.t22 w60 fun b169 w170 =>
  CV P F.crierref16_has [.int .i64 n168, .slice (some ⟨b169, 0, none⟩) 5 5] w170 fun v171 w172 =>
  ∃ b173 : Bool, v171 = .bool b173 ∧
  cnd b173
  (ldI .i64 ⟨b10, 4, none⟩ w172 fun n174 =>
  alc [.int .i64 2, .int .i64 0, .int .i64 16, .int .i64 n174] T.t80 w172 fun b175 w176 =>
  runS P (Builtin.append_ #[T.t76, T.t76] T.t76 [.slice p57 l58 c59, .slice (some ⟨b175, 0, none⟩) 1 1].toArray) w176 fun p177 l178 c179 w180 =>
  st1 (.int .i64 0) ⟨b21, 4, none⟩ w180 fun w181 =>
  J167 (((p177 : Option Addr), (l178 : Nat), (c179 : Nat))) w181)
  (J167 (((p57 : Option Addr), (l58 : Nat), (c59 : Nat))) w172))
  fun (s182 : crierref16_Fields_J511.S) w183 => crierref16_Fields_j5 Q b10 b21 s182.1 s182.2.1 s182.2.2 w183

def crierref16_Fields_j7 (Q : Value → World → Prop) (b10 : Nat) (b21 : Nat) (p50 : Option Addr) (l51 : Nat) (c52 : Nat) (w53 : World) : Prop :=
 JoinT (fun (J184 : crierref16_Fields_J255.S → World → Prop) =>
  ldI .i64 ⟨b10, 0, none⟩ w53 fun n185 =>
  cnd (n185 == 14)
  (ldI .i64 ⟨b10, 3, none⟩ w53 fun n186 =>
  alc [.int .i64 3, .int .i64 16, .int .i64 16, .int .i64 n186] T.t80 w53 fun b187 w188 =>
  runS P (Builtin.append_ #[T.t76, T.t76] T.t76 [.slice p50 l51 c52, .slice (some ⟨b187, 0, none⟩) 1 1].toArray) w188 fun p189 l190 c191 w192 =>
  st1 (.int .i64 0) ⟨b21, 3, none⟩ w192 fun w193 =>
  J184 (((p189 : Option Addr), (l190 : Nat), (c191 : Nat))) w193)
  (J184 (((p50 : Option Addr), (l51 : Nat), (c52 : Nat))) w53))
  fun (s194 : crierref16_Fields_J255.S) w195 => crierref16_Fields_j6 Q b10 b21 s194.1 s194.2.1 s194.2.2 w195

def crierref16_Fields_j8 (Q : Value → World → Prop) (b10 : Nat) (b21 : Nat) (p43 : Option Addr) (l44 : Nat) (c45 : Nat) (w46 : World) : Prop :=
 JoinT (fun (J196 : crierref16_Fields_J127.S → World → Prop) =>
  ldI .i64 ⟨b10, 0, none⟩ w46 fun n197 =>
  cnd (n197 == 10)
  (ldI .i64 ⟨b10, 3, none⟩ w46 fun n198 =>
  alc [.int .i64 1, .int .i64 32, .int .i64 32, .int .i64 n198] T.t80 w46 fun b199 w200 =>
  runS P (Builtin.append_ #[T.t76, T.t76] T.t76 [.slice p43 l44 c45, .slice (some ⟨b199, 0, none⟩) 1 1].toArray) w200 fun p201 l202 c203 w204 =>
  st1 (.int .i64 0) ⟨b21, 3, none⟩ w204 fun w205 =>
  J196 (((p201 : Option Addr), (l202 : Nat), (c203 : Nat))) w205)
  (J196 (((p43 : Option Addr), (l44 : Nat), (c45 : Nat))) w46))
  fun (s206 : crierref16_Fields_J127.S) w207 => crierref16_Fields_j7 Q b10 b21 s206.1 s206.2.1 s206.2.2 w207

def crierref16_Fields_j9 (Q : Value → World → Prop) (b10 : Nat) (b21 : Nat) (p36 : Option Addr) (l37 : Nat) (c38 : Nat) (w39 : World) : Prop :=
 JoinT (fun (J208 : crierref16_Fields_J63.S → World → Prop) =>
  ldI .i64 ⟨b10, 0, none⟩ w39 fun n209 =>
  alc [.int .i64 10, .int .i64 11, .int .i64 1, .int .i64 3, .int .i64 4, .int .i64 12, .int .i64 15] T.t22 w39 fun b210 w211 =>
  CV P F.crierref16_has [.int .i64 n209, .slice (some ⟨b210, 0, none⟩) 7 7] w211 fun v212 w213 =>
  ∃ b214 : Bool, v212 = .bool b214 ∧
  cnd b214
  (ldI .i64 ⟨b10, 2, none⟩ w213 fun n215 =>
  alc [.int .i64 1, .int .i64 0, .int .i64 32, .int .i64 n215] T.t80 w213 fun b216 w217 =>
  runS P (Builtin.append_ #[T.t76, T.t76] T.t76 [.slice p36 l37 c38, .slice (some ⟨b216, 0, none⟩) 1 1].toArray) w217 fun p218 l219 c220 w221 =>
  st1 (.int .i64 0) ⟨b21, 2, none⟩ w221 fun w222 =>
  J208 (((p218 : Option Addr), (l219 : Nat), (c220 : Nat))) w222)
  (J208 (((p36 : Option Addr), (l37 : Nat), (c38 : Nat))) w213))
  fun (s223 : crierref16_Fields_J63.S) w224 => crierref16_Fields_j8 Q b10 b21 s223.1 s223.2.1 s223.2.2 w224

def crierref16_Fields (a0_0 : Int) (a0_1 : Int) (a0_2 : Int) (a0_3 : Int) (a0_4 : Int) (a0_5 : Int) (a0_6 : Int) (a0_7 : Int) (a0_8 : Bool) (w : World) (Q : Value → World → Prop) : Prop :=
 alc [.int .i64 a0_0, .int .i64 a0_1, .int .i64 a0_2, .int .i64 a0_3, .int .i64 a0_4, .int .i64 a0_5, .int .i64 a0_6, .int .i64 a0_7, .bool a0_8] T.t24 w fun b10 w11 =>
 ldI .i64 ⟨b10, 0, none⟩ w11 fun n12 =>
 ldI .i64 ⟨b10, 1, none⟩ w11 fun n13 =>
 ldI .i64 ⟨b10, 2, none⟩ w11 fun n14 =>
 ldI .i64 ⟨b10, 3, none⟩ w11 fun n15 =>
 ldI .i64 ⟨b10, 4, none⟩ w11 fun n16 =>
 ldI .i64 ⟨b10, 5, none⟩ w11 fun n17 =>
 ldI .i64 ⟨b10, 6, none⟩ w11 fun n18 =>
 ldI .i64 ⟨b10, 7, none⟩ w11 fun n19 =>
 ldB ⟨b10, 8, none⟩ w11 fun b20 =>
 alc [.int .i64 0, .int .i64 0, .int .i64 0, .int .i64 0, .int .i64 0, .int .i64 0, .int .i64 0, .int .i64 0, .bool false] T.t24 w11 fun b21 w22 =>
 st1 (.int .i64 n12) ⟨b21, 0, none⟩ w22 fun w23 =>
 st1 (.int .i64 n13) ⟨b21, 1, none⟩ w23 fun w24 =>
 st1 (.int .i64 n14) ⟨b21, 2, none⟩ w24 fun w25 =>
 st1 (.int .i64 n15) ⟨b21, 3, none⟩ w25 fun w26 =>
 st1 (.int .i64 n16) ⟨b21, 4, none⟩ w26 fun w27 =>
 st1 (.int .i64 n17) ⟨b21, 5, none⟩ w27 fun w28 =>
 st1 (.int .i64 n18) ⟨b21, 6, none⟩ w28 fun w29 =>
 st1 (.int .i64 n19) ⟨b21, 7, none⟩ w29 fun w30 =>
 st1 (.bool b20) ⟨b21, 8, none⟩ w30 fun w31 =>
 st1 (.int .i64 0) ⟨b21, 0, none⟩ w31 fun w32 =>
 JoinT (fun (J225 : crierref16_Fields_J31.S → World → Prop) =>
  ldI .i64 ⟨b10, 0, none⟩ w32 fun n226 =>
  alc [.int .i64 9, .int .i64 13, .int .i64 14, .int .i64 5] T.t22 w32 fun b227 w228 =>
  CV P F.crierref16_has [.int .i64 n226, .slice (some ⟨b227, 0, none⟩) 4 4] w228 fun v229 w230 =>
  ∃ b231 : Bool, v229 = .bool b231 ∧
  cnd (!b231)
  (ldI .i64 ⟨b10, 1, none⟩ w230 fun n232 =>
  alc [.int .i64 0, .int .i64 32, .int .i64 32, .int .i64 n232] T.t80 w230 fun b233 w234 =>
  runS P (Builtin.append_ #[T.t76, T.t76] T.t76 [.slice none 0 0, .slice (some ⟨b233, 0, none⟩) 1 1].toArray) w234 fun p235 l236 c237 w238 =>
  st1 (.int .i64 0) ⟨b21, 1, none⟩ w238 fun w239 =>
  J225 (((p235 : Option Addr), (l236 : Nat), (c237 : Nat))) w239)
  (J225 (((none : Option Addr), (0 : Nat), (0 : Nat))) w230))
  fun (s240 : crierref16_Fields_J31.S) w241 => crierref16_Fields_j9 Q b10 b21 s240.1 s240.2.1 s240.2.2 w241
def crierref16_Fields_ann : Nat → Option LoopSpec := fun
  | 31 => some crierref16_Fields_J31
  | 63 => some crierref16_Fields_J63
  | 127 => some crierref16_Fields_J127
  | 255 => some crierref16_Fields_J255
  | 511 => some crierref16_Fields_J511
  | 1023 => some crierref16_Fields_J1023
  | 2047 => some crierref16_Fields_J2047
  | 4095 => some crierref16_Fields_J4095
  | 16382 => some (ordSpec [0, 1, 2, 3, 4, 5])
  | 8190 => some crierref16_Fields_J8190
  | 131030 => some crierref16_Fields_J131030
  | _ => none
theorem crierref16_Fields_eq (a0_0 : Int) (a0_1 : Int) (a0_2 : Int) (a0_3 : Int) (a0_4 : Int) (a0_5 : Int) (a0_6 : Int) (a0_7 : Int) (a0_8 : Bool) (w : World) (Q : Value → World → Prop) : fnX P crierref16_Fields_ann Tryd.f32 [.agg [.int .i64 a0_0, .int .i64 a0_1, .int .i64 a0_2, .int .i64 a0_3, .int .i64 a0_4, .int .i64 a0_5, .int .i64 a0_6, .int .i64 a0_7, .bool a0_8].toArray] w Q = crierref16_Fields a0_0 a0_1 a0_2 a0_3 a0_4 a0_5 a0_6 a0_7 a0_8 w Q := by kernel_rfl
theorem crierref16_Fields_cv {a0_0 : Int} {a0_1 : Int} {a0_2 : Int} {a0_3 : Int} {a0_4 : Int} {a0_5 : Int} {a0_6 : Int} {a0_7 : Int} {a0_8 : Bool} {w : World} {Q : Value → World → Prop} (h : crierref16_Fields a0_0 a0_1 a0_2 a0_3 a0_4 a0_5 a0_6 a0_7 a0_8 w Q) : CV P F.crierref16_Fields [.agg [.int .i64 a0_0, .int .i64 a0_1, .int .i64 a0_2, .int .i64 a0_3, .int .i64 a0_4, .int .i64 a0_5, .int .i64 a0_6, .int .i64 a0_7, .bool a0_8].toArray] w Q := CV_of mixed Tryd.func32 (crierref16_Fields_eq a0_0 a0_1 a0_2 a0_3 a0_4 a0_5 a0_6 a0_7 a0_8 w Q ▸ h)

/- 33 crier/cmd.put -/
def cmd_put_J3 : LoopSpec where
  S := Unit
  emb := fun _ => []
  ext := fun _ => some ()
  slots := []
  fits := fun _ => rfl
  ok := by
    intro t s h x hx; cases hx

def cmd_put_j0 (Q : Value → World → Prop) (w4 : World) : Prop :=
 Q (.tuple [].toArray) w4

def cmd_put (a0 : Option Addr) (a1 : Int) (a2 : Int) (w : World) (Q : Value → World → Prop) : Prop :=
 JoinT (fun (J5 : cmd_put_J3.S → World → Prop) =>
  cnd (a1 == 0)
  (nn a0 fun a6 =>
  st1 (.int .i64 a2) (a6.add 1) w fun w7 =>
  J5 () w7)
  (cnd (a1 == 1)
  (nn a0 fun a8 =>
  st1 (.int .i64 a2) (a8.add 2) w fun w9 =>
  J5 () w9)
  (cnd (a1 == 2)
  (nn a0 fun a10 =>
  st1 (.int .i64 a2) (a10.add 3) w fun w11 =>
  J5 () w11)
  (cnd (a1 == 3)
  (nn a0 fun a12 =>
  st1 (.int .i64 a2) (a12.add 4) w fun w13 =>
  J5 () w13)
  (cnd (a1 == 4)
  (nn a0 fun a14 =>
  st1 (.int .i64 a2) (a14.add 5) w fun w15 =>
  J5 () w15)
  (cnd (a1 == 5)
  (nn a0 fun a16 =>
  st1 (.int .i64 a2) (a16.add 6) w fun w17 =>
  J5 () w17)
  (cnd (a1 == 6)
  ((nng 8 <|
  nn a0 fun a18 =>
  st1 (.int .i64 (IntKind.i64.wrap (a2 * 2 ^ min (Int.toNat 8) (IntKind.i64.bits)))) (a18.add 7) w fun w19 =>
  J5 () w19))
  (nn a0 fun a20 =>
  st1 (.bool (a2 == 1)) (a20.add 8) w fun w21 =>
  J5 () w21))))))))
  fun (s22 : cmd_put_J3.S) w23 => cmd_put_j0 Q w23
def cmd_put_ann : Nat → Option LoopSpec := fun
  | 3 => some cmd_put_J3
  | _ => none
theorem cmd_put_eq (a0 : Option Addr) (a1 : Int) (a2 : Int) (w : World) (Q : Value → World → Prop) : fnX P cmd_put_ann Tryd.f33 [.pointer a0, .int .i64 a1, .int .i64 a2] w Q = cmd_put a0 a1 a2 w Q := by kernel_rfl
theorem cmd_put_cv {a0 : Option Addr} {a1 : Int} {a2 : Int} {w : World} {Q : Value → World → Prop} (h : cmd_put a0 a1 a2 w Q) : CV P F.cmd_put [.pointer a0, .int .i64 a1, .int .i64 a2] w Q := CV_of mixed Tryd.func33 (cmd_put_eq a0 a1 a2 w Q ▸ h)

/- 34 crier/crierref16.part -/

def crierref16_part (a0 : Int) (a1 : Int) (a2 : Int) (w : World) (Q : Value → World → Prop) : Prop :=
 drw w fun w4 =>
 (nng a1 <|
 (nng a2 <|
 (nz (IntKind.u64.wrap (1 * 2 ^ min (Int.toNat a2) (IntKind.u64.bits))) <|
 Q (.int .i64 (IntKind.i64.wrap ((Int.tmod (Int.fdiv a0 (2 ^ min (Int.toNat a1) (IntKind.u64.bits))) (IntKind.u64.wrap (1 * 2 ^ min (Int.toNat a2) (IntKind.u64.bits))))))) w4)))
def crierref16_part_ann : Nat → Option LoopSpec := fun
  | 6 => some (ordSpec [0, 1, 2, 3, 4, 5, 6, 7])
  | _ => none
theorem crierref16_part_eq (a0 : Int) (a1 : Int) (a2 : Int) (w : World) (Q : Value → World → Prop) : fnX P crierref16_part_ann Tryd.f34 [.int .u64 a0, .int .i64 a1, .int .i64 a2] w Q = crierref16_part a0 a1 a2 w Q := by kernel_rfl
theorem crierref16_part_cv {a0 : Int} {a1 : Int} {a2 : Int} {w : World} {Q : Value → World → Prop} (h : crierref16_part a0 a1 a2 w Q) : CV P F.crierref16_part [.int .u64 a0, .int .i64 a1, .int .i64 a2] w Q := CV_of mixed Tryd.func34 (crierref16_part_eq a0 a1 a2 w Q ▸ h)

/- 35 crier/crierref16.has -/
def crierref16_has_L26 : LoopSpec where
  S := Int
  emb := fun s => [(5, .int .i64 s)]
  ext := fun t => match getL t 5 with
    | some (.int .i64 y5) => some (y5)
    | _ => none
  slots := [5]
  fits := fun _ => rfl
  ok := by
    intro t s h x hx
    (try dsimp only at h hx)
    split at h
    · cases h
      simp only [List.mem_cons, List.not_mem_nil, or_false] at hx
      rcases hx with rfl <;> assumption
    · cases h

def crierref16_has_l0 (a0 : Int) (a1 : Option Addr) (a1_n : Nat) (Q : Value → World → Prop) (n6 : Int) (w7 : World) (A8 : crierref16_has_L26.S → World → Prop) : Prop :=
 cnd (decide (n6 < ((a1_n : Nat) : Int)))
 (ix n6 a1_n fun j9 => nn a1 fun a10 =>
 ldI .i64 (a10.add (j9 * 1)) w7 fun n11 =>
 cnd (n11 == a0)
 (Q (.bool true) w7)
 (A8 (((IntKind.i64.wrap (n6 + 1)) : Int)) w7))
 (Q (.bool false) w7)

def crierref16_has (a0 : Int) (a1 : Option Addr) (a1_n : Nat) (a1_c : Nat) (w : World) (Q : Value → World → Prop) : Prop :=
 LoopT (fun (s12 : crierref16_has_L26.S) w13 A14 => crierref16_has_l0 a0 a1 a1_n Q s12 w13 A14) ((0 : Int)) w
def crierref16_has_ann : Nat → Option LoopSpec := fun
  | 26 => some crierref16_has_L26
  | _ => none
theorem crierref16_has_eq (a0 : Int) (a1 : Option Addr) (a1_n : Nat) (a1_c : Nat) (w : World) (Q : Value → World → Prop) : fnX P crierref16_has_ann Tryd.f35 [.int .i64 a0, .slice a1 a1_n a1_c] w Q = crierref16_has a0 a1 a1_n a1_c w Q := by kernel_rfl
theorem crierref16_has_cv {a0 : Int} {a1 : Option Addr} {a1_n : Nat} {a1_c : Nat} {w : World} {Q : Value → World → Prop} (h : crierref16_has a0 a1 a1_n a1_c w Q) : CV P F.crierref16_has [.int .i64 a0, .slice a1 a1_n a1_c] w Q := CV_of mixed Tryd.func35 (crierref16_has_eq a0 a1 a1_n a1_c w Q ▸ h)

/- 36 crier/cmd.name -/

def cmd_name (a0 : Int) (w : World) (Q : Value → World → Prop) : Prop :=
 cnd (a0 == 1)
 (Q (.string ⟨#[109, 111, 118, 105]⟩) w)
 (cnd (a0 == 3)
 (Q (.string ⟨#[105, 110, 116]⟩) w)
 (cnd (a0 == 4)
 (Q (.string ⟨#[99, 108, 101, 97, 114]⟩) w)
 (cnd (a0 == 5)
 (Q (.string ⟨#[115, 121, 110, 99]⟩) w)
 (cnd (a0 == 8)
 (Q (.string ⟨#[109, 97, 112, 100]⟩) w)
 (cnd (a0 == 9)
 (Q (.string ⟨#[109, 97, 112, 99]⟩) w)
 (cnd (a0 == 10)
 (Q (.string ⟨#[109, 97, 112, 116, 105]⟩) w)
 (cnd (a0 == 11)
 (Q (.string ⟨#[109, 97, 112, 105]⟩) w)
 (cnd (a0 == 12)
 (Q (.string ⟨#[105, 110, 118]⟩) w)
 (cnd (a0 == 13)
 (Q (.string ⟨#[105, 110, 118, 97, 108, 108]⟩) w)
 (cnd (a0 == 14)
 (Q (.string ⟨#[109, 111, 118, 97, 108, 108]⟩) w)
 (Q (.string ⟨#[100, 105, 115, 99, 97, 114, 100]⟩) w)))))))))))
def cmd_name_ann : Nat → Option LoopSpec := fun _ => none
theorem cmd_name_eq (a0 : Int) (w : World) (Q : Value → World → Prop) : fnX P cmd_name_ann Tryd.f36 [.int .i64 a0] w Q = cmd_name a0 w Q := by kernel_rfl
theorem cmd_name_cv {a0 : Int} {w : World} {Q : Value → World → Prop} (h : cmd_name a0 w Q) : CV P F.cmd_name [.int .i64 a0] w Q := CV_of mixed Tryd.func36 (cmd_name_eq a0 w Q ▸ h)

/- 39 crier/mem.New -/
def mem_New_J6 : LoopSpec where
  S := Bool
  emb := fun s => [(9, .bool s)]
  ext := fun t => match getL t 9 with
    | some (.bool y2) => some (y2)
    | _ => none
  slots := [9]
  fits := fun _ => rfl
  ok := by
    intro t s h x hx
    (try dsimp only at h hx)
    split at h
    · cases h
      simp only [List.mem_cons, List.not_mem_nil, or_false] at hx
      rcases hx with rfl <;> assumption
    · cases h

def mem_New_j0 (a0 : Int) (Q : Value → World → Prop) (b3 : Bool) (w4 : World) : Prop :=
 cnd b3
 (Q (.tuple [.pointer none, .int .i64 1].toArray) w4)
 (runS P (Instr.makeSlice T.t52 (.int .i64 a0) (.int .i64 a0)) w4 fun p5 l6 c7 w8 =>
 alc [.slice p5 l6 c7] T.t100 w8 fun b9 w10 =>
 Q (.tuple [.pointer (some ⟨b9, 0, none⟩), .int .i64 0].toArray) w10)

def mem_New (a0 : Int) (w : World) (Q : Value → World → Prop) : Prop :=
 JoinT (fun (J11 : mem_New_J6.S → World → Prop) =>
  cnd (decide (a0 < 0))
  (J11 ((true : Bool)) w)
  (J11 (((decide (a0 > 131072)) : Bool)) w))
  fun (s12 : mem_New_J6.S) w13 => mem_New_j0 a0 Q s12 w13
def mem_New_ann : Nat → Option LoopSpec := fun
  | 6 => some mem_New_J6
  | _ => none
theorem mem_New_eq (a0 : Int) (w : World) (Q : Value → World → Prop) : fnX P mem_New_ann Tryd.f39 [.int .i64 a0] w Q = mem_New a0 w Q := by kernel_rfl
theorem mem_New_cv {a0 : Int} {w : World} {Q : Value → World → Prop} (h : mem_New a0 w Q) : CV P F.mem_New [.int .i64 a0] w Q := CV_of mixed Tryd.func39 (mem_New_eq a0 w Q ▸ h)

/- 40 (*crier/mem.Mem).Write -/
def mem_Mem_Write_L58 : LoopSpec where
  S := Int
  emb := fun s => [(24, .int .i64 s)]
  ext := fun t => match getL t 24 with
    | some (.int .i64 y17) => some (y17)
    | _ => none
  slots := [24]
  fits := fun _ => rfl
  ok := by
    intro t s h x hx
    (try dsimp only at h hx)
    split at h
    · cases h
      simp only [List.mem_cons, List.not_mem_nil, or_false] at hx
      rcases hx with rfl <;> assumption
    · cases h

def mem_Mem_Write_l0 (a4 : Int) (Q : Value → World → Prop) (p13 : Option Addr) (l14 : Nat) (n16 : Int) (n18 : Int) (w19 : World) (A20 : mem_Mem_Write_L58.S → World → Prop) : Prop :=
 cnd (decide (n18 < ((l14 : Nat) : Int)))
 ((nng (IntKind.i64.wrap (8 * n18)) <|
 ix n18 l14 fun j21 => nn p13 fun a22 =>
 st1 (.int .u8 (IntKind.u8.wrap ((Int.fdiv a4 (2 ^ min (Int.toNat (IntKind.i64.wrap (8 * n18))) (IntKind.u64.bits)))))) (a22.add (j21 * 1)) w19 fun w23 =>
 A20 (((IntKind.i64.wrap (n18 + 1)) : Int)) w23))
 (Q (.int .i64 n16) w19)

def mem_Mem_Write (a0 : Option Addr) (a1_0 : Int) (a1_1 : Int) (a2 : Int) (a3 : Int) (a4 : Int) (w : World) (Q : Value → World → Prop) : Prop :=
 alc [.int .i64 a1_0, .int .i64 a1_1] T.t46 w fun b7 w8 =>
 ldI .i64 ⟨b7, 0, none⟩ w8 fun n9 =>
 ldI .i64 ⟨b7, 1, none⟩ w8 fun n10 =>
 CV P F.mem_Mem_part [.pointer a0, .agg [.int .i64 n9, .int .i64 n10].toArray, .int .i64 a2, .int .i64 a3] w8 fun v11 w12 =>
 ∃ (p13 : Option Addr) (l14 c15 : Nat), ∃ n16 : Int, v11 = .tuple [.slice p13 l14 c15, .int .i64 n16].toArray ∧
 LoopT (fun (s24 : mem_Mem_Write_L58.S) w25 A26 => mem_Mem_Write_l0 a4 Q p13 l14 n16 s24 w25 A26) ((0 : Int)) w12
def mem_Mem_Write_ann : Nat → Option LoopSpec := fun
  | 58 => some mem_Mem_Write_L58
  | _ => none
theorem mem_Mem_Write_eq (a0 : Option Addr) (a1_0 : Int) (a1_1 : Int) (a2 : Int) (a3 : Int) (a4 : Int) (w : World) (Q : Value → World → Prop) : fnX P mem_Mem_Write_ann Tryd.f40 [.pointer a0, .agg [.int .i64 a1_0, .int .i64 a1_1].toArray, .int .i64 a2, .int .i64 a3, .int .u64 a4] w Q = mem_Mem_Write a0 a1_0 a1_1 a2 a3 a4 w Q := by kernel_rfl
theorem mem_Mem_Write_cv {a0 : Option Addr} {a1_0 : Int} {a1_1 : Int} {a2 : Int} {a3 : Int} {a4 : Int} {w : World} {Q : Value → World → Prop} (h : mem_Mem_Write a0 a1_0 a1_1 a2 a3 a4 w Q) : CV P F.mem_Mem_Write [.pointer a0, .agg [.int .i64 a1_0, .int .i64 a1_1].toArray, .int .i64 a2, .int .i64 a3, .int .u64 a4] w Q := CV_of mixed Tryd.func40 (mem_Mem_Write_eq a0 a1_0 a1_1 a2 a3 a4 w Q ▸ h)

/- 41 (*crier/mem.Mem).Put -/
def mem_Mem_Put_J6 : LoopSpec where
  S := Bool
  emb := fun s => [(17, .bool s)]
  ext := fun t => match getL t 17 with
    | some (.bool y9) => some (y9)
    | _ => none
  slots := [17]
  fits := fun _ => rfl
  ok := by
    intro t s h x hx
    (try dsimp only at h hx)
    split at h
    · cases h
      simp only [List.mem_cons, List.not_mem_nil, or_false] at hx
      rcases hx with rfl <;> assumption
    · cases h

def mem_Mem_Put_j0 (a0 : Option Addr) (a2 : Option Addr) (a2_n : Nat) (a2_c : Nat) (Q : Value → World → Prop) (b7 : Nat) (b10 : Bool) (w11 : World) : Prop :=
 cnd b10
 (Q (.int .i64 42) w11)
 (drw w11 fun w12 =>
 nn a0 fun a13 =>
 ldL a13 w12 fun p14 l15 c16 =>
 ldI .i64 ⟨b7, 0, none⟩ w12 fun n17 =>
 slL p14 l15 c16 1 (some n17) none none fun p18 l19 c20 =>
 runI P (Builtin.copy_ #[T.t52, T.t52] T.t3 [.slice p18 l19 c20, .slice a2 a2_n a2_c].toArray) w12 fun n21 w22 =>
 Q (.int .i64 0) w22)

def mem_Mem_Put (a0 : Option Addr) (a1_0 : Int) (a1_1 : Int) (a2 : Option Addr) (a2_n : Nat) (a2_c : Nat) (w : World) (Q : Value → World → Prop) : Prop :=
 alc [.int .i64 a1_0, .int .i64 a1_1] T.t46 w fun b7 w8 =>
 JoinT (fun (J23 : mem_Mem_Put_J6.S → World → Prop) =>
  ldI .i64 ⟨b7, 0, none⟩ w8 fun n24 =>
  ldI .i64 ⟨b7, 1, none⟩ w8 fun n25 =>
  CV P F.mem_Mem_Holds [.pointer a0, .agg [.int .i64 n24, .int .i64 n25].toArray] w8 fun v26 w27 =>
  ∃ b28 : Bool, v26 = .bool b28 ∧
  cnd (!b28)
  (J23 ((true : Bool)) w27)
  (ldI .i64 ⟨b7, 1, none⟩ w27 fun n29 =>
  J23 (((decide (((a2_n : Nat) : Int) > n29)) : Bool)) w27))
  fun (s30 : mem_Mem_Put_J6.S) w31 => mem_Mem_Put_j0 a0 a2 a2_n a2_c Q b7 s30 w31
def mem_Mem_Put_ann : Nat → Option LoopSpec := fun
  | 6 => some mem_Mem_Put_J6
  | 14 => some (ordSpec [0, 1, 2, 3, 4, 5, 6, 7, 8])
  | _ => none
theorem mem_Mem_Put_eq (a0 : Option Addr) (a1_0 : Int) (a1_1 : Int) (a2 : Option Addr) (a2_n : Nat) (a2_c : Nat) (w : World) (Q : Value → World → Prop) : fnX P mem_Mem_Put_ann Tryd.f41 [.pointer a0, .agg [.int .i64 a1_0, .int .i64 a1_1].toArray, .slice a2 a2_n a2_c] w Q = mem_Mem_Put a0 a1_0 a1_1 a2 a2_n a2_c w Q := by kernel_rfl
theorem mem_Mem_Put_cv {a0 : Option Addr} {a1_0 : Int} {a1_1 : Int} {a2 : Option Addr} {a2_n : Nat} {a2_c : Nat} {w : World} {Q : Value → World → Prop} (h : mem_Mem_Put a0 a1_0 a1_1 a2 a2_n a2_c w Q) : CV P F.mem_Mem_Put [.pointer a0, .agg [.int .i64 a1_0, .int .i64 a1_1].toArray, .slice a2 a2_n a2_c] w Q := CV_of mixed Tryd.func41 (mem_Mem_Put_eq a0 a1_0 a1_1 a2 a2_n a2_c w Q ▸ h)

/- 42 (*crier/mem.Mem).Wipe -/

def mem_Mem_Wipe (a0 : Option Addr) (a1_0 : Int) (a1_1 : Int) (w : World) (Q : Value → World → Prop) : Prop :=
 alc [.int .i64 a1_0, .int .i64 a1_1] T.t46 w fun b4 w5 =>
 ldI .i64 ⟨b4, 0, none⟩ w5 fun n6 =>
 ldI .i64 ⟨b4, 1, none⟩ w5 fun n7 =>
 CV P F.mem_Mem_Holds [.pointer a0, .agg [.int .i64 n6, .int .i64 n7].toArray] w5 fun v8 w9 =>
 ∃ b10 : Bool, v8 = .bool b10 ∧
 cnd (!b10)
 (Q (.int .i64 42) w9)
 (drw w9 fun w11 =>
 nn a0 fun a12 =>
 ldL a12 w11 fun p13 l14 c15 =>
 ldI .i64 ⟨b4, 0, none⟩ w11 fun n16 =>
 ldI .i64 ⟨b4, 0, none⟩ w11 fun n17 =>
 ldI .i64 ⟨b4, 1, none⟩ w11 fun n18 =>
 slL p13 l14 c15 1 (some n16) (some (IntKind.i64.wrap (n17 + n18))) none fun p19 l20 c21 =>
 runV P (Builtin.clear_ #[T.t52] T.t0 [.slice p19 l20 c21].toArray) w11 fun v22 w23 => v22 = undef ∧
 Q (.int .i64 0) w23)
def mem_Mem_Wipe_ann : Nat → Option LoopSpec := fun
  | 14 => some (ordSpec [0, 1, 2, 3, 4, 5, 6, 7, 8, 9, 10, 11, 12])
  | _ => none
theorem mem_Mem_Wipe_eq (a0 : Option Addr) (a1_0 : Int) (a1_1 : Int) (w : World) (Q : Value → World → Prop) : fnX P mem_Mem_Wipe_ann Tryd.f42 [.pointer a0, .agg [.int .i64 a1_0, .int .i64 a1_1].toArray] w Q = mem_Mem_Wipe a0 a1_0 a1_1 w Q := by kernel_rfl
theorem mem_Mem_Wipe_cv {a0 : Option Addr} {a1_0 : Int} {a1_1 : Int} {w : World} {Q : Value → World → Prop} (h : mem_Mem_Wipe a0 a1_0 a1_1 w Q) : CV P F.mem_Mem_Wipe [.pointer a0, .agg [.int .i64 a1_0, .int .i64 a1_1].toArray] w Q := CV_of mixed Tryd.func42 (mem_Mem_Wipe_eq a0 a1_0 a1_1 w Q ▸ h)

/- 43 (*crier/mem.Mem).Holds -/
def mem_Mem_Holds_J3 : LoopSpec where
  S := Bool
  emb := fun s => [(4, .bool s)]
  ext := fun t => match getL t 4 with
    | some (.bool y6) => some (y6)
    | _ => none
  slots := [4]
  fits := fun _ => rfl
  ok := by
    intro t s h x hx
    (try dsimp only at h hx)
    split at h
    · cases h
      simp only [List.mem_cons, List.not_mem_nil, or_false] at hx
      rcases hx with rfl <;> assumption
    · cases h

def mem_Mem_Holds_j0 (Q : Value → World → Prop) (b7 : Bool) (w8 : World) : Prop :=
 Q (.bool b7) w8

def mem_Mem_Holds (a0 : Option Addr) (a1_0 : Int) (a1_1 : Int) (w : World) (Q : Value → World → Prop) : Prop :=
 alc [.int .i64 a1_0, .int .i64 a1_1] T.t46 w fun b4 w5 =>
 JoinT (fun (J9 : mem_Mem_Holds_J3.S → World → Prop) =>
  drw w5 fun w10 =>
  ldI .i64 ⟨b4, 0, none⟩ w10 fun n11 =>
  cnd (decide (n11 ≥ 0))
  (ldI .i64 ⟨b4, 1, none⟩ w10 fun n12 =>
  cnd (decide (n12 ≥ 0))
  (ldI .i64 ⟨b4, 1, none⟩ w10 fun n13 =>
  nn a0 fun a14 =>
  ldL a14 w10 fun p15 l16 c17 =>
  cnd (decide (n13 ≤ ((l16 : Nat) : Int)))
  (ldI .i64 ⟨b4, 0, none⟩ w10 fun n18 =>
  nn a0 fun a19 =>
  ldL a19 w10 fun p20 l21 c22 =>
  ldI .i64 ⟨b4, 1, none⟩ w10 fun n23 =>
  J9 (((decide (n18 ≤ (IntKind.i64.wrap (((l21 : Nat) : Int) - n23)))) : Bool)) w10)
  (J9 ((false : Bool)) w10))
  (J9 ((false : Bool)) w10))
  (J9 ((false : Bool)) w10))
  fun (s24 : mem_Mem_Holds_J3.S) w25 => mem_Mem_Holds_j0 Q s24 w25
def mem_Mem_Holds_ann : Nat → Option LoopSpec := fun
  | 3 => some mem_Mem_Holds_J3
  | 6 => some (ordSpec [0, 1, 2, 3, 4, 5, 6, 7, 8, 9, 10, 11, 12, 13, 14, 15, 16, 17, 18, 19, 20, 21, 22, 23, 24, 25, 26, 27, 28, 29, 30, 31])
  | _ => none
theorem mem_Mem_Holds_eq (a0 : Option Addr) (a1_0 : Int) (a1_1 : Int) (w : World) (Q : Value → World → Prop) : fnX P mem_Mem_Holds_ann Tryd.f43 [.pointer a0, .agg [.int .i64 a1_0, .int .i64 a1_1].toArray] w Q = mem_Mem_Holds a0 a1_0 a1_1 w Q := by kernel_rfl
theorem mem_Mem_Holds_cv {a0 : Option Addr} {a1_0 : Int} {a1_1 : Int} {w : World} {Q : Value → World → Prop} (h : mem_Mem_Holds a0 a1_0 a1_1 w Q) : CV P F.mem_Mem_Holds [.pointer a0, .agg [.int .i64 a1_0, .int .i64 a1_1].toArray] w Q := CV_of mixed Tryd.func43 (mem_Mem_Holds_eq a0 a1_0 a1_1 w Q ▸ h)

/- 44 slices.Clone[[]byte,byte] -/

def slices_Clone__byte_byte (a0 : Option Addr) (a0_n : Nat) (a0_c : Nat) (w : World) (Q : Value → World → Prop) : Prop :=
 cnd (Option.isNone a0)
 (Q (.slice none 0 0) w)
 (alc [] T.t5 w fun b4 w5 =>
 runS P (Builtin.append_ #[T.t52, T.t52] T.t52 [.slice (some ⟨b4, 0, none⟩) 0 0, .slice a0 a0_n a0_c].toArray) w5 fun p6 l7 c8 w9 =>
 Q (.slice p6 l7 c8) w9)
def slices_Clone__byte_byte_ann : Nat → Option LoopSpec := fun _ => none
theorem slices_Clone__byte_byte_eq (a0 : Option Addr) (a0_n : Nat) (a0_c : Nat) (w : World) (Q : Value → World → Prop) : fnX P slices_Clone__byte_byte_ann Tryd.f44 [.slice a0 a0_n a0_c] w Q = slices_Clone__byte_byte a0 a0_n a0_c w Q := by kernel_rfl
theorem slices_Clone__byte_byte_cv {a0 : Option Addr} {a0_n : Nat} {a0_c : Nat} {w : World} {Q : Value → World → Prop} (h : slices_Clone__byte_byte a0 a0_n a0_c w Q) : CV P F.slices_Clone__byte_byte [.slice a0 a0_n a0_c] w Q := CV_of mixed Tryd.func44 (slices_Clone__byte_byte_eq a0 a0_n a0_c w Q ▸ h)

/- 45 crier/mem.May -/
def mem_May_J12 : LoopSpec where
  S := Bool
  emb := fun s => [(7, .bool s)]
  ext := fun t => match getL t 7 with
    | some (.bool y4) => some (y4)
    | _ => none
  slots := [7]
  fits := fun _ => rfl
  ok := by
    intro t s h x hx
    (try dsimp only at h hx)
    split at h
    · cases h
      simp only [List.mem_cons, List.not_mem_nil, or_false] at hx
      rcases hx with rfl <;> assumption
    · cases h

def mem_May_J207 : LoopSpec where
  S := Bool
  emb := fun s => [(23, .bool s)]
  ext := fun t => match getL t 23 with
    | some (.bool y7) => some (y7)
    | _ => none
  slots := [23]
  fits := fun _ => rfl
  ok := by
    intro t s h x hx
    (try dsimp only at h hx)
    split at h
    · cases h
      simp only [List.mem_cons, List.not_mem_nil, or_false] at hx
      rcases hx with rfl <;> assumption
    · cases h

def mem_May_j0 (Q : Value → World → Prop) (b8 : Bool) (w9 : World) : Prop :=
 cnd b8
 (Q (.int .i64 42) w9)
 (Q (.int .i64 0) w9)

def mem_May_j1 (a0 : Int) (a1 : Int) (a2 : Int) (Q : Value → World → Prop) (b5 : Bool) (w6 : World) : Prop :=
 cnd b5
 (Q (.int .i64 40) w6)
 ((nz a2 <|
 cnd ((Int.tmod a1 a2) != 0)
 (Q (.int .i64 41) w6)
 (JoinT (fun (J10 : mem_May_J207.S → World → Prop) =>
  cnd (decide (a1 < 0))
  (J10 ((true : Bool)) w6)
  (J10 (((decide (a1 > (IntKind.i64.wrap (a0 - a2)))) : Bool)) w6))
  fun (s11 : mem_May_J207.S) w12 => mem_May_j0 Q s11 w12)))

def mem_May (a0 : Int) (a1 : Int) (a2 : Int) (w : World) (Q : Value → World → Prop) : Prop :=
 JoinT (fun (J13 : mem_May_J12.S → World → Prop) =>
  cnd (a2 != 1)
  (cnd (a2 != 4)
  (J13 (((a2 != 8) : Bool)) w)
  (J13 ((false : Bool)) w))
  (J13 ((false : Bool)) w))
  fun (s14 : mem_May_J12.S) w15 => mem_May_j1 a0 a1 a2 Q s14 w15
def mem_May_ann : Nat → Option LoopSpec := fun
  | 12 => some mem_May_J12
  | 207 => some mem_May_J207
  | _ => none
theorem mem_May_eq (a0 : Int) (a1 : Int) (a2 : Int) (w : World) (Q : Value → World → Prop) : fnX P mem_May_ann Tryd.f45 [.int .i64 a0, .int .i64 a1, .int .i64 a2] w Q = mem_May a0 a1 a2 w Q := by kernel_rfl
theorem mem_May_cv {a0 : Int} {a1 : Int} {a2 : Int} {w : World} {Q : Value → World → Prop} (h : mem_May a0 a1 a2 w Q) : CV P F.mem_May [.int .i64 a0, .int .i64 a1, .int .i64 a2] w Q := CV_of mixed Tryd.func45 (mem_May_eq a0 a1 a2 w Q ▸ h)

/- 46 (*crier/crierref04.Mem).Write -/
def crierref04_Mem_Write_L250 : LoopSpec where
  S := Int × Int
  emb := fun s => [(4, .int .u64 s.1), (12, .int .i64 s.2)]
  ext := fun t => match getL t 4, getL t 12 with
    | some (.int .u64 y18), some (.int .i64 y19) => some (y18, y19)
    | _, _ => none
  slots := [4, 12]
  fits := fun _ => rfl
  ok := by
    intro t s h x hx
    (try dsimp only at h hx)
    split at h
    · cases h
      simp only [List.mem_cons, List.not_mem_nil, or_false] at hx
      rcases hx with rfl | rfl <;> assumption
    · cases h

def crierref04_Mem_Write_l0 (a0 : Option Addr) (a2 : Int) (a3 : Int) (Q : Value → World → Prop) (b7 : Nat) (n20 : Int) (n21 : Int) (w22 : World) (A23 : crierref04_Mem_Write_L250.S → World → Prop) : Prop :=
 cnd (decide (n21 < a3))
 (drw w22 fun w24 =>
 nn a0 fun a25 =>
 ldL a25 w24 fun p26 l27 c28 =>
 ldI .i64 ⟨b7, 0, none⟩ w24 fun n29 =>
 (nz 256 <|
 ix (IntKind.i64.wrap ((IntKind.i64.wrap (n29 + a2)) + n21)) l27 fun j30 => nn p26 fun a31 =>
 st1 (.int .u8 (IntKind.u8.wrap ((Int.tmod n20 256)))) (a31.add (j30 * 1)) w24 fun w32 =>
 (nz 256 <|
 A23 (((IntKind.u64.wrap (Int.tdiv n20 256)) : Int), ((IntKind.i64.wrap (n21 + 1)) : Int)) w32)))
 (Q (.int .i64 0) w22)

def crierref04_Mem_Write (a0 : Option Addr) (a1_0 : Int) (a1_1 : Int) (a2 : Int) (a3 : Int) (a4 : Int) (w : World) (Q : Value → World → Prop) : Prop :=
 alc [.int .i64 a1_0, .int .i64 a1_1] T.t46 w fun b7 w8 =>
 ldI .i64 ⟨b7, 0, none⟩ w8 fun n9 =>
 ldI .i64 ⟨b7, 1, none⟩ w8 fun n10 =>
 CV P F.crierref04_Mem_Holds [.pointer a0, .agg [.int .i64 n9, .int .i64 n10].toArray] w8 fun v11 w12 =>
 ∃ b13 : Bool, v11 = .bool b13 ∧
 cnd (!b13)
 (Q (.int .i64 42) w12)
 (ldI .i64 ⟨b7, 1, none⟩ w12 fun n14 =>
 CV P F.crierref04_May [.int .i64 n14, .int .i64 a2, .int .i64 a3] w12 fun v15 w16 =>
 ∃ n17 : Int, v15 = .int .i64 n17 ∧
 cnd (n17 != 0)
 (Q (.int .i64 n17) w16)
 (LoopT (fun (s33 : crierref04_Mem_Write_L250.S) w34 A35 => crierref04_Mem_Write_l0 a0 a2 a3 Q b7 s33.1 s33.2 w34 A35) ((a4 : Int), (0 : Int)) w16))
def crierref04_Mem_Write_ann : Nat → Option LoopSpec := fun
  | 250 => some crierref04_Mem_Write_L250
  | 8008 => some (ordSpec [0, 1, 2, 3, 4, 5, 6, 7, 8, 9, 10, 11, 12, 13, 14])
  | _ => none
theorem crierref04_Mem_Write_eq (a0 : Option Addr) (a1_0 : Int) (a1_1 : Int) (a2 : Int) (a3 : Int) (a4 : Int) (w : World) (Q : Value → World → Prop) : fnX P crierref04_Mem_Write_ann Tryd.f46 [.pointer a0, .agg [.int .i64 a1_0, .int .i64 a1_1].toArray, .int .i64 a2, .int .i64 a3, .int .u64 a4] w Q = crierref04_Mem_Write a0 a1_0 a1_1 a2 a3 a4 w Q := by kernel_rfl
theorem crierref04_Mem_Write_cv {a0 : Option Addr} {a1_0 : Int} {a1_1 : Int} {a2 : Int} {a3 : Int} {a4 : Int} {w : World} {Q : Value → World → Prop} (h : crierref04_Mem_Write a0 a1_0 a1_1 a2 a3 a4 w Q) : CV P F.crierref04_Mem_Write [.pointer a0, .agg [.int .i64 a1_0, .int .i64 a1_1].toArray, .int .i64 a2, .int .i64 a3, .int .u64 a4] w Q := CV_of mixed Tryd.func46 (crierref04_Mem_Write_eq a0 a1_0 a1_1 a2 a3 a4 w Q ▸ h)

/- 47 (*crier/crierref04.Mem).Put -/
def crierref04_Mem_Put_J6 : LoopSpec where
  S := Bool
  emb := fun s => [(18, .bool s)]
  ext := fun t => match getL t 18 with
    | some (.bool y9) => some (y9)
    | _ => none
  slots := [18]
  fits := fun _ => rfl
  ok := by
    intro t s h x hx
    (try dsimp only at h hx)
    split at h
    · cases h
      simp only [List.mem_cons, List.not_mem_nil, or_false] at hx
      rcases hx with rfl <;> assumption
    · cases h

def crierref04_Mem_Put_L58 : LoopSpec where
  S := Int
  emb := fun s => [(7, .int .i64 s)]
  ext := fun t => match getL t 7 with
    | some (.int .i64 y12) => some (y12)
    | _ => none
  slots := [7]
  fits := fun _ => rfl
  ok := by
    intro t s h x hx
    (try dsimp only at h hx)
    split at h
    · cases h
      simp only [List.mem_cons, List.not_mem_nil, or_false] at hx
      rcases hx with rfl <;> assumption
    · cases h

def crierref04_Mem_Put_l0 (a0 : Option Addr) (a2 : Option Addr) (a2_n : Nat) (Q : Value → World → Prop) (b7 : Nat) (n13 : Int) (w14 : World) (A15 : crierref04_Mem_Put_L58.S → World → Prop) : Prop :=
 cnd (decide (n13 < ((a2_n : Nat) : Int)))
 (drw w14 fun w16 =>
 nn a0 fun a17 =>
 ldL a17 w16 fun p18 l19 c20 =>
 ldI .i64 ⟨b7, 0, none⟩ w16 fun n21 =>
 ix n13 a2_n fun j22 => nn a2 fun a23 =>
 ldI .u8 (a23.add (j22 * 1)) w16 fun n24 =>
 ix (IntKind.i64.wrap (n21 + n13)) l19 fun j25 => nn p18 fun a26 =>
 st1 (.int .u8 n24) (a26.add (j25 * 1)) w16 fun w27 =>
 A15 (((IntKind.i64.wrap (n13 + 1)) : Int)) w27)
 (Q (.int .i64 0) w14)

def crierref04_Mem_Put_j1 (a0 : Option Addr) (a2 : Option Addr) (a2_n : Nat) (Q : Value → World → Prop) (b7 : Nat) (b10 : Bool) (w11 : World) : Prop :=
 cnd b10
 (Q (.int .i64 42) w11)
 (LoopT (fun (s28 : crierref04_Mem_Put_L58.S) w29 A30 => crierref04_Mem_Put_l0 a0 a2 a2_n Q b7 s28 w29 A30) ((0 : Int)) w11)

def crierref04_Mem_Put (a0 : Option Addr) (a1_0 : Int) (a1_1 : Int) (a2 : Option Addr) (a2_n : Nat) (a2_c : Nat) (w : World) (Q : Value → World → Prop) : Prop :=
 alc [.int .i64 a1_0, .int .i64 a1_1] T.t46 w fun b7 w8 =>
 JoinT (fun (J31 : crierref04_Mem_Put_J6.S → World → Prop) =>
  ldI .i64 ⟨b7, 0, none⟩ w8 fun n32 =>
  ldI .i64 ⟨b7, 1, none⟩ w8 fun n33 =>
  CV P F.crierref04_Mem_Holds [.pointer a0, .agg [.int .i64 n32, .int .i64 n33].toArray] w8 fun v34 w35 =>
  ∃ b36 : Bool, v34 = .bool b36 ∧
  cnd (!b36)
  (J31 ((true : Bool)) w35)
  (ldI .i64 ⟨b7, 1, none⟩ w35 fun n37 =>
  J31 (((decide (((a2_n : Nat) : Int) > n37)) : Bool)) w35))
  fun (s38 : crierref04_Mem_Put_J6.S) w39 => crierref04_Mem_Put_j1 a0 a2 a2_n Q b7 s38 w39
def crierref04_Mem_Put_ann : Nat → Option LoopSpec := fun
  | 6 => some crierref04_Mem_Put_J6
  | 58 => some crierref04_Mem_Put_L58
  | 932 => some (ordSpec [0, 1, 2, 3, 4, 5, 6, 7, 8, 9, 10, 11, 12, 13])
  | _ => none
theorem crierref04_Mem_Put_eq (a0 : Option Addr) (a1_0 : Int) (a1_1 : Int) (a2 : Option Addr) (a2_n : Nat) (a2_c : Nat) (w : World) (Q : Value → World → Prop) : fnX P crierref04_Mem_Put_ann Tryd.f47 [.pointer a0, .agg [.int .i64 a1_0, .int .i64 a1_1].toArray, .slice a2 a2_n a2_c] w Q = crierref04_Mem_Put a0 a1_0 a1_1 a2 a2_n a2_c w Q := by kernel_rfl
theorem crierref04_Mem_Put_cv {a0 : Option Addr} {a1_0 : Int} {a1_1 : Int} {a2 : Option Addr} {a2_n : Nat} {a2_c : Nat} {w : World} {Q : Value → World → Prop} (h : crierref04_Mem_Put a0 a1_0 a1_1 a2 a2_n a2_c w Q) : CV P F.crierref04_Mem_Put [.pointer a0, .agg [.int .i64 a1_0, .int .i64 a1_1].toArray, .slice a2 a2_n a2_c] w Q := CV_of mixed Tryd.func47 (crierref04_Mem_Put_eq a0 a1_0 a1_1 a2 a2_n a2_c w Q ▸ h)

/- 48 (*crier/crierref04.Mem).Wipe -/
def crierref04_Mem_Wipe_L58 : LoopSpec where
  S := Int
  emb := fun s => [(5, .int .i64 s)]
  ext := fun t => match getL t 5 with
    | some (.int .i64 y11) => some (y11)
    | _ => none
  slots := [5]
  fits := fun _ => rfl
  ok := by
    intro t s h x hx
    (try dsimp only at h hx)
    split at h
    · cases h
      simp only [List.mem_cons, List.not_mem_nil, or_false] at hx
      rcases hx with rfl <;> assumption
    · cases h

def crierref04_Mem_Wipe_l0 (a0 : Option Addr) (Q : Value → World → Prop) (b4 : Nat) (n12 : Int) (w13 : World) (A14 : crierref04_Mem_Wipe_L58.S → World → Prop) : Prop :=
 ldI .i64 ⟨b4, 1, none⟩ w13 fun n15 =>
 cnd (decide (n12 < n15))
 (drw w13 fun w16 =>
 nn a0 fun a17 =>
 ldL a17 w16 fun p18 l19 c20 =>
 ldI .i64 ⟨b4, 0, none⟩ w16 fun n21 =>
 ix (IntKind.i64.wrap (n21 + n12)) l19 fun j22 => nn p18 fun a23 =>
 st1 (.int .u8 0) (a23.add (j22 * 1)) w16 fun w24 =>
 A14 (((IntKind.i64.wrap (n12 + 1)) : Int)) w24)
 (Q (.int .i64 0) w13)

def crierref04_Mem_Wipe (a0 : Option Addr) (a1_0 : Int) (a1_1 : Int) (w : World) (Q : Value → World → Prop) : Prop :=
 alc [.int .i64 a1_0, .int .i64 a1_1] T.t46 w fun b4 w5 =>
 ldI .i64 ⟨b4, 0, none⟩ w5 fun n6 =>
 ldI .i64 ⟨b4, 1, none⟩ w5 fun n7 =>
 CV P F.crierref04_Mem_Holds [.pointer a0, .agg [.int .i64 n6, .int .i64 n7].toArray] w5 fun v8 w9 =>
 ∃ b10 : Bool, v8 = .bool b10 ∧
 cnd (!b10)
 (Q (.int .i64 42) w9)
 (LoopT (fun (s25 : crierref04_Mem_Wipe_L58.S) w26 A27 => crierref04_Mem_Wipe_l0 a0 Q b4 s25 w26 A27) ((0 : Int)) w9)
def crierref04_Mem_Wipe_ann : Nat → Option LoopSpec := fun
  | 58 => some crierref04_Mem_Wipe_L58
  | 932 => some (ordSpec [0, 1, 2, 3, 4, 5, 6, 7, 8, 9])
  | _ => none
theorem crierref04_Mem_Wipe_eq (a0 : Option Addr) (a1_0 : Int) (a1_1 : Int) (w : World) (Q : Value → World → Prop) : fnX P crierref04_Mem_Wipe_ann Tryd.f48 [.pointer a0, .agg [.int .i64 a1_0, .int .i64 a1_1].toArray] w Q = crierref04_Mem_Wipe a0 a1_0 a1_1 w Q := by kernel_rfl
theorem crierref04_Mem_Wipe_cv {a0 : Option Addr} {a1_0 : Int} {a1_1 : Int} {w : World} {Q : Value → World → Prop} (h : crierref04_Mem_Wipe a0 a1_0 a1_1 w Q) : CV P F.crierref04_Mem_Wipe [.pointer a0, .agg [.int .i64 a1_0, .int .i64 a1_1].toArray] w Q := CV_of mixed Tryd.func48 (crierref04_Mem_Wipe_eq a0 a1_0 a1_1 w Q ▸ h)

/- 49 (*crier/crierref04.Mem).Holds -/
def crierref04_Mem_Holds_J3 : LoopSpec where
  S := Bool
  emb := fun s => [(4, .bool s)]
  ext := fun t => match getL t 4 with
    | some (.bool y6) => some (y6)
    | _ => none
  slots := [4]
  fits := fun _ => rfl
  ok := by
    intro t s h x hx
    (try dsimp only at h hx)
    split at h
    · cases h
      simp only [List.mem_cons, List.not_mem_nil, or_false] at hx
      rcases hx with rfl <;> assumption
    · cases h

def crierref04_Mem_Holds_j0 (Q : Value → World → Prop) (b7 : Bool) (w8 : World) : Prop :=
 Q (.bool b7) w8

def crierref04_Mem_Holds (a0 : Option Addr) (a1_0 : Int) (a1_1 : Int) (w : World) (Q : Value → World → Prop) : Prop :=
 alc [.int .i64 a1_0, .int .i64 a1_1] T.t46 w fun b4 w5 =>
 JoinT (fun (J9 : crierref04_Mem_Holds_J3.S → World → Prop) =>
  drw w5 fun w10 =>
  ldI .i64 ⟨b4, 0, none⟩ w10 fun n11 =>
  cnd (decide (n11 ≥ 0))
  (ldI .i64 ⟨b4, 1, none⟩ w10 fun n12 =>
  cnd (decide (n12 ≥ 0))
  (ldI .i64 ⟨b4, 1, none⟩ w10 fun n13 =>
  nn a0 fun a14 =>
  ldL a14 w10 fun p15 l16 c17 =>
  cnd (decide (n13 ≤ ((l16 : Nat) : Int)))
  (ldI .i64 ⟨b4, 0, none⟩ w10 fun n18 =>
  nn a0 fun a19 =>
  ldL a19 w10 fun p20 l21 c22 =>
  ldI .i64 ⟨b4, 1, none⟩ w10 fun n23 =>
  J9 (((decide (n18 ≤ (IntKind.i64.wrap (((l21 : Nat) : Int) - n23)))) : Bool)) w10)
  (J9 ((false : Bool)) w10))
  (J9 ((false : Bool)) w10))
  (J9 ((false : Bool)) w10))
  fun (s24 : crierref04_Mem_Holds_J3.S) w25 => crierref04_Mem_Holds_j0 Q s24 w25
def crierref04_Mem_Holds_ann : Nat → Option LoopSpec := fun
  | 3 => some crierref04_Mem_Holds_J3
  | 6 => some (ordSpec [0, 1, 2, 3, 4, 5, 6, 7, 8, 9, 10, 11, 12, 13, 14, 15, 16, 17, 18, 19, 20, 21, 22, 23, 24, 25, 26, 27, 28, 29, 30, 31])
  | _ => none
theorem crierref04_Mem_Holds_eq (a0 : Option Addr) (a1_0 : Int) (a1_1 : Int) (w : World) (Q : Value → World → Prop) : fnX P crierref04_Mem_Holds_ann Tryd.f49 [.pointer a0, .agg [.int .i64 a1_0, .int .i64 a1_1].toArray] w Q = crierref04_Mem_Holds a0 a1_0 a1_1 w Q := by kernel_rfl
theorem crierref04_Mem_Holds_cv {a0 : Option Addr} {a1_0 : Int} {a1_1 : Int} {w : World} {Q : Value → World → Prop} (h : crierref04_Mem_Holds a0 a1_0 a1_1 w Q) : CV P F.crierref04_Mem_Holds [.pointer a0, .agg [.int .i64 a1_0, .int .i64 a1_1].toArray] w Q := CV_of mixed Tryd.func49 (crierref04_Mem_Holds_eq a0 a1_0 a1_1 w Q ▸ h)

/- 50 (*crier/mem.Mem).Size -/

def mem_Mem_Size (a0 : Option Addr) (w : World) (Q : Value → World → Prop) : Prop :=
 nn a0 fun a2 =>
 ldL a2 w fun p3 l4 c5 =>
 Q (.int .i64 ((l4 : Nat) : Int)) w
def mem_Mem_Size_ann : Nat → Option LoopSpec := fun _ => none
theorem mem_Mem_Size_eq (a0 : Option Addr) (w : World) (Q : Value → World → Prop) : fnX P mem_Mem_Size_ann Tryd.f50 [.pointer a0] w Q = mem_Mem_Size a0 w Q := by kernel_rfl
theorem mem_Mem_Size_cv {a0 : Option Addr} {w : World} {Q : Value → World → Prop} (h : mem_Mem_Size a0 w Q) : CV P F.mem_Mem_Size [.pointer a0] w Q := CV_of mixed Tryd.func50 (mem_Mem_Size_eq a0 w Q ▸ h)

/- 51 (*crier/mem.Mem).Read -/
def mem_Mem_Read_L122 : LoopSpec where
  S := Int × Int
  emb := fun s => [(12, .int .u64 s.1), (25, .int .i64 s.2)]
  ext := fun t => match getL t 12, getL t 25 with
    | some (.int .u64 y16), some (.int .i64 y17) => some (y16, y17)
    | _, _ => none
  slots := [12, 25]
  fits := fun _ => rfl
  ok := by
    intro t s h x hx
    (try dsimp only at h hx)
    split at h
    · cases h
      simp only [List.mem_cons, List.not_mem_nil, or_false] at hx
      rcases hx with rfl | rfl <;> assumption
    · cases h

def mem_Mem_Read_l0 (Q : Value → World → Prop) (p12 : Option Addr) (l13 : Nat) (n15 : Int) (n18 : Int) (n19 : Int) (w20 : World) (A21 : mem_Mem_Read_L122.S → World → Prop) : Prop :=
 cnd (decide (n19 < ((l13 : Nat) : Int)))
 (ix n19 l13 fun j22 => nn p12 fun a23 =>
 ldI .u8 (a23.add (j22 * 1)) w20 fun n24 =>
 (nng (IntKind.i64.wrap (8 * n19)) <|
 A21 (((bitX .or .u64 n18 (IntKind.u64.wrap ((IntKind.u64.wrap (n24)) * 2 ^ min (Int.toNat (IntKind.i64.wrap (8 * n19))) (IntKind.u64.bits)))) : Int), ((IntKind.i64.wrap (n19 + 1)) : Int)) w20))
 (Q (.tuple [.int .u64 n18, .int .i64 n15].toArray) w20)

def mem_Mem_Read (a0 : Option Addr) (a1_0 : Int) (a1_1 : Int) (a2 : Int) (a3 : Int) (w : World) (Q : Value → World → Prop) : Prop :=
 alc [.int .i64 a1_0, .int .i64 a1_1] T.t46 w fun b6 w7 =>
 ldI .i64 ⟨b6, 0, none⟩ w7 fun n8 =>
 ldI .i64 ⟨b6, 1, none⟩ w7 fun n9 =>
 CV P F.mem_Mem_part [.pointer a0, .agg [.int .i64 n8, .int .i64 n9].toArray, .int .i64 a2, .int .i64 a3] w7 fun v10 w11 =>
 ∃ (p12 : Option Addr) (l13 c14 : Nat), ∃ n15 : Int, v10 = .tuple [.slice p12 l13 c14, .int .i64 n15].toArray ∧
 LoopT (fun (s25 : mem_Mem_Read_L122.S) w26 A27 => mem_Mem_Read_l0 Q p12 l13 n15 s25.1 s25.2 w26 A27) ((0 : Int), (0 : Int)) w11
def mem_Mem_Read_ann : Nat → Option LoopSpec := fun
  | 122 => some mem_Mem_Read_L122
  | _ => none
theorem mem_Mem_Read_eq (a0 : Option Addr) (a1_0 : Int) (a1_1 : Int) (a2 : Int) (a3 : Int) (w : World) (Q : Value → World → Prop) : fnX P mem_Mem_Read_ann Tryd.f51 [.pointer a0, .agg [.int .i64 a1_0, .int .i64 a1_1].toArray, .int .i64 a2, .int .i64 a3] w Q = mem_Mem_Read a0 a1_0 a1_1 a2 a3 w Q := by kernel_rfl
theorem mem_Mem_Read_cv {a0 : Option Addr} {a1_0 : Int} {a1_1 : Int} {a2 : Int} {a3 : Int} {w : World} {Q : Value → World → Prop} (h : mem_Mem_Read a0 a1_0 a1_1 a2 a3 w Q) : CV P F.mem_Mem_Read [.pointer a0, .agg [.int .i64 a1_0, .int .i64 a1_1].toArray, .int .i64 a2, .int .i64 a3] w Q := CV_of mixed Tryd.func51 (mem_Mem_Read_eq a0 a1_0 a1_1 a2 a3 w Q ▸ h)

/- 52 (*crier/crierref04.Mem).Read -/
def crierref04_Mem_Read_L506 : LoopSpec where
  S := Int × Int
  emb := fun s => [(11, .int .u64 s.1), (12, .int .i64 s.2)]
  ext := fun t => match getL t 11, getL t 12 with
    | some (.int .u64 y17), some (.int .i64 y18) => some (y17, y18)
    | _, _ => none
  slots := [11, 12]
  fits := fun _ => rfl
  ok := by
    intro t s h x hx
    (try dsimp only at h hx)
    split at h
    · cases h
      simp only [List.mem_cons, List.not_mem_nil, or_false] at hx
      rcases hx with rfl | rfl <;> assumption
    · cases h

def crierref04_Mem_Read_l0 (a0 : Option Addr) (a2 : Int) (Q : Value → World → Prop) (b6 : Nat) (n19 : Int) (n20 : Int) (w21 : World) (A22 : crierref04_Mem_Read_L506.S → World → Prop) : Prop :=
 cnd (decide (n20 ≥ 0))
 (drw w21 fun w23 =>
 nn a0 fun a24 =>
 ldL a24 w23 fun p25 l26 c27 =>
 ldI .i64 ⟨b6, 0, none⟩ w23 fun n28 =>
 ix (IntKind.i64.wrap ((IntKind.i64.wrap (n28 + a2)) + n20)) l26 fun j29 => nn p25 fun a30 =>
 ldI .u8 (a30.add (j29 * 1)) w23 fun n31 =>
 A22 (((IntKind.u64.wrap ((IntKind.u64.wrap (n19 * 256)) + (IntKind.u64.wrap (n31)))) : Int), ((IntKind.i64.wrap (n20 - 1)) : Int)) w23)
 (Q (.tuple [.int .u64 n19, .int .i64 0].toArray) w21)

def crierref04_Mem_Read (a0 : Option Addr) (a1_0 : Int) (a1_1 : Int) (a2 : Int) (a3 : Int) (w : World) (Q : Value → World → Prop) : Prop :=
 alc [.int .i64 a1_0, .int .i64 a1_1] T.t46 w fun b6 w7 =>
 ldI .i64 ⟨b6, 0, none⟩ w7 fun n8 =>
 ldI .i64 ⟨b6, 1, none⟩ w7 fun n9 =>
 CV P F.crierref04_Mem_Holds [.pointer a0, .agg [.int .i64 n8, .int .i64 n9].toArray] w7 fun v10 w11 =>
 ∃ b12 : Bool, v10 = .bool b12 ∧
 cnd (!b12)
 (Q (.tuple [.int .u64 0, .int .i64 42].toArray) w11)
 (ldI .i64 ⟨b6, 1, none⟩ w11 fun n13 =>
 CV P F.crierref04_May [.int .i64 n13, .int .i64 a2, .int .i64 a3] w11 fun v14 w15 =>
 ∃ n16 : Int, v14 = .int .i64 n16 ∧
 cnd (n16 != 0)
 (Q (.tuple [.int .u64 0, .int .i64 n16].toArray) w15)
 (LoopT (fun (s32 : crierref04_Mem_Read_L506.S) w33 A34 => crierref04_Mem_Read_l0 a0 a2 Q b6 s32.1 s32.2 w33 A34) ((0 : Int), ((IntKind.i64.wrap (a3 - 1)) : Int)) w15))
def crierref04_Mem_Read_ann : Nat → Option LoopSpec := fun
  | 506 => some crierref04_Mem_Read_L506
  | 8100 => some (ordSpec [0, 1, 2, 3, 4, 5, 6, 7, 8, 9, 10, 11, 12, 13, 14, 15, 16])
  | _ => none
theorem crierref04_Mem_Read_eq (a0 : Option Addr) (a1_0 : Int) (a1_1 : Int) (a2 : Int) (a3 : Int) (w : World) (Q : Value → World → Prop) : fnX P crierref04_Mem_Read_ann Tryd.f52 [.pointer a0, .agg [.int .i64 a1_0, .int .i64 a1_1].toArray, .int .i64 a2, .int .i64 a3] w Q = crierref04_Mem_Read a0 a1_0 a1_1 a2 a3 w Q := by kernel_rfl
theorem crierref04_Mem_Read_cv {a0 : Option Addr} {a1_0 : Int} {a1_1 : Int} {a2 : Int} {a3 : Int} {w : World} {Q : Value → World → Prop} (h : crierref04_Mem_Read a0 a1_0 a1_1 a2 a3 w Q) : CV P F.crierref04_Mem_Read [.pointer a0, .agg [.int .i64 a1_0, .int .i64 a1_1].toArray, .int .i64 a2, .int .i64 a3] w Q := CV_of mixed Tryd.func52 (crierref04_Mem_Read_eq a0 a1_0 a1_1 a2 a3 w Q ▸ h)

/- 53 crier/crierref16.Name -/
def crierref16_Name_L122 : LoopSpec where
  S := Int
  emb := fun s => [(5, .int .i64 s)]
  ext := fun t => match getL t 5 with
    | some (.int .i64 y6) => some (y6)
    | _ => none
  slots := [5]
  fits := fun _ => rfl
  ok := by
    intro t s h x hx
    (try dsimp only at h hx)
    split at h
    · cases h
      simp only [List.mem_cons, List.not_mem_nil, or_false] at hx
      rcases hx with rfl <;> assumption
    · cases h

def crierref16_Name_l0 (a0 : Int) (Q : Value → World → Prop) (b2 : Nat) (b4 : Nat) (n7 : Int) (w8 : World) (A9 : crierref16_Name_L122.S → World → Prop) : Prop :=
 cnd (decide (n7 < ((12 : Nat) : Int)))
 (ix n7 12 fun j10 =>
 ldI .i64 (Addr.add ⟨b2, 0, none⟩ (j10 * 1)) w8 fun n11 =>
 cnd (n11 == a0)
 (ix n7 12 fun j12 =>
 ldS (Addr.add ⟨b4, 0, none⟩ (j12 * 1)) w8 fun s13 =>
 Q (.string s13) w8)
 (A9 (((IntKind.i64.wrap (n7 + 1)) : Int)) w8))
 (Q (.string ⟨#[]⟩) w8)

def crierref16_Name (a0 : Int) (w : World) (Q : Value → World → Prop) : Prop :=
 alc [.int .i64 1, .int .i64 3, .int .i64 4, .int .i64 5, .int .i64 8, .int .i64 9, .int .i64 10, .int .i64 11, .int .i64 12, .int .i64 13, .int .i64 14, .int .i64 15] T.t22 w fun b2 w3 =>
 alc [.string ⟨#[109, 111, 118, 105]⟩, .string ⟨#[105, 110, 116]⟩, .string ⟨#[99, 108, 101, 97, 114]⟩, .string ⟨#[115, 121, 110, 99]⟩, .string ⟨#[109, 97, 112, 100]⟩, .string ⟨#[109, 97, 112, 99]⟩, .string ⟨#[109, 97, 112, 116, 105]⟩, .string ⟨#[109, 97, 112, 105]⟩, .string ⟨#[105, 110, 118]⟩, .string ⟨#[105, 110, 118, 97, 108, 108]⟩, .string ⟨#[109, 111, 118, 97, 108, 108]⟩, .string ⟨#[100, 105, 115, 99, 97, 114, 100]⟩] T.t9 w3 fun b4 w5 =>
 LoopT (fun (s14 : crierref16_Name_L122.S) w15 A16 => crierref16_Name_l0 a0 Q b2 b4 s14 w15 A16) ((0 : Int)) w5
def crierref16_Name_ann : Nat → Option LoopSpec := fun
  | 122 => some crierref16_Name_L122
  | _ => none
theorem crierref16_Name_eq (a0 : Int) (w : World) (Q : Value → World → Prop) : fnX P crierref16_Name_ann Tryd.f53 [.int .i64 a0] w Q = crierref16_Name a0 w Q := by kernel_rfl
theorem crierref16_Name_cv {a0 : Int} {w : World} {Q : Value → World → Prop} (h : crierref16_Name a0 w Q) : CV P F.crierref16_Name [.int .i64 a0] w Q := CV_of mixed Tryd.func53 (crierref16_Name_eq a0 w Q ▸ h)

/- 56 crier/crierref16.one -/

def crierref16_one (a0 : Bool) (w : World) (Q : Value → World → Prop) : Prop :=
 cnd a0
 (Q (.int .i64 1) w)
 (Q (.int .i64 0) w)
def crierref16_one_ann : Nat → Option LoopSpec := fun _ => none
theorem crierref16_one_eq (a0 : Bool) (w : World) (Q : Value → World → Prop) : fnX P crierref16_one_ann Tryd.f56 [.bool a0] w Q = crierref16_one a0 w Q := by kernel_rfl
theorem crierref16_one_cv {a0 : Bool} {w : World} {Q : Value → World → Prop} (h : crierref16_one a0 w Q) : CV P F.crierref16_one [.bool a0] w Q := CV_of mixed Tryd.func56 (crierref16_one_eq a0 w Q ▸ h)

/- 61 (*crier/mem.Mem).part -/

def mem_Mem_part (a0 : Option Addr) (a1_0 : Int) (a1_1 : Int) (a2 : Int) (a3 : Int) (w : World) (Q : Value → World → Prop) : Prop :=
 alc [.int .i64 a1_0, .int .i64 a1_1] T.t46 w fun b6 w7 =>
 ldI .i64 ⟨b6, 0, none⟩ w7 fun n8 =>
 ldI .i64 ⟨b6, 1, none⟩ w7 fun n9 =>
 CV P F.mem_Mem_Holds [.pointer a0, .agg [.int .i64 n8, .int .i64 n9].toArray] w7 fun v10 w11 =>
 ∃ b12 : Bool, v10 = .bool b12 ∧
 cnd (!b12)
 (Q (.tuple [.slice none 0 0, .int .i64 42].toArray) w11)
 (ldI .i64 ⟨b6, 1, none⟩ w11 fun n13 =>
 CV P F.mem_May [.int .i64 n13, .int .i64 a2, .int .i64 a3] w11 fun v14 w15 =>
 ∃ n16 : Int, v14 = .int .i64 n16 ∧
 cnd (n16 != 0)
 (Q (.tuple [.slice none 0 0, .int .i64 n16].toArray) w15)
 (drw w15 fun w17 =>
 nn a0 fun a18 =>
 ldL a18 w17 fun p19 l20 c21 =>
 ldI .i64 ⟨b6, 0, none⟩ w17 fun n22 =>
 ldI .i64 ⟨b6, 0, none⟩ w17 fun n23 =>
 slL p19 l20 c21 1 (some (IntKind.i64.wrap (n22 + a2))) (some (IntKind.i64.wrap ((IntKind.i64.wrap (n23 + a2)) + a3))) none fun p24 l25 c26 =>
 Q (.tuple [.slice p24 l25 c26, .int .i64 0].toArray) w17))
def mem_Mem_part_ann : Nat → Option LoopSpec := fun
  | 30 => some (ordSpec [0, 1, 2, 3, 4, 5, 6, 7, 8, 9, 10, 11, 12, 13, 14, 15, 16])
  | _ => none
theorem mem_Mem_part_eq (a0 : Option Addr) (a1_0 : Int) (a1_1 : Int) (a2 : Int) (a3 : Int) (w : World) (Q : Value → World → Prop) : fnX P mem_Mem_part_ann Tryd.f61 [.pointer a0, .agg [.int .i64 a1_0, .int .i64 a1_1].toArray, .int .i64 a2, .int .i64 a3] w Q = mem_Mem_part a0 a1_0 a1_1 a2 a3 w Q := by kernel_rfl
theorem mem_Mem_part_cv {a0 : Option Addr} {a1_0 : Int} {a1_1 : Int} {a2 : Int} {a3 : Int} {w : World} {Q : Value → World → Prop} (h : mem_Mem_part a0 a1_0 a1_1 a2 a3 w Q) : CV P F.mem_Mem_part [.pointer a0, .agg [.int .i64 a1_0, .int .i64 a1_1].toArray, .int .i64 a2, .int .i64 a3] w Q := CV_of mixed Tryd.func61 (mem_Mem_part_eq a0 a1_0 a1_1 a2 a3 w Q ▸ h)

/- 62 crier/crierref04.May -/
def crierref04_May_J6 : LoopSpec where
  S := Bool
  emb := fun s => [(16, .bool s)]
  ext := fun t => match getL t 16 with
    | some (.bool y4) => some (y4)
    | _ => none
  slots := [16]
  fits := fun _ => rfl
  ok := by
    intro t s h x hx
    (try dsimp only at h hx)
    split at h
    · cases h
      simp only [List.mem_cons, List.not_mem_nil, or_false] at hx
      rcases hx with rfl <;> assumption
    · cases h

def crierref04_May_J30 : LoopSpec where
  S := Bool
  emb := fun s => [(29, .bool s)]
  ext := fun t => match getL t 29 with
    | some (.bool y7) => some (y7)
    | _ => none
  slots := [29]
  fits := fun _ => rfl
  ok := by
    intro t s h x hx
    (try dsimp only at h hx)
    split at h
    · cases h
      simp only [List.mem_cons, List.not_mem_nil, or_false] at hx
      rcases hx with rfl <;> assumption
    · cases h

def crierref04_May_j0 (Q : Value → World → Prop) (b8 : Bool) (w9 : World) : Prop :=
 cnd b8
 (Q (.int .i64 42) w9)
 (Q (.int .i64 0) w9)

def crierref04_May_j1 (a0 : Int) (a1 : Int) (a2 : Int) (Q : Value → World → Prop) (b5 : Bool) (w6 : World) : Prop :=
 cnd b5
 (Q (.int .i64 40) w6)
 ((nz a2 <|
 cnd ((Int.tmod a1 a2) != 0)
 (Q (.int .i64 41) w6)
 (JoinT (fun (J10 : crierref04_May_J30.S → World → Prop) =>
  cnd (decide (a1 < 0))
  (J10 ((true : Bool)) w6)
  (J10 (((decide (a1 > (IntKind.i64.wrap (a0 - a2)))) : Bool)) w6))
  fun (s11 : crierref04_May_J30.S) w12 => crierref04_May_j0 Q s11 w12)))

def crierref04_May (a0 : Int) (a1 : Int) (a2 : Int) (w : World) (Q : Value → World → Prop) : Prop :=
 JoinT (fun (J13 : crierref04_May_J6.S → World → Prop) =>
  cnd (a2 != 1)
  (cnd (a2 != 4)
  (J13 (((a2 != 8) : Bool)) w)
  (J13 ((false : Bool)) w))
  (J13 ((false : Bool)) w))
  fun (s14 : crierref04_May_J6.S) w15 => crierref04_May_j1 a0 a1 a2 Q s14 w15
def crierref04_May_ann : Nat → Option LoopSpec := fun
  | 6 => some crierref04_May_J6
  | 30 => some crierref04_May_J30
  | _ => none
theorem crierref04_May_eq (a0 : Int) (a1 : Int) (a2 : Int) (w : World) (Q : Value → World → Prop) : fnX P crierref04_May_ann Tryd.f62 [.int .i64 a0, .int .i64 a1, .int .i64 a2] w Q = crierref04_May a0 a1 a2 w Q := by kernel_rfl
theorem crierref04_May_cv {a0 : Int} {a1 : Int} {a2 : Int} {w : World} {Q : Value → World → Prop} (h : crierref04_May a0 a1 a2 w Q) : CV P F.crierref04_May [.int .i64 a0, .int .i64 a1, .int .i64 a2] w Q := CV_of mixed Tryd.func62 (crierref04_May_eq a0 a1 a2 w Q ▸ h)

/- 105 internal/bytealg.hashStr[string] -/
def internal_bytealg_hashStr_string_L58 : LoopSpec where
  S := Int × Int
  emb := fun s => [(4, .int .u32 s.1), (5, .int .i64 s.2)]
  ext := fun t => match getL t 4, getL t 5 with
    | some (.int .u32 y2), some (.int .i64 y3) => some (y2, y3)
    | _, _ => none
  slots := [4, 5]
  fits := fun _ => rfl
  ok := by
    intro t s h x hx
    (try dsimp only at h hx)
    split at h
    · cases h
      simp only [List.mem_cons, List.not_mem_nil, or_false] at hx
      rcases hx with rfl | rfl <;> assumption
    · cases h

def internal_bytealg_hashStr_string_L250 : LoopSpec where
  S := Int × Int × Int
  emb := fun s => [(6, .int .u32 s.1), (7, .int .u32 s.2.1), (8, .int .i64 s.2.2)]
  ext := fun t => match getL t 6, getL t 7, getL t 8 with
    | some (.int .u32 y9), some (.int .u32 y10), some (.int .i64 y11) => some (y9, y10, y11)
    | _, _, _ => none
  slots := [6, 7, 8]
  fits := fun _ => rfl
  ok := by
    intro t s h x hx
    (try dsimp only at h hx)
    split at h
    · cases h
      simp only [List.mem_cons, List.not_mem_nil, or_false] at hx
      rcases hx with rfl | rfl | rfl <;> assumption
    · cases h

def internal_bytealg_hashStr_string_J4004 : LoopSpec where
  S := Int
  emb := fun s => [(6, .int .u32 s)]
  ext := fun t => match getL t 6 with
    | some (.int .u32 y17) => some (y17)
    | _ => none
  slots := [6]
  fits := fun _ => rfl
  ok := by
    intro t s h x hx
    (try dsimp only at h hx)
    split at h
    · cases h
      simp only [List.mem_cons, List.not_mem_nil, or_false] at hx
      rcases hx with rfl <;> assumption
    · cases h

def internal_bytealg_hashStr_string_j0 (n13 : Int) (n14 : Int) (A16 : internal_bytealg_hashStr_string_L250.S → World → Prop) (n18 : Int) (w19 : World) : Prop :=
 (nng 1 <|
 A16 ((n18 : Int), ((IntKind.u32.wrap (n13 * n13)) : Int), ((Int.fdiv n14 (2 ^ min (Int.toNat 1) (IntKind.i64.bits))) : Int)) w19)

def internal_bytealg_hashStr_string_l1 (Q : Value → World → Prop) (n4 : Int) (n12 : Int) (n13 : Int) (n14 : Int) (w15 : World) (A16 : internal_bytealg_hashStr_string_L250.S → World → Prop) : Prop :=
 cnd (decide (n14 > 0))
 (JoinT (fun (J20 : internal_bytealg_hashStr_string_J4004.S → World → Prop) =>
  cnd ((bitX .and .i64 n14 1) != 0)
  (J20 (((IntKind.u32.wrap (n12 * n13)) : Int)) w15)
  (J20 ((n12 : Int)) w15))
  fun (s21 : internal_bytealg_hashStr_string_J4004.S) w22 => internal_bytealg_hashStr_string_j0 n13 n14 A16 s21 w22)
 (Q (.tuple [.int .u32 n4, .int .u32 n12].toArray) w15)

def internal_bytealg_hashStr_string_l2 (a0 : ByteArray) (Q : Value → World → Prop) (n4 : Int) (n5 : Int) (w6 : World) (A7 : internal_bytealg_hashStr_string_L58.S → World → Prop) : Prop :=
 cnd (decide (n5 < (((a0 : ByteArray).size : Nat) : Int)))
 (sx a0 n5 fun n8 =>
 A7 (((IntKind.u32.wrap ((IntKind.u32.wrap (n4 * 16777619)) + (IntKind.u32.wrap (n8)))) : Int), ((IntKind.i64.wrap (n5 + 1)) : Int)) w6)
 (LoopT (fun (s23 : internal_bytealg_hashStr_string_L250.S) w24 A25 => internal_bytealg_hashStr_string_l1 Q n4 s23.1 s23.2.1 s23.2.2 w24 A25) ((1 : Int), (16777619 : Int), ((((a0 : ByteArray).size : Nat) : Int) : Int)) w6)

def internal_bytealg_hashStr_string (a0 : ByteArray) (w : World) (Q : Value → World → Prop) : Prop :=
 LoopT (fun (s26 : internal_bytealg_hashStr_string_L58.S) w27 A28 => internal_bytealg_hashStr_string_l2 a0 Q s26.1 s26.2 w27 A28) ((0 : Int), (0 : Int)) w
def internal_bytealg_hashStr_string_ann : Nat → Option LoopSpec := fun
  | 58 => some internal_bytealg_hashStr_string_L58
  | 250 => some internal_bytealg_hashStr_string_L250
  | 4004 => some internal_bytealg_hashStr_string_J4004
  | _ => none
theorem internal_bytealg_hashStr_string_eq (a0 : ByteArray) (w : World) (Q : Value → World → Prop) : fnX P internal_bytealg_hashStr_string_ann Tryd.f105 [.string a0] w Q = internal_bytealg_hashStr_string a0 w Q := by kernel_rfl
theorem internal_bytealg_hashStr_string_cv {a0 : ByteArray} {w : World} {Q : Value → World → Prop} (h : internal_bytealg_hashStr_string a0 w Q) : CV P F.internal_bytealg_hashStr_string [.string a0] w Q := CV_of mixed Tryd.func105 (internal_bytealg_hashStr_string_eq a0 w Q ▸ h)
end Go.Proofs.YtggmapokmlbgbaaDoor
