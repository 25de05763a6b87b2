/-
  The functions' words, printed by Gen.lean out of the translation.
-/
import Derived.Test.YtbnadobjnmboiaaDoorFn0
namespace Go.Proofs.YtbnadobjnmboiaaDoor
open Go X
set_option maxRecDepth 100000
set_option linter.unusedVariables false
/- 3 crier/crierlaw29.TextLines -/
def crierlaw29_TextLines_J4052 : LoopSpec where
  S := Bool
  emb := fun s => [(40, .bool s)]
  ext := fun t => match getL t 40 with
    | some (.bool y39) => some (y39)
    | _ => none
  slots := [40]
  fits := fun _ => rfl
  ok := by
    intro t s h x hx
    (try dsimp only at h hx)
    split at h
    · cases h
      simp only [List.mem_cons, List.not_mem_nil, or_false] at hx
      rcases hx with rfl <;> assumption
    · cases h

def crierlaw29_TextLines_j0 (b2 : Nat) (b23 : Nat) (l29 : Nat) (r30 : Loop) (Q33 : Value → World → Prop) (b40 : Bool) (w41 : World) : Prop :=
 cnd b40
 (st1 (.bool false) ⟨b2, 0, none⟩ w41 fun w42 =>
 recAt w42 l29 r30 .busy none ∧ setR w42 l29 r30 .done (some .ret) fun w43 => Q33 (.bool false) w43)
 (ldI .i64 ⟨b23, 0, none⟩ w41 fun n44 =>
 st1 (.int .i64 (IntKind.i64.wrap (n44 + 1))) ⟨b23, 0, none⟩ w41 fun w45 =>
 recAt w45 l29 r30 .busy none ∧ setR w45 l29 r30 .ready none fun w46 => Q33 (.bool true) w46)

def crierlaw29_TextLines_r1 (b2 : Nat) (b17 : Nat) (b19 : Nat) (b23 : Nat) (l29 : Nat) (r30 : Loop) (vs31 : List Value) (w32 : World) (Q33 : Value → World → Prop) : Prop :=
 X.b2 vs31 fun v34 v35 =>
 ∃ n36 : Int, v34 = .int .i64 n36 ∧
 ∃ s37 : ByteArray, v35 = .string s37 ∧
 recAt w32 l29 r30 .ready none ∧ setR w32 l29 r30 .busy none fun w38 =>
 JoinT (fun (J47 : crierlaw29_TextLines_J4052.S → World → Prop) =>
  ldI .i64 ⟨b23, 0, none⟩ w38 fun n48 =>
  ldL ⟨b17, 0, none⟩ w38 fun p49 l50 c51 =>
  cnd (decide (n48 ≥ ((l50 : Nat) : Int)))
  (J47 ((true : Bool)) w38)
  (ldL ⟨b17, 0, none⟩ w38 fun p52 l53 c54 =>
  ldI .i64 ⟨b23, 0, none⟩ w38 fun n55 =>
  ix n55 l53 fun j56 => nn p52 fun a57 =>
  ldI .i64 (a57.add (j56 * 1)) w38 fun n58 =>
  cnd (n36 != n58)
  (J47 ((true : Bool)) w38)
  (ldL ⟨b19, 0, none⟩ w38 fun p59 l60 c61 =>
  ldI .i64 ⟨b23, 0, none⟩ w38 fun n62 =>
  ix n62 l60 fun j63 => nn p59 fun a64 =>
  ldS (a64.add (j63 * 1)) w38 fun s65 =>
  J47 (((!((s37 : ByteArray).toList == (s65 : ByteArray).toList)) : Bool)) w38)))
  fun (s66 : crierlaw29_TextLines_J4052.S) w67 => crierlaw29_TextLines_j0 b2 b23 l29 r30 Q33 s66 w67

def crierlaw29_TextLines_J127 : LoopSpec where
  S := Unit
  emb := fun _ => []
  ext := fun _ => some ()
  slots := []
  fits := fun _ => rfl
  ok := by
    intro t s h x hx; cases hx

def crierlaw29_TextLines_j2 (Q : Value → World → Prop) (b2 : Nat) (mk68 : List Deferred) (w71 : World) : Prop :=
 takeX (mk68 ++ []) w71 fun w72 =>
 ldB ⟨b2, 0, none⟩ w72 fun b73 =>
 Q (.bool b73) w72

def crierlaw29_TextLines (a0 : ByteArray) (w : World) (Q : Value → World → Prop) : Prop :=
 alc [.bool false] T.t4 w fun b2 w3 =>
 CV P F.crierlaw29_awake [] w3 fun v4 w5 =>
 ∃ b6 : Bool, v4 = .bool b6 ∧
 cnd (!b6)
 (st1 (.bool false) ⟨b2, 0, none⟩ w5 fun w7 =>
 ldB ⟨b2, 0, none⟩ w7 fun b8 =>
 Q (.bool b8) w7)
 (CV P F.crierref29_Lines [.string a0] w5 fun v9 w10 =>
 ∃ (p11 : Option Addr) (l12 c13 : Nat), ∃ (p14 : Option Addr) (l15 c16 : Nat), v9 = .tuple [.slice p11 l12 c13, .slice p14 l15 c16].toArray ∧
 alc [.slice none 0 0] T.t23 w10 fun b17 w18 =>
 alc [.slice none 0 0] T.t24 w18 fun b19 w20 =>
 st1 (.slice p11 l12 c13) ⟨b17, 0, none⟩ w20 fun w21 =>
 st1 (.slice p14 l15 c16) ⟨b19, 0, none⟩ w21 fun w22 =>
 alc [.int .i64 0] T.t3 w22 fun b23 w24 =>
 st1 (.int .i64 0) ⟨b23, 0, none⟩ w24 fun w25 =>
 CV P F.text_Lines [.string a0] w25 fun v26 w27 =>
 ∃ v28 : Value, v26 = v28 ∧
 RF P none 2 (v28) w27 (fun l29 r30 vs31 w32 Q33 => crierlaw29_TextLines_r1 b2 b17 b19 b23 l29 r30 vs31 w32 Q33) fun mk68 jp69 w70 =>
 jmpX jp69
 (JoinT (fun (J74 : crierlaw29_TextLines_J127.S → World → Prop) =>
  cnd b6
  (ldI .i64 ⟨b23, 0, none⟩ w70 fun n75 =>
  ldL ⟨b17, 0, none⟩ w70 fun p76 l77 c78 =>
  st1 (.bool (n75 == ((l77 : Nat) : Int))) ⟨b2, 0, none⟩ w70 fun w79 =>
  J74 () w79)
  (st1 (.bool false) ⟨b2, 0, none⟩ w70 fun w80 =>
  J74 () w80))
  fun (s81 : crierlaw29_TextLines_J127.S) w82 => crierlaw29_TextLines_j2 Q b2 mk68 w82)
 (takeX (mk68 ++ []) w70 fun w83 =>
 ldB ⟨b2, 0, none⟩ w83 fun b84 =>
 Q (.bool b84) w83)
 fun id85 => False)
def crierlaw29_TextLines_ann : Nat → Option LoopSpec := fun
  | 4052 => some crierlaw29_TextLines_J4052
  | 127 => some crierlaw29_TextLines_J127
  | _ => none
theorem crierlaw29_TextLines_eq (a0 : ByteArray) (w : World) (Q : Value → World → Prop) : fnX P crierlaw29_TextLines_ann Tryd.f3 [.string a0] w Q = crierlaw29_TextLines a0 w Q := by kernel_rfl
theorem crierlaw29_TextLines_cv {a0 : ByteArray} {w : World} {Q : Value → World → Prop} (h : crierlaw29_TextLines a0 w Q) : CV P F.crierlaw29_TextLines [.string a0] w Q := CV_of mixed Tryd.func3 (crierlaw29_TextLines_eq a0 w Q ▸ h)

/- 4 crier/crierlaw29.TextFirst -/
def crierlaw29_TextFirst_J32426 : LoopSpec where
  S := Unit
  emb := fun _ => []
  ext := fun _ => some ()
  slots := []
  fits := fun _ => rfl
  ok := by
    intro t s h x hx; cases hx

def crierlaw29_TextFirst_j0 (l35 : Nat) (r36 : Loop) (Q39 : Value → World → Prop) (w76 : World) : Prop :=
 recAt w76 l35 r36 .busy none ∧ setR w76 l35 r36 .done (some .ret) fun w77 => Q39 (.bool false) w77

def crierlaw29_TextFirst_r1 (b2 : Nat) (b7 : Nat) (b20 : Nat) (b22 : Nat) (b24 : Nat) (b29 : Nat) (l35 : Nat) (r36 : Loop) (vs37 : List Value) (w38 : World) (Q39 : Value → World → Prop) : Prop :=
 X.b2 vs37 fun v40 v41 =>
 ∃ n42 : Int, v40 = .int .i64 n42 ∧
 ∃ s43 : ByteArray, v41 = .string s43 ∧
 recAt w38 l35 r36 .ready none ∧ setR w38 l35 r36 .busy none fun w44 =>
 CV P F.text_Parse [.string s43] w44 fun v45 w46 =>
 ∃ n47 : Int, ∃ n48 : Int, ∃ n49 : Int, ∃ n50 : Int, ∃ n51 : Int, ∃ n52 : Int, ∃ n53 : Int, ∃ n54 : Int, ∃ n55 : Int, ∃ n56 : Int, ∃ n57 : Int, ∃ n58 : Int, ∃ b59 : Bool, ∃ n60 : Int, v45 = .tuple [.agg [.int .i64 n47, .int .i64 n48, .int .i64 n49, .int .i64 n50, .int .i64 n51, .int .i64 n52, .int .i64 n53, .int .i64 n54, .int .i64 n55, .int .i64 n56, .int .i64 n57, .int .u64 n58, .bool b59].toArray, .int .i64 n60].toArray ∧
 alc [.int .i64 0, .int .i64 0, .int .i64 0, .int .i64 0, .int .i64 0, .int .i64 0, .int .i64 0, .int .i64 0, .int .i64 0, .int .i64 0, .int .i64 0, .int .u64 0, .bool false] T.t40 w46 fun b61 w62 =>
 st1 (.int .i64 n47) ⟨b61, 0, none⟩ w62 fun w63 =>
 st1 (.int .i64 n48) ⟨b61, 1, none⟩ w63 fun w64 =>
 st1 (.int .i64 n49) ⟨b61, 2, none⟩ w64 fun w65 =>
 st1 (.int .i64 n50) ⟨b61, 3, none⟩ w65 fun w66 =>
 st1 (.int .i64 n51) ⟨b61, 4, none⟩ w66 fun w67 =>
 st1 (.int .i64 n52) ⟨b61, 5, none⟩ w67 fun w68 =>
 st1 (.int .i64 n53) ⟨b61, 6, none⟩ w68 fun w69 =>
 st1 (.int .i64 n54) ⟨b61, 7, none⟩ w69 fun w70 =>
 st1 (.int .i64 n55) ⟨b61, 8, none⟩ w70 fun w71 =>
 st1 (.int .i64 n56) ⟨b61, 9, none⟩ w71 fun w72 =>
 st1 (.int .i64 n57) ⟨b61, 10, none⟩ w72 fun w73 =>
 st1 (.int .u64 n58) ⟨b61, 11, none⟩ w73 fun w74 =>
 st1 (.bool b59) ⟨b61, 12, none⟩ w74 fun w75 =>
 cnd (n60 != 0)
 (JoinT (fun (J78 : crierlaw29_TextFirst_J32426.S → World → Prop) =>
  ldB ⟨b7, 0, none⟩ w75 fun b79 =>
  cnd b79
  (ldI .i64 ⟨b24, 0, none⟩ w75 fun n80 =>
  cnd (n80 == n60)
  (ldI .i64 ⟨b22, 0, none⟩ w75 fun n81 =>
  cnd (n81 == n42)
  (ldL ⟨b20, 0, none⟩ w75 fun p82 l83 c84 =>
  st1 (.bool (((l83 : Nat) : Int) == 0)) ⟨b2, 0, none⟩ w75 fun w85 =>
  J78 () w85)
  (st1 (.bool false) ⟨b2, 0, none⟩ w75 fun w86 =>
  J78 () w86))
  (st1 (.bool false) ⟨b2, 0, none⟩ w75 fun w87 =>
  J78 () w87))
  (st1 (.bool false) ⟨b2, 0, none⟩ w75 fun w88 =>
  J78 () w88))
  fun (s89 : crierlaw29_TextFirst_J32426.S) w90 => crierlaw29_TextFirst_j0 l35 r36 Q39 w90)
 (ldI .i64 ⟨b29, 0, none⟩ w75 fun n91 =>
 st1 (.int .i64 (IntKind.i64.wrap (n91 + 1))) ⟨b29, 0, none⟩ w75 fun w92 =>
 recAt w92 l35 r36 .busy none ∧ setR w92 l35 r36 .ready none fun w93 => Q39 (.bool true) w93)

def crierlaw29_TextFirst_J127 : LoopSpec where
  S := Unit
  emb := fun _ => []
  ext := fun _ => some ()
  slots := []
  fits := fun _ => rfl
  ok := by
    intro t s h x hx; cases hx

def crierlaw29_TextFirst_j2 (Q : Value → World → Prop) (b2 : Nat) (mk94 : List Deferred) (w97 : World) : Prop :=
 takeX (mk94 ++ []) w97 fun w98 =>
 ldB ⟨b2, 0, none⟩ w98 fun b99 =>
 Q (.bool b99) w98

def crierlaw29_TextFirst (a0 : ByteArray) (w : World) (Q : Value → World → Prop) : Prop :=
 alc [.bool false] T.t4 w fun b2 w3 =>
 CV P F.crierlaw29_awake [] w3 fun v4 w5 =>
 ∃ b6 : Bool, v4 = .bool b6 ∧
 alc [.bool false] T.t4 w5 fun b7 w8 =>
 st1 (.bool b6) ⟨b7, 0, none⟩ w8 fun w9 =>
 ldB ⟨b7, 0, none⟩ w9 fun b10 =>
 cnd (!b10)
 (st1 (.bool false) ⟨b2, 0, none⟩ w9 fun w11 =>
 ldB ⟨b2, 0, none⟩ w11 fun b12 =>
 Q (.bool b12) w11)
 (CV P F.text_Script [.string a0] w9 fun v13 w14 =>
 ∃ (p15 : Option Addr) (l16 c17 : Nat), ∃ n18 : Int, ∃ n19 : Int, v13 = .tuple [.slice p15 l16 c17, .int .i64 n18, .int .i64 n19].toArray ∧
 alc [.slice none 0 0] T.t31 w14 fun b20 w21 =>
 alc [.int .i64 0] T.t3 w21 fun b22 w23 =>
 alc [.int .i64 0] T.t32 w23 fun b24 w25 =>
 st1 (.slice p15 l16 c17) ⟨b20, 0, none⟩ w25 fun w26 =>
 st1 (.int .i64 n18) ⟨b22, 0, none⟩ w26 fun w27 =>
 st1 (.int .i64 n19) ⟨b24, 0, none⟩ w27 fun w28 =>
 alc [.int .i64 0] T.t3 w28 fun b29 w30 =>
 st1 (.int .i64 0) ⟨b29, 0, none⟩ w30 fun w31 =>
 CV P F.text_Lines [.string a0] w31 fun v32 w33 =>
 ∃ v34 : Value, v32 = v34 ∧
 RF P none 2 (v34) w33 (fun l35 r36 vs37 w38 Q39 => crierlaw29_TextFirst_r1 b2 b7 b20 b22 b24 b29 l35 r36 vs37 w38 Q39) fun mk94 jp95 w96 =>
 jmpX jp95
 (JoinT (fun (J100 : crierlaw29_TextFirst_J127.S → World → Prop) =>
  ldB ⟨b7, 0, none⟩ w96 fun b101 =>
  cnd b101
  (ldI .i64 ⟨b24, 0, none⟩ w96 fun n102 =>
  cnd (n102 == 0)
  (ldI .i64 ⟨b22, 0, none⟩ w96 fun n103 =>
  cnd (n103 == 0)
  (ldL ⟨b20, 0, none⟩ w96 fun p104 l105 c106 =>
  ldI .i64 ⟨b29, 0, none⟩ w96 fun n107 =>
  st1 (.bool (((l105 : Nat) : Int) == n107)) ⟨b2, 0, none⟩ w96 fun w108 =>
  J100 () w108)
  (st1 (.bool false) ⟨b2, 0, none⟩ w96 fun w109 =>
  J100 () w109))
  (st1 (.bool false) ⟨b2, 0, none⟩ w96 fun w110 =>
  J100 () w110))
  (st1 (.bool false) ⟨b2, 0, none⟩ w96 fun w111 =>
  J100 () w111))
  fun (s112 : crierlaw29_TextFirst_J127.S) w113 => crierlaw29_TextFirst_j2 Q b2 mk94 w113)
 (takeX (mk94 ++ []) w96 fun w114 =>
 ldB ⟨b2, 0, none⟩ w114 fun b115 =>
 Q (.bool b115) w114)
 fun id116 => False)
def crierlaw29_TextFirst_ann : Nat → Option LoopSpec := fun
  | 32426 => some crierlaw29_TextFirst_J32426
  | 127 => some crierlaw29_TextFirst_J127
  | _ => none
theorem crierlaw29_TextFirst_eq (a0 : ByteArray) (w : World) (Q : Value → World → Prop) : fnX P crierlaw29_TextFirst_ann Tryd.f4 [.string a0] w Q = crierlaw29_TextFirst a0 w Q := by kernel_rfl
theorem crierlaw29_TextFirst_cv {a0 : ByteArray} {w : World} {Q : Value → World → Prop} (h : crierlaw29_TextFirst a0 w Q) : CV P F.crierlaw29_TextFirst [.string a0] w Q := CV_of mixed Tryd.func4 (crierlaw29_TextFirst_eq a0 w Q ▸ h)

/- 5 crier/crierlaw29.TextPrints -/
def crierlaw29_TextPrints_J510 : LoopSpec where
  S := Bool
  emb := fun s => [(60, .bool s)]
  ext := fun t => match getL t 60 with
    | some (.bool y142) => some (y142)
    | _ => none
  slots := [60]
  fits := fun _ => rfl
  ok := by
    intro t s h x hx
    (try dsimp only at h hx)
    split at h
    · cases h
      simp only [List.mem_cons, List.not_mem_nil, or_false] at hx
      rcases hx with rfl <;> assumption
    · cases h

def crierlaw29_TextPrints_J2047 : LoopSpec where
  S := Bool
  emb := fun s => [(4, .bool s)]
  ext := fun t => match getL t 4 with
    | some (.bool y193) => some (y193)
    | _ => none
  slots := [4]
  fits := fun _ => rfl
  ok := by
    intro t s h x hx
    (try dsimp only at h hx)
    split at h
    · cases h
      simp only [List.mem_cons, List.not_mem_nil, or_false] at hx
      rcases hx with rfl <;> assumption
    · cases h

def crierlaw29_TextPrints_j0 (Q : Value → World → Prop) (b194 : Bool) (w195 : World) : Prop :=
 Q (.bool b194) w195

def crierlaw29_TextPrints_j1 (a1 : ByteArray) (Q : Value → World → Prop) (b19 : Bool) (b143 : Bool) (w144 : World) : Prop :=
 cnd b143
 (Q (.bool false) w144)
 (CV P F.text_Parse [.string a1] w144 fun v145 w146 =>
 ∃ n147 : Int, ∃ n148 : Int, ∃ n149 : Int, ∃ n150 : Int, ∃ n151 : Int, ∃ n152 : Int, ∃ n153 : Int, ∃ n154 : Int, ∃ n155 : Int, ∃ n156 : Int, ∃ n157 : Int, ∃ n158 : Int, ∃ b159 : Bool, ∃ n160 : Int, v145 = .tuple [.agg [.int .i64 n147, .int .i64 n148, .int .i64 n149, .int .i64 n150, .int .i64 n151, .int .i64 n152, .int .i64 n153, .int .i64 n154, .int .i64 n155, .int .i64 n156, .int .i64 n157, .int .u64 n158, .bool b159].toArray, .int .i64 n160].toArray ∧
 alc [.int .i64 0, .int .i64 0, .int .i64 0, .int .i64 0, .int .i64 0, .int .i64 0, .int .i64 0, .int .i64 0, .int .i64 0, .int .i64 0, .int .i64 0, .int .u64 0, .bool false] T.t40 w146 fun b161 w162 =>
 st1 (.int .i64 n147) ⟨b161, 0, none⟩ w162 fun w163 =>
 st1 (.int .i64 n148) ⟨b161, 1, none⟩ w163 fun w164 =>
 st1 (.int .i64 n149) ⟨b161, 2, none⟩ w164 fun w165 =>
 st1 (.int .i64 n150) ⟨b161, 3, none⟩ w165 fun w166 =>
 st1 (.int .i64 n151) ⟨b161, 4, none⟩ w166 fun w167 =>
 st1 (.int .i64 n152) ⟨b161, 5, none⟩ w167 fun w168 =>
 st1 (.int .i64 n153) ⟨b161, 6, none⟩ w168 fun w169 =>
 st1 (.int .i64 n154) ⟨b161, 7, none⟩ w169 fun w170 =>
 st1 (.int .i64 n155) ⟨b161, 8, none⟩ w170 fun w171 =>
 st1 (.int .i64 n156) ⟨b161, 9, none⟩ w171 fun w172 =>
 st1 (.int .i64 n157) ⟨b161, 10, none⟩ w172 fun w173 =>
 st1 (.int .u64 n158) ⟨b161, 11, none⟩ w173 fun w174 =>
 st1 (.bool b159) ⟨b161, 12, none⟩ w174 fun w175 =>
 ldI .i64 ⟨b161, 0, none⟩ w175 fun n176 =>
 ldI .i64 ⟨b161, 1, none⟩ w175 fun n177 =>
 ldI .i64 ⟨b161, 2, none⟩ w175 fun n178 =>
 ldI .i64 ⟨b161, 3, none⟩ w175 fun n179 =>
 ldI .i64 ⟨b161, 4, none⟩ w175 fun n180 =>
 ldI .i64 ⟨b161, 5, none⟩ w175 fun n181 =>
 ldI .i64 ⟨b161, 6, none⟩ w175 fun n182 =>
 ldI .i64 ⟨b161, 7, none⟩ w175 fun n183 =>
 ldI .i64 ⟨b161, 8, none⟩ w175 fun n184 =>
 ldI .i64 ⟨b161, 9, none⟩ w175 fun n185 =>
 ldI .i64 ⟨b161, 10, none⟩ w175 fun n186 =>
 ldI .u64 ⟨b161, 11, none⟩ w175 fun n187 =>
 ldB ⟨b161, 12, none⟩ w175 fun b188 =>
 CV P F.crierref29_Print [.agg [.int .i64 n176, .int .i64 n177, .int .i64 n178, .int .i64 n179, .int .i64 n180, .int .i64 n181, .int .i64 n182, .int .i64 n183, .int .i64 n184, .int .i64 n185, .int .i64 n186, .int .u64 n187, .bool b188].toArray] w175 fun v189 w190 =>
 ∃ s191 : ByteArray, ∃ b192 : Bool, v189 = .tuple [.string s191, .bool b192].toArray ∧
 JoinT (fun (J196 : crierlaw29_TextPrints_J2047.S → World → Prop) =>
  cnd b19
  (cnd (n160 == 0)
  (cnd b192
  (cnd ((s191 : ByteArray).toList == (a1 : ByteArray).toList)
  (J196 ((true : Bool)) w190)
  (cnd (n160 == 290)
  (ldI .i64 ⟨b161, 0, none⟩ w190 fun n197 =>
  ldI .i64 ⟨b161, 1, none⟩ w190 fun n198 =>
  ldI .i64 ⟨b161, 2, none⟩ w190 fun n199 =>
  ldI .i64 ⟨b161, 3, none⟩ w190 fun n200 =>
  ldI .i64 ⟨b161, 4, none⟩ w190 fun n201 =>
  ldI .i64 ⟨b161, 5, none⟩ w190 fun n202 =>
  ldI .i64 ⟨b161, 6, none⟩ w190 fun n203 =>
  ldI .i64 ⟨b161, 7, none⟩ w190 fun n204 =>
  ldI .i64 ⟨b161, 8, none⟩ w190 fun n205 =>
  ldI .i64 ⟨b161, 9, none⟩ w190 fun n206 =>
  ldI .i64 ⟨b161, 10, none⟩ w190 fun n207 =>
  ldI .u64 ⟨b161, 11, none⟩ w190 fun n208 =>
  ldB ⟨b161, 12, none⟩ w190 fun b209 =>
  eqA P .eql T.t40 (.agg [.int .i64 n197, .int .i64 n198, .int .i64 n199, .int .i64 n200, .int .i64 n201, .int .i64 n202, .int .i64 n203, .int .i64 n204, .int .i64 n205, .int .i64 n206, .int .i64 n207, .int .u64 n208, .bool b209].toArray) (.agg [.int .i64 0, .int .i64 0, .int .i64 0, .int .i64 0, .int .i64 0, .int .i64 0, .int .i64 0, .int .i64 0, .int .i64 0, .int .i64 0, .int .i64 0, .int .u64 0, .bool false].toArray) w190 fun b210 =>
  J196 ((b210 : Bool)) w190)
  (J196 ((false : Bool)) w190)))
  (cnd (n160 == 290)
  (ldI .i64 ⟨b161, 0, none⟩ w190 fun n211 =>
  ldI .i64 ⟨b161, 1, none⟩ w190 fun n212 =>
  ldI .i64 ⟨b161, 2, none⟩ w190 fun n213 =>
  ldI .i64 ⟨b161, 3, none⟩ w190 fun n214 =>
  ldI .i64 ⟨b161, 4, none⟩ w190 fun n215 =>
  ldI .i64 ⟨b161, 5, none⟩ w190 fun n216 =>
  ldI .i64 ⟨b161, 6, none⟩ w190 fun n217 =>
  ldI .i64 ⟨b161, 7, none⟩ w190 fun n218 =>
  ldI .i64 ⟨b161, 8, none⟩ w190 fun n219 =>
  ldI .i64 ⟨b161, 9, none⟩ w190 fun n220 =>
  ldI .i64 ⟨b161, 10, none⟩ w190 fun n221 =>
  ldI .u64 ⟨b161, 11, none⟩ w190 fun n222 =>
  ldB ⟨b161, 12, none⟩ w190 fun b223 =>
  eqA P .eql T.t40 (.agg [.int .i64 n211, .int .i64 n212, .int .i64 n213, .int .i64 n214, .int .i64 n215, .int .i64 n216, .int .i64 n217, .int .i64 n218, .int .i64 n219, .int .i64 n220, .int .i64 n221, .int .u64 n222, .bool b223].toArray) (.agg [.int .i64 0, .int .i64 0, .int .i64 0, .int .i64 0, .int .i64 0, .int .i64 0, .int .i64 0, .int .i64 0, .int .i64 0, .int .i64 0, .int .i64 0, .int .u64 0, .bool false].toArray) w190 fun b224 =>
  J196 ((b224 : Bool)) w190)
  (J196 ((false : Bool)) w190)))
  (cnd (n160 == 290)
  (ldI .i64 ⟨b161, 0, none⟩ w190 fun n225 =>
  ldI .i64 ⟨b161, 1, none⟩ w190 fun n226 =>
  ldI .i64 ⟨b161, 2, none⟩ w190 fun n227 =>
  ldI .i64 ⟨b161, 3, none⟩ w190 fun n228 =>
  ldI .i64 ⟨b161, 4, none⟩ w190 fun n229 =>
  ldI .i64 ⟨b161, 5, none⟩ w190 fun n230 =>
  ldI .i64 ⟨b161, 6, none⟩ w190 fun n231 =>
  ldI .i64 ⟨b161, 7, none⟩ w190 fun n232 =>
  ldI .i64 ⟨b161, 8, none⟩ w190 fun n233 =>
  ldI .i64 ⟨b161, 9, none⟩ w190 fun n234 =>
  ldI .i64 ⟨b161, 10, none⟩ w190 fun n235 =>
  ldI .u64 ⟨b161, 11, none⟩ w190 fun n236 =>
  ldB ⟨b161, 12, none⟩ w190 fun b237 =>
  eqA P .eql T.t40 (.agg [.int .i64 n225, .int .i64 n226, .int .i64 n227, .int .i64 n228, .int .i64 n229, .int .i64 n230, .int .i64 n231, .int .i64 n232, .int .i64 n233, .int .i64 n234, .int .i64 n235, .int .u64 n236, .bool b237].toArray) (.agg [.int .i64 0, .int .i64 0, .int .i64 0, .int .i64 0, .int .i64 0, .int .i64 0, .int .i64 0, .int .i64 0, .int .i64 0, .int .i64 0, .int .i64 0, .int .u64 0, .bool false].toArray) w190 fun b238 =>
  J196 ((b238 : Bool)) w190)
  (J196 ((false : Bool)) w190)))
  (J196 ((false : Bool)) w190))
  fun (s239 : crierlaw29_TextPrints_J2047.S) w240 => crierlaw29_TextPrints_j0 Q s239 w240)

def crierlaw29_TextPrints (a0_0 : Int) (a0_1 : Int) (a0_2 : Int) (a0_3 : Int) (a0_4 : Int) (a0_5 : Int) (a0_6 : Int) (a0_7 : Int) (a0_8 : Int) (a0_9 : Int) (a0_10 : Int) (a0_11 : Int) (a0_12 : Bool) (a1 : ByteArray) (w : World) (Q : Value → World → Prop) : Prop :=
 alc [.int .i64 a0_0, .int .i64 a0_1, .int .i64 a0_2, .int .i64 a0_3, .int .i64 a0_4, .int .i64 a0_5, .int .i64 a0_6, .int .i64 a0_7, .int .i64 a0_8, .int .i64 a0_9, .int .i64 a0_10, .int .u64 a0_11, .bool a0_12] T.t40 w fun b15 w16 =>
 CV P F.crierlaw29_awake [] w16 fun v17 w18 =>
 ∃ b19 : Bool, v17 = .bool b19 ∧
 cnd (!b19)
 (Q (.bool false) w18)
 (ldI .i64 ⟨b15, 0, none⟩ w18 fun n20 =>
 ldI .i64 ⟨b15, 1, none⟩ w18 fun n21 =>
 ldI .i64 ⟨b15, 2, none⟩ w18 fun n22 =>
 ldI .i64 ⟨b15, 3, none⟩ w18 fun n23 =>
 ldI .i64 ⟨b15, 4, none⟩ w18 fun n24 =>
 ldI .i64 ⟨b15, 5, none⟩ w18 fun n25 =>
 ldI .i64 ⟨b15, 6, none⟩ w18 fun n26 =>
 ldI .i64 ⟨b15, 7, none⟩ w18 fun n27 =>
 ldI .i64 ⟨b15, 8, none⟩ w18 fun n28 =>
 ldI .i64 ⟨b15, 9, none⟩ w18 fun n29 =>
 ldI .i64 ⟨b15, 10, none⟩ w18 fun n30 =>
 ldI .u64 ⟨b15, 11, none⟩ w18 fun n31 =>
 ldB ⟨b15, 12, none⟩ w18 fun b32 =>
 CV P F.text_Print [.agg [.int .i64 n20, .int .i64 n21, .int .i64 n22, .int .i64 n23, .int .i64 n24, .int .i64 n25, .int .i64 n26, .int .i64 n27, .int .i64 n28, .int .i64 n29, .int .i64 n30, .int .u64 n31, .bool b32].toArray] w18 fun v33 w34 =>
 ∃ s35 : ByteArray, ∃ n36 : Int, v33 = .tuple [.string s35, .int .i64 n36].toArray ∧
 ldI .i64 ⟨b15, 0, none⟩ w34 fun n37 =>
 ldI .i64 ⟨b15, 1, none⟩ w34 fun n38 =>
 ldI .i64 ⟨b15, 2, none⟩ w34 fun n39 =>
 ldI .i64 ⟨b15, 3, none⟩ w34 fun n40 =>
 ldI .i64 ⟨b15, 4, none⟩ w34 fun n41 =>
 ldI .i64 ⟨b15, 5, none⟩ w34 fun n42 =>
 ldI .i64 ⟨b15, 6, none⟩ w34 fun n43 =>
 ldI .i64 ⟨b15, 7, none⟩ w34 fun n44 =>
 ldI .i64 ⟨b15, 8, none⟩ w34 fun n45 =>
 ldI .i64 ⟨b15, 9, none⟩ w34 fun n46 =>
 ldI .i64 ⟨b15, 10, none⟩ w34 fun n47 =>
 ldI .u64 ⟨b15, 11, none⟩ w34 fun n48 =>
 ldB ⟨b15, 12, none⟩ w34 fun b49 =>
 CV P F.crierref29_Print [.agg [.int .i64 n37, .int .i64 n38, .int .i64 n39, .int .i64 n40, .int .i64 n41, .int .i64 n42, .int .i64 n43, .int .i64 n44, .int .i64 n45, .int .i64 n46, .int .i64 n47, .int .u64 n48, .bool b49].toArray] w34 fun v50 w51 =>
 ∃ s52 : ByteArray, ∃ b53 : Bool, v50 = .tuple [.string s52, .bool b53].toArray ∧
 ldI .i64 ⟨b15, 0, none⟩ w51 fun n54 =>
 ldI .i64 ⟨b15, 1, none⟩ w51 fun n55 =>
 ldI .i64 ⟨b15, 2, none⟩ w51 fun n56 =>
 ldI .i64 ⟨b15, 3, none⟩ w51 fun n57 =>
 ldI .i64 ⟨b15, 4, none⟩ w51 fun n58 =>
 ldI .i64 ⟨b15, 5, none⟩ w51 fun n59 =>
 ldI .i64 ⟨b15, 6, none⟩ w51 fun n60 =>
 ldI .i64 ⟨b15, 7, none⟩ w51 fun n61 =>
 ldI .i64 ⟨b15, 8, none⟩ w51 fun n62 =>
 ldI .i64 ⟨b15, 9, none⟩ w51 fun n63 =>
 ldI .i64 ⟨b15, 10, none⟩ w51 fun n64 =>
 ldI .u64 ⟨b15, 11, none⟩ w51 fun n65 =>
 ldB ⟨b15, 12, none⟩ w51 fun b66 =>
 CV P F.text_Plain [.agg [.int .i64 n54, .int .i64 n55, .int .i64 n56, .int .i64 n57, .int .i64 n58, .int .i64 n59, .int .i64 n60, .int .i64 n61, .int .i64 n62, .int .i64 n63, .int .i64 n64, .int .u64 n65, .bool b66].toArray] w51 fun v67 w68 =>
 ∃ n69 : Int, ∃ n70 : Int, ∃ n71 : Int, ∃ n72 : Int, ∃ n73 : Int, ∃ n74 : Int, ∃ n75 : Int, ∃ n76 : Int, ∃ n77 : Int, ∃ n78 : Int, ∃ n79 : Int, ∃ n80 : Int, ∃ b81 : Bool, ∃ n82 : Int, v67 = .tuple [.agg [.int .i64 n69, .int .i64 n70, .int .i64 n71, .int .i64 n72, .int .i64 n73, .int .i64 n74, .int .i64 n75, .int .i64 n76, .int .i64 n77, .int .i64 n78, .int .i64 n79, .int .u64 n80, .bool b81].toArray, .int .i64 n82].toArray ∧
 alc [.int .i64 0, .int .i64 0, .int .i64 0, .int .i64 0, .int .i64 0, .int .i64 0, .int .i64 0, .int .i64 0, .int .i64 0, .int .i64 0, .int .i64 0, .int .u64 0, .bool false] T.t40 w68 fun b83 w84 =>
 st1 (.int .i64 n69) ⟨b83, 0, none⟩ w84 fun w85 =>
 st1 (.int .i64 n70) ⟨b83, 1, none⟩ w85 fun w86 =>
 st1 (.int .i64 n71) ⟨b83, 2, none⟩ w86 fun w87 =>
 st1 (.int .i64 n72) ⟨b83, 3, none⟩ w87 fun w88 =>
 st1 (.int .i64 n73) ⟨b83, 4, none⟩ w88 fun w89 =>
 st1 (.int .i64 n74) ⟨b83, 5, none⟩ w89 fun w90 =>
 st1 (.int .i64 n75) ⟨b83, 6, none⟩ w90 fun w91 =>
 st1 (.int .i64 n76) ⟨b83, 7, none⟩ w91 fun w92 =>
 st1 (.int .i64 n77) ⟨b83, 8, none⟩ w92 fun w93 =>
 st1 (.int .i64 n78) ⟨b83, 9, none⟩ w93 fun w94 =>
 st1 (.int .i64 n79) ⟨b83, 10, none⟩ w94 fun w95 =>
 st1 (.int .u64 n80) ⟨b83, 11, none⟩ w95 fun w96 =>
 st1 (.bool b81) ⟨b83, 12, none⟩ w96 fun w97 =>
 ldI .i64 ⟨b15, 0, none⟩ w97 fun n98 =>
 ldI .i64 ⟨b15, 1, none⟩ w97 fun n99 =>
 ldI .i64 ⟨b15, 2, none⟩ w97 fun n100 =>
 ldI .i64 ⟨b15, 3, none⟩ w97 fun n101 =>
 ldI .i64 ⟨b15, 4, none⟩ w97 fun n102 =>
 ldI .i64 ⟨b15, 5, none⟩ w97 fun n103 =>
 ldI .i64 ⟨b15, 6, none⟩ w97 fun n104 =>
 ldI .i64 ⟨b15, 7, none⟩ w97 fun n105 =>
 ldI .i64 ⟨b15, 8, none⟩ w97 fun n106 =>
 ldI .i64 ⟨b15, 9, none⟩ w97 fun n107 =>
 ldI .i64 ⟨b15, 10, none⟩ w97 fun n108 =>
 ldI .u64 ⟨b15, 11, none⟩ w97 fun n109 =>
 ldB ⟨b15, 12, none⟩ w97 fun b110 =>
 CV P F.crierref29_Plain [.agg [.int .i64 n98, .int .i64 n99, .int .i64 n100, .int .i64 n101, .int .i64 n102, .int .i64 n103, .int .i64 n104, .int .i64 n105, .int .i64 n106, .int .i64 n107, .int .i64 n108, .int .u64 n109, .bool b110].toArray] w97 fun v111 w112 =>
 ∃ n113 : Int, ∃ n114 : Int, ∃ n115 : Int, ∃ n116 : Int, ∃ n117 : Int, ∃ n118 : Int, ∃ n119 : Int, ∃ n120 : Int, ∃ n121 : Int, ∃ n122 : Int, ∃ n123 : Int, ∃ n124 : Int, ∃ b125 : Bool, ∃ b126 : Bool, v111 = .tuple [.agg [.int .i64 n113, .int .i64 n114, .int .i64 n115, .int .i64 n116, .int .i64 n117, .int .i64 n118, .int .i64 n119, .int .i64 n120, .int .i64 n121, .int .i64 n122, .int .i64 n123, .int .u64 n124, .bool b125].toArray, .bool b126].toArray ∧
 alc [.int .i64 0, .int .i64 0, .int .i64 0, .int .i64 0, .int .i64 0, .int .i64 0, .int .i64 0, .int .i64 0, .int .i64 0, .int .i64 0, .int .i64 0, .int .u64 0, .bool false] T.t40 w112 fun b127 w128 =>
 st1 (.int .i64 n113) ⟨b127, 0, none⟩ w128 fun w129 =>
 st1 (.int .i64 n114) ⟨b127, 1, none⟩ w129 fun w130 =>
 st1 (.int .i64 n115) ⟨b127, 2, none⟩ w130 fun w131 =>
 st1 (.int .i64 n116) ⟨b127, 3, none⟩ w131 fun w132 =>
 st1 (.int .i64 n117) ⟨b127, 4, none⟩ w132 fun w133 =>
 st1 (.int .i64 n118) ⟨b127, 5, none⟩ w133 fun w134 =>
 st1 (.int .i64 n119) ⟨b127, 6, none⟩ w134 fun w135 =>
 st1 (.int .i64 n120) ⟨b127, 7, none⟩ w135 fun w136 =>
 st1 (.int .i64 n121) ⟨b127, 8, none⟩ w136 fun w137 =>
 st1 (.int .i64 n122) ⟨b127, 9, none⟩ w137 fun w138 =>
 st1 (.int .i64 n123) ⟨b127, 10, none⟩ w138 fun w139 =>
 st1 (.int .u64 n124) ⟨b127, 11, none⟩ w139 fun w140 =>
 st1 (.bool b125) ⟨b127, 12, none⟩ w140 fun w141 =>
 JoinT (fun (J241 : crierlaw29_TextPrints_J510.S → World → Prop) =>
  cnd (!((s35 : ByteArray).toList == (s52 : ByteArray).toList))
  (J241 ((true : Bool)) w141)
  (CV P F.crierref29_Known [.bool b53, .int .i64 280] w141 fun v242 w243 =>
  ∃ n244 : Int, v242 = .int .i64 n244 ∧
  cnd (n36 != n244)
  (J241 ((true : Bool)) w243)
  (ldI .i64 ⟨b83, 0, none⟩ w243 fun n245 =>
  ldI .i64 ⟨b83, 1, none⟩ w243 fun n246 =>
  ldI .i64 ⟨b83, 2, none⟩ w243 fun n247 =>
  ldI .i64 ⟨b83, 3, none⟩ w243 fun n248 =>
  ldI .i64 ⟨b83, 4, none⟩ w243 fun n249 =>
  ldI .i64 ⟨b83, 5, none⟩ w243 fun n250 =>
  ldI .i64 ⟨b83, 6, none⟩ w243 fun n251 =>
  ldI .i64 ⟨b83, 7, none⟩ w243 fun n252 =>
  ldI .i64 ⟨b83, 8, none⟩ w243 fun n253 =>
  ldI .i64 ⟨b83, 9, none⟩ w243 fun n254 =>
  ldI .i64 ⟨b83, 10, none⟩ w243 fun n255 =>
  ldI .u64 ⟨b83, 11, none⟩ w243 fun n256 =>
  ldB ⟨b83, 12, none⟩ w243 fun b257 =>
  ldI .i64 ⟨b127, 0, none⟩ w243 fun n258 =>
  ldI .i64 ⟨b127, 1, none⟩ w243 fun n259 =>
  ldI .i64 ⟨b127, 2, none⟩ w243 fun n260 =>
  ldI .i64 ⟨b127, 3, none⟩ w243 fun n261 =>
  ldI .i64 ⟨b127, 4, none⟩ w243 fun n262 =>
  ldI .i64 ⟨b127, 5, none⟩ w243 fun n263 =>
  ldI .i64 ⟨b127, 6, none⟩ w243 fun n264 =>
  ldI .i64 ⟨b127, 7, none⟩ w243 fun n265 =>
  ldI .i64 ⟨b127, 8, none⟩ w243 fun n266 =>
  ldI .i64 ⟨b127, 9, none⟩ w243 fun n267 =>
  ldI .i64 ⟨b127, 10, none⟩ w243 fun n268 =>
  ldI .u64 ⟨b127, 11, none⟩ w243 fun n269 =>
  ldB ⟨b127, 12, none⟩ w243 fun b270 =>
  eqA P .neq T.t40 (.agg [.int .i64 n245, .int .i64 n246, .int .i64 n247, .int .i64 n248, .int .i64 n249, .int .i64 n250, .int .i64 n251, .int .i64 n252, .int .i64 n253, .int .i64 n254, .int .i64 n255, .int .u64 n256, .bool b257].toArray) (.agg [.int .i64 n258, .int .i64 n259, .int .i64 n260, .int .i64 n261, .int .i64 n262, .int .i64 n263, .int .i64 n264, .int .i64 n265, .int .i64 n266, .int .i64 n267, .int .i64 n268, .int .u64 n269, .bool b270].toArray) w243 fun b271 =>
  cnd b271
  (J241 ((true : Bool)) w243)
  (CV P F.crierref29_Known [.bool b126, .int .i64 280] w243 fun v272 w273 =>
  ∃ n274 : Int, v272 = .int .i64 n274 ∧
  J241 (((n82 != n274) : Bool)) w273))))
  fun (s275 : crierlaw29_TextPrints_J510.S) w276 => crierlaw29_TextPrints_j1 a1 Q b19 s275 w276)
def crierlaw29_TextPrints_ann : Nat → Option LoopSpec := fun
  | 510 => some crierlaw29_TextPrints_J510
  | 2047 => some crierlaw29_TextPrints_J2047
  | _ => none
theorem crierlaw29_TextPrints_eq (a0_0 : Int) (a0_1 : Int) (a0_2 : Int) (a0_3 : Int) (a0_4 : Int) (a0_5 : Int) (a0_6 : Int) (a0_7 : Int) (a0_8 : Int) (a0_9 : Int) (a0_10 : Int) (a0_11 : Int) (a0_12 : Bool) (a1 : ByteArray) (w : World) (Q : Value → World → Prop) : fnX P crierlaw29_TextPrints_ann Tryd.f5 [.agg [.int .i64 a0_0, .int .i64 a0_1, .int .i64 a0_2, .int .i64 a0_3, .int .i64 a0_4, .int .i64 a0_5, .int .i64 a0_6, .int .i64 a0_7, .int .i64 a0_8, .int .i64 a0_9, .int .i64 a0_10, .int .u64 a0_11, .bool a0_12].toArray, .string a1] w Q = crierlaw29_TextPrints a0_0 a0_1 a0_2 a0_3 a0_4 a0_5 a0_6 a0_7 a0_8 a0_9 a0_10 a0_11 a0_12 a1 w Q := by kernel_rfl
theorem crierlaw29_TextPrints_cv {a0_0 : Int} {a0_1 : Int} {a0_2 : Int} {a0_3 : Int} {a0_4 : Int} {a0_5 : Int} {a0_6 : Int} {a0_7 : Int} {a0_8 : Int} {a0_9 : Int} {a0_10 : Int} {a0_11 : Int} {a0_12 : Bool} {a1 : ByteArray} {w : World} {Q : Value → World → Prop} (h : crierlaw29_TextPrints a0_0 a0_1 a0_2 a0_3 a0_4 a0_5 a0_6 a0_7 a0_8 a0_9 a0_10 a0_11 a0_12 a1 w Q) : CV P F.crierlaw29_TextPrints [.agg [.int .i64 a0_0, .int .i64 a0_1, .int .i64 a0_2, .int .i64 a0_3, .int .i64 a0_4, .int .i64 a0_5, .int .i64 a0_6, .int .i64 a0_7, .int .i64 a0_8, .int .i64 a0_9, .int .i64 a0_10, .int .u64 a0_11, .bool a0_12].toArray, .string a1] w Q := CV_of mixed Tryd.func5 (crierlaw29_TextPrints_eq a0_0 a0_1 a0_2 a0_3 a0_4 a0_5 a0_6 a0_7 a0_8 a0_9 a0_10 a0_11 a0_12 a1 w Q ▸ h)

/- 6 crier/crierlaw29.TextBack -/
def crierlaw29_TextBack_J31 : LoopSpec where
  S := Unit
  emb := fun _ => []
  ext := fun _ => some ()
  slots := []
  fits := fun _ => rfl
  ok := by
    intro t s h x hx; cases hx

def crierlaw29_TextBack_J1018 : LoopSpec where
  S := Bool
  emb := fun s => [(4, .bool s)]
  ext := fun t => match getL t 4 with
    | some (.bool y96) => some (y96)
    | _ => none
  slots := [4]
  fits := fun _ => rfl
  ok := by
    intro t s h x hx
    (try dsimp only at h hx)
    split at h
    · cases h
      simp only [List.mem_cons, List.not_mem_nil, or_false] at hx
      rcases hx with rfl <;> assumption
    · cases h

def crierlaw29_TextBack_j0 (Q : Value → World → Prop) (b97 : Bool) (w98 : World) : Prop :=
 Q (.bool b97) w98

def crierlaw29_TextBack_J2047 : LoopSpec where
  S := Bool
  emb := fun s => [(4, .bool s)]
  ext := fun t => match getL t 4 with
    | some (.bool y181) => some (y181)
    | _ => none
  slots := [4]
  fits := fun _ => rfl
  ok := by
    intro t s h x hx
    (try dsimp only at h hx)
    split at h
    · cases h
      simp only [List.mem_cons, List.not_mem_nil, or_false] at hx
      rcases hx with rfl <;> assumption
    · cases h

def crierlaw29_TextBack_j1 (Q : Value → World → Prop) (b182 : Bool) (w183 : World) : Prop :=
 Q (.bool b182) w183

def crierlaw29_TextBack_j2 (Q : Value → World → Prop) (b15 : Nat) (b19 : Bool) (w51 : World) : Prop :=
 ldI .i64 ⟨b15, 0, none⟩ w51 fun n52 =>
 ldI .i64 ⟨b15, 1, none⟩ w51 fun n53 =>
 ldI .i64 ⟨b15, 2, none⟩ w51 fun n54 =>
 ldI .i64 ⟨b15, 3, none⟩ w51 fun n55 =>
 ldI .i64 ⟨b15, 4, none⟩ w51 fun n56 =>
 ldI .i64 ⟨b15, 5, none⟩ w51 fun n57 =>
 ldI .i64 ⟨b15, 6, none⟩ w51 fun n58 =>
 ldI .i64 ⟨b15, 7, none⟩ w51 fun n59 =>
 ldI .i64 ⟨b15, 8, none⟩ w51 fun n60 =>
 ldI .i64 ⟨b15, 9, none⟩ w51 fun n61 =>
 ldI .i64 ⟨b15, 10, none⟩ w51 fun n62 =>
 ldI .u64 ⟨b15, 11, none⟩ w51 fun n63 =>
 ldB ⟨b15, 12, none⟩ w51 fun b64 =>
 CV P F.text_Plain [.agg [.int .i64 n52, .int .i64 n53, .int .i64 n54, .int .i64 n55, .int .i64 n56, .int .i64 n57, .int .i64 n58, .int .i64 n59, .int .i64 n60, .int .i64 n61, .int .i64 n62, .int .u64 n63, .bool b64].toArray] w51 fun v65 w66 =>
 ∃ n67 : Int, ∃ n68 : Int, ∃ n69 : Int, ∃ n70 : Int, ∃ n71 : Int, ∃ n72 : Int, ∃ n73 : Int, ∃ n74 : Int, ∃ n75 : Int, ∃ n76 : Int, ∃ n77 : Int, ∃ n78 : Int, ∃ b79 : Bool, ∃ n80 : Int, v65 = .tuple [.agg [.int .i64 n67, .int .i64 n68, .int .i64 n69, .int .i64 n70, .int .i64 n71, .int .i64 n72, .int .i64 n73, .int .i64 n74, .int .i64 n75, .int .i64 n76, .int .i64 n77, .int .u64 n78, .bool b79].toArray, .int .i64 n80].toArray ∧
 alc [.int .i64 0, .int .i64 0, .int .i64 0, .int .i64 0, .int .i64 0, .int .i64 0, .int .i64 0, .int .i64 0, .int .i64 0, .int .i64 0, .int .i64 0, .int .u64 0, .bool false] T.t40 w66 fun b81 w82 =>
 st1 (.int .i64 n67) ⟨b81, 0, none⟩ w82 fun w83 =>
 st1 (.int .i64 n68) ⟨b81, 1, none⟩ w83 fun w84 =>
 st1 (.int .i64 n69) ⟨b81, 2, none⟩ w84 fun w85 =>
 st1 (.int .i64 n70) ⟨b81, 3, none⟩ w85 fun w86 =>
 st1 (.int .i64 n71) ⟨b81, 4, none⟩ w86 fun w87 =>
 st1 (.int .i64 n72) ⟨b81, 5, none⟩ w87 fun w88 =>
 st1 (.int .i64 n73) ⟨b81, 6, none⟩ w88 fun w89 =>
 st1 (.int .i64 n74) ⟨b81, 7, none⟩ w89 fun w90 =>
 st1 (.int .i64 n75) ⟨b81, 8, none⟩ w90 fun w91 =>
 st1 (.int .i64 n76) ⟨b81, 9, none⟩ w91 fun w92 =>
 st1 (.int .i64 n77) ⟨b81, 10, none⟩ w92 fun w93 =>
 st1 (.int .u64 n78) ⟨b81, 11, none⟩ w93 fun w94 =>
 st1 (.bool b79) ⟨b81, 12, none⟩ w94 fun w95 =>
 cnd (n80 != 0)
 (JoinT (fun (J99 : crierlaw29_TextBack_J1018.S → World → Prop) =>
  cnd b19
  (cnd (n80 == 280)
  (ldI .i64 ⟨b81, 0, none⟩ w95 fun n100 =>
  ldI .i64 ⟨b81, 1, none⟩ w95 fun n101 =>
  ldI .i64 ⟨b81, 2, none⟩ w95 fun n102 =>
  ldI .i64 ⟨b81, 3, none⟩ w95 fun n103 =>
  ldI .i64 ⟨b81, 4, none⟩ w95 fun n104 =>
  ldI .i64 ⟨b81, 5, none⟩ w95 fun n105 =>
  ldI .i64 ⟨b81, 6, none⟩ w95 fun n106 =>
  ldI .i64 ⟨b81, 7, none⟩ w95 fun n107 =>
  ldI .i64 ⟨b81, 8, none⟩ w95 fun n108 =>
  ldI .i64 ⟨b81, 9, none⟩ w95 fun n109 =>
  ldI .i64 ⟨b81, 10, none⟩ w95 fun n110 =>
  ldI .u64 ⟨b81, 11, none⟩ w95 fun n111 =>
  ldB ⟨b81, 12, none⟩ w95 fun b112 =>
  eqA P .eql T.t40 (.agg [.int .i64 n100, .int .i64 n101, .int .i64 n102, .int .i64 n103, .int .i64 n104, .int .i64 n105, .int .i64 n106, .int .i64 n107, .int .i64 n108, .int .i64 n109, .int .i64 n110, .int .u64 n111, .bool b112].toArray) (.agg [.int .i64 0, .int .i64 0, .int .i64 0, .int .i64 0, .int .i64 0, .int .i64 0, .int .i64 0, .int .i64 0, .int .i64 0, .int .i64 0, .int .i64 0, .int .u64 0, .bool false].toArray) w95 fun b113 =>
  J99 ((b113 : Bool)) w95)
  (J99 ((false : Bool)) w95))
  (J99 ((false : Bool)) w95))
  fun (s114 : crierlaw29_TextBack_J1018.S) w115 => crierlaw29_TextBack_j0 Q s114 w115)
 (ldI .i64 ⟨b15, 0, none⟩ w95 fun n116 =>
 ldI .i64 ⟨b15, 1, none⟩ w95 fun n117 =>
 ldI .i64 ⟨b15, 2, none⟩ w95 fun n118 =>
 ldI .i64 ⟨b15, 3, none⟩ w95 fun n119 =>
 ldI .i64 ⟨b15, 4, none⟩ w95 fun n120 =>
 ldI .i64 ⟨b15, 5, none⟩ w95 fun n121 =>
 ldI .i64 ⟨b15, 6, none⟩ w95 fun n122 =>
 ldI .i64 ⟨b15, 7, none⟩ w95 fun n123 =>
 ldI .i64 ⟨b15, 8, none⟩ w95 fun n124 =>
 ldI .i64 ⟨b15, 9, none⟩ w95 fun n125 =>
 ldI .i64 ⟨b15, 10, none⟩ w95 fun n126 =>
 ldI .u64 ⟨b15, 11, none⟩ w95 fun n127 =>
 ldB ⟨b15, 12, none⟩ w95 fun b128 =>
 CV P F.text_Print [.agg [.int .i64 n116, .int .i64 n117, .int .i64 n118, .int .i64 n119, .int .i64 n120, .int .i64 n121, .int .i64 n122, .int .i64 n123, .int .i64 n124, .int .i64 n125, .int .i64 n126, .int .u64 n127, .bool b128].toArray] w95 fun v129 w130 =>
 ∃ s131 : ByteArray, ∃ n132 : Int, v129 = .tuple [.string s131, .int .i64 n132].toArray ∧
 ldI .i64 ⟨b81, 0, none⟩ w130 fun n133 =>
 ldI .i64 ⟨b81, 1, none⟩ w130 fun n134 =>
 ldI .i64 ⟨b81, 2, none⟩ w130 fun n135 =>
 ldI .i64 ⟨b81, 3, none⟩ w130 fun n136 =>
 ldI .i64 ⟨b81, 4, none⟩ w130 fun n137 =>
 ldI .i64 ⟨b81, 5, none⟩ w130 fun n138 =>
 ldI .i64 ⟨b81, 6, none⟩ w130 fun n139 =>
 ldI .i64 ⟨b81, 7, none⟩ w130 fun n140 =>
 ldI .i64 ⟨b81, 8, none⟩ w130 fun n141 =>
 ldI .i64 ⟨b81, 9, none⟩ w130 fun n142 =>
 ldI .i64 ⟨b81, 10, none⟩ w130 fun n143 =>
 ldI .u64 ⟨b81, 11, none⟩ w130 fun n144 =>
 ldB ⟨b81, 12, none⟩ w130 fun b145 =>
 CV P F.text_Print [.agg [.int .i64 n133, .int .i64 n134, .int .i64 n135, .int .i64 n136, .int .i64 n137, .int .i64 n138, .int .i64 n139, .int .i64 n140, .int .i64 n141, .int .i64 n142, .int .i64 n143, .int .u64 n144, .bool b145].toArray] w130 fun v146 w147 =>
 ∃ s148 : ByteArray, ∃ n149 : Int, v146 = .tuple [.string s148, .int .i64 n149].toArray ∧
 CV P F.text_Parse [.string s131] w147 fun v150 w151 =>
 ∃ n152 : Int, ∃ n153 : Int, ∃ n154 : Int, ∃ n155 : Int, ∃ n156 : Int, ∃ n157 : Int, ∃ n158 : Int, ∃ n159 : Int, ∃ n160 : Int, ∃ n161 : Int, ∃ n162 : Int, ∃ n163 : Int, ∃ b164 : Bool, ∃ n165 : Int, v150 = .tuple [.agg [.int .i64 n152, .int .i64 n153, .int .i64 n154, .int .i64 n155, .int .i64 n156, .int .i64 n157, .int .i64 n158, .int .i64 n159, .int .i64 n160, .int .i64 n161, .int .i64 n162, .int .u64 n163, .bool b164].toArray, .int .i64 n165].toArray ∧
 alc [.int .i64 0, .int .i64 0, .int .i64 0, .int .i64 0, .int .i64 0, .int .i64 0, .int .i64 0, .int .i64 0, .int .i64 0, .int .i64 0, .int .i64 0, .int .u64 0, .bool false] T.t40 w151 fun b166 w167 =>
 st1 (.int .i64 n152) ⟨b166, 0, none⟩ w167 fun w168 =>
 st1 (.int .i64 n153) ⟨b166, 1, none⟩ w168 fun w169 =>
 st1 (.int .i64 n154) ⟨b166, 2, none⟩ w169 fun w170 =>
 st1 (.int .i64 n155) ⟨b166, 3, none⟩ w170 fun w171 =>
 st1 (.int .i64 n156) ⟨b166, 4, none⟩ w171 fun w172 =>
 st1 (.int .i64 n157) ⟨b166, 5, none⟩ w172 fun w173 =>
 st1 (.int .i64 n158) ⟨b166, 6, none⟩ w173 fun w174 =>
 st1 (.int .i64 n159) ⟨b166, 7, none⟩ w174 fun w175 =>
 st1 (.int .i64 n160) ⟨b166, 8, none⟩ w175 fun w176 =>
 st1 (.int .i64 n161) ⟨b166, 9, none⟩ w176 fun w177 =>
 st1 (.int .i64 n162) ⟨b166, 10, none⟩ w177 fun w178 =>
 st1 (.int .u64 n163) ⟨b166, 11, none⟩ w178 fun w179 =>
 st1 (.bool b164) ⟨b166, 12, none⟩ w179 fun w180 =>
 JoinT (fun (J184 : crierlaw29_TextBack_J2047.S → World → Prop) =>
  cnd b19
  (cnd (n132 == 0)
  (cnd (n149 == 0)
  (cnd ((s131 : ByteArray).toList == (s148 : ByteArray).toList)
  (cnd (n165 == 0)
  (ldI .i64 ⟨b166, 0, none⟩ w180 fun n185 =>
  ldI .i64 ⟨b166, 1, none⟩ w180 fun n186 =>
  ldI .i64 ⟨b166, 2, none⟩ w180 fun n187 =>
  ldI .i64 ⟨b166, 3, none⟩ w180 fun n188 =>
  ldI .i64 ⟨b166, 4, none⟩ w180 fun n189 =>
  ldI .i64 ⟨b166, 5, none⟩ w180 fun n190 =>
  ldI .i64 ⟨b166, 6, none⟩ w180 fun n191 =>
  ldI .i64 ⟨b166, 7, none⟩ w180 fun n192 =>
  ldI .i64 ⟨b166, 8, none⟩ w180 fun n193 =>
  ldI .i64 ⟨b166, 9, none⟩ w180 fun n194 =>
  ldI .i64 ⟨b166, 10, none⟩ w180 fun n195 =>
  ldI .u64 ⟨b166, 11, none⟩ w180 fun n196 =>
  ldB ⟨b166, 12, none⟩ w180 fun b197 =>
  ldI .i64 ⟨b81, 0, none⟩ w180 fun n198 =>
  ldI .i64 ⟨b81, 1, none⟩ w180 fun n199 =>
  ldI .i64 ⟨b81, 2, none⟩ w180 fun n200 =>
  ldI .i64 ⟨b81, 3, none⟩ w180 fun n201 =>
  ldI .i64 ⟨b81, 4, none⟩ w180 fun n202 =>
  ldI .i64 ⟨b81, 5, none⟩ w180 fun n203 =>
  ldI .i64 ⟨b81, 6, none⟩ w180 fun n204 =>
  ldI .i64 ⟨b81, 7, none⟩ w180 fun n205 =>
  ldI .i64 ⟨b81, 8, none⟩ w180 fun n206 =>
  ldI .i64 ⟨b81, 9, none⟩ w180 fun n207 =>
  ldI .i64 ⟨b81, 10, none⟩ w180 fun n208 =>
  ldI .u64 ⟨b81, 11, none⟩ w180 fun n209 =>
  ldB ⟨b81, 12, none⟩ w180 fun b210 =>
  eqA P .eql T.t40 (.agg [.int .i64 n185, .int .i64 n186, .int .i64 n187, .int .i64 n188, .int .i64 n189, .int .i64 n190, .int .i64 n191, .int .i64 n192, .int .i64 n193, .int .i64 n194, .int .i64 n195, .int .u64 n196, .bool b197].toArray) (.agg [.int .i64 n198, .int .i64 n199, .int .i64 n200, .int .i64 n201, .int .i64 n202, .int .i64 n203, .int .i64 n204, .int .i64 n205, .int .i64 n206, .int .i64 n207, .int .i64 n208, .int .u64 n209, .bool b210].toArray) w180 fun b211 =>
  J184 ((b211 : Bool)) w180)
  (J184 ((false : Bool)) w180))
  (J184 ((false : Bool)) w180))
  (J184 ((false : Bool)) w180))
  (J184 ((false : Bool)) w180))
  (J184 ((false : Bool)) w180))
  fun (s212 : crierlaw29_TextBack_J2047.S) w213 => crierlaw29_TextBack_j1 Q s212 w213)

def crierlaw29_TextBack_J1003 : LoopSpec where
  S := Bool
  emb := fun s => [(55, .bool s)]
  ext := fun t => match getL t 55 with
    | some (.bool y276) => some (y276)
    | _ => none
  slots := [55]
  fits := fun _ => rfl
  ok := by
    intro t s h x hx
    (try dsimp only at h hx)
    split at h
    · cases h
      simp only [List.mem_cons, List.not_mem_nil, or_false] at hx
      rcases hx with rfl <;> assumption
    · cases h

def crierlaw29_TextBack_j3 (Q : Value → World → Prop) (J214 : crierlaw29_TextBack_J31.S → World → Prop) (b277 : Bool) (w278 : World) : Prop :=
 cnd b277
 (Q (.bool false) w278)
 (J214 () w278)

def crierlaw29_TextBack (a0_0 : Int) (a0_1 : Int) (a0_2 : Int) (a0_3 : Int) (a0_4 : Int) (a0_5 : Int) (a0_6 : Int) (a0_7 : Int) (a0_8 : Int) (a0_9 : Int) (a0_10 : Int) (a0_11 : Int) (a0_12 : Bool) (a1 : ByteArray) (w : World) (Q : Value → World → Prop) : Prop :=
 alc [.int .i64 a0_0, .int .i64 a0_1, .int .i64 a0_2, .int .i64 a0_3, .int .i64 a0_4, .int .i64 a0_5, .int .i64 a0_6, .int .i64 a0_7, .int .i64 a0_8, .int .i64 a0_9, .int .i64 a0_10, .int .u64 a0_11, .bool a0_12] T.t40 w fun b15 w16 =>
 CV P F.crierlaw29_awake [] w16 fun v17 w18 =>
 ∃ b19 : Bool, v17 = .bool b19 ∧
 cnd (!b19)
 (Q (.bool false) w18)
 (CV P F.text_Parse [.string a1] w18 fun v20 w21 =>
 ∃ n22 : Int, ∃ n23 : Int, ∃ n24 : Int, ∃ n25 : Int, ∃ n26 : Int, ∃ n27 : Int, ∃ n28 : Int, ∃ n29 : Int, ∃ n30 : Int, ∃ n31 : Int, ∃ n32 : Int, ∃ n33 : Int, ∃ b34 : Bool, ∃ n35 : Int, v20 = .tuple [.agg [.int .i64 n22, .int .i64 n23, .int .i64 n24, .int .i64 n25, .int .i64 n26, .int .i64 n27, .int .i64 n28, .int .i64 n29, .int .i64 n30, .int .i64 n31, .int .i64 n32, .int .u64 n33, .bool b34].toArray, .int .i64 n35].toArray ∧
 alc [.int .i64 0, .int .i64 0, .int .i64 0, .int .i64 0, .int .i64 0, .int .i64 0, .int .i64 0, .int .i64 0, .int .i64 0, .int .i64 0, .int .i64 0, .int .u64 0, .bool false] T.t40 w21 fun b36 w37 =>
 st1 (.int .i64 n22) ⟨b36, 0, none⟩ w37 fun w38 =>
 st1 (.int .i64 n23) ⟨b36, 1, none⟩ w38 fun w39 =>
 st1 (.int .i64 n24) ⟨b36, 2, none⟩ w39 fun w40 =>
 st1 (.int .i64 n25) ⟨b36, 3, none⟩ w40 fun w41 =>
 st1 (.int .i64 n26) ⟨b36, 4, none⟩ w41 fun w42 =>
 st1 (.int .i64 n27) ⟨b36, 5, none⟩ w42 fun w43 =>
 st1 (.int .i64 n28) ⟨b36, 6, none⟩ w43 fun w44 =>
 st1 (.int .i64 n29) ⟨b36, 7, none⟩ w44 fun w45 =>
 st1 (.int .i64 n30) ⟨b36, 8, none⟩ w45 fun w46 =>
 st1 (.int .i64 n31) ⟨b36, 9, none⟩ w46 fun w47 =>
 st1 (.int .i64 n32) ⟨b36, 10, none⟩ w47 fun w48 =>
 st1 (.int .u64 n33) ⟨b36, 11, none⟩ w48 fun w49 =>
 st1 (.bool b34) ⟨b36, 12, none⟩ w49 fun w50 =>
 JoinT (fun (J214 : crierlaw29_TextBack_J31.S → World → Prop) =>
  cnd (n35 == 0)
  (ldI .i64 ⟨b36, 0, none⟩ w50 fun n215 =>
  ldI .i64 ⟨b36, 1, none⟩ w50 fun n216 =>
  ldI .i64 ⟨b36, 2, none⟩ w50 fun n217 =>
  ldI .i64 ⟨b36, 3, none⟩ w50 fun n218 =>
  ldI .i64 ⟨b36, 4, none⟩ w50 fun n219 =>
  ldI .i64 ⟨b36, 5, none⟩ w50 fun n220 =>
  ldI .i64 ⟨b36, 6, none⟩ w50 fun n221 =>
  ldI .i64 ⟨b36, 7, none⟩ w50 fun n222 =>
  ldI .i64 ⟨b36, 8, none⟩ w50 fun n223 =>
  ldI .i64 ⟨b36, 9, none⟩ w50 fun n224 =>
  ldI .i64 ⟨b36, 10, none⟩ w50 fun n225 =>
  ldI .u64 ⟨b36, 11, none⟩ w50 fun n226 =>
  ldB ⟨b36, 12, none⟩ w50 fun b227 =>
  CV P F.text_Print [.agg [.int .i64 n215, .int .i64 n216, .int .i64 n217, .int .i64 n218, .int .i64 n219, .int .i64 n220, .int .i64 n221, .int .i64 n222, .int .i64 n223, .int .i64 n224, .int .i64 n225, .int .u64 n226, .bool b227].toArray] w50 fun v228 w229 =>
  ∃ s230 : ByteArray, ∃ n231 : Int, v228 = .tuple [.string s230, .int .i64 n231].toArray ∧
  ldI .i64 ⟨b36, 0, none⟩ w229 fun n232 =>
  ldI .i64 ⟨b36, 1, none⟩ w229 fun n233 =>
  ldI .i64 ⟨b36, 2, none⟩ w229 fun n234 =>
  ldI .i64 ⟨b36, 3, none⟩ w229 fun n235 =>
  ldI .i64 ⟨b36, 4, none⟩ w229 fun n236 =>
  ldI .i64 ⟨b36, 5, none⟩ w229 fun n237 =>
  ldI .i64 ⟨b36, 6, none⟩ w229 fun n238 =>
  ldI .i64 ⟨b36, 7, none⟩ w229 fun n239 =>
  ldI .i64 ⟨b36, 8, none⟩ w229 fun n240 =>
  ldI .i64 ⟨b36, 9, none⟩ w229 fun n241 =>
  ldI .i64 ⟨b36, 10, none⟩ w229 fun n242 =>
  ldI .u64 ⟨b36, 11, none⟩ w229 fun n243 =>
  ldB ⟨b36, 12, none⟩ w229 fun b244 =>
  CV P F.text_Plain [.agg [.int .i64 n232, .int .i64 n233, .int .i64 n234, .int .i64 n235, .int .i64 n236, .int .i64 n237, .int .i64 n238, .int .i64 n239, .int .i64 n240, .int .i64 n241, .int .i64 n242, .int .u64 n243, .bool b244].toArray] w229 fun v245 w246 =>
  ∃ n247 : Int, ∃ n248 : Int, ∃ n249 : Int, ∃ n250 : Int, ∃ n251 : Int, ∃ n252 : Int, ∃ n253 : Int, ∃ n254 : Int, ∃ n255 : Int, ∃ n256 : Int, ∃ n257 : Int, ∃ n258 : Int, ∃ b259 : Bool, ∃ n260 : Int, v245 = .tuple [.agg [.int .i64 n247, .int .i64 n248, .int .i64 n249, .int .i64 n250, .int .i64 n251, .int .i64 n252, .int .i64 n253, .int .i64 n254, .int .i64 n255, .int .i64 n256, .int .i64 n257, .int .u64 n258, .bool b259].toArray, .int .i64 n260].toArray ∧
  alc [.int .i64 0, .int .i64 0, .int .i64 0, .int .i64 0, .int .i64 0, .int .i64 0, .int .i64 0, .int .i64 0, .int .i64 0, .int .i64 0, .int .i64 0, .int .u64 0, .bool false] T.t40 w246 fun b261 w262 =>
  st1 (.int .i64 n247) ⟨b261, 0, none⟩ w262 fun w263 =>
  st1 (.int .i64 n248) ⟨b261, 1, none⟩ w263 fun w264 =>
  st1 (.int .i64 n249) ⟨b261, 2, none⟩ w264 fun w265 =>
  st1 (.int .i64 n250) ⟨b261, 3, none⟩ w265 fun w266 =>
  st1 (.int .i64 n251) ⟨b261, 4, none⟩ w266 fun w267 =>
  st1 (.int .i64 n252) ⟨b261, 5, none⟩ w267 fun w268 =>
  st1 (.int .i64 n253) ⟨b261, 6, none⟩ w268 fun w269 =>
  st1 (.int .i64 n254) ⟨b261, 7, none⟩ w269 fun w270 =>
  st1 (.int .i64 n255) ⟨b261, 8, none⟩ w270 fun w271 =>
  st1 (.int .i64 n256) ⟨b261, 9, none⟩ w271 fun w272 =>
  st1 (.int .i64 n257) ⟨b261, 10, none⟩ w272 fun w273 =>
  st1 (.int .u64 n258) ⟨b261, 11, none⟩ w273 fun w274 =>
  st1 (.bool b259) ⟨b261, 12, none⟩ w274 fun w275 =>
  JoinT (fun (J279 : crierlaw29_TextBack_J1003.S → World → Prop) =>
   cnd (n231 != 0)
   (J279 ((true : Bool)) w275)
   (cnd (!((s230 : ByteArray).toList == (a1 : ByteArray).toList))
   (J279 ((true : Bool)) w275)
   (cnd (n260 != 0)
   (J279 ((true : Bool)) w275)
   (ldI .i64 ⟨b261, 0, none⟩ w275 fun n280 =>
   ldI .i64 ⟨b261, 1, none⟩ w275 fun n281 =>
   ldI .i64 ⟨b261, 2, none⟩ w275 fun n282 =>
   ldI .i64 ⟨b261, 3, none⟩ w275 fun n283 =>
   ldI .i64 ⟨b261, 4, none⟩ w275 fun n284 =>
   ldI .i64 ⟨b261, 5, none⟩ w275 fun n285 =>
   ldI .i64 ⟨b261, 6, none⟩ w275 fun n286 =>
   ldI .i64 ⟨b261, 7, none⟩ w275 fun n287 =>
   ldI .i64 ⟨b261, 8, none⟩ w275 fun n288 =>
   ldI .i64 ⟨b261, 9, none⟩ w275 fun n289 =>
   ldI .i64 ⟨b261, 10, none⟩ w275 fun n290 =>
   ldI .u64 ⟨b261, 11, none⟩ w275 fun n291 =>
   ldB ⟨b261, 12, none⟩ w275 fun b292 =>
   ldI .i64 ⟨b36, 0, none⟩ w275 fun n293 =>
   ldI .i64 ⟨b36, 1, none⟩ w275 fun n294 =>
   ldI .i64 ⟨b36, 2, none⟩ w275 fun n295 =>
   ldI .i64 ⟨b36, 3, none⟩ w275 fun n296 =>
   ldI .i64 ⟨b36, 4, none⟩ w275 fun n297 =>
   ldI .i64 ⟨b36, 5, none⟩ w275 fun n298 =>
   ldI .i64 ⟨b36, 6, none⟩ w275 fun n299 =>
   ldI .i64 ⟨b36, 7, none⟩ w275 fun n300 =>
   ldI .i64 ⟨b36, 8, none⟩ w275 fun n301 =>
   ldI .i64 ⟨b36, 9, none⟩ w275 fun n302 =>
   ldI .i64 ⟨b36, 10, none⟩ w275 fun n303 =>
   ldI .u64 ⟨b36, 11, none⟩ w275 fun n304 =>
   ldB ⟨b36, 12, none⟩ w275 fun b305 =>
   eqA P .neq T.t40 (.agg [.int .i64 n280, .int .i64 n281, .int .i64 n282, .int .i64 n283, .int .i64 n284, .int .i64 n285, .int .i64 n286, .int .i64 n287, .int .i64 n288, .int .i64 n289, .int .i64 n290, .int .u64 n291, .bool b292].toArray) (.agg [.int .i64 n293, .int .i64 n294, .int .i64 n295, .int .i64 n296, .int .i64 n297, .int .i64 n298, .int .i64 n299, .int .i64 n300, .int .i64 n301, .int .i64 n302, .int .i64 n303, .int .u64 n304, .bool b305].toArray) w275 fun b306 =>
   J279 ((b306 : Bool)) w275))))
   fun (s307 : crierlaw29_TextBack_J1003.S) w308 => crierlaw29_TextBack_j3 Q J214 s307 w308)
  (J214 () w50))
  fun (s309 : crierlaw29_TextBack_J31.S) w310 => crierlaw29_TextBack_j2 Q b15 b19 w310)
def crierlaw29_TextBack_ann : Nat → Option LoopSpec := fun
  | 31 => some crierlaw29_TextBack_J31
  | 1018 => some crierlaw29_TextBack_J1018
  | 2047 => some crierlaw29_TextBack_J2047
  | 1003 => some crierlaw29_TextBack_J1003
  | _ => none
theorem crierlaw29_TextBack_eq (a0_0 : Int) (a0_1 : Int) (a0_2 : Int) (a0_3 : Int) (a0_4 : Int) (a0_5 : Int) (a0_6 : Int) (a0_7 : Int) (a0_8 : Int) (a0_9 : Int) (a0_10 : Int) (a0_11 : Int) (a0_12 : Bool) (a1 : ByteArray) (w : World) (Q : Value → World → Prop) : fnX P crierlaw29_TextBack_ann Tryd.f6 [.agg [.int .i64 a0_0, .int .i64 a0_1, .int .i64 a0_2, .int .i64 a0_3, .int .i64 a0_4, .int .i64 a0_5, .int .i64 a0_6, .int .i64 a0_7, .int .i64 a0_8, .int .i64 a0_9, .int .i64 a0_10, .int .u64 a0_11, .bool a0_12].toArray, .string a1] w Q = crierlaw29_TextBack a0_0 a0_1 a0_2 a0_3 a0_4 a0_5 a0_6 a0_7 a0_8 a0_9 a0_10 a0_11 a0_12 a1 w Q := by kernel_rfl
theorem crierlaw29_TextBack_cv {a0_0 : Int} {a0_1 : Int} {a0_2 : Int} {a0_3 : Int} {a0_4 : Int} {a0_5 : Int} {a0_6 : Int} {a0_7 : Int} {a0_8 : Int} {a0_9 : Int} {a0_10 : Int} {a0_11 : Int} {a0_12 : Bool} {a1 : ByteArray} {w : World} {Q : Value → World → Prop} (h : crierlaw29_TextBack a0_0 a0_1 a0_2 a0_3 a0_4 a0_5 a0_6 a0_7 a0_8 a0_9 a0_10 a0_11 a0_12 a1 w Q) : CV P F.crierlaw29_TextBack [.agg [.int .i64 a0_0, .int .i64 a0_1, .int .i64 a0_2, .int .i64 a0_3, .int .i64 a0_4, .int .i64 a0_5, .int .i64 a0_6, .int .i64 a0_7, .int .i64 a0_8, .int .i64 a0_9, .int .i64 a0_10, .int .u64 a0_11, .bool a0_12].toArray, .string a1] w Q := CV_of mixed Tryd.func6 (crierlaw29_TextBack_eq a0_0 a0_1 a0_2 a0_3 a0_4 a0_5 a0_6 a0_7 a0_8 a0_9 a0_10 a0_11 a0_12 a1 w Q ▸ h)

/- 7 crier/crierlaw29.TextApart -/
def crierlaw29_TextApart_J30 : LoopSpec where
  S := Bool
  emb := fun s => [(28, .bool s)]
  ext := fun t => match getL t 28 with
    | some (.bool y119) => some (y119)
    | _ => none
  slots := [28]
  fits := fun _ => rfl
  ok := by
    intro t s h x hx
    (try dsimp only at h hx)
    split at h
    · cases h
      simp only [List.mem_cons, List.not_mem_nil, or_false] at hx
      rcases hx with rfl <;> assumption
    · cases h

def crierlaw29_TextApart_J127 : LoopSpec where
  S := Bool
  emb := fun s => [(4, .bool s)]
  ext := fun t => match getL t 4 with
    | some (.bool y159) => some (y159)
    | _ => none
  slots := [4]
  fits := fun _ => rfl
  ok := by
    intro t s h x hx
    (try dsimp only at h hx)
    split at h
    · cases h
      simp only [List.mem_cons, List.not_mem_nil, or_false] at hx
      rcases hx with rfl <;> assumption
    · cases h

def crierlaw29_TextApart_j0 (Q : Value → World → Prop) (b160 : Bool) (w161 : World) : Prop :=
 Q (.bool b160) w161

def crierlaw29_TextApart_j1 (Q : Value → World → Prop) (b60 : Nat) (b104 : Nat) (b120 : Bool) (w121 : World) : Prop :=
 cnd b120
 (CV P F.crierlaw29_awake [] w121 fun v122 w123 =>
 ∃ b124 : Bool, v122 = .bool b124 ∧
 Q (.bool b124) w123)
 (ldI .i64 ⟨b60, 0, none⟩ w121 fun n125 =>
 ldI .i64 ⟨b60, 1, none⟩ w121 fun n126 =>
 ldI .i64 ⟨b60, 2, none⟩ w121 fun n127 =>
 ldI .i64 ⟨b60, 3, none⟩ w121 fun n128 =>
 ldI .i64 ⟨b60, 4, none⟩ w121 fun n129 =>
 ldI .i64 ⟨b60, 5, none⟩ w121 fun n130 =>
 ldI .i64 ⟨b60, 6, none⟩ w121 fun n131 =>
 ldI .i64 ⟨b60, 7, none⟩ w121 fun n132 =>
 ldI .i64 ⟨b60, 8, none⟩ w121 fun n133 =>
 ldI .i64 ⟨b60, 9, none⟩ w121 fun n134 =>
 ldI .i64 ⟨b60, 10, none⟩ w121 fun n135 =>
 ldI .u64 ⟨b60, 11, none⟩ w121 fun n136 =>
 ldB ⟨b60, 12, none⟩ w121 fun b137 =>
 CV P F.text_Print [.agg [.int .i64 n125, .int .i64 n126, .int .i64 n127, .int .i64 n128, .int .i64 n129, .int .i64 n130, .int .i64 n131, .int .i64 n132, .int .i64 n133, .int .i64 n134, .int .i64 n135, .int .u64 n136, .bool b137].toArray] w121 fun v138 w139 =>
 ∃ s140 : ByteArray, ∃ n141 : Int, v138 = .tuple [.string s140, .int .i64 n141].toArray ∧
 ldI .i64 ⟨b104, 0, none⟩ w139 fun n142 =>
 ldI .i64 ⟨b104, 1, none⟩ w139 fun n143 =>
 ldI .i64 ⟨b104, 2, none⟩ w139 fun n144 =>
 ldI .i64 ⟨b104, 3, none⟩ w139 fun n145 =>
 ldI .i64 ⟨b104, 4, none⟩ w139 fun n146 =>
 ldI .i64 ⟨b104, 5, none⟩ w139 fun n147 =>
 ldI .i64 ⟨b104, 6, none⟩ w139 fun n148 =>
 ldI .i64 ⟨b104, 7, none⟩ w139 fun n149 =>
 ldI .i64 ⟨b104, 8, none⟩ w139 fun n150 =>
 ldI .i64 ⟨b104, 9, none⟩ w139 fun n151 =>
 ldI .i64 ⟨b104, 10, none⟩ w139 fun n152 =>
 ldI .u64 ⟨b104, 11, none⟩ w139 fun n153 =>
 ldB ⟨b104, 12, none⟩ w139 fun b154 =>
 CV P F.text_Print [.agg [.int .i64 n142, .int .i64 n143, .int .i64 n144, .int .i64 n145, .int .i64 n146, .int .i64 n147, .int .i64 n148, .int .i64 n149, .int .i64 n150, .int .i64 n151, .int .i64 n152, .int .u64 n153, .bool b154].toArray] w139 fun v155 w156 =>
 ∃ s157 : ByteArray, ∃ n158 : Int, v155 = .tuple [.string s157, .int .i64 n158].toArray ∧
 JoinT (fun (J162 : crierlaw29_TextApart_J127.S → World → Prop) =>
  CV P F.crierlaw29_awake [] w156 fun v163 w164 =>
  ∃ b165 : Bool, v163 = .bool b165 ∧
  cnd b165
  (ldI .i64 ⟨b60, 0, none⟩ w164 fun n166 =>
  ldI .i64 ⟨b60, 1, none⟩ w164 fun n167 =>
  ldI .i64 ⟨b60, 2, none⟩ w164 fun n168 =>
  ldI .i64 ⟨b60, 3, none⟩ w164 fun n169 =>
  ldI .i64 ⟨b60, 4, none⟩ w164 fun n170 =>
  ldI .i64 ⟨b60, 5, none⟩ w164 fun n171 =>
  ldI .i64 ⟨b60, 6, none⟩ w164 fun n172 =>
  ldI .i64 ⟨b60, 7, none⟩ w164 fun n173 =>
  ldI .i64 ⟨b60, 8, none⟩ w164 fun n174 =>
  ldI .i64 ⟨b60, 9, none⟩ w164 fun n175 =>
  ldI .i64 ⟨b60, 10, none⟩ w164 fun n176 =>
  ldI .u64 ⟨b60, 11, none⟩ w164 fun n177 =>
  ldB ⟨b60, 12, none⟩ w164 fun b178 =>
  ldI .i64 ⟨b104, 0, none⟩ w164 fun n179 =>
  ldI .i64 ⟨b104, 1, none⟩ w164 fun n180 =>
  ldI .i64 ⟨b104, 2, none⟩ w164 fun n181 =>
  ldI .i64 ⟨b104, 3, none⟩ w164 fun n182 =>
  ldI .i64 ⟨b104, 4, none⟩ w164 fun n183 =>
  ldI .i64 ⟨b104, 5, none⟩ w164 fun n184 =>
  ldI .i64 ⟨b104, 6, none⟩ w164 fun n185 =>
  ldI .i64 ⟨b104, 7, none⟩ w164 fun n186 =>
  ldI .i64 ⟨b104, 8, none⟩ w164 fun n187 =>
  ldI .i64 ⟨b104, 9, none⟩ w164 fun n188 =>
  ldI .i64 ⟨b104, 10, none⟩ w164 fun n189 =>
  ldI .u64 ⟨b104, 11, none⟩ w164 fun n190 =>
  ldB ⟨b104, 12, none⟩ w164 fun b191 =>
  eqA P .eql T.t40 (.agg [.int .i64 n166, .int .i64 n167, .int .i64 n168, .int .i64 n169, .int .i64 n170, .int .i64 n171, .int .i64 n172, .int .i64 n173, .int .i64 n174, .int .i64 n175, .int .i64 n176, .int .u64 n177, .bool b178].toArray) (.agg [.int .i64 n179, .int .i64 n180, .int .i64 n181, .int .i64 n182, .int .i64 n183, .int .i64 n184, .int .i64 n185, .int .i64 n186, .int .i64 n187, .int .i64 n188, .int .i64 n189, .int .u64 n190, .bool b191].toArray) w164 fun b192 =>
  J162 (((b192 == ((s140 : ByteArray).toList == (s157 : ByteArray).toList)) : Bool)) w164)
  (J162 ((false : Bool)) w164))
  fun (s193 : crierlaw29_TextApart_J127.S) w194 => crierlaw29_TextApart_j0 Q s193 w194)

def crierlaw29_TextApart (a0_0 : Int) (a0_1 : Int) (a0_2 : Int) (a0_3 : Int) (a0_4 : Int) (a0_5 : Int) (a0_6 : Int) (a0_7 : Int) (a0_8 : Int) (a0_9 : Int) (a0_10 : Int) (a0_11 : Int) (a0_12 : Bool) (a1_0 : Int) (a1_1 : Int) (a1_2 : Int) (a1_3 : Int) (a1_4 : Int) (a1_5 : Int) (a1_6 : Int) (a1_7 : Int) (a1_8 : Int) (a1_9 : Int) (a1_10 : Int) (a1_11 : Int) (a1_12 : Bool) (w : World) (Q : Value → World → Prop) : Prop :=
 alc [.int .i64 a0_0, .int .i64 a0_1, .int .i64 a0_2, .int .i64 a0_3, .int .i64 a0_4, .int .i64 a0_5, .int .i64 a0_6, .int .i64 a0_7, .int .i64 a0_8, .int .i64 a0_9, .int .i64 a0_10, .int .u64 a0_11, .bool a0_12] T.t40 w fun b27 w28 =>
 alc [.int .i64 a1_0, .int .i64 a1_1, .int .i64 a1_2, .int .i64 a1_3, .int .i64 a1_4, .int .i64 a1_5, .int .i64 a1_6, .int .i64 a1_7, .int .i64 a1_8, .int .i64 a1_9, .int .i64 a1_10, .int .u64 a1_11, .bool a1_12] T.t40 w28 fun b29 w30 =>
 ldI .i64 ⟨b27, 0, none⟩ w30 fun n31 =>
 ldI .i64 ⟨b27, 1, none⟩ w30 fun n32 =>
 ldI .i64 ⟨b27, 2, none⟩ w30 fun n33 =>
 ldI .i64 ⟨b27, 3, none⟩ w30 fun n34 =>
 ldI .i64 ⟨b27, 4, none⟩ w30 fun n35 =>
 ldI .i64 ⟨b27, 5, none⟩ w30 fun n36 =>
 ldI .i64 ⟨b27, 6, none⟩ w30 fun n37 =>
 ldI .i64 ⟨b27, 7, none⟩ w30 fun n38 =>
 ldI .i64 ⟨b27, 8, none⟩ w30 fun n39 =>
 ldI .i64 ⟨b27, 9, none⟩ w30 fun n40 =>
 ldI .i64 ⟨b27, 10, none⟩ w30 fun n41 =>
 ldI .u64 ⟨b27, 11, none⟩ w30 fun n42 =>
 ldB ⟨b27, 12, none⟩ w30 fun b43 =>
 CV P F.text_Plain [.agg [.int .i64 n31, .int .i64 n32, .int .i64 n33, .int .i64 n34, .int .i64 n35, .int .i64 n36, .int .i64 n37, .int .i64 n38, .int .i64 n39, .int .i64 n40, .int .i64 n41, .int .u64 n42, .bool b43].toArray] w30 fun v44 w45 =>
 ∃ n46 : Int, ∃ n47 : Int, ∃ n48 : Int, ∃ n49 : Int, ∃ n50 : Int, ∃ n51 : Int, ∃ n52 : Int, ∃ n53 : Int, ∃ n54 : Int, ∃ n55 : Int, ∃ n56 : Int, ∃ n57 : Int, ∃ b58 : Bool, ∃ n59 : Int, v44 = .tuple [.agg [.int .i64 n46, .int .i64 n47, .int .i64 n48, .int .i64 n49, .int .i64 n50, .int .i64 n51, .int .i64 n52, .int .i64 n53, .int .i64 n54, .int .i64 n55, .int .i64 n56, .int .u64 n57, .bool b58].toArray, .int .i64 n59].toArray ∧
 alc [.int .i64 0, .int .i64 0, .int .i64 0, .int .i64 0, .int .i64 0, .int .i64 0, .int .i64 0, .int .i64 0, .int .i64 0, .int .i64 0, .int .i64 0, .int .u64 0, .bool false] T.t40 w45 fun b60 w61 =>
 st1 (.int .i64 n46) ⟨b60, 0, none⟩ w61 fun w62 =>
 st1 (.int .i64 n47) ⟨b60, 1, none⟩ w62 fun w63 =>
 st1 (.int .i64 n48) ⟨b60, 2, none⟩ w63 fun w64 =>
 st1 (.int .i64 n49) ⟨b60, 3, none⟩ w64 fun w65 =>
 st1 (.int .i64 n50) ⟨b60, 4, none⟩ w65 fun w66 =>
 st1 (.int .i64 n51) ⟨b60, 5, none⟩ w66 fun w67 =>
 st1 (.int .i64 n52) ⟨b60, 6, none⟩ w67 fun w68 =>
 st1 (.int .i64 n53) ⟨b60, 7, none⟩ w68 fun w69 =>
 st1 (.int .i64 n54) ⟨b60, 8, none⟩ w69 fun w70 =>
 st1 (.int .i64 n55) ⟨b60, 9, none⟩ w70 fun w71 =>
 st1 (.int .i64 n56) ⟨b60, 10, none⟩ w71 fun w72 =>
 st1 (.int .u64 n57) ⟨b60, 11, none⟩ w72 fun w73 =>
 st1 (.bool b58) ⟨b60, 12, none⟩ w73 fun w74 =>
 ldI .i64 ⟨b29, 0, none⟩ w74 fun n75 =>
 ldI .i64 ⟨b29, 1, none⟩ w74 fun n76 =>
 ldI .i64 ⟨b29, 2, none⟩ w74 fun n77 =>
 ldI .i64 ⟨b29, 3, none⟩ w74 fun n78 =>
 ldI .i64 ⟨b29, 4, none⟩ w74 fun n79 =>
 ldI .i64 ⟨b29, 5, none⟩ w74 fun n80 =>
 ldI .i64 ⟨b29, 6, none⟩ w74 fun n81 =>
 ldI .i64 ⟨b29, 7, none⟩ w74 fun n82 =>
 ldI .i64 ⟨b29, 8, none⟩ w74 fun n83 =>
 ldI .i64 ⟨b29, 9, none⟩ w74 fun n84 =>
 ldI .i64 ⟨b29, 10, none⟩ w74 fun n85 =>
 ldI .u64 ⟨b29, 11, none⟩ w74 fun n86 =>
 ldB ⟨b29, 12, none⟩ w74 fun b87 =>
 CV P F.text_Plain [.agg [.int .i64 n75, .int .i64 n76, .int .i64 n77, .int .i64 n78, .int .i64 n79, .int .i64 n80, .int .i64 n81, .int .i64 n82, .int .i64 n83, .int .i64 n84, .int .i64 n85, .int .u64 n86, .bool b87].toArray] w74 fun v88 w89 =>
 ∃ n90 : Int, ∃ n91 : Int, ∃ n92 : Int, ∃ n93 : Int, ∃ n94 : Int, ∃ n95 : Int, ∃ n96 : Int, ∃ n97 : Int, ∃ n98 : Int, ∃ n99 : Int, ∃ n100 : Int, ∃ n101 : Int, ∃ b102 : Bool, ∃ n103 : Int, v88 = .tuple [.agg [.int .i64 n90, .int .i64 n91, .int .i64 n92, .int .i64 n93, .int .i64 n94, .int .i64 n95, .int .i64 n96, .int .i64 n97, .int .i64 n98, .int .i64 n99, .int .i64 n100, .int .u64 n101, .bool b102].toArray, .int .i64 n103].toArray ∧
 alc [.int .i64 0, .int .i64 0, .int .i64 0, .int .i64 0, .int .i64 0, .int .i64 0, .int .i64 0, .int .i64 0, .int .i64 0, .int .i64 0, .int .i64 0, .int .u64 0, .bool false] T.t40 w89 fun b104 w105 =>
 st1 (.int .i64 n90) ⟨b104, 0, none⟩ w105 fun w106 =>
 st1 (.int .i64 n91) ⟨b104, 1, none⟩ w106 fun w107 =>
 st1 (.int .i64 n92) ⟨b104, 2, none⟩ w107 fun w108 =>
 st1 (.int .i64 n93) ⟨b104, 3, none⟩ w108 fun w109 =>
 st1 (.int .i64 n94) ⟨b104, 4, none⟩ w109 fun w110 =>
 st1 (.int .i64 n95) ⟨b104, 5, none⟩ w110 fun w111 =>
 st1 (.int .i64 n96) ⟨b104, 6, none⟩ w111 fun w112 =>
 st1 (.int .i64 n97) ⟨b104, 7, none⟩ w112 fun w113 =>
 st1 (.int .i64 n98) ⟨b104, 8, none⟩ w113 fun w114 =>
 st1 (.int .i64 n99) ⟨b104, 9, none⟩ w114 fun w115 =>
 st1 (.int .i64 n100) ⟨b104, 10, none⟩ w115 fun w116 =>
 st1 (.int .u64 n101) ⟨b104, 11, none⟩ w116 fun w117 =>
 st1 (.bool b102) ⟨b104, 12, none⟩ w117 fun w118 =>
 JoinT (fun (J195 : crierlaw29_TextApart_J30.S → World → Prop) =>
  cnd (n59 != 0)
  (J195 ((true : Bool)) w118)
  (J195 (((n103 != 0) : Bool)) w118))
  fun (s196 : crierlaw29_TextApart_J30.S) w197 => crierlaw29_TextApart_j1 Q b60 b104 s196 w197
def crierlaw29_TextApart_ann : Nat → Option LoopSpec := fun
  | 30 => some crierlaw29_TextApart_J30
  | 127 => some crierlaw29_TextApart_J127
  | _ => none
theorem crierlaw29_TextApart_eq (a0_0 : Int) (a0_1 : Int) (a0_2 : Int) (a0_3 : Int) (a0_4 : Int) (a0_5 : Int) (a0_6 : Int) (a0_7 : Int) (a0_8 : Int) (a0_9 : Int) (a0_10 : Int) (a0_11 : Int) (a0_12 : Bool) (a1_0 : Int) (a1_1 : Int) (a1_2 : Int) (a1_3 : Int) (a1_4 : Int) (a1_5 : Int) (a1_6 : Int) (a1_7 : Int) (a1_8 : Int) (a1_9 : Int) (a1_10 : Int) (a1_11 : Int) (a1_12 : Bool) (w : World) (Q : Value → World → Prop) : fnX P crierlaw29_TextApart_ann Tryd.f7 [.agg [.int .i64 a0_0, .int .i64 a0_1, .int .i64 a0_2, .int .i64 a0_3, .int .i64 a0_4, .int .i64 a0_5, .int .i64 a0_6, .int .i64 a0_7, .int .i64 a0_8, .int .i64 a0_9, .int .i64 a0_10, .int .u64 a0_11, .bool a0_12].toArray, .agg [.int .i64 a1_0, .int .i64 a1_1, .int .i64 a1_2, .int .i64 a1_3, .int .i64 a1_4, .int .i64 a1_5, .int .i64 a1_6, .int .i64 a1_7, .int .i64 a1_8, .int .i64 a1_9, .int .i64 a1_10, .int .u64 a1_11, .bool a1_12].toArray] w Q = crierlaw29_TextApart a0_0 a0_1 a0_2 a0_3 a0_4 a0_5 a0_6 a0_7 a0_8 a0_9 a0_10 a0_11 a0_12 a1_0 a1_1 a1_2 a1_3 a1_4 a1_5 a1_6 a1_7 a1_8 a1_9 a1_10 a1_11 a1_12 w Q := by kernel_rfl
theorem crierlaw29_TextApart_cv {a0_0 : Int} {a0_1 : Int} {a0_2 : Int} {a0_3 : Int} {a0_4 : Int} {a0_5 : Int} {a0_6 : Int} {a0_7 : Int} {a0_8 : Int} {a0_9 : Int} {a0_10 : Int} {a0_11 : Int} {a0_12 : Bool} {a1_0 : Int} {a1_1 : Int} {a1_2 : Int} {a1_3 : Int} {a1_4 : Int} {a1_5 : Int} {a1_6 : Int} {a1_7 : Int} {a1_8 : Int} {a1_9 : Int} {a1_10 : Int} {a1_11 : Int} {a1_12 : Bool} {w : World} {Q : Value → World → Prop} (h : crierlaw29_TextApart a0_0 a0_1 a0_2 a0_3 a0_4 a0_5 a0_6 a0_7 a0_8 a0_9 a0_10 a0_11 a0_12 a1_0 a1_1 a1_2 a1_3 a1_4 a1_5 a1_6 a1_7 a1_8 a1_9 a1_10 a1_11 a1_12 w Q) : CV P F.crierlaw29_TextApart [.agg [.int .i64 a0_0, .int .i64 a0_1, .int .i64 a0_2, .int .i64 a0_3, .int .i64 a0_4, .int .i64 a0_5, .int .i64 a0_6, .int .i64 a0_7, .int .i64 a0_8, .int .i64 a0_9, .int .i64 a0_10, .int .u64 a0_11, .bool a0_12].toArray, .agg [.int .i64 a1_0, .int .i64 a1_1, .int .i64 a1_2, .int .i64 a1_3, .int .i64 a1_4, .int .i64 a1_5, .int .i64 a1_6, .int .i64 a1_7, .int .i64 a1_8, .int .i64 a1_9, .int .i64 a1_10, .int .u64 a1_11, .bool a1_12].toArray] w Q := CV_of mixed Tryd.func7 (crierlaw29_TextApart_eq a0_0 a0_1 a0_2 a0_3 a0_4 a0_5 a0_6 a0_7 a0_8 a0_9 a0_10 a0_11 a0_12 a1_0 a1_1 a1_2 a1_3 a1_4 a1_5 a1_6 a1_7 a1_8 a1_9 a1_10 a1_11 a1_12 w Q ▸ h)

/- 8 crier/crierlaw29.TextTells -/
def crierlaw29_TextTells_L250 : LoopSpec where
  S := Int
  emb := fun s => [(6, .int .i64 s)]
  ext := fun t => match getL t 6 with
    | some (.int .i64 y15) => some (y15)
    | _ => none
  slots := [6]
  fits := fun _ => rfl
  ok := by
    intro t s h x hx
    (try dsimp only at h hx)
    split at h
    · cases h
      simp only [List.mem_cons, List.not_mem_nil, or_false] at hx
      rcases hx with rfl <;> assumption
    · cases h

def crierlaw29_TextTells_J32038 : LoopSpec where
  S := Unit
  emb := fun _ => []
  ext := fun _ => some ()
  slots := []
  fits := fun _ => rfl
  ok := by
    intro t s h x hx; cases hx

def crierlaw29_TextTells_j0 (Q : Value → World → Prop) (b4 : Nat) (w38 : World) : Prop :=
 ldB ⟨b4, 0, none⟩ w38 fun b39 =>
 Q (.bool b39) w38

def crierlaw29_TextTells_r1 (b4 : Nat) (b46 : Nat) (l52 : Nat) (r53 : Loop) (vs54 : List Value) (w55 : World) (Q56 : Value → World → Prop) : Prop :=
 X.b2 vs54 fun v57 v58 =>
 ∃ n59 : Int, v57 = .int .i64 n59 ∧
 recAt w55 l52 r53 .ready none ∧ setR w55 l52 r53 .busy none fun w60 =>
 ldI .i64 ⟨b46, 0, none⟩ w60 fun n61 =>
 st1 (.int .i64 (IntKind.i64.wrap (n61 + 1))) ⟨b46, 0, none⟩ w60 fun w62 =>
 ldI .i64 ⟨b46, 0, none⟩ w62 fun n63 =>
 cnd (n59 != n63)
 (st1 (.bool false) ⟨b4, 0, none⟩ w62 fun w64 =>
 recAt w64 l52 r53 .busy none ∧ setR w64 l52 r53 .done (some .ret) fun w65 => Q56 (.bool false) w65)
 (recAt w62 l52 r53 .busy none ∧ setR w62 l52 r53 .ready none fun w66 => Q56 (.bool true) w66)

def crierlaw29_TextTells_J255 : LoopSpec where
  S := Unit
  emb := fun _ => []
  ext := fun _ => some ()
  slots := []
  fits := fun _ => rfl
  ok := by
    intro t s h x hx; cases hx

def crierlaw29_TextTells_j2 (Q : Value → World → Prop) (b4 : Nat) (mk67 : List Deferred) (w70 : World) : Prop :=
 takeX (mk67 ++ []) w70 fun w71 =>
 ldB ⟨b4, 0, none⟩ w71 fun b72 =>
 Q (.bool b72) w71

def crierlaw29_TextTells_l3 (a0 : Option Addr) (a0_n : Nat) (Q : Value → World → Prop) (b4 : Nat) (b8 : Bool) (s13 : ByteArray) (n14 : Int) (n16 : Int) (w17 : World) (A18 : crierlaw29_TextTells_L250.S → World → Prop) : Prop :=
 cnd (decide (n16 < ((a0_n : Nat) : Int)))
 (ix n16 a0_n fun j19 => nn a0 fun a20 =>
 ldI .i64 (a20.add (j19 * 13)) w17 fun n21 =>
 ldI .i64 ((a20.add (j19 * 13)).add 1) w17 fun n22 =>
 ldI .i64 ((a20.add (j19 * 13)).add 2) w17 fun n23 =>
 ldI .i64 ((a20.add (j19 * 13)).add 3) w17 fun n24 =>
 ldI .i64 ((a20.add (j19 * 13)).add 4) w17 fun n25 =>
 ldI .i64 ((a20.add (j19 * 13)).add 5) w17 fun n26 =>
 ldI .i64 ((a20.add (j19 * 13)).add 6) w17 fun n27 =>
 ldI .i64 ((a20.add (j19 * 13)).add 7) w17 fun n28 =>
 ldI .i64 ((a20.add (j19 * 13)).add 8) w17 fun n29 =>
 ldI .i64 ((a20.add (j19 * 13)).add 9) w17 fun n30 =>
 ldI .i64 ((a20.add (j19 * 13)).add 10) w17 fun n31 =>
 ldI .u64 ((a20.add (j19 * 13)).add 11) w17 fun n32 =>
 ldB ((a20.add (j19 * 13)).add 12) w17 fun b33 =>
 CV P F.text_Print [.agg [.int .i64 n21, .int .i64 n22, .int .i64 n23, .int .i64 n24, .int .i64 n25, .int .i64 n26, .int .i64 n27, .int .i64 n28, .int .i64 n29, .int .i64 n30, .int .i64 n31, .int .u64 n32, .bool b33].toArray] w17 fun v34 w35 =>
 ∃ s36 : ByteArray, ∃ n37 : Int, v34 = .tuple [.string s36, .int .i64 n37].toArray ∧
 cnd (n37 != 0)
 (JoinT (fun (J40 : crierlaw29_TextTells_J32038.S → World → Prop) =>
  cnd b8
  (cnd (n14 == n37)
  (st1 (.bool ((s13 : ByteArray).toList == (⟨#[]⟩ : ByteArray).toList)) ⟨b4, 0, none⟩ w35 fun w41 =>
  J40 () w41)
  (st1 (.bool false) ⟨b4, 0, none⟩ w35 fun w42 =>
  J40 () w42))
  (st1 (.bool false) ⟨b4, 0, none⟩ w35 fun w43 =>
  J40 () w43))
  fun (s44 : crierlaw29_TextTells_J32038.S) w45 => crierlaw29_TextTells_j0 Q b4 w45)
 (A18 (((IntKind.i64.wrap (n16 + 1)) : Int)) w35))
 (alc [.int .i64 0] T.t3 w17 fun b46 w47 =>
 st1 (.int .i64 0) ⟨b46, 0, none⟩ w47 fun w48 =>
 CV P F.text_Lines [.string s13] w48 fun v49 w50 =>
 ∃ v51 : Value, v49 = v51 ∧
 RF P none 2 (v51) w50 (fun l52 r53 vs54 w55 Q56 => crierlaw29_TextTells_r1 b4 b46 l52 r53 vs54 w55 Q56) fun mk67 jp68 w69 =>
 jmpX jp68
 (JoinT (fun (J73 : crierlaw29_TextTells_J255.S → World → Prop) =>
  cnd b8
  (cnd (n14 == 0)
  (ldI .i64 ⟨b46, 0, none⟩ w69 fun n74 =>
  st1 (.bool (n74 == ((a0_n : Nat) : Int))) ⟨b4, 0, none⟩ w69 fun w75 =>
  J73 () w75)
  (st1 (.bool false) ⟨b4, 0, none⟩ w69 fun w76 =>
  J73 () w76))
  (st1 (.bool false) ⟨b4, 0, none⟩ w69 fun w77 =>
  J73 () w77))
  fun (s78 : crierlaw29_TextTells_J255.S) w79 => crierlaw29_TextTells_j2 Q b4 mk67 w79)
 (takeX (mk67 ++ []) w69 fun w80 =>
 ldB ⟨b4, 0, none⟩ w80 fun b81 =>
 Q (.bool b81) w80)
 fun id82 => False)

def crierlaw29_TextTells (a0 : Option Addr) (a0_n : Nat) (a0_c : Nat) (w : World) (Q : Value → World → Prop) : Prop :=
 alc [.bool false] T.t4 w fun b4 w5 =>
 CV P F.crierlaw29_awake [] w5 fun v6 w7 =>
 ∃ b8 : Bool, v6 = .bool b8 ∧
 cnd (!b8)
 (st1 (.bool false) ⟨b4, 0, none⟩ w7 fun w9 =>
 ldB ⟨b4, 0, none⟩ w9 fun b10 =>
 Q (.bool b10) w9)
 (CV P F.text_Text [.slice a0 a0_n a0_c] w7 fun v11 w12 =>
 ∃ s13 : ByteArray, ∃ n14 : Int, v11 = .tuple [.string s13, .int .i64 n14].toArray ∧
 LoopT (fun (s83 : crierlaw29_TextTells_L250.S) w84 A85 => crierlaw29_TextTells_l3 a0 a0_n Q b4 b8 s13 n14 s83 w84 A85) ((0 : Int)) w12)
def crierlaw29_TextTells_ann : Nat → Option LoopSpec := fun
  | 250 => some crierlaw29_TextTells_L250
  | 32038 => some crierlaw29_TextTells_J32038
  | 255 => some crierlaw29_TextTells_J255
  | _ => none
theorem crierlaw29_TextTells_eq (a0 : Option Addr) (a0_n : Nat) (a0_c : Nat) (w : World) (Q : Value → World → Prop) : fnX P crierlaw29_TextTells_ann Tryd.f8 [.slice a0 a0_n a0_c] w Q = crierlaw29_TextTells a0 a0_n a0_c w Q := by kernel_rfl
theorem crierlaw29_TextTells_cv {a0 : Option Addr} {a0_n : Nat} {a0_c : Nat} {w : World} {Q : Value → World → Prop} (h : crierlaw29_TextTells a0 a0_n a0_c w Q) : CV P F.crierlaw29_TextTells [.slice a0 a0_n a0_c] w Q := CV_of mixed Tryd.func8 (crierlaw29_TextTells_eq a0 a0_n a0_c w Q ▸ h)

/- 9 crier/crierlaw29.TextScripts -/
def crierlaw29_TextScripts_L250 : LoopSpec where
  S := (Option Addr × Nat × Nat) × Int
  emb := fun s => [(6, .slice s.1.1 s.1.2.1 s.1.2.2), (7, .int .i64 s.2)]
  ext := fun t => match getL t 6, getL t 7 with
    | some (.slice y12 y13 y14), some (.int .i64 y15) => some ((y12, y13, y14), y15)
    | _, _ => none
  slots := [6, 7]
  fits := fun _ => rfl
  ok := by
    intro t s h x hx
    (try dsimp only at h hx)
    split at h
    · cases h
      simp only [List.mem_cons, List.not_mem_nil, or_false] at hx
      rcases hx with rfl | rfl <;> assumption
    · cases h

def crierlaw29_TextScripts_J2002 : LoopSpec where
  S := (Option Addr × Nat × Nat)
  emb := fun s => [(6, .slice s.1 s.2.1 s.2.2)]
  ext := fun t => match getL t 6 with
    | some (.slice y22 y23 y24) => some ((y22, y23, y24))
    | _ => none
  slots := [6]
  fits := fun _ => rfl
  ok := by
    intro t s h x hx
    (try dsimp only at h hx)
    split at h
    · cases h
      simp only [List.mem_cons, List.not_mem_nil, or_false] at hx
      rcases hx with rfl <;> assumption
    · cases h

def crierlaw29_TextScripts_j0 (n19 : Int) (A21 : crierlaw29_TextScripts_L250.S → World → Prop) (p25 : Option Addr) (l26 : Nat) (c27 : Nat) (w28 : World) : Prop :=
 A21 (((p25 : Option Addr), (l26 : Nat), (c27 : Nat)), ((IntKind.i64.wrap (n19 + 1)) : Int)) w28

def crierlaw29_TextScripts_J32746 : LoopSpec where
  S := Unit
  emb := fun _ => []
  ext := fun _ => some ()
  slots := []
  fits := fun _ => rfl
  ok := by
    intro t s h x hx; cases hx

def crierlaw29_TextScripts_j1 (b101 : Nat) (b104 : Nat) (l110 : Nat) (r111 : Loop) (Q114 : Value → World → Prop) (s117 : ByteArray) (w119 : World) : Prop :=
 ldS ⟨b101, 0, none⟩ w119 fun s120 =>
 (((s120 : ByteArray).size + (s117 : ByteArray).size : Nat) : Int) ≤ IntKind.i64.max ∧
 ((((s120 ++ s117) : ByteArray).size + (⟨#[10]⟩ : ByteArray).size : Nat) : Int) ≤ IntKind.i64.max ∧
 st1 (.string ((s120 ++ s117) ++ ⟨#[10]⟩)) ⟨b101, 0, none⟩ w119 fun w121 =>
 ldI .i64 ⟨b104, 0, none⟩ w121 fun n122 =>
 st1 (.int .i64 (IntKind.i64.wrap (n122 + 1))) ⟨b104, 0, none⟩ w121 fun w123 =>
 recAt w123 l110 r111 .busy none ∧ setR w123 l110 r111 .ready none fun w124 => Q114 (.bool true) w124

def crierlaw29_TextScripts_J65492 : LoopSpec where
  S := Bool
  emb := fun s => [(65, .bool s)]
  ext := fun t => match getL t 65 with
    | some (.bool y126) => some (y126)
    | _ => none
  slots := [65]
  fits := fun _ => rfl
  ok := by
    intro t s h x hx
    (try dsimp only at h hx)
    split at h
    · cases h
      simp only [List.mem_cons, List.not_mem_nil, or_false] at hx
      rcases hx with rfl <;> assumption
    · cases h

def crierlaw29_TextScripts_j2 (b101 : Nat) (J125 : crierlaw29_TextScripts_J32746.S → World → Prop) (b127 : Bool) (w128 : World) : Prop :=
 cnd b127
 (ldS ⟨b101, 0, none⟩ w128 fun s129 =>
 (((s129 : ByteArray).size + (⟨#[35, 32, 111, 100, 100, 10, 10]⟩ : ByteArray).size : Nat) : Int) ≤ IntKind.i64.max ∧
 st1 (.string (s129 ++ ⟨#[35, 32, 111, 100, 100, 10, 10]⟩)) ⟨b101, 0, none⟩ w128 fun w130 =>
 J125 () w130)
 (J125 () w128)

def crierlaw29_TextScripts_r3 (b7 : Nat) (b101 : Nat) (b104 : Nat) (l110 : Nat) (r111 : Loop) (vs112 : List Value) (w113 : World) (Q114 : Value → World → Prop) : Prop :=
 X.b2 vs112 fun v115 v116 =>
 ∃ s117 : ByteArray, v116 = .string s117 ∧
 recAt w113 l110 r111 .ready none ∧ setR w113 l110 r111 .busy none fun w118 =>
 JoinT (fun (J125 : crierlaw29_TextScripts_J32746.S → World → Prop) =>
  JoinT (fun (J131 : crierlaw29_TextScripts_J65492.S → World → Prop) =>
   ldI .i64 ⟨b104, 0, none⟩ w118 fun n132 =>
   ldL ⟨b7, 0, none⟩ w118 fun p133 l134 c135 =>
   cnd (decide (n132 < ((l134 : Nat) : Int)))
   (ldL ⟨b7, 0, none⟩ w118 fun p136 l137 c138 =>
   ldI .i64 ⟨b104, 0, none⟩ w118 fun n139 =>
   ix n139 l137 fun j140 => nn p136 fun a141 =>
   ldB (a141.add (j140 * 1)) w118 fun b142 =>
   J131 ((b142 : Bool)) w118)
   (J131 ((false : Bool)) w118))
   fun (s143 : crierlaw29_TextScripts_J65492.S) w144 => crierlaw29_TextScripts_j2 b101 J125 s143 w144)
  fun (s145 : crierlaw29_TextScripts_J32746.S) w146 => crierlaw29_TextScripts_j1 b101 b104 l110 r111 Q114 s117 w146

def crierlaw29_TextScripts_L16378 : LoopSpec where
  S := Int
  emb := fun s => [(78, .int .i64 s)]
  ext := fun t => match getL t 78 with
    | some (.int .i64 y153) => some (y153)
    | _ => none
  slots := [78]
  fits := fun _ => rfl
  ok := by
    intro t s h x hx
    (try dsimp only at h hx)
    split at h
    · cases h
      simp only [List.mem_cons, List.not_mem_nil, or_false] at hx
      rcases hx with rfl <;> assumption
    · cases h

def crierlaw29_TextScripts_J4192870 : LoopSpec where
  S := Bool
  emb := fun s => [(100, .bool s)]
  ext := fun t => match getL t 100 with
    | some (.bool y166) => some (y166)
    | _ => none
  slots := [100]
  fits := fun _ => rfl
  ok := by
    intro t s h x hx
    (try dsimp only at h hx)
    split at h
    · cases h
      simp only [List.mem_cons, List.not_mem_nil, or_false] at hx
      rcases hx with rfl <;> assumption
    · cases h

def crierlaw29_TextScripts_L16771486 : LoopSpec where
  S := Int
  emb := fun s => [(21, .int .i64 s)]
  ext := fun t => match getL t 21 with
    | some (.int .i64 y170) => some (y170)
    | _ => none
  slots := [21]
  fits := fun _ => rfl
  ok := by
    intro t s h x hx
    (try dsimp only at h hx)
    split at h
    · cases h
      simp only [List.mem_cons, List.not_mem_nil, or_false] at hx
      rcases hx with rfl <;> assumption
    · cases h

def crierlaw29_TextScripts_l4 (Q : Value → World → Prop) (p16 : Option Addr) (l17 : Nat) (mk147 : List Deferred) (n154 : Int) (A156 : crierlaw29_TextScripts_L16378.S → World → Prop) (p161 : Option Addr) (l162 : Nat) (n171 : Int) (w172 : World) (A173 : crierlaw29_TextScripts_L16771486.S → World → Prop) : Prop :=
 cnd (decide (n171 < ((l162 : Nat) : Int)))
 (drw w172 fun w174 =>
 ix n171 l162 fun j175 => nn p161 fun a176 =>
 ldI .i64 (a176.add (j175 * 13)) w174 fun n177 =>
 ldI .i64 ((a176.add (j175 * 13)).add 1) w174 fun n178 =>
 ldI .i64 ((a176.add (j175 * 13)).add 2) w174 fun n179 =>
 ldI .i64 ((a176.add (j175 * 13)).add 3) w174 fun n180 =>
 ldI .i64 ((a176.add (j175 * 13)).add 4) w174 fun n181 =>
 ldI .i64 ((a176.add (j175 * 13)).add 5) w174 fun n182 =>
 ldI .i64 ((a176.add (j175 * 13)).add 6) w174 fun n183 =>
 ldI .i64 ((a176.add (j175 * 13)).add 7) w174 fun n184 =>
 ldI .i64 ((a176.add (j175 * 13)).add 8) w174 fun n185 =>
 ldI .i64 ((a176.add (j175 * 13)).add 9) w174 fun n186 =>
 ldI .i64 ((a176.add (j175 * 13)).add 10) w174 fun n187 =>
 ldI .u64 ((a176.add (j175 * 13)).add 11) w174 fun n188 =>
 ldB ((a176.add (j175 * 13)).add 12) w174 fun b189 =>
 ix n171 l17 fun j190 => nn p16 fun a191 =>
 ldI .i64 (a191.add (j190 * 13)) w174 fun n192 =>
 ldI .i64 ((a191.add (j190 * 13)).add 1) w174 fun n193 =>
 ldI .i64 ((a191.add (j190 * 13)).add 2) w174 fun n194 =>
 ldI .i64 ((a191.add (j190 * 13)).add 3) w174 fun n195 =>
 ldI .i64 ((a191.add (j190 * 13)).add 4) w174 fun n196 =>
 ldI .i64 ((a191.add (j190 * 13)).add 5) w174 fun n197 =>
 ldI .i64 ((a191.add (j190 * 13)).add 6) w174 fun n198 =>
 ldI .i64 ((a191.add (j190 * 13)).add 7) w174 fun n199 =>
 ldI .i64 ((a191.add (j190 * 13)).add 8) w174 fun n200 =>
 ldI .i64 ((a191.add (j190 * 13)).add 9) w174 fun n201 =>
 ldI .i64 ((a191.add (j190 * 13)).add 10) w174 fun n202 =>
 ldI .u64 ((a191.add (j190 * 13)).add 11) w174 fun n203 =>
 ldB ((a191.add (j190 * 13)).add 12) w174 fun b204 =>
 eqA P .neq T.t40 (.agg [.int .i64 n177, .int .i64 n178, .int .i64 n179, .int .i64 n180, .int .i64 n181, .int .i64 n182, .int .i64 n183, .int .i64 n184, .int .i64 n185, .int .i64 n186, .int .i64 n187, .int .u64 n188, .bool b189].toArray) (.agg [.int .i64 n192, .int .i64 n193, .int .i64 n194, .int .i64 n195, .int .i64 n196, .int .i64 n197, .int .i64 n198, .int .i64 n199, .int .i64 n200, .int .i64 n201, .int .i64 n202, .int .u64 n203, .bool b204].toArray) w174 fun b205 =>
 cnd b205
 (takeX (mk147 ++ []) w174 fun w206 =>
 Q (.bool false) w206)
 (A173 (((IntKind.i64.wrap (n171 + 1)) : Int)) w174))
 (A156 (((IntKind.i64.wrap (n154 + 1)) : Int)) w172)

def crierlaw29_TextScripts_j5 (Q : Value → World → Prop) (p16 : Option Addr) (l17 : Nat) (mk147 : List Deferred) (n154 : Int) (A156 : crierlaw29_TextScripts_L16378.S → World → Prop) (p161 : Option Addr) (l162 : Nat) (b167 : Bool) (w168 : World) : Prop :=
 cnd b167
 (takeX (mk147 ++ []) w168 fun w169 =>
 Q (.bool false) w169)
 (LoopT (fun (s207 : crierlaw29_TextScripts_L16771486.S) w208 A209 => crierlaw29_TextScripts_l4 Q p16 l17 mk147 n154 A156 p161 l162 s207 w208 A209) ((0 : Int)) w168)

def crierlaw29_TextScripts_J4095 : LoopSpec where
  S := Bool
  emb := fun s => [(4, .bool s)]
  ext := fun t => match getL t 4 with
    | some (.bool y213) => some (y213)
    | _ => none
  slots := [4]
  fits := fun _ => rfl
  ok := by
    intro t s h x hx
    (try dsimp only at h hx)
    split at h
    · cases h
      simp only [List.mem_cons, List.not_mem_nil, or_false] at hx
      rcases hx with rfl <;> assumption
    · cases h

def crierlaw29_TextScripts_j6 (Q : Value → World → Prop) (mk147 : List Deferred) (b214 : Bool) (w215 : World) : Prop :=
 takeX (mk147 ++ []) w215 fun w216 =>
 Q (.bool b214) w216

def crierlaw29_TextScripts_l7 (Q : Value → World → Prop) (b11 : Bool) (p16 : Option Addr) (l17 : Nat) (b104 : Nat) (mk147 : List Deferred) (b151 : Nat) (n154 : Int) (w155 : World) (A156 : crierlaw29_TextScripts_L16378.S → World → Prop) : Prop :=
 cnd (decide (n154 < ((2 : Nat) : Int)))
 (ix n154 2 fun j157 =>
 ldS (Addr.add ⟨b151, 0, none⟩ (j157 * 1)) w155 fun s158 =>
 CV P F.text_Script [.string s158] w155 fun v159 w160 =>
 ∃ (p161 : Option Addr) (l162 c163 : Nat), ∃ n164 : Int, ∃ n165 : Int, v159 = .tuple [.slice p161 l162 c163, .int .i64 n164, .int .i64 n165].toArray ∧
 JoinT (fun (J210 : crierlaw29_TextScripts_J4192870.S → World → Prop) =>
  cnd (n165 != 0)
  (J210 ((true : Bool)) w160)
  (cnd (n164 != 0)
  (J210 ((true : Bool)) w160)
  (J210 (((((l162 : Nat) : Int) != ((l17 : Nat) : Int)) : Bool)) w160)))
  fun (s211 : crierlaw29_TextScripts_J4192870.S) w212 => crierlaw29_TextScripts_j5 Q p16 l17 mk147 n154 A156 p161 l162 s211 w212)
 (JoinT (fun (J217 : crierlaw29_TextScripts_J4095.S → World → Prop) =>
  cnd b11
  (ldI .i64 ⟨b104, 0, none⟩ w155 fun n218 =>
  J217 (((n218 == ((l17 : Nat) : Int)) : Bool)) w155)
  (J217 ((false : Bool)) w155))
  fun (s219 : crierlaw29_TextScripts_J4095.S) w220 => crierlaw29_TextScripts_j6 Q mk147 s219 w220)

def crierlaw29_TextScripts_l8 (a0 : Option Addr) (a0_n : Nat) (Q : Value → World → Prop) (b7 : Nat) (b11 : Bool) (p16 : Option Addr) (l17 : Nat) (c18 : Nat) (n19 : Int) (w20 : World) (A21 : crierlaw29_TextScripts_L250.S → World → Prop) : Prop :=
 cnd (decide (n19 < ((a0_n : Nat) : Int)))
 (JoinT (fun (J29 : crierlaw29_TextScripts_J2002.S → World → Prop) =>
  ix n19 a0_n fun j30 => nn a0 fun a31 =>
  ldI .i64 (a31.add (j30 * 13)) w20 fun n32 =>
  ldI .i64 ((a31.add (j30 * 13)).add 1) w20 fun n33 =>
  ldI .i64 ((a31.add (j30 * 13)).add 2) w20 fun n34 =>
  ldI .i64 ((a31.add (j30 * 13)).add 3) w20 fun n35 =>
  ldI .i64 ((a31.add (j30 * 13)).add 4) w20 fun n36 =>
  ldI .i64 ((a31.add (j30 * 13)).add 5) w20 fun n37 =>
  ldI .i64 ((a31.add (j30 * 13)).add 6) w20 fun n38 =>
  ldI .i64 ((a31.add (j30 * 13)).add 7) w20 fun n39 =>
  ldI .i64 ((a31.add (j30 * 13)).add 8) w20 fun n40 =>
  ldI .i64 ((a31.add (j30 * 13)).add 9) w20 fun n41 =>
  ldI .i64 ((a31.add (j30 * 13)).add 10) w20 fun n42 =>
  ldI .u64 ((a31.add (j30 * 13)).add 11) w20 fun n43 =>
  ldB ((a31.add (j30 * 13)).add 12) w20 fun b44 =>
  CV P F.text_Plain [.agg [.int .i64 n32, .int .i64 n33, .int .i64 n34, .int .i64 n35, .int .i64 n36, .int .i64 n37, .int .i64 n38, .int .i64 n39, .int .i64 n40, .int .i64 n41, .int .i64 n42, .int .u64 n43, .bool b44].toArray] w20 fun v45 w46 =>
  ∃ n47 : Int, ∃ n48 : Int, ∃ n49 : Int, ∃ n50 : Int, ∃ n51 : Int, ∃ n52 : Int, ∃ n53 : Int, ∃ n54 : Int, ∃ n55 : Int, ∃ n56 : Int, ∃ n57 : Int, ∃ n58 : Int, ∃ b59 : Bool, ∃ n60 : Int, v45 = .tuple [.agg [.int .i64 n47, .int .i64 n48, .int .i64 n49, .int .i64 n50, .int .i64 n51, .int .i64 n52, .int .i64 n53, .int .i64 n54, .int .i64 n55, .int .i64 n56, .int .i64 n57, .int .u64 n58, .bool b59].toArray, .int .i64 n60].toArray ∧
  alc [.int .i64 0, .int .i64 0, .int .i64 0, .int .i64 0, .int .i64 0, .int .i64 0, .int .i64 0, .int .i64 0, .int .i64 0, .int .i64 0, .int .i64 0, .int .u64 0, .bool false] T.t40 w46 fun b61 w62 =>
  st1 (.int .i64 n47) ⟨b61, 0, none⟩ w62 fun w63 =>
  st1 (.int .i64 n48) ⟨b61, 1, none⟩ w63 fun w64 =>
  st1 (.int .i64 n49) ⟨b61, 2, none⟩ w64 fun w65 =>
  st1 (.int .i64 n50) ⟨b61, 3, none⟩ w65 fun w66 =>
  st1 (.int .i64 n51) ⟨b61, 4, none⟩ w66 fun w67 =>
  st1 (.int .i64 n52) ⟨b61, 5, none⟩ w67 fun w68 =>
  st1 (.int .i64 n53) ⟨b61, 6, none⟩ w68 fun w69 =>
  st1 (.int .i64 n54) ⟨b61, 7, none⟩ w69 fun w70 =>
  st1 (.int .i64 n55) ⟨b61, 8, none⟩ w70 fun w71 =>
  st1 (.int .i64 n56) ⟨b61, 9, none⟩ w71 fun w72 =>
  st1 (.int .i64 n57) ⟨b61, 10, none⟩ w72 fun w73 =>
  st1 (.int .u64 n58) ⟨b61, 11, none⟩ w73 fun w74 =>
  st1 (.bool b59) ⟨b61, 12, none⟩ w74 fun w75 =>
  cnd (n60 == 0)
  (ldI .i64 ⟨b61, 0, none⟩ w75 fun n76 =>
  ldI .i64 ⟨b61, 1, none⟩ w75 fun n77 =>
  ldI .i64 ⟨b61, 2, none⟩ w75 fun n78 =>
  ldI .i64 ⟨b61, 3, none⟩ w75 fun n79 =>
  ldI .i64 ⟨b61, 4, none⟩ w75 fun n80 =>
  ldI .i64 ⟨b61, 5, none⟩ w75 fun n81 =>
  ldI .i64 ⟨b61, 6, none⟩ w75 fun n82 =>
  ldI .i64 ⟨b61, 7, none⟩ w75 fun n83 =>
  ldI .i64 ⟨b61, 8, none⟩ w75 fun n84 =>
  ldI .i64 ⟨b61, 9, none⟩ w75 fun n85 =>
  ldI .i64 ⟨b61, 10, none⟩ w75 fun n86 =>
  ldI .u64 ⟨b61, 11, none⟩ w75 fun n87 =>
  ldB ⟨b61, 12, none⟩ w75 fun b88 =>
  alc [.int .i64 n76, .int .i64 n77, .int .i64 n78, .int .i64 n79, .int .i64 n80, .int .i64 n81, .int .i64 n82, .int .i64 n83, .int .i64 n84, .int .i64 n85, .int .i64 n86, .int .u64 n87, .bool b88] T.t40 w75 fun b89 w90 =>
  runS P (Builtin.append_ #[T.t31, T.t31] T.t31 [.slice p16 l17 c18, .slice (some ⟨b89, 0, none⟩) 1 1].toArray) w90 fun p91 l92 c93 w94 =>
  J29 (((p91 : Option Addr), (l92 : Nat), (c93 : Nat))) w94)
  (J29 (((p16 : Option Addr), (l17 : Nat), (c18 : Nat))) w75))
  fun (s95 : crierlaw29_TextScripts_J2002.S) w96 => crierlaw29_TextScripts_j0 n19 A21 s95.1 s95.2.1 s95.2.2 w96)
 (CV P F.text_Text [.slice p16 l17 c18] w20 fun v97 w98 =>
 ∃ s99 : ByteArray, ∃ n100 : Int, v97 = .tuple [.string s99, .int .i64 n100].toArray ∧
 cnd (n100 != 0)
 (Q (.bool false) w98)
 (alc [.string ⟨#[]⟩] T.t9 w98 fun b101 w102 =>
 st1 (.string ⟨#[]⟩) ⟨b101, 0, none⟩ w102 fun w103 =>
 alc [.int .i64 0] T.t3 w103 fun b104 w105 =>
 st1 (.int .i64 0) ⟨b104, 0, none⟩ w105 fun w106 =>
 CV P F.text_Lines [.string s99] w106 fun v107 w108 =>
 ∃ v109 : Value, v107 = v109 ∧
 RF P none 2 (v109) w108 (fun l110 r111 vs112 w113 Q114 => crierlaw29_TextScripts_r3 b7 b101 b104 l110 r111 vs112 w113 Q114) fun mk147 jp148 w149 =>
 jmpX jp148
 (ldS ⟨b101, 0, none⟩ w149 fun s150 =>
 alc [.string s99, .string s150] T.t9 w149 fun b151 w152 =>
 LoopT (fun (s221 : crierlaw29_TextScripts_L16378.S) w222 A223 => crierlaw29_TextScripts_l7 Q b11 p16 l17 b104 mk147 b151 s221 w222 A223) ((0 : Int)) w152)
 (takeX (mk147 ++ []) w149 fun w224 =>
 Q (.bool false) w224)
 fun id225 => False))

def crierlaw29_TextScripts (a0 : Option Addr) (a0_n : Nat) (a0_c : Nat) (a1 : Option Addr) (a1_n : Nat) (a1_c : Nat) (w : World) (Q : Value → World → Prop) : Prop :=
 alc [.slice a1 a1_n a1_c] T.t55 w fun b7 w8 =>
 CV P F.crierlaw29_awake [] w8 fun v9 w10 =>
 ∃ b11 : Bool, v9 = .bool b11 ∧
 cnd (!b11)
 (Q (.bool false) w10)
 (LoopT (fun (s226 : crierlaw29_TextScripts_L250.S) w227 A228 => crierlaw29_TextScripts_l8 a0 a0_n Q b7 b11 s226.1.1 s226.1.2.1 s226.1.2.2 s226.2 w227 A228) (((none : Option Addr), (0 : Nat), (0 : Nat)), (0 : Int)) w10)
def crierlaw29_TextScripts_ann : Nat → Option LoopSpec := fun
  | 250 => some crierlaw29_TextScripts_L250
  | 2002 => some crierlaw29_TextScripts_J2002
  | 32746 => some crierlaw29_TextScripts_J32746
  | 65492 => some crierlaw29_TextScripts_J65492
  | 16378 => some crierlaw29_TextScripts_L16378
  | 4192870 => some crierlaw29_TextScripts_J4192870
  | 16771486 => some crierlaw29_TextScripts_L16771486
  | 536687560 => some (ordSpec [0, 1, 2, 3, 4, 5, 6, 7, 8])
  | 4095 => some crierlaw29_TextScripts_J4095
  | _ => none
theorem crierlaw29_TextScripts_eq (a0 : Option Addr) (a0_n : Nat) (a0_c : Nat) (a1 : Option Addr) (a1_n : Nat) (a1_c : Nat) (w : World) (Q : Value → World → Prop) : fnX P crierlaw29_TextScripts_ann Tryd.f9 [.slice a0 a0_n a0_c, .slice a1 a1_n a1_c] w Q = crierlaw29_TextScripts a0 a0_n a0_c a1 a1_n a1_c w Q := by kernel_rfl
theorem crierlaw29_TextScripts_cv {a0 : Option Addr} {a0_n : Nat} {a0_c : Nat} {a1 : Option Addr} {a1_n : Nat} {a1_c : Nat} {w : World} {Q : Value → World → Prop} (h : crierlaw29_TextScripts a0 a0_n a0_c a1 a1_n a1_c w Q) : CV P F.crierlaw29_TextScripts [.slice a0 a0_n a0_c, .slice a1 a1_n a1_c] w Q := CV_of mixed Tryd.func9 (crierlaw29_TextScripts_eq a0 a0_n a0_c a1 a1_n a1_c w Q ▸ h)

/- 10 crier/crierlaw29.awake -/
def crierlaw29_awake_J63 : LoopSpec where
  S := Bool
  emb := fun s => [(0, .bool s)]
  ext := fun t => match getL t 0 with
    | some (.bool y74) => some (y74)
    | _ => none
  slots := [0]
  fits := fun _ => rfl
  ok := by
    intro t s h x hx
    (try dsimp only at h hx)
    split at h
    · cases h
      simp only [List.mem_cons, List.not_mem_nil, or_false] at hx
      rcases hx with rfl <;> assumption
    · cases h

def crierlaw29_awake_j0 (Q : Value → World → Prop) (b75 : Bool) (w76 : World) : Prop :=
 Q (.bool b75) w76

def crierlaw29_awake (w : World) (Q : Value → World → Prop) : Prop :=
 CV P F.text_Print [.agg [.int .i64 7, .int .i64 0, .int .i64 2, .int .i64 1, .int .i64 0, .int .i64 0, .int .i64 0, .int .i64 0, .int .i64 0, .int .i64 0, .int .i64 0, .int .u64 0, .bool false].toArray] w fun v1 w2 =>
 ∃ s3 : ByteArray, ∃ n4 : Int, v1 = .tuple [.string s3, .int .i64 n4].toArray ∧
 CV P F.text_Parse [.string ⟨#[116, 105, 99, 107, 32, 48, 53]⟩] w2 fun v5 w6 =>
 ∃ n7 : Int, ∃ n8 : Int, ∃ n9 : Int, ∃ n10 : Int, ∃ n11 : Int, ∃ n12 : Int, ∃ n13 : Int, ∃ n14 : Int, ∃ n15 : Int, ∃ n16 : Int, ∃ n17 : Int, ∃ n18 : Int, ∃ b19 : Bool, ∃ n20 : Int, v5 = .tuple [.agg [.int .i64 n7, .int .i64 n8, .int .i64 n9, .int .i64 n10, .int .i64 n11, .int .i64 n12, .int .i64 n13, .int .i64 n14, .int .i64 n15, .int .i64 n16, .int .i64 n17, .int .u64 n18, .bool b19].toArray, .int .i64 n20].toArray ∧
 alc [.int .i64 0, .int .i64 0, .int .i64 0, .int .i64 0, .int .i64 0, .int .i64 0, .int .i64 0, .int .i64 0, .int .i64 0, .int .i64 0, .int .i64 0, .int .u64 0, .bool false] T.t40 w6 fun b21 w22 =>
 st1 (.int .i64 n7) ⟨b21, 0, none⟩ w22 fun w23 =>
 st1 (.int .i64 n8) ⟨b21, 1, none⟩ w23 fun w24 =>
 st1 (.int .i64 n9) ⟨b21, 2, none⟩ w24 fun w25 =>
 st1 (.int .i64 n10) ⟨b21, 3, none⟩ w25 fun w26 =>
 st1 (.int .i64 n11) ⟨b21, 4, none⟩ w26 fun w27 =>
 st1 (.int .i64 n12) ⟨b21, 5, none⟩ w27 fun w28 =>
 st1 (.int .i64 n13) ⟨b21, 6, none⟩ w28 fun w29 =>
 st1 (.int .i64 n14) ⟨b21, 7, none⟩ w29 fun w30 =>
 st1 (.int .i64 n15) ⟨b21, 8, none⟩ w30 fun w31 =>
 st1 (.int .i64 n16) ⟨b21, 9, none⟩ w31 fun w32 =>
 st1 (.int .i64 n17) ⟨b21, 10, none⟩ w32 fun w33 =>
 st1 (.int .u64 n18) ⟨b21, 11, none⟩ w33 fun w34 =>
 st1 (.bool b19) ⟨b21, 12, none⟩ w34 fun w35 =>
 CV P F.text_Parse [.string ⟨#[119, 105, 114, 101, 32, 48, 32, 45, 49, 32, 52, 48, 32, 49]⟩] w35 fun v36 w37 =>
 ∃ n38 : Int, ∃ n39 : Int, ∃ n40 : Int, ∃ n41 : Int, ∃ n42 : Int, ∃ n43 : Int, ∃ n44 : Int, ∃ n45 : Int, ∃ n46 : Int, ∃ n47 : Int, ∃ n48 : Int, ∃ n49 : Int, ∃ b50 : Bool, ∃ n51 : Int, v36 = .tuple [.agg [.int .i64 n38, .int .i64 n39, .int .i64 n40, .int .i64 n41, .int .i64 n42, .int .i64 n43, .int .i64 n44, .int .i64 n45, .int .i64 n46, .int .i64 n47, .int .i64 n48, .int .u64 n49, .bool b50].toArray, .int .i64 n51].toArray ∧
 alc [.int .i64 0, .int .i64 0, .int .i64 0, .int .i64 0, .int .i64 0, .int .i64 0, .int .i64 0, .int .i64 0, .int .i64 0, .int .i64 0, .int .i64 0, .int .u64 0, .bool false] T.t40 w37 fun b52 w53 =>
 st1 (.int .i64 n38) ⟨b52, 0, none⟩ w53 fun w54 =>
 st1 (.int .i64 n39) ⟨b52, 1, none⟩ w54 fun w55 =>
 st1 (.int .i64 n40) ⟨b52, 2, none⟩ w55 fun w56 =>
 st1 (.int .i64 n41) ⟨b52, 3, none⟩ w56 fun w57 =>
 st1 (.int .i64 n42) ⟨b52, 4, none⟩ w57 fun w58 =>
 st1 (.int .i64 n43) ⟨b52, 5, none⟩ w58 fun w59 =>
 st1 (.int .i64 n44) ⟨b52, 6, none⟩ w59 fun w60 =>
 st1 (.int .i64 n45) ⟨b52, 7, none⟩ w60 fun w61 =>
 st1 (.int .i64 n46) ⟨b52, 8, none⟩ w61 fun w62 =>
 st1 (.int .i64 n47) ⟨b52, 9, none⟩ w62 fun w63 =>
 st1 (.int .i64 n48) ⟨b52, 10, none⟩ w63 fun w64 =>
 st1 (.int .u64 n49) ⟨b52, 11, none⟩ w64 fun w65 =>
 st1 (.bool b50) ⟨b52, 12, none⟩ w65 fun w66 =>
 CV P F.text_Script [.string ⟨#[35, 32, 97, 10, 99, 111, 114, 101, 32, 48, 10, 10, 120]⟩] w66 fun v67 w68 =>
 ∃ (p69 : Option Addr) (l70 c71 : Nat), ∃ n72 : Int, ∃ n73 : Int, v67 = .tuple [.slice p69 l70 c71, .int .i64 n72, .int .i64 n73].toArray ∧
 JoinT (fun (J77 : crierlaw29_awake_J63.S → World → Prop) =>
  cnd ((s3 : ByteArray).toList == (⟨#[115, 99, 104, 101, 100, 32, 49, 32, 48, 32, 50]⟩ : ByteArray).toList)
  (cnd (n4 == 0)
  (cnd (n20 == 290)
  (ldI .i64 ⟨b52, 0, none⟩ w68 fun n78 =>
  ldI .i64 ⟨b52, 1, none⟩ w68 fun n79 =>
  ldI .i64 ⟨b52, 2, none⟩ w68 fun n80 =>
  ldI .i64 ⟨b52, 3, none⟩ w68 fun n81 =>
  ldI .i64 ⟨b52, 4, none⟩ w68 fun n82 =>
  ldI .i64 ⟨b52, 5, none⟩ w68 fun n83 =>
  ldI .i64 ⟨b52, 6, none⟩ w68 fun n84 =>
  ldI .i64 ⟨b52, 7, none⟩ w68 fun n85 =>
  ldI .i64 ⟨b52, 8, none⟩ w68 fun n86 =>
  ldI .i64 ⟨b52, 9, none⟩ w68 fun n87 =>
  ldI .i64 ⟨b52, 10, none⟩ w68 fun n88 =>
  ldI .u64 ⟨b52, 11, none⟩ w68 fun n89 =>
  ldB ⟨b52, 12, none⟩ w68 fun b90 =>
  eqA P .eql T.t40 (.agg [.int .i64 n78, .int .i64 n79, .int .i64 n80, .int .i64 n81, .int .i64 n82, .int .i64 n83, .int .i64 n84, .int .i64 n85, .int .i64 n86, .int .i64 n87, .int .i64 n88, .int .u64 n89, .bool b90].toArray) (.agg [.int .i64 8, .int .i64 0, .int .i64 (-1), .int .i64 0, .int .i64 0, .int .i64 0, .int .i64 40, .int .i64 0, .int .i64 0, .int .i64 0, .int .i64 0, .int .u64 0, .bool true].toArray) w68 fun b91 =>
  cnd b91
  (cnd (n51 == 0)
  (cnd (((l70 : Nat) : Int) == 0)
  (cnd (n72 == 4)
  (J77 (((n73 == 290) : Bool)) w68)
  (J77 ((false : Bool)) w68))
  (J77 ((false : Bool)) w68))
  (J77 ((false : Bool)) w68))
  (J77 ((false : Bool)) w68))
  (J77 ((false : Bool)) w68))
  (J77 ((false : Bool)) w68))
  (J77 ((false : Bool)) w68))
  fun (s92 : crierlaw29_awake_J63.S) w93 => crierlaw29_awake_j0 Q s92 w93
def crierlaw29_awake_ann : Nat → Option LoopSpec := fun
  | 63 => some crierlaw29_awake_J63
  | _ => none
theorem crierlaw29_awake_eq (w : World) (Q : Value → World → Prop) : fnX P crierlaw29_awake_ann Tryd.f10 [] w Q = crierlaw29_awake w Q := by kernel_rfl
theorem crierlaw29_awake_cv {w : World} {Q : Value → World → Prop} (h : crierlaw29_awake w Q) : CV P F.crierlaw29_awake [] w Q := CV_of mixed Tryd.func10 (crierlaw29_awake_eq w Q ▸ h)

/- 11 crier/crierref29.Lines -/
def crierref29_Lines_L124 : LoopSpec where
  S := (Option Addr × Nat × Nat) × (Option Addr × Nat × Nat) × Int × Int
  emb := fun s => [(4, .slice s.1.1 s.1.2.1 s.1.2.2), (5, .slice s.2.1.1 s.2.1.2.1 s.2.1.2.2), (6, .int .i64 s.2.2.1), (7, .int .i64 s.2.2.2)]
  ext := fun t => match getL t 4, getL t 5, getL t 6, getL t 7 with
    | some (.slice y2 y3 y4), some (.slice y5 y6 y7), some (.int .i64 y8), some (.int .i64 y9) => some ((y2, y3, y4), (y5, y6, y7), y8, y9)
    | _, _, _, _ => none
  slots := [4, 5, 6, 7]
  fits := fun _ => rfl
  ok := by
    intro t s h x hx
    (try dsimp only at h hx)
    split at h
    · cases h
      simp only [List.mem_cons, List.not_mem_nil, or_false] at hx
      rcases hx with rfl | rfl | rfl | rfl <;> assumption
    · cases h

def crierref29_Lines_L7956 : LoopSpec where
  S := Int
  emb := fun s => [(8, .int .i64 s)]
  ext := fun t => match getL t 8 with
    | some (.int .i64 y20) => some (y20)
    | _ => none
  slots := [8]
  fits := fun _ => rfl
  ok := by
    intro t s h x hx
    (try dsimp only at h hx)
    split at h
    · cases h
      simp only [List.mem_cons, List.not_mem_nil, or_false] at hx
      rcases hx with rfl <;> assumption
    · cases h

def crierref29_Lines_J31824 : LoopSpec where
  S := Bool
  emb := fun s => [(24, .bool s)]
  ext := fun t => match getL t 24 with
    | some (.bool y24) => some (y24)
    | _ => none
  slots := [24]
  fits := fun _ => rfl
  ok := by
    intro t s h x hx
    (try dsimp only at h hx)
    split at h
    · cases h
      simp only [List.mem_cons, List.not_mem_nil, or_false] at hx
      rcases hx with rfl <;> assumption
    · cases h

def crierref29_Lines_J15919 : LoopSpec where
  S := (Option Addr × Nat × Nat) × (Option Addr × Nat × Nat)
  emb := fun s => [(4, .slice s.1.1 s.1.2.1 s.1.2.2), (5, .slice s.2.1 s.2.2.1 s.2.2.2)]
  ext := fun t => match getL t 4, getL t 5 with
    | some (.slice y28 y29 y30), some (.slice y31 y32 y33) => some ((y28, y29, y30), (y31, y32, y33))
    | _, _ => none
  slots := [4, 5]
  fits := fun _ => rfl
  ok := by
    intro t s h x hx
    (try dsimp only at h hx)
    split at h
    · cases h
      simp only [List.mem_cons, List.not_mem_nil, or_false] at hx
      rcases hx with rfl | rfl <;> assumption
    · cases h

def crierref29_Lines_j0 (n17 : Int) (A19 : crierref29_Lines_L124.S → World → Prop) (n21 : Int) (p34 : Option Addr) (l35 : Nat) (c36 : Nat) (p37 : Option Addr) (l38 : Nat) (c39 : Nat) (w40 : World) : Prop :=
 A19 (((p34 : Option Addr), (l35 : Nat), (c36 : Nat)), ((p37 : Option Addr), (l38 : Nat), (c39 : Nat)), ((IntKind.i64.wrap (n21 + 1)) : Int), ((IntKind.i64.wrap (n17 + 1)) : Int)) w40

def crierref29_Lines_J31838 : LoopSpec where
  S := Bool
  emb := fun s => [(39, .bool s)]
  ext := fun t => match getL t 39 with
    | some (.bool y42) => some (y42)
    | _ => none
  slots := [39]
  fits := fun _ => rfl
  ok := by
    intro t s h x hx
    (try dsimp only at h hx)
    split at h
    · cases h
      simp only [List.mem_cons, List.not_mem_nil, or_false] at hx
      rcases hx with rfl <;> assumption
    · cases h

def crierref29_Lines_j1 (p10 : Option Addr) (l11 : Nat) (c12 : Nat) (p13 : Option Addr) (l14 : Nat) (c15 : Nat) (n17 : Int) (s27 : ByteArray) (J41 : crierref29_Lines_J15919.S → World → Prop) (b43 : Bool) (w44 : World) : Prop :=
 cnd b43
 (alc [.int .i64 (IntKind.i64.wrap (n17 + 1))] T.t3 w44 fun b45 w46 =>
 runS P (Builtin.append_ #[T.t23, T.t23] T.t23 [.slice p10 l11 c12, .slice (some ⟨b45, 0, none⟩) 1 1].toArray) w46 fun p47 l48 c49 w50 =>
 alc [.string s27] T.t9 w50 fun b51 w52 =>
 runS P (Builtin.append_ #[T.t24, T.t24] T.t24 [.slice p13 l14 c15, .slice (some ⟨b51, 0, none⟩) 1 1].toArray) w52 fun p53 l54 c55 w56 =>
 J41 (((p47 : Option Addr), (l48 : Nat), (c49 : Nat)), ((p53 : Option Addr), (l54 : Nat), (c55 : Nat))) w56)
 (J41 (((p10 : Option Addr), (l11 : Nat), (c12 : Nat)), ((p13 : Option Addr), (l14 : Nat), (c15 : Nat))) w44)

def crierref29_Lines_j2 (a0 : ByteArray) (p10 : Option Addr) (l11 : Nat) (c12 : Nat) (p13 : Option Addr) (l14 : Nat) (c15 : Nat) (n16 : Int) (n17 : Int) (A19 : crierref29_Lines_L124.S → World → Prop) (n21 : Int) (A23 : crierref29_Lines_L7956.S → World → Prop) (b25 : Bool) (w26 : World) : Prop :=
 cnd b25
 (A23 (((IntKind.i64.wrap (n21 + 1)) : Int)) w26)
 (slS a0 (some n16) (some n21) fun s27 =>
 JoinT (fun (J41 : crierref29_Lines_J15919.S → World → Prop) =>
  JoinT (fun (J57 : crierref29_Lines_J31838.S → World → Prop) =>
   cnd (!((s27 : ByteArray).toList == (⟨#[]⟩ : ByteArray).toList))
   (sx s27 0 fun n58 =>
   J57 (((n58 != 35) : Bool)) w26)
   (J57 ((false : Bool)) w26))
   fun (s59 : crierref29_Lines_J31838.S) w60 => crierref29_Lines_j1 p10 l11 c12 p13 l14 c15 n17 s27 J41 s59 w60)
  fun (s61 : crierref29_Lines_J15919.S) w62 => crierref29_Lines_j0 n17 A19 n21 s61.1.1 s61.1.2.1 s61.1.2.2 s61.2.1 s61.2.2.1 s61.2.2.2 w62)

def crierref29_Lines_l3 (a0 : ByteArray) (p10 : Option Addr) (l11 : Nat) (c12 : Nat) (p13 : Option Addr) (l14 : Nat) (c15 : Nat) (n16 : Int) (n17 : Int) (A19 : crierref29_Lines_L124.S → World → Prop) (n21 : Int) (w22 : World) (A23 : crierref29_Lines_L7956.S → World → Prop) : Prop :=
 JoinT (fun (J63 : crierref29_Lines_J31824.S → World → Prop) =>
  cnd (decide (n21 < (((a0 : ByteArray).size : Nat) : Int)))
  (sx a0 n21 fun n64 =>
  J63 (((n64 != 10) : Bool)) w22)
  (J63 ((false : Bool)) w22))
  fun (s65 : crierref29_Lines_J31824.S) w66 => crierref29_Lines_j2 a0 p10 l11 c12 p13 l14 c15 n16 n17 A19 n21 A23 s65 w66

def crierref29_Lines_l4 (a0 : ByteArray) (Q : Value → World → Prop) (p10 : Option Addr) (l11 : Nat) (c12 : Nat) (p13 : Option Addr) (l14 : Nat) (c15 : Nat) (n16 : Int) (n17 : Int) (w18 : World) (A19 : crierref29_Lines_L124.S → World → Prop) : Prop :=
 cnd (decide (n16 < (((a0 : ByteArray).size : Nat) : Int)))
 (LoopT (fun (s67 : crierref29_Lines_L7956.S) w68 A69 => crierref29_Lines_l3 a0 p10 l11 c12 p13 l14 c15 n16 n17 A19 s67 w68 A69) ((n16 : Int)) w18)
 (Q (.tuple [.slice p10 l11 c12, .slice p13 l14 c15].toArray) w18)

def crierref29_Lines (a0 : ByteArray) (w : World) (Q : Value → World → Prop) : Prop :=
 LoopT (fun (s70 : crierref29_Lines_L124.S) w71 A72 => crierref29_Lines_l4 a0 Q s70.1.1 s70.1.2.1 s70.1.2.2 s70.2.1.1 s70.2.1.2.1 s70.2.1.2.2 s70.2.2.1 s70.2.2.2 w71 A72) (((none : Option Addr), (0 : Nat), (0 : Nat)), ((none : Option Addr), (0 : Nat), (0 : Nat)), (0 : Int), (0 : Int)) w
def crierref29_Lines_ann : Nat → Option LoopSpec := fun
  | 124 => some crierref29_Lines_L124
  | 7956 => some crierref29_Lines_L7956
  | 31824 => some crierref29_Lines_J31824
  | 15919 => some crierref29_Lines_J15919
  | 31838 => some crierref29_Lines_J31838
  | _ => none
theorem crierref29_Lines_eq (a0 : ByteArray) (w : World) (Q : Value → World → Prop) : fnX P crierref29_Lines_ann Tryd.f11 [.string a0] w Q = crierref29_Lines a0 w Q := by kernel_rfl
theorem crierref29_Lines_cv {a0 : ByteArray} {w : World} {Q : Value → World → Prop} (h : crierref29_Lines a0 w Q) : CV P F.crierref29_Lines [.string a0] w Q := CV_of mixed Tryd.func11 (crierref29_Lines_eq a0 w Q ▸ h)

/- 12 crier/text.Lines -/

def text_Lines (a0 : ByteArray) (w : World) (Q : Value → World → Prop) : Prop :=
 alc [.string a0] T.t9 w fun b2 w3 =>
 Q (.func (.func F.text_Lines_1) [].toArray [.pointer (some ⟨b2, 0, none⟩)].toArray) w3
def text_Lines_ann : Nat → Option LoopSpec := fun _ => none
theorem text_Lines_eq (a0 : ByteArray) (w : World) (Q : Value → World → Prop) : fnX P text_Lines_ann Tryd.f12 [.string a0] w Q = text_Lines a0 w Q := by kernel_rfl
theorem text_Lines_cv {a0 : ByteArray} {w : World} {Q : Value → World → Prop} (h : text_Lines a0 w Q) : CV P F.text_Lines [.string a0] w Q := CV_of mixed Tryd.func12 (text_Lines_eq a0 w Q ▸ h)

/- 13 crier/text.Script -/
def text_Script_r0 (b2 : Nat) (b4 : Nat) (b6 : Nat) (b8 : Nat) (l13 : Nat) (r14 : Loop) (vs15 : List Value) (w16 : World) (Q17 : Value → World → Prop) : Prop :=
 X.b2 vs15 fun v18 v19 =>
 ∃ n20 : Int, v18 = .int .i64 n20 ∧
 ∃ s21 : ByteArray, v19 = .string s21 ∧
 recAt w16 l13 r14 .ready none ∧ setR w16 l13 r14 .busy none fun w22 =>
 CV P F.text_Parse [.string s21] w22 fun v23 w24 =>
 ∃ n25 : Int, ∃ n26 : Int, ∃ n27 : Int, ∃ n28 : Int, ∃ n29 : Int, ∃ n30 : Int, ∃ n31 : Int, ∃ n32 : Int, ∃ n33 : Int, ∃ n34 : Int, ∃ n35 : Int, ∃ n36 : Int, ∃ b37 : Bool, ∃ n38 : Int, v23 = .tuple [.agg [.int .i64 n25, .int .i64 n26, .int .i64 n27, .int .i64 n28, .int .i64 n29, .int .i64 n30, .int .i64 n31, .int .i64 n32, .int .i64 n33, .int .i64 n34, .int .i64 n35, .int .u64 n36, .bool b37].toArray, .int .i64 n38].toArray ∧
 alc [.int .i64 0, .int .i64 0, .int .i64 0, .int .i64 0, .int .i64 0, .int .i64 0, .int .i64 0, .int .i64 0, .int .i64 0, .int .i64 0, .int .i64 0, .int .u64 0, .bool false] T.t40 w24 fun b39 w40 =>
 st1 (.int .i64 n25) ⟨b39, 0, none⟩ w40 fun w41 =>
 st1 (.int .i64 n26) ⟨b39, 1, none⟩ w41 fun w42 =>
 st1 (.int .i64 n27) ⟨b39, 2, none⟩ w42 fun w43 =>
 st1 (.int .i64 n28) ⟨b39, 3, none⟩ w43 fun w44 =>
 st1 (.int .i64 n29) ⟨b39, 4, none⟩ w44 fun w45 =>
 st1 (.int .i64 n30) ⟨b39, 5, none⟩ w45 fun w46 =>
 st1 (.int .i64 n31) ⟨b39, 6, none⟩ w46 fun w47 =>
 st1 (.int .i64 n32) ⟨b39, 7, none⟩ w47 fun w48 =>
 st1 (.int .i64 n33) ⟨b39, 8, none⟩ w48 fun w49 =>
 st1 (.int .i64 n34) ⟨b39, 9, none⟩ w49 fun w50 =>
 st1 (.int .i64 n35) ⟨b39, 10, none⟩ w50 fun w51 =>
 st1 (.int .u64 n36) ⟨b39, 11, none⟩ w51 fun w52 =>
 st1 (.bool b37) ⟨b39, 12, none⟩ w52 fun w53 =>
 cnd (n38 != 0)
 (st1 (.slice none 0 0) ⟨b2, 0, none⟩ w53 fun w54 =>
 st1 (.int .i64 n20) ⟨b4, 0, none⟩ w54 fun w55 =>
 st1 (.int .i64 n38) ⟨b6, 0, none⟩ w55 fun w56 =>
 recAt w56 l13 r14 .busy none ∧ setR w56 l13 r14 .done (some .ret) fun w57 => Q17 (.bool false) w57)
 (ldL ⟨b8, 0, none⟩ w53 fun p58 l59 c60 =>
 ldI .i64 ⟨b39, 0, none⟩ w53 fun n61 =>
 ldI .i64 ⟨b39, 1, none⟩ w53 fun n62 =>
 ldI .i64 ⟨b39, 2, none⟩ w53 fun n63 =>
 ldI .i64 ⟨b39, 3, none⟩ w53 fun n64 =>
 ldI .i64 ⟨b39, 4, none⟩ w53 fun n65 =>
 ldI .i64 ⟨b39, 5, none⟩ w53 fun n66 =>
 ldI .i64 ⟨b39, 6, none⟩ w53 fun n67 =>
 ldI .i64 ⟨b39, 7, none⟩ w53 fun n68 =>
 ldI .i64 ⟨b39, 8, none⟩ w53 fun n69 =>
 ldI .i64 ⟨b39, 9, none⟩ w53 fun n70 =>
 ldI .i64 ⟨b39, 10, none⟩ w53 fun n71 =>
 ldI .u64 ⟨b39, 11, none⟩ w53 fun n72 =>
 ldB ⟨b39, 12, none⟩ w53 fun b73 =>
 alc [.int .i64 n61, .int .i64 n62, .int .i64 n63, .int .i64 n64, .int .i64 n65, .int .i64 n66, .int .i64 n67, .int .i64 n68, .int .i64 n69, .int .i64 n70, .int .i64 n71, .int .u64 n72, .bool b73] T.t40 w53 fun b74 w75 =>
 runS P (Builtin.append_ #[T.t31, T.t31] T.t31 [.slice p58 l59 c60, .slice (some ⟨b74, 0, none⟩) 1 1].toArray) w75 fun p76 l77 c78 w79 =>
 st1 (.slice p76 l77 c78) ⟨b8, 0, none⟩ w79 fun w80 =>
 recAt w80 l13 r14 .busy none ∧ setR w80 l13 r14 .ready none fun w81 => Q17 (.bool true) w81)

def text_Script (a0 : ByteArray) (w : World) (Q : Value → World → Prop) : Prop :=
 alc [.slice none 0 0] T.t31 w fun b2 w3 =>
 alc [.int .i64 0] T.t3 w3 fun b4 w5 =>
 alc [.int .i64 0] T.t32 w5 fun b6 w7 =>
 alc [.slice none 0 0] T.t31 w7 fun b8 w9 =>
 CV P F.text_Lines [.string a0] w9 fun v10 w11 =>
 ∃ v12 : Value, v10 = v12 ∧
 RF P none 2 (v12) w11 (fun l13 r14 vs15 w16 Q17 => text_Script_r0 b2 b4 b6 b8 l13 r14 vs15 w16 Q17) fun mk82 jp83 w84 =>
 jmpX jp83
 (ldL ⟨b8, 0, none⟩ w84 fun p85 l86 c87 =>
 st1 (.slice p85 l86 c87) ⟨b2, 0, none⟩ w84 fun w88 =>
 st1 (.int .i64 0) ⟨b4, 0, none⟩ w88 fun w89 =>
 st1 (.int .i64 0) ⟨b6, 0, none⟩ w89 fun w90 =>
 takeX (mk82 ++ []) w90 fun w91 =>
 ldL ⟨b2, 0, none⟩ w91 fun p92 l93 c94 =>
 ldI .i64 ⟨b4, 0, none⟩ w91 fun n95 =>
 ldI .i64 ⟨b6, 0, none⟩ w91 fun n96 =>
 Q (.tuple [.slice p92 l93 c94, .int .i64 n95, .int .i64 n96].toArray) w91)
 (takeX (mk82 ++ []) w84 fun w97 =>
 ldL ⟨b2, 0, none⟩ w97 fun p98 l99 c100 =>
 ldI .i64 ⟨b4, 0, none⟩ w97 fun n101 =>
 ldI .i64 ⟨b6, 0, none⟩ w97 fun n102 =>
 Q (.tuple [.slice p98 l99 c100, .int .i64 n101, .int .i64 n102].toArray) w97)
 fun id103 => False
def text_Script_ann : Nat → Option LoopSpec := fun _ => none
theorem text_Script_eq (a0 : ByteArray) (w : World) (Q : Value → World → Prop) : fnX P text_Script_ann Tryd.f13 [.string a0] w Q = text_Script a0 w Q := by kernel_rfl
theorem text_Script_cv {a0 : ByteArray} {w : World} {Q : Value → World → Prop} (h : text_Script a0 w Q) : CV P F.text_Script [.string a0] w Q := CV_of mixed Tryd.func13 (text_Script_eq a0 w Q ▸ h)

end Go.Proofs.YtbnadobjnmboiaaDoor
