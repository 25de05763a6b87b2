/-
  text: steps, their words; find.
-/
import Derived.Test.YtbnadobjnmboiaaDoorTy
import Derived.Test.YtbnadobjnmboiaaDoorS7
import Derived.Test.YtbnadobjnmboiaaDoorA6
import Derived.Lib.Strings
import Derived.Test.YtbnadobjnmboiaaDoorU4
import Derived.Laws.IdiomStrings
import Derived.Lib.ItoaLen
import Derived.Test.YtbnadobjnmboiaaDoorG1
import Derived.Test.YtbnadobjnmboiaaDoorG2
namespace Go.Proofs.YtbnadobjnmboiaaDoor
open Go Go.RowKit X
set_option maxRecDepth 100000
set_option linter.unusedVariables false
set_option linter.unusedSimpArgs false
set_option maxHeartbeats 400000
/-- a step -/
structure St where
  kind : Int
  g : Int
  v : Int
  c : Int
  d : Int
  e : Int
  n : Int
  r : Int
  t : Int
  a : Int
  w : Int
  x : Int
  h : Bool
deriving DecidableEq
def St.cells (s : St) : List Value := [.int .i64 s.kind, .int .i64 s.g, .int .i64 s.v, .int .i64 s.c, .int .i64 s.d, .int .i64 s.e, .int .i64 s.n, .int .i64 s.r, .int .i64 s.t, .int .i64 s.a, .int .i64 s.w, .int .u64 s.x, .bool s.h]
def stV (s : St) : Value := .agg s.cells.toArray
def st0 : St := ⟨0, 0, 0, 0, 0, 0, 0, 0, 0, 0, 0, 0, false⟩
def St.put (s : St) (f n x : Int) : St :=
  if f = 103 then { s with g := n } else if f = 118 then { s with v := n } else if f = 99 then { s with c := n } else if f = 100 then { s with d := n } else if f = 101 then { s with e := n } else if f = 110 then { s with n := n } else
  if f = 114 then { s with r := n } else if f = 116 then { s with t := n } else if f = 97 then { s with a := n } else if f = 119 then { s with w := n } else if f = 120 then { s with x := x } else if f = 104 then { s with h := decide (n = 1) } else s
theorem with_t (s : St) (f n x : Int) : Tri P F.text_with [stV s, .int .u8 f, .int .i64 n, .int .u64 x] [] fun v L' => v = stV (s.put f n x) ∧ L' = [] := by
  intro w S hS
  refine text_with_cv ?_
  unfold text_with
  have H := Own.start hS
  refine alc_o H fun b17 wx H => alc_o H fun b19 wx H => ?_
  have fin : ∀ (s' : St) wx, s' = s.put f n x → X.Own w S [row b17 s'.cells tStep, row b19 st0.cells tStep] wx → text_with_j0 (fun v w' => ∃ L', (v = stV (s.put f n x) ∧ L' = []) ∧ X.Own w S L' w') b17 b19 wx := by
    intro s' wx hs H
    subst hs
    generalize s.put f n x = s' at *
    unfold text_with_j0
    unfold St.cells at H
    repeat (first | refine ldI_a H ?_ | refine ldL_a H ?_ | refine ldB_a H ?_ | refine ldP_a H ?_ | refine ldS_a H ?_)
    refine st1_a H fun wx H => ?_
    refine st1_a H fun wx H => ?_
    refine st1_a H fun wx H => ?_
    refine st1_a H fun wx H => ?_
    refine st1_a H fun wx H => ?_
    refine st1_a H fun wx H => ?_
    refine st1_a H fun wx H => ?_
    refine st1_a H fun wx H => ?_
    refine st1_a H fun wx H => ?_
    refine st1_a H fun wx H => ?_
    refine st1_a H fun wx H => ?_
    refine st1_a H fun wx H => ?_
    refine st1_a H fun wx H => ?_
    repeat (first | refine ldI_a H ?_ | refine ldL_a H ?_ | refine ldB_a H ?_ | refine ldP_a H ?_ | refine ldS_a H ?_)
    exact ⟨_, ⟨rfl, rfl⟩, H.dp⟩
  have H := H.perm (L1 := [row b17 s.cells tStep, row b19 st0.cells tStep]) (by repeat (first | exact Cut.nil | (apply Cut.cons; (repeat (first | exact Pick.here | apply Pick.there)))))
  refine join_o ?_
  unfold St.cells at H
  refine cnd_i (fun h => ?_) fun h0 => ?_
  · have h : f = 103 := by simpa using h
    refine st1_a H fun wx H => ?_
    simp only [List.set_cons_zero, List.set_cons_succ] at H
    exact fin { s with g := n } _ (by subst h; rfl) H
  have h0 : f ≠ 103 := by simpa using h0
  refine cnd_i (fun h => ?_) fun h1 => ?_
  · have h : f = 118 := by simpa using h
    refine st1_a H fun wx H => ?_
    simp only [List.set_cons_zero, List.set_cons_succ] at H
    exact fin { s with v := n } _ (by subst h; rfl) H
  have h1 : f ≠ 118 := by simpa using h1
  refine cnd_i (fun h => ?_) fun h2 => ?_
  · have h : f = 99 := by simpa using h
    refine st1_a H fun wx H => ?_
    simp only [List.set_cons_zero, List.set_cons_succ] at H
    exact fin { s with c := n } _ (by subst h; rfl) H
  have h2 : f ≠ 99 := by simpa using h2
  refine cnd_i (fun h => ?_) fun h3 => ?_
  · have h : f = 100 := by simpa using h
    refine st1_a H fun wx H => ?_
    simp only [List.set_cons_zero, List.set_cons_succ] at H
    exact fin { s with d := n } _ (by subst h; rfl) H
  have h3 : f ≠ 100 := by simpa using h3
  refine cnd_i (fun h => ?_) fun h4 => ?_
  · have h : f = 101 := by simpa using h
    refine st1_a H fun wx H => ?_
    simp only [List.set_cons_zero, List.set_cons_succ] at H
    exact fin { s with e := n } _ (by subst h; rfl) H
  have h4 : f ≠ 101 := by simpa using h4
  refine cnd_i (fun h => ?_) fun h5 => ?_
  · have h : f = 110 := by simpa using h
    refine st1_a H fun wx H => ?_
    simp only [List.set_cons_zero, List.set_cons_succ] at H
    exact fin { s with n := n } _ (by subst h; rfl) H
  have h5 : f ≠ 110 := by simpa using h5
  refine cnd_i (fun h => ?_) fun h6 => ?_
  · have h : f = 114 := by simpa using h
    refine st1_a H fun wx H => ?_
    simp only [List.set_cons_zero, List.set_cons_succ] at H
    exact fin { s with r := n } _ (by subst h; rfl) H
  have h6 : f ≠ 114 := by simpa using h6
  refine cnd_i (fun h => ?_) fun h7 => ?_
  · have h : f = 116 := by simpa using h
    refine st1_a H fun wx H => ?_
    simp only [List.set_cons_zero, List.set_cons_succ] at H
    exact fin { s with t := n } _ (by subst h; rfl) H
  have h7 : f ≠ 116 := by simpa using h7
  refine cnd_i (fun h => ?_) fun h8 => ?_
  · have h : f = 97 := by simpa using h
    refine st1_a H fun wx H => ?_
    simp only [List.set_cons_zero, List.set_cons_succ] at H
    exact fin { s with a := n } _ (by subst h; rfl) H
  have h8 : f ≠ 97 := by simpa using h8
  refine cnd_i (fun h => ?_) fun h9 => ?_
  · have h : f = 119 := by simpa using h
    refine st1_a H fun wx H => ?_
    simp only [List.set_cons_zero, List.set_cons_succ] at H
    exact fin { s with w := n } _ (by subst h; rfl) H
  have h9 : f ≠ 119 := by simpa using h9
  refine cnd_i (fun h => ?_) fun h10 => ?_
  · have h : f = 120 := by simpa using h
    refine st1_a H fun wx H => ?_
    simp only [List.set_cons_zero, List.set_cons_succ] at H
    exact fin { s with x := x } _ (by subst h; rfl) H
  have h10 : f ≠ 120 := by simpa using h10
  refine cnd_i (fun h => ?_) fun h11 => ?_
  · have h : f = 104 := by simpa using h
    refine st1_a H fun wx H => ?_
    simp only [List.set_cons_zero, List.set_cons_succ] at H
    have e : (n == 1) = decide (n = 1) := by rw [Bool.eq_iff_iff]; simp
    rw [e] at H
    exact fin { s with h := decide (n = 1) } _ (by subst h; rfl) H
  have h11 : f ≠ 104 := by simpa using h11
  exact fin s _ (by unfold St.put; simp only [h0, h1, h2, h3, h4, h5, h6, h7, h8, h9, h10, h11, if_false]) H
/-! ### the words -/
def nameW : Nat → ByteArray
  | 0 => ⟨#[97, 99, 99, 101, 115, 115]⟩
  | 1 => ⟨#[108, 111, 97, 100]⟩
  | 2 => ⟨#[115, 116, 111, 114, 101]⟩
  | 3 => ⟨#[99, 111, 110, 115, 117, 109, 101]⟩
  | 4 => ⟨#[109, 101, 115, 115, 97, 103, 101]⟩
  | 5 => ⟨#[99, 111, 114, 101]⟩
  | 6 => ⟨#[115, 99, 104, 101, 100]⟩
  | 7 => ⟨#[119, 105, 114, 101]⟩
  | 8 => ⟨#[108, 105, 110, 101]⟩
  | 9 => ⟨#[112, 111, 119, 101, 114]⟩
  | 10 => ⟨#[116, 105, 99, 107]⟩
  | _ => ⟨#[116, 105, 109, 101, 114]⟩
def fldW : Nat → ByteArray
  | 0 => ⟨#[103, 118, 114, 104, 120]⟩
  | 1 => ⟨#[103, 118, 97, 119]⟩
  | 2 => ⟨#[103, 118, 97, 119, 120]⟩
  | 3 => ⟨#[103]⟩
  | 4 => ⟨#[100, 101]⟩
  | 5 => ⟨#[99]⟩
  | 6 => ⟨#[99, 103, 118]⟩
  | 7 => ⟨#[103, 118, 110, 104]⟩
  | 8 => ⟨#[110, 104]⟩
  | 9 => ⟨#[99, 104]⟩
  | 10 => ⟨#[120]⟩
  | _ => ⟨#[103, 118, 116, 104, 120]⟩
def wordC (k : Nat) : List Value := [.int .i64 ((k : Int) + 1), .string (nameW k), .string (fldW k)]
def wordsC : List Value := ((List.range 12).map wordC).flatten
theorem words_t : Tri P F.text_words [] [] fun v L' => ∃ b, v = .slice (some ⟨b, 0, none⟩) 12 12 ∧ L' = [row b wordsC tWord] := by
  intro w S hS
  refine text_words_cv ?_
  unfold text_words
  have H := Own.start hS
  refine alc_o H fun b1 wx H => ?_
  exact ⟨_, ⟨b1, rfl, rfl⟩, H⟩
theorem wordsC_get : ∀ k, k < 12 → wordsC[k * 3]? = some (.int .i64 ((k : Int) + 1)) ∧ wordsC[k * 3 + 1]? = some (.string (nameW k)) ∧ wordsC[k * 3 + 1 + 1]? = some (.string (fldW k))
  | 0, _ => ⟨rfl, rfl, rfl⟩
  | 1, _ => ⟨rfl, rfl, rfl⟩
  | 2, _ => ⟨rfl, rfl, rfl⟩
  | 3, _ => ⟨rfl, rfl, rfl⟩
  | 4, _ => ⟨rfl, rfl, rfl⟩
  | 5, _ => ⟨rfl, rfl, rfl⟩
  | 6, _ => ⟨rfl, rfl, rfl⟩
  | 7, _ => ⟨rfl, rfl, rfl⟩
  | 8, _ => ⟨rfl, rfl, rfl⟩
  | 9, _ => ⟨rfl, rfl, rfl⟩
  | 10, _ => ⟨rfl, rfl, rfl⟩
  | 11, _ => ⟨rfl, rfl, rfl⟩
end Go.Proofs.YtbnadobjnmboiaaDoor
/-
  text: a word is found.
-/
namespace Go.Proofs.YtbnadobjnmboiaaDoor
open Go Go.RowKit X
set_option maxRecDepth 100000
set_option linter.unusedVariables false
set_option linter.unusedSimpArgs false
set_option maxHeartbeats 400000
theorem bytes_beq (a b : ByteArray) : (a.toList == b.toList) = decide (a.data.toList = b.data.toList) := by
  have h : ∀ x : ByteArray, x.toList = x.data.toList := fun x => Lib.toList_data x
  rw [h, h]
  by_cases e : a.data.toList = b.data.toList
  · rw [e]; simp
  · rw [decide_eq_false e]; simpa using e
def findP (nm : ByteArray) (kd : Int) (k : Nat) : Bool := decide ((nameW k).data.toList = nm.data.toList) || decide ((k : Int) + 1 = kd)
def findM (nm : ByteArray) (kd : Int) : Option Nat := (List.range 12).find? (findP nm kd)
def findV (nm : ByteArray) (kd : Int) : Value := match findM nm kd with
  | some k => .tuple [.agg (wordC k).toArray, .bool true].toArray
  | none => .tuple [.agg [.int .i64 0, .string ⟨#[]⟩, .string ⟨#[]⟩].toArray, .bool false].toArray
theorem findM_some {nm : ByteArray} {kd : Int} {k : Nat} (h : k < 12) (hp : findP nm kd k = true) (hn : ∀ j, j < k → findP nm kd j = false) : findM nm kd = some k := by
  unfold findM
  rw [List.find?_range_eq_some]
  exact ⟨hp, List.mem_range.2 h, fun j hj => by simp [hn j hj]⟩
theorem findM_none {nm : ByteArray} {kd : Int} (hn : ∀ j, j < 12 → findP nm kd j = false) : findM nm kd = none := by
  unfold findM
  rw [List.find?_range_eq_none]
  exact fun j hj => by simp [hn j hj]
theorem find_t (nm : ByteArray) (kd : Int) : Tri P F.text_find [.string nm, .int .i64 kd] [] fun v L' => v = findV nm kd ∧ L' = [] := by
  intro w S hS
  refine text_find_cv ?_
  unfold text_find
  have H := Own.start hS
  refine alc_o H fun b3 wx H => ?_
  refine call_oa H (words_t) fun vx L' wx hq H => ?_
  obtain ⟨bw, rfl, rfl⟩ := hq
  simp only [List.cons_append, List.nil_append] at H
  refine ⟨_, _, _, rfl, ?_⟩
  refine loop_o (fun (st : Int) L => ∃ k : Nat, (k : Int) = st ∧ k ≤ 12 ∧ (∀ j, j < k → findP nm kd j = false) ∧ L = [row b3 [.int .i64 0, .string ⟨#[]⟩, .string ⟨#[]⟩] tWord, row bw wordsC tWord]) (fun (st : Int) => (12 - st).toNat) (H.drop (L1 := [row b3 [.int .i64 0, .string ⟨#[]⟩, .string ⟨#[]⟩] tWord, row bw wordsC tWord]) (by repeat (first | exact Cut.nil | (apply Cut.cons; (repeat (first | exact Pick.here | apply Pick.there)))))) ⟨0, rfl, by omega, fun _ h => absurd h (by omega), rfl⟩ ?_
  clear H
  rintro _ _ wx ⟨k, rfl, hk12, hno, rfl⟩ H
  unfold text_find_l1
  refine cnd_i (fun hc => ?_) fun hc => ?_
  · have hc := of_decide_eq_true hc
    have hlt : k < 12 := by omega
    obtain ⟨g0, g1, g2⟩ := wordsC_get k hlt
    refine ix_i hlt ?_
    dsimp only [nn]
    rw [add_lit, Nat.zero_add]
    refine ldI_o H (b := bw) (i := k * 3) (by repeat (first | exact Pick.here | apply Pick.there)) g0 (ldS_o H (b := bw) (i := k * 3 + 1) (by repeat (first | exact Pick.here | apply Pick.there)) g1 (ldS_o H (b := bw) (i := k * 3 + 1 + 1) (by repeat (first | exact Pick.here | apply Pick.there)) g2 (alc_o H fun b19 wx H => ?_)))
    refine st1_a H fun wx H => ?_
    refine st1_a H fun wx H => ?_
    refine st1_a H fun wx H => ?_
    refine join_o ?_
    have nx : IntKind.i64.wrap ((k : Int) + 1) = ((k + 1 : Nat) : Int) := by rw [W_id (by omega) (by omega)]; push_cast; rfl
    have fin : ∀ b, b = findP nm kd k → text_find_j0 (fun v w' => ∃ L', (v = findV nm kd ∧ L' = []) ∧ X.Own w S L' w') b3 (k : Int) (fun (s' : Int) w' => (∃ L', (∃ k : Nat, (k : Int) = s' ∧ k ≤ 12 ∧ (∀ j, j < k → findP nm kd j = false) ∧ L' = [row b3 [.int .i64 0, .string ⟨#[]⟩, .string ⟨#[]⟩] tWord, row bw wordsC tWord]) ∧ X.Own w S L' w') ∧ (12 - s').toNat < (12 - (k : Int)).toNat) b19 b wx := by
      intro b hb
      unfold text_find_j0
      refine cnd_i (fun h => ?_) fun h => ?_
      · repeat (first | refine ldI_a H ?_ | refine ldL_a H ?_ | refine ldB_a H ?_ | refine ldP_a H ?_ | refine ldS_a H ?_)
        refine st1_a H fun wx H => ?_
        refine st1_a H fun wx H => ?_
        refine st1_a H fun wx H => ?_
        repeat (first | refine ldI_a H ?_ | refine ldL_a H ?_ | refine ldB_a H ?_ | refine ldP_a H ?_ | refine ldS_a H ?_)
        exact ⟨_, ⟨by unfold findV; rw [findM_some hlt (by rw [← hb, h]) hno]; rfl, rfl⟩, H.dp⟩
      · rw [nx]
        refine ⟨⟨_, ⟨k + 1, rfl, by omega, fun j hj => ?_, rfl⟩, H.dp⟩, by show (12 - ((k + 1 : Nat) : Int)).toNat < (12 - (k : Int)).toNat; omega⟩
        by_cases e : j = k
        · subst e; rw [← hb, h]
        · exact hno j (by omega)
    repeat (first | refine ldI_a H ?_ | refine ldL_a H ?_ | refine ldB_a H ?_ | refine ldP_a H ?_ | refine ldS_a H ?_)
    rw [bytes_beq]
    refine cnd_i (fun h => fin _ (by unfold findP; rw [h]; rfl)) fun h => ?_
    repeat (first | refine ldI_a H ?_ | refine ldL_a H ?_ | refine ldB_a H ?_ | refine ldP_a H ?_ | refine ldS_a H ?_)
    refine fin _ ?_
    unfold findP
    rw [h, Bool.false_or, Bool.eq_iff_iff]
    simp
  · have hc := of_decide_eq_false hc
    obtain rfl : k = 12 := by omega
    refine st1_a H fun wx H => ?_
    refine st1_a H fun wx H => ?_
    refine st1_a H fun wx H => ?_
    repeat (first | refine ldI_a H ?_ | refine ldL_a H ?_ | refine ldB_a H ?_ | refine ldP_a H ?_ | refine ldS_a H ?_)
    exact ⟨_, ⟨by unfold findV; rw [findM_none hno], rfl⟩, H.dp⟩
end Go.Proofs.YtbnadobjnmboiaaDoor
/-
  text: a field's text.
-/
namespace Go.Proofs.YtbnadobjnmboiaaDoor
open Go Go.RowKit X
set_option maxRecDepth 100000
set_option linter.unusedVariables false
set_option linter.unusedSimpArgs false
set_option maxHeartbeats 400000
def I64 (x : Int) : Prop := -9223372036854775808 ≤ x ∧ x ≤ 9223372036854775807
/-- a step as a machine holds it -/
def St.Fit (s : St) : Prop := I64 s.kind ∧ I64 s.g ∧ I64 s.v ∧ I64 s.c ∧ I64 s.d ∧ I64 s.e ∧ I64 s.n ∧ I64 s.r ∧ I64 s.t ∧ I64 s.a ∧ I64 s.w ∧ 0 ≤ s.x ∧ s.x < 18446744073709551616
def St.txt (s : St) (f : Int) : List UInt8 :=
  if f = 103 then Lib.itoa s.g else if f = 118 then Lib.itoa s.v else if f = 99 then Lib.itoa s.c else if f = 100 then Lib.itoa s.d else if f = 101 then Lib.itoa s.e else if f = 110 then Lib.itoa s.n else
  if f = 114 then Lib.itoa s.r else if f = 116 then Lib.itoa s.t else if f = 97 then Lib.itoa s.a else if f = 119 then Lib.itoa s.w else if f = 120 then Lib.decDigits s.x.toNat else if s.h then [49] else [48]
theorem field_t {W : World} (hT : PowAt W) (s : St) (hs : s.Fit) (f : Int) : Tri P F.text_field [stV s, .int .u8 f] [keep W] fun v L' => v = strV (s.txt f) ∧ L' = [keep W] := by
  intro w S hS
  refine text_field_cv ?_
  unfold text_field
  have H := Own.start hS
  refine alc_o H fun b15 wx H => ?_
  have H : X.Own w S [row b15 s.cells tStep, keep W] wx := H
  unfold St.cells at H
  obtain ⟨f0, f1, f2, f3, f4, f5, f6, f7, f8, f9, f10, f11, f12⟩ := hs
  refine cnd_i (fun h => ?_) fun h0 => ?_
  · have h : f = 103 := by simpa using h
    subst h
    repeat (first | refine ldI_a H ?_ | refine ldL_a H ?_ | refine ldB_a H ?_ | refine ldP_a H ?_ | refine ldS_a H ?_)
    refine call_pa H (Itoa_t hT s.g f1) fun wx H => ?_
    exact ⟨_, rfl, _, ⟨rfl, rfl⟩, H.dp⟩
  have h0 : f ≠ 103 := by simpa using h0
  refine cnd_i (fun h => ?_) fun h1 => ?_
  · have h : f = 118 := by simpa using h
    subst h
    repeat (first | refine ldI_a H ?_ | refine ldL_a H ?_ | refine ldB_a H ?_ | refine ldP_a H ?_ | refine ldS_a H ?_)
    refine call_pa H (Itoa_t hT s.v f2) fun wx H => ?_
    exact ⟨_, rfl, _, ⟨rfl, rfl⟩, H.dp⟩
  have h1 : f ≠ 118 := by simpa using h1
  refine cnd_i (fun h => ?_) fun h2 => ?_
  · have h : f = 99 := by simpa using h
    subst h
    repeat (first | refine ldI_a H ?_ | refine ldL_a H ?_ | refine ldB_a H ?_ | refine ldP_a H ?_ | refine ldS_a H ?_)
    refine call_pa H (Itoa_t hT s.c f3) fun wx H => ?_
    exact ⟨_, rfl, _, ⟨rfl, rfl⟩, H.dp⟩
  have h2 : f ≠ 99 := by simpa using h2
  refine cnd_i (fun h => ?_) fun h3 => ?_
  · have h : f = 100 := by simpa using h
    subst h
    repeat (first | refine ldI_a H ?_ | refine ldL_a H ?_ | refine ldB_a H ?_ | refine ldP_a H ?_ | refine ldS_a H ?_)
    refine call_pa H (Itoa_t hT s.d f4) fun wx H => ?_
    exact ⟨_, rfl, _, ⟨rfl, rfl⟩, H.dp⟩
  have h3 : f ≠ 100 := by simpa using h3
  refine cnd_i (fun h => ?_) fun h4 => ?_
  · have h : f = 101 := by simpa using h
    subst h
    repeat (first | refine ldI_a H ?_ | refine ldL_a H ?_ | refine ldB_a H ?_ | refine ldP_a H ?_ | refine ldS_a H ?_)
    refine call_pa H (Itoa_t hT s.e f5) fun wx H => ?_
    exact ⟨_, rfl, _, ⟨rfl, rfl⟩, H.dp⟩
  have h4 : f ≠ 101 := by simpa using h4
  refine cnd_i (fun h => ?_) fun h5 => ?_
  · have h : f = 110 := by simpa using h
    subst h
    repeat (first | refine ldI_a H ?_ | refine ldL_a H ?_ | refine ldB_a H ?_ | refine ldP_a H ?_ | refine ldS_a H ?_)
    refine call_pa H (Itoa_t hT s.n f6) fun wx H => ?_
    exact ⟨_, rfl, _, ⟨rfl, rfl⟩, H.dp⟩
  have h5 : f ≠ 110 := by simpa using h5
  refine cnd_i (fun h => ?_) fun h6 => ?_
  · have h : f = 114 := by simpa using h
    subst h
    repeat (first | refine ldI_a H ?_ | refine ldL_a H ?_ | refine ldB_a H ?_ | refine ldP_a H ?_ | refine ldS_a H ?_)
    refine call_pa H (Itoa_t hT s.r f7) fun wx H => ?_
    exact ⟨_, rfl, _, ⟨rfl, rfl⟩, H.dp⟩
  have h6 : f ≠ 114 := by simpa using h6
  refine cnd_i (fun h => ?_) fun h7 => ?_
  · have h : f = 116 := by simpa using h
    subst h
    repeat (first | refine ldI_a H ?_ | refine ldL_a H ?_ | refine ldB_a H ?_ | refine ldP_a H ?_ | refine ldS_a H ?_)
    refine call_pa H (Itoa_t hT s.t f8) fun wx H => ?_
    exact ⟨_, rfl, _, ⟨rfl, rfl⟩, H.dp⟩
  have h7 : f ≠ 116 := by simpa using h7
  refine cnd_i (fun h => ?_) fun h8 => ?_
  · have h : f = 97 := by simpa using h
    subst h
    repeat (first | refine ldI_a H ?_ | refine ldL_a H ?_ | refine ldB_a H ?_ | refine ldP_a H ?_ | refine ldS_a H ?_)
    refine call_pa H (Itoa_t hT s.a f9) fun wx H => ?_
    exact ⟨_, rfl, _, ⟨rfl, rfl⟩, H.dp⟩
  have h8 : f ≠ 97 := by simpa using h8
  refine cnd_i (fun h => ?_) fun h9 => ?_
  · have h : f = 119 := by simpa using h
    subst h
    repeat (first | refine ldI_a H ?_ | refine ldL_a H ?_ | refine ldB_a H ?_ | refine ldP_a H ?_ | refine ldS_a H ?_)
    refine call_pa H (Itoa_t hT s.w f10) fun wx H => ?_
    exact ⟨_, rfl, _, ⟨rfl, rfl⟩, H.dp⟩
  have h9 : f ≠ 119 := by simpa using h9
  refine cnd_i (fun h => ?_) fun h10 => ?_
  · have h : f = 120 := by simpa using h
    subst h
    repeat (first | refine ldI_a H ?_ | refine ldL_a H ?_ | refine ldB_a H ?_ | refine ldP_a H ?_ | refine ldS_a H ?_)
    obtain ⟨u, hu⟩ : ∃ u : Nat, s.x = u := ⟨s.x.toNat, by omega⟩
    rw [hu]
    refine call_pa H (FormatUint_t hT u (by omega)) fun wx H => ?_
    refine ⟨_, rfl, _, ⟨?_, rfl⟩, H.dp⟩
    show _ = strV (Lib.decDigits s.x.toNat)
    rw [hu]; rfl
  have h10 : f ≠ 120 := by simpa using h10
  unfold St.txt
  repeat (first | refine ldI_a H ?_ | refine ldL_a H ?_ | refine ldB_a H ?_ | refine ldP_a H ?_ | refine ldS_a H ?_)
  refine cnd_i (fun hh => ?_) fun hh => ?_
  · exact ⟨_, ⟨by simp only [hh, h0, h1, h2, h3, h4, h5, h6, h7, h8, h9, h10, if_false, if_true]; rfl, rfl⟩, H.dp⟩
  · exact ⟨_, ⟨by simp only [hh, h0, h1, h2, h3, h4, h5, h6, h7, h8, h9, h10, if_false]; rfl, rfl⟩, H.dp⟩
end Go.Proofs.YtbnadobjnmboiaaDoor
/-
  text: a string's letters as bytes of a slice of its own.
-/
namespace Go.Proofs.YtbnadobjnmboiaaDoor
open Go Go.RowKit X
set_option maxRecDepth 100000
set_option linter.unusedVariables false
set_option linter.unusedSimpArgs false
set_option maxHeartbeats 400000
variable {w w0 : World} {S0 : Nat → Prop}
/-- a block that holds some values first -/
def bRow (b : Nat) (xs : List Value) : It where
  h := fun w S => (∃ cs t fr, w.heap[b]? = some (.cells cs t fr) ∧ ∀ (j : Nat) (v : Value), xs[j]? = some v → cs[j]? = some v) ∧ ∀ k, S k ↔ k = b
  loc := fun h hw _ => by
    obtain ⟨⟨cs, t, fr, h1, h3⟩, h2⟩ := h
    exact ⟨⟨cs, t, fr, by rw [hw _ ((h2 _).2 rfl)]; exact h1, h3⟩, h2⟩
  lt := fun h k hk => by
    obtain ⟨⟨cs, t, fr, h1, h3⟩, h2⟩ := h
    rw [(h2 k).1 hk]
    exact (Array.getElem?_eq_some_iff.1 h1).1
theorem bRow_cell {L F : List It} {b : Nat} {xs : List Value} (H : X.Own w0 S0 L w) (hp : Pick L (bRow b xs) F) {j : Nat} {v : Value} (hj : xs[j]? = some v) : w.cell? ⟨b, j, none⟩ = some v := by
  obtain ⟨S1, ⟨⟨cs, t, fr, h1, h3⟩, -⟩, -⟩ := H.pick hp
  have := h3 j v hj
  simp [World.cell?, h1, this]
def lettersV (s : ByteArray) : List Value := s.data.toList.map fun b => .int .u8 b.toNat
theorem s2b_o {L : List It} {s : ByteArray} {K : Option Addr → Nat → Nat → World → Prop} (H : X.Own w0 S0 L w) (k : ∀ b c w', X.Own w0 S0 (bRow b (lettersV s) :: L) w' → K (some ⟨b, 0, none⟩) s.size c w') :
    runS P (Go.convert T.t9 T.t74 (.string s)) w K := by
  refine ⟨_, _, _, _, run_bytes_of_string (P := P) w T.t9 T.t74 5 s Tryd.underlying9 Tryd.underlying74 Tryd.underlying5, ?_⟩
  refine k _ _ _ (H.add (i := bRow w.heap.size (lettersV s)) (((Below.refl _ w).drew).alloc (Nat.le_refl _) _) (S := fun k => k = w.heap.size) ⟨⟨_, _, _, World.alloc_heap_new _ _, ?_⟩, fun _ => Iff.rfl⟩ (by rintro k rfl; exact Nat.le_refl _))
  intro j v hj
  unfold lettersV at hj
  unfold bytesRow
  have hlt : j < s.data.size := by
    have := (List.getElem?_eq_some_iff.1 hj).1
    simpa using this
  rw [Array.getElem?_append_left (by simpa using hlt), Array.getElem?_map]
  rw [List.getElem?_map, Array.getElem?_toList] at hj
  exact hj
end Go.Proofs.YtbnadobjnmboiaaDoor
/-
  text: a step's line.
-/
namespace Go.Proofs.YtbnadobjnmboiaaDoor
open Go Go.RowKit X
set_option maxRecDepth 100000
set_option linter.unusedVariables false
set_option linter.unusedSimpArgs false
set_option maxHeartbeats 400000
theorem row_own {w w0 : World} {S0 : Nat → Prop} {L F : List It} {b n : Nat} {xs : List Value} {t : TypeId} (H : X.Own w0 S0 L w) (hp : Pick L (row b xs t) F) (hn : xs.length = n) (hm : n ≤ maxLen) : X.Own w0 S0 (own t 1 (.slice (some ⟨b, 0, none⟩) n n) n xs :: F) w := by
  have H1 : X.Own w0 S0 (row b xs t :: F) w := let ⟨S, h1, h2⟩ := H; ⟨S, hp.iff.1 h1, h2⟩
  refine H1.rep .here fun S ⟨k1, k2⟩ => ⟨S, ⟨⟨by omega, .inr ⟨b, n, xs.toArray, rfl, Nat.zero_le _, k1, Nat.le_refl _, hm, by simp [hn], by simpa using List.take_of_length_le (Nat.le_of_eq hn)⟩⟩, fun k => ?_⟩, Out.refl _ _, fun _ h => .inl h⟩
  rw [k2]
  simp only [Value.ownBlock, Option.some.injEq]
  exact eq_comm
def strs (xs : List ByteArray) : List Value := xs.map Value.string
theorem strs_one (xs : List ByteArray) : ∀ u ∈ strs xs, u.oneCell' = true := by
  intro u hu
  obtain ⟨x, _, rfl⟩ := List.mem_map.1 hu
  rfl
theorem lens_le {xs : List (List UInt8)} {m : Nat} (h : ∀ x ∈ xs, x.length ≤ m) : Lib.lens xs ≤ xs.length * m := by
  induction xs with
  | nil => simp [Lib.lens]
  | cons x r ih =>
    have h1 := h x (by simp)
    have h2 := ih fun y hy => h y (by simp [hy])
    simp only [Lib.lens, List.map_cons, List.sum_cons, List.length_cons] at *
    rw [Nat.add_mul]; omega
theorem ite21 {p : Prop} [Decidable p] {x y : List UInt8} (h1 : x.length ≤ 21) (h2 : y.length ≤ 21) : (if p then x else y).length ≤ 21 := by
  by_cases h : p
  · rw [if_pos h]; exact h1
  · rw [if_neg h]; exact h2
theorem txt_len {s : St} (hs : s.Fit) (f : Int) : (s.txt f).length ≤ 21 := by
  obtain ⟨f0, f1, f2, f3, f4, f5, f6, f7, f8, f9, f10, f11, f12⟩ := hs
  unfold St.txt
  have hi : ∀ n, I64 n → (Lib.itoa n).length ≤ 21 := fun n hn => Lib.itoa_length_le n hn.1 hn.2
  have hx : (Lib.decDigits s.x.toNat).length ≤ 21 := by
    rw [Lib.decDigits_length]
    by_cases h0 : s.x.toNat = 0
    · rw [h0, ← Lib.decDigits_length]; unfold Lib.decDigits; simp
    · have := Lib.numDigits_eq s.x.toNat (by omega) (by omega); split at this <;> omega
  exact ite21 (hi _ f1) (ite21 (hi _ f2) (ite21 (hi _ f3) (ite21 (hi _ f4) (ite21 (hi _ f5) (ite21 (hi _ f6) (ite21 (hi _ f7) (ite21 (hi _ f8) (ite21 (hi _ f9) (ite21 (hi _ f10) (ite21 hx (ite21 (by decide) (by decide))))))))))))
def wordsT (s : St) (k j : Nat) : List ByteArray := nameW k :: ((fldW k).data.toList.take j).map fun b => ⟨(s.txt b.toNat).toArray⟩
theorem wordsT_next (s : St) (k j : Nat) {b : UInt8} (h : (fldW k).data.toList[j]? = some b) : wordsT s k (j + 1) = wordsT s k j ++ [⟨(s.txt b.toNat).toArray⟩] := by
  unfold wordsT
  obtain ⟨h1, h2⟩ := List.getElem?_eq_some_iff.1 h
  rw [List.take_succ_eq_append_getElem h1, List.map_append, h2]; rfl
theorem fldW_len (k : Nat) : (fldW k).data.toList.length ≤ 5 := by
  unfold fldW
  split <;> decide
theorem nameW_len (k : Nat) : (nameW k).data.toList.length ≤ 7 := by
  unfold nameW
  split <;> decide
theorem wordsT_len (s : St) (k j : Nat) (h : j ≤ (fldW k).data.toList.length) : (wordsT s k j).length = j + 1 := by
  unfold wordsT
  rw [List.length_cons, List.length_map, List.length_take]; omega
def printL (s : St) (k : Nat) : List UInt8 := Lib.join ((wordsT s k (fldW k).data.toList.length).map (·.data.toList)) [32]
theorem print_len {s : St} (hs : s.Fit) (k : Nat) : (printL s k).length ≤ 1000 := by
  have hl := wordsT_len s k _ (Nat.le_refl _)
  have h5 := fldW_len k
  have hw : ∀ x ∈ (wordsT s k (fldW k).data.toList.length).map (·.data.toList), x.length ≤ 21 := by
    intro x hx
    obtain ⟨y, hy, rfl⟩ := List.mem_map.1 hx
    unfold wordsT at hy
    rcases List.mem_cons.1 hy with rfl | hy
    · have := nameW_len k
      omega
    · obtain ⟨b, hb, rfl⟩ := List.mem_map.1 hy
      simpa using txt_len hs b.toNat
  have hle := lens_le hw
  unfold printL
  rw [List.length_map] at hle
  cases hx : (wordsT s k (fldW k).data.toList.length).map (·.data.toList) with
  | nil => simp [Lib.join_nil]
  | cons x r =>
    rw [Lib.join_length]
    rw [hx] at hle
    have : (x :: r).length = (wordsT s k (fldW k).data.toList.length).length := by rw [← hx, List.length_map]
    simp only [List.length_cons, List.length_nil] at *
    omega
def printV (s : St) : Value := match findM ⟨#[]⟩ s.kind with
  | some k => .tuple [strV (printL s k), .int .i64 0].toArray
  | none => .tuple [.string ⟨#[]⟩, .int .i64 280].toArray
theorem Print_t {W : World} (hT : PowAt W) (s : St) (hs : s.Fit) : Tri P F.text_Print [stV s] [keep W] fun v L' => v = printV s ∧ L' = [keep W] := by
  intro w S hS
  refine text_Print_cv ?_
  unfold text_Print
  have H := Own.start hS
  refine alc_o H fun b14 wx H => ?_
  have H : X.Own w S [row b14 s.cells tStep, keep W] wx := H
  unfold St.cells at H
  repeat (first | refine ldI_a H ?_ | refine ldL_a H ?_ | refine ldB_a H ?_ | refine ldP_a H ?_ | refine ldS_a H ?_)
  refine call_pa H (find_t ⟨#[]⟩ s.kind) fun wx H => ?_
  cases hk : findM ⟨#[]⟩ s.kind with
  | none =>
    have e : findV ⟨#[]⟩ s.kind = .tuple [.agg [.int .i64 0, .string ⟨#[]⟩, .string ⟨#[]⟩].toArray, .bool false].toArray := by unfold findV; rw [hk]
    rw [e]
    refine ⟨_, _, _, _, rfl, alc_o H fun b23 wx H => ?_⟩
    refine st1_a H fun wx H => ?_
    refine st1_a H fun wx H => ?_
    refine st1_a H fun wx H => ?_
    exact cnd_i (fun _ => ⟨_, ⟨by unfold printV; rw [hk], rfl⟩, H.dp⟩) (fun h => by cases h)
  | some k =>
    have e : findV ⟨#[]⟩ s.kind = .tuple [.agg [.int .i64 ((k : Int) + 1), .string (nameW k), .string (fldW k)].toArray, .bool true].toArray := by unfold findV; rw [hk]; rfl
    rw [e]
    refine ⟨_, _, _, _, rfl, alc_o H fun b23 wx H => ?_⟩
    refine st1_a H fun wx H => ?_
    refine st1_a H fun wx H => ?_
    refine st1_a H fun wx H => ?_
    refine cnd_i (fun h => by cases h) fun _ => ?_
    repeat (first | refine ldI_a H ?_ | refine ldL_a H ?_ | refine ldB_a H ?_ | refine ldP_a H ?_ | refine ldS_a H ?_)
    refine alc_o H fun b29 wx H => ?_
    repeat (first | refine ldI_a H ?_ | refine ldL_a H ?_ | refine ldB_a H ?_ | refine ldP_a H ?_ | refine ldS_a H ?_)
    refine s2b_o H fun b c wx H => ?_
    have H := row_own (b := b29) (n := 1) H (by repeat (first | exact Pick.here | apply Pick.there)) rfl (by unfold maxLen; omega)
    have hl0 : (wordsT s k 0).length = 1 := rfl
    have H := H.drop (L1 := [own tStr 1 (.slice (some ⟨b29, 0, none⟩) (wordsT s k 0).length 1) (wordsT s k 0).length (strs (wordsT s k 0)), bRow b (lettersV (fldW k)), row b14 s.cells tStep, keep W]) (by unfold St.cells; exact (by repeat (first | exact Cut.nil | (apply Cut.cons; (repeat (first | exact Pick.here | apply Pick.there))))))
    have h5 := fldW_len k
    have hsz : (fldW k).size = (fldW k).data.toList.length := rfl
    refine loop_o (fun (st : (Option Addr × Nat × Nat) × Int) L => ∃ (j : Nat) (p : Option Addr) (cap : Nat), j ≤ (fldW k).data.toList.length ∧ st = ((p, (wordsT s k j).length, cap), (j : Int)) ∧ L = [own tStr 1 (.slice p (wordsT s k j).length cap) (wordsT s k j).length (strs (wordsT s k j)), bRow b (lettersV (fldW k)), row b14 s.cells tStep, keep W])
      (fun (st : (Option Addr × Nat × Nat) × Int) => ((fldW k).data.toList.length - st.2 : Int).toNat) H ⟨0, some ⟨b29, 0, none⟩, 1, by omega, rfl, rfl⟩ ?_
    rintro _ _ wx ⟨j, p, cap, hj, rfl, rfl⟩ H
    unfold text_Print_l0
    dsimp only
    have hlen := wordsT_len s k j hj
    refine cnd_i (fun hc => ?_) fun hc => ?_
    · have hc := of_decide_eq_true hc
      rw [hsz] at hc
      have hjj : j < (fldW k).data.toList.length := by omega
      have e1 : IntKind.i64.wrap ((j : Int) + 1) = ((j + 1 : Nat) : Int) := by rw [W_id (by omega) (by omega)]; push_cast; rfl
      obtain ⟨x, hx⟩ : ∃ x, (fldW k).data.toList[j]? = some x := ⟨_, List.getElem?_eq_getElem hjj⟩
      have hv : (lettersV (fldW k))[j]? = some (.int .u8 ((x.toNat : Nat) : Int)) := by unfold lettersV; rw [List.getElem?_map, hx]; rfl
      refine ix_i (by rw [hsz]; exact hjj) ?_
      dsimp only [nn]
      rw [add_lit, Nat.mul_one, Nat.zero_add]
      refine ⟨_, bRow_cell H (by repeat (first | exact Pick.here | apply Pick.there)) hv, ?_⟩
      unfold St.cells at H
      repeat (first | refine ldI_a H ?_ | refine ldL_a H ?_ | refine ldB_a H ?_ | refine ldP_a H ?_ | refine ldS_a H ?_)
      refine call_pa H (field_t hT s hs ((x.toNat : Nat) : Int)) fun wx H => ?_
      refine ⟨_, rfl, alc_o H fun b85 wx H => ?_⟩
      have hrow := H.row (b := b85) (by repeat (first | exact Pick.here | apply Pick.there))
      have e2 := wordsT_next s k j hx
      refine app_o appStrs (by omega) H (e := tStr) (size := 1) (p := p) (n := (wordsT s k j).length) (c := cap) (xs := strs (wordsT s k j)) (by repeat (first | exact Pick.here | apply Pick.there)) (q := some ⟨b85, 0, none⟩) (m := 1) (news := strs [⟨(s.txt x.toNat).toArray⟩]) (fun j u hj => ⟨_, rfl, ?_⟩) rfl (strs_one _) (by unfold maxLen; omega) (by omega) fun p' c' wx H => ?_
      · rw [add_lit, Nat.zero_add, hrow.cell]; exact hj
      have h2 : (wordsT s k (j + 1)).length = (wordsT s k j).length + 1 := by rw [e2]; simp
      have h3 : strs (wordsT s k (j + 1)) = strs (wordsT s k j) ++ strs [⟨(s.txt x.toNat).toArray⟩] := by rw [e2]; simp [strs]
      rw [← h2, ← h3] at H
      rw [e1]
      refine ⟨⟨[own tStr 1 (.slice p' (wordsT s k (j + 1)).length c') (wordsT s k (j + 1)).length (strs (wordsT s k (j + 1))), bRow b (lettersV (fldW k)), row b14 s.cells tStep, keep W], ⟨j + 1, p', c', by omega, by rw [h2], rfl⟩, H.dp⟩, by show ((fldW k).data.toList.length - ((j + 1 : Nat) : Int)).toNat < ((fldW k).data.toList.length - (j : Int)).toNat; omega⟩
    · have hc := of_decide_eq_false hc
      rw [hsz] at hc
      obtain rfl : j = (fldW k).data.toList.length := by omega
      have hne : wordsT s k (fldW k).data.toList.length ≠ [] := by unfold wordsT; simp
      have hcap : (wordsT s k (fldW k).data.toList.length).length ≤ cap := by
        obtain ⟨S1, ⟨ho, -⟩, -⟩ := H.pick (i := own tStr 1 (.slice p (wordsT s k (fldW k).data.toList.length).length cap) (wordsT s k (fldW k).data.toList.length).length (strs (wordsT s k (fldW k).data.toList.length))) .here
        rcases ho.2 with ⟨e, e'⟩ | ⟨g, cp, cur, e1, _, _, e4, _⟩
        · omega
        · cases e1; exact e4
      refine call_p H (Join_t (own tStr 1 (.slice p (wordsT s k (fldW k).data.toList.length).length cap) (wordsT s k (fldW k).data.toList.length).length (strs (wordsT s k (fldW k).data.toList.length))) (p := p) (c := cap) (wordsT s k (fldW k).data.toList.length) ⟨#[32]⟩ own_sl (fun w S ⟨ho, _⟩ => ?_) hne (by omega) hcap (Nat.le_trans (print_len hs k) (by omega))) (by repeat (first | exact Cut.nil | (apply Cut.cons; (repeat (first | exact Pick.here | apply Pick.there))))) fun wx H => ?_
      · rcases ho.2 with ⟨e, e'⟩ | ⟨g, cp, cur, e1, _⟩
        · omega
        · cases e1; exact ⟨g, rfl⟩
      exact ⟨_, rfl, _, ⟨by unfold printV; rw [hk]; rfl, rfl⟩, H.dp⟩
end Go.Proofs.YtbnadobjnmboiaaDoor
/-
  text: a step with the fields alone that its kind has.
-/
namespace Go.Proofs.YtbnadobjnmboiaaDoor
open Go Go.RowKit X
set_option maxRecDepth 100000
set_option linter.unusedVariables false
set_option linter.unusedSimpArgs false
set_option maxHeartbeats 400000
def St.copy (p s : St) (f : Int) : St :=
  if f = 103 then { p with g := s.g } else if f = 118 then { p with v := s.v } else if f = 99 then { p with c := s.c } else if f = 100 then { p with d := s.d } else if f = 101 then { p with e := s.e } else if f = 110 then { p with n := s.n } else
  if f = 114 then { p with r := s.r } else if f = 116 then { p with t := s.t } else if f = 97 then { p with a := s.a } else if f = 119 then { p with w := s.w } else if f = 120 then { p with x := s.x } else if f = 104 then { p with h := s.h } else p
theorem atoi_num {v n : Int} {e : Value} (hv : I64 v) (h : AtoiEnd ⟨(Lib.itoa v).toArray⟩ n e) : n = v := by
  have h2 : Lib.atoiAll (⟨(Lib.itoa v).toArray⟩ : ByteArray).data.toList = .ok v := by
    have := atoi_itoa v hv.1 hv.2
    simpa using this
  rcases h with ⟨h, -⟩ | ⟨h, -⟩
  · rw [h2] at h; injection h with h; exact h.symm
  · exact absurd h2 (h v)
theorem put_copy {p s : St} (hs : s.Fit) {f n : Int} {e : Value} (h : AtoiEnd ⟨(s.txt f).toArray⟩ n e) : p.put f n s.x = p.copy s f := by
  obtain ⟨f0, f1, f2, f3, f4, f5, f6, f7, f8, f9, f10, f11, f12⟩ := hs
  by_cases h0 : f = 103
  · subst h0; rw [show p.put 103 n s.x = { p with g := n } from rfl, atoi_num f1 h]; rfl
  by_cases h1 : f = 118
  · subst h1; rw [show p.put 118 n s.x = { p with v := n } from rfl, atoi_num f2 h]; rfl
  by_cases h2 : f = 99
  · subst h2; rw [show p.put 99 n s.x = { p with c := n } from rfl, atoi_num f3 h]; rfl
  by_cases h3 : f = 100
  · subst h3; rw [show p.put 100 n s.x = { p with d := n } from rfl, atoi_num f4 h]; rfl
  by_cases h4 : f = 101
  · subst h4; rw [show p.put 101 n s.x = { p with e := n } from rfl, atoi_num f5 h]; rfl
  by_cases h5 : f = 110
  · subst h5; rw [show p.put 110 n s.x = { p with n := n } from rfl, atoi_num f6 h]; rfl
  by_cases h6 : f = 114
  · subst h6; rw [show p.put 114 n s.x = { p with r := n } from rfl, atoi_num f7 h]; rfl
  by_cases h7 : f = 116
  · subst h7; rw [show p.put 116 n s.x = { p with t := n } from rfl, atoi_num f8 h]; rfl
  by_cases h8 : f = 97
  · subst h8; rw [show p.put 97 n s.x = { p with a := n } from rfl, atoi_num f9 h]; rfl
  by_cases h9 : f = 119
  · subst h9; rw [show p.put 119 n s.x = { p with w := n } from rfl, atoi_num f10 h]; rfl
  by_cases h10 : f = 120
  · subst h10; rfl
  by_cases h11 : f = 104
  · subst h11
    have h1' : Lib.atoiAll [49] = .ok 1 := by kernel_rfl
    have h0' : Lib.atoiAll [48] = .ok 0 := by kernel_rfl
    have ht : s.txt 104 = if s.h then [49] else [48] := rfl
    have hn : n = if s.h then 1 else 0 := by
      rw [ht] at h
      cases hh : s.h with
      | true =>
        rw [hh] at h
        rcases h with ⟨h, -⟩ | ⟨h, -⟩
        · have h : Lib.atoiAll [49] = .ok n := h
          rw [h1'] at h; injection h with h; exact h.symm
        · exact absurd h1' (h 1)
      | false =>
        rw [hh] at h
        rcases h with ⟨h, -⟩ | ⟨h, -⟩
        · have h : Lib.atoiAll [48] = .ok n := h
          rw [h0'] at h; injection h with h; exact h.symm
        · exact absurd h0' (h 0)
    rw [show p.put 104 n s.x = { p with h := decide (n = 1) } from rfl, hn]
    show { p with h := _ } = { p with h := s.h }
    cases s.h <;> rfl
  unfold St.put St.copy
  simp only [h0, h1, h2, h3, h4, h5, h6, h7, h8, h9, h10, h11, if_false]
/-- the plain step of a step of the k-th kind, the first j fields -/
def plainJ (s : St) (k j : Nat) : St := ((fldW k).data.toList.take j).foldl (fun p b => p.copy s b.toNat) { st0 with kind := s.kind }
theorem plainJ_next (s : St) (k j : Nat) {b : UInt8} (h : (fldW k).data.toList[j]? = some b) : plainJ s k (j + 1) = (plainJ s k j).copy s b.toNat := by
  unfold plainJ
  obtain ⟨h1, h2⟩ := List.getElem?_eq_some_iff.1 h
  rw [List.take_succ_eq_append_getElem h1, List.foldl_append, h2]; rfl
def plainS (s : St) (k : Nat) : St := plainJ s k (fldW k).data.toList.length
def plainV (s : St) : Value := match findM ⟨#[]⟩ s.kind with
  | some k => .tuple [stV (plainS s k), .int .i64 0].toArray
  | none => .tuple [stV st0, .int .i64 280].toArray
theorem Plain_t {W : World} (hL : LibAt W) (s : St) (hs : s.Fit) : Tri P F.text_Plain [stV s] [keep W] fun v L' => v = plainV s ∧ L' = [keep W] := by
  intro w S hS
  refine text_Plain_cv ?_
  unfold text_Plain
  have H := Own.start hS
  refine alc_o H fun b14 wx H => alc_o H fun b16 wx H => ?_
  have H : X.Own w S [row b16 st0.cells tStep, row b14 s.cells tStep, keep W] wx := H
  unfold St.cells at H
  repeat (first | refine ldI_a H ?_ | refine ldL_a H ?_ | refine ldB_a H ?_ | refine ldP_a H ?_ | refine ldS_a H ?_)
  refine call_pa H (find_t ⟨#[]⟩ s.kind) fun wx H => ?_
  cases hk : findM ⟨#[]⟩ s.kind with
  | none =>
    have e : findV ⟨#[]⟩ s.kind = .tuple [.agg [.int .i64 0, .string ⟨#[]⟩, .string ⟨#[]⟩].toArray, .bool false].toArray := by unfold findV; rw [hk]
    rw [e]
    refine ⟨_, _, _, _, rfl, alc_o H fun b25 wx H => ?_⟩
    refine st1_a H fun wx H => ?_
    refine st1_a H fun wx H => ?_
    refine st1_a H fun wx H => ?_
    refine cnd_i (fun _ => ?_) (fun h => by cases h)
    refine st1_a H fun wx H => ?_
    refine st1_a H fun wx H => ?_
    refine st1_a H fun wx H => ?_
    refine st1_a H fun wx H => ?_
    refine st1_a H fun wx H => ?_
    refine st1_a H fun wx H => ?_
    refine st1_a H fun wx H => ?_
    refine st1_a H fun wx H => ?_
    refine st1_a H fun wx H => ?_
    refine st1_a H fun wx H => ?_
    refine st1_a H fun wx H => ?_
    refine st1_a H fun wx H => ?_
    refine st1_a H fun wx H => ?_
    repeat (first | refine ldI_a H ?_ | refine ldL_a H ?_ | refine ldB_a H ?_ | refine ldP_a H ?_ | refine ldS_a H ?_)
    exact ⟨_, ⟨by unfold plainV; rw [hk]; rfl, rfl⟩, H.dp⟩
  | some k =>
    have e : findV ⟨#[]⟩ s.kind = .tuple [.agg [.int .i64 ((k : Int) + 1), .string (nameW k), .string (fldW k)].toArray, .bool true].toArray := by unfold findV; rw [hk]; rfl
    rw [e]
    refine ⟨_, _, _, _, rfl, alc_o H fun b25 wx H => ?_⟩
    refine st1_a H fun wx H => ?_
    refine st1_a H fun wx H => ?_
    refine st1_a H fun wx H => ?_
    refine cnd_i (fun h => by cases h) fun _ => ?_
    repeat (first | refine ldI_a H ?_ | refine ldL_a H ?_ | refine ldB_a H ?_ | refine ldP_a H ?_ | refine ldS_a H ?_)
    refine alc_o H fun b57 wx H => ?_
    refine st1_a H fun wx H => ?_
    refine st1_a H fun wx H => ?_
    refine st1_a H fun wx H => ?_
    refine st1_a H fun wx H => ?_
    refine st1_a H fun wx H => ?_
    refine st1_a H fun wx H => ?_
    refine st1_a H fun wx H => ?_
    refine st1_a H fun wx H => ?_
    refine st1_a H fun wx H => ?_
    refine st1_a H fun wx H => ?_
    refine st1_a H fun wx H => ?_
    refine st1_a H fun wx H => ?_
    refine st1_a H fun wx H => ?_
    simp only [List.set_cons_zero, List.set_cons_succ] at H
    repeat (first | refine ldI_a H ?_ | refine ldL_a H ?_ | refine ldB_a H ?_ | refine ldP_a H ?_ | refine ldS_a H ?_)
    refine s2b_o H fun b c wx H => ?_
    have H := H.drop (L1 := [bRow b (lettersV (fldW k)), row b57 (plainJ s k 0).cells tStep, row b16 st0.cells tStep, row b14 s.cells tStep, keep W]) (by unfold St.cells; exact (by repeat (first | exact Cut.nil | (apply Cut.cons; (repeat (first | exact Pick.here | apply Pick.there))))))
    have h5 := fldW_len k
    have hsz : (fldW k).size = (fldW k).data.toList.length := rfl
    refine loop_o (fun (st : Int) L => ∃ (j : Nat), (j : Int) = st ∧ j ≤ (fldW k).data.toList.length ∧ L = [bRow b (lettersV (fldW k)), row b57 (plainJ s k j).cells tStep, row b16 st0.cells tStep, row b14 s.cells tStep, keep W])
      (fun (st : Int) => ((fldW k).data.toList.length - st : Int).toNat) H ⟨0, rfl, by omega, rfl⟩ ?_
    clear H
    rintro _ _ wx ⟨j, rfl, hj, rfl⟩ H
    unfold text_Plain_l0
    refine cnd_i (fun hc => ?_) fun hc => ?_
    · have hc := of_decide_eq_true hc
      rw [hsz] at hc
      have hjj : j < (fldW k).data.toList.length := by omega
      have e1 : IntKind.i64.wrap ((j : Int) + 1) = ((j + 1 : Nat) : Int) := by rw [W_id (by omega) (by omega)]; push_cast; rfl
      obtain ⟨x, hx⟩ : ∃ x, (fldW k).data.toList[j]? = some x := ⟨_, List.getElem?_eq_getElem hjj⟩
      have hv : (lettersV (fldW k))[j]? = some (.int .u8 ((x.toNat : Nat) : Int)) := by unfold lettersV; rw [List.getElem?_map, hx]; rfl
      refine ix_i (by rw [hsz]; exact hjj) ?_
      dsimp only [nn]
      rw [add_lit, Nat.mul_one, Nat.zero_add]
      refine ⟨_, bRow_cell H (by repeat (first | exact Pick.here | apply Pick.there)) hv, ?_⟩
      have hnx := plainJ_next s k j hx
      rw [e1]
      generalize plainJ s k j = p at *
      unfold St.cells at H
      repeat (first | refine ldI_a H ?_ | refine ldL_a H ?_ | refine ldB_a H ?_ | refine ldP_a H ?_ | refine ldS_a H ?_)
      refine call_pa H (field_t hL.pow s hs ((x.toNat : Nat) : Int)) fun wx H => ?_
      refine ⟨_, rfl, ?_⟩
      have htl := txt_len hs ((x.toNat : Nat) : Int)
      have hsz2 : (⟨(s.txt ((x.toNat : Nat) : Int)).toArray⟩ : ByteArray).size ≤ 281474976710656 := by
        show (s.txt ((x.toNat : Nat) : Int)).toArray.size ≤ _
        rw [List.size_toArray]; omega
      refine call_oa H (Atoi_t hL ⟨(s.txt ((x.toNat : Nat) : Int)).toArray⟩ hsz2) fun vx L' wx hq H => ?_
      obtain ⟨⟨n, ev, rfl, hend, -⟩, rfl⟩ := hq
      simp only [List.cons_append, List.nil_append] at H
      refine ⟨_, _, rfl, ?_⟩
      repeat (first | refine ldI_a H ?_ | refine ldL_a H ?_ | refine ldB_a H ?_ | refine ldP_a H ?_ | refine ldS_a H ?_)
      refine call_pa H (with_t p ((x.toNat : Nat) : Int) n s.x) fun wx H => ?_
      rw [put_copy hs hend]
      obtain ⟨p2, hp2⟩ : ∃ p2, plainJ s k (j + 1) = p2 := ⟨_, rfl⟩
      rw [hp2] at hnx
      rw [← hnx]
      refine ⟨_, _, _, _, _, _, _, _, _, _, _, _, _, rfl, ?_⟩
      refine st1_a H fun wx H => ?_
      refine st1_a H fun wx H => ?_
      refine st1_a H fun wx H => ?_
      refine st1_a H fun wx H => ?_
      refine st1_a H fun wx H => ?_
      refine st1_a H fun wx H => ?_
      refine st1_a H fun wx H => ?_
      refine st1_a H fun wx H => ?_
      refine st1_a H fun wx H => ?_
      refine st1_a H fun wx H => ?_
      refine st1_a H fun wx H => ?_
      refine st1_a H fun wx H => ?_
      refine st1_a H fun wx H => ?_
      simp only [List.set_cons_zero, List.set_cons_succ] at H
      refine ⟨⟨[bRow b (lettersV (fldW k)), row b57 (plainJ s k (j + 1)).cells tStep, row b16 st0.cells tStep, row b14 s.cells tStep, keep W], ⟨j + 1, rfl, by omega, rfl⟩, ?_⟩, by show ((fldW k).data.toList.length - ((j + 1 : Nat) : Int)).toNat < ((fldW k).data.toList.length - (j : Int)).toNat; omega⟩
      rw [hp2]
      exact H.drop (by unfold St.cells; exact (by repeat (first | exact Cut.nil | (apply Cut.cons; (repeat (first | exact Pick.here | apply Pick.there))))))
    · have hc := of_decide_eq_false hc
      rw [hsz] at hc
      obtain rfl : j = (fldW k).data.toList.length := by omega
      have hp : plainV s = .tuple [stV (plainJ s k (fldW k).data.toList.length), .int .i64 0].toArray := by unfold plainV plainS; rw [hk]
      rw [hp]
      generalize plainJ s k (fldW k).data.toList.length = p at *
      unfold St.cells at H
      repeat (first | refine ldI_a H ?_ | refine ldL_a H ?_ | refine ldB_a H ?_ | refine ldP_a H ?_ | refine ldS_a H ?_)
      refine st1_a H fun wx H => ?_
      refine st1_a H fun wx H => ?_
      refine st1_a H fun wx H => ?_
      refine st1_a H fun wx H => ?_
      refine st1_a H fun wx H => ?_
      refine st1_a H fun wx H => ?_
      refine st1_a H fun wx H => ?_
      refine st1_a H fun wx H => ?_
      refine st1_a H fun wx H => ?_
      refine st1_a H fun wx H => ?_
      refine st1_a H fun wx H => ?_
      refine st1_a H fun wx H => ?_
      refine st1_a H fun wx H => ?_
      simp only [List.set_cons_zero, List.set_cons_succ] at H
      repeat (first | refine ldI_a H ?_ | refine ldL_a H ?_ | refine ldB_a H ?_ | refine ldP_a H ?_ | refine ldS_a H ?_)
      exact ⟨_, ⟨rfl, rfl⟩, H.dp⟩
end Go.Proofs.YtbnadobjnmboiaaDoor
/-
  text: plain steps: what a field put in does.
-/
namespace Go.Proofs.YtbnadobjnmboiaaDoor
open Go Go.RowKit X
set_option maxRecDepth 100000
set_option linter.unusedVariables false
set_option linter.unusedSimpArgs false
set_option maxHeartbeats 400000
/-- the letters -/
def letters : List Int := [103, 118, 99, 100, 101, 110, 114, 116, 97, 119, 120, 104]
theorem letters_of (k : Nat) : ∀ b ∈ (fldW k).data.toList, ((b.toNat : Nat) : Int) ∈ letters := by
  unfold fldW
  split <;> decide
theorem fldW_nodup (k : Nat) : (fldW k).data.toList.Nodup := by
  unfold fldW
  split <;> decide
theorem put_kind (s : St) (f n x : Int) : (s.put f n x).kind = s.kind := by
  simp only [St.put, apply_ite St.kind]; simp
theorem copy_put_ne (p s : St) {f g n x : Int} (hf : f ∈ letters) (hg : g ∈ letters) (h : f ≠ g) : p.copy (s.put f n x) g = p.copy s g := by
  simp only [letters, List.mem_cons, List.not_mem_nil, or_false] at hf hg
  rcases hf with rfl | rfl | rfl | rfl | rfl | rfl | rfl | rfl | rfl | rfl | rfl | rfl <;>
  rcases hg with rfl | rfl | rfl | rfl | rfl | rfl | rfl | rfl | rfl | rfl | rfl | rfl <;>
  first | rfl | exact absurd rfl h
theorem copy_put_eq (p : St) {f n x : Int} (hf : f ∈ letters) : p.copy (p.put f n x) f = p.put f n x := by
  simp only [letters, List.mem_cons, List.not_mem_nil, or_false] at hf
  rcases hf with rfl | rfl | rfl | rfl | rfl | rfl | rfl | rfl | rfl | rfl | rfl | rfl <;> rfl
theorem plainJ_put (s : St) (k j : Nat) {b : UInt8} {n x : Int} (hb : (fldW k).data.toList[j]? = some b) : plainJ (s.put b.toNat n x) k j = plainJ s k j := by
  have key : ∀ i, i ≤ j → plainJ (s.put b.toNat n x) k i = plainJ s k i := by
    intro i
    induction i with
    | zero => intro _; show St.mk _ _ _ _ _ _ _ _ _ _ _ _ _ = _; rw [put_kind]; rfl
    | succ i ih =>
      intro hi
      obtain ⟨hj, hbj⟩ := List.getElem?_eq_some_iff.1 hb
      have hil : i < (fldW k).data.toList.length := by omega
      obtain ⟨c, hc⟩ : ∃ c, (fldW k).data.toList[i]? = some c := ⟨_, List.getElem?_eq_getElem hil⟩
      rw [plainJ_next _ k i hc, plainJ_next _ k i hc, ih (by omega)]
      refine copy_put_ne _ _ (letters_of k b (List.mem_of_getElem? hb)) (letters_of k c (List.mem_of_getElem? hc)) fun e => ?_
      have e2 : b = c := by
        have : b.toNat = c.toNat := by exact_mod_cast e
        exact UInt8.toNat_inj.1 this
      subst e2
      have hnd := fldW_nodup k
      have := (List.getElem_inj hnd (h₀ := hj) (h₁ := hil)).1 (by rw [hbj]; exact ((List.getElem?_eq_some_iff.1 hc).2).symm)
      omega
  exact key j (Nat.le_refl _)
theorem plainJ_step {d : St} {k j : Nat} {b : UInt8} {n x : Int} (hb : (fldW k).data.toList[j]? = some b) (h : plainJ d k j = d) : plainJ (d.put b.toNat n x) k (j + 1) = d.put b.toNat n x := by
  rw [plainJ_next _ k j hb, plainJ_put d k j hb, h]
  exact copy_put_eq d (letters_of k b (List.mem_of_getElem? hb))
end Go.Proofs.YtbnadobjnmboiaaDoor
/-
  text: a line read as a step: what is wanted of it.
-/
namespace Go.Proofs.YtbnadobjnmboiaaDoor
open Go Go.RowKit X
set_option maxRecDepth 100000
set_option linter.unusedVariables false
set_option linter.unusedSimpArgs false
set_option maxHeartbeats 400000
theorem uint_dec {u : Nat} (h : u < 18446744073709551616) : Lib.parseUintB 64 (Lib.decDigits u) = .ok u := by
  rw [Lib.parseUintB_64, Lib.parseMag, if_neg (dec_ne u), parse_dec u h]
theorem nameW_inj : ∀ i, i < 12 → ∀ j, j < 12 → (nameW i).data.toList = (nameW j).data.toList → i = j := by decide
theorem nameW_ne : ∀ i, i < 12 → (nameW i).data.toList ≠ [] := by decide
theorem findM_lt {nm : ByteArray} {kd : Int} {k : Nat} (h : findM nm kd = some k) : k < 12 ∧ findP nm kd k = true := by
  unfold findM at h
  rw [List.find?_range_eq_some] at h
  exact ⟨List.mem_range.1 h.2.1, h.1⟩
theorem find_kind {kd : Int} {k : Nat} (h : findM ⟨#[]⟩ kd = some k) : k < 12 ∧ kd = (k : Int) + 1 := by
  obtain ⟨h1, h2⟩ := findM_lt h
  refine ⟨h1, ?_⟩
  unfold findP at h2
  rw [Bool.or_eq_true, decide_eq_true_eq, decide_eq_true_eq] at h2
  rcases h2 with h2 | h2
  · exact absurd h2 (nameW_ne k h1)
  · exact h2.symm
theorem kind_find {k : Nat} (h : k < 12) : findM ⟨#[]⟩ ((k : Int) + 1) = some k := by
  refine findM_some h (by unfold findP; simp) fun j hj => ?_
  unfold findP
  rw [decide_eq_false (nameW_ne j (by omega)), decide_eq_false (by omega)]; rfl
theorem find_name {nm : ByteArray} {k : Nat} (h : findM nm 0 = some k) : k < 12 ∧ (nameW k).data.toList = nm.data.toList := by
  obtain ⟨h1, h2⟩ := findM_lt h
  refine ⟨h1, ?_⟩
  unfold findP at h2
  rw [Bool.or_eq_true, decide_eq_true_eq, decide_eq_true_eq] at h2
  rcases h2 with h2 | h2
  · exact h2
  · omega
theorem name_find {nm : ByteArray} {k : Nat} (h : k < 12) (hn : (nameW k).data.toList = nm.data.toList) : findM nm 0 = some k := by
  refine findM_some h (by unfold findP; rw [decide_eq_true hn]; rfl) fun j hj => ?_
  unfold findP
  rw [decide_eq_false fun e => ?_, decide_eq_false (by omega)]; rfl
  have := nameW_inj j (by omega) k h (e.trans hn.symm)
  omega
/-- the line is the plain step's -/
def IsL (s : ByteArray) (t : St) : Prop := ∃ k, findM ⟨#[]⟩ t.kind = some k ∧ plainS t k = t ∧ printL t k = s.data.toList
def ParseEnd (s : ByteArray) (d : St) (e : Int) : Prop := (e = 0 ∧ d.Fit ∧ IsL s d) ∨ (e = 290 ∧ d = st0 ∧ ∀ t, t.Fit → ¬ IsL s t)
theorem dec_nospace (u : Nat) : (32 : UInt8) ∉ Lib.decDigits u := fun h => by
  have := dec_digit h
  have e : (32 : UInt8).toNat = 32 := rfl
  omega
theorem ite_no {p : Prop} [Decidable p] {x y : List UInt8} (h1 : (32 : UInt8) ∉ x) (h2 : (32 : UInt8) ∉ y) : (32 : UInt8) ∉ (if p then x else y) := by
  by_cases h : p
  · rw [if_pos h]; exact h1
  · rw [if_neg h]; exact h2
theorem txt_nospace (s : St) (f : Int) : (32 : UInt8) ∉ s.txt f := by
  unfold St.txt
  have hi : ∀ n, (32 : UInt8) ∉ Lib.itoa n := itoa_nospace
  exact ite_no (hi _) (ite_no (hi _) (ite_no (hi _) (ite_no (hi _) (ite_no (hi _) (ite_no (hi _) (ite_no (hi _) (ite_no (hi _) (ite_no (hi _) (ite_no (hi _) (ite_no (dec_nospace _) (ite_no (by decide) (by decide))))))))))))
theorem nameW_nospace (k : Nat) : (32 : UInt8) ∉ (nameW k).data.toList := by
  unfold nameW
  split <;> decide
theorem wordsT_nospace (s : St) (k j : Nat) : ∀ x ∈ wordsT s k j, (32 : UInt8) ∉ x.data.toList := by
  intro x hx
  unfold wordsT at hx
  rcases List.mem_cons.1 hx with rfl | hx
  · exact nameW_nospace k
  · obtain ⟨b, hb, rfl⟩ := List.mem_map.1 hx
    simpa using txt_nospace s b.toNat
theorem split_line {s : ByteArray} {t : St} {k : Nat} (h : printL t k = s.data.toList) : splitW s = wordsT t k (fldW k).data.toList.length := by
  unfold splitW
  exact splitB_join 32 (by unfold wordsT; simp) (wordsT_nospace t k _) h.symm
end Go.Proofs.YtbnadobjnmboiaaDoor
/-
  text: a line read as a step: the walk.
-/
namespace Go.Proofs.YtbnadobjnmboiaaDoor
open Go Go.RowKit X
set_option maxRecDepth 100000
set_option linter.unusedVariables false
set_option linter.unusedSimpArgs false
set_option maxHeartbeats 400000
abbrev wsR (b : Nat) (s : ByteArray) : It := row b ((splitW s).map Value.string) (Tryd.laysM146_ren.t 9)
theorem ite_fit {p : Prop} [Decidable p] {x y : St} (h1 : x.Fit) (h2 : y.Fit) : (if p then x else y).Fit := by
  by_cases h : p
  · rw [if_pos h]; exact h1
  · rw [if_neg h]; exact h2
theorem put_fit {d : St} {f n x : Int} (hd : d.Fit) (hn : I64 n) (hx : 0 ≤ x ∧ x < 18446744073709551616) : (d.put f n x).Fit := by
  obtain ⟨f0, f1, f2, f3, f4, f5, f6, f7, f8, f9, f10, f11, f12⟩ := hd
  unfold St.put
  exact ite_fit ⟨f0, hn, f2, f3, f4, f5, f6, f7, f8, f9, f10, f11, f12⟩ (ite_fit ⟨f0, f1, hn, f3, f4, f5, f6, f7, f8, f9, f10, f11, f12⟩ (ite_fit ⟨f0, f1, f2, hn, f4, f5, f6, f7, f8, f9, f10, f11, f12⟩ (ite_fit ⟨f0, f1, f2, f3, hn, f5, f6, f7, f8, f9, f10, f11, f12⟩ (ite_fit ⟨f0, f1, f2, f3, f4, hn, f6, f7, f8, f9, f10, f11, f12⟩ (ite_fit ⟨f0, f1, f2, f3, f4, f5, hn, f7, f8, f9, f10, f11, f12⟩ (ite_fit ⟨f0, f1, f2, f3, f4, f5, f6, hn, f8, f9, f10, f11, f12⟩ (ite_fit ⟨f0, f1, f2, f3, f4, f5, f6, f7, hn, f9, f10, f11, f12⟩ (ite_fit ⟨f0, f1, f2, f3, f4, f5, f6, f7, f8, hn, f10, f11, f12⟩ (ite_fit ⟨f0, f1, f2, f3, f4, f5, f6, f7, f8, f9, hn, f11, f12⟩ (ite_fit ⟨f0, f1, f2, f3, f4, f5, f6, f7, f8, f9, f10, hx.1, hx.2⟩ (ite_fit ⟨f0, f1, f2, f3, f4, f5, f6, f7, f8, f9, f10, f11, f12⟩ ⟨f0, f1, f2, f3, f4, f5, f6, f7, f8, f9, f10, f11, f12⟩)))))))))))
theorem base_fit {n : Int} (h : I64 n) : ({ st0 with kind := n } : St).Fit := by
  have z : I64 0 := ⟨by decide, by decide⟩
  exact ⟨h, z, z, z, z, z, z, z, z, z, z, Int.le_refl 0, by show (0 : Int) < _; decide⟩
theorem piece_le (sep : ByteArray) : ∀ (k : Nat) (s : ByteArray), ∀ x ∈ Lib.splitB sep 0 k s, x.size ≤ s.size
  | 0, s, x, hx => by
    rw [Lib.splitB_zero, List.mem_singleton] at hx
    rw [hx]; exact Nat.le_refl _
  | k + 1, s, x, hx => by
    unfold Lib.splitB at hx
    split at hx
    · rw [List.mem_singleton] at hx
      rw [hx]; exact Nat.le_refl _
    · rcases List.mem_cons.1 hx with rfl | hx
      · rw [ByteArray.size_extract]; omega
      · have := piece_le sep k _ x hx
        rw [ByteArray.size_extract] at this
        omega
theorem word_le {s x : ByteArray} (hx : x ∈ splitW s) : x.size ≤ s.size := piece_le _ _ _ x hx
theorem words_at (t : St) {k j : Nat} {b : UInt8} (hx : (fldW k).data.toList[j]? = some b) : (wordsT t k (fldW k).data.toList.length)[j + 1]? = some ⟨(t.txt b.toNat).toArray⟩ := by
  unfold wordsT
  rw [List.take_length, List.getElem?_cons_succ, List.getElem?_map, hx]; rfl
theorem put_x (s : St) {f : Int} (n x y : Int) (h : f ≠ 120) : s.put f n x = s.put f n y := by
  unfold St.put
  simp only [h, if_false]
theorem put_is {d t : St} (ht : t.Fit) {k j : Nat} {b : UInt8} {x : ByteArray} {n u : Int} {ev : Value} (hx : (fldW k).data.toList[j]? = some b) (hw : x = ⟨(t.txt b.toNat).toArray⟩) (hend : AtoiEnd x n ev) (huu : ∀ v : Nat, Lib.parseUintB 64 x.data.toList = .ok v → u = v)
    (hd : d = plainJ t k j) : d.put b.toNat n u = plainJ t k (j + 1) := by
  rw [plainJ_next _ k j hx, ← hd]
  subst hw
  rw [← put_copy ht hend]
  by_cases h : ((b.toNat : Nat) : Int) = 120
  · have e : u = t.x := by
      have h2 : t.txt b.toNat = Lib.decDigits t.x.toNat := by rw [h]; rfl
      have h3 := huu t.x.toNat (by
        show Lib.parseUintB 64 (t.txt b.toNat).toArray.toList = _
        rw [h2]
        exact uint_dec (by have := ht.2.2.2.2.2.2.2.2.2.2.2; omega))
      have := ht.2.2.2.2.2.2.2.2.2.2.2.1
      omega
    rw [e]
  · exact put_x d n _ _ h
theorem sx_i {s : ByteArray} {i : Nat} {b : UInt8} {K : Int → Prop} (h : s.data.toList[i]? = some b) (k : K b.toNat) : sx s (i : Int) K := by
  refine ⟨by omega, b, ?_, k⟩
  have hl : i < s.size := by
    have := (List.getElem?_eq_some_iff.1 h).1
    simpa using this
  rw [Int.toNat_natCast, getElem?_pos s i hl]
  rw [Array.getElem?_toList] at h
  rw [ByteArray.getElem_eq_getElem_data]
  rw [← h]
  exact (Array.getElem?_eq_getElem _).symm
theorem Parse_t {W : World} (hL : LibAt W) (s : ByteArray) (hs : s.size < 4294967281) : Tri P F.text_Parse [.string s] [keep W] fun v L' => (∃ d e, v = .tuple [stV d, .int .i64 e].toArray ∧ ParseEnd s d e) ∧ L' = [keep W] := by
  intro w S hS
  refine text_Parse_cv ?_
  unfold text_Parse
  have H := Own.start hS
  have hln : 0 < (splitW s).length := by rw [splitW_len]; omega
  refine alc_o H fun b2 wx H => ?_
  have H : X.Own w S [row b2 st0.cells tStep, keep W] wx := H
  refine call_oa H (Split_t hL s hs) fun vx L' wx hq H => ?_
  obtain ⟨bw, rfl, rfl⟩ := hq
  simp only [List.cons_append, List.nil_append] at H
  refine ⟨_, _, _, rfl, ?_⟩
  have hw0 : ((splitW s).map Value.string)[0]? = some (.string ((splitW s)[0]'hln)) := by rw [List.getElem?_map, List.getElem?_eq_getElem hln]; rfl
  have h00 : (splitW s)[0]? = some ((splitW s)[0]'hln) := List.getElem?_eq_getElem hln
  refine ix_i (i := 0) hln ?_
  dsimp only [nn]
  rw [add_lit, Nat.zero_mul, Nat.zero_add]
  refine ldS_o H (b := bw) (i := 0) (by repeat (first | exact Pick.here | apply Pick.there)) hw0 ?_
  generalize (splitW s)[0]'hln = nm at *
  refine call_pa H (find_t nm 0) fun wx H => ?_
  have fail : ∀ (p : Option Addr) (l b18 : Nat) wx, X.Own w S [row b2 st0.cells tStep, keep W] wx → (∀ t, t.Fit → ¬ IsL s t) →
      text_Parse_j2 s (fun v w' => ∃ L', ((∃ d e, v = .tuple [stV d, .int .i64 e].toArray ∧ ParseEnd s d e) ∧ L' = [keep W]) ∧ X.Own w S L' w') b2 p l b18 true wx := by
    intro p l b18 wx H hno
    unfold text_Parse_j2
    refine cnd_i (fun _ => ?_) (fun h => by cases h)
    unfold St.cells at H
    refine st1_a H fun wx H => ?_
    refine st1_a H fun wx H => ?_
    refine st1_a H fun wx H => ?_
    refine st1_a H fun wx H => ?_
    refine st1_a H fun wx H => ?_
    refine st1_a H fun wx H => ?_
    refine st1_a H fun wx H => ?_
    refine st1_a H fun wx H => ?_
    refine st1_a H fun wx H => ?_
    refine st1_a H fun wx H => ?_
    refine st1_a H fun wx H => ?_
    refine st1_a H fun wx H => ?_
    refine st1_a H fun wx H => ?_
    repeat (first | refine ldI_a H ?_ | refine ldL_a H ?_ | refine ldB_a H ?_ | refine ldP_a H ?_ | refine ldS_a H ?_)
    exact ⟨_, ⟨⟨st0, 290, rfl, .inr ⟨rfl, rfl, hno⟩⟩, rfl⟩, H.dp⟩
  have hnmk : ∀ t k, findM ⟨#[]⟩ t.kind = some k → printL t k = s.data.toList → (nameW k).data.toList = nm.data.toList := by
    intro t k h1 h2
    have h3 := split_line h2
    have h4 : (splitW s)[0]? = some (nameW k) := by rw [h3]; rfl
    rw [h00] at h4
    rw [Option.some.inj h4]
  cases hk : findM nm 0 with
  | none =>
    have e : findV nm 0 = .tuple [.agg [.int .i64 0, .string ⟨#[]⟩, .string ⟨#[]⟩].toArray, .bool false].toArray := by unfold findV; rw [hk]
    rw [e]
    refine ⟨_, _, _, _, rfl, alc_o H fun b18 wx H => ?_⟩
    refine st1_a H fun wx H => ?_
    refine st1_a H fun wx H => ?_
    refine st1_a H fun wx H => ?_
    refine join_o (cnd_i (fun _ => fail _ _ _ _ (H.dp) fun t ht hi => ?_) (fun h => by cases h))
    obtain ⟨k, h1, -, h2⟩ := hi
    rw [name_find (find_kind h1).1 (hnmk t k h1 h2)] at hk
    cases hk
  | some k =>
    have e : findV nm 0 = .tuple [.agg [.int .i64 ((k : Int) + 1), .string (nameW k), .string (fldW k)].toArray, .bool true].toArray := by unfold findV; rw [hk]; rfl
    rw [e]
    refine ⟨_, _, _, _, rfl, alc_o H fun b18 wx H => ?_⟩
    refine st1_a H fun wx H => ?_
    refine st1_a H fun wx H => ?_
    refine st1_a H fun wx H => ?_
    refine join_o (cnd_i (fun h => by cases h) fun _ => ?_)
    repeat (first | refine ldI_a H ?_ | refine ldL_a H ?_ | refine ldB_a H ?_ | refine ldP_a H ?_ | refine ldS_a H ?_)
    obtain ⟨hk12, hkn⟩ := find_name hk
    have hkk : ∀ t, IsL s t → findM ⟨#[]⟩ t.kind = some k ∧ plainS t k = t ∧ printL t k = s.data.toList := by
      rintro t ⟨k', h1, h2, h3⟩
      have h4 := hnmk t k' h1 h3
      have h5 : k' = k := nameW_inj k' (find_kind h1).1 k hk12 (h4.trans hkn.symm)
      subst h5
      exact ⟨h1, h2, h3⟩
    have h5 := fldW_len k
    have hsz : (fldW k).size = (fldW k).data.toList.length := rfl
    by_cases hlen : (splitW s).length = (fldW k).data.toList.length + 1
    · have hb : ((((splitW s).length : Nat) : Int) != IntKind.i64.wrap (1 + (((fldW k).size : Nat) : Int))) = false := by
        rw [hsz, W_id (by omega) (by omega), hlen]
        simp
        omega
      rw [hb]
      unfold text_Parse_j2
      refine cnd_i (fun h => by cases h) fun _ => ?_
      repeat (first | refine ldI_a H ?_ | refine ldL_a H ?_ | refine ldB_a H ?_ | refine ldP_a H ?_ | refine ldS_a H ?_)
      refine alc_o H fun b53 wx H => ?_
      refine st1_a H fun wx H => ?_
      refine st1_a H fun wx H => ?_
      refine st1_a H fun wx H => ?_
      refine st1_a H fun wx H => ?_
      refine st1_a H fun wx H => ?_
      refine st1_a H fun wx H => ?_
      refine st1_a H fun wx H => ?_
      refine st1_a H fun wx H => ?_
      refine st1_a H fun wx H => ?_
      refine st1_a H fun wx H => ?_
      refine st1_a H fun wx H => ?_
      refine st1_a H fun wx H => ?_
      refine st1_a H fun wx H => ?_
      simp only [List.set_cons_zero, List.set_cons_succ] at H
      repeat (first | refine ldI_a H ?_ | refine ldL_a H ?_ | refine ldB_a H ?_ | refine ldP_a H ?_ | refine ldS_a H ?_)
      refine loop_o (fun (st : Int) L => ∃ (j : Nat) (d : St), (j : Int) = st ∧ j ≤ (fldW k).data.toList.length ∧ d.Fit ∧ d.kind = (k : Int) + 1 ∧ plainJ d k j = d ∧ (∀ t, t.Fit → IsL s t → d = plainJ t k j) ∧ L = [row b53 d.cells tStep, row b18 (wordC k) tWord, wsR bw s, row b2 st0.cells tStep, keep W])
        (fun (st : Int) => ((fldW k).data.toList.length - st : Int).toNat) (H.drop (L1 := [row b53 ({ st0 with kind := (k : Int) + 1 } : St).cells tStep, row b18 (wordC k) tWord, wsR bw s, row b2 st0.cells tStep, keep W]) (by unfold St.cells wordC; exact (by repeat (first | exact Cut.nil | (apply Cut.cons; (repeat (first | exact Pick.here | apply Pick.there)))))))
        ⟨0, { st0 with kind := (k : Int) + 1 }, rfl, by omega, base_fit ⟨by omega, by omega⟩, rfl, rfl, fun t ht hi => (by
          have h9 := (find_kind (hkk t hi).1).2
          show _ = { st0 with kind := t.kind }
          rw [h9]), rfl⟩ ?_
      clear H
      rintro _ _ wx ⟨j, d, rfl, hj, hdf, hdk, hdp, hdt, rfl⟩ H
      unfold text_Parse_l1
      refine cnd_i (fun hc => ?_) fun hc => ?_
      · have hc := of_decide_eq_true hc
        rw [hsz] at hc
        have hjj : j < (fldW k).data.toList.length := by omega
        have e0 : IntKind.i64.wrap (1 + (j : Int)) = ((j + 1 : Nat) : Int) := by rw [W_id (by omega) (by omega)]; omega
        have e1 : IntKind.i64.wrap ((j : Int) + 1) = ((j + 1 : Nat) : Int) := by rw [W_id (by omega) (by omega)]; omega
        obtain ⟨c, hx⟩ : ∃ c, (fldW k).data.toList[j]? = some c := ⟨_, List.getElem?_eq_getElem hjj⟩
        have hjw : j + 1 < (splitW s).length := by omega
        have hwj : ((splitW s).map Value.string)[j + 1]? = some (.string ((splitW s)[j + 1]'hjw)) := by rw [List.getElem?_map, List.getElem?_eq_getElem hjw]; rfl
        have hxs := word_le (List.getElem_mem hjw)
        have hxe : (splitW s)[j + 1]? = some ((splitW s)[j + 1]'hjw) := List.getElem?_eq_getElem hjw
        generalize (splitW s)[j + 1]'hjw = x at *
        rw [e0, e1]
        refine ix_i hjw ?_
        dsimp only [nn]
        rw [add_lit, Nat.mul_one, Nat.zero_add]
        refine ldS_o H (b := bw) (i := j + 1) (by repeat (first | exact Pick.here | apply Pick.there)) hwj ?_
        refine call_oa H (Atoi_t hL x (by omega)) fun vx L' wx hq H => ?_
        obtain ⟨⟨n, ev, rfl, hend, hn1, hn2⟩, rfl⟩ := hq
        simp only [List.cons_append, List.nil_append] at H
        refine ⟨_, _, rfl, ?_⟩
        refine ix_i hjw ?_
        rw [add_lit, Nat.mul_one, Nat.zero_add]
        refine ldS_o H (b := bw) (i := j + 1) (by repeat (first | exact Pick.here | apply Pick.there)) hwj ?_
        refine call_oa H (ParseUint_t hL x (by omega)) fun vx L' wx hq H => ?_
        obtain ⟨⟨u, ev2, rfl, hu, huu⟩, rfl⟩ := hq
        simp only [List.cons_append, List.nil_append] at H
        refine ⟨_, _, rfl, ?_⟩
        refine drw_o H fun wx H => ?_
        have hnx : ∀ t, t.Fit → IsL s t → d.put c.toNat n u = plainJ t k (j + 1) := fun t ht hi => by
          refine put_is ht hx ?_ hend huu (hdt t ht hi)
          have h6 := words_at t hx
          rw [← split_line (hkk t hi).2.2, hxe] at h6
          exact Option.some.inj h6
        have hpf : (d.put c.toNat n u).Fit := put_fit hdf ⟨hn1, hn2⟩ hu
        have hpk : (d.put c.toNat n u).kind = (k : Int) + 1 := by rw [put_kind]; exact hdk
        have hps : plainJ (d.put c.toNat n u) k (j + 1) = d.put c.toNat n u := plainJ_step hx hdp
        have hwt := with_t d ((c.toNat : Nat) : Int) n u
        generalize d.put c.toNat n u = p2 at *
        unfold St.cells wordC at H
        repeat (first | refine ldI_a H ?_ | refine ldL_a H ?_ | refine ldB_a H ?_ | refine ldP_a H ?_ | refine ldS_a H ?_)
        refine sx_i hx ?_
        refine call_pa H (hwt) fun wx H => ?_
        refine ⟨_, _, _, _, _, _, _, _, _, _, _, _, _, rfl, ?_⟩
        refine st1_a H fun wx H => ?_
        refine st1_a H fun wx H => ?_
        refine st1_a H fun wx H => ?_
        refine st1_a H fun wx H => ?_
        refine st1_a H fun wx H => ?_
        refine st1_a H fun wx H => ?_
        refine st1_a H fun wx H => ?_
        refine st1_a H fun wx H => ?_
        refine st1_a H fun wx H => ?_
        refine st1_a H fun wx H => ?_
        refine st1_a H fun wx H => ?_
        refine st1_a H fun wx H => ?_
        refine st1_a H fun wx H => ?_
        simp only [List.set_cons_zero, List.set_cons_succ] at H
        refine ⟨⟨[row b53 p2.cells tStep, row b18 (wordC k) tWord, wsR bw s, row b2 st0.cells tStep, keep W], ⟨j + 1, p2, rfl, by omega, hpf, hpk, hps, hnx, rfl⟩, ?_⟩, by show ((fldW k).data.toList.length - ((j + 1 : Nat) : Int)).toNat < ((fldW k).data.toList.length - (j : Int)).toNat; omega⟩
        exact H.drop (by unfold St.cells wordC; exact (by repeat (first | exact Cut.nil | (apply Cut.cons; (repeat (first | exact Pick.here | apply Pick.there))))))
      · have hc := of_decide_eq_false hc
        rw [hsz] at hc
        obtain rfl : j = (fldW k).data.toList.length := by omega
        have hkf : findM ⟨#[]⟩ d.kind = some k := by rw [hdk]; exact kind_find hk12
        have hpv : printV d = .tuple [strV (printL d k), .int .i64 0].toArray := by unfold printV; rw [hkf]
        unfold St.cells at H
        repeat (first | refine ldI_a H ?_ | refine ldL_a H ?_ | refine ldB_a H ?_ | refine ldP_a H ?_ | refine ldS_a H ?_)
        refine call_pa H (Print_t hL.pow d hdf) fun wx H => ?_
        rw [hpv]
        refine ⟨_, _, rfl, join_o (cnd_i (fun h => by cases h) fun _ => ?_)⟩
        rw [bytes_beq]
        unfold text_Parse_j0
        by_cases heq : printL d k = s.data.toList
        · have hd : (!decide ((⟨(printL d k).toArray⟩ : ByteArray).data.toList = s.data.toList)) = false := by simpa using heq
          rw [hd]
          refine cnd_i (fun h => by cases h) fun _ => ?_
          repeat (first | refine ldI_a H ?_ | refine ldL_a H ?_ | refine ldB_a H ?_ | refine ldP_a H ?_ | refine ldS_a H ?_)
          refine st1_a H fun wx H => ?_
          refine st1_a H fun wx H => ?_
          refine st1_a H fun wx H => ?_
          refine st1_a H fun wx H => ?_
          refine st1_a H fun wx H => ?_
          refine st1_a H fun wx H => ?_
          refine st1_a H fun wx H => ?_
          refine st1_a H fun wx H => ?_
          refine st1_a H fun wx H => ?_
          refine st1_a H fun wx H => ?_
          refine st1_a H fun wx H => ?_
          refine st1_a H fun wx H => ?_
          refine st1_a H fun wx H => ?_
          simp only [List.set_cons_zero, List.set_cons_succ] at H
          repeat (first | refine ldI_a H ?_ | refine ldL_a H ?_ | refine ldB_a H ?_ | refine ldP_a H ?_ | refine ldS_a H ?_)
          exact ⟨_, ⟨⟨d, 0, rfl, .inl ⟨rfl, hdf, k, hkf, hdp, heq⟩⟩, rfl⟩, H.dp⟩
        · have hd : (!decide ((⟨(printL d k).toArray⟩ : ByteArray).data.toList = s.data.toList)) = true := by simpa using heq
          rw [hd]
          refine cnd_i (fun _ => ?_) (fun h => by cases h)
          refine st1_a H fun wx H => ?_
          refine st1_a H fun wx H => ?_
          refine st1_a H fun wx H => ?_
          refine st1_a H fun wx H => ?_
          refine st1_a H fun wx H => ?_
          refine st1_a H fun wx H => ?_
          refine st1_a H fun wx H => ?_
          refine st1_a H fun wx H => ?_
          refine st1_a H fun wx H => ?_
          refine st1_a H fun wx H => ?_
          refine st1_a H fun wx H => ?_
          refine st1_a H fun wx H => ?_
          refine st1_a H fun wx H => ?_
          repeat (first | refine ldI_a H ?_ | refine ldL_a H ?_ | refine ldB_a H ?_ | refine ldP_a H ?_ | refine ldS_a H ?_)
          refine ⟨_, ⟨⟨st0, 290, rfl, .inr ⟨rfl, rfl, fun t ht hi => heq ?_⟩⟩, rfl⟩, H.dp⟩
          have h9 := hdt t ht hi
          obtain ⟨g1, g2, g3⟩ := hkk t hi
          have h10 : d = t := h9.trans g2
          rw [h10]; exact g3
    · have hb : ((((splitW s).length : Nat) : Int) != IntKind.i64.wrap (1 + (((fldW k).size : Nat) : Int))) = true := by
        rw [hsz, W_id (by omega) (by omega)]
        simp
        omega
      rw [hb]
      refine fail _ _ _ _ (H.dp) fun t ht hi => hlen ?_
      obtain ⟨h1, h2, h3⟩ := hkk t hi
      rw [split_line h3, wordsT_len _ _ _ (Nat.le_refl _)]
end Go.Proofs.YtbnadobjnmboiaaDoor
