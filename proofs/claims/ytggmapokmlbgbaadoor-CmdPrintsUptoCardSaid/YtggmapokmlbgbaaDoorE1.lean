/-
  cmd: a command, its fields, and where they stand.
-/
import Derived.Test.YtggmapokmlbgbaaDoorTy
import Derived.Test.YtggmapokmlbgbaaDoorA5
namespace Go.Proofs.YtggmapokmlbgbaaDoor
open Go Go.RowKit X
set_option maxRecDepth 100000
set_option linter.unusedVariables false
set_option linter.unusedSimpArgs false
structure Cm where
  op : Int
  dev : Int
  ev : Int
  num : Int
  coll : Int
  tgt : Int
  bits : Int
  addr : Int
  val : Bool
  deriving DecidableEq
def Cm.cells (c : Cm) : List Value := [.int .i64 c.op, .int .i64 c.dev, .int .i64 c.ev, .int .i64 c.num, .int .i64 c.coll, .int .i64 c.tgt, .int .i64 c.bits, .int .i64 c.addr, .bool c.val]
def cmV (c : Cm) : Value := .agg [.int .i64 c.op, .int .i64 c.dev, .int .i64 c.ev, .int .i64 c.num, .int .i64 c.coll, .int .i64 c.tgt, .int .i64 c.bits, .int .i64 c.addr, .bool c.val].toArray
def cm0 : Cm := ⟨0, 0, 0, 0, 0, 0, 0, 0, false⟩
def knownB (op : Int) : Bool := decide (op = 1 ∨ (3 ≤ op ∧ op ≤ 5) ∨ (8 ≤ op ∧ op ≤ 15))
/-- in which word a field stands -/
def pw (op : Int) : Nat → Nat
  | 0 => 0
  | 1 => 1
  | 2 => if op = 14 then 3 else 1
  | 5 => 1
  | _ => 2
/-- from which bit on -/
def pf (op : Int) : Nat → Nat
  | 0 => 32
  | 1 => 0
  | 2 => if op = 14 then 16 else 32
  | 3 => 0
  | 4 => 16
  | 5 => 0
  | 6 => 8
  | _ => 63
/-- how many bits -/
def ps (op : Int) : Nat → Nat
  | 0 => 32
  | 1 => 32
  | 2 => if op = 14 then 16 else 32
  | 3 => 16
  | 4 => 16
  | 5 => 5
  | 6 => 40
  | _ => 1
/-- whether there is such a one -/
def ph (op : Int) : Nat → Bool
  | 0 => decide (op ≠ 9 ∧ op ≠ 13 ∧ op ≠ 14 ∧ op ≠ 5)
  | 1 => decide (op = 10 ∨ op = 11 ∨ op = 1 ∨ op = 3 ∨ op = 4 ∨ op = 12 ∨ op = 15)
  | 2 => decide (op = 14 ∨ op = 10)
  | 3 => decide (op = 9 ∨ op = 10 ∨ op = 11 ∨ op = 1 ∨ op = 13)
  | 4 => decide (op = 9 ∨ op = 14 ∨ op = 5)
  | 5 => decide (op = 8)
  | 6 => decide (op = 8)
  | _ => decide (op = 8 ∨ op = 9)
def Cm.get (c : Cm) : Nat → Int
  | 0 => c.dev
  | 1 => c.ev
  | 2 => c.num
  | 3 => c.coll
  | 4 => c.tgt
  | 5 => c.bits
  | 6 => c.addr / 256
  | _ => if c.val then 1 else 0
def Cm.put (c : Cm) (n : Int) : Nat → Cm
  | 0 => { c with dev := n }
  | 1 => { c with ev := n }
  | 2 => { c with num := n }
  | 3 => { c with coll := n }
  | 4 => { c with tgt := n }
  | 5 => { c with bits := n }
  | 6 => { c with addr := IntKind.i64.wrap (n * 256) }
  | _ => { c with val := n == 1 }
theorem Known_t (op : Int) : Tri P F.cmd_Known [.int .i64 op] [] fun v L' => v = .bool (knownB op) ∧ L' = [] := by
  intro w S hS
  refine cmd_Known_cv ?_
  unfold cmd_Known
  have H := Own.start hS
  refine join_o ?_
  unfold cmd_Known_j0
  have fin : ∀ b : Bool, b = knownB op → ∃ L', ((Value.bool b) = .bool (knownB op) ∧ L' = []) ∧ X.Own w S L' w := fun b h => ⟨_, ⟨by rw [h], rfl⟩, H⟩
  refine cnd_i (fun h => fin _ ?_) fun h => cnd_i (fun h2 => cnd_i (fun h3 => fin _ ?_) fun h3 => cnd_i (fun h4 => fin _ ?_) fun h4 => fin _ ?_) fun h2 => cnd_i (fun h3 => fin _ ?_) fun h3 => fin _ ?_ <;>
  · unfold knownB
    simp only [beq_iff_eq, decide_eq_true_eq, beq_eq_false_iff_ne, ne_eq, decide_eq_false_iff_not] at *
    first
      | (symm; rw [decide_eq_true_eq]; omega)
      | (symm; rw [decide_eq_false_iff_not]; omega)
      | (rw [decide_eq_decide]; omega)
theorem parted_t (op : Int) (k : Nat) (hk : k < 8) : Tri P F.cmd_parted [.int .i64 op, .int .i64 (k : Int)] [] fun v L' =>
    v = .tuple [.agg [.int .i64 ((pw op k : Nat) : Int), .int .i64 ((pf op k : Nat) : Int), .int .i64 ((ps op k : Nat) : Int)].toArray, .bool (ph op k)].toArray ∧ L' = [] := by
  intro w S hS
  refine cmd_parted_cv ?_
  unfold cmd_parted
  have H := Own.start hS
  refine alc_o H fun bx wx H => ?_
  have fin : ∀ (x y z : Nat) (b : Bool) wx, X.Own w S [row bx [.int .i64 x, .int .i64 y, .int .i64 z] tPart] wx → x = pw op k → y = pf op k → z = ps op k → b = ph op k →
      ldI .i64 ⟨bx, 0, none⟩ wx fun n => ldI .i64 ⟨bx, 1, none⟩ wx fun n' => ldI .i64 ⟨bx, 2, none⟩ wx fun n'' =>
      ∃ L', (Value.tuple [.agg [.int .i64 n, .int .i64 n', .int .i64 n''].toArray, .bool b].toArray = .tuple [.agg [.int .i64 ((pw op k : Nat) : Int), .int .i64 ((pf op k : Nat) : Int), .int .i64 ((ps op k : Nat) : Int)].toArray, .bool (ph op k)].toArray ∧ L' = []) ∧ X.Own w S L' wx := by
    intro x y z b wx H e1 e2 e3 e4
    repeat (first | refine ldI_a H ?_ | refine ldL_a H ?_ | refine ldB_a H ?_ | refine ldP_a H ?_ | refine ldS_a H ?_)
    exact ⟨_, ⟨by rw [e1, e2, e3, e4], rfl⟩, H.dp⟩
  unfold cmd_parted_j0 cmd_parted_j1 cmd_parted_j2 cmd_parted_j3 cmd_parted_j4
  have hk : k = 0 ∨ k = 1 ∨ k = 2 ∨ k = 3 ∨ k = 4 ∨ k = 5 ∨ k = 6 ∨ k = 7 := by omega
  rcases hk with rfl | rfl | rfl | rfl | rfl | rfl | rfl | rfl
  · refine cnd_i (fun _ => ?_) (fun h => by cases h)
    refine join_o ?_
    refine cnd_i (fun h1 => cnd_i (fun h2 => cnd_i (fun h3 => ?_) fun h3 => ?_) fun h2 => ?_) fun h1 => ?_ <;> (refine st1_a H fun wx H => ?_; refine st1_a H fun wx H => ?_; refine st1_a H fun wx H => ?_; refine fin 0 32 32 _ _ H rfl rfl rfl ?_; simp_all [ph])
    exact Bool.eq_iff_iff.2 (by simp)
  · refine cnd_i (fun h => by cases h) (fun _ => ?_)
    refine cnd_i (fun _ => ?_) (fun h => by cases h)
    refine join_o ?_
    refine cnd_i (fun h1 => ?_) fun h1 => cnd_i (fun h2 => ?_) fun h2 => cnd_i (fun h3 => ?_) fun h3 => cnd_i (fun h4 => ?_) fun h4 => cnd_i (fun h5 => ?_) fun h5 => cnd_i (fun h6 => ?_) fun h6 => ?_ <;> (refine st1_a H fun wx H => ?_; refine st1_a H fun wx H => ?_; refine st1_a H fun wx H => ?_; refine fin 1 0 32 _ _ H rfl rfl rfl ?_; simp_all [ph])
    exact Bool.eq_iff_iff.2 (by simp)
  · refine cnd_i (fun h => by cases h) (fun _ => ?_)
    refine cnd_i (fun h => by cases h) (fun _ => ?_)
    refine cnd_i (fun _ => ?_) (fun h => by cases h)
    refine cnd_i (fun h1 => ?_) fun h1 => ?_
    · refine st1_a H fun wx H => ?_
      refine st1_a H fun wx H => ?_
      refine st1_a H fun wx H => ?_
      refine fin 3 16 16 _ _ H ?_ ?_ ?_ ?_ <;> simp_all [pw, pf, ps, ph]
    · refine st1_a H fun wx H => ?_
      refine st1_a H fun wx H => ?_
      refine st1_a H fun wx H => ?_
      refine fin 1 32 32 _ _ H ?_ ?_ ?_ ?_ <;> simp_all [pw, pf, ps, ph]
      exact Bool.eq_iff_iff.2 (by simp)
  · refine cnd_i (fun h => by cases h) (fun _ => ?_)
    refine cnd_i (fun h => by cases h) (fun _ => ?_)
    refine cnd_i (fun h => by cases h) (fun _ => ?_)
    refine cnd_i (fun _ => ?_) (fun h => by cases h)
    refine join_o ?_
    refine cnd_i (fun h1 => ?_) fun h1 => cnd_i (fun h2 => ?_) fun h2 => cnd_i (fun h3 => ?_) fun h3 => cnd_i (fun h4 => ?_) fun h4 => ?_ <;> (refine st1_a H fun wx H => ?_; refine st1_a H fun wx H => ?_; refine st1_a H fun wx H => ?_; refine fin 2 0 16 _ _ H rfl rfl rfl ?_; simp_all [ph])
    exact Bool.eq_iff_iff.2 (by simp)
  · refine cnd_i (fun h => by cases h) (fun _ => ?_)
    refine cnd_i (fun h => by cases h) (fun _ => ?_)
    refine cnd_i (fun h => by cases h) (fun _ => ?_)
    refine cnd_i (fun h => by cases h) (fun _ => ?_)
    refine cnd_i (fun _ => ?_) (fun h => by cases h)
    refine join_o ?_
    refine cnd_i (fun h1 => ?_) fun h1 => cnd_i (fun h2 => ?_) fun h2 => ?_ <;> (refine st1_a H fun wx H => ?_; refine st1_a H fun wx H => ?_; refine st1_a H fun wx H => ?_; refine fin 2 16 16 _ _ H rfl rfl rfl ?_; simp_all [ph])
    exact Bool.eq_iff_iff.2 (by simp)
  · refine cnd_i (fun h => by cases h) (fun _ => ?_)
    refine cnd_i (fun h => by cases h) (fun _ => ?_)
    refine cnd_i (fun h => by cases h) (fun _ => ?_)
    refine cnd_i (fun h => by cases h) (fun _ => ?_)
    refine cnd_i (fun h => by cases h) (fun _ => ?_)
    refine cnd_i (fun _ => ?_) (fun h => by cases h)
    refine st1_a H fun wx H => ?_
    refine st1_a H fun wx H => ?_
    refine st1_a H fun wx H => ?_
    exact fin 1 0 5 _ _ H rfl rfl rfl (Bool.eq_iff_iff.2 (by simp [ph]))
  · refine cnd_i (fun h => by cases h) (fun _ => ?_)
    refine cnd_i (fun h => by cases h) (fun _ => ?_)
    refine cnd_i (fun h => by cases h) (fun _ => ?_)
    refine cnd_i (fun h => by cases h) (fun _ => ?_)
    refine cnd_i (fun h => by cases h) (fun _ => ?_)
    refine cnd_i (fun h => by cases h) (fun _ => ?_)
    refine cnd_i (fun _ => ?_) (fun h => by cases h)
    refine st1_a H fun wx H => ?_
    refine st1_a H fun wx H => ?_
    refine st1_a H fun wx H => ?_
    exact fin 2 8 40 _ _ H rfl rfl rfl (Bool.eq_iff_iff.2 (by simp [ph]))
  · refine cnd_i (fun h => by cases h) (fun _ => ?_)
    refine cnd_i (fun h => by cases h) (fun _ => ?_)
    refine cnd_i (fun h => by cases h) (fun _ => ?_)
    refine cnd_i (fun h => by cases h) (fun _ => ?_)
    refine cnd_i (fun h => by cases h) (fun _ => ?_)
    refine cnd_i (fun h => by cases h) (fun _ => ?_)
    refine cnd_i (fun h => by cases h) (fun _ => ?_)
    refine join_o ?_
    refine cnd_i (fun h1 => ?_) fun h1 => ?_ <;> (refine st1_a H fun wx H => ?_; refine st1_a H fun wx H => ?_; refine st1_a H fun wx H => ?_; refine fin 2 63 1 _ _ H rfl rfl rfl ?_; simp_all [ph])
    exact Bool.eq_iff_iff.2 (by simp)
theorem get_t (c : Cm) (k : Nat) (hk : k < 8) : Tri P F.cmd_get [cmV c, .int .i64 (k : Int)] [] fun v L' => v = .int .i64 (c.get k) ∧ L' = [] := by
  intro w S hS
  refine cmd_get_cv ?_
  unfold cmd_get
  have H := Own.start hS
  refine alc_o H fun bx wx H => ?_
  have hk : k = 0 ∨ k = 1 ∨ k = 2 ∨ k = 3 ∨ k = 4 ∨ k = 5 ∨ k = 6 ∨ k = 7 := by omega
  rcases hk with rfl | rfl | rfl | rfl | rfl | rfl | rfl | rfl
  · refine cnd_i (fun _ => ?_) (fun h => by cases h)
    repeat (first | refine ldI_a H ?_ | refine ldL_a H ?_ | refine ldB_a H ?_ | refine ldP_a H ?_ | refine ldS_a H ?_)
    exact ⟨_, ⟨rfl, rfl⟩, H.dp⟩
  · refine cnd_i (fun h => by cases h) (fun _ => ?_)
    refine cnd_i (fun _ => ?_) (fun h => by cases h)
    repeat (first | refine ldI_a H ?_ | refine ldL_a H ?_ | refine ldB_a H ?_ | refine ldP_a H ?_ | refine ldS_a H ?_)
    exact ⟨_, ⟨rfl, rfl⟩, H.dp⟩
  · refine cnd_i (fun h => by cases h) (fun _ => ?_)
    refine cnd_i (fun h => by cases h) (fun _ => ?_)
    refine cnd_i (fun _ => ?_) (fun h => by cases h)
    repeat (first | refine ldI_a H ?_ | refine ldL_a H ?_ | refine ldB_a H ?_ | refine ldP_a H ?_ | refine ldS_a H ?_)
    exact ⟨_, ⟨rfl, rfl⟩, H.dp⟩
  · refine cnd_i (fun h => by cases h) (fun _ => ?_)
    refine cnd_i (fun h => by cases h) (fun _ => ?_)
    refine cnd_i (fun h => by cases h) (fun _ => ?_)
    refine cnd_i (fun _ => ?_) (fun h => by cases h)
    repeat (first | refine ldI_a H ?_ | refine ldL_a H ?_ | refine ldB_a H ?_ | refine ldP_a H ?_ | refine ldS_a H ?_)
    exact ⟨_, ⟨rfl, rfl⟩, H.dp⟩
  · refine cnd_i (fun h => by cases h) (fun _ => ?_)
    refine cnd_i (fun h => by cases h) (fun _ => ?_)
    refine cnd_i (fun h => by cases h) (fun _ => ?_)
    refine cnd_i (fun h => by cases h) (fun _ => ?_)
    refine cnd_i (fun _ => ?_) (fun h => by cases h)
    repeat (first | refine ldI_a H ?_ | refine ldL_a H ?_ | refine ldB_a H ?_ | refine ldP_a H ?_ | refine ldS_a H ?_)
    exact ⟨_, ⟨rfl, rfl⟩, H.dp⟩
  · refine cnd_i (fun h => by cases h) (fun _ => ?_)
    refine cnd_i (fun h => by cases h) (fun _ => ?_)
    refine cnd_i (fun h => by cases h) (fun _ => ?_)
    refine cnd_i (fun h => by cases h) (fun _ => ?_)
    refine cnd_i (fun h => by cases h) (fun _ => ?_)
    refine cnd_i (fun _ => ?_) (fun h => by cases h)
    repeat (first | refine ldI_a H ?_ | refine ldL_a H ?_ | refine ldB_a H ?_ | refine ldP_a H ?_ | refine ldS_a H ?_)
    exact ⟨_, ⟨rfl, rfl⟩, H.dp⟩
  · refine cnd_i (fun h => by cases h) (fun _ => ?_)
    refine cnd_i (fun h => by cases h) (fun _ => ?_)
    refine cnd_i (fun h => by cases h) (fun _ => ?_)
    refine cnd_i (fun h => by cases h) (fun _ => ?_)
    refine cnd_i (fun h => by cases h) (fun _ => ?_)
    refine cnd_i (fun h => by cases h) (fun _ => ?_)
    refine cnd_i (fun _ => ?_) (fun h => by cases h)
    repeat (first | refine ldI_a H ?_ | refine ldL_a H ?_ | refine ldB_a H ?_ | refine ldP_a H ?_ | refine ldS_a H ?_)
    refine ⟨by decide, _, ⟨?_, rfl⟩, H.dp⟩
    show Value.int .i64 (Int.fdiv c.addr 256) = _
    rw [Int.fdiv_eq_ediv_of_nonneg _ (by decide)]; rfl
  · refine cnd_i (fun h => by cases h) (fun _ => ?_)
    refine cnd_i (fun h => by cases h) (fun _ => ?_)
    refine cnd_i (fun h => by cases h) (fun _ => ?_)
    refine cnd_i (fun h => by cases h) (fun _ => ?_)
    refine cnd_i (fun h => by cases h) (fun _ => ?_)
    refine cnd_i (fun h => by cases h) (fun _ => ?_)
    refine cnd_i (fun h => by cases h) (fun _ => ?_)
    repeat (first | refine ldI_a H ?_ | refine ldL_a H ?_ | refine ldB_a H ?_ | refine ldP_a H ?_ | refine ldS_a H ?_)
    refine cnd_i (fun h => ?_) fun h => ?_ <;> exact ⟨_, ⟨by simp [Cm.get, h], rfl⟩, H.dp⟩
theorem put_t' (b : Nat) (c : Cm) (k : Nat) (hk : k < 8) (n : Int) : Tri P F.cmd_put [.pointer (some ⟨b, 0, none⟩), .int .i64 (k : Int), .int .i64 n] [row b c.cells tCmd] fun v L' => v = .tuple [].toArray ∧ L' = [row b (c.put n k).cells tCmd] := by
  intro w S hS
  refine cmd_put_cv ?_
  unfold cmd_put
  have H := Own.start hS
  refine join_o ?_
  unfold cmd_put_j0
  unfold Cm.cells at H
  have hk : k = 0 ∨ k = 1 ∨ k = 2 ∨ k = 3 ∨ k = 4 ∨ k = 5 ∨ k = 6 ∨ k = 7 := by omega
  rcases hk with rfl | rfl | rfl | rfl | rfl | rfl | rfl | rfl
  · refine cnd_i (fun _ => ?_) (fun h => by cases h)
    show st1 _ _ _ _
    rw [add_lit]
    refine st1_a H fun wx H => ?_
    exact ⟨_, ⟨rfl, rfl⟩, H⟩
  · refine cnd_i (fun h => by cases h) (fun _ => ?_)
    refine cnd_i (fun _ => ?_) (fun h => by cases h)
    show st1 _ _ _ _
    rw [add_lit]
    refine st1_a H fun wx H => ?_
    exact ⟨_, ⟨rfl, rfl⟩, H⟩
  · refine cnd_i (fun h => by cases h) (fun _ => ?_)
    refine cnd_i (fun h => by cases h) (fun _ => ?_)
    refine cnd_i (fun _ => ?_) (fun h => by cases h)
    show st1 _ _ _ _
    rw [add_lit]
    refine st1_a H fun wx H => ?_
    exact ⟨_, ⟨rfl, rfl⟩, H⟩
  · refine cnd_i (fun h => by cases h) (fun _ => ?_)
    refine cnd_i (fun h => by cases h) (fun _ => ?_)
    refine cnd_i (fun h => by cases h) (fun _ => ?_)
    refine cnd_i (fun _ => ?_) (fun h => by cases h)
    show st1 _ _ _ _
    rw [add_lit]
    refine st1_a H fun wx H => ?_
    exact ⟨_, ⟨rfl, rfl⟩, H⟩
  · refine cnd_i (fun h => by cases h) (fun _ => ?_)
    refine cnd_i (fun h => by cases h) (fun _ => ?_)
    refine cnd_i (fun h => by cases h) (fun _ => ?_)
    refine cnd_i (fun h => by cases h) (fun _ => ?_)
    refine cnd_i (fun _ => ?_) (fun h => by cases h)
    show st1 _ _ _ _
    rw [add_lit]
    refine st1_a H fun wx H => ?_
    exact ⟨_, ⟨rfl, rfl⟩, H⟩
  · refine cnd_i (fun h => by cases h) (fun _ => ?_)
    refine cnd_i (fun h => by cases h) (fun _ => ?_)
    refine cnd_i (fun h => by cases h) (fun _ => ?_)
    refine cnd_i (fun h => by cases h) (fun _ => ?_)
    refine cnd_i (fun h => by cases h) (fun _ => ?_)
    refine cnd_i (fun _ => ?_) (fun h => by cases h)
    show st1 _ _ _ _
    rw [add_lit]
    refine st1_a H fun wx H => ?_
    exact ⟨_, ⟨rfl, rfl⟩, H⟩
  · refine cnd_i (fun h => by cases h) (fun _ => ?_)
    refine cnd_i (fun h => by cases h) (fun _ => ?_)
    refine cnd_i (fun h => by cases h) (fun _ => ?_)
    refine cnd_i (fun h => by cases h) (fun _ => ?_)
    refine cnd_i (fun h => by cases h) (fun _ => ?_)
    refine cnd_i (fun h => by cases h) (fun _ => ?_)
    refine cnd_i (fun _ => ?_) (fun h => by cases h)
    refine ⟨by decide, ?_⟩
    show st1 _ _ _ _
    rw [add_lit]
    refine st1_a H fun wx H => ?_
    exact ⟨_, ⟨rfl, rfl⟩, H⟩
  · refine cnd_i (fun h => by cases h) (fun _ => ?_)
    refine cnd_i (fun h => by cases h) (fun _ => ?_)
    refine cnd_i (fun h => by cases h) (fun _ => ?_)
    refine cnd_i (fun h => by cases h) (fun _ => ?_)
    refine cnd_i (fun h => by cases h) (fun _ => ?_)
    refine cnd_i (fun h => by cases h) (fun _ => ?_)
    refine cnd_i (fun h => by cases h) (fun _ => ?_)
    show st1 _ _ _ _
    rw [add_lit]
    refine st1_a H fun wx H => ?_
    exact ⟨_, ⟨rfl, rfl⟩, H⟩
end Go.Proofs.YtggmapokmlbgbaaDoor
