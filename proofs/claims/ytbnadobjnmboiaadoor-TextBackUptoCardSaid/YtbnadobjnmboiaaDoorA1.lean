/-
  E: things in memory, side by side: what a function takes and what it leaves.
-/
import Derived.Test.YtbnadobjnmboiaaDoorS4
namespace Go.Proofs.YtbnadobjnmboiaaDoor.X
open Go Go.RowKit
set_option linter.unusedVariables false
set_option linter.unusedSimpArgs false
set_option linter.unusedVariables false
variable {P : Program} {w w0 : World} {S0 : Nat → Prop}

/-- a thing in memory, and the blocks that it takes -/
structure It where
  h : World → (Nat → Prop) → Prop
  loc : ∀ {w w' : World} {S : Nat → Prop}, h w S → (∀ k, S k → w'.heap[k]? = w.heap[k]?) → w.heap.size ≤ w'.heap.size → h w' S
  lt : ∀ {w : World} {S : Nat → Prop}, h w S → ∀ k, S k → k < w.heap.size
def Sep : List It → World → (Nat → Prop) → Prop
  | [], _, S => ∀ k, ¬ S k
  | i :: L, w, S => ∃ S1 S2, i.h w S1 ∧ Sep L w S2 ∧ (∀ k, S1 k → ¬ S2 k) ∧ ∀ k, S k ↔ S1 k ∨ S2 k
theorem Sep.loc : ∀ {L : List It} {w w' : World} {S : Nat → Prop}, Sep L w S → (∀ k, S k → w'.heap[k]? = w.heap[k]?) → w.heap.size ≤ w'.heap.size → Sep L w' S
  | [], _, _, _, h, _, _ => h
  | _ :: _, _, _, _, ⟨S1, S2, h1, h2, h3, h4⟩, hw, hz => ⟨S1, S2, It.loc _ h1 (fun k hk => hw k ((h4 k).2 (.inl hk))) hz, Sep.loc h2 (fun k hk => hw k ((h4 k).2 (.inr hk))) hz, h3, h4⟩
theorem Sep.lt : ∀ {L : List It} {w : World} {S : Nat → Prop}, Sep L w S → ∀ k, S k → k < w.heap.size
  | [], _, _, h, k, hk => absurd hk (h k)
  | _ :: _, _, _, ⟨_, _, h1, h2, _, h4⟩, k, hk => ((h4 k).1 hk).elim (It.lt _ h1 k) (Sep.lt h2 k)
theorem Sep.congr {L : List It} {w : World} {S S' : Nat → Prop} (h : Sep L w S) (e : ∀ k, S' k ↔ S k) : Sep L w S' := by
  have : S' = S := funext fun k => propext (e k)
  rw [this]; exact h
theorem Sep.append {w : World} : ∀ {L F : List It} {S : Nat → Prop}, Sep (L ++ F) w S ↔ ∃ S1 S2, Sep L w S1 ∧ Sep F w S2 ∧ (∀ k, S1 k → ¬ S2 k) ∧ ∀ k, S k ↔ S1 k ∨ S2 k
  | [], F, S => ⟨fun h => ⟨fun _ => False, S, fun _ h => h, h, fun _ h => h.elim, fun k => ⟨.inr, fun h => h.elim False.elim id⟩⟩,
      fun ⟨S1, S2, h1, h2, _, h4⟩ => h2.congr fun k => ⟨fun h => ((h4 k).1 h).elim (fun h => absurd h (h1 k)) id, fun h => (h4 k).2 (.inr h)⟩⟩
  | i :: L, F, S => by
    constructor
    · rintro ⟨S1, S2, h1, h2, h3, h4⟩
      obtain ⟨T1, T2, g1, g2, g3, g4⟩ := Sep.append.1 h2
      refine ⟨fun k => S1 k ∨ T1 k, T2, ⟨S1, T1, h1, g1, fun k hk ht => h3 k hk ((g4 k).2 (.inl ht)), fun _ => Iff.rfl⟩, g2, ?_, fun k => ?_⟩
      · rintro k (hk | hk) ht
        · exact h3 k hk ((g4 k).2 (.inr ht))
        · exact g3 k hk ht
      · rw [h4, g4, or_assoc]
    · rintro ⟨U, T2, ⟨S1, T1, h1, g1, g5, g6⟩, g2, g3, g4⟩
      refine ⟨S1, fun k => T1 k ∨ T2 k, h1, Sep.append.2 ⟨T1, T2, g1, g2, fun k hk => g3 k ((g6 k).2 (.inr hk)), fun _ => Iff.rfl⟩, ?_, fun k => ?_⟩
      · rintro k hk (ht | ht)
        · exact g5 k hk ht
        · exact g3 k ((g6 k).2 (.inl hk)) ht
      · rw [g4, g6, or_assoc]
/-- a thing is taken out of a row of things -/
inductive Pick : List It → It → List It → Prop
  | here {i : It} {L : List It} : Pick (i :: L) i L
  | there {x i : It} {L L' : List It} : Pick L i L' → Pick (x :: L) i (x :: L')
theorem Pick.iff {w : World} {i : It} {L L' : List It} (h : Pick L i L') : ∀ {S : Nat → Prop}, Sep L w S ↔ Sep (i :: L') w S := by
  induction h with
  | here => exact Iff.rfl
  | there h ih =>
    intro S
    constructor
    · rintro ⟨S1, S2, h1, h2, h3, h4⟩
      obtain ⟨T1, T2, g1, g2, g3, g4⟩ := ih.1 h2
      refine ⟨T1, fun k => S1 k ∨ T2 k, g1, ⟨S1, T2, h1, g2, fun k hk ht => h3 k hk ((g4 k).2 (.inr ht)), fun _ => Iff.rfl⟩, ?_, fun k => ?_⟩
      · rintro k hk (ht | ht)
        · exact h3 k ht ((g4 k).2 (.inl hk))
        · exact g3 k hk ht
      · rw [h4, g4, ← or_assoc, ← or_assoc, or_comm (a := S1 k)]
    · rintro ⟨T1, U, g1, ⟨S1, T2, h1, g2, h3, h4⟩, g3, g4⟩
      refine ⟨S1, fun k => T1 k ∨ T2 k, h1, ih.2 ⟨T1, T2, g1, g2, fun k hk ht => g3 k hk ((h4 k).2 (.inr ht)), fun _ => Iff.rfl⟩, ?_, fun k => ?_⟩
      · rintro k hk (ht | ht)
        · exact g3 k ht ((h4 k).2 (.inl hk))
        · exact h3 k hk ht
      · rw [g4, h4, ← or_assoc, ← or_assoc, or_comm (a := S1 k)]
/-- a thing becomes another one -/
inductive Rep : List It → It → It → List It → Prop
  | here {i j : It} {L : List It} : Rep (i :: L) i j (j :: L)
  | there {x i j : It} {L L' : List It} : Rep L i j L' → Rep (x :: L) i j (x :: L')
theorem Rep.out {i j : It} {L L2 : List It} (h : Rep L i j L2) : ∃ L', Pick L i L' ∧ Pick L2 j L' := by
  induction h with
  | here => exact ⟨_, .here, .here⟩
  | there h ih => obtain ⟨L', h1, h2⟩ := ih; exact ⟨_, .there h1, .there h2⟩
/-- things are taken out; the last: what is left -/
inductive Cut : List It → List It → List It → Prop
  | nil {L : List It} : Cut L [] L
  | cons {i : It} {L L' L1 F : List It} : Pick L i L' → Cut L' L1 F → Cut L (i :: L1) F
theorem Cut.iff {w : World} {L L1 F : List It} (h : Cut L L1 F) : ∀ {S : Nat → Prop}, Sep L w S ↔ Sep (L1 ++ F) w S := by
  induction h with
  | nil => exact Iff.rfl
  | cons h1 h2 ih =>
    intro S
    rw [h1.iff]
    constructor
    · rintro ⟨S1, S2, h1, h2, h⟩; exact ⟨S1, S2, h1, ih.1 h2, h⟩
    · rintro ⟨S1, S2, h1, h2, h⟩; exact ⟨S1, S2, h1, ih.2 h2, h⟩
/-- from w0 on, of whose blocks those in S0 may be changed: these things are there now -/
def Own (w0 : World) (S0 : Nat → Prop) (L : List It) (w : World) : Prop := ∃ S, Sep L w S ∧ Out S0 w0 w ∧ ∀ k, S k → S0 k ∨ w0.heap.size ≤ k
theorem Own.start {L : List It} {S : Nat → Prop} (h : Sep L w S) : Own w S L w := ⟨S, h, Out.refl _ _, fun _ h => .inl h⟩
theorem Own.out {L : List It} (H : Own w0 S0 L w) : Out S0 w0 w := let ⟨_, _, h, _⟩ := H; h
theorem Own.perm {L L1 F : List It} (H : Own w0 S0 L w) (hc : Cut L L1 F) : Own w0 S0 (L1 ++ F) w := let ⟨S, h1, h2⟩ := H; ⟨S, hc.iff.1 h1, h2⟩
theorem Own.drop {L L1 F : List It} (H : Own w0 S0 L w) (hc : Cut L L1 F) : Own w0 S0 L1 w := by
  obtain ⟨S, h1, h2, h3⟩ := H
  obtain ⟨S1, S2, g1, _, _, g4⟩ := Sep.append.1 (hc.iff.1 h1)
  exact ⟨S1, g1, h2, fun k hk => h3 k ((g4 k).2 (.inl hk))⟩
theorem Own.rest {L L1 F : List It} (H : Own w0 S0 L w) (hc : Cut L L1 F) : Own w0 S0 F w := by
  obtain ⟨S, h1, h2, h3⟩ := H
  obtain ⟨S1, S2, _, g2, _, g4⟩ := Sep.append.1 (hc.iff.1 h1)
  exact ⟨S2, g2, h2, fun k hk => h3 k ((g4 k).2 (.inr hk))⟩
theorem Own.pick {L F : List It} {i : It} (H : Own w0 S0 L w) (hp : Pick L i F) : ∃ S, i.h w S ∧ ∀ k, S k → S0 k ∨ w0.heap.size ≤ k := by
  obtain ⟨S, h1, _, h3⟩ := H
  obtain ⟨S1, S2, g1, _, _, g4⟩ := hp.iff.1 h1
  exact ⟨S1, g1, fun k hk => h3 k ((g4 k).2 (.inl hk))⟩
/-- a thing is seen otherwise -/
theorem Own.turn {L L1 F : List It} {L2 : List It} (H : Own w0 S0 L w) (hc : Cut L L1 F) (h : ∀ S, Sep L1 w S → Sep L2 w S) : Own w0 S0 (L2 ++ F) w := by
  obtain ⟨S, h1, h2, h3⟩ := H
  obtain ⟨S1, S2, g1, g2, g3, g4⟩ := Sep.append.1 (hc.iff.1 h1)
  exact ⟨S, Sep.append.2 ⟨S1, S2, h _ g1, g2, g3, g4⟩, h2, h3⟩
theorem own_join {L2 F : List It} {w' : World} {S1 S2 S' : Nat → Prop} (g2 : Sep F w S2) (g3 : ∀ k, S1 k → ¬ S2 k) (h2 : Out S0 w0 w) (h3 : ∀ k, S1 k ∨ S2 k → S0 k ∨ w0.heap.size ≤ k)
    (e1 : Sep L2 w' S') (e2 : Out S1 w w') (e3 : ∀ k, S' k → S1 k ∨ w.heap.size ≤ k) : Own w0 S0 (L2 ++ F) w' := by
  have hlt := Sep.lt g2
  refine ⟨fun k => S' k ∨ S2 k, Sep.append.2 ⟨S', S2, e1, g2.loc (fun k hk => e2.block k (hlt k hk) fun hs => g3 k hs hk) e2.size, ?_, fun _ => Iff.rfl⟩, ?_, ?_⟩
  · intro k hk ht
    rcases e3 k hk with h | h
    · exact g3 k h ht
    · have := hlt k ht; omega
  · refine ⟨e2.os.trans h2.os, e2.tape.trans h2.tape, e2.output.trans h2.output, Nat.le_trans h2.size e2.size, fun k hk hn => ?_⟩
    rw [e2.block k (Nat.lt_of_lt_of_le hk h2.size) fun hs => ?_, h2.block k hk hn]
    rcases h3 k (.inl hs) with h | h
    · exact hn h
    · omega
  · rintro k (hk | hk)
    · rcases e3 k hk with h | h
      · exact h3 k (.inl h)
      · exact .inr (Nat.le_trans h2.size h)
    · exact h3 k (.inr hk)
/-- a step that is told by what it changes: of the things L1, whose blocks are S, there come L2 -/
theorem Own.step {L L1 L2 F : List It} {w' : World} (H : Own w0 S0 L w) (hc : Cut L L1 F)
    (h : ∀ S, Sep L1 w S → ∃ S', Sep L2 w' S' ∧ Out S w w' ∧ ∀ k, S' k → S k ∨ w.heap.size ≤ k) : Own w0 S0 (L2 ++ F) w' := by
  obtain ⟨S, h1, h2, h3⟩ := H
  obtain ⟨S1, S2, g1, g2, g3, g4⟩ := Sep.append.1 (hc.iff.1 h1)
  obtain ⟨S', e1, e2, e3⟩ := h S1 g1
  exact own_join g2 g3 h2 (fun k hk => h3 k ((g4 k).2 hk)) e1 e2 e3
/-- a step that only adds -/
theorem Own.grow {L : List It} {w' : World} (H : Own w0 S0 L w) (hB : Below w.heap.size w w') : Own w0 S0 L w' := by
  have := H.step (L1 := []) (L2 := []) (w' := w') .nil fun S hS => ⟨S, hS, Out.pure hB, fun k hk => .inl hk⟩
  exact this
theorem Own.add {L : List It} {i : It} {w' : World} (H : Own w0 S0 L w) (hB : Below w.heap.size w w') {S : Nat → Prop} (hi : i.h w' S) (hS : ∀ k, S k → w.heap.size ≤ k) : Own w0 S0 (i :: L) w' := by
  have := H.step (L1 := []) (L2 := [i]) (w' := w') .nil fun S' hS' => ⟨S, ⟨S, fun _ => False, hi, fun _ h => h, fun _ _ h => h, fun k => by simp⟩, Out.pure hB, fun k hk => .inr (hS k hk)⟩
  exact this
/-- a function: of the things L it makes others -/
def Tri (P : Program) (f : FuncId) (args : List Value) (L : List It) (Q : Value → List It → Prop) : Prop :=
  ∀ w S, Sep L w S → CV P f args w fun v w' => ∃ L', Q v L' ∧ Own w S L' w'
theorem call_o {f : FuncId} {args : List Value} {L L1 F : List It} {Q : Value → List It → Prop} {K : Value → World → Prop} (H : Own w0 S0 L w) (ht : Tri P f args L1 Q) (hc : Cut L L1 F)
    (k : ∀ v L' w', Q v L' → Own w0 S0 (L' ++ F) w' → K v w') : CV P f args w K := by
  obtain ⟨S, h1, h2, h3⟩ := H
  obtain ⟨S1, S2, g1, g2, g3, g4⟩ := Sep.append.1 (hc.iff.1 h1)
  exact (ht w S1 g1).mono fun v w' ⟨L', hq, S', e1, e2, e3⟩ => k v L' w' hq (own_join g2 g3 h2 (fun k hk => h3 k ((g4 k).2 hk)) e1 e2 e3)
/-- a call that leaves the things as they are -/
theorem call_p {f : FuncId} {args : List Value} {L L1 F : List It} {V : Value} {K : Value → World → Prop} (H : Own w0 S0 L w) (ht : Tri P f args L1 fun v L' => v = V ∧ L' = L1) (hc : Cut L L1 F)
    (k : ∀ w', Own w0 S0 L w' → K V w') : CV P f args w K :=
  call_o H ht hc fun v L' w' ⟨e1, e2⟩ h => by
    subst e1 e2
    obtain ⟨S, h1, h2⟩ := h
    exact k w' ⟨S, hc.iff.2 h1, h2⟩
theorem Tri.of_pure {f : FuncId} {args : List Value} {L : List It} {V : Value} (h : ∀ w S, Sep L w S → CV P f args w fun v w' => v = V ∧ Below w.heap.size w w') : Tri P f args L fun v L' => v = V ∧ L' = L :=
  fun w S hS => (h w S hS).mono fun _ _ ⟨e, hB⟩ => ⟨L, ⟨e, rfl⟩, (Own.start hS).grow hB⟩
theorem sep_one {i : It} {w : World} {S : Nat → Prop} : Sep [i] w S ↔ i.h w S := by
  constructor
  · rintro ⟨S1, S2, h1, h2, _, h4⟩
    have : S = S1 := funext fun k => propext ((h4 k).trans ⟨fun h => h.elim id fun h => absurd h (h2 k), .inl⟩)
    rw [this]; exact h1
  · intro h; exact ⟨S, fun _ => False, h, fun _ h => h, fun _ _ h => h, fun k => by simp⟩
theorem own_one {j : It} {w' : World} {S S' : Nat → Prop} (hj : j.h w' S') (hO : Out S w w') (hS : ∀ k, S' k → S k ∨ w.heap.size ≤ k) : Own w S [j] w' := ⟨S', sep_one.2 hj, hO, hS⟩
/-- a row of cells -/
def row (b : Nat) (cs : List Value) (t : TypeId) : It where
  h := fun w S => Row w b cs t ∧ ∀ k, S k ↔ k = b
  loc := fun ⟨h1, h2⟩ hw _ => ⟨by unfold Row at *; rw [hw _ ((h2 _).2 rfl)]; exact h1, h2⟩
  lt := fun ⟨h1, h2⟩ k hk => by rw [(h2 k).1 hk]; exact h1.lt
theorem Own.row {L F : List It} {b : Nat} {cs : List Value} {t : TypeId} (H : Own w0 S0 L w) (hp : Pick L (X.row b cs t) F) : Row w b cs t := let ⟨_, h, _⟩ := H.pick hp; h.1
theorem alc_o {L : List It} {cs : List Value} {t : TypeId} {K : Nat → World → Prop} (H : Own w0 S0 L w) (k : ∀ b w', Own w0 S0 (row b cs t :: L) w' → K b w') : alc cs t w K :=
  alc_i fun w1 hB h1 _ => k _ _ (H.add (i := row _ cs t) (hB _ (Nat.le_refl _)) (S := fun k => k = w.heap.size) ⟨h1, fun _ => Iff.rfl⟩ (by rintro k rfl; exact Nat.le_refl _))
theorem drw_o {L : List It} {K : World → Prop} (H : Own w0 S0 L w) (k : ∀ w', Own w0 S0 L w' → K w') : drw w K := k _ (H.grow (below_drew _))
section
variable {L F : List It} {b i : Nat} {cs : List Value} {t : TypeId}
theorem ldI_o {kd : IntKind} {n : Int} {K : Int → Prop} (H : Own w0 S0 L w) (hp : Pick L (row b cs t) F) (hi : cs[i]? = some (.int kd n)) (hK : K n) : ldI kd ⟨b, i, none⟩ w K := ldI_i (H.row hp) hi hK
theorem ldB_o {n : Bool} {K : Bool → Prop} (H : Own w0 S0 L w) (hp : Pick L (row b cs t) F) (hi : cs[i]? = some (.bool n)) (hK : K n) : ldB ⟨b, i, none⟩ w K := ldB_i (H.row hp) hi hK
theorem ldL_o {p : Option Addr} {n c : Nat} {K : Option Addr → Nat → Nat → Prop} (H : Own w0 S0 L w) (hp : Pick L (row b cs t) F) (hi : cs[i]? = some (.slice p n c)) (hK : K p n c) : ldL ⟨b, i, none⟩ w K := ldL_i (H.row hp) hi hK
theorem ldP_o {p : Option Addr} {K : Option Addr → Prop} (H : Own w0 S0 L w) (hp : Pick L (row b cs t) F) (hi : cs[i]? = some (.pointer p)) (hK : K p) : ldP ⟨b, i, none⟩ w K := ldP_i (H.row hp) hi hK
theorem ldV_o {v : Value} {K : Value → Prop} (H : Own w0 S0 L w) (hp : Pick L (row b cs t) F) (hi : cs[i]? = some v) (hK : K v) : ldV ⟨b, i, none⟩ w K := ldV_i (H.row hp) hi hK
theorem ldS_o {s : ByteArray} {K : ByteArray → Prop} (H : Own w0 S0 L w) (hp : Pick L (row b cs t) F) (hi : cs[i]? = some (.string s)) (hK : K s) : ldS ⟨b, i, none⟩ w K := ⟨s, by rw [(H.row hp).cell, hi], hK⟩
theorem Own.rep {L2 : List It} {i j : It} {w' : World} (H : Own w0 S0 L w) (hr : Rep L i j L2) (h : ∀ S, i.h w S → ∃ S', j.h w' S' ∧ Out S w w' ∧ ∀ k, S' k → S k ∨ w.heap.size ≤ k) : Own w0 S0 L2 w' := by
  obtain ⟨L', h1, h2⟩ := hr.out
  have := H.step (L1 := [i]) (L2 := [j]) (F := L') (w' := w') (.cons h1 .nil) ?_
  · obtain ⟨S, g1, g2⟩ := this
    exact ⟨S, h2.iff.2 g1, g2⟩
  · rintro S ⟨S1, S2, g1, g2, _, g4⟩
    have e : ∀ k, S k ↔ S1 k := fun k => (g4 k).trans ⟨fun h => h.elim id fun h => absurd h (g2 k), .inl⟩
    have : S = S1 := funext fun k => propext (e k)
    subst this
    obtain ⟨S', k1, k2, k3⟩ := h S g1
    exact ⟨S', ⟨S', fun _ => False, k1, fun _ h => h, fun _ _ h => h, fun k => by simp⟩, k2, k3⟩
theorem st1_o {L2 : List It} {v : Value} {K : World → Prop} (H : Own w0 S0 L w) (hr : Rep L (row b cs t) (row b (cs.set i v) t) L2) (hi : i < cs.length) (k : ∀ w', Own w0 S0 L2 w' → K w') : st1 v ⟨b, i, none⟩ w K := by
  obtain ⟨L', h1, h2⟩ := hr.out
  refine st1_i (H.row h1) hi fun w1 hB he hs h3 => k _ (H.rep hr fun S ⟨g1, g2⟩ => ⟨S, ⟨h3, g2⟩, ?_, fun _ h => .inl h⟩)
  have hb := hB 0 (Nat.zero_le _)
  exact ⟨hb.os, hb.tape, hb.output, hb.size, fun k _ hn => he k fun hk => hn ((g2 k).2 hk)⟩
end
/-- blocks that stay as they are in w1: all of them -/
def keep (w1 : World) : It where
  h := fun w S => (∀ k, S k ↔ k < w1.heap.size) ∧ w1.heap.size ≤ w.heap.size ∧ ∀ k, k < w1.heap.size → w.heap[k]? = w1.heap[k]?
  loc := fun ⟨h1, h2, h3⟩ hw hz => ⟨h1, Nat.le_trans h2 hz, fun k hk => (hw k ((h1 k).2 hk)).trans (h3 k hk)⟩
  lt := fun ⟨h1, h2, _⟩ k hk => Nat.lt_of_lt_of_le ((h1 k).1 hk) h2
theorem keep_start (w : World) : Own w (fun k => k < w.heap.size) [keep w] w :=
  .start ⟨fun k => k < w.heap.size, fun _ => False, ⟨fun _ => Iff.rfl, Nat.le_refl _, fun _ _ => rfl⟩, fun _ h => h, fun _ _ h => h, fun k => by simp⟩
theorem keep_done {L F : List It} {S1 : Nat → Prop} (H : Own w0 S1 L w) (hp : Pick L (keep w0) F) : Below w0.heap.size w0 w := by
  obtain ⟨S, h, _⟩ := H.pick hp
  have := H.out
  exact ⟨this.os, this.tape, this.output, this.size, fun k hk => h.2.2 k hk⟩
theorem Own.below {L F : List It} {S1 : Nat → Prop} {w1 : World} (H : Own w0 S1 L w) (hp : Pick L (keep w1) F) : ∀ k, k < w1.heap.size → w.heap[k]? = w1.heap[k]? := by
  obtain ⟨S, h, _⟩ := H.pick hp
  exact h.2.2
theorem row_add {L : List It} {w' : World} {b : Nat} {cs : List Value} {t : TypeId} (H : Own w0 S0 L w) (hB : Below w.heap.size w w') (h : Row w' b cs t) (hb : w.heap.size ≤ b) : Own w0 S0 (row b cs t :: L) w' :=
  H.add (i := row b cs t) hB (S := fun k => k = b) ⟨h, fun _ => Iff.rfl⟩ (by rintro k rfl; exact hb)
/-- a slice that owns its elements -/
def own (e : TypeId) (size : Nat) (v : Value) (n : Nat) (xs : List Value) : It where
  h := fun w S => w.ownsRow 0 e size v n xs ∧ ∀ k, S k ↔ v.ownBlock = some k
  loc := fun ⟨h1, h2⟩ hw _ => ⟨own_of h1 fun k hk => hw k ((h2 k).2 hk), h2⟩
  lt := fun ⟨h1, h2⟩ k hk => (h1.lt k ((h2 k).1 hk)).2
theorem own_nil {L : List It} {e : TypeId} {size : Nat} (H : Own w0 S0 L w) : Own w0 S0 (own e size (.slice none 0 0) 0 [] :: L) w :=
  H.add (i := own e size _ 0 []) (Below.refl _ _) (S := fun _ => False) ⟨World.ownsRow_nil w 0 e size, fun k => by simp [Value.ownBlock]⟩ (fun _ h => h.elim)
theorem own_add {L : List It} {w' : World} {e : TypeId} {base size n : Nat} {v : Value} {xs : List Value} (H : Own w0 S0 L w) (hB : Below w.heap.size w w') (h : w'.ownsRow base e size v n xs) (hb : w.heap.size ≤ base) : Own w0 S0 (own e size v n xs :: L) w' := by
  refine H.add (i := own e size v n xs) hB (S := fun k => v.ownBlock = some k) ⟨⟨h.1, ?_⟩, fun _ => Iff.rfl⟩ ?_
  · rcases h.2 with h | ⟨g, cap, cur, e1, e2, e3⟩
    · exact .inl h
    · exact .inr ⟨g, cap, cur, e1, Nat.zero_le _, e3⟩
  · intro k hk
    rcases h.2 with ⟨rfl, _⟩ | ⟨g, cap, cur, rfl, e2, _⟩
    · cases hk
    · simp only [Value.ownBlock, Option.some.injEq] at hk; omega
theorem Own.sl {L F : List It} {e : TypeId} {p : Option Addr} {n c : Nat} {xs : List Value} (H : Own w0 S0 L w) (hp : Pick L (own e 1 (.slice p n c) n xs) F) : Sl w p xs ∧ xs.length = n := let ⟨_, h, _⟩ := H.pick hp; Sl.own h.1
theorem app_fresh {ta ty e : TypeId} {size bytes : Nat} (hT : appB P ta e size bytes = true) (hsz : 0 < size) {p : Option Addr} {n c : Nat} {xs : List Value} (hown : w.ownsRow 0 e size (.slice p n c) n xs) {q : Option Addr} {m c2 : Nat} {news : List Value}
    (hq : Sl w q news) (hl : news.length = m * size) (h1 : ∀ u ∈ news, u.oneCell' = true) (hn : n + m ≤ maxLen) (hby : (n + m) * bytes ≤ 140737488355328) :
    ∃ p' c' w', (Builtin.append_ #[ta, ta] ty #[.slice p n c, .slice q m c2]).run P w = .ok (.slice p' (n + m) c') w' ∧ w'.ownsRow 0 e size (.slice p' (n + m) c') (n + m) (xs ++ news) ∧ w.grownBy w' (Value.ownBlock (.slice p n c)) ∧
      (∀ k, Value.ownBlock (.slice p' (n + m) c') = some k → Value.ownBlock (.slice p n c) = some k ∨ w.heap.size ≤ k) ∧ (p.isSome = true → p'.isSome = true) := by
  obtain ⟨p', n', c', w', hr, hK⟩ := appS_i (P := P) (ty := ty) (K := fun p' n' c' w' => n' = n + m ∧ w'.ownsRow 0 e size (.slice p' (n + m) c') (n + m) (xs ++ news) ∧ w.grownBy w' (Value.ownBlock (.slice p n c))) hT hsz hown (c' := c2) hq hl h1 hn hby (Nat.zero_le _)
    fun p' c' w' ho hg => ⟨rfl, ho, hg⟩
  obtain ⟨rfl, ho, hg⟩ := hK
  refine ⟨p', c', w', hr, ho, hg, ?_⟩
  rcases hown.2 with ⟨e1, e2⟩ | ⟨g, cap, cur, e1, _, e3, e4, e5, e6, e7⟩
  · cases e1
    have hx : xs = [] := List.eq_nil_of_length_eq_zero (by simpa using hown.1)
    subst hx
    obtain ⟨p2, n2, c3, w2, hr2, hK2⟩ := appS_i (P := P) (ty := ty) (K := fun p' n' c' w' => n' = 0 + m ∧ w'.ownsRow w.heap.size e size (.slice p' (0 + m) c') (0 + m) ([] ++ news)) hT hsz (World.ownsRow_nil w w.heap.size e size) (c' := c2) hq hl h1 hn hby (Nat.le_refl _)
      fun p' c' w' ho hg => ⟨rfl, ho⟩
    obtain ⟨rfl, ho2⟩ := hK2
    have := hr.symm.trans hr2
    simp only [Result.ok.injEq, Value.slice.injEq] at this
    obtain ⟨⟨rfl, _, rfl⟩, rfl⟩ := this
    exact ⟨fun k hk => .inr (ho2.lt k hk).1, fun h => by cases h⟩
  · cases e1
    cases q with
    | none =>
      have hx := sl_nil hq
      subst hx
      have hm : m = 0 := by
        rcases Nat.eq_zero_or_pos m with h | h
        · exact h
        · have := Nat.mul_pos h hsz; simp at hl; omega
      subst hm
      obtain ⟨hu, i, z, hi, hz, h2, h3, h4⟩ := appB_out hT
      have hr2 : (Builtin.append_ #[ta, ta] ty #[.slice (some ⟨g, 0, none⟩) n c, .slice none 0 c2]).run P w = .ok (.slice (some ⟨g, 0, none⟩) (n + 0) c) w := by
        simp [Builtin.append_, run_underlying hu, sizeOf, typeInfo, hi, Builtin.lenOf, Builtin.firstCells, e4, storeCells]
      have := hr.symm.trans hr2
      simp only [Result.ok.injEq, Value.slice.injEq] at this
      obtain ⟨⟨rfl, _, rfl⟩, rfl⟩ := this
      exact ⟨fun k hk => .inl hk, fun _ => rfl⟩
    | some a =>
      obtain ⟨hu, i, z, hi, hz, h2, h3, h4⟩ := appB_out hT
      subst h2 h3
      have hcell : ∀ j u, news[j]? = some u → w.cell? (a.add j) = some u := fun j u hj => by obtain ⟨a', ha, hc⟩ := hq j u hj; cases ha; exact hc
      by_cases hroom : n + m ≤ c
      · have hr2 := run_append_room (P := P) w ta ty e i hu hi g n c cur e3 a m c2 news hl hcell h1 hroom (by rw [hl, e6, ← Nat.add_mul]; exact Nat.mul_le_mul_right _ hroom)
        have := hr.symm.trans hr2
        simp only [Result.ok.injEq, Value.slice.injEq] at this
        obtain ⟨⟨rfl, _, rfl⟩, rfl⟩ := this
        exact ⟨fun k hk => .inl hk, fun _ => rfl⟩
      · have holds : ∀ j u, xs[j]? = some u → w.cell? ((⟨g, 0, none⟩ : Addr).add j) = some u := hown.cells (g := g) rfl
        have hr2 := run_append_grow (P := P) w ta ty e i z hu hi hz ⟨g, 0, none⟩ n c xs hown.1 holds a m c2 news hl hcell (by omega) (by simp only [maxLen] at hn; omega) (growslice_fits (by omega) hby)
        have := hr.symm.trans hr2
        simp only [Result.ok.injEq, Value.slice.injEq] at this
        obtain ⟨⟨rfl, _, rfl⟩, rfl⟩ := this
        refine ⟨fun k hk => ?_, fun _ => rfl⟩
        simp only [Value.ownBlock, Option.some.injEq] at hk
        exact .inr (by omega)
/-- values are appended to a slice that owns its elements -/
theorem app_o {L : List It} {ta ty e : TypeId} {size bytes : Nat} (hT : appB P ta e size bytes = true) (hsz : 0 < size) {p q : Option Addr} {n c m c2 : Nat} {xs news : List Value} (H : Own w0 S0 L w)
    {F : List It} (hp : Pick L (own e size (.slice p n c) n xs) F)
    (hq : Sl w q news) (hl : news.length = m * size) (h1 : ∀ u ∈ news, u.oneCell' = true) (hn : n + m ≤ maxLen) (hby : (n + m) * bytes ≤ 140737488355328) {K : Option Addr → Nat → Nat → World → Prop}
    (k : ∀ p' c' w', Own w0 S0 (own e size (.slice p' (n + m) c') (n + m) (xs ++ news) :: F) w' → K p' (n + m) c' w') : runS P (Builtin.append_ #[ta, ta] ty [.slice p n c, .slice q m c2].toArray) w K := by
  obtain ⟨S, ⟨g1, g2⟩, _⟩ := H.pick hp
  obtain ⟨p', c', w', hr, ho, hg, hk, _⟩ := app_fresh (P := P) (ty := ty) (c2 := c2) hT hsz g1 hq hl h1 hn hby
  refine ⟨p', n + m, c', w', hr, k p' c' w' ?_⟩
  have H1 : Own w0 S0 (own e size (.slice p n c) n xs :: F) w := let ⟨S, h1, h2⟩ := H; ⟨S, hp.iff.1 h1, h2⟩
  refine H1.rep .here fun S ⟨k1, k2⟩ => ⟨fun k => Value.ownBlock (.slice p' (n + m) c') = some k, ⟨ho, fun _ => Iff.rfl⟩, ⟨hg.os, hg.tape, hg.output, hg.size, fun k hk hn => hg.block k hk fun h => hn ((k2 k).2 h.symm)⟩, fun k h => ?_⟩
  exact (hk k h).imp (k2 k).2 id
/-- an element of a slice that owns its elements is read, or put -/
theorem old_o {L F : List It} {e : TypeId} {p : Option Addr} {n c j : Nat} {xs : List Value} {k : IntKind} {x : Int} {K : Int → Prop} (H : Own w0 S0 L w) (hp : Pick L (own e 1 (.slice p n c) n xs) F) (hj : xs[j]? = some (.int k x)) (hK : K x) :
    nn p fun a => ldI k (a.add (j * 1)) w K := by
  obtain ⟨a, rfl, hc⟩ := (H.sl hp).1 j _ hj
  exact ⟨x, by rw [Nat.mul_one]; exact hc, hK⟩
theorem ost_o {L L2 : List It} {e : TypeId} {p : Option Addr} {n c j : Nat} {xs : List Value} {v : Value} {K : World → Prop} (H : Own w0 S0 L w) (hr : Rep L (own e 1 (.slice p n c) n xs) (own e 1 (.slice p n c) n (xs.set j v)) L2) (hj : j < n) (k : ∀ w', Own w0 S0 L2 w' → K w') :
    nn p fun a => st1 v (a.add (j * 1)) w K := by
  obtain ⟨F, f1, _⟩ := hr.out
  obtain ⟨S, ⟨g1, g2⟩, _⟩ := H.pick f1
  rcases g1.2 with ⟨_, h0⟩ | ⟨g, cap, cur, e1, _, e3, e4, e5, e6, e7⟩
  · omega
  · cases e1
    rw [Nat.mul_one] at e6 e7
    show st1 _ _ _ _
    rw [add_lit, Nat.mul_one, Nat.zero_add]
    have hrow : Row w g cur.toList e := e3
    refine st1_i hrow (by simp; omega) fun w1 hB he hs h3 => k _ (H.rep hr fun S' ⟨k1, k2⟩ => ⟨S', ⟨⟨by have := k1.1; simpa using this, .inr ⟨g, c, (cur.toList.set j v).toArray, rfl, Nat.zero_le _, h3, e4, e5, by simp; omega, ?_⟩⟩, k2⟩, ?_, fun _ h => .inl h⟩)
    · rw [Nat.mul_one, ← e7, List.take_set]
    · have hb := hB 0 (Nat.zero_le _)
      exact ⟨hb.os, hb.tape, hb.output, hb.size, fun k _ hn => he k fun hk => hn ((k2 k).2 (by rw [hk]; rfl))⟩
/-- a loop: which things there are at each state -/
theorem loop_o {σ : Type} {step : σ → World → (σ → World → Prop) → Prop} {s0 : σ} {L : List It} (I : σ → List It → Prop) (μ : σ → Nat) (H : Own w0 S0 L w) (h0 : I s0 L)
    (hs : ∀ s L w, I s L → Own w0 S0 L w → step s w fun s' w' => (∃ L', I s' L' ∧ Own w0 S0 L' w') ∧ μ s' < μ s) : LoopT step s0 w :=
  ⟨fun s w => ∃ L, I s L ∧ Own w0 S0 L w, fun s _ => μ s, ⟨L, h0, H⟩, fun s w ⟨L, hi, ho⟩ => hs s L w hi ho⟩
theorem join_o {σ : Type} {B : (σ → World → Prop) → Prop} {J : σ → World → Prop} (h : B J) : JoinT B J := h
/-- a value that is read off a thing -/
theorem Own.rd {L F : List It} {i : It} {q : Option Addr} {xs : List Value} (H : Own w0 S0 L w) (hp : Pick L i F) (hi : ∀ w S, i.h w S → Sl w q xs) : Sl w q xs := let ⟨_, h, _⟩ := H.pick hp; hi _ _ h
theorem keep_sl {w1 : World} {q : Option Addr} {xs : List Value} (h : Sl w1 q xs) : ∀ w S, (keep w1).h w S → Sl w q xs := by
  intro w S ⟨_, _, h3⟩ j u hj
  obtain ⟨a, ha, hc⟩ := h j u hj
  refine ⟨a, ha, ?_⟩
  rw [World.cell?_of_block (h3 _ (World.block_lt_of_cell? _ _ hc))]; exact hc
theorem own_sl {e : TypeId} {p : Option Addr} {n c : Nat} {xs : List Value} : ∀ w S, (own e 1 (.slice p n c) n xs).h w S → Sl w p xs := fun _ _ h => (Sl.own h.1).1
/-! ### the same, the things sought by themselves -/
theorem Own.dp {L L1 F : List It} (H : Own w0 S0 L w) (hc : Cut L L1 F := by repeat (first | exact Cut.nil | (apply Cut.cons; (repeat (first | exact Pick.here | apply Pick.there))))) : Own w0 S0 L1 w := H.drop hc
theorem call_oa {f : FuncId} {args : List Value} {L L1 F : List It} {Q : Value → List It → Prop} {K : Value → World → Prop} (H : Own w0 S0 L w) (ht : Tri P f args L1 Q)
    (k : ∀ v L' w', Q v L' → Own w0 S0 (L' ++ F) w' → K v w') (hc : Cut L L1 F := by repeat (first | exact Cut.nil | (apply Cut.cons; (repeat (first | exact Pick.here | apply Pick.there))))) : CV P f args w K := call_o H ht hc k
theorem call_pa {f : FuncId} {args : List Value} {L L1 F : List It} {V : Value} {K : Value → World → Prop} (H : Own w0 S0 L w) (ht : Tri P f args L1 fun v L' => v = V ∧ L' = L1)
    (k : ∀ w', Own w0 S0 L w' → K V w') (hc : Cut L L1 F := by repeat (first | exact Cut.nil | (apply Cut.cons; (repeat (first | exact Pick.here | apply Pick.there))))) : CV P f args w K := call_p H ht hc k
section
variable {L F : List It} {b i : Nat} {cs : List Value} {t : TypeId}
theorem ldI_a {kd : IntKind} {n : Int} {K : Int → Prop} (H : Own w0 S0 L w) (hK : K n) (hp : Pick L (row b cs t) F := by repeat (first | exact Pick.here | apply Pick.there)) (hi : cs[i]? = some (.int kd n) := by rfl) : ldI kd ⟨b, i, none⟩ w K := ldI_o H hp hi hK
theorem ldB_a {n : Bool} {K : Bool → Prop} (H : Own w0 S0 L w) (hK : K n) (hp : Pick L (row b cs t) F := by repeat (first | exact Pick.here | apply Pick.there)) (hi : cs[i]? = some (.bool n) := by rfl) : ldB ⟨b, i, none⟩ w K := ldB_o H hp hi hK
theorem ldL_a {p : Option Addr} {n c : Nat} {K : Option Addr → Nat → Nat → Prop} (H : Own w0 S0 L w) (hK : K p n c) (hp : Pick L (row b cs t) F := by repeat (first | exact Pick.here | apply Pick.there)) (hi : cs[i]? = some (.slice p n c) := by rfl) : ldL ⟨b, i, none⟩ w K := ldL_o H hp hi hK
theorem ldP_a {p : Option Addr} {K : Option Addr → Prop} (H : Own w0 S0 L w) (hK : K p) (hp : Pick L (row b cs t) F := by repeat (first | exact Pick.here | apply Pick.there)) (hi : cs[i]? = some (.pointer p) := by rfl) : ldP ⟨b, i, none⟩ w K := ldP_o H hp hi hK
theorem ldS_a {s : ByteArray} {K : ByteArray → Prop} (H : Own w0 S0 L w) (hK : K s) (hp : Pick L (row b cs t) F := by repeat (first | exact Pick.here | apply Pick.there)) (hi : cs[i]? = some (.string s) := by rfl) : ldS ⟨b, i, none⟩ w K := ldS_o H hp hi hK
theorem st1_a {L2 : List It} {v : Value} {K : World → Prop} (H : Own w0 S0 L w) (k : ∀ w', Own w0 S0 L2 w' → K w') (hr : Rep L (row b cs t) (row b (cs.set i v) t) L2 := by repeat (first | exact Rep.here | apply Rep.there)) (hi : i < cs.length := by simp) : st1 v ⟨b, i, none⟩ w K := st1_o H hr hi k
end
end Go.Proofs.YtbnadobjnmboiaaDoor.X
