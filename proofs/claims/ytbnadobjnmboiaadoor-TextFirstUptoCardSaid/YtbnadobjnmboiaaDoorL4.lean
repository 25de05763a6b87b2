/-
  text: the document's lines.
-/
import Derived.Test.YtbnadobjnmboiaaDoorWB
namespace Go.Proofs.YtbnadobjnmboiaaDoor
open Go Go.RowKit X
set_option maxRecDepth 100000
set_option linter.unusedVariables false
set_option linter.unusedSimpArgs false
set_option maxHeartbeats 1000000
abbrev tNums : TypeId := T.t23
abbrev tNum : TypeId := T.t3
theorem appNums : appB P tNums tNum 1 8 = true := by kernel_rfl
theorem line_at {s : List UInt8} {i : Nat} (h : i < (lineOf s).length) : ∃ b, s[i]? = some b ∧ b ≠ 10 := by
  refine ⟨(lineOf s)[i], ?_, fun e => line_no s (by rw [← e]; exact List.getElem_mem h)⟩
  conv => lhs; rw [← line_rest s]
  rw [List.getElem?_append_left h, List.getElem?_eq_getElem h]
theorem line_end (s : List UInt8) : (s[(lineOf s).length]? = none ∧ s.length = (lineOf s).length ∧ restOf s = []) ∨ (s[(lineOf s).length]? = some 10 ∧ (lineOf s).length < s.length) := by
  have hl := congrArg List.length (line_rest s)
  rw [List.length_append] at hl
  rcases rest_cases s with h | ⟨r, h⟩
  · rw [h, List.length_nil] at hl
    exact .inl ⟨List.getElem?_eq_none (by omega), by omega, h⟩
  · refine .inr ⟨?_, by rw [h, List.length_cons] at hl; omega⟩
    have e : s = lineOf s ++ 10 :: r := by rw [← h, line_rest]
    generalize lineOf s = l at *
    subst e
    rw [List.getElem?_append_right (Nat.le_refl _), Nat.sub_self]; rfl
theorem drop_line (s : List UInt8) : s.drop ((lineOf s).length + 1) = (restOf s).drop 1 := by
  have e := line_rest s
  generalize lineOf s = l at *
  generalize restOf s = r at *
  subst e
  rw [List.drop_append, List.drop_of_length_le (by omega)]; simp
theorem take_line (s : List UInt8) : s.take (lineOf s).length = lineOf s := by
  have e := line_rest s
  generalize lineOf s = l at *
  generalize restOf s = r at *
  subst e
  simp
def numsV (xs : List (Nat × List UInt8)) : List Value := xs.map fun x => .int .i64 ((x.1 : Nat) : Int)
def linV (xs : List (Nat × List UInt8)) : List Value := xs.map fun x => strV x.2
abbrev ownN (p : Option Addr) (c : Nat) (xs : List (Nat × List UInt8)) : It := own tNum 1 (.slice p xs.length c) xs.length (numsV xs)
abbrev ownL (p : Option Addr) (c : Nat) (xs : List (Nat × List UInt8)) : It := own tStr 1 (.slice p xs.length c) xs.length (linV xs)
theorem slS_mid {l : List UInt8} {a b : Nat} {K : ByteArray → Prop} (h : a ≤ b) (h2 : b ≤ l.length) (k : K ⟨((l.drop a).take (b - a)).toArray⟩) : slS ⟨l.toArray⟩ (some (a : Int)) (some (b : Int)) K := by
  refine ⟨(by intro x hx; cases hx), ?_, ?_, ?_⟩
  · intro x hx; cases hx
    rw [size_bytes]; simp; omega
  · intro x hx; cases hx
    simp; omega
  · simp only [Option.map_none, Option.map_some, Option.getD_none, Option.getD_some, Int.toNat_natCast]
    rw [ext_bytes]; exact k
theorem lines_out {W w wx : World} {S : Nat → Prop} {s ln : List UInt8} {a : Nat} {Pr : List (List UInt8)} {p q : Option Addr} {c c2 : Nat} (hs : s.length ≤ 8000000000000) (hPa : Pr.length ≤ s.length) (hle : a + ln.length ≤ s.length) (htl : (s.drop a).take ln.length = ln)
    {A : (Option Addr × Nat × Nat) × (Option Addr × Nat × Nat) × Int × Int → World → Prop} {A2 : Int → World → Prop}
    (hA : ∀ p' c' q' c2' wx, X.Own w S [ownN p' c' (sayF 0 (Pr ++ [ln])), ownL q' c2' (sayF 0 (Pr ++ [ln])), keep W] wx → A ((p', (sayF 0 (Pr ++ [ln])).length, c'), (q', (sayF 0 (Pr ++ [ln])).length, c2'), ((a + ln.length + 1 : Nat) : Int), ((Pr.length + 1 : Nat) : Int)) wx)
    (H : X.Own w S [ownN p c (sayF 0 Pr), ownL q c2 (sayF 0 Pr), keep W] wx) :
    crierref29_Lines_j2 ⟨s.toArray⟩ p (sayF 0 Pr).length c q (sayF 0 Pr).length c2 (a : Int) ((Pr.length : Nat) : Int) A ((a + ln.length : Nat) : Int) A2 false wx := by
  have zm : ∀ n : Nat, n ≤ 8000000000001 → IntKind.i64.wrap ((n : Int) + 1) = ((n + 1 : Nat) : Int) := fun n h => by rw [W_id (by omega) (by omega)]; push_cast; rfl
  have hap := sayF_app Pr [ln] 0
  rw [sayF_cons] at hap
  have hsl : (sayF 0 Pr).length ≤ s.length := Nat.le_trans (sayF_len Pr 0) hPa
  unfold crierref29_Lines_j2
  refine cnd_i (fun h => by cases h) fun _ => ?_
  refine slS_mid (by omega) (by omega) ?_
  rw [Nat.add_sub_cancel_left, htl]
  refine join_o (join_o ?_)
  rw [bytes_beq]
  have skip : says ln = false → ∀ wx, X.Own w S [ownN p c (sayF 0 Pr), ownL q c2 (sayF 0 Pr), keep W] wx → crierref29_Lines_j0 ((Pr.length : Nat) : Int) A ((a + ln.length : Nat) : Int) p (sayF 0 Pr).length c q (sayF 0 Pr).length c2 wx := by
    intro hsy wx H
    have e : sayF 0 (Pr ++ [ln]) = sayF 0 Pr := by
      rw [hap, if_neg (by rw [hsy]; simp)]; simp [sayF]
    unfold crierref29_Lines_j0
    rw [zm _ (by omega), zm _ (by omega)]
    have := hA p c q c2 wx (by rw [e]; exact H)
    rw [e] at this
    exact this
  cases ln with
  | nil =>
    refine cnd_i (fun h => by cases h) fun _ => ?_
    unfold crierref29_Lines_j1
    exact cnd_i (fun h => by cases h) fun _ => skip rfl _ H
  | cons b ln =>
    refine cnd_i (fun _ => ?_) (fun h => by cases h)
    refine sx_i (i := 0) (b := b) (by simp) ?_
    by_cases hb : b = 35
    · subst hb
      unfold crierref29_Lines_j1
      exact cnd_i (fun h => by cases h) fun _ => skip rfl _ H
    · have hsy : says (b :: ln) = true := by unfold says; simpa using hb
      have hbb : (((b.toNat : Nat) : Int) != 35) = true := by
        rw [bne_iff_ne]
        intro e
        exact hb (UInt8.toNat_inj.1 (show b.toNat = 35 by omega))
      rw [if_pos hsy, Nat.zero_add] at hap
      rw [hbb]
      unfold crierref29_Lines_j1
      refine cnd_i (fun _ => ?_) (fun h => by cases h)
      rw [zm _ (by omega)]
      refine alc_o H fun b45 wx H => ?_
      have hrow := H.row (b := b45) (by repeat (first | exact Pick.here | apply Pick.there))
      refine app_o appNums (by omega) H (e := tNum) (size := 1) (p := p) (n := (sayF 0 Pr).length) (c := c) (xs := numsV (sayF 0 Pr)) (by repeat (first | exact Pick.here | apply Pick.there)) (q := some ⟨b45, 0, none⟩) (m := 1) (news := numsV [(Pr.length + 1, b :: ln)]) (fun j u hj => ⟨_, rfl, ?_⟩) rfl (by intro u hu; simp only [numsV, List.map_cons, List.map_nil, List.mem_singleton] at hu; rw [hu]; rfl) (by unfold maxLen; omega) (by omega) fun p' c' wx H => ?_
      · rw [add_lit, Nat.zero_add, hrow.cell]; exact hj
      refine alc_o H fun b51 wx H => ?_
      have hrow := H.row (b := b51) (by repeat (first | exact Pick.here | apply Pick.there))
      refine app_o appStrs (by omega) H (e := tStr) (size := 1) (p := q) (n := (sayF 0 Pr).length) (c := c2) (xs := linV (sayF 0 Pr)) (by repeat (first | exact Pick.here | apply Pick.there)) (q := some ⟨b51, 0, none⟩) (m := 1) (news := linV [(Pr.length + 1, b :: ln)]) (fun j u hj => ⟨_, rfl, ?_⟩) rfl (by intro u hu; simp only [linV, List.map_cons, List.map_nil, List.mem_singleton] at hu; rw [hu]; rfl) (by unfold maxLen; omega) (by omega) fun q' c2' wx H => ?_
      · rw [add_lit, Nat.zero_add, hrow.cell]; exact hj
      have e1 : (sayF 0 Pr).length + 1 = (sayF 0 (Pr ++ [b :: ln])).length := by rw [hap]; simp [sayF]
      have e2 : numsV (sayF 0 Pr) ++ numsV [(Pr.length + 1, b :: ln)] = numsV (sayF 0 (Pr ++ [b :: ln])) := by rw [hap]; simp [numsV, sayF]
      have e3 : linV (sayF 0 Pr) ++ linV [(Pr.length + 1, b :: ln)] = linV (sayF 0 (Pr ++ [b :: ln])) := by rw [hap]; simp [linV, sayF]
      rw [e1, e2, e3] at H
      rw [e1]
      unfold crierref29_Lines_j0
      rw [zm _ (by omega), zm _ (by omega)]
      exact hA p' c' q' c2' wx (H.dp)
theorem RefLines_t {W : World} (s : List UInt8) (hs : s.length ≤ 8000000000000) : Tri P F.crierref29_Lines [strV s] [keep W] fun v L' => ∃ p c q c2, v = .tuple [.slice p (sayL s).length c, .slice q (sayL s).length c2].toArray ∧ L' = [ownN p c (sayL s), ownL q c2 (sayL s), keep W] := by
  intro w S hS
  refine crierref29_Lines_cv ?_
  unfold crierref29_Lines
  have H := own_nil (e := tNum) (size := 1) (own_nil (e := tStr) (size := 1) (Own.start hS))
  refine loop_o (fun (st : (Option Addr × Nat × Nat) × (Option Addr × Nat × Nat) × Int × Int) L => ∃ (p q : Option Addr) (c c2 a : Nat) (Pr : List (List UInt8)), rawL s = Pr ++ rawL (s.drop a) ∧ a ≤ s.length + 1 ∧ Pr.length ≤ a ∧ st = ((p, (sayF 0 Pr).length, c), (q, (sayF 0 Pr).length, c2), (a : Int), ((Pr.length : Nat) : Int)) ∧ L = [ownN p c (sayF 0 Pr), ownL q c2 (sayF 0 Pr), keep W])
    (fun (st : (Option Addr × Nat × Nat) × (Option Addr × Nat × Nat) × Int × Int) => ((s.length : Int) + 1 - st.2.2.1).toNat) H ⟨none, none, 0, 0, 0, [], rfl, by omega, Nat.le_refl _, rfl, rfl⟩ ?_
  clear H
  rintro _ _ wx ⟨p, q, c, c2, a, Pr, hP, ha, hPa, rfl, rfl⟩ H
  unfold crierref29_Lines_l4
  dsimp only
  rw [size_bytes]
  refine cnd_i (fun hc => ?_) fun hc => ?_
  · have hc := of_decide_eq_true hc
    have hal : a < s.length := by omega
    have hcl : (s.drop a).length = s.length - a := List.length_drop
    have hne : s.drop a ≠ [] := by intro e; rw [e] at hcl; simp at hcl; omega
    have hrw := rawL_cons hne
    have hdl : (s.drop a).drop ((lineOf (s.drop a)).length + 1) = (restOf (s.drop a)).drop 1 := drop_line _
    rw [List.drop_drop] at hdl
    have hlen : (lineOf (s.drop a)).length ≤ s.length - a := by
      have := congrArg List.length (line_rest (s.drop a))
      rw [List.length_append] at this; omega
    have htl := take_line (s.drop a)
    have hen := line_end (s.drop a)
    have hat : ∀ i, i < (lineOf (s.drop a)).length → ∃ b, s[a + i]? = some b ∧ b ≠ 10 := by
      intro i hi
      obtain ⟨b, h1, h2⟩ := line_at hi
      rw [List.getElem?_drop] at h1
      exact ⟨b, h1, h2⟩
    rw [List.getElem?_drop] at hen
    have hsl : (sayF 0 Pr).length ≤ s.length := Nat.le_trans (sayF_len Pr 0) (by omega)
    have hap := sayF_app Pr [lineOf (s.drop a)] 0
    have hP2 : rawL s = (Pr ++ [lineOf (s.drop a)]) ++ rawL (s.drop (a + ((lineOf (s.drop a)).length + 1))) := by
      rw [hP, hrw, hdl]; simp
    clear hP hrw hdl
    generalize lineOf (s.drop a) = ln at *
    refine loop_o (fun (st : Int) L => ∃ i : Nat, i ≤ ln.length ∧ st = ((a + i : Nat) : Int) ∧ L = [ownN p c (sayF 0 Pr), ownL q c2 (sayF 0 Pr), keep W]) (fun (st : Int) => ((s.length : Int) - st).toNat) H ⟨0, by omega, rfl, rfl⟩ ?_
    clear H
    rintro _ _ wx ⟨i, hi, rfl, rfl⟩ H
    unfold crierref29_Lines_l3
    rw [size_bytes]
    refine join_o ?_
    have zm : ∀ n : Nat, n ≤ 8000000000001 → IntKind.i64.wrap ((n : Int) + 1) = ((n + 1 : Nat) : Int) := fun n h => by rw [W_id (by omega) (by omega)]; push_cast; rfl
    by_cases hil : i < ln.length
    · obtain ⟨b, hb, hb10⟩ := hat i hil
      have hbl := (List.getElem?_eq_some_iff.1 hb).1
      refine cnd_i (fun _ => sx_i (i := a + i) (b := b) hb ?_) fun h => absurd (of_decide_eq_false h) (by omega)
      have hbb : (((b.toNat : Nat) : Int) != 10) = true := by
        rw [bne_iff_ne]
        intro e
        exact hb10 (UInt8.toNat_inj.1 (show b.toNat = 10 by omega))
      rw [hbb]
      unfold crierref29_Lines_j2
      refine cnd_i (fun _ => ?_) (fun h => by cases h)
      rw [zm _ (by omega)]
      exact ⟨⟨_, ⟨i + 1, by omega, by rw [Nat.add_assoc], rfl⟩, H⟩, by show ((s.length : Int) - ((a + i + 1 : Nat) : Int)).toNat < ((s.length : Int) - ((a + i : Nat) : Int)).toNat; omega⟩
    · obtain rfl : i = ln.length := by omega
      rcases hen with ⟨h1, h2, h3⟩ | ⟨h1, h2⟩
      · refine cnd_i (fun h => absurd (of_decide_eq_true h) (by omega)) fun _ => ?_
        refine lines_out (ln := ln) hs (by omega) (by omega) htl (fun p' c' q' c2' wx H => ?_) H
        exact ⟨⟨_, ⟨p', q', c', c2', a + (ln.length + 1), Pr ++ [ln], hP2, by omega, by simp; omega, by simp [Nat.add_assoc], rfl⟩, H⟩, by show ((s.length : Int) + 1 - ((a + ln.length + 1 : Nat) : Int)).toNat < ((s.length : Int) + 1 - (a : Int)).toNat; omega⟩
      · refine cnd_i (fun _ => sx_i (i := a + ln.length) (b := 10) h1 ?_) fun h => absurd (of_decide_eq_false h) (by omega)
        refine lines_out (ln := ln) hs (by omega) (by omega) htl (fun p' c' q' c2' wx H => ?_) H
        exact ⟨⟨_, ⟨p', q', c', c2', a + (ln.length + 1), Pr ++ [ln], hP2, by omega, by simp; omega, by simp [Nat.add_assoc], rfl⟩, H⟩, by show ((s.length : Int) + 1 - ((a + ln.length + 1 : Nat) : Int)).toNat < ((s.length : Int) + 1 - (a : Int)).toNat; omega⟩
  · have hc := of_decide_eq_false hc
    rw [List.drop_of_length_le (by omega), rawL_nil, List.append_nil] at hP
    refine ⟨_, ⟨p, c, q, c2, ?_, rfl⟩, ?_⟩
    · unfold sayL; rw [hP]
    · unfold sayL; rw [hP]; exact H
end Go.Proofs.YtbnadobjnmboiaaDoor
