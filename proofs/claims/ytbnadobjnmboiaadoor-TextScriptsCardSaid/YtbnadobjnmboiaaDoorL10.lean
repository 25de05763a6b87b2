/-
  text: TextScripts: a script of plain steps is read of its text as itself; lines that say nothing may stand anywhere.
-/
import Derived.Test.YtbnadobjnmboiaaDoorL9
namespace Go.Proofs.YtbnadobjnmboiaaDoor
open Go Go.RowKit X
set_option maxRecDepth 100000
set_option linter.unusedVariables false
set_option linter.unusedSimpArgs false
set_option maxHeartbeats 1000000
def boolsV (xs : List Bool) : List Value := xs.map Value.bool
theorem keep_ldB {W w w0 : World} {S0 : Nat → Prop} {L F : List It} {q : Option Addr} {xs : List Bool} {j : Nat} {x : Bool} {K : Bool → Prop} (hs : Sl W q (boolsV xs)) (H : X.Own w0 S0 L w) (hp : Pick L (keep W) F) (hj : xs[j]? = some x) (hK : K x) :
    nn q fun a => ldB (a.add (j * 1)) w K := by
  obtain ⟨a, rfl, hc⟩ := (Own.rd H hp (keep_sl hs)) j (.bool x) (by unfold boolsV; rw [List.getElem?_map, hj]; rfl)
  exact ⟨x, by rw [Nat.mul_one]; exact hc, hK⟩
theorem textScripts_cv {w : World} (hL : LibAt w) {p0 : Option Addr} {c0 : Nat} {xs : List St} (hx : Slots w p0 13 (xs.map St.cells)) (hf : ∀ x ∈ xs, x.Fit) (hn : xs.length * 104 ≤ 140737488355328)
    {q0 : Option Addr} {d0 : Nat} {odd : List Bool} (ho : Sl w q0 (boolsV odd)) (hol : odd.length ≤ 9223372036854775807) :
    CV P F.crierlaw29_TextScripts [.slice p0 xs.length c0, .slice q0 odd.length d0] w fun v w' => v = .bool true ∧ Below w.heap.size w w' := by
  refine crierlaw29_TextScripts_cv ?_
  unfold crierlaw29_TextScripts
  have H := keep_start w
  refine alc_o H fun b7 wx H => ?_
  refine call_pa H (awake_t hL) fun wx H => ?_
  refine ⟨_, rfl, cnd_i (fun h => by cases h) fun _ => ?_⟩
  have H := own_nil (e := tStep) (size := 13) H
  refine loop_o (fun (st : (Option Addr × Nat × Nat) × Int) L => ∃ (i : Nat) (p : Option Addr) (c : Nat), i ≤ xs.length ∧ st = ((p, (plains (xs.take i)).length, c), (i : Int)) ∧ L = [ownS p c (plains (xs.take i)), row b7 [.slice q0 odd.length d0] T.t55, keep w]) (fun (st : (Option Addr × Nat × Nat) × Int) => ((xs.length : Int) - st.2).toNat) H ⟨0, none, 0, by omega, rfl, rfl⟩ ?_
  clear H
  rintro _ _ wx ⟨i, p, c, hi, rfl, rfl⟩ H
  unfold crierlaw29_TextScripts_l8
  dsimp only
  refine cnd_i (fun hc => ?_) fun hc => ?_
  · have hc := of_decide_eq_true hc
    have hjj : i < xs.length := by omega
    have hxj : xs[i]? = some xs[i] := List.getElem?_eq_getElem hjj
    have hfj := hf _ (List.getElem_mem hjj)
    have hnx := plains_next xs i hjj
    have hpl := plains_len (xs.take i)
    rw [List.length_take] at hpl
    refine join_o (ix_i hjj ?_)
    obtain ⟨a1, rfl, e0, ee⟩ := slot_cells (Own.rdS H (i := keep w) (by repeat (first | exact Pick.here | apply Pick.there)) (keep_slots hx)) hxj
    dsimp only [nn]
    refine ⟨_, e0 _ rfl, ⟨_, ee 1 _ rfl, ⟨_, ee 2 _ rfl, ⟨_, ee 3 _ rfl, ⟨_, ee 4 _ rfl, ⟨_, ee 5 _ rfl, ⟨_, ee 6 _ rfl, ⟨_, ee 7 _ rfl, ⟨_, ee 8 _ rfl, ⟨_, ee 9 _ rfl, ⟨_, ee 10 _ rfl, ⟨_, ee 11 _ rfl, ⟨_, ee 12 _ rfl, ?_⟩⟩⟩⟩⟩⟩⟩⟩⟩⟩⟩⟩⟩
    clear e0 ee hx
    generalize xs[i] = s at *
    refine call_pa H (Plain_t hL s hfj) fun wx H => ?_
    cases hk : findM ⟨#[]⟩ s.kind with
    | none =>
      rw [plainV_none hk]
      have hm : plainM s = none := by unfold plainM; rw [hk]; rfl
      rw [hm] at hnx
      simp only [Option.toList_none, List.append_nil] at hnx
      refine ⟨_, _, _, _, _, _, _, _, _, _, _, _, _, _, rfl, alc_o H fun b61 wx H => ?_⟩
      refine st1_a H fun wx H => ?_
      refine st1_a H fun wx H => ?_
      refine st1_a H fun wx H => ?_
      refine st1_a H fun wx H => ?_
      refine st1_a H fun wx H => ?_
      refine st1_a H fun wx H => ?_
      refine st1_a H fun wx H => ?_
      refine st1_a H fun wx H => ?_
      refine st1_a H fun wx H => ?_
      refine st1_a H fun wx H => ?_
      refine st1_a H fun wx H => ?_
      refine st1_a H fun wx H => ?_
      refine st1_a H fun wx H => ?_
      simp only [List.set_cons_zero, List.set_cons_succ] at H
      refine cnd_i (fun h => by cases h) fun _ => ?_
      unfold crierlaw29_TextScripts_j0
      rw [W_id (by omega) (by omega), ← hnx]
      rw [← hnx] at H
      exact ⟨⟨_, ⟨i + 1, p, c, by omega, by push_cast; rfl, rfl⟩, H.dp⟩, by show ((xs.length : Int) - ((i : Int) + 1)).toNat < ((xs.length : Int) - (i : Int)).toNat; omega⟩
    | some k =>
      rw [plainV_some hk]
      have hm : plainM s = some (plainS s k) := by unfold plainM; rw [hk]; rfl
      rw [hm] at hnx
      simp only [Option.toList_some] at hnx
      generalize plainS s k = d' at *
      refine ⟨_, _, _, _, _, _, _, _, _, _, _, _, _, _, rfl, alc_o H fun b61 wx H => ?_⟩
      refine st1_a H fun wx H => ?_
      refine st1_a H fun wx H => ?_
      refine st1_a H fun wx H => ?_
      refine st1_a H fun wx H => ?_
      refine st1_a H fun wx H => ?_
      refine st1_a H fun wx H => ?_
      refine st1_a H fun wx H => ?_
      refine st1_a H fun wx H => ?_
      refine st1_a H fun wx H => ?_
      refine st1_a H fun wx H => ?_
      refine st1_a H fun wx H => ?_
      refine st1_a H fun wx H => ?_
      refine st1_a H fun wx H => ?_
      simp only [List.set_cons_zero, List.set_cons_succ] at H
      refine cnd_i (fun _ => ?_) (fun h => by cases h)
      repeat (first | refine ldI_a H ?_ | refine ldL_a H ?_ | refine ldB_a H ?_ | refine ldP_a H ?_ | refine ldS_a H ?_)
      refine alc_o H fun b89 wx H => ?_
      have hrow := H.row (b := b89) (by repeat (first | exact Pick.here | apply Pick.there))
      refine app_o appSteps (by omega) H (e := tStep) (size := 13) (p := p) (n := (plains (xs.take i)).length) (c := c) (xs := flatS (plains (xs.take i))) (by repeat (first | exact Pick.here | apply Pick.there)) (q := some ⟨b89, 0, none⟩) (m := 1) (news := d'.cells) (fun j u hj => ⟨_, rfl, ?_⟩) rfl (cells_one d') (by unfold maxLen; omega) (by omega) fun p' c' wx H => ?_
      · rw [add_lit, Nat.zero_add, hrow.cell]; exact hj
      have e1 : (plains (xs.take i)).length + 1 = (plains (xs.take (i + 1))).length := by rw [hnx]; simp
      have e2 : flatS (plains (xs.take i)) ++ d'.cells = flatS (plains (xs.take (i + 1))) := by rw [hnx, flatS_append]; simp [flatS]
      rw [e1, e2] at H
      unfold crierlaw29_TextScripts_j0
      rw [W_id (by omega) (by omega), e1]
      exact ⟨⟨_, ⟨i + 1, p', c', by omega, by push_cast; rfl, rfl⟩, H.dp⟩, by show ((xs.length : Int) - ((i : Int) + 1)).toNat < ((xs.length : Int) - (i : Int)).toNat; omega⟩
  · have hc := of_decide_eq_false hc
    obtain rfl : i = xs.length := by omega
    rw [List.take_length] at H ⊢
    have hgood := plains_good hf
    have hpl := plains_len xs
    generalize plains xs = ps at *
    have hpf : ∀ x ∈ ps, x.Fit := fun x hx => (hgood x hx).1
    have hal : textV ps = .tuple [strV (textL ps), .int .i64 0].toArray := by unfold textV; rw [if_pos (allLines_iff.2 (good_lines hgood))]
    refine call_pa H (Text_t hL.pow (ownS p c ps) (c := c) ownS_slots hpf (by omega)) fun wx H => ?_
    rw [hal]
    refine ⟨_, _, rfl, cnd_i (fun h => by cases h) fun _ => alc_o H fun b101 wx H => ?_⟩
    refine st1_a H fun wx H => ?_
    refine alc_o H fun b104 wx H => ?_
    refine st1_a H fun wx H => ?_
    simp only [List.set_cons_zero] at H
    refine call_oa H (Lines_t ⟨(textL ps).toArray⟩) fun vx L' wx hq H => ?_
    obtain ⟨bL, rfl, rfl⟩ := hq
    simp only [List.cons_append, List.nil_append] at H
    refine ⟨_, rfl, ?_⟩
    obtain ⟨hsl, hsa⟩ := say_text (good_lines hgood)
    have htl := textL_len hpf
    have hll : (linesL ps).length = ps.length := List.length_map ..
    have H := H.drop (L1 := [row b104 [.int .i64 0] T.t3, row b101 [strV (moreF odd 0 ((linesL ps).take 0))] tStr, row b7 [.slice q0 odd.length d0] T.t55, ownS p c ps, keep w] ++ [row bL [strV (textL ps)] tStr]) (by simp only [List.cons_append, List.nil_append]; exact (by repeat (first | exact Cut.nil | (apply Cut.cons; (repeat (first | exact Pick.here | apply Pick.there))))))
    refine rf_f (fun m L' => L' = [row b104 [.int .i64 ((m : Nat) : Int)] T.t3, row b101 [strV (moreF odd 0 ((linesL ps).take m))] tStr, row b7 [.slice q0 odd.length d0] T.t55, ownS p c ps, keep w]) (fun _ _ => False) lines_enters (lines_it bL (textL ps) (by omega)) (sayV_len _) H rfl ?_ ?_ ?_
    · clear H
      rintro m x _ F l r d wx Q2 hx2 rfl H hgo hdone
      unfold sayV at hx2
      rw [List.getElem?_map] at hx2
      obtain ⟨y, hy, rfl⟩ := Option.map_eq_some_iff.1 hx2
      have hml := (List.getElem?_eq_some_iff.1 hy).1
      have hmp : m < ps.length := by omega
      obtain ⟨l', hl1, hl'⟩ := hsa m _ (List.getElem?_eq_getElem hmp)
      rw [hy] at hl'
      cases hl'
      have hlm : (linesL ps)[m]'(by omega) = l' := by
        rw [List.getElem_map, hl1]; rfl
      have hnx := moreF_next odd (linesL ps) m (by omega)
      rw [hlm] at hnx
      have hmo := moreF_len odd ((linesL ps).take m) 0 fun l hl => linesL_len hgood l (List.mem_of_mem_take hl)
      rw [List.length_take] at hmo
      have hl7 : l'.length ≤ 117 := by rw [← hlm]; exact linesL_len hgood _ (List.getElem_mem _)
      unfold crierlaw29_TextScripts_r3
      dsimp only [X.b2]
      simp only [List.cons_append, List.nil_append] at H
      refine ⟨_, rfl, rec_o H .here fun wx H => join_o (join_o ?_)⟩
      have zm : IntKind.i64.max = 9223372036854775807 := rfl
      have fin : ∀ (s : List UInt8) wx, s ++ l' ++ [10] = moreF odd 0 ((linesL ps).take (m + 1)) → s.length ≤ 1000000000000000 → X.Own w (fun k => k < w.heap.size) (recI l r .busy none :: defI d :: row b104 [.int .i64 ((m : Nat) : Int)] T.t3 :: row b101 [strV s] tStr :: row b7 [.slice q0 odd.length d0] T.t55 :: ownS p c ps :: keep w :: F) wx →
          crierlaw29_TextScripts_j1 b101 b104 l r Q2 ⟨l'.toArray⟩ wx := by
        intro s wx hs hsl H
        unfold crierlaw29_TextScripts_j1
        refine ldS_o H (b := b101) (i := 0) (by repeat (first | exact Pick.here | apply Pick.there)) (by rfl) ?_
        refine ⟨by rw [size_bytes, size_bytes, zm]; omega, ⟨by rw [app_bytes, size_bytes, zm, List.length_append]; show ((s.length + l'.length + 1 : Nat) : Int) ≤ _; omega, ?_⟩⟩
        have e5 : (⟨s.toArray⟩ ++ ⟨l'.toArray⟩ ++ ⟨#[10]⟩ : ByteArray) = ⟨(s ++ l' ++ [10]).toArray⟩ := by rw [app_bytes s l']; exact app_bytes (s ++ l') [10]
        rw [e5, hs]
        refine st1_a H fun wx H => ?_
        simp only [List.set_cons_zero] at H
        repeat (first | refine ldI_a H ?_ | refine ldL_a H ?_ | refine ldB_a H ?_ | refine ldP_a H ?_ | refine ldS_a H ?_)
        refine st1_a H fun wx H => ?_
        simp only [List.set_cons_zero] at H
        rw [W_id (by omega) (by omega)] at H
        refine rec_o H .here fun wx H => ?_
        exact hgo _ wx rfl H
      have plain : odd[m]? ≠ some true → ∀ wx, X.Own w (fun k => k < w.heap.size) (recI l r .busy none :: defI d :: row b104 [.int .i64 ((m : Nat) : Int)] T.t3 :: row b101 [strV (moreF odd 0 ((linesL ps).take m))] tStr :: row b7 [.slice q0 odd.length d0] T.t55 :: ownS p c ps :: keep w :: F) wx →
          crierlaw29_TextScripts_j2 b101 (fun s' w' => crierlaw29_TextScripts_j1 b101 b104 l r Q2 ⟨l'.toArray⟩ w') false wx := by
        intro ho wx H
        unfold crierlaw29_TextScripts_j2
        refine cnd_i (fun h => by cases h) fun _ => ?_
        refine fin _ wx ?_ (by omega) H
        rw [hnx, if_neg ho, List.append_nil]
      repeat (first | refine ldI_a H ?_ | refine ldL_a H ?_ | refine ldB_a H ?_ | refine ldP_a H ?_ | refine ldS_a H ?_)
      refine cnd_i (fun hc2 => ?_) fun hc2 => ?_
      · have hc2 := of_decide_eq_true hc2
        have hom : m < odd.length := by omega
        repeat (first | refine ldI_a H ?_ | refine ldL_a H ?_ | refine ldB_a H ?_ | refine ldP_a H ?_ | refine ldS_a H ?_)
        refine ix_i hom ?_
        refine keep_ldB ho H (by repeat (first | exact Pick.here | apply Pick.there)) (List.getElem?_eq_getElem hom) ?_
        cases hb : odd[m] with
        | false => exact plain (by rw [List.getElem?_eq_getElem hom, hb]; simp) _ H
        | true =>
          unfold crierlaw29_TextScripts_j2
          refine cnd_i (fun _ => ?_) (fun h => by cases h)
          refine ldS_o H (b := b101) (i := 0) (by repeat (first | exact Pick.here | apply Pick.there)) (by rfl) ?_
          refine ⟨by rw [size_bytes, zm]; show (((moreF odd 0 ((linesL ps).take m)).length + 7 : Nat) : Int) ≤ _; omega, ?_⟩
          have e6 : (⟨(moreF odd 0 ((linesL ps).take m)).toArray⟩ ++ ⟨#[35, 32, 111, 100, 100, 10, 10]⟩ : ByteArray) = ⟨(moreF odd 0 ((linesL ps).take m) ++ oddB).toArray⟩ := app_bytes _ oddB
          rw [e6]
          refine st1_a H fun wx H => ?_
          simp only [List.set_cons_zero] at H
          refine fin _ wx ?_ (by rw [List.length_append]; show _ + 7 ≤ _; omega) H
          rw [hnx, if_pos (by rw [List.getElem?_eq_getElem hom, hb])]
      · exact plain (by rw [List.getElem?_eq_none (by have := of_decide_eq_false hc2; omega)]; simp) _ H
    · rintro d _ wx rfl H
      dsimp only [jmpX]
      have e : (sayV (textL ps)).length = ps.length := by unfold sayV; rw [List.length_map, hsl]
      rw [e, List.take_of_length_le (by omega)] at H
      refine ldS_o H (b := b101) (i := 0) (by repeat (first | exact Pick.here | apply Pick.there)) (by rfl) ?_
      refine alc_o H fun b151 wx H => ?_
      have hmo := moreF_len odd (linesL ps) 0 (linesL_len hgood)
      rw [hll] at hmo
      have hts := text_say hgood
      have hms := more_say odd hgood
      have H := H.drop (L1 := [row b151 [strV (textL ps), strV (moreF odd 0 (linesL ps))] tStr, defI d, row b104 [.int .i64 ((ps.length : Nat) : Int)] T.t3, ownS p c ps, keep w]) (by repeat (first | exact Cut.nil | (apply Cut.cons; (repeat (first | exact Pick.here | apply Pick.there)))))
      have htx : ∀ k : Nat, k < 2 → ∃ t : List UInt8, [strV (textL ps), strV (moreF odd 0 (linesL ps))][k]? = some (.string ⟨t.toArray⟩) ∧ t.length ≤ 281474976710656 ∧ (sayL t).map (·.2) = linesL ps := by
        intro k hk
        match k, hk with
        | 0, _ => exact ⟨_, rfl, by omega, hts⟩
        | 1, _ => exact ⟨_, rfl, by omega, hms⟩
      generalize [strV (textL ps), strV (moreF odd 0 (linesL ps))] = two at *
      refine loop_o (fun (st : Int) L => ∃ k : Nat, (k : Int) = st ∧ k ≤ 2 ∧ L = [row b151 two tStr, defI d, row b104 [.int .i64 ((ps.length : Nat) : Int)] T.t3, ownS p c ps, keep w]) (fun (st : Int) => (2 - st).toNat) H ⟨0, rfl, by omega, rfl⟩ ?_
      clear H
      rintro _ _ wx ⟨k, rfl, hk, rfl⟩ H
      unfold crierlaw29_TextScripts_l7
      refine cnd_i (fun hc => ?_) fun hc => ?_
      · have hc := of_decide_eq_true hc
        have hk2 : k < 2 := by omega
        obtain ⟨t, ht1, ht2, ht3⟩ := htx k hk2
        obtain ⟨hsm, hsn⟩ := say_small hgood ht3
        refine ix_i hk2 ?_
        rw [add_lit, Nat.mul_one, Nat.zero_add]
        refine ldS_o H (b := b151) (i := k) (by repeat (first | exact Pick.here | apply Pick.there)) ht1 ?_
        refine call_oa H (Script_t hL t ht2 hsm (by omega)) fun vx L' wx hq H => ?_
        obtain ⟨xs2, p2, c2, n2, e2, rfl, hend, rfl⟩ := hq
        simp only [List.cons_append, List.nil_append] at H
        obtain ⟨rfl, rfl, rfl⟩ := script_is hgood ht3 hend
        refine ⟨_, _, _, _, _, rfl, join_o (cnd_i (fun h => by cases h) fun _ => cnd_i (fun h => by cases h) fun _ => ?_)⟩
        have e3 : ((((xs2.length : Nat) : Int)) != ((xs2.length : Nat) : Int)) = false := by simp
        rw [e3]
        unfold crierlaw29_TextScripts_j5
        refine cnd_i (fun h => by cases h) fun _ => ?_
        have H := H.drop (L1 := [ownS p2 c2 xs2, row b151 two tStr, defI d, row b104 [.int .i64 ((xs2.length : Nat) : Int)] T.t3, ownS p c xs2, keep w]) (by repeat (first | exact Cut.nil | (apply Cut.cons; (repeat (first | exact Pick.here | apply Pick.there)))))
        refine loop_o (fun (st : Int) L => ∃ j : Nat, (j : Int) = st ∧ j ≤ xs2.length ∧ L = [ownS p2 c2 xs2, row b151 two tStr, defI d, row b104 [.int .i64 ((xs2.length : Nat) : Int)] T.t3, ownS p c xs2, keep w]) (fun (st : Int) => ((xs2.length : Int) - st).toNat) H ⟨0, rfl, by omega, rfl⟩ ?_
        clear H
        rintro _ _ wx ⟨j, rfl, hj, rfl⟩ H
        unfold crierlaw29_TextScripts_l4
        refine cnd_i (fun hc => ?_) fun hc => ?_
        · have hc := of_decide_eq_true hc
          have hjj : j < xs2.length := by omega
          have hxj : xs2[j]? = some xs2[j] := List.getElem?_eq_getElem hjj
          refine drw_o H fun wx H => ?_
          refine ix_i hjj ?_
          obtain ⟨a1, rfl, e0, ee⟩ := slot_cells (Own.rdS H (i := ownS p2 c2 xs2) .here ownS_slots) hxj
          dsimp only [nn]
          refine ⟨_, e0 _ rfl, ⟨_, ee 1 _ rfl, ⟨_, ee 2 _ rfl, ⟨_, ee 3 _ rfl, ⟨_, ee 4 _ rfl, ⟨_, ee 5 _ rfl, ⟨_, ee 6 _ rfl, ⟨_, ee 7 _ rfl, ⟨_, ee 8 _ rfl, ⟨_, ee 9 _ rfl, ⟨_, ee 10 _ rfl, ⟨_, ee 11 _ rfl, ⟨_, ee 12 _ rfl, ?_⟩⟩⟩⟩⟩⟩⟩⟩⟩⟩⟩⟩⟩
          refine ix_i hjj ?_
          clear e0 ee
          obtain ⟨a2, rfl, e0, ee⟩ := slot_cells (Own.rdS H (i := ownS p c xs2) (.there (.there (.there (.there .here)))) ownS_slots) hxj
          refine ⟨_, e0 _ rfl, ⟨_, ee 1 _ rfl, ⟨_, ee 2 _ rfl, ⟨_, ee 3 _ rfl, ⟨_, ee 4 _ rfl, ⟨_, ee 5 _ rfl, ⟨_, ee 6 _ rfl, ⟨_, ee 7 _ rfl, ⟨_, ee 8 _ rfl, ⟨_, ee 9 _ rfl, ⟨_, ee 10 _ rfl, ⟨_, ee 11 _ rfl, ⟨_, ee 12 _ rfl, ?_⟩⟩⟩⟩⟩⟩⟩⟩⟩⟩⟩⟩⟩
          clear e0 ee
          refine st_ne (c := xs2[j]) (d := xs2[j]) ?_
          rw [decide_eq_true rfl]
          refine cnd_i (fun h => by cases h) fun _ => ?_
          rw [W_id (by omega) (by omega)]
          exact ⟨⟨_, ⟨j + 1, by push_cast; rfl, by omega, rfl⟩, H⟩, by show ((xs2.length : Int) - ((j : Int) + 1)).toNat < ((xs2.length : Int) - (j : Int)).toNat; omega⟩
        · rw [W_id (by omega) (by omega)]
          exact ⟨⟨_, ⟨k + 1, by push_cast; rfl, by omega, rfl⟩, H.dp⟩, by show (2 - ((k : Int) + 1)).toNat < (2 - (k : Int)).toNat; omega⟩
      · refine join_o (cnd_i (fun _ => ?_) (fun h => by cases h))
        repeat (first | refine ldI_a H ?_ | refine ldL_a H ?_ | refine ldB_a H ?_ | refine ldP_a H ?_ | refine ldS_a H ?_)
        unfold crierlaw29_TextScripts_j6
        refine take_o H (by repeat (first | exact Pick.here | apply Pick.there)) fun wx H => ?_
        exact ⟨by simp, keep_done H (by repeat (first | exact Pick.here | apply Pick.there))⟩
    · rintro d c' _ wx h
      exact h.elim
end Go.Proofs.YtbnadobjnmboiaaDoor
