/-
  cmd: a text read as a command: what is wanted of it.
-/
import Derived.Test.YtggmapokmlbgbaaDoorU5
import Derived.Test.YtggmapokmlbgbaaDoorL3
import Derived.Test.YtggmapokmlbgbaaDoorA6
import Derived.Test.YtggmapokmlbgbaaDoorL1
import Derived.Test.YtggmapokmlbgbaaDoorE5
import Derived.Test.YtggmapokmlbgbaaDoorE8
namespace Go.Proofs.YtggmapokmlbgbaaDoor
open Go Go.RowKit X
set_option maxRecDepth 100000
set_option linter.unusedVariables false
set_option linter.unusedSimpArgs false
set_option maxHeartbeats 1000000
/-- the text is the command's -/
def IsP (s : ByteArray) (c : Cm) : Prop := encM c ≠ none ∧ printL c = s.data.toList
def ParseEnd (s : ByteArray) (d : Cm) (e : Int) : Prop := (e = 0 ∧ IsP s d) ∨ (e = 160 ∧ d = cm0 ∧ ∀ c, ¬ IsP s c)
def partC (c : Cm) : Nat → Cm
  | 0 => ⟨c.op, 0, 0, 0, 0, 0, 0, 0, false⟩
  | f + 1 => if ph c.op f then (partC c f).put (c.get f) f else partC c f
theorem put_get (x : Cm) (n : Int) (m k : Nat) (hm : m < 8) (hk : k < 8) : (x.put n m).get k = if k = m then (if m = 6 then IntKind.i64.wrap (n * 256) / 256 else if m = 7 then (if n = 1 then 1 else 0) else n) else x.get k := by
  have h1 : m = 0 ∨ m = 1 ∨ m = 2 ∨ m = 3 ∨ m = 4 ∨ m = 5 ∨ m = 6 ∨ m = 7 := by omega
  have h2 : k = 0 ∨ k = 1 ∨ k = 2 ∨ k = 3 ∨ k = 4 ∨ k = 5 ∨ k = 6 ∨ k = 7 := by omega
  rcases h1 with rfl | rfl | rfl | rfl | rfl | rfl | rfl | rfl <;> rcases h2 with rfl | rfl | rfl | rfl | rfl | rfl | rfl | rfl <;> simp [Cm.put, Cm.get]
theorem pt_op (x : Cm) (n : Int) (m : Nat) : (x.put n m).op = x.op := by unfold Cm.put; split <;> rfl
theorem pt_addr (x : Cm) (n : Int) (m : Nat) (h : x.addr % 256 = 0) : (x.put n m).addr % 256 = 0 := by
  unfold Cm.put
  split <;> try exact h
  show IntKind.i64.wrap (n * 256) % 256 = 0
  simp [IntKind.wrap, IntKind.signed, IntKind.bits]
  omega
theorem part_get {c : Cm} (f : Fld c) : ∀ m, m ≤ 8 → (partC c m).op = c.op ∧ (partC c m).addr % 256 = 0 ∧ ∀ k, k < 8 → (partC c m).get k = if k < m ∧ ph c.op k = true then c.get k else 0
  | 0, _ => ⟨rfl, rfl, fun k hk => by
      have h2 : k = 0 ∨ k = 1 ∨ k = 2 ∨ k = 3 ∨ k = 4 ∨ k = 5 ∨ k = 6 ∨ k = 7 := by omega
      rw [if_neg (by omega)]
      rcases h2 with rfl | rfl | rfl | rfl | rfl | rfl | rfl | rfl <;> simp [partC, Cm.get]⟩
  | m + 1, hm => by
    obtain ⟨h1, h2, h3⟩ := part_get f m (by omega)
    unfold partC
    by_cases hp : ph c.op m = true
    · rw [if_pos hp]
      refine ⟨by rw [pt_op]; exact h1, pt_addr _ _ _ h2, fun k hk => ?_⟩
      rw [put_get _ _ _ _ (by omega) hk, h3 k hk]
      have hf := f m (by omega)
      by_cases hkm : k = m
      · subst hkm
        rw [if_pos rfl, if_pos (c := k < k + 1 ∧ ph c.op k = true) ⟨by omega, hp⟩]
        by_cases h6 : k = 6
        · subst h6
          rw [if_pos rfl]
          have h4 : (2 : Int) ^ ps c.op 6 = 1099511627776 := rfl
          rw [h4] at hf
          rw [W_id (by omega) (by omega)]
          omega
        · rw [if_neg h6]
          by_cases h7 : k = 7
          · subst h7
            rw [if_pos rfl]
            show (if (if c.val = true then (1 : Int) else 0) = 1 then (1 : Int) else 0) = if c.val = true then 1 else 0
            cases c.val <;> simp
          · rw [if_neg h7]
      · rw [if_neg hkm]
        have : (k < m ∧ ph c.op k = true) ↔ (k < m + 1 ∧ ph c.op k = true) := by
          constructor
          · intro h; exact ⟨by omega, h.2⟩
          · intro h; exact ⟨by omega, h.2⟩
        simp only [this]
    · rw [if_neg hp]
      refine ⟨h1, h2, fun k hk => ?_⟩
      rw [h3 k hk]
      have : (k < m ∧ ph c.op k = true) ↔ (k < m + 1 ∧ ph c.op k = true) := by
        constructor
        · intro h; exact ⟨by omega, h.2⟩
        · intro h
          refine ⟨?_, h.2⟩
          rcases Nat.lt_or_ge k m with h4 | h4
          · exact h4
          · have : k = m := by omega
            subst this
            exact absurd h.2 hp
      simp only [this]
theorem part_all {c : Cm} {ws : List Int} (h : encM c = some ws) : partC c 8 = c := by
  obtain ⟨hk, hf, ha, -, -⟩ := encM_some h
  obtain ⟨h1, h2, h3⟩ := part_get hf 8 (by omega)
  refine cm_ext h1 (fun k hk8 => ?_) h2 ha
  rw [h3 k hk8]
  by_cases hp : ph c.op k = true
  · rw [if_pos ⟨hk8, hp⟩]
  · rw [if_neg fun hh => hp hh.2]
    exact ((hf k hk8).2.2 (by simpa using hp)).symm
theorem words_pre (c : Cm) (f : Nat) : ∀ d, ∃ r, wordsK c (f + d) = wordsK c f ++ r
  | 0 => ⟨[], by simp⟩
  | d + 1 => by
    obtain ⟨r, hr⟩ := words_pre c f d
    rw [show f + (d + 1) = (f + d) + 1 by omega, wordsK_next]
    by_cases h : ph c.op (f + d) = true
    · rw [if_pos h, hr]; exact ⟨r ++ [_], by rw [List.append_assoc]⟩
    · rw [if_neg h, hr]; exact ⟨r, rfl⟩
theorem words_at {c : Cm} {f : Nat} (hf : f < 8) (hp : ph c.op f = true) : (wordsK c 8)[(wordsK c f).length]? = some ⟨(Lib.itoa (c.get f)).toArray⟩ := by
  obtain ⟨r, hr⟩ := words_pre c (f + 1) (7 - f)
  rw [show f + 1 + (7 - f) = 8 by omega] at hr
  rw [hr, wordsK_next, if_pos hp, List.append_assoc, List.getElem?_append_right (Nat.le_refl _)]
  simp
theorem split_words {s : ByteArray} {c : Cm} (h : IsP s c) : splitW s = wordsK c 8 := by
  unfold splitW
  refine splitB_join 32 (by unfold wordsK; simp) (fun x hx => words_nospace c 8 _ (List.mem_map.2 ⟨x, hx, rfl⟩)) ?_
  exact h.2.symm
theorem piece_le (sep : ByteArray) : ∀ (k : Nat) (s : ByteArray), ∀ x ∈ Lib.splitB sep 0 k s, x.size ≤ s.size
  | 0, s, x, hx => by
    rw [Lib.splitB_zero, List.mem_singleton] at hx
    rw [hx]; exact Nat.le_refl _
  | k + 1, s, x, hx => by
    unfold Lib.splitB at hx
    split at hx
    · rw [List.mem_singleton] at hx
      rw [hx]; exact Nat.le_refl _
    · rcases List.mem_cons.1 hx with rfl | hx
      · rw [ByteArray.size_extract]; omega
      · have := piece_le sep k _ x hx
        rw [ByteArray.size_extract] at this
        omega
theorem word_le {s x : ByteArray} (hx : x ∈ splitW s) : x.size ≤ s.size := piece_le _ _ _ x hx
end Go.Proofs.YtggmapokmlbgbaaDoor
/-
  cmd: a text read as a command: the walk.
-/
namespace Go.Proofs.YtggmapokmlbgbaaDoor
open Go Go.RowKit X
set_option maxRecDepth 100000
set_option linter.unusedVariables false
set_option linter.unusedSimpArgs false
set_option maxHeartbeats 800000
theorem bytes_beq (a b : ByteArray) : (a.toList == b.toList) = decide (a.data.toList = b.data.toList) := by
  have h : ∀ x : ByteArray, x.toList = x.data.toList := fun x => Lib.toList_data x
  rw [h, h]
  by_cases e : a.data.toList = b.data.toList
  · rw [e]; simp
  · rw [decide_eq_false e]; simpa using e
abbrev wsR (b : Nat) (s : ByteArray) : It := row b ((splitW s).map Value.string) (Tryd.laysM146_ren.t 9)
theorem Parse_t {W : World} (hL : LibAt W) (s : ByteArray) (hs : s.size < 4294967281) : Tri P F.cmd_Parse [.string s] [keep W] fun v L' => (∃ d e, v = .tuple [cmV d, .int .i64 e].toArray ∧ ParseEnd s d e) ∧ L' = [keep W] := by
  intro w S hS
  refine cmd_Parse_cv ?_
  unfold cmd_Parse
  have H := Own.start hS
  have hln : 0 < (splitW s).length := by rw [splitW_len]; omega
  refine alc_o H fun b2 wx H => ?_
  refine call_oa H (Split_t hL s hs) fun vx L' wx hq H => ?_
  obtain ⟨bw, rfl, rfl⟩ := hq
  simp only [List.cons_append, List.nil_append] at H
  refine ⟨_, _, _, rfl, ?_⟩
  have hw0 : ((splitW s).map Value.string)[0]? = some (.string ((splitW s)[0]'hln)) := by rw [List.getElem?_map, List.getElem?_eq_getElem hln]; rfl
  have hname : ∀ c, IsP s c → (splitW s)[0]'hln = nameB c.op := by
    intro c hc
    have h2 := split_words hc
    have : (splitW s)[0]? = some (nameB c.op) := by rw [h2]; rfl
    rw [List.getElem?_eq_getElem hln] at this
    exact Option.some.inj this
  have hknown : ∀ c, IsP s c → knownB c.op = true := by
    intro c hc
    obtain ⟨ws, he⟩ := Option.ne_none_iff_exists'.1 hc.1
    exact (encM_some he).1
  refine loop_o (fun (st : Int) L => ∃ o : Int, o = st ∧ 1 ≤ o ∧ o ≤ 16 ∧ (∀ c, IsP s c → o ≤ c.op) ∧ L = [wsR bw s, row b2 cm0.cells tCmd, keep W]) (fun (st : Int) => (16 - st).toNat) (H.dp) ⟨1, rfl, by omega, by omega, fun c hc => (by rcases known_cases (hknown c hc) with h | h | h | h | h | h | h | h | h | h | h | h <;> omega), rfl⟩ ?_
  clear H
  rintro _ _ wx ⟨op, rfl, hop1, hop2, hopc, rfl⟩ H
  unfold cmd_Parse_l6
  refine cnd_i (fun hc15 => ?_) fun hc15 => ?_
  · have hc15 := of_decide_eq_true hc15
    have nx : IntKind.i64.wrap (op + 1) = op + 1 := W_id (by omega) (by omega)
    refine join_o ?_
    have skip : ∀ wx, X.Own w S [wsR bw s, row b2 cm0.cells tCmd, keep W] wx → (∀ c, IsP s c → c.op ≠ op) →
        cmd_Parse_j5 s (fun v w' => ∃ L', ((∃ d e, v = .tuple [cmV d, .int .i64 e].toArray ∧ ParseEnd s d e) ∧ L' = [keep W]) ∧ X.Own w S L' w') b2 (some ⟨bw, 0, none⟩) (splitW s).length op (fun (s' : Int) w' => (∃ L', (∃ o : Int, o = s' ∧ 1 ≤ o ∧ o ≤ 16 ∧ (∀ c, IsP s c → o ≤ c.op) ∧ L' = [wsR bw s, row b2 cm0.cells tCmd, keep W]) ∧ X.Own w S L' w') ∧ (16 - s').toNat < (16 - op).toNat) true wx := by
      intro wx H hne
      unfold cmd_Parse_j5
      refine cnd_i (fun _ => ?_) (fun h => by cases h)
      rw [nx]
      exact ⟨⟨_, ⟨op + 1, rfl, by omega, by omega, fun c hc => (by have h1 := hopc c hc; have h2 := hne c hc; omega), rfl⟩, H⟩, by omega⟩
    refine drw_o H fun wx H => ?_
    refine call_pa H (Known_t op) fun wx H => ?_
    refine ⟨_, rfl, cnd_i (fun hk => skip _ (H.dp) fun c hc e => ?_) fun hk => ?_⟩
    · have := hknown c hc
      rw [e] at this
      rw [this] at hk; cases hk
    have hk : knownB op = true := by simpa using hk
    refine ix_i (i := 0) hln ?_
    dsimp only [nn]
    rw [add_lit, Nat.zero_mul, Nat.zero_add]
    refine ldS_o H (b := bw) (i := 0) (by repeat (first | exact Pick.here | apply Pick.there)) hw0 ?_
    refine call_pa H (name_t op) fun wx H => ?_
    refine ⟨_, rfl, ?_⟩
    refine ⟨ldS_o H (b := bw) (i := 0) (by repeat (first | exact Pick.here | apply Pick.there)) hw0 rfl, ?_⟩
    rw [bytes_beq]
    by_cases hnm : (nameB op).data.toList = ((splitW s)[0]'hln).data.toList
    · rw [decide_eq_true hnm]
      show cmd_Parse_j5 _ _ _ _ _ _ _ false _
      unfold cmd_Parse_j5
      refine cnd_i (fun h => by cases h) fun _ => alc_o H fun b16 wx H => ?_
      refine st1_a H fun wx H => ?_
      refine st1_a H fun wx H => ?_
      refine st1_a H fun wx H => ?_
      refine st1_a H fun wx H => ?_
      refine st1_a H fun wx H => ?_
      refine st1_a H fun wx H => ?_
      refine st1_a H fun wx H => ?_
      refine st1_a H fun wx H => ?_
      refine st1_a H fun wx H => ?_
      simp only [List.set_cons_zero, List.set_cons_succ] at H
      have hpc : ∀ c, IsP s c → c.op = op := by
        intro c hc
        refine name_inj (hknown c hc) hk ?_
        rw [hnm, hname c hc]
      refine loop_o (fun (st : Int × Int) L => ∃ (f k : Nat) (d : Cm), f ≤ 8 ∧ 1 ≤ k ∧ k ≤ f + 1 ∧ st = ((k : Int), (f : Int)) ∧ (∀ c, IsP s c → d = partC c f ∧ k = (wordsK c f).length) ∧ L = [row b16 d.cells tCmd, wsR bw s, row b2 cm0.cells tCmd, keep W]) (fun (st : Int × Int) => (8 - st.2).toNat) (H.dp)
        ⟨0, 1, ⟨op, 0, 0, 0, 0, 0, 0, 0, false⟩, by omega, by omega, by omega, rfl, fun c hc => ⟨by unfold partC; rw [hpc c hc], rfl⟩, rfl⟩ ?_
      clear H
      rintro _ _ wx ⟨f, k, d, hf8, hk1, hk2, rfl, hinv, rfl⟩ H
      unfold cmd_Parse_l4
      dsimp only
      refine cnd_i (fun hc => ?_) fun hc => ?_
      · have hc := of_decide_eq_true hc
        have hfl : f < 8 := by omega
        have nf : IntKind.i64.wrap ((f : Int) + 1) = ((f + 1 : Nat) : Int) := by rw [W_id (by omega) (by omega)]; push_cast; rfl
        refine join_o ?_
        refine call_pa H (parted_t op f hfl) fun wx H => ?_
        refine ⟨_, _, _, _, rfl, alc_o H fun b43 wx H => ?_⟩
        refine st1_a H fun wx H => ?_
        refine st1_a H fun wx H => ?_
        refine st1_a H fun wx H => ?_
        have stay : ∀ wx, X.Own w S [row b16 d.cells tCmd, wsR bw s, row b2 cm0.cells tCmd, keep W] wx → (∀ c, IsP s c → ph c.op f = false) →
            cmd_Parse_j0 (f : Int) (fun (s' : Int × Int) w' => (∃ L', (∃ (f k : Nat) (d : Cm), f ≤ 8 ∧ 1 ≤ k ∧ k ≤ f + 1 ∧ s' = ((k : Int), (f : Int)) ∧ (∀ c, IsP s c → d = partC c f ∧ k = (wordsK c f).length) ∧ L' = [row b16 d.cells tCmd, wsR bw s, row b2 cm0.cells tCmd, keep W]) ∧ X.Own w S L' w') ∧ (8 - s'.2).toNat < (8 - (f : Int)).toNat) (k : Int) wx := by
          intro wx H hno
          unfold cmd_Parse_j0
          rw [nf]
          refine ⟨⟨_, ⟨f + 1, k, d, by omega, hk1, by omega, rfl, fun c hc => ?_, rfl⟩, H⟩, by show (8 - ((f + 1 : Nat) : Int)).toNat < (8 - (f : Int)).toNat; omega⟩
          obtain ⟨e1, e2⟩ := hinv c hc
          have h3 := hno c hc
          exact ⟨by unfold partC; rw [if_neg (by rw [h3]; simp)]; exact e1, by rw [wordsK_next, if_neg (by rw [h3]; simp)]; exact e2⟩
        have hlenP : ∀ c, IsP s c → ph c.op f = true → k < (splitW s).length ∧ (splitW s)[k]? = some ⟨(Lib.itoa (c.get f)).toArray⟩ := by
          intro c hc hp
          have h3 := words_at hfl hp
          rw [← split_words hc, ← (hinv c hc).2] at h3
          exact ⟨(List.getElem?_eq_some_iff.1 h3).1, h3⟩
        have j2 : ∀ (b : Bool) (wx : World), b = (ph op f && decide (k < (splitW s).length)) → X.Own w S [row b16 d.cells tCmd, wsR bw s, row b2 cm0.cells tCmd, keep W] wx →
            cmd_Parse_j2 (fun v w' => ∃ L', ((∃ d e, v = .tuple [cmV d, .int .i64 e].toArray ∧ ParseEnd s d e) ∧ L' = [keep W]) ∧ X.Own w S L' w') b2 (some ⟨bw, 0, none⟩) (splitW s).length b16 (k : Int) (f : Int) (fun (s' : Int) w' => cmd_Parse_j0 (f : Int) (fun (s' : Int × Int) w' => (∃ L', (∃ (f k : Nat) (d : Cm), f ≤ 8 ∧ 1 ≤ k ∧ k ≤ f + 1 ∧ s' = ((k : Int), (f : Int)) ∧ (∀ c, IsP s c → d = partC c f ∧ k = (wordsK c f).length) ∧ L' = [row b16 d.cells tCmd, wsR bw s, row b2 cm0.cells tCmd, keep W]) ∧ X.Own w S L' w') ∧ (8 - s'.2).toNat < (8 - (f : Int)).toNat) s' w') b wx := by
          intro b wx hb H
          unfold cmd_Parse_j2
          refine cnd_i (fun hb1 => ?_) fun hb1 => ?_
          · rw [hb1] at hb
            have hb := hb.symm
            rw [Bool.and_eq_true, decide_eq_true_eq] at hb
            obtain ⟨hp, hkl⟩ := hb
            refine ix_i hkl ?_
            dsimp only [nn]
            rw [add_lit, Nat.mul_one, Nat.zero_add]
            have hwk : ((splitW s).map Value.string)[k]? = some (.string ((splitW s)[k]'hkl)) := by rw [List.getElem?_map, List.getElem?_eq_getElem hkl]; rfl
            refine ldS_o H (b := bw) (i := k) (by repeat (first | exact Pick.here | apply Pick.there)) hwk ?_
            have hxm : (splitW s)[k]'hkl ∈ splitW s := List.getElem_mem hkl
            have hxs := word_le hxm
            have hxe : (splitW s)[k]? = some ((splitW s)[k]'hkl) := List.getElem?_eq_getElem hkl
            generalize (splitW s)[k]'hkl = x at *
            refine call_oa H (Atoi_t hL x (by omega)) fun vx L' wx hq H => ?_
            obtain ⟨⟨n, ev, rfl, hend⟩, rfl⟩ := hq
            simp only [List.cons_append, List.nil_append] at H
            refine ⟨_, _, rfl, join_o ?_⟩
            have hP : ∀ c, IsP s c → Lib.atoiAll x.data.toList = .ok (c.get f) ∧ 0 ≤ c.get f ∧ c.get f ≤ 1099511627776 := by
              intro c hc
              have h3 := (hlenP c hc (by rw [hpc c hc]; exact hp)).2
              rw [hxe] at h3
              have h4 : x = ⟨(Lib.itoa (c.get f)).toArray⟩ := Option.some.inj h3
              obtain ⟨ws, he⟩ := Option.ne_none_iff_exists'.1 hc.1
              obtain ⟨-, hf, -, -, -⟩ := encM_some he
              have hr := get_range hf hfl
              have h5 := hf f hfl
              have h6 : (2 : Int) ^ ps c.op f ≤ 1099511627776 := by
                have h7 : (2 : Nat) ^ ps c.op f ≤ 2 ^ 40 := Nat.pow_le_pow_right (by omega) (ps_le _ _)
                have h8 : (2 : Int) ^ ps c.op f = ((2 ^ ps c.op f : Nat) : Int) := by push_cast; rfl
                rw [h8]
                generalize (2 : Nat) ^ ps c.op f = y at *
                omega
              refine ⟨?_, h5.1, by omega⟩
              rw [h4]
              have := atoi_itoa (c.get f) hr.1 hr.2
              simpa using this
            have fail : ∀ wx, X.Own w S [row b16 d.cells tCmd, wsR bw s, row b2 cm0.cells tCmd, keep W] wx → (∀ c, ¬ IsP s c) →
                cmd_Parse_j1 (fun v w' => ∃ L', ((∃ d e, v = .tuple [cmV d, .int .i64 e].toArray ∧ ParseEnd s d e) ∧ L' = [keep W]) ∧ X.Own w S L' w') b2 b16 (k : Int) (f : Int) (fun (s' : Int) w' => cmd_Parse_j0 (f : Int) (fun (s' : Int × Int) w' => (∃ L', (∃ (f k : Nat) (d : Cm), f ≤ 8 ∧ 1 ≤ k ∧ k ≤ f + 1 ∧ s' = ((k : Int), (f : Int)) ∧ (∀ c, IsP s c → d = partC c f ∧ k = (wordsK c f).length) ∧ L' = [row b16 d.cells tCmd, wsR bw s, row b2 cm0.cells tCmd, keep W]) ∧ X.Own w S L' w') ∧ (8 - s'.2).toNat < (8 - (f : Int)).toNat) s' w') n true wx := by
              intro wx H hno
              unfold cmd_Parse_j1
              refine cnd_i (fun _ => ?_) (fun h => by cases h)
              unfold Cm.cells at H
              refine st1_a H fun wx H => ?_
              refine st1_a H fun wx H => ?_
              refine st1_a H fun wx H => ?_
              refine st1_a H fun wx H => ?_
              refine st1_a H fun wx H => ?_
              refine st1_a H fun wx H => ?_
              refine st1_a H fun wx H => ?_
              refine st1_a H fun wx H => ?_
              refine st1_a H fun wx H => ?_
              repeat (first | refine ldI_a H ?_ | refine ldL_a H ?_ | refine ldB_a H ?_ | refine ldP_a H ?_ | refine ldS_a H ?_)
              exact ⟨_, ⟨⟨cm0, 160, rfl, .inr ⟨rfl, rfl, hno⟩⟩, rfl⟩, H.dp⟩
            have good : ∀ wx, X.Own w S [row b16 d.cells tCmd, wsR bw s, row b2 cm0.cells tCmd, keep W] wx → Lib.atoiAll x.data.toList = .ok n →
                cmd_Parse_j1 (fun v w' => ∃ L', ((∃ d e, v = .tuple [cmV d, .int .i64 e].toArray ∧ ParseEnd s d e) ∧ L' = [keep W]) ∧ X.Own w S L' w') b2 b16 (k : Int) (f : Int) (fun (s' : Int) w' => cmd_Parse_j0 (f : Int) (fun (s' : Int × Int) w' => (∃ L', (∃ (f k : Nat) (d : Cm), f ≤ 8 ∧ 1 ≤ k ∧ k ≤ f + 1 ∧ s' = ((k : Int), (f : Int)) ∧ (∀ c, IsP s c → d = partC c f ∧ k = (wordsK c f).length) ∧ L' = [row b16 d.cells tCmd, wsR bw s, row b2 cm0.cells tCmd, keep W]) ∧ X.Own w S L' w') ∧ (8 - s'.2).toNat < (8 - (f : Int)).toNat) s' w') n false wx := by
              intro wx H hok
              unfold cmd_Parse_j1
              refine cnd_i (fun h => by cases h) fun _ => ?_
              refine call_oa H (put_t' b16 d f hfl n) fun vx L' wx hq H => ?_
              obtain ⟨rfl, rfl⟩ := hq
              simp only [List.cons_append, List.nil_append] at H
              refine ⟨rfl, ?_⟩
              unfold cmd_Parse_j0
              rw [nf, W_id (n := (k : Int) + 1) (by omega) (by omega)]
              refine ⟨⟨_, ⟨f + 1, k + 1, d.put n f, by omega, by omega, by omega, by push_cast; rfl, fun c hc => ?_, rfl⟩, H.dp⟩, by show (8 - ((f + 1 : Nat) : Int)).toNat < (8 - (f : Int)).toNat; omega⟩
              obtain ⟨e1, e2⟩ := hinv c hc
              have h3 : ph c.op f = true := by rw [hpc c hc]; exact hp
              obtain ⟨h4, -, -⟩ := hP c hc
              rw [hok] at h4
              have h5 : n = c.get f := by injection h4
              exact ⟨by unfold partC; rw [if_pos h3, ← e1, h5], by rw [wordsK_next, if_pos h3, List.length_append, ← e2]; rfl⟩
            refine err_ne hend fun b hb => ?_
            rcases hb with ⟨rfl, hok⟩ | ⟨rfl, hbad⟩
            · refine cnd_i (fun h => by cases h) fun _ => cnd_i (fun h1 => fail _ (H.dp) fun c hc => ?_) fun h1 => ?_
              · have h1 := of_decide_eq_true h1
                obtain ⟨h4, h5, h6⟩ := hP c hc
                rw [hok] at h4
                have h7 : n = c.get f := by injection h4
                omega
              · by_cases h2 : n < 0
                · rw [decide_eq_true h2]
                  refine fail _ (H.dp) fun c hc => ?_
                  obtain ⟨h4, h5, h6⟩ := hP c hc
                  rw [hok] at h4
                  have h7 : n = c.get f := by injection h4
                  omega
                · rw [decide_eq_false h2]
                  exact good _ (H.dp) hok
            · refine cnd_i (fun _ => fail _ (H.dp) fun c hc => ?_) (fun h => by cases h)
              exact hbad _ (hP c hc).1
          · refine stay _ H fun c hc => ?_
            rw [hb1] at hb
            cases hp : ph c.op f with
            | false => rfl
            | true =>
              have h3 := (hlenP c hc hp).1
              rw [hpc c hc] at hp
              rw [hp, decide_eq_true h3] at hb
              cases hb
        refine join_o (cnd_i (fun hp => j2 _ _ ?_ (H.dp)) fun hp => j2 _ _ ?_ (H.dp))
        · rw [hp, Bool.true_and, decide_eq_decide]; omega
        · rw [hp]; rfl
      · have hc := of_decide_eq_false hc
        have hf8' : f = 8 := by omega
        subst hf8'
        repeat (first | refine ldI_a H ?_ | refine ldL_a H ?_ | refine ldB_a H ?_ | refine ldP_a H ?_ | refine ldS_a H ?_)
        refine call_pa H (Print_t hL.pow d) fun wx H => ?_
        have hpv : ∃ (sp : ByteArray) (e : Int), printV d = .tuple [.string sp, .int .i64 e].toArray ∧ ((e = 0 ∧ encM d ≠ none ∧ sp.data.toList = printL d) ∨ (e = 160 ∧ encM d = none)) := by
          unfold printV
          cases he : encM d with
          | none => exact ⟨_, _, rfl, .inr ⟨rfl, rfl⟩⟩
          | some ws => exact ⟨_, _, rfl, .inl ⟨rfl, by simp, rfl⟩⟩
        obtain ⟨sp, e, hpe, hcase⟩ := hpv
        rw [hpe]
        refine ⟨_, _, rfl, join_o ?_⟩
        have hall : ∀ c, IsP s c → d = c := by
          intro c hc
          obtain ⟨ws, he⟩ := Option.ne_none_iff_exists'.1 hc.1
          rw [(hinv c hc).1, part_all he]
        have fail : ∀ wx, X.Own w S [row b16 d.cells tCmd, wsR bw s, row b2 cm0.cells tCmd, keep W] wx → (∀ c, ¬ IsP s c) →
            cmd_Parse_j3 (fun v w' => ∃ L', ((∃ d e, v = .tuple [cmV d, .int .i64 e].toArray ∧ ParseEnd s d e) ∧ L' = [keep W]) ∧ X.Own w S L' w') b2 b16 true wx := by
          intro wx H hno
          unfold cmd_Parse_j3
          refine cnd_i (fun _ => ?_) (fun h => by cases h)
          unfold Cm.cells at H
          refine st1_a H fun wx H => ?_
          refine st1_a H fun wx H => ?_
          refine st1_a H fun wx H => ?_
          refine st1_a H fun wx H => ?_
          refine st1_a H fun wx H => ?_
          refine st1_a H fun wx H => ?_
          refine st1_a H fun wx H => ?_
          refine st1_a H fun wx H => ?_
          refine st1_a H fun wx H => ?_
          repeat (first | refine ldI_a H ?_ | refine ldL_a H ?_ | refine ldB_a H ?_ | refine ldP_a H ?_ | refine ldS_a H ?_)
          exact ⟨_, ⟨⟨cm0, 160, rfl, .inr ⟨rfl, rfl, hno⟩⟩, rfl⟩, H.dp⟩
        rcases hcase with ⟨rfl, hen, hsp⟩ | ⟨rfl, hen⟩
        · refine cnd_i (fun h => by cases h) fun _ => ?_
          rw [bytes_beq]
          by_cases heq : sp.data.toList = s.data.toList
          · rw [decide_eq_true heq]
            show cmd_Parse_j3 _ _ _ false _
            unfold cmd_Parse_j3
            refine cnd_i (fun h => by cases h) fun _ => ?_
            unfold Cm.cells at H
            repeat (first | refine ldI_a H ?_ | refine ldL_a H ?_ | refine ldB_a H ?_ | refine ldP_a H ?_ | refine ldS_a H ?_)
            refine st1_a H fun wx H => ?_
            refine st1_a H fun wx H => ?_
            refine st1_a H fun wx H => ?_
            refine st1_a H fun wx H => ?_
            refine st1_a H fun wx H => ?_
            refine st1_a H fun wx H => ?_
            refine st1_a H fun wx H => ?_
            refine st1_a H fun wx H => ?_
            refine st1_a H fun wx H => ?_
            repeat (first | refine ldI_a H ?_ | refine ldL_a H ?_ | refine ldB_a H ?_ | refine ldP_a H ?_ | refine ldS_a H ?_)
            exact ⟨_, ⟨⟨d, 0, rfl, .inl ⟨rfl, hen, by rw [← hsp, heq]⟩⟩, rfl⟩, H.dp⟩
          · rw [decide_eq_false heq]
            refine fail _ (H.dp) fun c hc => heq ?_
            have := hall c hc
            subst this
            rw [hsp]; exact hc.2
        · refine cnd_i (fun _ => fail _ (H.dp) fun c hc => ?_) (fun h => by cases h)
          have := hall c hc
          subst this
          exact hc.1 hen
    · rw [decide_eq_false hnm]
      refine skip _ (H.dp) fun c hc e => hnm ?_
      rw [hname c hc, e]
  · have hc15 := of_decide_eq_false hc15
    unfold Cm.cells at H
    refine st1_a H fun wx H => ?_
    refine st1_a H fun wx H => ?_
    refine st1_a H fun wx H => ?_
    refine st1_a H fun wx H => ?_
    refine st1_a H fun wx H => ?_
    refine st1_a H fun wx H => ?_
    refine st1_a H fun wx H => ?_
    refine st1_a H fun wx H => ?_
    refine st1_a H fun wx H => ?_
    repeat (first | refine ldI_a H ?_ | refine ldL_a H ?_ | refine ldB_a H ?_ | refine ldP_a H ?_ | refine ldS_a H ?_)
    refine ⟨_, ⟨⟨cm0, 160, rfl, .inr ⟨rfl, rfl, fun c hc => ?_⟩⟩, rfl⟩, H.dp⟩
    have h1 := hopc c hc
    rcases known_cases (hknown c hc) with h | h | h | h | h | h | h | h | h | h | h | h <;> omega
end Go.Proofs.YtggmapokmlbgbaaDoor
/-
  cmd: a command that is right is read of its words, of a memory and of its text as itself: CmdBack.
-/
namespace Go.Proofs.YtggmapokmlbgbaaDoor
open Go Go.RowKit X
set_option maxRecDepth 100000
set_option linter.unusedVariables false
set_option linter.unusedSimpArgs false
set_option maxHeartbeats 1000000
theorem new400_cv {w : World} : CV P F.crierlaw04_New [.int .i64 400] w fun v w' => Below w.heap.size w w' ∧ ∃ (b d b' d' : Nat), v = .tuple [.pointer (some ⟨b, 0, none⟩), .pointer (some ⟨b', 0, none⟩)].toArray ∧
    MemAt w' (some ⟨b, 0, none⟩) b d 400 (List.replicate 400 0) [] ∧ MemAt w' (some ⟨b', 0, none⟩) b' d' 400 (List.replicate 400 0) [] ∧ w.heap.size ≤ b ∧ w.heap.size ≤ d ∧ b < d' ∧ d < d' ∧ b < b' ∧ d < b' := by
  refine crierlaw04_New_cv ?_
  unfold crierlaw04_New JoinT
  have go : crierlaw04_New_j0 (fun v w' => Below w.heap.size w w' ∧ ∃ (b d b' d' : Nat), v = .tuple [.pointer (some ⟨b, 0, none⟩), .pointer (some ⟨b', 0, none⟩)].toArray ∧
    MemAt w' (some ⟨b, 0, none⟩) b d 400 (List.replicate 400 0) [] ∧ MemAt w' (some ⟨b', 0, none⟩) b' d' 400 (List.replicate 400 0) [] ∧ w.heap.size ≤ b ∧ w.heap.size ≤ d ∧ b < d' ∧ d < d' ∧ b < b' ∧ d < b') 400 w := by
    unfold crierlaw04_New_j0
    refine (new_cv (w := w) 400).mono ?_
    rintro _ w1 ⟨hB1, h⟩
    rw [if_pos (by omega)] at h
    obtain ⟨b, d, rfl, hm, hb, hd⟩ := h
    refine ⟨_, 0, rfl, cnd_i (fun h => by cases h) fun _ => ?_⟩
    unfold drw
    have hlt := hm.lt
    have hs1 := hB1.size
    refine make_i appBytes zeroByte (w := w1.drew) (by omega) (by omega) (by omega) fun w2 hB2 h2 hs2 => alc_i fun w3 hB3 h3 hs3 => ?_
    have e1 : w1.drew.heap.size = w1.heap.size := rfl
    have hB13 : Below w1.heap.size w1 w3 := ((Below.refl _ w1).drew.trans (hB2 _ (Nat.le_refl _))).trans (hB3 _ (by omega))
    refine ⟨hB1.trans (hB13.mono hs1), b, d, w2.heap.size, w1.heap.size, rfl, hm.ext hB13, ?_, hb, hd, hlt.1, hlt.2, by omega, by omega⟩
    have hb' : ∃ t, Row w3 w2.heap.size [.slice (some ⟨w1.heap.size, 0, none⟩) (List.replicate 400 (0 : Int)).length 400] t := by rw [List.length_replicate]; exact ⟨_, h3⟩
    have hd' : ∃ t, Row w3 w1.heap.size (u8s (List.replicate 400 0) ++ []) t := by
      have := h2.below (hB3 w2.heap.size (Nat.le_refl _)) (by omega)
      exact ⟨_, by simpa [u8s] using this⟩
    exact ⟨rfl, hb', hd', by simp, by omega, by intro x hx; rw [(List.mem_replicate.1 hx).2]; omega, by simp⟩
  unfold crierlaw04_New_j1
  exact cnd_i (fun h => by cases h) fun _ => cnd_i (fun h => by cases h) fun _ => go
theorem new400_t : Tri P F.crierlaw04_New [.int .i64 400] [] fun v L' => ∃ b b', v = .tuple [ptr b, ptr b'].toArray ∧ L' = [memI b (List.replicate 400 0), memI b' (List.replicate 400 0)] := by
  intro w S hS
  refine new400_cv.mono fun v w' ⟨hB, b, d, b', d', e, hm, hm', g1, g2, g3, g4, g5, g6⟩ => ⟨_, ⟨b, b', e, rfl⟩, ?_⟩
  have hs := hm.lt
  have hs' := hm'.lt
  have H0 := (Own.start hS).grow hB
  obtain ⟨T, e1, e2, e3⟩ := H0
  have hT := Sep.lt hS
  refine ⟨fun k => (k = b ∨ k = d) ∨ (k = b' ∨ k = d'), ⟨fun k => k = b ∨ k = d, fun k => k = b' ∨ k = d', ⟨d, _, [], hm, fun _ => Iff.rfl⟩, sep_one.2 ⟨d', _, [], hm', fun _ => Iff.rfl⟩, ?_, fun _ => Iff.rfl⟩, e2, ?_⟩
  · have := hm.hne
    have := hm'.hne
    rintro k (rfl | rfl) (h | h) <;> omega
  · rintro k ((rfl | rfl) | (rfl | rfl)) <;> exact .inr (by omega)
theorem print_len2 {c : Cm} (f : Fld c) : (printL c).length ≤ 1000 := by
  have hl := wordsK_len c 8
  have hw : ∀ x ∈ (wordsK c 8).map (·.data.toList), x.length ≤ 21 := by
    intro x hx
    obtain ⟨y, hy, rfl⟩ := List.mem_map.1 hx
    unfold wordsK at hy
    rcases List.mem_cons.1 hy with rfl | hy
    · have := nameB_len c.op
      omega
    · obtain ⟨j, hj, rfl⟩ := List.mem_map.1 hy
      have hj8 := List.mem_range.1 (List.mem_filter.1 hj).1
      have hr := get_range f hj8
      simpa using Lib.itoa_length_le (c.get j) hr.1 hr.2
  have hle := lens_le hw
  unfold printL
  rw [List.length_map] at hle
  cases hx : (wordsK c 8).map (·.data.toList) with
  | nil => simp [Lib.join_nil]
  | cons x r =>
    rw [Lib.join_length]
    rw [hx] at hle
    have : (x :: r).length = (wordsK c 8).length := by rw [← hx, List.length_map]
    simp only [List.length_cons, List.length_nil] at *
    omega
theorem cmdBack_cv {W : World} (hL : LibAt W) (c : Cm) (a0 a1 a2 a3 : Int) (off : Int) (ho : 0 ≤ off ∧ off ≤ 255) :
    CV P F.crierlaw16_CmdBack [cmV c, .agg (wI [a0, a1, a2, a3]).toArray, .int .u8 off] W fun v w' => v = .bool true ∧ Below W.heap.size W w' := by
  refine crierlaw16_CmdBack_cv ?_
  unfold crierlaw16_CmdBack
  have H := keep_start W
  refine alc_o H fun b15 wx H => alc_o H fun b17 wx H => ?_
  refine call_pa H (awake_t hL.pow) fun wx H => ?_
  refine ⟨_, rfl, cnd_i (fun h => by cases h) fun _ => ?_⟩
  repeat (first | refine ldI_a H ?_ | refine ldL_a H ?_ | refine ldB_a H ?_ | refine ldP_a H ?_ | refine ldS_a H ?_)
  refine call_pa H (Decode_t a0 a1 a2 a3) fun wx H => ?_
  obtain ⟨d, f, hd, hdf⟩ : ∃ d f, decV [a0, a1, a2, a3] = .tuple [cmV d, .int .i64 f].toArray ∧ ((f = 0 ∧ decM [a0, a1, a2, a3] = some d) ∨ f = 160) := by
    unfold decV
    cases decM [a0, a1, a2, a3] with
    | none => exact ⟨cm0, 160, rfl, .inr rfl⟩
    | some d => exact ⟨d, 0, rfl, .inl ⟨rfl, rfl⟩⟩
  rw [hd]
  refine ⟨_, _, _, _, _, _, _, _, _, _, rfl, alc_o H fun b38 wx H => ?_⟩
  refine st1_a H fun wx H => ?_
  refine st1_a H fun wx H => ?_
  refine st1_a H fun wx H => ?_
  refine st1_a H fun wx H => ?_
  refine st1_a H fun wx H => ?_
  refine st1_a H fun wx H => ?_
  refine st1_a H fun wx H => ?_
  refine st1_a H fun wx H => ?_
  refine st1_a H fun wx H => ?_
  simp only [List.set_cons_zero, List.set_cons_succ] at H
  refine join_o ?_
  have fin : ∀ wx, X.Own W (fun k => k < W.heap.size) [row b15 c.cells tCmd, keep W] wx → crierlaw16_CmdBack_j2 off (fun v w' => v = .bool true ∧ Below W.heap.size W w') b15 true wx := by
    clear H
    intro wx H
    unfold crierlaw16_CmdBack_j2
    unfold Cm.cells at H
    repeat (first | refine ldI_a H ?_ | refine ldL_a H ?_ | refine ldB_a H ?_ | refine ldP_a H ?_ | refine ldS_a H ?_)
    refine call_pa H (Encode_t c) fun wx H => ?_
    cases he : encM c with
    | none =>
      have e : encV c = .tuple [.agg [.int .u64 0, .int .u64 0, .int .u64 0, .int .u64 0].toArray, .int .i64 160].toArray := by unfold encV; rw [he]; rfl
      rw [e]
      refine ⟨_, _, _, _, _, rfl, alc_o H fun b33 wx H => ?_⟩
      refine st1_a H fun wx H => ?_
      refine st1_a H fun wx H => ?_
      refine st1_a H fun wx H => ?_
      refine st1_a H fun wx H => ?_
      refine cnd_i (fun _ => join_o (cnd_i (fun _ => ?_) (fun h => by cases h))) (fun h => by cases h)
      repeat (first | refine ldI_a H ?_ | refine ldL_a H ?_ | refine ldB_a H ?_ | refine ldP_a H ?_ | refine ldS_a H ?_)
      exact eq4e ⟨rfl, keep_done H (by repeat (first | exact Pick.here | apply Pick.there))⟩
    | some ws =>
      obtain ⟨hl, hwr⟩ := enc_range he
      obtain ⟨x0, x1, x2, x3, rfl⟩ := four hl
      have e : encV c = .tuple [.agg [.int .u64 x0, .int .u64 x1, .int .u64 x2, .int .u64 x3].toArray, .int .i64 0].toArray := by unfold encV; rw [he]; rfl
      rw [e]
      refine ⟨_, _, _, _, _, rfl, alc_o H fun b33 wx H => ?_⟩
      refine st1_a H fun wx H => ?_
      refine st1_a H fun wx H => ?_
      refine st1_a H fun wx H => ?_
      refine st1_a H fun wx H => ?_
      refine cnd_i (fun h => by cases h) fun _ => ?_
      repeat (first | refine ldI_a H ?_ | refine ldL_a H ?_ | refine ldB_a H ?_ | refine ldP_a H ?_ | refine ldS_a H ?_)
      refine call_pa H (Decode_t x0 x1 x2 x3) fun wx H => ?_
      have e2 : decV [x0, x1, x2, x3] = .tuple [cmV c, .int .i64 0].toArray := by unfold decV; rw [dec_enc he]
      rw [e2]
      refine ⟨_, _, _, _, _, _, _, _, _, _, rfl, alc_o H fun b99 wx H => ?_⟩
      refine st1_a H fun wx H => ?_
      refine st1_a H fun wx H => ?_
      refine st1_a H fun wx H => ?_
      refine st1_a H fun wx H => ?_
      refine st1_a H fun wx H => ?_
      refine st1_a H fun wx H => ?_
      refine st1_a H fun wx H => ?_
      refine st1_a H fun wx H => ?_
      refine st1_a H fun wx H => ?_
      simp only [List.set_cons_zero, List.set_cons_succ] at H
      repeat (first | refine ldI_a H ?_ | refine ldL_a H ?_ | refine ldB_a H ?_ | refine ldP_a H ?_ | refine ldS_a H ?_)
      refine call_pa H (Print_t hL.pow c) fun wx H => ?_
      have e3 : printV c = .tuple [.string ⟨(printL c).toArray⟩, .int .i64 0].toArray := by unfold printV; rw [he]; rfl
      rw [e3]
      obtain ⟨-, hf, -, -, -⟩ := encM_some he
      refine ⟨_, _, rfl, ?_⟩
      have hsz : (⟨(printL c).toArray⟩ : ByteArray).size < 4294967281 := by
        show (printL c).toArray.size < 4294967281
        rw [List.size_toArray]
        have := print_len2 hf
        omega
      refine call_oa H (Parse_t hL ⟨(printL c).toArray⟩ hsz) fun vx L' wx hq H => ?_
      obtain ⟨⟨d, g, rfl, hg⟩, rfl⟩ := hq
      simp only [List.cons_append, List.nil_append] at H
      have hip : IsP ⟨(printL c).toArray⟩ c := ⟨by rw [he]; simp, rfl⟩
      have hdg : d = c ∧ g = 0 := by
        rcases hg with ⟨h1, h2, h3⟩ | ⟨h1, h2, h3⟩
        · obtain ⟨wd, hd2⟩ := Option.ne_none_iff_exists'.1 h2
          exact ⟨print_inj hd2 he h3, h1⟩
        · exact absurd hip (h3 c)
      obtain ⟨rfl, rfl⟩ := hdg
      refine ⟨_, _, _, _, _, _, _, _, _, _, rfl, alc_o H fun b135 wx H => ?_⟩
      refine st1_a H fun wx H => ?_
      refine st1_a H fun wx H => ?_
      refine st1_a H fun wx H => ?_
      refine st1_a H fun wx H => ?_
      refine st1_a H fun wx H => ?_
      refine st1_a H fun wx H => ?_
      refine st1_a H fun wx H => ?_
      refine st1_a H fun wx H => ?_
      refine st1_a H fun wx H => ?_
      simp only [List.set_cons_zero, List.set_cons_succ] at H
      refine call_oa H (new400_t) fun vx L' wx hq H => ?_
      obtain ⟨b, b', rfl, rfl⟩ := hq
      simp only [List.cons_append, List.nil_append] at H
      refine ⟨_, _, rfl, alc_o H fun b150 wx H => ?_⟩
      refine st1_a H fun wx H => ?_
      refine st1_a H fun wx H => ?_
      refine cnd_i (fun h => by cases h) fun _ => ?_
      repeat (first | refine ldI_a H ?_ | refine ldL_a H ?_ | refine ldB_a H ?_ | refine ldP_a H ?_ | refine ldS_a H ?_)
      have ho8 : IntKind.i64.wrap ((IntKind.i64.wrap (Int.tdiv (IntKind.i64.wrap off) 8)) * 8) = off / 8 * 8 := by
        rw [W_id (n := off) (by omega) (by omega), Int.tdiv_eq_ediv_of_nonneg (by omega), W_id (n := off / 8) (by omega) (by omega), W_id (by omega) (by omega)]
      rw [ho8]
      have hgd : GoodP (List.replicate 400 (0 : Int)).length 3 300 (off / 8 * 8) := by
        rw [List.length_replicate]
        unfold GoodP
        omega
      refine ⟨by decide, ?_⟩
      repeat (first | refine ldI_a H ?_ | refine ldL_a H ?_ | refine ldB_a H ?_ | refine ldP_a H ?_ | refine ldS_a H ?_)
      refine call_oa H (Store_t b (List.replicate 400 0) 3 300 (off / 8 * 8) d) fun vx L' wx hq H => ?_
      obtain ⟨rfl, rfl⟩ := hq
      simp only [List.cons_append, List.nil_append] at H
      rw [storeE_good hgd, he]
      refine ⟨_, rfl, ?_⟩
      repeat (first | refine ldI_a H ?_ | refine ldL_a H ?_ | refine ldB_a H ?_ | refine ldP_a H ?_ | refine ldS_a H ?_)
      refine ⟨by decide, ?_⟩
      have hls := load_store hgd he
      have hms : ∃ m, storeM (List.replicate 400 0) 3 300 (off / 8 * 8) d = m := ⟨_, rfl⟩
      obtain ⟨m, hm⟩ := hms
      rw [hm] at H hls
      refine call_pa H (Load_t b m 3 300 (off / 8 * 8)) fun wx H => ?_
      have e4 : loadV m 3 300 (off / 8 * 8) = .tuple [cmV d, .int .i64 0].toArray := by unfold loadV; rw [hls]
      rw [e4]
      refine ⟨_, _, _, _, _, _, _, _, _, _, rfl, alc_o H fun b182 wx H => ?_⟩
      refine st1_a H fun wx H => ?_
      refine st1_a H fun wx H => ?_
      refine st1_a H fun wx H => ?_
      refine st1_a H fun wx H => ?_
      refine st1_a H fun wx H => ?_
      refine st1_a H fun wx H => ?_
      refine st1_a H fun wx H => ?_
      refine st1_a H fun wx H => ?_
      refine st1_a H fun wx H => ?_
      simp only [List.set_cons_zero, List.set_cons_succ] at H
      refine join_o (cnd_i (fun _ => ?_) (fun h => by cases h))
      repeat (first | refine ldI_a H ?_ | refine ldL_a H ?_ | refine ldB_a H ?_ | refine ldP_a H ?_ | refine ldS_a H ?_)
      refine cm_eq (c := d) (d := d) (cnd_i (fun _ => ?_) fun h => by simp at h)
      refine cnd_i (fun _ => cnd_i (fun _ => ?_) (fun h => by cases h)) (fun h => by cases h)
      repeat (first | refine ldI_a H ?_ | refine ldL_a H ?_ | refine ldB_a H ?_ | refine ldP_a H ?_ | refine ldS_a H ?_)
      refine cm_eq (c := d) (d := d) (cnd_i (fun _ => ?_) fun h => by simp at h)
      refine cnd_i (fun _ => cnd_i (fun _ => ?_) (fun h => by cases h)) (fun h => by cases h)
      repeat (first | refine ldI_a H ?_ | refine ldL_a H ?_ | refine ldB_a H ?_ | refine ldP_a H ?_ | refine ldS_a H ?_)
      refine cm_eq (c := d) (d := d) (cnd_i (fun _ => ?_) fun h => by simp at h)
      exact ⟨rfl, keep_done H (by repeat (first | exact Pick.here | apply Pick.there))⟩
  rcases hdf with ⟨rfl, hdm⟩ | rfl
  · refine cnd_i (fun _ => ?_) (fun h => by cases h)
    repeat (first | refine ldI_a H ?_ | refine ldL_a H ?_ | refine ldB_a H ?_ | refine ldP_a H ?_ | refine ldS_a H ?_)
    refine call_pa H (Encode_t d) fun wx H => ?_
    have he := enc_dec hdm
    have e : encV d = .tuple [.agg [.int .u64 a0, .int .u64 a1, .int .u64 a2, .int .u64 a3].toArray, .int .i64 0].toArray := by unfold encV; rw [he]; rfl
    rw [e]
    refine ⟨_, _, _, _, _, rfl, alc_o H fun b33 wx H => ?_⟩
    refine st1_a H fun wx H => ?_
    refine st1_a H fun wx H => ?_
    refine st1_a H fun wx H => ?_
    refine st1_a H fun wx H => ?_
    refine join_o (cnd_i (fun h => by cases h) fun _ => ?_)
    repeat (first | refine ldI_a H ?_ | refine ldL_a H ?_ | refine ldB_a H ?_ | refine ldP_a H ?_ | refine ldS_a H ?_)
    refine eq4 (cnd_i (fun h => by simp at h) fun _ => ?_)
    repeat (first | refine ldI_a H ?_ | refine ldL_a H ?_ | refine ldB_a H ?_ | refine ldP_a H ?_ | refine ldS_a H ?_)
    refine call_pa H (Known_t d.op) fun wx H => ?_
    rw [(encM_some he).1]
    refine ⟨_, rfl, ?_⟩
    unfold crierlaw16_CmdBack_j3
    exact cnd_i (fun h => by cases h) fun _ => fin _ (H.dp)
  · exact cnd_i (fun h => by cases h) fun _ => fin _ (H.dp)
end Go.Proofs.YtggmapokmlbgbaaDoor
/-
  cmd: a command's text is what the document says; a text is a command's just if it is printed as it: CmdPrints.
-/
namespace Go.Proofs.YtggmapokmlbgbaaDoor
open Go Go.RowKit X
set_option maxRecDepth 100000
set_option linter.unusedVariables false
set_option linter.unusedSimpArgs false
set_option maxHeartbeats 1000000
def opsL : List Int := [1, 3, 4, 5, 8, 9, 10, 11, 12, 13, 14, 15]
def namesL : List ByteArray := [⟨#[109, 111, 118, 105]⟩, ⟨#[105, 110, 116]⟩, ⟨#[99, 108, 101, 97, 114]⟩, ⟨#[115, 121, 110, 99]⟩, ⟨#[109, 97, 112, 100]⟩, ⟨#[109, 97, 112, 99]⟩, ⟨#[109, 97, 112, 116, 105]⟩, ⟨#[109, 97, 112, 105]⟩, ⟨#[105, 110, 118]⟩, ⟨#[105, 110, 118, 97, 108, 108]⟩, ⟨#[109, 111, 118, 97, 108, 108]⟩, ⟨#[100, 105, 115, 99, 97, 114, 100]⟩]
theorem ops_name : ∀ j, j < 12 → namesL.getD j ⟨#[]⟩ = nameB (opsL.getD j 0) := by decide
theorem refName_t (op : Int) (hk : knownB op = true) : Tri P F.crierref16_Name [.int .i64 op] [] fun v L' => v = .string (nameB op) ∧ L' = [] := by
  intro w S hS
  refine crierref16_Name_cv ?_
  unfold crierref16_Name
  have H := Own.start hS
  refine alc_o H fun b2 wx H => alc_o H fun b4 wx H => ?_
  refine loop_o (fun (st : Int) L => ∃ k : Nat, (k : Int) = st ∧ k ≤ 12 ∧ (∀ j, j < k → opsL.getD j 0 ≠ op) ∧ L = [row b4 (namesL.map Value.string) T.t9, row b2 (opsL.map (Value.int .i64)) T.t22]) (fun (st : Int) => (12 - st).toNat) (H.dp) ⟨0, rfl, by omega, fun _ h => absurd h (by omega), rfl⟩ ?_
  clear H
  rintro _ _ wx ⟨k, rfl, hk12, hno, rfl⟩ H
  unfold crierref16_Name_l0
  refine cnd_i (fun hc => ?_) fun hc => ?_
  · have hc := of_decide_eq_true hc
    have hlt : k < 12 := by omega
    refine ix_i hlt ?_
    rw [add_lit, Nat.mul_one, Nat.zero_add]
    have h1 : (opsL.map (Value.int .i64))[k]? = some (.int .i64 (opsL.getD k 0)) := by
      rw [List.getElem?_map, List.getD_eq_getElem?_getD, List.getElem?_eq_getElem (show k < opsL.length from hlt)]; rfl
    refine ldI_o H (b := b2) (i := k) (by repeat (first | exact Pick.here | apply Pick.there)) h1 (cnd_i (fun he => ?_) fun he => ?_)
    · have he : opsL.getD k 0 = op := by simpa using he
      refine ix_i hlt ?_
      rw [add_lit, Nat.mul_one, Nat.zero_add]
      have h2 : (namesL.map Value.string)[k]? = some (.string (namesL.getD k ⟨#[]⟩)) := by
        rw [List.getElem?_map, List.getD_eq_getElem?_getD, List.getElem?_eq_getElem (show k < namesL.length from hlt)]; rfl
      refine ldS_o H (b := b4) (i := k) (by repeat (first | exact Pick.here | apply Pick.there)) h2 ?_
      exact ⟨_, ⟨by rw [ops_name k hlt, he], rfl⟩, H.dp⟩
    · have he : opsL.getD k 0 ≠ op := by simpa using he
      rw [W_id (by omega) (by omega)]
      refine ⟨⟨_, ⟨k + 1, by push_cast; rfl, by omega, fun j hj => ?_, rfl⟩, H⟩, by show (12 - ((k : Int) + 1)).toNat < (12 - (k : Int)).toNat; omega⟩
      by_cases e : j = k
      · subst e; exact he
      · exact hno j (by omega)
  · have hc := of_decide_eq_false hc
    obtain rfl : k = 12 := by omega
    have a0 : (1 : Int) ≠ op := hno 0 (by omega)
    have a1 : (3 : Int) ≠ op := hno 1 (by omega)
    have a2 : (4 : Int) ≠ op := hno 2 (by omega)
    have a3 : (5 : Int) ≠ op := hno 3 (by omega)
    have a4 : (8 : Int) ≠ op := hno 4 (by omega)
    have a5 : (9 : Int) ≠ op := hno 5 (by omega)
    have a6 : (10 : Int) ≠ op := hno 6 (by omega)
    have a7 : (11 : Int) ≠ op := hno 7 (by omega)
    have a8 : (12 : Int) ≠ op := hno 8 (by omega)
    have a9 : (13 : Int) ≠ op := hno 9 (by omega)
    have a10 : (14 : Int) ≠ op := hno 10 (by omega)
    have a11 : (15 : Int) ≠ op := hno 11 (by omega)
    rcases known_cases hk with h | h | h | h | h | h | h | h | h | h | h | h <;> omega
/-- the numbers' texts -/
def tlL (c : Cm) : List (List UInt8) := (fsK c 8).map fun f => Lib.itoa f.2.2.2
theorem printL_eq (c : Cm) : printL c = (nameB c.op).data.toList ++ Lib.joinTail [32] (tlL c) := by
  unfold printL wordsK tlL fsK
  rw [List.map_cons, Lib.join_cons, List.map_map, List.map_map]
  rfl
def refPrintV (c : Cm) : Value := match encM c with
  | some _ => .tuple [strV (printL c), .bool true].toArray
  | none => .tuple [.string ⟨#[]⟩, .bool false].toArray
theorem refPrint_t {W : World} (hT : PowAt W) (c : Cm) (hI : -9223372036854775808 ≤ c.addr ∧ c.addr ≤ 9223372036854775807) : Tri P F.crierref16_Print [cmV c] [keep W] fun v L' => v = refPrintV c ∧ L' = [keep W] := by
  intro w S hS
  refine crierref16_Print_cv ?_
  unfold crierref16_Print
  have H := Own.start hS
  refine alc_o H fun b10 wx H => ?_
  repeat (first | refine ldI_a H ?_ | refine ldL_a H ?_ | refine ldB_a H ?_ | refine ldP_a H ?_ | refine ldS_a H ?_)
  refine call_pa H (refEncode_t c hI) fun wx H => ?_
  cases he : encM c with
  | none =>
    have e : refV c = .tuple [.agg [.int .u64 0, .int .u64 0, .int .u64 0, .int .u64 0].toArray, .bool false].toArray := by unfold refV; rw [ref_enc hI, he]; rfl
    rw [e]
    refine ⟨_, _, _, _, _, rfl, alc_o H fun b33 wx H => ?_⟩
    refine st1_a H fun wx H => ?_
    refine st1_a H fun wx H => ?_
    refine st1_a H fun wx H => ?_
    refine st1_a H fun wx H => ?_
    refine cnd_i (fun _ => ?_) (fun h => by cases h)
    exact ⟨_, ⟨by unfold refPrintV; rw [he], rfl⟩, H.dp⟩
  | some ws =>
    obtain ⟨hl, hwr⟩ := enc_range he
    obtain ⟨x0, x1, x2, x3, rfl⟩ := four hl
    obtain ⟨hkn, hf, -, -, -⟩ := encM_some he
    have e : refV c = .tuple [.agg [.int .u64 x0, .int .u64 x1, .int .u64 x2, .int .u64 x3].toArray, .bool true].toArray := by unfold refV; rw [ref_enc hI, he]; rfl
    rw [e]
    refine ⟨_, _, _, _, _, rfl, alc_o H fun b33 wx H => ?_⟩
    refine st1_a H fun wx H => ?_
    refine st1_a H fun wx H => ?_
    refine st1_a H fun wx H => ?_
    refine st1_a H fun wx H => ?_
    refine cnd_i (fun h => by cases h) fun _ => ?_
    repeat (first | refine ldI_a H ?_ | refine ldL_a H ?_ | refine ldB_a H ?_ | refine ldP_a H ?_ | refine ldS_a H ?_)
    refine call_oa H (Fields_t c hI.2) fun vx L' wx hq H => ?_
    obtain ⟨p, cap, hq⟩ := hq
    have hA : badA c = false := by
      have h2 := ref_enc hI
      rw [he] at h2
      unfold refM at h2
      cases hb : badA c with
      | false => rfl
      | true => rw [hb] at h2; simp at h2
    rw [if_neg (by rw [hA]; decide)] at hq
    obtain ⟨rfl, rfl⟩ := hq
    simp only [List.cons_append, List.nil_append] at H
    refine ⟨_, _, _, _, rfl, ?_⟩
    repeat (first | refine ldI_a H ?_ | refine ldL_a H ?_ | refine ldB_a H ?_ | refine ldP_a H ?_ | refine ldS_a H ?_)
    refine call_pa H (refName_t c.op hkn) fun wx H => ?_
    refine ⟨_, rfl, ?_⟩
    have hlen := fsK_len c 8
    have hpl := print_len2 hf
    rw [printL_eq, List.length_append] at hpl
    have hfin : strV (printL c) = strV ((nameB c.op).data.toList ++ Lib.joinTail [32] (tlL c)) := by rw [printL_eq]
    have hget : ∀ (k : Nat) f, (fsK c 8)[k]? = some f → (tlL c)[k]? = some (Lib.itoa f.2.2.2) ∧ -9223372036854775808 ≤ f.2.2.2 ∧ f.2.2.2 ≤ 9223372036854775807 := by
      intro k f hk
      refine ⟨by unfold tlL; rw [List.getElem?_map, hk]; rfl, ?_⟩
      have hm := List.mem_of_getElem? hk
      unfold fsK at hm
      obtain ⟨j, hj, rfl⟩ := List.mem_map.1 hm
      exact get_range hf (List.mem_range.1 (List.mem_filter.1 hj).1)
    have htl : (tlL c).length = (fsK c 8).length := by unfold tlL; rw [List.length_map]
    generalize hfs : fsK c 8 = fs at *
    refine loop_o (fun (st : ByteArray × Int) L => ∃ k : Nat, k ≤ fs.length ∧ (⟨⟨((nameB c.op).data.toList ++ Lib.joinTail [32] ((tlL c).take k)).toArray⟩, (k : Int)⟩ : ByteArray × Int) = st ∧ L = [own tFd 4 (.slice p fs.length cap) fs.length (flatF fs), row b10 c.cells tCmd, keep W])
      (fun (st : ByteArray × Int) => ((fs.length : Int) - st.2).toNat) (H.dp) ⟨0, by omega, by simp [Lib.joinTail], rfl⟩ ?_
    clear H
    rintro _ _ wx ⟨k, hk2, rfl, rfl⟩ H
    unfold crierref16_Print_l0
    dsimp only
    have hle := Lib.joinTail_take_le [32] (tlL c) k
    refine cnd_i (fun hc => ?_) fun hc => ?_
    · have hc := of_decide_eq_true hc
      have hlt : k < fs.length := by omega
      obtain ⟨f, hf2⟩ : ∃ f, fs[k]? = some f := ⟨_, List.getElem?_eq_getElem hlt⟩
      obtain ⟨g1, g2⟩ := hget k f hf2
      have hsz : ∀ l : List UInt8, (⟨l.toArray⟩ : ByteArray).size = l.length := fun l => List.size_toArray
      have hle2 := Lib.joinTail_take_le [32] (tlL c) (k + 1)
      have hnx := Lib.joinTail_take_succ [32] (tlL c) k _ g1
      have hll : (Lib.joinTail [32] ((tlL c).take (k + 1))).length = (Lib.joinTail [32] ((tlL c).take k)).length + 1 + (Lib.itoa f.2.2.2).length := by
        rw [hnx, List.length_append, List.length_append]; rfl
      refine ⟨?_, ?_⟩
      · rw [hsz, List.length_append]
        show ((_ + 1 : Nat) : Int) ≤ 9223372036854775807
        omega
      refine ix_i hlt ?_
      obtain ⟨a1, rfl, e0, ee⟩ := slot_cells (Own.rdS H (i := own tFd 4 (.slice p fs.length cap) fs.length (flatF fs)) (by repeat (first | exact Pick.here | apply Pick.there)) ownF_slots) hf2
      dsimp only [nn]
      refine ⟨_, ee 3 _ rfl, ?_⟩
      refine call_pa H (Itoa_t hT f.2.2.2 g2) fun wx H => ?_
      refine ⟨_, rfl, ?_, ?_⟩
      · have h9 := hsz (Lib.itoa f.2.2.2)
        rw [ByteArray.size_append, hsz, h9, List.length_append]
        show ((_ + 1 + _ : Nat) : Int) ≤ 9223372036854775807
        omega
      · rw [W_id (by omega) (by omega)]
        refine ⟨⟨_, ⟨k + 1, by omega, ?_, rfl⟩, H.dp⟩, by show ((fs.length : Int) - ((k : Int) + 1)).toNat < ((fs.length : Int) - (k : Int)).toNat; omega⟩
        refine Prod.ext ?_ (by push_cast; rfl)
        refine bytes_ext ?_
        simp [hnx]
    · have hc := of_decide_eq_false hc
      obtain rfl : k = fs.length := by omega
      rw [← htl, List.take_length]
      exact ⟨_, ⟨by unfold refPrintV; rw [he]; show _ = Value.tuple [strV (printL c), _].toArray; rw [hfin]; rfl, rfl⟩, H.dp⟩
theorem cmdPrints_cv {W : World} (hL : LibAt W) (c : Cm) (hI : -9223372036854775808 ≤ c.addr ∧ c.addr ≤ 9223372036854775807) (s : ByteArray) (hs : s.size < 4294967281) :
    CV P F.crierlaw16_CmdPrints [cmV c, .string s] W fun v w' => v = .bool true ∧ Below W.heap.size W w' := by
  refine crierlaw16_CmdPrints_cv ?_
  unfold crierlaw16_CmdPrints
  have H := keep_start W
  refine alc_o H fun b15 wx H => ?_
  refine call_pa H (awake_t hL.pow) fun wx H => ?_
  refine ⟨_, rfl, cnd_i (fun h => by cases h) fun _ => ?_⟩
  repeat (first | refine ldI_a H ?_ | refine ldL_a H ?_ | refine ldB_a H ?_ | refine ldP_a H ?_ | refine ldS_a H ?_)
  refine call_pa H (Print_t hL.pow c) fun wx H => ?_
  obtain ⟨x, e, ok, e1, e2, hok⟩ : ∃ x e ok, printV c = .tuple [.string x, .int .i64 e].toArray ∧ refPrintV c = .tuple [.string x, .bool ok].toArray ∧ ((ok = true ∧ e = 0) ∨ (ok = false ∧ e = 160)) := by
    unfold printV refPrintV
    cases encM c with
    | none => exact ⟨_, _, _, rfl, rfl, .inr ⟨rfl, rfl⟩⟩
    | some ws => exact ⟨_, _, _, rfl, rfl, .inl ⟨rfl, rfl⟩⟩
  rw [e1]
  refine ⟨_, _, rfl, ?_⟩
  repeat (first | refine ldI_a H ?_ | refine ldL_a H ?_ | refine ldB_a H ?_ | refine ldP_a H ?_ | refine ldS_a H ?_)
  refine call_pa H (refPrint_t hL.pow c hI) fun wx H => ?_
  rw [e2]
  refine ⟨_, _, rfl, join_o (cnd_i (fun h => by simp at h) fun _ => ?_)⟩
  refine call_pa H (told_t e ok hok) fun wx H => ?_
  refine ⟨_, rfl, ?_⟩
  unfold crierlaw16_CmdPrints_j1
  refine cnd_i (fun h => by cases h) fun _ => ?_
  refine call_oa H (Parse_t hL s hs) fun vx L' wx hq H => ?_
  obtain ⟨⟨d, g, rfl, hg⟩, rfl⟩ := hq
  simp only [List.cons_append, List.nil_append] at H
  refine ⟨_, _, _, _, _, _, _, _, _, _, rfl, alc_o H fun b57 wx H => ?_⟩
  refine st1_a H fun wx H => ?_
  refine st1_a H fun wx H => ?_
  refine st1_a H fun wx H => ?_
  refine st1_a H fun wx H => ?_
  refine st1_a H fun wx H => ?_
  refine st1_a H fun wx H => ?_
  refine st1_a H fun wx H => ?_
  refine st1_a H fun wx H => ?_
  refine st1_a H fun wx H => ?_
  simp only [List.set_cons_zero, List.set_cons_succ] at H
  repeat (first | refine ldI_a H ?_ | refine ldL_a H ?_ | refine ldB_a H ?_ | refine ldP_a H ?_ | refine ldS_a H ?_)
  have hdI : -9223372036854775808 ≤ d.addr ∧ d.addr ≤ 9223372036854775807 := by
    rcases hg with ⟨-, h2, -⟩ | ⟨-, rfl, -⟩
    · obtain ⟨wd, hd2⟩ := Option.ne_none_iff_exists'.1 h2
      obtain ⟨-, hf, hA, -, -⟩ := encM_some hd2
      have hr := hf 6 (by omega)
      have h4 : (2 : Int) ^ ps d.op 6 = 1099511627776 := rfl
      rw [h4] at hr
      have h6 : d.get 6 = d.addr / 256 := rfl
      omega
    · exact ⟨by decide, by decide⟩
  refine call_pa H (refPrint_t hL.pow d hdI) fun wx H => ?_
  rcases hg with ⟨rfl, h2, h3⟩ | ⟨rfl, rfl, h3⟩
  · obtain ⟨wd, hd2⟩ := Option.ne_none_iff_exists'.1 h2
    have e3 : refPrintV d = .tuple [.string s, .bool true].toArray := by
      unfold refPrintV
      rw [hd2]
      have : (⟨(printL d).toArray⟩ : ByteArray) = s := bytes_ext (by rw [← h3])
      show Value.tuple [strV (printL d), _].toArray = _
      unfold strV
      rw [this]
    rw [e3]
    refine ⟨_, _, rfl, join_o (cnd_i (fun _ => cnd_i (fun _ => cnd_i (fun _ => cnd_i (fun _ => ?_) fun h => by simp at h) (fun h => by cases h)) (fun h => by cases h)) (fun h => by cases h))⟩
    exact ⟨rfl, keep_done H (by repeat (first | exact Pick.here | apply Pick.there))⟩
  · obtain ⟨y, ok', e4⟩ : ∃ y ok', refPrintV cm0 = .tuple [.string y, .bool ok'].toArray := by
      unfold refPrintV
      cases encM cm0 with
      | none => exact ⟨_, _, rfl⟩
      | some ws => exact ⟨_, _, rfl⟩
    rw [e4]
    refine ⟨_, _, rfl, join_o (cnd_i (fun _ => cnd_i (fun h => by cases h) fun _ => cnd_i (fun _ => ?_) (fun h => by cases h)) (fun h => by cases h))⟩
    repeat (first | refine ldI_a H ?_ | refine ldL_a H ?_ | refine ldB_a H ?_ | refine ldP_a H ?_ | refine ldS_a H ?_)
    refine cm_eq (c := cm0) (d := cm0) ?_
    exact ⟨rfl, keep_done H (by repeat (first | exact Pick.here | apply Pick.there))⟩
end Go.Proofs.YtggmapokmlbgbaaDoor
