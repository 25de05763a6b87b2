/-
  sets: two sets joined; rows of neighbours tell all members; a loop that is left early.
-/
import Derived.Test.YtlccemphlinecaaDoorL6
namespace Go.Proofs.YtlccemphlinecaaDoor
open Go Go.RowKit X
set_option maxRecDepth 100000
set_option linter.unusedVariables false
theorem filt_len (l : List Nat) (f : Nat → Bool) (h : l.length ≤ 16384) : (l.filter f).length ≤ 20000 := Nat.le_trans (List.length_filter_le _ _) (by omega)
section
variable {W : World} (hT : TabAt W)
include hT
theorem setsJoin_cv {p q : Option Addr} {c d : Nat} {ms ns : List Int} (hp : Sl W p (i64s ms)) (hn : Sl W q (i64s ns)) (hpl : ms.length ≤ 9223372036854775807) (hql : ns.length ≤ 9223372036854775807) :
    CV P F.crierlaw01_SetsJoin [.slice p ms.length c, .slice q ns.length d] W fun r w' => r = .bool true ∧ Below W.heap.size W w' := by
  refine crierlaw01_SetsJoin_cv ?_
  unfold crierlaw01_SetsJoin
  have H := keep_start W
  refine call_p H (awake_t hT) (by repeat (first | exact Cut.nil | (apply Cut.cons; (repeat (first | exact Pick.here | apply Pick.there))))) fun wx H => ?_
  refine ⟨_, rfl, cnd_i (fun h => by cases h) fun _ => join_o ?_⟩
  have big : crierlaw01_SetsJoin_j3 p ms.length c q ns.length d (fun r w' => r = .bool true ∧ Below W.heap.size W w') true true wx := by
    unfold crierlaw01_SetsJoin_j3
    exact cnd_i (fun _ => ⟨rfl, keep_done H (by repeat (first | exact Pick.here | apply Pick.there))⟩) (fun h => by cases h)
  refine cnd_i (fun _ => big) fun h1 => ?_
  cases h2 : decide ((ns.length : Int) > 2000)
  case true => exact big
  clear big
  unfold crierlaw01_SetsJoin_j3
  refine cnd_i (fun h => by cases h) fun _ => ?_
  have hu := ofL_up ms
  have hv := ofL_up ns
  have hul := ofL_length ms
  have hvl := ofL_length ns
  refine call_o H (of_set_t (c := c) (keep W) (keep_sl hp) hpl) (by repeat (first | exact Cut.nil | (apply Cut.cons; (repeat (first | exact Pick.here | apply Pick.there))))) fun vx L' wx hq H => ?_
  obtain ⟨b, rfl, rfl⟩ := hq
  simp only [List.cons_append, List.nil_append] at H
  refine ⟨_, rfl, ?_⟩
  refine call_o H (of_set_t (c := d) (keep W) (keep_sl hn) hql) (by repeat (first | exact Cut.nil | (apply Cut.cons; (repeat (first | exact Pick.here | apply Pick.there))))) fun vx L' wx hq H => ?_
  obtain ⟨b', rfl, rfl⟩ := hq
  simp only [List.cons_append, List.nil_append] at H
  refine ⟨_, rfl, ?_⟩
  refine call_o H (refOf_t (c := c) (keep W) (keep_sl hp) hpl (fun k => Nat.le_trans (ofL_length _) (by omega))) (by repeat (first | exact Cut.nil | (apply Cut.cons; (repeat (first | exact Pick.here | apply Pick.there))))) fun vx L' wx hq H => ?_
  obtain ⟨px, cx, rfl, rfl⟩ := hq
  simp only [List.cons_append, List.nil_append] at H
  refine ⟨_, _, _, rfl, ?_⟩
  refine call_o H (refOf_t (c := d) (keep W) (keep_sl hn) hql (fun k => Nat.le_trans (ofL_length _) (by omega))) (by repeat (first | exact Cut.nil | (apply Cut.cons; (repeat (first | exact Pick.here | apply Pick.there))))) fun vx L' wx hq H => ?_
  obtain ⟨py, cy, rfl, rfl⟩ := hq
  simp only [List.cons_append, List.nil_append] at H
  refine ⟨_, _, _, rfl, join_o (cnd_i (fun h => by cases h) fun _ => cnd_i (fun h => by cases h) fun _ => ?_)⟩
  unfold crierlaw01_SetsJoin_j2
  refine cnd_i (fun h => by cases h) fun _ => ?_
  refine call_o H (union_t b b' (ofL ms) (ofL ns) hu) (by repeat (first | exact Cut.nil | (apply Cut.cons; (repeat (first | exact Pick.here | apply Pick.there))))) fun vx L' wx hq H => ?_
  obtain ⟨bu, rfl, rfl⟩ := hq
  simp only [List.cons_append, List.nil_append] at H
  refine ⟨_, rfl, ?_⟩
  refine call_o H (meet_t b b' (ofL ms) (ofL ns) hu) (by repeat (first | exact Cut.nil | (apply Cut.cons; (repeat (first | exact Pick.here | apply Pick.there))))) fun vx L' wx hq H => ?_
  obtain ⟨bm, rfl, rfl⟩ := hq
  simp only [List.cons_append, List.nil_append] at H
  refine ⟨_, rfl, ?_⟩
  refine call_o H (less_t b b' (ofL ms) (ofL ns) hu) (by repeat (first | exact Cut.nil | (apply Cut.cons; (repeat (first | exact Pick.here | apply Pick.there))))) fun vx L' wx hq H => ?_
  obtain ⟨bd, rfl, rfl⟩ := hq
  simp only [List.cons_append, List.nil_append] at H
  refine ⟨_, rfl, join_o ?_⟩
  refine call_o H (refUnion_t (c := cx) (d := cy) (ilI px cx (natI (ofL ms))) (ilI py cy (natI (ofL ns))) il_sl il_sl hu ofL_lt ofL_lt (by omega) (by omega)) (by repeat (first | exact Cut.nil | (apply Cut.cons; (repeat (first | exact Pick.here | apply Pick.there))))) fun vx L' wx hq H => ?_
  obtain ⟨p1, c1, rfl, rfl⟩ := hq
  simp only [List.cons_append, List.nil_append] at H
  refine ⟨_, _, _, rfl, ?_⟩
  refine call_p H (alike_t hT bu (unionL (ofL ms) (ofL ns)) p1 c1) (by repeat (first | exact Cut.nil | (apply Cut.cons; (repeat (first | exact Pick.here | apply Pick.there))))) fun wx H => ?_
  refine ⟨_, rfl, cnd_i (fun h => by cases h) fun _ => ?_⟩
  refine call_o H (refMeet_t (c := cx) (ilI px cx (natI (ofL ms))) il_sl (by omega) (ilI py cy (natI (ofL ns))) (c2 := cy) il_sl (by omega)) (by repeat (first | exact Cut.nil | (apply Cut.cons; (repeat (first | exact Pick.here | apply Pick.there))))) fun vx L' wx hq H => ?_
  obtain ⟨p2, c2, rfl, rfl⟩ := hq
  simp only [List.cons_append, List.nil_append] at H
  refine ⟨_, _, _, rfl, ?_⟩
  rw [natI_length]
  refine call_p H (alike_t hT bm (meetL (ofL ms) (ofL ns)) p2 c2) (by repeat (first | exact Cut.nil | (apply Cut.cons; (repeat (first | exact Pick.here | apply Pick.there))))) fun wx H => ?_
  refine ⟨_, rfl, cnd_i (fun h => by cases h) fun _ => ?_⟩
  refine call_o H (refLess_t (c := cx) (ilI px cx (natI (ofL ms))) il_sl (by omega) (ilI py cy (natI (ofL ns))) (c2 := cy) il_sl (by omega)) (by repeat (first | exact Cut.nil | (apply Cut.cons; (repeat (first | exact Pick.here | apply Pick.there))))) fun vx L' wx hq H => ?_
  obtain ⟨p3, c3, rfl, rfl⟩ := hq
  simp only [List.cons_append, List.nil_append] at H
  refine ⟨_, _, _, rfl, ?_⟩
  rw [natI_length]
  refine call_p H (alike_t hT bd (lessL (ofL ms) (ofL ns)) p3 c3) (by repeat (first | exact Cut.nil | (apply Cut.cons; (repeat (first | exact Pick.here | apply Pick.there))))) fun wx H => ?_
  refine ⟨_, rfl, ?_⟩
  unfold crierlaw01_SetsJoin_j1
  refine cnd_i (fun h => by cases h) fun _ => ?_
  refine call_o H (put_t bu (unionL (ofL ms) (ofL ns)) 11) (by repeat (first | exact Cut.nil | (apply Cut.cons; (repeat (first | exact Pick.here | apply Pick.there))))) fun vx L' wx hq H => ?_
  obtain ⟨rfl, rfl⟩ := hq
  simp only [List.cons_append, List.nil_append] at H
  refine ⟨_, rfl, ?_⟩
  refine call_o H (put_t bm (meetL (ofL ms) (ofL ns)) 12) (by repeat (first | exact Cut.nil | (apply Cut.cons; (repeat (first | exact Pick.here | apply Pick.there))))) fun vx L' wx hq H => ?_
  obtain ⟨rfl, rfl⟩ := hq
  simp only [List.cons_append, List.nil_append] at H
  refine ⟨_, rfl, ?_⟩
  refine call_o H (put_t bd (lessL (ofL ms) (ofL ns)) 13) (by repeat (first | exact Cut.nil | (apply Cut.cons; (repeat (first | exact Pick.here | apply Pick.there))))) fun vx L' wx hq H => ?_
  obtain ⟨rfl, rfl⟩ := hq
  simp only [List.cons_append, List.nil_append] at H
  refine ⟨_, rfl, join_o ?_⟩
  refine call_p H (alike_t hT b (ofL ms) px cx) (by repeat (first | exact Cut.nil | (apply Cut.cons; (repeat (first | exact Pick.here | apply Pick.there))))) fun wx H => ?_
  refine ⟨_, rfl, cnd_i (fun _ => ?_) (fun h => by cases h)⟩
  refine call_p H (alike_t hT b' (ofL ns) py cy) (by repeat (first | exact Cut.nil | (apply Cut.cons; (repeat (first | exact Pick.here | apply Pick.there))))) fun wx H => ?_
  refine ⟨_, rfl, cnd_i (fun _ => ?_) (fun h => by cases h)⟩
  refine call_p H (same_set_t b b' (ofL ms) (ofL ns)) (by repeat (first | exact Cut.nil | (apply Cut.cons; (repeat (first | exact Pick.here | apply Pick.there))))) fun wx H => ?_
  refine ⟨_, rfl, ?_⟩
  refine call_p H (refSame_t' (ilI px cx (natI (ofL ms))) (natI_length _) (natI_length _) il_sl (ilI py cy (natI (ofL ns))) il_sl (by omega)) (by repeat (first | exact Cut.nil | (apply Cut.cons; (repeat (first | exact Pick.here | apply Pick.there))))) fun wx H => ?_
  refine ⟨_, rfl, ?_⟩
  unfold crierlaw01_SetsJoin_j0
  refine ⟨?_, keep_done H (by repeat (first | exact Pick.here | apply Pick.there))⟩
  simp [natI_inj]
theorem setsLeft_cv {p : Option Addr} {c : Nat} {ms : List Int} {m most gone : Int} (hmost : 0 ≤ most ∧ most < 256) (hp : Sl W p (i64s ms)) (hpl : ms.length ≤ 9223372036854775807) :
    CV P F.crierlaw01_SetsLeft [.slice p ms.length c, .int .i64 m, .int .u8 most, .int .i64 gone] W fun r w' => r = .bool true ∧ Below W.heap.size W w' := by
  refine crierlaw01_SetsLeft_cv ?_
  unfold crierlaw01_SetsLeft
  have H := keep_start W
  refine alc_o H fun b7 wx H => ?_
  refine call_p H (awake_t hT) (by repeat (first | exact Cut.nil | (apply Cut.cons; (repeat (first | exact Pick.here | apply Pick.there))))) fun wx H => ?_
  refine ⟨_, rfl, cnd_i (fun h => by cases h) fun _ => cnd_i (fun _ => ⟨rfl, keep_done H (by repeat (first | exact Pick.here | apply Pick.there))⟩) fun _ => ?_⟩
  refine call_o H (of_set_t (c := c) (keep W) (keep_sl hp) hpl) (by repeat (first | exact Cut.nil | (apply Cut.cons; (repeat (first | exact Pick.here | apply Pick.there))))) fun vx L' wx hq H => ?_
  obtain ⟨b, rfl, rfl⟩ := hq
  simp only [List.cons_append, List.nil_append] at H
  refine ⟨_, rfl, alc_o H fun b15 wx H => ?_⟩
  refine st1_o H (by repeat (first | exact Rep.here | apply Rep.there)) (by simp) fun wx H => ?_
  refine join_o (cnd_i (fun h => by cases h) fun _ => ?_)
  refine ldP_o H (by repeat (first | exact Pick.here | apply Pick.there)) (by rfl) ?_
  unfold crierlaw01_SetsLeft_j3
  refine cnd_i (fun h => by cases h) fun _ => ?_
  have hul := ofL_length ms
  have hup := ofL_up ms
  generalize ofL ms = l at *
  have hal : (loL l m).length ≤ 16384 := Nat.le_trans (List.length_filter_le _ _) hul
  repeat (first | refine ldI_o H (by repeat (first | exact Pick.here | apply Pick.there)) (by rfl) ?_ | refine ldL_o H (by repeat (first | exact Pick.here | apply Pick.there)) (by rfl) ?_ | refine ldB_o H (by repeat (first | exact Pick.here | apply Pick.there)) (by rfl) ?_ | refine ldP_o H (by repeat (first | exact Pick.here | apply Pick.there)) (by rfl) ?_ | refine ldS_o H (by repeat (first | exact Pick.here | apply Pick.there)) (by rfl) ?_)
  refine call_o H (lawFrom_t hT b l m 20000) (by repeat (first | exact Cut.nil | (apply Cut.cons; (repeat (first | exact Pick.here | apply Pick.there))))) fun vx L' wx hq H => ?_
  obtain ⟨pa, ca, rfl, rfl⟩ := hq
  rw [show (loL l m).take (20000 : Int).toNat = loL l m from List.take_of_length_le (by simp; omega)] at H ⊢
  simp only [List.cons_append, List.nil_append] at H
  refine ⟨_, _, _, rfl, ?_⟩
  repeat (first | refine ldI_o H (by repeat (first | exact Pick.here | apply Pick.there)) (by rfl) ?_ | refine ldL_o H (by repeat (first | exact Pick.here | apply Pick.there)) (by rfl) ?_ | refine ldB_o H (by repeat (first | exact Pick.here | apply Pick.there)) (by rfl) ?_ | refine ldP_o H (by repeat (first | exact Pick.here | apply Pick.there)) (by rfl) ?_ | refine ldS_o H (by repeat (first | exact Pick.here | apply Pick.there)) (by rfl) ?_)
  rw [W_id (n := most) (by omega) (by omega)]
  refine call_o H (lawFrom_t hT b l m most) (by repeat (first | exact Cut.nil | (apply Cut.cons; (repeat (first | exact Pick.here | apply Pick.there))))) fun vx L' wx hq H => ?_
  obtain ⟨pb, cb, rfl, rfl⟩ := hq
  simp only [List.cons_append, List.nil_append] at H
  refine ⟨_, _, _, rfl, join_o (cnd_i (fun h => ?_) fun _ => ?_)⟩
  · simp only [List.length_take, bne_iff_ne, ne_eq] at h
    exact absurd (by split <;> omega) h
  have hk : ((loL l m).take most.toNat).length ≤ (loL l m).length := by rw [List.length_take]; omega
  -- the first members of all
  have hcap : ∃ ca', (loL l m).length ≤ ca ∧ ca' = ca := by
    obtain ⟨S, ⟨g1, _⟩, _⟩ := H.pick (i := ilI pa ca (natI (loL l m))) (by repeat (first | exact Pick.here | apply Pick.there))
    rcases g1.2 with ⟨e, _⟩ | ⟨g, cap, cur, e, _, _, h4, _⟩
    · simp only [Value.slice.injEq] at e; exact ⟨ca, by rw [natI_length] at e; omega, rfl⟩
    · simp only [Value.slice.injEq] at e; exact ⟨ca, by rw [natI_length] at h4; omega, rfl⟩
  obtain ⟨_, hcap, _⟩ := hcap
  refine ⟨by simp, ?_, by simp, ?_⟩
  · intro x hx; cases hx; exact ⟨by omega, by simp; omega⟩
  simp only [Option.map_some, Option.getD_some, Option.map_none, Option.getD_none, Nat.zero_mul, Int.toNat_natCast, Nat.sub_zero]
  have hsl : ∀ w S, (ilI pa ca (natI (loL l m))).h w S → Sl w (if ca = 0 then pa else pa.map (·.add 0)) (i64s (natI ((loL l m).take most.toNat))) := by
    intro w S h j u hj
    have hj' : j < ((loL l m).take most.toNat).length := by have := (List.getElem?_eq_some_iff.1 hj).1; rwa [i64s_length, natI_length] at this
    obtain ⟨a, ha, hc⟩ := il_sl w S h j u (by
      rw [← hj]
      simp only [i64s, natI, List.getElem?_map, List.getElem?_take]
      rw [if_pos (by simp at hj'; omega)])
    refine ⟨a, ?_, hc⟩
    have ea : a.add 0 = a := by unfold Addr.add; split <;> simp_all
    split
    · exact ha
    · rw [ha]; simp [ea]
  refine call_p H (refSame_t' (xs := natI ((loL l m).take most.toNat)) (ys := natI ((loL l m).take most.toNat)) (ilI pb cb (natI ((loL l m).take most.toNat))) (natI_length _) (natI_length _) il_sl (ilI pa ca (natI (loL l m))) hsl (by omega)) (by repeat (first | exact Cut.nil | (apply Cut.cons; (repeat (first | exact Pick.here | apply Pick.there))))) fun wx H => ?_
  refine ⟨_, rfl, ?_⟩
  unfold crierlaw01_SetsLeft_j2
  refine cnd_i (fun h => by simp at h) fun _ => ?_
  refine alc_o H fun b36 wx H => ?_
  repeat (first | refine ldI_o H (by repeat (first | exact Pick.here | apply Pick.there)) (by rfl) ?_ | refine ldL_o H (by repeat (first | exact Pick.here | apply Pick.there)) (by rfl) ?_ | refine ldB_o H (by repeat (first | exact Pick.here | apply Pick.there)) (by rfl) ?_ | refine ldP_o H (by repeat (first | exact Pick.here | apply Pick.there)) (by rfl) ?_ | refine ldS_o H (by repeat (first | exact Pick.here | apply Pick.there)) (by rfl) ?_)
  refine call_o H (from_t b l m) (by repeat (first | exact Cut.nil | (apply Cut.cons; (repeat (first | exact Pick.here | apply Pick.there))))) fun vx L' wx hq H => ?_
  obtain ⟨g1, g2, ws, pw, cw, t, t2, rfl, h2, h3, rfl, rfl⟩ := hq
  refine ⟨_, rfl, join_o ?_⟩
  have H := il_nil H
  have H := H.drop (L1 := [ilI none 0 [], row b36 [.slice none 0 0] T.t22, row b15 [ptrV b] T.t24, row b7 [.int .i64 gone] T.t3, setI b (mems ws), ilI pa ca (natI (loL (mems ws) m))] ++ (fromE g1 g2 ws pw cw m t t2 ++ [keep W])) (by repeat (first | exact Cut.nil | (apply Cut.cons; (repeat (first | exact Pick.here | apply Pick.there)))))
  refine rf_o (fun k L => ∃ p c ls, k ≤ (loL (mems ws) m).length ∧ Up ls ∧ L = [ilI p c (natI ((loL (mems ws) m).take k)), row b36 [.slice p (natI ((loL (mems ws) m).take k)).length c] T.t22, row b15 [ptrV b] T.t24, row b7 [.int .i64 gone] T.t3, setI b ls, ilI pa ca (natI (loL (mems ws) m))])
    (fun c L => False) from_enters (from_it hT h2 h3) (i1s_len _) H ⟨none, 0, _, by omega, hup, rfl⟩ ?_ ?_ ?_
  · rintro k x _ F l' r d wx Q hx ⟨po, co, ls, hk', hls, rfl⟩ H hgo hdone
    obtain ⟨hk, rfl⟩ := i1s_get hx
    unfold crierlaw01_SetsLeft_r1
    dsimp only [X.b1]
    refine ⟨_, rfl, rec_o H .here fun wx H => ?_⟩
    simp only [List.cons_append, List.nil_append] at H
    have hle : (natI ((loL (mems ws) m).take k)).length = k := by rw [natI_length]; simp; omega
    repeat (first | refine ldI_o H (by repeat (first | exact Pick.here | apply Pick.there)) (by rfl) ?_ | refine ldL_o H (by repeat (first | exact Pick.here | apply Pick.there)) (by rfl) ?_ | refine ldB_o H (by repeat (first | exact Pick.here | apply Pick.there)) (by rfl) ?_ | refine ldP_o H (by repeat (first | exact Pick.here | apply Pick.there)) (by rfl) ?_ | refine ldS_o H (by repeat (first | exact Pick.here | apply Pick.there)) (by rfl) ?_)
    refine push_o H (by repeat (first | exact Pick.here | apply Pick.there)) (by omega) fun p' c' wx H => ?_
    rw [take_snoc hk] at H ⊢
    refine st1_o H (by repeat (first | exact Rep.here | apply Rep.there)) (by simp) fun wx H => ?_
    repeat (first | refine ldI_o H (by repeat (first | exact Pick.here | apply Pick.there)) (by rfl) ?_ | refine ldL_o H (by repeat (first | exact Pick.here | apply Pick.there)) (by rfl) ?_ | refine ldB_o H (by repeat (first | exact Pick.here | apply Pick.there)) (by rfl) ?_ | refine ldP_o H (by repeat (first | exact Pick.here | apply Pick.there)) (by rfl) ?_ | refine ldS_o H (by repeat (first | exact Pick.here | apply Pick.there)) (by rfl) ?_)
    refine call_o H (take_t b ls gone) (by repeat (first | exact Cut.nil | (apply Cut.cons; (repeat (first | exact Pick.here | apply Pick.there))))) fun vx L' wx hq H => ?_
    obtain ⟨rfl, rfl⟩ := hq
    simp only [List.cons_append, List.nil_append] at H
    refine ⟨_, rfl, ?_⟩
    repeat (first | refine ldI_o H (by repeat (first | exact Pick.here | apply Pick.there)) (by rfl) ?_ | refine ldL_o H (by repeat (first | exact Pick.here | apply Pick.there)) (by rfl) ?_ | refine ldB_o H (by repeat (first | exact Pick.here | apply Pick.there)) (by rfl) ?_ | refine ldP_o H (by repeat (first | exact Pick.here | apply Pick.there)) (by rfl) ?_ | refine ldS_o H (by repeat (first | exact Pick.here | apply Pick.there)) (by rfl) ?_)
    refine call_o H (take_t b (takeL ls gone) ((loL (mems ws) m)[k] : Nat)) (by repeat (first | exact Cut.nil | (apply Cut.cons; (repeat (first | exact Pick.here | apply Pick.there))))) fun vx L' wx hq H => ?_
    obtain ⟨rfl, rfl⟩ := hq
    simp only [List.cons_append, List.nil_append] at H
    refine ⟨_, rfl, ?_⟩
    repeat (first | refine ldI_o H (by repeat (first | exact Pick.here | apply Pick.there)) (by rfl) ?_ | refine ldL_o H (by repeat (first | exact Pick.here | apply Pick.there)) (by rfl) ?_ | refine ldB_o H (by repeat (first | exact Pick.here | apply Pick.there)) (by rfl) ?_ | refine ldP_o H (by repeat (first | exact Pick.here | apply Pick.there)) (by rfl) ?_ | refine ldS_o H (by repeat (first | exact Pick.here | apply Pick.there)) (by rfl) ?_)
    have hup3 := takeL_up (m := ((loL (mems ws) m)[k] : Nat)) (takeL_up (m := gone) hls)
    generalize takeL (takeL ls gone) ((loL (mems ws) m)[k] : Nat) = l3 at *
    refine call_o H (put_t b l3 (IntKind.i64.wrap (((loL (mems ws) m)[k] : Nat) + 1))) (by repeat (first | exact Cut.nil | (apply Cut.cons; (repeat (first | exact Pick.here | apply Pick.there))))) fun vx L' wx hq H => ?_
    obtain ⟨rfl, rfl⟩ := hq
    simp only [List.cons_append, List.nil_append] at H
    rw [putL_has' _ hup3] at H
    have hup4 := putL_up (m := IntKind.i64.wrap (((loL (mems ws) m)[k] : Nat) + 1)) hup3
    generalize putL l3 (IntKind.i64.wrap (((loL (mems ws) m)[k] : Nat) + 1)) = l4 at *
    refine ⟨_, rfl, ?_⟩
    repeat (first | refine ldI_o H (by repeat (first | exact Pick.here | apply Pick.there)) (by rfl) ?_ | refine ldL_o H (by repeat (first | exact Pick.here | apply Pick.there)) (by rfl) ?_ | refine ldB_o H (by repeat (first | exact Pick.here | apply Pick.there)) (by rfl) ?_ | refine ldP_o H (by repeat (first | exact Pick.here | apply Pick.there)) (by rfl) ?_ | refine ldS_o H (by repeat (first | exact Pick.here | apply Pick.there)) (by rfl) ?_)
    refine cnd_i (fun h => ?_) fun h => ?_
    · have h := of_decide_eq_true h
      rw [natI_length] at h; simp at h; omega
    · have H := H.perm (L1 := [recI l' r .busy none, defI d, ilI p' c' (natI ((loL (mems ws) m).take (k + 1))), row b36 [.slice p' (natI ((loL (mems ws) m).take (k + 1))).length c'] T.t22, row b15 [ptrV b] T.t24, row b7 [.int .i64 gone] T.t3, setI b l4, ilI pa ca (natI (loL (mems ws) m))]) (by repeat (first | exact Cut.nil | (apply Cut.cons; (repeat (first | exact Pick.here | apply Pick.there)))))
      exact rec_o H .here fun wx H => hgo [ilI p' c' (natI ((loL (mems ws) m).take (k + 1))), row b36 [.slice p' (natI ((loL (mems ws) m).take (k + 1))).length c'] T.t22, row b15 [ptrV b] T.t24, row b7 [.int .i64 gone] T.t3, setI b l4, ilI pa ca (natI (loL (mems ws) m))] wx ⟨p', c', l4, by omega, hup4, rfl⟩ H
  · rintro d _ wx ⟨po, co, ls, hk, hls, rfl⟩ H
    dsimp only [jmpX]
    rw [i1s_length, List.take_length] at H
    unfold crierlaw01_SetsLeft_j0
    simp only [List.cons_append, List.nil_append] at H
    repeat (first | refine ldI_o H (by repeat (first | exact Pick.here | apply Pick.there)) (by rfl) ?_ | refine ldL_o H (by repeat (first | exact Pick.here | apply Pick.there)) (by rfl) ?_ | refine ldB_o H (by repeat (first | exact Pick.here | apply Pick.there)) (by rfl) ?_ | refine ldP_o H (by repeat (first | exact Pick.here | apply Pick.there)) (by rfl) ?_ | refine ldS_o H (by repeat (first | exact Pick.here | apply Pick.there)) (by rfl) ?_)
    refine call_p H (refSame_t' (xs := natI (loL (mems ws) m)) (ys := natI (loL (mems ws) m)) (ilI po co (natI (loL (mems ws) m))) rfl (natI_length _) il_sl (ilI pa ca (natI (loL (mems ws) m))) il_sl (by rw [natI_length]; omega)) (by repeat (first | exact Cut.nil | (apply Cut.cons; (repeat (first | exact Pick.here | apply Pick.there))))) fun wx H => ?_
    refine ⟨_, rfl, take_o H (by repeat (first | exact Pick.here | apply Pick.there)) fun wx H => ?_⟩
    have H : X.Own W (fun k => k < W.heap.size) [keep W] wx := H.drop (by repeat (first | exact Cut.nil | (apply Cut.cons; (repeat (first | exact Pick.here | apply Pick.there)))))
    exact ⟨by simp, keep_done H (by repeat (first | exact Pick.here | apply Pick.there))⟩
  · rintro d _ _ wx h
    cases h
end
end Go.Proofs.YtlccemphlinecaaDoor
