/-
  lpi: LpiBest.
-/
import Derived.Test.YtgjddhpblpfneaaDoorL15
namespace Go.Proofs.YtgjddhpblpfneaaDoor
open Go Go.RowKit X
set_option maxRecDepth 100000
set_option linter.unusedVariables false
set_option linter.unusedSimpArgs false
set_option maxHeartbeats 2000000
def inK (s : Lp) (k : Nat) : Bool := (setupR s (8192 + (k : Int))).1
theorem befB_iff {p id q id2 : Int} : befB p id q id2 = true ↔ p < q ∨ p = q ∧ id < id2 := by simp [befB]
theorem best_snoc (s : Lp) (l : List Nat) (u : Nat) : bestR s (l ++ [u]) = bstep s (bestR s l) u := by
  unfold bestR
  rw [List.foldl_append]; rfl
theorem best_spec (s : Lp) (l : List Nat) : ((bestR s l).is = true → ∃ k ∈ l, inK s k = true ∧ (bestR s l).id = 8192 + (k : Int) ∧ (bestR s l).pri = (setupR s (8192 + (k : Int))).2 ∧ (bestR s l).grp = 1) ∧
    ∀ k ∈ l, inK s k = true → (bestR s l).is = true ∧ befB (setupR s (8192 + (k : Int))).2 (8192 + (k : Int)) (bestR s l).pri (bestR s l).id = false := by
  induction l using snoc_ind with
  | h0 => exact ⟨fun h => (by cases h), fun k h => (by cases h)⟩
  | h1 l u ih =>
    rw [best_snoc]
    obtain ⟨i1, i2⟩ := ih
    generalize bestR s l = c at *
    unfold bstep
    split
    · rename_i hc
      simp only [Bool.and_eq_true, Bool.or_eq_true, Bool.not_eq_true'] at hc
      refine ⟨fun _ => ⟨u, by simp, hc.1, rfl, rfl, rfl⟩, fun k hk hin => ⟨rfl, ?_⟩⟩
      dsimp only
      rcases List.mem_append.1 hk with hk | hk
      · obtain ⟨h1, h2⟩ := i2 k hk hin
        rcases hc.2 with h3 | h3
        · rw [h1] at h3; cases h3
        · rw [Bool.eq_false_iff] at h2 ⊢
          intro h4
          apply h2
          rw [befB_iff] at h3 h4 ⊢
          omega
      · rw [List.mem_singleton.1 hk]
        simp [befB]
    · rename_i hc
      simp only [Bool.and_eq_true, Bool.or_eq_true, Bool.not_eq_true'] at hc
      refine ⟨fun h => ?_, fun k hk hin => ?_⟩
      · obtain ⟨k, hk, h1⟩ := i1 h
        exact ⟨k, List.mem_append_left _ hk, h1⟩
      · rcases List.mem_append.1 hk with hk | hk
        · exact i2 k hk hin
        · have e := List.mem_singleton.1 hk
          subst e
          have hin' : (setupR s (8192 + (k : Int))).1 = true := hin
          cases hcis : c.is
          · exact absurd ⟨hin', .inl hcis⟩ hc
          · refine ⟨rfl, ?_⟩
            cases hb : befB (setupR s (8192 + (k : Int))).2 (8192 + (k : Int)) c.pri c.id
            · rfl
            · exact absurd ⟨hin', .inr hb⟩ hc
theorem best_none (s : Lp) (l : List Nat) : (bestR s l).is = false → (bestR s l).id = 0 := by
  induction l using snoc_ind with
  | h0 => exact fun _ => rfl
  | h1 l u ih =>
    rw [best_snoc]
    unfold bstep
    split
    · intro h; cases h
    · exact ih
theorem wait_on {s : Lp} {bs : List Int} (hok : s.Ok) (hon : s.on = true) (k : Nat) : k ∈ waitL s bs ↔ k ∈ s.wt := by
  unfold waitL
  rw [List.mem_filter, List.mem_range]
  unfold hasM
  rw [hon]
  simp only [if_true, Bool.and_eq_true]
  rw [inB_iff, show (8192 : Int) + (k : Int) - 8192 = (k : Int) by omega, hasL_nat]
  constructor
  · rintro ⟨_, _, h⟩; simpa using h
  · intro h
    have := hok.wlt k h
    have := hok.man
    exact ⟨by omega, by omega, by simpa using h⟩
theorem lpiBest_cv {W : World} (hT : TabAt W) {q : Option Addr} {c : Nat} {xs : List Int} (hq0 : Sl W q (u8s xs)) (hc : xs.length ≤ c) (hx : ∀ x ∈ xs, 0 ≤ x ∧ x < 256) {a b : Int} (ha : 0 ≤ a ∧ a ≤ 255) (hb : 0 ≤ b ∧ b ≤ 255)
    {q2 : Option Addr} {c2 : Nat} {ys : List Act15} (hq2 : Slots W q2 5 (ys.map Act15.cells)) (hy : ∀ y ∈ ys, y.Good) (hl : ys.length ≤ 9223372036854775807) :
    CV P F.crierlaw15_LpiBest [.int .u8 a, .int .u8 b, .slice q xs.length c, .slice q2 ys.length c2] W fun r w' => r = .bool true ∧ Below W.heap.size W w' := by
  refine crierlaw15_LpiBest_cv ?_
  unfold crierlaw15_LpiBest
  have H := keep_start W
  refine alc_o H fun b9 wx H => ?_
  refine call_o H (awake_t hT) (by repeat (first | exact Cut.nil | (apply Cut.cons; (repeat (first | exact Pick.here | apply Pick.there))))) fun vx L' wx hq H => ?_
  obtain ⟨rfl, rfl⟩ := hq
  simp only [List.cons_append, List.nil_append] at H
  refine ⟨_, rfl, cnd_i (fun h => by cases h) fun _ => ?_⟩
  refine call_o H (played_t hT hq0 hc hx ha hb hq2 hy hl) (by repeat (first | exact Cut.nil | (apply Cut.cons; (repeat (first | exact Pick.here | apply Pick.there))))) fun vx L' wx hq H => ?_
  obtain ⟨p, S, hS, hlen, hpa, rfl, rfl⟩ := hq
  simp only [List.cons_append, List.nil_append] at H
  refine ⟨_, _, _, _, _, _, _, _, rfl, alc_o H fun b26 wx H => ?_⟩
  refine st1_o H (by repeat (first | exact Rep.here | apply Rep.there)) (by simp) fun wx H => ?_
  refine st1_o H (by repeat (first | exact Rep.here | apply Rep.there)) (by simp) fun wx H => ?_
  refine st1_o H (by repeat (first | exact Rep.here | apply Rep.there)) (by simp) fun wx H => ?_
  refine st1_o H (by repeat (first | exact Rep.here | apply Rep.there)) (by simp) fun wx H => ?_
  refine st1_o H (by repeat (first | exact Rep.here | apply Rep.there)) (by simp) fun wx H => ?_
  refine st1_o H (by repeat (first | exact Rep.here | apply Rep.there)) (by simp) fun wx H => ?_
  refine st1_o H (by repeat (first | exact Rep.here | apply Rep.there)) (by simp) fun wx H => ?_
  simp only [List.set_cons_zero, List.set_cons_succ] at H
  refine join_o (cnd_i (fun h => by cases h) fun _ => ?_)
  unfold crierlaw15_LpiBest_j4
  refine cnd_i (fun h => by cases h) fun _ => ?_
  refine ix_i (i := 0) (by omega) ?_
  refine ldP_o H (b := b26) (i := 2) (by repeat (first | exact Pick.here | apply Pick.there)) (by rfl) ?_
  refine alc_o H fun b42 wx H => ?_
  refine st1_o H (by repeat (first | exact Rep.here | apply Rep.there)) (by simp) fun wx H => ?_
  simp only [List.set_cons_zero, List.set_cons_succ] at H
  repeat (first | refine ldI_o H (by repeat (first | exact Pick.here | apply Pick.there)) (by rfl) ?_ | refine ldL_o H (by repeat (first | exact Pick.here | apply Pick.there)) (by rfl) ?_ | refine ldB_o H (by repeat (first | exact Pick.here | apply Pick.there)) (by rfl) ?_ | refine ldP_o H (by repeat (first | exact Pick.here | apply Pick.there)) (by rfl) ?_ | refine ldS_o H (by repeat (first | exact Pick.here | apply Pick.there)) (by rfl) ?_)
  refine call_p H (best_t hT p.l0 S.1) (by repeat (first | exact Cut.nil | (apply Cut.cons; (repeat (first | exact Pick.here | apply Pick.there))))) fun wx H => ?_
  obtain ⟨sp1, sp2⟩ := best_spec S.1 S.1.wt
  have sp3 := best_none S.1 S.1.wt
  have hoff : S.1.on = false → (bestR S.1 S.1.wt).is = false := fun h => by rw [hS.ok1.off h]; rfl
  generalize bestR S.1 S.1.wt = C at *
  refine ⟨_, _, _, _, rfl, alc_o H fun b52 wx H => ?_⟩
  refine st1_o H (by repeat (first | exact Rep.here | apply Rep.there)) (by simp) fun wx H => ?_
  refine st1_o H (by repeat (first | exact Rep.here | apply Rep.there)) (by simp) fun wx H => ?_
  refine st1_o H (by repeat (first | exact Rep.here | apply Rep.there)) (by simp) fun wx H => ?_
  refine st1_o H (by repeat (first | exact Rep.here | apply Rep.there)) (by simp) fun wx H => ?_
  simp only [List.set_cons_zero, List.set_cons_succ] at H
  repeat (first | refine ldI_o H (by repeat (first | exact Pick.here | apply Pick.there)) (by rfl) ?_ | refine ldL_o H (by repeat (first | exact Pick.here | apply Pick.there)) (by rfl) ?_ | refine ldB_o H (by repeat (first | exact Pick.here | apply Pick.there)) (by rfl) ?_ | refine ldP_o H (by repeat (first | exact Pick.here | apply Pick.there)) (by rfl) ?_ | refine ldS_o H (by repeat (first | exact Pick.here | apply Pick.there)) (by rfl) ?_)
  refine call_p H (on_t p.l0 S.1) (by repeat (first | exact Cut.nil | (apply Cut.cons; (repeat (first | exact Pick.here | apply Pick.there))))) fun wx H => ?_
  refine ⟨_, rfl, cnd_i (fun hon => ?_) fun hon => ?_⟩
  · have hon : S.1.on = false := by simpa using hon
    repeat (first | refine ldI_o H (by repeat (first | exact Pick.here | apply Pick.there)) (by rfl) ?_ | refine ldL_o H (by repeat (first | exact Pick.here | apply Pick.there)) (by rfl) ?_ | refine ldB_o H (by repeat (first | exact Pick.here | apply Pick.there)) (by rfl) ?_ | refine ldP_o H (by repeat (first | exact Pick.here | apply Pick.there)) (by rfl) ?_ | refine ldS_o H (by repeat (first | exact Pick.here | apply Pick.there)) (by rfl) ?_)
    refine st1_o H (by repeat (first | exact Rep.here | apply Rep.there)) (by simp) fun wx H => ?_
    simp only [List.set_cons_zero, List.set_cons_succ] at H
    rw [hoff hon] at H
    repeat (first | refine ldI_o H (by repeat (first | exact Pick.here | apply Pick.there)) (by rfl) ?_ | refine ldL_o H (by repeat (first | exact Pick.here | apply Pick.there)) (by rfl) ?_ | refine ldB_o H (by repeat (first | exact Pick.here | apply Pick.there)) (by rfl) ?_ | refine ldP_o H (by repeat (first | exact Pick.here | apply Pick.there)) (by rfl) ?_ | refine ldS_o H (by repeat (first | exact Pick.here | apply Pick.there)) (by rfl) ?_)
    exact ⟨rfl, keep_done H (by repeat (first | exact Pick.here | apply Pick.there))⟩
  have hon : S.1.on = true := by simpa using hon
  have hman := hS.ok1.man
  refine alc_o H fun b65 wx H => ?_
  refine st1_o H (by repeat (first | exact Rep.here | apply Rep.there)) (by simp) fun wx H => ?_
  simp only [List.set_cons_zero, List.set_cons_succ] at H
  repeat (first | refine ldI_o H (by repeat (first | exact Pick.here | apply Pick.there)) (by rfl) ?_ | refine ldL_o H (by repeat (first | exact Pick.here | apply Pick.there)) (by rfl) ?_ | refine ldB_o H (by repeat (first | exact Pick.here | apply Pick.there)) (by rfl) ?_ | refine ldP_o H (by repeat (first | exact Pick.here | apply Pick.there)) (by rfl) ?_ | refine ldS_o H (by repeat (first | exact Pick.here | apply Pick.there)) (by rfl) ?_)
  refine call_o H (waiting_t p.l0 p.m) (by repeat (first | exact Cut.nil | (apply Cut.cons; (repeat (first | exact Pick.here | apply Pick.there))))) fun vx L' wx hq H => ?_
  obtain ⟨g3, g5, rfl, rfl⟩ := hq
  unfold waitE at H
  simp only [List.cons_append, List.nil_append] at H
  refine ⟨_, rfl, ?_⟩
  unfold waitV
  let wl := waitL S.1 S.2.2
  have hll : wl.length ≤ 512 := waitL_len S.1 S.2.2 hS.ok1
  have hf := hS.fit.f
  let cnt : Nat → Nat := fun k => ((wl.take k).filter (inK S.1)).length
  have hcnt : ∀ k, cnt k ≤ 512 := fun k => by
    have h1 := List.length_filter_le (inK S.1) (wl.take k)
    have h2 : (wl.take k).length ≤ wl.length := by rw [List.length_take]; omega
    show ((wl.take k).filter (inK S.1)).length ≤ 512
    omega
  let rows : Nat → List It := fun k => [row b65 [.int .i64 (cnt k : Nat)] T.t3, row b52 [.int .i64 C.id, .int .i64 C.pri, .int .i64 C.grp, .bool C.is] T.t43, row b42 [ptrV p.l0] T.t29, row b26 [ptrV p.m, ptrV p.r, ptrV p.l0, ptrV p.l1, ptrV p.d0, ptrV p.d1, .bool true] T.t51, row b9 [.bool false] T.t4, lpI p.l0 S.1, memI p.m S.2.2, keep W]
  have H : X.Own W (fun k => k < W.heap.size) (rows 0 ++ waitE g3 g5 p.l0 p.m) wx := H.drop (by dsimp only [rows]; unfold waitE; simp only [List.cons_append, List.nil_append]; exact (by repeat (first | exact Cut.nil | (apply Cut.cons; (repeat (first | exact Pick.here | apply Pick.there))))))
  refine rf_c (fun k Li => Li = rows k) (fun _ _ => False) wait_enters (waiting_it0 g3 g5 p.l0 p.m S.1 S.2.2 hS.ok1 hf) (fun k L e => by subst e; exact ⟨_, .cons (.there (.there (.there (.there (.there .here))))) (.cons (.there (.there (.there (.there (.there .here))))) .nil)⟩) (idsL_len _) H rfl ?_ ?_ ?_
  · rintro k x _ F l2 r d wx Q2 hx rfl H hgo hdone
    obtain ⟨u, hu, rfl⟩ := idsL_at hx
    have hu : wl[k]? = some u := hu
    have humem : u ∈ wl := List.mem_of_getElem? hu
    have huw : u ∈ S.1.wt := (wait_on hS.ok1 hon u).1 humem
    have hlt := hS.ok1.wlt u huw
    have hnext : cnt (k + 1) = cnt k + if inK S.1 u then 1 else 0 := filter_next hu
    have hck := hcnt k
    unfold crierlaw15_LpiBest_r2
    dsimp only [X.b1]
    dsimp only [rows] at H
    simp only [List.cons_append, List.nil_append] at H
    refine ⟨_, rfl, rec_o H .here fun wx H => join_o ?_⟩
    have fin : ∀ (n : Nat) wx, n = cnt (k + 1) → X.Own W (fun k => k < W.heap.size) (recI l2 r .busy none :: defI d :: row b65 [.int .i64 (n : Nat)] T.t3 :: row b52 [.int .i64 C.id, .int .i64 C.pri, .int .i64 C.grp, .bool C.is] T.t43 :: row b42 [ptrV p.l0] T.t29 :: row b26 [ptrV p.m, ptrV p.r, ptrV p.l0, ptrV p.l1, ptrV p.d0, ptrV p.d1, .bool true] T.t51 :: row b9 [.bool false] T.t4 :: lpI p.l0 S.1 :: memI p.m S.2.2 :: keep W :: (waitE g3 g5 p.l0 p.m ++ F)) wx →
        crierlaw15_LpiBest_j0 l2 r Q2 wx := by
      rintro _ wx rfl H
      unfold crierlaw15_LpiBest_j0
      exact rec_o H .here fun wx H => hgo (rows (k + 1)) wx rfl H
    repeat (first | refine ldI_o H (by repeat (first | exact Pick.here | apply Pick.there)) (by rfl) ?_ | refine ldL_o H (by repeat (first | exact Pick.here | apply Pick.there)) (by rfl) ?_ | refine ldB_o H (by repeat (first | exact Pick.here | apply Pick.there)) (by rfl) ?_ | refine ldP_o H (by repeat (first | exact Pick.here | apply Pick.there)) (by rfl) ?_ | refine ldS_o H (by repeat (first | exact Pick.here | apply Pick.there)) (by rfl) ?_)
    refine call_p H (setup_t p.l0 S.1 (8192 + u) (by unfold I64; omega)) (by repeat (first | exact Cut.nil | (apply Cut.cons; (repeat (first | exact Pick.here | apply Pick.there))))) fun wx H => ?_
    refine ⟨_, _, rfl, cnd_i (fun hin => ?_) fun hin => ?_⟩
    · have hin : inK S.1 u = false := by unfold inK; simpa using hin
      exact fin (cnt k) _ (by rw [hnext, hin]; rfl) H
    · have hin : inK S.1 u = true := by unfold inK; simpa using hin
      obtain ⟨g1, g2⟩ := sp2 u huw hin
      have g3' : ¬ ((setupR S.1 (8192 + (u : Int))).2 < C.pri ∨ (setupR S.1 (8192 + (u : Int))).2 = C.pri ∧ 8192 + (u : Int) < C.id) := by
        rw [← befB_iff, g2]; simp
      repeat (first | refine ldI_o H (by repeat (first | exact Pick.here | apply Pick.there)) (by rfl) ?_ | refine ldL_o H (by repeat (first | exact Pick.here | apply Pick.there)) (by rfl) ?_ | refine ldB_o H (by repeat (first | exact Pick.here | apply Pick.there)) (by rfl) ?_ | refine ldP_o H (by repeat (first | exact Pick.here | apply Pick.there)) (by rfl) ?_ | refine ldS_o H (by repeat (first | exact Pick.here | apply Pick.there)) (by rfl) ?_)
      refine st1_o H (by repeat (first | exact Rep.here | apply Rep.there)) (by simp) fun wx H => ?_
      simp only [List.set_cons_zero, List.set_cons_succ] at H
      rw [W_id (by omega) (by omega)] at H
      have fin2 := fun wx => fin (cnt k + 1) wx (by rw [hnext, hin]; rfl)
      push_cast at fin2
      refine join_o (ldB_o (b := b52) (i := 3) H (by repeat (first | exact Pick.here | apply Pick.there)) (by rfl) ?_)
      rw [g1]
      refine cnd_i (fun h => by cases h) fun _ => ?_
      refine ldI_o (b := b52) (i := 1) H (by repeat (first | exact Pick.here | apply Pick.there)) (by rfl) (cnd_i (fun hh => absurd (of_decide_eq_true hh) (by omega)) fun _ => ?_)
      have fin3 : crierlaw15_LpiBest_j1 b9 l2 r Q2 (fun s w => crierlaw15_LpiBest_j0 l2 r Q2 w) false wx := by
        unfold crierlaw15_LpiBest_j1
        refine cnd_i (fun h => by cases h) fun _ => fin2 _ ?_
        rw [g1] at H ⊢
        exact H
      refine ldI_o (b := b52) (i := 1) H (by repeat (first | exact Pick.here | apply Pick.there)) (by rfl) (cnd_i (fun hh => ?_) fun _ => fin3)
      have hh : (setupR S.1 (8192 + (u : Int))).2 = C.pri := by simpa using hh
      refine ldI_o (b := b52) (i := 0) H (by repeat (first | exact Pick.here | apply Pick.there)) (by rfl) ?_
      rw [show decide (8192 + (u : Int) < C.id) = false from decide_eq_false (by omega)]
      exact fin3
  · rintro d _ wx rfl H
    dsimp only [jmpX]
    dsimp only [rows] at H
    rw [idsL_length] at H
    have ecnt : cnt (waitL S.1 S.2.2).length = (wl.filter (inK S.1)).length := by
      show ((wl.take wl.length).filter _).length = _
      rw [List.take_length]
    obtain ⟨n, hn⟩ : ∃ n, n = (wl.filter (inK S.1)).length := ⟨_, rfl⟩
    have H : X.Own W (fun k => k < W.heap.size) (defI d :: row b65 [.int .i64 (n : Nat)] T.t3 :: row b52 [.int .i64 C.id, .int .i64 C.pri, .int .i64 C.grp, .bool C.is] T.t43 :: row b42 [ptrV p.l0] T.t29 :: row b26 [ptrV p.m, ptrV p.r, ptrV p.l0, ptrV p.l1, ptrV p.d0, ptrV p.d1, .bool true] T.t51 :: row b9 [.bool false] T.t4 :: lpI p.l0 S.1 :: memI p.m S.2.2 :: keep W :: waitE g3 g5 p.l0 p.m) wx := by
      rw [hn, ← ecnt]; exact H
    have hcis : C.is = decide (((wl.filter (inK S.1)).length : Int) > 0) := by
      rw [Bool.eq_iff_iff, decide_eq_true_eq]
      constructor
      · intro h
        obtain ⟨k, hk, h1, _⟩ := sp1 h
        have : k ∈ wl.filter (inK S.1) := List.mem_filter.2 ⟨(wait_on hS.ok1 hon k).2 hk, h1⟩
        have := List.length_pos_of_mem this
        omega
      · intro h
        obtain ⟨k, hk⟩ := List.exists_mem_of_length_pos (l := wl.filter (inK S.1)) (by omega)
        obtain ⟨h1, h2⟩ := List.mem_filter.1 hk
        exact (sp2 k ((wait_on hS.ok1 hon k).1 h1) h2).1
    have hidr : I64 C.id := by
      cases hci : C.is
      · rw [sp3 hci]; unfold I64; omega
      · obtain ⟨k, hk, _, h2, _⟩ := sp1 hci
        have := hS.ok1.wlt k hk
        unfold I64; omega
    repeat (first | refine ldI_o H (by repeat (first | exact Pick.here | apply Pick.there)) (by rfl) ?_ | refine ldL_o H (by repeat (first | exact Pick.here | apply Pick.there)) (by rfl) ?_ | refine ldB_o H (by repeat (first | exact Pick.here | apply Pick.there)) (by rfl) ?_ | refine ldP_o H (by repeat (first | exact Pick.here | apply Pick.there)) (by rfl) ?_ | refine ldS_o H (by repeat (first | exact Pick.here | apply Pick.there)) (by rfl) ?_)
    refine call_p H (setup_t p.l0 S.1 C.id hidr) (by repeat (first | exact Cut.nil | (apply Cut.cons; (repeat (first | exact Pick.here | apply Pick.there))))) fun wx H => ?_
    refine ⟨_, _, rfl, join_o ?_⟩
    have done : ∀ wx, X.Own W (fun k => k < W.heap.size) (defI d :: row b65 [.int .i64 (n : Nat)] T.t3 :: row b52 [.int .i64 C.id, .int .i64 C.pri, .int .i64 C.grp, .bool C.is] T.t43 :: row b42 [ptrV p.l0] T.t29 :: row b26 [ptrV p.m, ptrV p.r, ptrV p.l0, ptrV p.l1, ptrV p.d0, ptrV p.d1, .bool true] T.t51 :: row b9 [.bool true] T.t4 :: lpI p.l0 S.1 :: memI p.m S.2.2 :: keep W :: waitE g3 g5 p.l0 p.m) wx →
        crierlaw15_LpiBest_j3 (fun r w' => r = .bool true ∧ Below W.heap.size W w') b9 [{ target := .collected d, args := #[] }] wx := by
      intro wx H
      unfold crierlaw15_LpiBest_j3
      refine take_o H .here fun wx H => ?_
      repeat (first | refine ldI_o H (by repeat (first | exact Pick.here | apply Pick.there)) (by rfl) ?_ | refine ldL_o H (by repeat (first | exact Pick.here | apply Pick.there)) (by rfl) ?_ | refine ldB_o H (by repeat (first | exact Pick.here | apply Pick.there)) (by rfl) ?_ | refine ldP_o H (by repeat (first | exact Pick.here | apply Pick.there)) (by rfl) ?_ | refine ldS_o H (by repeat (first | exact Pick.here | apply Pick.there)) (by rfl) ?_)
      exact ⟨rfl, keep_done H (by repeat (first | exact Pick.here | apply Pick.there))⟩
    refine ldB_o (b := b52) (i := 3) H (by repeat (first | exact Pick.here | apply Pick.there)) (by rfl) (ldI_o (b := b65) H (by repeat (first | exact Pick.here | apply Pick.there)) (by rfl) ?_)
    rw [← hn] at hcis
    refine cnd_i (fun _ => ldB_o (b := b52) (i := 3) H (by repeat (first | exact Pick.here | apply Pick.there)) (by rfl) (cnd_i (fun his => ?_) fun his => ?_)) fun hh => by rw [hcis] at hh; simp at hh
    · skip
      refine st1_o H (by repeat (first | exact Rep.here | apply Rep.there)) (by simp) fun wx H => ?_
      simp only [List.set_cons_zero, List.set_cons_succ] at H
      exact done _ H
    · have his : C.is = true := by simpa using his
      obtain ⟨k, hk, h1, h2, h3, h4⟩ := sp1 his
      have hkl := hS.ok1.wlt k hk
      have hin : (setupR S.1 C.id).1 = true := by rw [h2]; exact h1
      have hpri : (setupR S.1 C.id).2 = C.pri := by rw [h3, ← h2]
      rw [hin, hpri]
      refine cnd_i (fun _ => ldI_o (b := b52) (i := 1) H (by repeat (first | exact Pick.here | apply Pick.there)) (by rfl) (cnd_i (fun _ => ldI_o (b := b52) (i := 2) H (by repeat (first | exact Pick.here | apply Pick.there)) (by rfl) (cnd_i (fun _ => ?_) fun hh => by rw [h4] at hh; simp at hh)) fun hh => by simp at hh)) (fun h => by cases h)
      repeat (first | refine ldI_o H (by repeat (first | exact Pick.here | apply Pick.there)) (by rfl) ?_ | refine ldL_o H (by repeat (first | exact Pick.here | apply Pick.there)) (by rfl) ?_ | refine ldB_o H (by repeat (first | exact Pick.here | apply Pick.there)) (by rfl) ?_ | refine ldP_o H (by repeat (first | exact Pick.here | apply Pick.there)) (by rfl) ?_ | refine ldS_o H (by repeat (first | exact Pick.here | apply Pick.there)) (by rfl) ?_)
      refine call_p H (hasP_t p.l0 p.m S.1 S.2.2 hf C.id hidr) (by repeat (first | exact Cut.nil | (apply Cut.cons; (repeat (first | exact Pick.here | apply Pick.there))))) fun wx H => ?_
      have hhas : hasM S.1 S.2.2 C.id = true := by
        have hw := (wait_on (bs := S.2.2) hS.ok1 hon k).2 hk
        have := (List.mem_filter.1 hw).2
        rw [h2]; exact this
      rw [hhas]
      refine ⟨_, rfl, ?_⟩
      refine st1_o H (by repeat (first | exact Rep.here | apply Rep.there)) (by simp) fun wx H => ?_
      simp only [List.set_cons_zero, List.set_cons_succ] at H
      exact done _ H
  · rintro d c _ wx hD H
    exact hD.elim
end Go.Proofs.YtgjddhpblpfneaaDoor
