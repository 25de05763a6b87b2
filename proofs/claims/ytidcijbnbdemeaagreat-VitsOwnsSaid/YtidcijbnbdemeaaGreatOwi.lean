/-
  The walks and the laws beneath the statement: part 9.
-/
import Derived.Test.YtidcijbnbdemeaaGreatOwh
set_option maxRecDepth 100000
set_option linter.unusedVariables false
set_option linter.unusedSimpArgs false
set_option maxHeartbeats 4000000
namespace Go.Proofs.YtidcijbnbdemeaaGreat
open Go Go.RowKit X
theorem vitsOwns_cv {W : World} {a b : Int} (ha : 0 ≤ a ∧ a ≤ 255) (hb : 0 ≤ b ∧ b ≤ 255) {p : Option Addr} {c : Nat} {owned : List Int} (ho : Sl W p (i64s owned)) (hl : owned.length * 8 ≤ 140737488355328)
    {q2 : Option Addr} {c2 : Nat} {ys : List Ac} (hq2 : Slots W q2 13 (ys.map Ac.cells)) (hy : ∀ y ∈ ys, y.Fit) (hl2 : ys.length ≤ 9223372036854775807) (cc : Cm) (dev ev : Int) :
    CV P F.zzch [.int .u8 a, .int .u8 b, .slice p owned.length c, .slice q2 ys.length c2, cmV cc, .agg [.int .i64 dev, .int .i64 ev].toArray] W fun r w' => r = .bool true ∧ Below W.heap.size W w' := by
  refine zzjh ?_
  unfold zzch
  have H := keep_start W
  refine alc_o H fun b20 wx H => alc_o H fun b22 wx H => ?_
  refine call_oa H (awake_t) fun vx L' wx hq H => ?_
  obtain ⟨rfl, rfl⟩ := hq
  simp only [List.cons_append, List.nil_append] at H
  refine ⟨_, rfl, cnd_i (fun h => by cases h) fun _ => ?_⟩
  refine call_oa H (played_t (p := p) (c := c) (q2 := q2) (c2 := c2) ha hb ho hl hq2 hy hl2) fun vx L' wx hq H => ?_
  obtain ⟨bs, bm, bd, bn, q, cq, t, hok, rfl, rfl⟩ := hq
  simp only [sdL, List.cons_append, List.nil_append] at H
  refine ⟨_, _, _, _, _, _, _, _, _, _, _, _, _, _, _, _, _, _, _, rfl, alc_o H fun b48 wx H => ?_⟩
  iterate 14 refine sta H fun wx H => ?_
  simp only [List.set_cons_zero, List.set_cons_succ] at H
  refine join_o (cnd_i (fun h => by cases h) fun _ => ?_)
  unfold zzgo
  refine cnd_i (fun h => by cases h) fun _ => ?_
  have hlo : owned.length < 9223372036854775807 := by omega
  repeat (first | refine lIa H ?_ | refine lLa H ?_ | refine lBa H ?_ | refine lPa H ?_ | refine lSa H ?_)
  refine call_pa H (Route_t bs t.s dev ev) fun wx H => ?_
  refine ⟨_, _, _, _, _, rfl, alc_o H fun b77 wx H => ?_⟩
  iterate 3 refine sta H fun wx H => ?_
  simp only [List.set_cons_zero, List.set_cons_succ] at H
  repeat (first | refine lIa H ?_ | refine lLa H ?_ | refine lBa H ?_ | refine lPa H ?_ | refine lSa H ?_)
  refine call_oa H (VDo_t bs t.s cc (ruA a b) (nums q cq owned) nums_sl hlo hok.vg.fits (by omega)) fun vx L' wx hq H => ?_
  obtain ⟨pp, q1, k1, rfl, rfl⟩ := hq
  simp only [List.cons_append, List.nil_append] at H
  have hown := vdo_owns (s := t.s) (c := cc) (r := ruA a b) (owned := owned) (p := pp)
  have herr := vdo_err (s := t.s) (c := cc) (r := ruA a b) (owned := owned) (p := pp)
  have hg : VGood (vdoM t.s cc (ruA a b) owned pp).2.1 := hok.vg.vdo
  generalize vdoM t.s cc (ruA a b) owned pp = M at *
  refine ⟨_, _, _, _, rfl, cnd_i (fun h0 => ?_) fun h0 => ?_⟩
  · have h0 : M.2.2 = 0 := by simpa using h0
    have hown := hown h0
    refine join_o ?_
    have fin : ∀ (x : Bool), (x = true → cc.dev ∈ owned) → zzd7 p owned.length c (fun r w' => r = .bool true ∧ Below W.heap.size W w') b20 x wx := by
      intro x hx
      unfold zzd7
      refine join_o (cnd_i (fun _ => ?_) fun h => ?_)
      · unfold zzd6
        exact ⟨rfl, keep_done H (by repeat (first | exact Pick.here | apply Pick.there))⟩
      · have h : x = true := by simpa using h
        refine ldI_o H (b := b20) (i := 1) (cs := cc.cells) (by repeat (first | exact Pick.here | apply Pick.there)) (by rfl) ?_
        refine call_oa H (refHas2_t (keep W) (p := p) (c := c) (keep_sl ho) hlo cc.dev) fun vx L' wx hq H => ?_
        obtain ⟨rfl, rfl⟩ := hq
        simp only [List.cons_append, List.nil_append] at H
        refine ⟨_, rfl, ?_⟩
        unfold zzd6
        rw [decide_eq_true (hx h)]
        exact ⟨rfl, keep_done H (by repeat (first | exact Pick.here | apply Pick.there))⟩
    refine ldI_o H (b := b20) (i := 0) (cs := cc.cells) (by repeat (first | exact Pick.here | apply Pick.there)) (by rfl) ?_
    refine cnd_i (fun h1 => ?_) fun h1 => fin _ (fun h => by cases h)
    refine ldI_o H (b := b20) (i := 0) (cs := cc.cells) (by repeat (first | exact Pick.here | apply Pick.there)) (by rfl) ?_
    refine cnd_i (fun h2 => ?_) fun h2 => fin _ (fun h => by cases h)
    refine ldI_o H (b := b20) (i := 0) (cs := cc.cells) (by repeat (first | exact Pick.here | apply Pick.there)) (by rfl) ?_
    refine cnd_i (fun h3 => ?_) fun h3 => fin _ (fun h => by cases h)
    refine ldI_o H (b := b20) (i := 0) (cs := cc.cells) (by repeat (first | exact Pick.here | apply Pick.there)) (by rfl) ?_
    refine fin _ fun h4 => hown ?_
    unfold namesB
    rw [decide_eq_true_eq]
    simp only [bne_iff_ne] at h1 h2 h3 h4
    exact ⟨h1, h2, h3, h4⟩
  · have h0 : M.2.2 ≠ 0 := by simpa using h0
    obtain ⟨e1, e2⟩ := herr h0
    rw [e1, e2] at H
    refine ldP_o H (b := b48) (i := 0) (by repeat (first | exact Pick.here | apply Pick.there)) (by rfl) (ldI_o H (b := b22) (i := 0) (by repeat (first | exact Pick.here | apply Pick.there)) (by rfl) (ldI_o H (b := b22) (i := 1) (by repeat (first | exact Pick.here | apply Pick.there)) (by rfl) ?_))
    refine call_pa H (Route_t bs t.s dev ev) fun wx H => ?_
    refine ⟨_, _, _, _, _, rfl, alc_o H fun b135 wx H => ?_⟩
    iterate 3 refine sta H fun wx H => ?_
    simp only [List.set_cons_zero, List.set_cons_succ] at H
    rw [e1]
    refine join_o (cnd_i (fun _ => ?_) (by simp))
    repeat (first | refine lIa H ?_ | refine lLa H ?_ | refine lBa H ?_ | refine lPa H ?_ | refine lSa H ?_)
    refine rt_eq (c := (routeM t.s dev ev).1) (d := (routeM t.s dev ev).1) ?_
    unfold zzgn
    refine cnd_i (fun _ => cnd_i (fun _ => ⟨by simp, keep_done H (by repeat (first | exact Pick.here | apply Pick.there))⟩) (by simp)) (by simp)
end Go.Proofs.YtidcijbnbdemeaaGreat
