/-
  cmd: unlike commands that are right have unlike words and unlike texts.
-/
import Derived.Test.YtggmapokmlbgbaaDoorL1
import Derived.Test.YtggmapokmlbgbaaDoorG1
namespace Go.Proofs.YtggmapokmlbgbaaDoor
open Go Go.RowKit X
set_option maxRecDepth 100000
set_option linter.unusedVariables false
set_option linter.unusedSimpArgs false
theorem cm_ext {c d : Cm} (ho : c.op = d.op) (hg : ∀ k, k < 8 → c.get k = d.get k) (h1 : c.addr % 256 = 0) (h2 : d.addr % 256 = 0) : c = d := by
  obtain ⟨c0, c1, c2, c3, c4, c5, c6, c7, c8⟩ := c
  obtain ⟨d0, d1, d2, d3, d4, d5, d6, d7, d8⟩ := d
  have g0 := hg 0 (by omega)
  have g1 := hg 1 (by omega)
  have g2 := hg 2 (by omega)
  have g3 := hg 3 (by omega)
  have g4 := hg 4 (by omega)
  have g5 := hg 5 (by omega)
  have g6 := hg 6 (by omega)
  have g7 := hg 7 (by omega)
  simp only [Cm.get] at g0 g1 g2 g3 g4 g5 g6 g7 h1 h2 ho
  have h7 : c7 = d7 := by omega
  have h8 : c8 = d8 := by cases c8 <;> cases d8 <;> simp_all
  subst g0 g1 g2 g3 g4 g5 h7 h8 ho
  rfl
theorem known_cases {op : Int} (h : knownB op = true) : op = 1 ∨ op = 3 ∨ op = 4 ∨ op = 5 ∨ op = 8 ∨ op = 9 ∨ op = 10 ∨ op = 11 ∨ op = 12 ∨ op = 13 ∨ op = 14 ∨ op = 15 := by
  have := of_decide_eq_true h
  omega
theorem name_inj {a b : Int} (ha : knownB a = true) (hb : knownB b = true) (h : (nameB a).data.toList = (nameB b).data.toList) : a = b := by
  have e : ∀ x ∈ ([1, 3, 4, 5, 8, 9, 10, 11, 12, 13, 14, 15] : List Int), ∀ y ∈ ([1, 3, 4, 5, 8, 9, 10, 11, 12, 13, 14, 15] : List Int), (nameB x).data.toList = (nameB y).data.toList → x = y := by decide +kernel
  exact e a (by have := known_cases ha; simp; exact this) b (by have := known_cases hb; simp; exact this) h
theorem name_nospace (op : Int) : (32 : UInt8) ∉ (nameB op).data.toList := by
  have st : ∀ {p : Prop} [Decidable p] {x y : ByteArray}, (32 : UInt8) ∉ x.data.toList → (32 : UInt8) ∉ y.data.toList → (32 : UInt8) ∉ (if p then x else y).data.toList := by
    intro p _ x y h1 h2
    by_cases h : p
    · rw [if_pos h]; exact h1
    · rw [if_neg h]; exact h2
  exact st (by decide) (st (by decide) (st (by decide) (st (by decide) (st (by decide) (st (by decide) (st (by decide) (st (by decide) (st (by decide) (st (by decide) (st (by decide) (by decide)))))))))))
theorem words_nospace (c : Cm) (k : Nat) : ∀ x ∈ (wordsK c k).map (·.data.toList), (32 : UInt8) ∉ x := by
  intro x hx
  obtain ⟨y, hy, rfl⟩ := List.mem_map.1 hx
  unfold wordsK at hy
  rcases List.mem_cons.1 hy with rfl | hy
  · exact name_nospace _
  · obtain ⟨j, _, rfl⟩ := List.mem_map.1 hy
    exact itoa_nospace _
theorem print_inj {c d : Cm} {wc wd : List Int} (hc : encM c = some wc) (hd : encM d = some wd) (h : printL c = printL d) : c = d := by
  obtain ⟨kc, fc, ac, -, -⟩ := encM_some hc
  obtain ⟨kd, fd, ad, -, -⟩ := encM_some hd
  have hw := join_inj (words_nospace c 8) (words_nospace d 8) (by unfold wordsK; simp) (by unfold wordsK; simp) h
  unfold wordsK at hw
  simp only [List.map_cons, List.map_map, List.cons.injEq] at hw
  obtain ⟨h1, h2⟩ := hw
  have ho := name_inj kc kd h1
  rw [ho] at h2
  refine cm_ext ho (fun k hk => ?_) ac ad
  cases hp : ph d.op k
  · rw [(fc k hk).2.2 (by rw [ho]; exact hp), (fd k hk).2.2 hp]
  · have := List.map_inj_left.1 h2 k (List.mem_filter.2 ⟨List.mem_range.2 hk, hp⟩)
    exact itoa_inj (get_range fc hk) (get_range fd hk) (by simpa using this)
theorem enc_inj {c d : Cm} {ws : List Int} (hc : encM c = some ws) (hd : encM d = some ws) : c = d := by
  have h1 := dec_enc hc
  rw [dec_enc hd] at h1
  exact (Option.some.inj h1).symm
end Go.Proofs.YtggmapokmlbgbaaDoor
