/-
  cmd: the document's fields of a command.
-/
import Derived.Test.YtggmapokmlbgbaaDoorE4
import Derived.Test.YtggmapokmlbgbaaDoorT4
namespace Go.Proofs.YtggmapokmlbgbaaDoor
open Go Go.RowKit X
set_option maxRecDepth 100000
set_option linter.unusedVariables false
set_option linter.unusedSimpArgs false
set_option maxHeartbeats 1000000
theorem has_t (op : Int) (i : It) {q : Option Addr} {c : Nat} {xs : List Int} (hi : ∀ w S, i.h w S → Sl w q (i64s xs)) (hl : xs.length ≤ 9223372036854775807) :
    Tri P F.crierref16_has [.int .i64 op, .slice q xs.length c] [i] fun v L' => v = .bool (decide (op ∈ xs)) ∧ L' = [i] := by
  intro w S hS
  refine crierref16_has_cv ?_
  unfold crierref16_has
  have H := Own.start hS
  refine loop_o (fun (st : Int) L => ∃ k : Nat, k ≤ xs.length ∧ (∀ (j : Nat) x, j < k → xs[j]? = some x → x ≠ op) ∧ st = k ∧ L = [i]) (fun (st : Int) => ((xs.length : Int) - st).toNat) H ⟨0, by omega, fun _ _ h => absurd h (by omega), rfl, rfl⟩ ?_
  rintro _ _ wx ⟨k, hk, hg, rfl, rfl⟩ H
  unfold crierref16_has_l0
  refine cnd_i (fun hc => ?_) fun hc => ?_
  · have hc := of_decide_eq_true hc
    have hlt : k < xs.length := by omega
    refine ix_i hlt ?_
    obtain ⟨a, rfl, hcell⟩ := H.rd (i := i) .here hi k _ (i64s_get hlt)
    dsimp only [nn]
    refine ⟨xs[k], by rw [Nat.mul_one]; exact hcell, ?_⟩
    refine cnd_i (fun h => ?_) fun h => ?_
    · have h : xs[k] = op := by simpa using h
      have : op ∈ xs := by rw [← h]; exact List.getElem_mem _
      exact ⟨_, ⟨by rw [decide_eq_true this], rfl⟩, H⟩
    · have h : xs[k] ≠ op := by simpa using h
      have e1 : IntKind.i64.wrap ((k : Int) + 1) = ((k + 1 : Nat) : Int) := by rw [W_id (by omega) (by omega)]; push_cast; rfl
      rw [e1]
      refine ⟨⟨_, ⟨k + 1, by omega, ?_, rfl, rfl⟩, H⟩, by omega⟩
      intro j x hj hx
      by_cases e : j = k
      · subst e
        rw [List.getElem?_eq_getElem hlt] at hx
        cases hx; exact h
      · exact hg j x (by omega) hx
  · have hc := of_decide_eq_false hc
    have : k = xs.length := by omega
    subst this
    have : op ∉ xs := by
      intro hm
      obtain ⟨j, hj, e⟩ := List.mem_iff_getElem.1 hm
      exact hg j _ hj (List.getElem?_eq_getElem hj) e
    exact ⟨_, ⟨by rw [decide_eq_false this], rfl⟩, H⟩
theorem row_sl {b : Nat} {xs : List Int} {t : TypeId} : ∀ w S, (row b (i64s xs) t).h w S → Sl w (some ⟨b, 0, none⟩) (i64s xs) := by
  rintro w S ⟨hr, -⟩ j u hj
  refine ⟨_, rfl, ?_⟩
  rw [add_lit, Nat.zero_add, hr.cell]
  exact hj
theorem refKnown_t (op : Int) : Tri P F.crierref16_Known [.int .i64 op] [] fun v L' => v = .bool (knownB op) ∧ L' = [] := by
  intro w S hS
  refine crierref16_Known_cv ?_
  unfold crierref16_Known
  have H := Own.start hS
  refine alc_o H fun b2 wx H => ?_
  refine call_p H (has_t op (row b2 (i64s [1, 3, 4, 5, 8, 9, 10, 11, 12, 13, 14, 15]) _) (q := some ⟨b2, 0, none⟩) (c := 12) (xs := [1, 3, 4, 5, 8, 9, 10, 11, 12, 13, 14, 15]) row_sl (by simp)) (by repeat (first | exact Cut.nil | (apply Cut.cons; (repeat (first | exact Pick.here | apply Pick.there))))) fun wx H => ?_
  refine ⟨_, rfl, _, ⟨?_, rfl⟩, H.dp⟩
  congr 1
  unfold knownB
  rw [decide_eq_decide]
  simp only [List.mem_cons, List.not_mem_nil, or_false]
  omega
theorem one_t (b : Bool) : Tri P F.crierref16_one [.bool b] [] fun v L' => v = .int .i64 (if b then 1 else 0) ∧ L' = [] := by
  intro w S hS
  refine crierref16_one_cv ?_
  unfold crierref16_one
  have H := Own.start hS
  cases b
  · exact cnd_i (fun h => by cases h) fun _ => ⟨_, ⟨rfl, rfl⟩, H⟩
  · exact cnd_i (fun _ => ⟨_, ⟨rfl, rfl⟩, H⟩) (fun h => by cases h)
/-! ### the fields -/
abbrev Fd := Nat × Nat × Nat × Int
def fdC (f : Fd) : List Value := [.int .i64 ((f.1 : Nat) : Int), .int .i64 ((f.2.1 : Nat) : Int), .int .i64 ((f.2.2.1 : Nat) : Int), .int .i64 f.2.2.2]
def flatF (fs : List Fd) : List Value := (fs.map fdC).flatten
theorem flatF_append (a b : List Fd) : flatF (a ++ b) = flatF a ++ flatF b := by simp [flatF]
theorem flatF_one (cs : List Fd) : ∀ u ∈ flatF cs, u.oneCell' = true := by
  intro u hu
  obtain ⟨l, hl, hu⟩ := List.mem_flatten.1 hu
  obtain ⟨c, _, rfl⟩ := List.mem_map.1 hl
  simp only [fdC, List.mem_cons, List.not_mem_nil, or_false] at hu
  rcases hu with rfl | rfl | rfl | rfl <;> rfl
theorem flatF_length : ∀ cs : List Fd, (flatF cs).length = cs.length * 4
  | [] => rfl
  | c :: cs => by
    have := flatF_length cs
    unfold flatF at *
    rw [List.map_cons, List.flatten_cons, List.length_append, this, List.length_cons]
    show 4 + cs.length * 4 = _
    omega
theorem flatF_get : ∀ {cs : List Fd} {k j : Nat} {c : Fd} {v : Value}, cs[k]? = some c → (fdC c)[j]? = some v → (flatF cs)[k * 4 + j]? = some v
  | c0 :: cs, 0, j, c, v, h, hv => by
    cases h
    have hj : j < 4 := (List.getElem?_eq_some_iff.1 hv).1
    unfold flatF
    rw [List.map_cons, List.flatten_cons, Nat.zero_mul, Nat.zero_add, List.getElem?_append_left hj]
    exact hv
  | c0 :: cs, k + 1, j, c, v, h, hv => by
    have := flatF_get (cs := cs) (k := k) (j := j) h hv
    unfold flatF at *
    rw [List.map_cons, List.flatten_cons, List.getElem?_append_right (by show 4 ≤ _; omega)]
    show (List.map fdC cs).flatten[(k + 1) * 4 + j - 4]? = _
    rw [show (k + 1) * 4 + j - 4 = k * 4 + j by omega]
    exact this
theorem ownF_slots {p : Option Addr} {n c : Nat} {cs : List Fd} : ∀ w S, (own tFd 4 (.slice p n c) n (flatF cs)).h w S → Slots w p 4 (cs.map fdC) := by
  rintro w S ⟨hown, -⟩ i l hi
  rw [List.getElem?_map] at hi
  cases hc : cs[i]? with
  | none => rw [hc] at hi; cases hi
  | some x =>
    rw [hc] at hi
    cases hi
    rcases hown.2 with ⟨e1, e2⟩ | ⟨g, cap, cur, e1, _⟩
    · have hl := hown.1
      rw [flatF_length] at hl
      have := (List.getElem?_eq_some_iff.1 hc).1
      cases e1
      omega
    · cases e1
      refine ⟨⟨g, 0, none⟩, rfl, fun j v hv => ?_⟩
      have := hown.cells (g := g) rfl _ _ (flatF_get hc hv)
      rw [add_lit] at this ⊢
      rw [add_lit]
      simpa using this
def fdOf (c : Cm) (k : Nat) : Fd := (pw c.op k, pf c.op k, ps c.op k, c.get k)
/-- the fields ahead of the k-th -/
def fsK (c : Cm) (k : Nat) : List Fd := ((List.range k).filter (ph c.op)).map (fdOf c)
theorem fsK_next (c : Cm) (k : Nat) : fsK c (k + 1) = if ph c.op k then fsK c k ++ [fdOf c k] else fsK c k := by
  unfold fsK
  rw [List.range_succ, List.filter_append]
  cases h : ph c.op k <;> simp [h]
theorem fsK_len (c : Cm) (k : Nat) : (fsK c k).length ≤ k := by
  unfold fsK
  rw [List.length_map]
  have := List.length_filter_le (ph c.op) (List.range k)
  rw [List.length_range] at this
  exact this
/-- what is left over, when the fields ahead of the k-th are taken out -/
def rst (c : Cm) : Nat → Cm
  | 0 => { c with op := 0 }
  | k + 1 => if ph c.op k then (rst c k).put 0 k else rst c k
def badA (c : Cm) : Bool := decide (c.op = 8) && (decide (c.addr < 0) || (Int.tmod c.addr 256 != 0))
def fieldsB (c : Cm) : Bool := !badA c && decide (rst c 8 = cm0)
/-- what there is behind the fields ahead of the k-th -/
def fL (b10 b21 : Nat) (c : Cm) (p : Option Addr) (cap k : Nat) : List It := [own tFd 4 (.slice p (fsK c k).length cap) (fsK c k).length (flatF (fsK c k)), row b21 (rst c k).cells tCmd, row b10 c.cells tCmd]
/-- a field is put behind the others -/
theorem add_f {w w0 : World} {S0 : Nat → Prop} {L F F2 : List It} {c : Cm} {p : Option Addr} {cap k b : Nat} {K : Option Addr → Nat → Nat → World → Prop} (H : X.Own w0 S0 L w) (hp : Pick L (own tFd 4 (.slice p (fsK c k).length cap) (fsK c k).length (flatF (fsK c k))) F)
    {t : TypeId} (hq : Pick L (row b (fdC (fdOf c k)) t) F2) (hk : k < 8) (hh : ph c.op k = true)
    (kk : ∀ p' c' w', X.Own w0 S0 (own tFd 4 (.slice p' (fsK c (k + 1)).length c') (fsK c (k + 1)).length (flatF (fsK c (k + 1))) :: F) w' → K p' (fsK c (k + 1)).length c' w') :
    runS P (Builtin.append_ #[tFds, tFds] tFds [.slice p (fsK c k).length cap, .slice (some ⟨b, 0, none⟩) 1 1].toArray) w K := by
  have hrow := H.row hq
  have hl := fsK_len c k
  have e : fsK c (k + 1) = fsK c k ++ [fdOf c k] := by rw [fsK_next, if_pos hh]
  refine app_o appFds (by omega) H hp (q := some ⟨b, 0, none⟩) (m := 1) (news := fdC (fdOf c k)) (fun j u hj => ⟨_, rfl, ?_⟩) rfl (fun u hu => flatF_one [fdOf c k] u (by unfold flatF; simpa using hu)) (by unfold maxLen; omega) (by omega) fun p' c' wx H => ?_
  · rw [add_lit, Nat.zero_add, hrow.cell]; exact hj
  have h2 : (fsK c (k + 1)).length = (fsK c k).length + 1 := by rw [e]; simp
  have h3 : flatF (fsK c (k + 1)) = flatF (fsK c k) ++ fdC (fdOf c k) := by rw [e, flatF_append]; simp [flatF]
  have := kk p' c' wx (by rw [h2, h3]; exact H)
  rw [h2] at this
  exact this
theorem rst_next {c : Cm} {k : Nat} (hh : ph c.op k = true) : rst c (k + 1) = (rst c k).put 0 k := by rw [rst, if_pos hh]
theorem rst_same {c : Cm} {k : Nat} (hh : ph c.op k = false) : rst c (k + 1) = rst c k := by rw [rst, hh]; rfl
theorem fs_same {c : Cm} {k : Nat} (hh : ph c.op k = false) : fsK c (k + 1) = fsK c k := by rw [fsK_next, hh]; rfl
theorem fL_same {b10 b21 : Nat} {c : Cm} {p : Option Addr} {cap k : Nat} (hh : ph c.op k = false) : fL b10 b21 c p cap (k + 1) = fL b10 b21 c p cap k := by
  unfold fL
  rw [fs_same hh, rst_same hh]
theorem fL_next {b10 b21 : Nat} {c : Cm} {p : Option Addr} {cap k : Nat} (hh : ph c.op k = true) : fL b10 b21 c p cap (k + 1) = [own tFd 4 (.slice p (fsK c (k + 1)).length cap) (fsK c (k + 1)).length (flatF (fsK c (k + 1))), row b21 ((rst c k).put 0 k).cells tCmd, row b10 c.cells tCmd] := by
  unfold fL
  rw [rst_next hh]
section
variable {Q : Value → World → Prop} {b10 b21 : Nat} {c : Cm} {w0 : World} {S0 : Nat → Prop}
variable (hI : c.addr ≤ 9223372036854775807)
theorem f_j2 (hQ : ∀ (p : Option Addr) cap wx, X.Own w0 S0 (fL b10 b21 c p cap 8) wx → crierref16_Fields_j0 Q b21 p (fsK c 8).length cap wx) (p : Option Addr) (cap : Nat) (wx : World) (H : X.Own w0 S0 (fL b10 b21 c p cap 7) wx) :
    crierref16_Fields_j2 Q b10 b21 p (fsK c 7).length cap wx := by
  unfold crierref16_Fields_j2
  have key : ∀ b : Bool, b = ph c.op 7 → crierref16_Fields_j1 b10 b21 p (fsK c 7).length cap (fun (s120 : Option Addr × Nat × Nat) w121 => crierref16_Fields_j0 Q b21 s120.1 s120.2.1 s120.2.2 w121) b wx := by
    intro b hb
    unfold crierref16_Fields_j1
    refine cnd_i (fun h => ?_) fun h => ?_
    · have hh : ph c.op 7 = true := by rw [← hb, h]
      unfold fL at H
      repeat (first | refine ldI_a H ?_ | refine ldL_a H ?_ | refine ldB_a H ?_ | refine ldP_a H ?_ | refine ldS_a H ?_)
      refine call_pa H (one_t c.val) fun wx H => ?_
      refine ⟨_, rfl, alc_o H fun b108 wx H => ?_⟩
      rw [show [Value.int .i64 2, .int .i64 63, .int .i64 1, .int .i64 (if c.val = true then 1 else 0)] = fdC (fdOf c 7) from rfl] at H
      refine add_f H (by repeat (first | exact Pick.here | apply Pick.there)) (b := b108) (by repeat (first | exact Pick.here | apply Pick.there)) (by omega) hh fun p' c' wx H => ?_
      refine st1_o H (by repeat (first | exact Rep.here | apply Rep.there)) (by show _ < 9; omega) fun wx H => ?_
      refine hQ p' c' wx ?_
      rw [fL_next hh]
      exact H.dp
    · have hh : ph c.op 7 = false := by rw [← hb, h]
      refine (?_ : crierref16_Fields_j0 Q b21 p (fsK c 7).length cap wx)
      rw [← fs_same hh]
      exact hQ p cap wx (by rw [fL_same hh]; exact H)
  refine join_o (join_o ?_)
  have H' := H
  unfold fL at H
  repeat (first | refine ldI_a H ?_ | refine ldL_a H ?_ | refine ldB_a H ?_ | refine ldP_a H ?_ | refine ldS_a H ?_)
  refine cnd_i (fun h => ?_) fun h => ?_
  · exact key true (by have h : c.op = 8 := by simpa using h
                       simp [ph, h])
  · repeat (first | refine ldI_a H ?_ | refine ldL_a H ?_ | refine ldB_a H ?_ | refine ldP_a H ?_ | refine ldS_a H ?_)
    refine key _ ?_
    have h : c.op ≠ 8 := by simpa using h
    exact Bool.eq_iff_iff.2 (by simp [ph, h])
include hI in
theorem f_j4 (hQ : ∀ (p : Option Addr) cap wx, badA c = false → X.Own w0 S0 (fL b10 b21 c p cap 8) wx → crierref16_Fields_j0 Q b21 p (fsK c 8).length cap wx) (hB : ∀ wx L, badA c = true → X.Own w0 S0 L wx → Q (.tuple [.slice none 0 0, .bool false].toArray) wx)
    (p : Option Addr) (cap : Nat) (wx : World) (H : X.Own w0 S0 (fL b10 b21 c p cap 5) wx) : crierref16_Fields_j4 Q b10 b21 p (fsK c 5).length cap wx := by
  unfold crierref16_Fields_j4
  refine join_o ?_
  have H' := H
  unfold fL at H
  repeat (first | refine ldI_a H ?_ | refine ldL_a H ?_ | refine ldB_a H ?_ | refine ldP_a H ?_ | refine ldS_a H ?_)
  refine cnd_i (fun h => ?_) fun h => ?_
  · have h : c.op = 8 := by simpa using h
    have hh5 : ph c.op 5 = true := by simp [ph, h]
    have hh6 : ph c.op 6 = true := by simp [ph, h]
    repeat (first | refine ldI_a H ?_ | refine ldL_a H ?_ | refine ldB_a H ?_ | refine ldP_a H ?_ | refine ldS_a H ?_)
    refine alc_o H fun b125 wx H => ?_
    rw [show [Value.int .i64 1, .int .i64 0, .int .i64 5, .int .i64 c.bits] = fdC (fdOf c 5) from rfl] at H
    refine add_f H (by repeat (first | exact Pick.here | apply Pick.there)) (b := b125) (by repeat (first | exact Pick.here | apply Pick.there)) (by omega) hh5 fun p' c' wx H => ?_
    refine st1_o H (by repeat (first | exact Rep.here | apply Rep.there)) (by show _ < 9; omega) fun wx H => ?_
    have H : X.Own w0 S0 (fL b10 b21 c p' c' 6) wx := by
      rw [fL_next hh5]
      exact H.dp
    refine join_o ?_
    have H2 := H
    unfold fL at H
    repeat (first | refine ldI_a H ?_ | refine ldL_a H ?_ | refine ldB_a H ?_ | refine ldP_a H ?_ | refine ldS_a H ?_)
    have bad : badA c = true → crierref16_Fields_j3 Q b10 b21 (fun (s148 : Option Addr × Nat × Nat) w149 => crierref16_Fields_j2 Q b10 b21 s148.1 s148.2.1 s148.2.2 w149) p' (fsK c 6).length c' true wx := by
      intro hb
      unfold crierref16_Fields_j3
      exact cnd_i (fun _ => hB _ _ hb H) (fun h => by cases h)
    refine cnd_i (fun h2 => bad (by unfold badA; rw [h2]; simp [h])) fun h2 => ?_
    repeat (first | refine ldI_a H ?_ | refine ldL_a H ?_ | refine ldB_a H ?_ | refine ldP_a H ?_ | refine ldS_a H ?_)
    refine ⟨by omega, ?_⟩
    cases h3 : (Int.tmod c.addr 256 != 0)
    · have h2 := of_decide_eq_false h2
      have h3 : Int.tmod c.addr 256 = 0 := by simpa using h3
      have hb : badA c = false := by unfold badA; rw [h3]; simp; omega
      unfold crierref16_Fields_j3
      refine cnd_i (fun h => by cases h) fun _ => ?_
      repeat (first | refine ldI_a H ?_ | refine ldL_a H ?_ | refine ldB_a H ?_ | refine ldP_a H ?_ | refine ldS_a H ?_)
      refine ⟨by omega, alc_o H fun b136 wx H => ?_⟩
      have ha : IntKind.i64.wrap (Int.tdiv c.addr 256) = c.addr / 256 := by
        rw [Int.tdiv_eq_ediv_of_nonneg (by omega)]
        exact W_id (by omega) (by have := hI; omega)
      rw [ha, show [Value.int .i64 2, .int .i64 8, .int .i64 40, .int .i64 (c.addr / 256)] = fdC (fdOf c 6) from rfl] at H
      refine add_f H (by repeat (first | exact Pick.here | apply Pick.there)) (b := b136) (by repeat (first | exact Pick.here | apply Pick.there)) (by omega) hh6 fun p'' c'' wx H => ?_
      refine st1_o H (by repeat (first | exact Rep.here | apply Rep.there)) (by show _ < 9; omega) fun wx H => ?_
      refine f_j2 (fun p cap wx => hQ p cap wx hb) p'' c'' wx ?_
      rw [fL_next hh6]
      exact H.dp
    · exact bad (by unfold badA; rw [h3]; simp [h])
  · have h : c.op ≠ 8 := by simpa using h
    have hb : badA c = false := by unfold badA; simp [h]
    have hh5 : ph c.op 5 = false := by simp [ph, h]
    have hh6 : ph c.op 6 = false := by simp [ph, h]
    refine (?_ : crierref16_Fields_j2 Q b10 b21 p (fsK c 5).length cap wx)
    rw [← fs_same hh5, ← fs_same hh6]
    exact f_j2 (fun p cap wx => hQ p cap wx hb) p cap wx (by rw [fL_same hh6, fL_same hh5]; exact H')
theorem f_j5 (hn : ∀ (p : Option Addr) cap wx, X.Own w0 S0 (fL b10 b21 c p cap 5) wx → crierref16_Fields_j4 Q b10 b21 p (fsK c 5).length cap wx) (p : Option Addr) (cap : Nat) (wx : World) (H : X.Own w0 S0 (fL b10 b21 c p cap 4) wx) :
    crierref16_Fields_j5 Q b10 b21 p (fsK c 4).length cap wx := by
  unfold crierref16_Fields_j5
  refine join_o ?_
  unfold fL at H
  repeat (first | refine ldI_a H ?_ | refine ldL_a H ?_ | refine ldB_a H ?_ | refine ldP_a H ?_ | refine ldS_a H ?_)
  refine alc_o H fun b152 wx H => ?_
  refine call_p H (has_t c.op (row b152 (i64s [9, 14, 5]) _) (q := some ⟨b152, 0, none⟩) (c := 3) (xs := [9, 14, 5]) row_sl (by simp)) (by repeat (first | exact Cut.nil | (apply Cut.cons; (repeat (first | exact Pick.here | apply Pick.there))))) fun wx H => ?_
  refine ⟨_, rfl, cnd_i (fun h => ?_) fun h => ?_⟩
  · have hh : ph c.op 4 = true := by
      have h := of_decide_eq_true h
      simp only [List.mem_cons, List.not_mem_nil, or_false] at h
      simp only [ph, decide_eq_true_eq]
      omega
    repeat (first | refine ldI_a H ?_ | refine ldL_a H ?_ | refine ldB_a H ?_ | refine ldP_a H ?_ | refine ldS_a H ?_)
    refine alc_o H fun b158 wx H => ?_
    rw [show [Value.int .i64 2, .int .i64 16, .int .i64 16, .int .i64 c.tgt] = fdC (fdOf c 4) from rfl] at H
    refine add_f H (by repeat (first | exact Pick.here | apply Pick.there)) (b := b158) (by repeat (first | exact Pick.here | apply Pick.there)) (by omega) hh fun p' c' wx H => ?_
    refine st1_o H (by repeat (first | exact Rep.here | apply Rep.there)) (by show _ < 9; omega) fun wx H => ?_
    refine hn p' c' wx ?_
    rw [fL_next hh]
    exact H.dp
  · have hh : ph c.op 4 = false := by
      have h := of_decide_eq_false h
      simp only [List.mem_cons, List.not_mem_nil, or_false] at h
      simp only [ph, decide_eq_false_iff_not]
      omega
    refine (?_ : crierref16_Fields_j4 Q b10 b21 p (fsK c 4).length cap wx)
    rw [← fs_same hh]
    refine hn p cap wx ?_
    rw [fL_same hh]
    unfold fL
    exact H.dp
theorem f_j6 (hn : ∀ (p : Option Addr) cap wx, X.Own w0 S0 (fL b10 b21 c p cap 4) wx → crierref16_Fields_j5 Q b10 b21 p (fsK c 4).length cap wx) (p : Option Addr) (cap : Nat) (wx : World) (H : X.Own w0 S0 (fL b10 b21 c p cap 3) wx) :
    crierref16_Fields_j6 Q b10 b21 p (fsK c 3).length cap wx := by
  unfold crierref16_Fields_j6
  refine join_o ?_
  unfold fL at H
  repeat (first | refine ldI_a H ?_ | refine ldL_a H ?_ | refine ldB_a H ?_ | refine ldP_a H ?_ | refine ldS_a H ?_)
  refine alc_o H fun b152 wx H => ?_
  refine call_p H (has_t c.op (row b152 (i64s [9, 10, 11, 1, 13]) _) (q := some ⟨b152, 0, none⟩) (c := 5) (xs := [9, 10, 11, 1, 13]) row_sl (by simp)) (by repeat (first | exact Cut.nil | (apply Cut.cons; (repeat (first | exact Pick.here | apply Pick.there))))) fun wx H => ?_
  refine ⟨_, rfl, cnd_i (fun h => ?_) fun h => ?_⟩
  · have hh : ph c.op 3 = true := by
      have h := of_decide_eq_true h
      simp only [List.mem_cons, List.not_mem_nil, or_false] at h
      simp only [ph, decide_eq_true_eq]
      omega
    repeat (first | refine ldI_a H ?_ | refine ldL_a H ?_ | refine ldB_a H ?_ | refine ldP_a H ?_ | refine ldS_a H ?_)
    refine alc_o H fun b158 wx H => ?_
    rw [show [Value.int .i64 2, .int .i64 0, .int .i64 16, .int .i64 c.coll] = fdC (fdOf c 3) from rfl] at H
    refine add_f H (by repeat (first | exact Pick.here | apply Pick.there)) (b := b158) (by repeat (first | exact Pick.here | apply Pick.there)) (by omega) hh fun p' c' wx H => ?_
    refine st1_o H (by repeat (first | exact Rep.here | apply Rep.there)) (by show _ < 9; omega) fun wx H => ?_
    refine hn p' c' wx ?_
    rw [fL_next hh]
    exact H.dp
  · have hh : ph c.op 3 = false := by
      have h := of_decide_eq_false h
      simp only [List.mem_cons, List.not_mem_nil, or_false] at h
      simp only [ph, decide_eq_false_iff_not]
      omega
    refine (?_ : crierref16_Fields_j5 Q b10 b21 p (fsK c 3).length cap wx)
    rw [← fs_same hh]
    refine hn p cap wx ?_
    rw [fL_same hh]
    unfold fL
    exact H.dp
theorem f_j7a (h10 : c.op ≠ 10) (hn : ∀ (p : Option Addr) cap wx, X.Own w0 S0 (fL b10 b21 c p cap 3) wx → crierref16_Fields_j6 Q b10 b21 p (fsK c 3).length cap wx) (p : Option Addr) (cap : Nat) (wx : World) (H : X.Own w0 S0 (fL b10 b21 c p cap 2) wx) :
    crierref16_Fields_j7 Q b10 b21 p (fsK c 2).length cap wx := by
  unfold crierref16_Fields_j7
  refine join_o ?_
  have H' := H
  unfold fL at H
  repeat (first | refine ldI_a H ?_ | refine ldL_a H ?_ | refine ldB_a H ?_ | refine ldP_a H ?_ | refine ldS_a H ?_)
  refine cnd_i (fun h => ?_) fun h => ?_
  · have h : c.op = 14 := by simpa using h
    have hh : ph c.op 2 = true := by simp [ph, h]
    repeat (first | refine ldI_a H ?_ | refine ldL_a H ?_ | refine ldB_a H ?_ | refine ldP_a H ?_ | refine ldS_a H ?_)
    refine alc_o H fun b187 wx H => ?_
    rw [show [Value.int .i64 3, .int .i64 16, .int .i64 16, .int .i64 c.num] = fdC (fdOf c 2) by simp [fdC, fdOf, pw, pf, ps, Cm.get, h]] at H
    refine add_f H (by repeat (first | exact Pick.here | apply Pick.there)) (b := b187) (by repeat (first | exact Pick.here | apply Pick.there)) (by omega) hh fun p' c' wx H => ?_
    refine st1_o H (by repeat (first | exact Rep.here | apply Rep.there)) (by show _ < 9; omega) fun wx H => ?_
    refine hn p' c' wx ?_
    rw [fL_next hh]
    exact H.dp
  · have h : c.op ≠ 14 := by simpa using h
    have hh : ph c.op 2 = false := by simp [ph, h, h10]
    refine (?_ : crierref16_Fields_j6 Q b10 b21 p (fsK c 2).length cap wx)
    rw [← fs_same hh]
    exact hn p cap wx (by rw [fL_same hh]; exact H')
theorem f_j7b (h10 : c.op = 10) (hn : ∀ (p : Option Addr) cap wx, X.Own w0 S0 (fL b10 b21 c p cap 3) wx → crierref16_Fields_j6 Q b10 b21 p (fsK c 3).length cap wx) (p : Option Addr) (cap : Nat) (wx : World) (H : X.Own w0 S0 (fL b10 b21 c p cap 3) wx) :
    crierref16_Fields_j7 Q b10 b21 p (fsK c 3).length cap wx := by
  unfold crierref16_Fields_j7
  refine join_o ?_
  have H' := H
  unfold fL at H
  repeat (first | refine ldI_a H ?_ | refine ldL_a H ?_ | refine ldB_a H ?_ | refine ldP_a H ?_ | refine ldS_a H ?_)
  refine cnd_i (fun h => ?_) fun h => ?_
  · have h : c.op = 14 := by simpa using h
    omega
  · exact hn p cap wx H'
theorem f_j8 (hn : ∀ (p : Option Addr) cap wx, X.Own w0 S0 (fL b10 b21 c p cap 3) wx → crierref16_Fields_j6 Q b10 b21 p (fsK c 3).length cap wx) (p : Option Addr) (cap : Nat) (wx : World) (H : X.Own w0 S0 (fL b10 b21 c p cap 2) wx) :
    crierref16_Fields_j8 Q b10 b21 p (fsK c 2).length cap wx := by
  unfold crierref16_Fields_j8
  refine join_o ?_
  have H' := H
  unfold fL at H
  repeat (first | refine ldI_a H ?_ | refine ldL_a H ?_ | refine ldB_a H ?_ | refine ldP_a H ?_ | refine ldS_a H ?_)
  refine cnd_i (fun h => ?_) fun h => ?_
  · have h : c.op = 10 := by simpa using h
    have hh : ph c.op 2 = true := by simp [ph, h]
    repeat (first | refine ldI_a H ?_ | refine ldL_a H ?_ | refine ldB_a H ?_ | refine ldP_a H ?_ | refine ldS_a H ?_)
    refine alc_o H fun b187 wx H => ?_
    rw [show [Value.int .i64 1, .int .i64 32, .int .i64 32, .int .i64 c.num] = fdC (fdOf c 2) by simp [fdC, fdOf, pw, pf, ps, Cm.get, h]] at H
    refine add_f H (by repeat (first | exact Pick.here | apply Pick.there)) (b := b187) (by repeat (first | exact Pick.here | apply Pick.there)) (by omega) hh fun p' c' wx H => ?_
    refine st1_o H (by repeat (first | exact Rep.here | apply Rep.there)) (by show _ < 9; omega) fun wx H => ?_
    refine f_j7b h hn p' c' wx ?_
    rw [fL_next hh]
    exact H.dp
  · have h : c.op ≠ 10 := by simpa using h
    exact f_j7a h hn p cap wx H'
theorem f_j9 (hn : ∀ (p : Option Addr) cap wx, X.Own w0 S0 (fL b10 b21 c p cap 2) wx → crierref16_Fields_j8 Q b10 b21 p (fsK c 2).length cap wx) (p : Option Addr) (cap : Nat) (wx : World) (H : X.Own w0 S0 (fL b10 b21 c p cap 1) wx) :
    crierref16_Fields_j9 Q b10 b21 p (fsK c 1).length cap wx := by
  unfold crierref16_Fields_j9
  refine join_o ?_
  unfold fL at H
  repeat (first | refine ldI_a H ?_ | refine ldL_a H ?_ | refine ldB_a H ?_ | refine ldP_a H ?_ | refine ldS_a H ?_)
  refine alc_o H fun b152 wx H => ?_
  refine call_p H (has_t c.op (row b152 (i64s [10, 11, 1, 3, 4, 12, 15]) _) (q := some ⟨b152, 0, none⟩) (c := 7) (xs := [10, 11, 1, 3, 4, 12, 15]) row_sl (by simp)) (by repeat (first | exact Cut.nil | (apply Cut.cons; (repeat (first | exact Pick.here | apply Pick.there))))) fun wx H => ?_
  refine ⟨_, rfl, cnd_i (fun h => ?_) fun h => ?_⟩
  · have hh : ph c.op 1 = true := by
      have h := of_decide_eq_true h
      simp only [List.mem_cons, List.not_mem_nil, or_false] at h
      simp only [ph, decide_eq_true_eq]
      omega
    repeat (first | refine ldI_a H ?_ | refine ldL_a H ?_ | refine ldB_a H ?_ | refine ldP_a H ?_ | refine ldS_a H ?_)
    refine alc_o H fun b158 wx H => ?_
    rw [show [Value.int .i64 1, .int .i64 0, .int .i64 32, .int .i64 c.ev] = fdC (fdOf c 1) from rfl] at H
    refine add_f H (by repeat (first | exact Pick.here | apply Pick.there)) (b := b158) (by repeat (first | exact Pick.here | apply Pick.there)) (by omega) hh fun p' c' wx H => ?_
    refine st1_o H (by repeat (first | exact Rep.here | apply Rep.there)) (by show _ < 9; omega) fun wx H => ?_
    refine hn p' c' wx ?_
    rw [fL_next hh]
    exact H.dp
  · have hh : ph c.op 1 = false := by
      have h := of_decide_eq_false h
      simp only [List.mem_cons, List.not_mem_nil, or_false] at h
      simp only [ph, decide_eq_false_iff_not]
      omega
    refine (?_ : crierref16_Fields_j8 Q b10 b21 p (fsK c 1).length cap wx)
    rw [← fs_same hh]
    refine hn p cap wx ?_
    rw [fL_same hh]
    unfold fL
    exact H.dp
include hI in
theorem f_main (hQ : ∀ (p : Option Addr) cap wx, badA c = false → X.Own w0 S0 (fL b10 b21 c p cap 8) wx → crierref16_Fields_j0 Q b21 p (fsK c 8).length cap wx) (hB : ∀ wx L, badA c = true → X.Own w0 S0 L wx → Q (.tuple [.slice none 0 0, .bool false].toArray) wx)
    (wx : World) (H : X.Own w0 S0 (fL b10 b21 c none 0 0) wx) :
  alc [.int .i64 9, .int .i64 13, .int .i64 14, .int .i64 5] tOp wx fun b227 w228 =>
  CV P F.crierref16_has [.int .i64 c.op, .slice (some ⟨b227, 0, none⟩) 4 4] w228 fun v229 w230 =>
  ∃ b231 : Bool, v229 = .bool b231 ∧
  cnd (!b231)
  (ldI .i64 ⟨b10, 1, none⟩ w230 fun n232 =>
  alc [.int .i64 0, .int .i64 32, .int .i64 32, .int .i64 n232] tFd w230 fun b233 w234 =>
  runS P (Builtin.append_ #[tFds, tFds] tFds [.slice none 0 0, .slice (some ⟨b233, 0, none⟩) 1 1].toArray) w234 fun p235 l236 c237 w238 =>
  st1 (.int .i64 0) ⟨b21, 1, none⟩ w238 fun w239 => crierref16_Fields_j9 Q b10 b21 p235 l236 c237 w239)
  (crierref16_Fields_j9 Q b10 b21 none 0 0 w230) := by
  have hn := f_j9 (Q := Q) (b10 := b10) (b21 := b21) (c := c) (w0 := w0) (S0 := S0) (f_j8 (f_j6 (f_j5 (f_j4 hI hQ hB))))
  unfold fL at H
  refine alc_o H fun b152 wx H => ?_
  refine call_p H (has_t c.op (row b152 (i64s [9, 13, 14, 5]) _) (q := some ⟨b152, 0, none⟩) (c := 4) (xs := [9, 13, 14, 5]) row_sl (by simp)) (by repeat (first | exact Cut.nil | (apply Cut.cons; (repeat (first | exact Pick.here | apply Pick.there))))) fun wx H => ?_
  refine ⟨_, rfl, cnd_i (fun h => ?_) fun h => ?_⟩
  · have hh : ph c.op 0 = true := by
      simp only [Bool.not_eq_true', decide_eq_false_iff_not, List.mem_cons, List.not_mem_nil, or_false] at h
      simp only [ph, decide_eq_true_eq]
      omega
    repeat (first | refine ldI_a H ?_ | refine ldL_a H ?_ | refine ldB_a H ?_ | refine ldP_a H ?_ | refine ldS_a H ?_)
    refine alc_o H fun b158 wx H => ?_
    rw [show [Value.int .i64 0, .int .i64 32, .int .i64 32, .int .i64 c.dev] = fdC (fdOf c 0) from rfl] at H
    refine add_f (p := none) (cap := 0) (k := 0) H (by repeat (first | exact Pick.here | apply Pick.there)) (b := b158) (by repeat (first | exact Pick.here | apply Pick.there)) (by omega) hh fun p' c' wx H => ?_
    refine st1_o H (by repeat (first | exact Rep.here | apply Rep.there)) (by show _ < 9; omega) fun wx H => ?_
    refine hn p' c' wx ?_
    rw [fL_next hh]
    exact H.dp
  · have hh : ph c.op 0 = false := by
      simp only [Bool.not_eq_false', decide_eq_true_eq, List.mem_cons, List.not_mem_nil, or_false] at h
      simp only [ph, decide_eq_false_iff_not]
      omega
    have := hn none 0 wx (by rw [fL_same hh]; unfold fL; exact H.dp)
    rw [fs_same hh] at this
    exact this
end
theorem Fields_t (c : Cm) (hI : c.addr ≤ 9223372036854775807) : Tri P F.crierref16_Fields [cmV c] [] fun v L' => ∃ p cap, if badA c = true then v = .tuple [.slice none 0 0, .bool false].toArray ∧ L' = [] else
    v = .tuple [.slice p (fsK c 8).length cap, .bool (decide (rst c 8 = cm0))].toArray ∧ L' = [own tFd 4 (.slice p (fsK c 8).length cap) (fsK c 8).length (flatF (fsK c 8))] := by
  intro w S hS
  refine crierref16_Fields_cv ?_
  unfold crierref16_Fields
  have H := Own.start hS
  refine alc_o H fun b10 wx H => ?_
  repeat (first | refine ldI_a H ?_ | refine ldL_a H ?_ | refine ldB_a H ?_ | refine ldP_a H ?_ | refine ldS_a H ?_)
  refine alc_o H fun b21 wx H => ?_
  refine st1_a H fun wx H => ?_
  refine st1_a H fun wx H => ?_
  refine st1_a H fun wx H => ?_
  refine st1_a H fun wx H => ?_
  refine st1_a H fun wx H => ?_
  refine st1_a H fun wx H => ?_
  refine st1_a H fun wx H => ?_
  refine st1_a H fun wx H => ?_
  refine st1_a H fun wx H => ?_
  refine st1_a H fun wx H => ?_
  refine join_o ?_
  repeat (first | refine ldI_a H ?_ | refine ldL_a H ?_ | refine ldB_a H ?_ | refine ldP_a H ?_ | refine ldS_a H ?_)
  have H := (own_nil (e := tFd) (size := 4) H).drop (L1 := fL b10 b21 c none 0 0) (by unfold fL; exact (by repeat (first | exact Cut.nil | (apply Cut.cons; (repeat (first | exact Pick.here | apply Pick.there))))))
  refine f_main (c := c) hI (fun p cap wx hb H => ?_) (fun wx L hb H => ?_) wx H
  · unfold crierref16_Fields_j0
    unfold fL at H
    refine drw_o H fun wx H => ?_
    repeat (first | refine ldI_a H ?_ | refine ldL_a H ?_ | refine ldB_a H ?_ | refine ldP_a H ?_ | refine ldS_a H ?_)
    refine cm_eq (c := rst c 8) (d := cm0) ?_
    refine ⟨[own tFd 4 (.slice p (fsK c 8).length cap) (fsK c 8).length (flatF (fsK c 8))], ⟨p, cap, ?_⟩, H.dp⟩
    rw [hb, if_neg (by decide)]
    exact ⟨rfl, rfl⟩
  · refine ⟨[], ⟨none, 0, ?_⟩, H.drop .nil⟩
    rw [if_pos hb]
    exact ⟨rfl, rfl⟩
end Go.Proofs.YtggmapokmlbgbaaDoor
