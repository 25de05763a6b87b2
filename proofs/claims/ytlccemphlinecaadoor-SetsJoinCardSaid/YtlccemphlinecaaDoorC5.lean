/-
  Sets: what is in one of two, in both, in the first alone; the loop over members; the least, the greatest.
-/
import Derived.Test.YtlccemphlinecaaDoorC4
namespace Go.Proofs.YtlccemphlinecaaDoor
open Go Go.RowKit X
set_option maxRecDepth 100000
set_option linter.unusedVariables false
def unionL (a b : List Nat) : List Nat := b.foldl (fun l m => insL l m) a
theorem unionL_up (b : List Nat) : ∀ {a : List Nat}, Up a → Up (unionL a b) := by
  induction b with
  | nil => intro a h; exact h
  | cons m r ih => intro a h; exact ih (insL_up h)
theorem mem_unionL (b : List Nat) : ∀ {a : List Nat} {x : Nat}, x ∈ unionL a b ↔ x ∈ a ∨ x ∈ b := by
  induction b with
  | nil => intro a x; simp [unionL]
  | cons m r ih =>
    intro a x
    show x ∈ unionL (insL a m) r ↔ _
    rw [ih, mem_insL, List.mem_cons, or_assoc, or_comm (a := x = m), or_assoc, or_comm (a := x ∈ r)]
def meetL (a b : List Nat) : List Nat := a.filter b.contains
def lessL (a b : List Nat) : List Nat := a.filter fun x => !b.contains x
section
variable (b b' : Nat) (l l' : List Nat)
theorem union_t (hl : Up l) : Tri P F.sets_Union_int [ptrV b, ptrV b'] [setI b l, setI b' l'] fun v L' => ∃ b2, v = ptrV b2 ∧ L' = [setI b2 (unionL l l'), setI b l, setI b' l'] := by
  intro w S hS
  refine sets_Union_int_cv ?_
  unfold sets_Union_int
  have H := Own.start hS
  refine call_o H (join_set_t b b' l l' F.sets_Union_int_1 (· ||| ·) (· || ·) (by kernel_rfl) (fun x y w hx hy => sets_Union_int_1_cv (by unfold sets_Union_int_1; rw [or_u64 hx hy]; exact ⟨rfl, Below.refl _ _⟩)) (fun a b i _ _ => Nat.testBit_or a b i) (fun a b ha hb => Nat.or_lt_two_pow ha hb) rfl (unionL l l') (unionL_up l' hl) (fun m => by simp [mem_unionL])) (by repeat (first | exact Cut.nil | (apply Cut.cons; (repeat (first | exact Pick.here | apply Pick.there))))) fun vx L' wx hq H => ?_
  obtain ⟨b2, rfl, rfl⟩ := hq
  exact ⟨_, rfl, _, ⟨b2, rfl, rfl⟩, H⟩
theorem meet_t (hl : Up l) : Tri P F.sets_Meet_int [ptrV b, ptrV b'] [setI b l, setI b' l'] fun v L' => ∃ b2, v = ptrV b2 ∧ L' = [setI b2 (meetL l l'), setI b l, setI b' l'] := by
  intro w S hS
  refine sets_Meet_int_cv ?_
  unfold sets_Meet_int
  have H := Own.start hS
  refine call_o H (join_set_t b b' l l' F.sets_Meet_int_1 (· &&& ·) (· && ·) (by kernel_rfl) (fun x y w hx hy => sets_Meet_int_1_cv (by unfold sets_Meet_int_1; rw [and_u64 hx hy]; exact ⟨rfl, Below.refl _ _⟩)) (fun a b i _ _ => Nat.testBit_and a b i) (fun a b ha hb => Nat.and_lt_two_pow _ hb) rfl (meetL l l') (List.Pairwise.filter _ hl) (fun m => by simp [meetL])) (by repeat (first | exact Cut.nil | (apply Cut.cons; (repeat (first | exact Pick.here | apply Pick.there))))) fun vx L' wx hq H => ?_
  obtain ⟨b2, rfl, rfl⟩ := hq
  exact ⟨_, rfl, _, ⟨b2, rfl, rfl⟩, H⟩
theorem less_t (hl : Up l) : Tri P F.sets_Less_int [ptrV b, ptrV b'] [setI b l, setI b' l'] fun v L' => ∃ b2, v = ptrV b2 ∧ L' = [setI b2 (lessL l l'), setI b l, setI b' l'] := by
  intro w S hS
  refine sets_Less_int_cv ?_
  unfold sets_Less_int
  have H := Own.start hS
  refine call_o H (join_set_t b b' l l' F.sets_Less_int_1 andNot (fun x y => x && !y) (by kernel_rfl) (fun x y w hx hy => sets_Less_int_1_cv (by unfold sets_Less_int_1; rw [andNot_u64 hx hy]; exact ⟨rfl, Below.refl _ _⟩)) (fun a b i ha hb => andNot_testBit ha hb i) (fun a b ha hb => andNot_lt ha) rfl (lessL l l') (List.Pairwise.filter _ hl) (fun m => by simp [lessL])) (by repeat (first | exact Cut.nil | (apply Cut.cons; (repeat (first | exact Pick.here | apply Pick.there))))) fun vx L' wx hq H => ?_
  obtain ⟨b2, rfl, rfl⟩ := hq
  exact ⟨_, rfl, _, ⟨b2, rfl, rfl⟩, H⟩
end
/-! ### The loop over members -/
def fromE (g1 g2 : Nat) (ws : List Nat) (p : Option Addr) (c : Nat) (m : Int) (t t2 : TypeId) : List It := [row g1 [.slice p ws.length c] t, own tWord 1 (.slice p ws.length c) ws.length (u64s ws), row g2 [.int .i64 m] t2]
def fromV (g1 g2 : Nat) : Value := .func (.func F.sets_Set_int_From_1) [].toArray [ptrV g1, ptrV g2].toArray
theorem from_t (b : Nat) (l : List Nat) (m : Int) : Tri P F.sets_Set_int_From [ptrV b, .int .i64 m] [setI b l] fun v L' => ∃ g1 g2 ws p c t t2, mems ws = l ∧ (∀ x ∈ ws, x < 2 ^ 64) ∧ ws.length ≤ 256 ∧ v = fromV g1 g2 ∧ L' = setI b l :: fromE g1 g2 ws p c m t t2 := by
  intro w S hS
  refine sets_Set_int_From_cv ?_
  unfold sets_Set_int_From
  have H := Own.start hS
  refine alc_o H fun bx wx H => ?_
  obtain ⟨ws, p, c, t, rfl, h2, h3, H⟩ := set_open H (b := b) (l := l) (by repeat (first | exact Pick.here | apply Pick.there))
  repeat (first | refine ldI_o H (by repeat (first | exact Pick.here | apply Pick.there)) (by rfl) ?_ | refine ldL_o H (by repeat (first | exact Pick.here | apply Pick.there)) (by rfl) ?_ | refine ldB_o H (by repeat (first | exact Pick.here | apply Pick.there)) (by rfl) ?_ | refine ldP_o H (by repeat (first | exact Pick.here | apply Pick.there)) (by rfl) ?_ | refine ldS_o H (by repeat (first | exact Pick.here | apply Pick.there)) (by rfl) ?_)
  refine call_o H (cloneW_t (own tWord 1 (.slice p ws.length c) ws.length (u64s ws)) own_sl (by omega)) (by repeat (first | exact Cut.nil | (apply Cut.cons; (repeat (first | exact Pick.here | apply Pick.there))))) fun vx L' wx hq H => ?_
  obtain ⟨p', c', rfl, rfl⟩ := hq
  simp only [List.cons_append, List.nil_append] at H
  refine ⟨_, _, _, rfl, alc_o H fun by' wx H => ?_⟩
  refine st1_o H (by repeat (first | exact Rep.here | apply Rep.there)) (by simp) fun wx H => ?_
  have H := set_shut (b := b) (l := mems ws) (F := fromE by' bx ws p' c' m T.t54 T.t3) (H.drop (by repeat (first | exact Cut.nil | (apply Cut.cons; (repeat (first | exact Pick.here | apply Pick.there)))))) rfl rfl rfl h2 h3
  exact ⟨_, ⟨by', bx, ws, p', c', _, _, rfl, h2, h3, rfl, rfl⟩, H⟩
theorem mems_prefix {ws : List Nat} (h2 : ∀ x ∈ ws, x < 2 ^ 64) {k : Nat} : ∀ d, k + d = ws.length → ∃ r, mems ws = mems (ws.take k) ++ r := by
  intro d
  induction d generalizing k with
  | zero => intro h; exact ⟨[], by rw [show k = ws.length by omega]; simp⟩
  | succ d ih =>
    intro h
    obtain ⟨r, hr⟩ := ih (k := k + 1) (by omega)
    rw [mems_take h2 (by omega)] at hr
    exact ⟨_, by rw [hr, List.append_assoc]⟩
theorem Pick.mid {i : It} {F : List It} : ∀ L : List It, Pick (L ++ i :: F) i (L ++ F)
  | [] => .here
  | _ :: L => .there (Pick.mid L)
theorem Pick.right {i : It} {F F' : List It} (h : Pick F i F') : ∀ L : List It, Pick (L ++ F) i (L ++ F')
  | [] => h
  | _ :: L => .there (Pick.right h L)
theorem loL_append (a b : List Nat) (m : Int) : loL (a ++ b) m = loL a m ++ loL b m := by simp [loL]
def i1s (l : List Nat) : List (List Value) := l.map fun (x : Nat) => [.int .i64 (x : Int)]
theorem from_it {W : World} (hT : TabAt W) {g1 g2 : Nat} {ws : List Nat} {p : Option Addr} {c : Nat} {m : Int} {t t2 : TypeId} (h2 : ∀ x ∈ ws, x < 2 ^ 64) (h3 : ws.length ≤ 256) :
    Iter P F.sets_Set_int_From_1 [ptrV g1, ptrV g2] (fromE g1 g2 ws p c m t t2 ++ [keep W]) (i1s (loL (mems ws) m)) := by
  intro y w0 S0 L0 w Q I D hy H h0 hstep hend hstop
  refine sets_Set_int_From_1_cv ?_
  unfold sets_Set_int_From_1
  have e : ∀ L : List It, L ++ (fromE g1 g2 ws p c m t t2 ++ [keep W]) = L ++ row g1 [.slice p ws.length c] t :: own tWord 1 (.slice p ws.length c) ws.length (u64s ws) :: row g2 [.int .i64 m] t2 :: keep W :: [] := fun _ => rfl
  refine ldL_o H (Pick.right .here L0) rfl ?_
  refine loop_o (fun (st : Int) L' => ∃ (k : Nat) (L : List It), st = k ∧ k ≤ ws.length ∧ I (loL (mems (ws.take k)) m).length L ∧ L' = L ++ (fromE g1 g2 ws p c m t t2 ++ [keep W])) (fun (st : Int) => ((ws.length : Int) - st).toNat) H ⟨0, L0, rfl, by omega, by simpa [mems, loL] using h0, rfl⟩ ?_
  rintro _ _ wx ⟨k, L, rfl, hk, hI, rfl⟩ H
  unfold sets_Set_int_From_1_l2
  refine cnd_i (fun h => ?_) fun h => ?_
  · have h := of_decide_eq_true h
    have hk' : k < ws.length := by omega
    refine ⟨⟨by omega, h⟩, ?_⟩
    rw [Int.toNat_natCast]
    refine old_o H (Pick.right (.there .here) L) (u64s_get hk') ?_
    obtain ⟨r, hr⟩ := mems_prefix h2 (k := k + 1) (ws.length - (k + 1)) (by omega)
    have htk := mems_take h2 hk'
    have hxlt := h2 _ (List.getElem_mem hk')
    refine loop_o (fun (st : Int) L' => ∃ (x : Nat) (pre : List Nat) (L : List It), st = x ∧ x < 2 ^ 64 ∧ pre ++ loL ((wbits x).map (64 * k + ·)) m = loL (mems (ws.take (k + 1))) m ∧ I pre.length L ∧ L' = L ++ (fromE g1 g2 ws p c m t t2 ++ [keep W])) (fun (st : Int) => st.toNat) H
      ⟨ws[k], loL (mems (ws.take k)) m, L, rfl, hxlt, by rw [htk, loL_append], hI, rfl⟩ ?_
    rintro _ _ wx ⟨x, pre, L, rfl, hx, hpre, hI, rfl⟩ H
    unfold sets_Set_int_From_1_l1
    refine cnd_i (fun hne => ?_) fun he => ?_
    · have h0 : x ≠ 0 := by simpa using hne
      obtain ⟨hc64, _, hlt, hbits⟩ := lowest h0 hx
      refine call_p H (tz_t hT hx h0) (.cons (Pick.right (.there (.there (.there .here))) L) .nil) fun wx H => ⟨_, rfl, join_o ?_⟩
      have ew : IntKind.i64.wrap (IntKind.i64.wrap (64 * (k : Int)) + (Lib.ctz 64 x : Int)) = ((64 * k + Lib.ctz 64 x : Nat) : Int) := by
        generalize Lib.ctz 64 x = z at *
        rw [W_id (n := 64 * (k : Int)) (by omega) (by omega), W_id (by omega) (by omega)]; push_cast; rfl
      have en : bitX .and .u64 (x : Int) (IntKind.u64.wrap ((x : Int) - 1)) = ((x &&& (x - 1) : Nat) : Int) := by
        have : IntKind.u64.wrap ((x : Int) - 1) = ((x - 1 : Nat) : Int) := by simp [IntKind.wrap, IntKind.signed, IntKind.bits]; omega
        rw [this, and_u64 hx (by omega)]
      rw [hbits, List.map_cons] at hpre
      refine ldI_o H (Pick.right (.there (.there .here)) L) rfl ?_
      rw [ew]
      refine cnd_i (fun hge => ?_) fun hge => ?_
      · have hge := of_decide_eq_true hge
        have hcons : loL ((64 * k + Lib.ctz 64 x) :: (wbits (x &&& (x - 1))).map (64 * k + ·)) m = (64 * k + Lib.ctz 64 x) :: loL ((wbits (x &&& (x - 1))).map (64 * k + ·)) m := by
          unfold loL; rw [List.filter_cons, if_pos (by simpa using hge)]
        rw [hcons] at hpre
        have hget : (i1s (loL (mems ws) m))[pre.length]? = some [.int .i64 ((64 * k + Lib.ctz 64 x : Nat) : Int)] := by
          rw [hr, loL_append, ← hpre]
          simp [i1s]
        refine callVal_mono (hstep _ _ L [] wx hget hI (by rw [List.append_nil]; exact H)) ?_
        rintro v w' ⟨bo, rfl, L', hb, H'⟩
        rw [List.append_nil] at H'
        refine ⟨bo, rfl, ?_⟩
        unfold sets_Set_int_From_1_j0
        cases bo
        · exact cnd_i (fun _ => hstop L' w' (by simpa using hb) H') (fun h => by cases h)
        · refine cnd_i (fun h => by cases h) fun _ => ?_
          have hI' : I (pre.length + 1) L' := by simpa using hb
          rw [en]
          refine ⟨⟨_, ⟨x &&& (x - 1), pre ++ [64 * k + Lib.ctz 64 x], L', rfl, by omega, by rw [List.append_assoc]; exact hpre, by simpa using hI', rfl⟩, H'⟩, ?_⟩
          show (((x &&& (x - 1) : Nat) : Int)).toNat < ((x : Int)).toNat
          omega
      · have hge := of_decide_eq_false hge
        have hcons : loL ((64 * k + Lib.ctz 64 x) :: (wbits (x &&& (x - 1))).map (64 * k + ·)) m = loL ((wbits (x &&& (x - 1))).map (64 * k + ·)) m := by
          unfold loL; rw [List.filter_cons, if_neg (by simpa using hge)]
        rw [hcons] at hpre
        unfold sets_Set_int_From_1_j0
        refine cnd_i (fun h => by cases h) fun _ => ?_
        rw [en]
        refine ⟨⟨_, ⟨x &&& (x - 1), pre, L, rfl, by omega, hpre, hI, rfl⟩, H⟩, ?_⟩
        show (((x &&& (x - 1) : Nat) : Int)).toNat < ((x : Int)).toNat
        omega
    · have h0 : x = 0 := by simpa using he
      subst h0
      have hpre : pre = loL (mems (ws.take (k + 1))) m := by rw [← hpre, wbits_zero]; simp [loL]
      subst hpre
      refine ⟨⟨_, ⟨k + 1, L, ?_, by omega, hI, rfl⟩, H⟩, ?_⟩
      · rw [W_id (by omega) (by omega)]; rfl
      · rw [W_id (by omega) (by omega)]
        show ((ws.length : Int) - ((k : Int) + 1)).toNat < ((ws.length : Int) - (k : Int)).toNat
        omega
  · have h := of_decide_eq_false h
    have : k = ws.length := by omega
    subst this
    rw [List.take_length] at hI
    exact hend L wx (by simpa [i1s] using hI) H
theorem from_enters : enters P F.sets_Set_int_From_1 = true := by kernel_rfl
end Go.Proofs.YtlccemphlinecaaDoor
