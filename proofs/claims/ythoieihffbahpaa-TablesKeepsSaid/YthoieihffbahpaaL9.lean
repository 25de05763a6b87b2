/-
  tables: TablesFlat: what the two tables hold.
-/
import Derived.Test.YthoieihffbahpaaL8
namespace Go.Proofs.Ythoieihffbahpaa
open Go Go.RowKit X
set_option maxRecDepth 100000
set_option linter.unusedVariables false
set_option maxHeartbeats 1000000
def decD (x : Int) : Bool × Int × Int := if x < 9223372036854775808 then (false, 0, 0) else (true, x % 32, x / 256 % 1099511627776 * 256)
def putV (v : Bool) (b a : Int) : Option Int := if v = false then some 0 else if b < 0 ∨ b > 31 ∨ a < 0 ∨ a % 256 ≠ 0 ∨ a ≥ 281474976710656 then none else some (9223372036854775808 + b + a)
theorem putV_range {v : Bool} {b a x : Int} (h : putV v b a = some x) : 0 ≤ x ∧ x < 18446744073709551616 := by
  unfold putV at h
  split at h
  · cases h; omega
  · split at h
    · cases h
    · simp only [Option.some.injEq] at h; omega
theorem get_slot {bs : List Int} {a s pg id p : Int} (h : slotM bs a s pg id = (p, 0)) : getM bs a s pg id = (decD (w8 bs p.toNat), 0) := by
  unfold getM decD
  rw [h, if_neg (by simp)]
  dsimp only
  split <;> rfl
theorem put_slot {bs : List Int} {a s pg id p : Int} (h : slotM bs a s pg id = (p, 0)) (v : Bool) (b at' : Int) : putM bs a s pg id v b at' = match putV v b at' with | none => (bs, 1) | some x => (wr bs p.toNat x 8, 0) := by
  unfold putM putV
  rw [h, if_neg (by simp)]
  dsimp only
  cases v
  · rfl
  · simp only [reduceCtorEq, if_false]
    split <;> rfl
def pgP (i : Int) : Int := 200 + 40 * (i / 4) + 8 * (i % 4)
structure Led (bs : List Int) : Prop where
  len : bs.length = 1000
  ran : ∀ x ∈ bs, 0 ≤ x ∧ x < 256
  led : ∀ q : Int, 0 ≤ q → q < 4 → w8 bs (128 + 8 * q).toNat = 9223372036854776008 + 40 * q
def Twin (bs : List Int) : Prop := ∀ i : Int, 0 ≤ i → i < 16 → w8 bs (8 * i).toNat = w8 bs (pgP i).toNat
theorem ent_of {n : Nat} {a s k : Int} (h : n = 1000) (h1 : 0 ≤ a) (h2 : a + s ≤ 1000) (h3 : 0 ≤ k) (h4 : 8 * k + 8 ≤ s) : entM n a s k = (a + 8 * k, 0) := by
  unfold entM; rw [if_pos ⟨holdsB_iff.2 (by omega), h3, h4⟩]
theorem right_of {n : Nat} {a s pg : Int} (h : n = 1000) (h1 : 0 ≤ a) (h2 : a + s ≤ 1000) (h3 : 0 ≤ s) (h4 : pgBad pg = false) : rightE n a s pg = 0 := by
  unfold rightE; rw [if_pos (holdsB_iff.2 (by omega)), h4]; rfl
theorem pg32 : pgBad 32 = false := by decide
theorem pg0 : pgBad 0 = false := by decide
theorem flat_slot {bs : List Int} (hl : bs.length = 1000) {i : Int} (h0 : 0 ≤ i) (h1 : i < 16) : slotM bs 0 128 0 i = (8 * i, 0) := by
  unfold slotM
  rw [right_of hl (by omega) (by omega) (by omega) pg0, if_neg (by omega), if_neg (by omega), if_pos rfl, ent_of hl (by omega) (by omega) h0 (by omega)]
  simp
theorem page_slot {bs : List Int} (hL : Led bs) {i : Int} (h0 : 0 ≤ i) (h1 : i < 16) : slotM bs 128 32 32 i = (pgP i, 0) := by
  have hl := hL.len
  unfold slotM
  have e8 : (32 : Int) / 8 = 4 := by decide
  rw [right_of hl (by omega) (by omega) (by omega) pg32, if_neg (by omega), if_neg (by omega), if_neg (by omega), e8, ent_of hl (by omega) (by omega) (by omega) (by omega), if_neg (by simp)]
  dsimp only
  rw [hL.led (i / 4) (by omega) (by omega), if_neg (by omega)]
  have : (9223372036854776008 + 40 * (i / 4)) % 4294967296 = 200 + 40 * (i / 4) := by omega
  rw [this, ent_of hl (by omega) (by omega) (by omega) (by omega)]
  rfl
theorem out_flat {bs : List Int} (hl : bs.length = 1000) : (getM bs 0 128 0 16).2 = 180 := by
  have : slotM bs 0 128 0 16 = (0, 180) := by
    unfold slotM
    rw [right_of hl (by omega) (by omega) (by omega) pg0, if_neg (by omega), if_neg (by omega), if_pos rfl]
    unfold entM; rw [if_neg (by omega)]
  unfold getM; rw [this, if_pos (by simp)]
theorem out_page {bs : List Int} (hl : bs.length = 1000) : (getM bs 128 32 32 16).2 = 180 := by
  have : slotM bs 128 32 32 16 = (0, 180) := by
    unfold slotM
    have e : (entM bs.length 128 32 (16 / (32 / 8))).2 ≠ 0 := by
      rw [show (16 : Int) / (32 / 8) = 4 by decide]; unfold entM; rw [if_neg (by omega)]; simp
    rw [right_of hl (by omega) (by omega) (by omega) pg32, if_neg (by omega), if_neg (by omega), if_neg (by omega), if_pos e]
  unfold getM; rw [this, if_pos (by simp)]
theorem Led.wr {bs : List Int} (h : Led bs) {p : Nat} (hp : p + 8 ≤ 128 ∨ 160 ≤ p) (x : Int) : Led (wr bs p x 8) :=
  ⟨by rw [wr_length, h.len], wr_range h.ran _ _ _, fun q h0 h1 => by rw [w8_wr_off (by omega), h.led q h0 h1]⟩
theorem Led.put {bs : List Int} (h : Led bs) {i : Int} (h0 : 0 ≤ i) (h1 : i < 16) (v : Bool) (b a : Int) : Led (putM bs 0 128 0 i v b a).1 := by
  rw [put_slot (flat_slot h.len h0 h1)]
  cases putV v b a with
  | none => exact h
  | some x => exact h.wr (by omega) x
/-- a device put into both tables -/
theorem both_put {bs : List Int} (hL : Led bs) (hT : Twin bs) {i : Int} (h0 : 0 ≤ i) (h1 : i < 16) (v : Bool) (b a : Int) :
    Led (putM (putM bs 0 128 0 i v b a).1 128 32 32 i v b a).1 ∧ Twin (putM (putM bs 0 128 0 i v b a).1 128 32 32 i v b a).1 ∧
    (putM bs 0 128 0 i v b a).2 = (putM (putM bs 0 128 0 i v b a).1 128 32 32 i v b a).2 ∧
    ∀ o : Int, 0 ≤ o → o < 16 → o ≠ i → w8 (putM (putM bs 0 128 0 i v b a).1 128 32 32 i v b a).1 (8 * o).toNat = w8 bs (8 * o).toNat := by
  have hL1 := hL.put h0 h1 v b a
  rw [put_slot (page_slot hL1 h0 h1)]
  rw [put_slot (flat_slot hL.len h0 h1)] at hL1 ⊢
  cases hv : putV v b a with
  | none => exact ⟨hL, hT, rfl, fun _ _ _ _ => rfl⟩
  | some x =>
    rw [hv] at hL1
    dsimp only at hL1 ⊢
    have hx := putV_range hv
    have hl1 := hL1.len
    have hl := hL.len
    refine ⟨hL1.wr (by unfold pgP; omega) x, ?_, rfl, ?_⟩
    · intro o g0 g1
      by_cases ho : o = i
      · subst ho
        rw [w8_wr (by unfold pgP; omega) hx, w8_wr_off (by unfold pgP; omega), w8_wr (by omega) hx]
      · rw [w8_wr_off (by unfold pgP; omega), w8_wr_off (by omega), w8_wr_off (by unfold pgP; omega), w8_wr_off (by unfold pgP; omega)]
        exact hT o g0 g1
    · intro o g0 g1 ho
      rw [w8_wr_off (by unfold pgP; omega), w8_wr_off (by omega)]
theorem get_flat {bs : List Int} (hL : Led bs) {o : Int} (h0 : 0 ≤ o) (h1 : o < 16) : getM bs 0 128 0 o = (decD (w8 bs (8 * o).toNat), 0) := get_slot (flat_slot hL.len h0 h1)
theorem get_page {bs : List Int} (hL : Led bs) (hT : Twin bs) {o : Int} (h0 : 0 ≤ o) (h1 : o < 16) : getM bs 128 32 32 o = (decD (w8 bs (8 * o).toNat), 0) := by rw [hT o h0 h1]; exact get_slot (page_slot hL h0 h1)
theorem lead_of {bs : List Int} (hl : bs.length = 1000) {k : Int} (h0 : 0 ≤ k) (h1 : k < 4) : leadM bs 128 32 32 (4 * k) (200 + 40 * k) = (wr bs (128 + 8 * k).toNat (9223372036854776008 + 40 * k) 8, 0) := by
  have hh : holdsB bs.length (200 + 40 * k) 32 = true := holdsB_iff.2 (by omega)
  unfold leadM
  rw [right_of hl (by omega) (by omega) (by omega) pg32, if_neg (by omega), if_neg (by rw [hh]; simp; omega), show 4 * k / (32 / 8) = k by omega, ent_of hl (by omega) (by omega) (by omega) (by omega), if_neg (by simp)]
  rw [show 9223372036854775808 + (200 + 40 * k) = 9223372036854776008 + 40 * k by omega]
/-! ### Lists of devices -/
def devC (d : Bool × Int × Int) : List Value := [.bool d.1, .int .i64 d.2.1, .int .i64 d.2.2]
theorem Own.rdS {w0 w : World} {S0 : Nat → Prop} {L F : List It} {i : It} {q : Option Addr} {c : Nat} {xs : List (List Value)} (H : X.Own w0 S0 L w) (hp : Pick L i F) (hi : ∀ w S, i.h w S → Slots w q c xs) : Slots w q c xs := let ⟨_, h, _⟩ := H.pick hp; hi _ _ h
theorem keep_slots {w1 : World} {q : Option Addr} {c : Nat} {xs : List (List Value)} (h : Slots w1 q c xs) : ∀ w S, (keep w1).h w S → Slots w q c xs := by
  intro w S ⟨_, _, h3⟩ j u hj
  obtain ⟨a, ha, hc⟩ := h j u hj
  refine ⟨a, ha, fun i v hv => ?_⟩
  have := hc i v hv
  rw [World.cell?_of_block (h3 _ (World.block_lt_of_cell? _ _ this))]; exact this
theorem dev_cells {w : World} {q : Option Addr} {ds : List (Bool × Int × Int)} (h : Slots w q 3 (ds.map devC)) {k : Nat} (hk : k < ds.length) :
    ∃ a, q = some a ∧ w.cell? (a.add (k * 3)) = some (.bool ds[k].1) ∧ w.cell? ((a.add (k * 3)).add 1) = some (.int .i64 ds[k].2.1) ∧ w.cell? ((a.add (k * 3)).add 2) = some (.int .i64 ds[k].2.2) := by
  obtain ⟨a, ha, hc⟩ := h k (devC ds[k]) (by simp [hk])
  have h0 := hc 0 _ rfl
  rw [add_zero'] at h0
  exact ⟨a, ha, h0, hc 1 _ rfl, hc 2 _ rfl⟩
end Go.Proofs.Ythoieihffbahpaa
