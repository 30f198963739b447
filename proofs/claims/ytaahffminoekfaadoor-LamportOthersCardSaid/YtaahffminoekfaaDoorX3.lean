/-
  The document's bit of a hash, walked; a fixed answer.
-/
import Derived.Test.YtaahffminoekfaaDoorX2
namespace Go.Proofs.YtaahffminoekfaaDoor
open Go.RowKit
theorem two_pow_bd : ∀ n, n ≤ 7 → ((2 ^ n : Nat) : Int) ≤ 128 ∧ (0 : Int) < ((2 ^ n : Nat) : Int) := by decide
set_option maxRecDepth 100000 in
set_option maxHeartbeats 1000000 in
theorem refBit_any (h : List Int) (cx : Array Value) (k : Nat) (hk : k < 256) (hb : ∀ j, 0 ≤ h.getD j 0 ∧ h.getD j 0 ≤ 255)
    (hx : ∀ j, j < 32 → cx[j]? = some (.int .u8 (h.getD j 0))) (w : World) :
    Calls Tryd.prog 51 #[.agg cx, .int .i64 (k : Int)] w fun e W' => e = .returned (.int .i64 (bitI h k)) ∧ Below w.heap.size w W' := by
  have hgl : (w.alloc (.cells cx 24)).heap[w.heap.size]? = some (.cells cx 24 (0, 0)) := heap_alloc_last _ _
  have c0 : (w.alloc (.cells cx 24)).cell? ⟨w.heap.size, k / 8, none⟩ = some (.int .u8 (h.getD (k / 8) 0)) := (cell_of_row _ _ _ _ _ _ hgl).trans (hx (k / 8) (by omega))
  obtain ⟨x, hxx⟩ : ∃ x, h.getD (k / 8) 0 = x := ⟨_, rfl⟩
  have hxb : 0 ≤ x ∧ x ≤ 255 := hxx ▸ hb (k / 8)
  rw [hxx] at c0
  have HX := Lib.hid hxx
  have hk8 : (k : Int) / 8 < 32 := by omega
  have hk0 : (0 : Int) ≤ (k : Int) / 8 := by omega
  clear hgl hx hb hxx
  go_enter Tryd.func51, Tryd.ntmps51
  go_wp2_with fail
  have hb0 : Below w.heap.size w (w.alloc (.cells cx 24)) := (Below.refl _ _).alloc (Nat.le_refl _) _
  obtain ⟨W0, hW0⟩ : ∃ W0, W0 = w.alloc (.cells cx 24) := ⟨_, rfl⟩
  rw [← hW0] at hb0 ⊢
  have HB := Lib.hid hb0
  clear hb0 hW0 c0
  go_loop [5, 6] (fun v i => ∃ m : Nat, k % 8 ≤ m ∧ m ≤ 7 ∧ i = .int .i64 m ∧ v = .int .i64 (x / (2 ^ (m - k % 8) : Nat))) (fun _ i => 7 - (intOf i).toNat)
  case atStart => exact ⟨k % 8, Nat.le_refl _, by omega, by simp, by simp⟩
  case round =>
    obtain ⟨m, h1, h2, rfl, rfl⟩ := hrel
    have hp := two_pow_bd (m - k % 8) (by omega)
    have hd0 : 0 ≤ x / ((2 ^ (m - k % 8) : Nat) : Int) := Int.ediv_nonneg hxb.1 (by omega)
    have hd1 : x / ((2 ^ (m - k % 8) : Nat) : Int) ≤ x := Int.ediv_le_self _ hxb.1
    obtain ⟨y, hy⟩ : ∃ y, x / ((2 ^ (m - k % 8) : Nat) : Int) = y := ⟨_, rfl⟩
    rw [hy] at hd0 hd1 ⊢
    have HY := Lib.hid hy
    clear hy hp
    by_cases hlt : (m : Int) < 7
    · go_wp2
      go_round
      case rel =>
        refine ⟨m + 1, by omega, by omega, by go_num, ?_⟩
        have : y / 2 = x / ((2 ^ (m + 1 - k % 8) : Nat) : Int) := by
          rw [← HY.out, Nat.sub_add_comm h1, Nat.pow_succ, Int.natCast_mul, Int.ediv_ediv_of_nonneg (Int.natCast_nonneg _)]; rfl
        rw [this]
      case measure => simp [intOf]; omega
    · obtain rfl : m = 7 := by omega
      go_wp2
      go_ret
      refine ⟨?_, HB.out⟩
      rw [← HY.out]
      unfold bitI
      rw [HX.out]
      rfl
/-- The fixed answer. -/
def hash160 : List Int := 160 :: List.replicate 31 0
theorem hash160_bits : ∀ k, k < 256 → bitI hash160 k = if k = 0 ∨ k = 2 then 1 else 0 := by decide +kernel
theorem hash160_bd (j : Nat) : 0 ≤ hash160.getD j 0 ∧ hash160.getD j 0 ≤ 255 := by
  have key : ∀ j, j < 32 → 0 ≤ hash160.getD j 0 ∧ hash160.getD j 0 ≤ 255 := by decide
  by_cases hj : j < 32
  · exact key j hj
  · have hl : hash160.length = 32 := by decide
    rw [List.getD_eq_getElem?_getD, List.getElem?_eq_none (by omega)]; simp
theorem bitsI_at (h : List Int) (n k : Nat) (hk : k < n) : (bitsI h n).getD k 0 = bitI h k := by simp [bitsI, List.getD_eq_getElem?_getD, hk]
theorem bits_cell {w : World} {base n c : Nat} {A : Option Addr} {xs : List Int} (h : w.ownsRow base 3 1 (.slice A n c) n (i64s xs)) (hp : 0 < n) : ∃ g, A = some ⟨g, 0, none⟩ ∧ base ≤ g ∧ n ≤ c ∧ c ≤ 9223372036854775807 ∧ ∀ j, j < n → w.cell? ⟨g, j, none⟩ = some (.int .i64 (xs.getD j 0)) := by
  obtain ⟨g, cap, he, hb, h1, h2⟩ := own_form h hp
  injection he with e1 _ e3
  subst e1 e3
  refine ⟨g, rfl, hb, h1, h2, fun j hj => ?_⟩
  have hl : xs.length = n := by have := h.1; simpa [i64s] using this
  have := h.cells rfl j (.int .i64 (xs.getD j 0)) (by simp [i64s, List.getD_eq_getElem?_getD, List.getElem?_eq_getElem (show j < xs.length by omega)])
  rwa [addr_add, Nat.zero_add] at this
theorem own_shape3 {w : World} {base n : Nat} {v : Value} {xs : List Value} (h : w.ownsRow base 3 1 v n xs) : ∃ A c, v = .slice A n c := by
  rcases h.2 with ⟨rfl, h0⟩ | ⟨g, cap, cur, rfl, _⟩
  · rw [h0]; exact ⟨none, 0, rfl⟩
  · exact ⟨_, cap, rfl⟩
set_option maxRecDepth 100000 in
theorem size25 : (Tryd.prog.info? 25).map (·.size) = some 32 := by kernel_rfl
def h160 : Array Value := #[.int .u8 160, .int .u8 0, .int .u8 0, .int .u8 0, .int .u8 0, .int .u8 0, .int .u8 0, .int .u8 0, .int .u8 0, .int .u8 0, .int .u8 0, .int .u8 0, .int .u8 0, .int .u8 0, .int .u8 0, .int .u8 0, .int .u8 0, .int .u8 0, .int .u8 0, .int .u8 0, .int .u8 0, .int .u8 0, .int .u8 0, .int .u8 0, .int .u8 0, .int .u8 0, .int .u8 0, .int .u8 0, .int .u8 0, .int .u8 0, .int .u8 0, .int .u8 0]
theorem h160_at : ∀ j, j < 32 → h160[j]? = some (.int .u8 (hash160.getD j 0)) := by
  have e : h160 = (hash160.map (Value.int .u8)).toArray := rfl
  intro j hj
  rw [e]
  have hl : hash160.length = 32 := by decide
  simp [List.getD_eq_getElem?_getD, List.getElem?_eq_getElem (show j < hash160.length by omega)]
set_option maxRecDepth 100000 in
set_option maxHeartbeats 1000000 in
theorem awakeB_any (w : World) : Calls Tryd.prog 52 #[] w fun e W' => e = .returned (.bool true) ∧ Below w.heap.size w W' := by
  have HB := Lib.hid (bits_any hash160 h160 (by decide) hash160_bd h160_at (by rw [size25]; rfl) w)
  unfold h160 at HB
  go_enter Tryd.func52, Tryd.ntmps52
  go_wp2_with fail
  refine HB.out.mono ?_
  rintro e W1 ⟨v, rfl, ho, hb⟩
  obtain ⟨A1, c1, rfl⟩ := own_shape3 ho
  obtain ⟨g, rfl, hg, hc, hc2, hat⟩ := bits_cell ho (by omega)
  have HBL := Lib.hid hb
  have b0 := hat 0 (by omega)
  have b1 := hat 1 (by omega)
  have b2 := hat 2 (by omega)
  have b3 := hat 3 (by omega)
  have b255 := hat 255 (by omega)
  rw [bitsI_at _ _ _ (by omega), hash160_bits _ (by omega)] at b0 b1 b2 b3 b255
  simp only [Nat.reduceEqDiff, or_true, or_self, if_true, if_false, true_or, or_false] at b0 b1 b2 b3 b255
  clear ho hb hat HB
  go_wp2
  go_ret
  exact ⟨rfl, HBL.out⟩
end Go.Proofs.YtaahffminoekfaaDoor
