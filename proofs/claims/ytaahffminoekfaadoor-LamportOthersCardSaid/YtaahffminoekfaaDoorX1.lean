/-
  The bits of a hash, walked.
-/
import Derived.Test.YtaahffminoekfaaDoorC
import Derived.Test.YtaahffminoekfaaDoorProg
import Derived.RangeFuncNested
import Derived.RangeFuncBound
import Derived.RangeFuncCalls
import Derived.RangeFuncLeaves
import Derived.RangeFuncBox
import Derived.Shelf.Abstract
import Derived.Shelf.RegionOpen
import Derived.WalkKit
import Derived.OwnWalkIn
import Derived.TacticsInMore
import Derived.LoopNIn
import Derived.LoopIn
import Derived.Maps.AppendAt
import Derived.Lib.Hide
namespace Go.Proofs.YtaahffminoekfaaDoor
open Go.RowKit Go.Shelf
attribute [local go_sem] Oper.semAt_some
/-- A bit of a hash. -/
def bitI (h : List Int) (k : Nat) : Int := h.getD (k / 8) 0 / (2 ^ (7 - k % 8) : Nat) % 2
abbrev KB := Nat × Int
def bitsOf (h : List Int) (n : Nat) : List KB := (List.range n).map fun k => (k, bitI h k)
theorem bitsOf_succ (h : List Int) (n : Nat) : bitsOf h (n + 1) = bitsOf h n ++ [(n, bitI h n)] := by
  unfold bitsOf; rw [List.range_succ, List.map_append]; rfl
theorem bitsOf_len (h : List Int) (n : Nat) : (bitsOf h n).length = n := by simp [bitsOf]
theorem bitsOf_prefix (h : List Int) (n m : Nat) (hn : n ≤ m) : bitsOf h n <+: bitsOf h m := by
  obtain ⟨d, rfl⟩ := Nat.exists_eq_add_of_le hn
  exact ⟨(List.range d).map fun k => (n + k, bitI h (n + k)), by simp [bitsOf, List.range_add, Function.comp_def]⟩
def encB (x : KB) : Array Value := #[.int .i64 (x.1 : Int), .int .i64 x.2]
theorem u8_and1 (x : Int) (h0 : 0 ≤ x) (h1 : x < 256) : bits .and .u8 x 1 = x % 2 := bits_mask .u8 8 (by decide) wraps_u8 1 (by decide) x h0 h1
theorem bitI_bd (h : List Int) (k : Nat) : 0 ≤ bitI h k ∧ bitI h k ≤ 1 := by unfold bitI; omega
/-- The cells of a block are kept. -/
def KeepC (Bn : Nat) (A B : World) : Prop := ∀ j, B.cell? ⟨Bn, j, none⟩ = A.cell? ⟨Bn, j, none⟩
theorem KeepC.trans {Bn : Nat} {A B C : World} (h : KeepC Bn A B) (k : KeepC Bn B C) : KeepC Bn A C := fun j => (k j).trans (h j)
theorem KeepC.put {Bn : Nat} {W : World} {l : Nat} {o o' : Obj} (h : Bn < l) (_ : W.heap[l]? = some o) : KeepC Bn W (W.putObj l o') := fun j => by
  refine World.cell?_of_block ?_
  exact (grownBy_putObj' W l o').block Bn (by have := (Array.getElem?_eq_some_iff.1 ‹_›).1; omega) (by simp; omega)
set_option maxRecDepth 100000 in
set_option maxHeartbeats 2000000 in
theorem each1_in (F : Fence) (n : Nat) (hF : F.fn 86) (hro : F.round = none) (hn : 1 ≤ n) (l Bn : Nat) (h : List Int) (J Jx : List KB → World → Prop)
    (hl : h.length = 32) (hb : ∀ j, 0 ≤ h.getD j 0 ∧ h.getD j 0 ≤ 255)
    (hY : ∀ pre x W, J pre W → pre.length < 256 → YieldAt F (n - 1) Tryd.prog l (encB x) W fun e W' =>
      (e = .returned (.bool true) ∧ J (pre ++ [x]) W' ∧ KeepC Bn W W') ∨ (e = .returned (.bool false) ∧ Jx (pre ++ [x]) W'))
    (W : World) (hBn : ∀ j, j < 32 → W.cell? ⟨Bn, j, none⟩ = some (.int .u8 (h.getD j 0))) (h0 : J [] W) :
    CallsIn F n Tryd.prog 86 #[.func (.yield l) #[] #[], .pointer (some ⟨Bn, 0, none⟩)] W fun e W' => (∃ v, e = .returned v) ∧
      ((∃ ys, ys = bitsOf h 256 ∧ J ys W') ∨ (∃ pre, pre <+: bitsOf h 256 ∧ Jx pre W')) := by
  refine callsIn_of_wp Tryd.func86 rfl hF ?_ hro
  simp only [Tryd.ntmps86, List.size_toArray, List.length_cons, List.length_nil, Nat.reduceAdd, Nat.reduceSub, Array.replicate_succ, Array.replicate_zero, List.push_toArray, List.append_toArray, List.nil_append, List.cons_append]
  gi_wp2
  gi_loopw [4] (fun i wr => ∃ k : Nat, k ≤ 256 ∧ i = .int .i64 k ∧ J (bitsOf h k) wr ∧ (∀ j, j < 32 → wr.cell? ⟨Bn, j, none⟩ = some (.int .u8 (h.getD j 0)))) (fun i wr => 256 - (intOf i).toNat)
  case atStart => exact ⟨0, by omega, rfl, h0, hBn⟩
  case round =>
    obtain ⟨k, hk, rfl, hJ, hc⟩ := hrel
    by_cases hk2 : (k : Int) < 256
    · obtain ⟨fn, tmps, assign, body, hy, hR⟩ := hY (bitsOf h k) (k, bitI h k) wr hJ (by rw [bitsOf_len]; omega)
      unfold encB at hy
      dsimp only at hy
      have hk8 : (k : Int) / 8 < 32 := by omega
      have hk0 : (0 : Int) ≤ (k : Int) / 8 := by omega
      have c0 := hc (k / 8) (by omega)
      obtain ⟨x, hx⟩ : ∃ x, h.getD (k / 8) 0 = x := ⟨_, rfl⟩
      rw [hx] at c0
      have hxb : 0 ≤ x ∧ x ≤ 255 := hx ▸ hb (k / 8)
      have HX := Lib.hid hx
      have HC := Lib.hid hc
      have HBN := Lib.hid hBn
      clear hx hc hBn
      have hm : k % 8 = 0 ∨ k % 8 = 1 ∨ k % 8 = 2 ∨ k % 8 = 3 ∨ k % 8 = 4 ∨ k % 8 = 5 ∨ k % 8 = 6 ∨ k % 8 = 7 := by omega
      have step : ∀ (m : Nat) (p : Int), k % 8 = m → ((2 ^ (7 - m) : Nat) : Int) = p → 0 < p → bitI h k = x / p % 2 ∧ bits .and .u8 (x / p) 1 = x / p % 2 ∧ wrap64 (x / p % 2) = x / p % 2 ∧ (k : Int) % 8 = m := fun m p h1 h2 hp => by
        have hd : x / p ≤ x := Int.ediv_le_self p hxb.1
        have hd0 : 0 ≤ x / p := Int.ediv_nonneg hxb.1 (by omega)
        refine ⟨by unfold bitI; rw [HX.out, h1, h2], u8_and1 _ hd0 (by omega), by unfold wrap64; omega, by omega⟩
      have ST := Lib.hid step
      clear step
      rcases hm with hm | hm | hm | hm | hm | hm | hm | hm
      · obtain ⟨e1, e2, e3, e4⟩ := ST.out 0 128 hm (by decide) (by decide)
        clear ST hm hY
        rw [e1] at hy
        have E1 := Lib.hid e1
        simp only [Int.cast_ofNat_Int, Int.natCast_zero] at e4
        clear e1
        gi_wp2
        refine hR.mono ?_
        rintro e W3 (⟨rfl, hJ3, hk3⟩ | ⟨rfl, hJx3⟩)
        · gi_wp2
          go_roundw
          case rel => exact ⟨k + 1, by omega, by go_num, by rw [bitsOf_succ]; exact hJ3, fun j hj => (hk3 j).trans (HC.out j hj)⟩
          case measure => simp [intOf]; omega
        · gi_wp2
          refine bodyPost_ret (results_none rfl _ _ _) rfl ?_
          exact ⟨⟨_, rfl⟩, .inr ⟨bitsOf h k ++ [(k, bitI h k)], by rw [← bitsOf_succ]; exact bitsOf_prefix h _ _ (by omega), hJx3⟩⟩
      · obtain ⟨e1, e2, e3, e4⟩ := ST.out 1 64 hm (by decide) (by decide)
        clear ST hm hY
        rw [e1] at hy
        have E1 := Lib.hid e1
        simp only [Int.cast_ofNat_Int] at e4
        clear e1
        gi_wp2
        refine hR.mono ?_
        rintro e W3 (⟨rfl, hJ3, hk3⟩ | ⟨rfl, hJx3⟩)
        · gi_wp2
          go_roundw
          case rel => exact ⟨k + 1, by omega, by go_num, by rw [bitsOf_succ]; exact hJ3, fun j hj => (hk3 j).trans (HC.out j hj)⟩
          case measure => simp [intOf]; omega
        · gi_wp2
          refine bodyPost_ret (results_none rfl _ _ _) rfl ?_
          exact ⟨⟨_, rfl⟩, .inr ⟨bitsOf h k ++ [(k, bitI h k)], by rw [← bitsOf_succ]; exact bitsOf_prefix h _ _ (by omega), hJx3⟩⟩
      · obtain ⟨e1, e2, e3, e4⟩ := ST.out 2 32 hm (by decide) (by decide)
        clear ST hm hY
        rw [e1] at hy
        have E1 := Lib.hid e1
        simp only [Int.cast_ofNat_Int] at e4
        clear e1
        gi_wp2
        refine hR.mono ?_
        rintro e W3 (⟨rfl, hJ3, hk3⟩ | ⟨rfl, hJx3⟩)
        · gi_wp2
          go_roundw
          case rel => exact ⟨k + 1, by omega, by go_num, by rw [bitsOf_succ]; exact hJ3, fun j hj => (hk3 j).trans (HC.out j hj)⟩
          case measure => simp [intOf]; omega
        · gi_wp2
          refine bodyPost_ret (results_none rfl _ _ _) rfl ?_
          exact ⟨⟨_, rfl⟩, .inr ⟨bitsOf h k ++ [(k, bitI h k)], by rw [← bitsOf_succ]; exact bitsOf_prefix h _ _ (by omega), hJx3⟩⟩
      · obtain ⟨e1, e2, e3, e4⟩ := ST.out 3 16 hm (by decide) (by decide)
        clear ST hm hY
        rw [e1] at hy
        have E1 := Lib.hid e1
        simp only [Int.cast_ofNat_Int] at e4
        clear e1
        gi_wp2
        refine hR.mono ?_
        rintro e W3 (⟨rfl, hJ3, hk3⟩ | ⟨rfl, hJx3⟩)
        · gi_wp2
          go_roundw
          case rel => exact ⟨k + 1, by omega, by go_num, by rw [bitsOf_succ]; exact hJ3, fun j hj => (hk3 j).trans (HC.out j hj)⟩
          case measure => simp [intOf]; omega
        · gi_wp2
          refine bodyPost_ret (results_none rfl _ _ _) rfl ?_
          exact ⟨⟨_, rfl⟩, .inr ⟨bitsOf h k ++ [(k, bitI h k)], by rw [← bitsOf_succ]; exact bitsOf_prefix h _ _ (by omega), hJx3⟩⟩
      · obtain ⟨e1, e2, e3, e4⟩ := ST.out 4 8 hm (by decide) (by decide)
        clear ST hm hY
        rw [e1] at hy
        have E1 := Lib.hid e1
        simp only [Int.cast_ofNat_Int] at e4
        clear e1
        gi_wp2
        refine hR.mono ?_
        rintro e W3 (⟨rfl, hJ3, hk3⟩ | ⟨rfl, hJx3⟩)
        · gi_wp2
          go_roundw
          case rel => exact ⟨k + 1, by omega, by go_num, by rw [bitsOf_succ]; exact hJ3, fun j hj => (hk3 j).trans (HC.out j hj)⟩
          case measure => simp [intOf]; omega
        · gi_wp2
          refine bodyPost_ret (results_none rfl _ _ _) rfl ?_
          exact ⟨⟨_, rfl⟩, .inr ⟨bitsOf h k ++ [(k, bitI h k)], by rw [← bitsOf_succ]; exact bitsOf_prefix h _ _ (by omega), hJx3⟩⟩
      · obtain ⟨e1, e2, e3, e4⟩ := ST.out 5 4 hm (by decide) (by decide)
        clear ST hm hY
        rw [e1] at hy
        have E1 := Lib.hid e1
        simp only [Int.cast_ofNat_Int] at e4
        clear e1
        gi_wp2
        refine hR.mono ?_
        rintro e W3 (⟨rfl, hJ3, hk3⟩ | ⟨rfl, hJx3⟩)
        · gi_wp2
          go_roundw
          case rel => exact ⟨k + 1, by omega, by go_num, by rw [bitsOf_succ]; exact hJ3, fun j hj => (hk3 j).trans (HC.out j hj)⟩
          case measure => simp [intOf]; omega
        · gi_wp2
          refine bodyPost_ret (results_none rfl _ _ _) rfl ?_
          exact ⟨⟨_, rfl⟩, .inr ⟨bitsOf h k ++ [(k, bitI h k)], by rw [← bitsOf_succ]; exact bitsOf_prefix h _ _ (by omega), hJx3⟩⟩
      · obtain ⟨e1, e2, e3, e4⟩ := ST.out 6 2 hm (by decide) (by decide)
        clear ST hm hY
        rw [e1] at hy
        have E1 := Lib.hid e1
        simp only [Int.cast_ofNat_Int] at e4
        clear e1
        gi_wp2
        refine hR.mono ?_
        rintro e W3 (⟨rfl, hJ3, hk3⟩ | ⟨rfl, hJx3⟩)
        · gi_wp2
          go_roundw
          case rel => exact ⟨k + 1, by omega, by go_num, by rw [bitsOf_succ]; exact hJ3, fun j hj => (hk3 j).trans (HC.out j hj)⟩
          case measure => simp [intOf]; omega
        · gi_wp2
          refine bodyPost_ret (results_none rfl _ _ _) rfl ?_
          exact ⟨⟨_, rfl⟩, .inr ⟨bitsOf h k ++ [(k, bitI h k)], by rw [← bitsOf_succ]; exact bitsOf_prefix h _ _ (by omega), hJx3⟩⟩
      · obtain ⟨e1, e2, e3, e4⟩ := ST.out 7 1 hm (by decide) (by decide)
        clear ST hm hY
        rw [e1] at hy
        have E1 := Lib.hid e1
        simp only [Int.cast_ofNat_Int] at e4
        simp only [Int.ediv_one] at e1 e2 e3 hy
        clear e1
        gi_wp2
        refine hR.mono ?_
        rintro e W3 (⟨rfl, hJ3, hk3⟩ | ⟨rfl, hJx3⟩)
        · gi_wp2
          go_roundw
          case rel => exact ⟨k + 1, by omega, by go_num, by rw [bitsOf_succ]; exact hJ3, fun j hj => (hk3 j).trans (HC.out j hj)⟩
          case measure => simp [intOf]; omega
        · gi_wp2
          refine bodyPost_ret (results_none rfl _ _ _) rfl ?_
          exact ⟨⟨_, rfl⟩, .inr ⟨bitsOf h k ++ [(k, bitI h k)], by rw [← bitsOf_succ]; exact bitsOf_prefix h _ _ (by omega), hJx3⟩⟩
    · obtain rfl : k = 256 := by omega
      clear hY hBn hc
      gi_wp2
      go_end0
      first | exact ⟨⟨_, rfl⟩, .inl ⟨_, rfl, hJ⟩⟩ | exact ⟨⟨_, rfl⟩, .inl hJ⟩ | exact hJ
set_option maxHeartbeats 1000000 in
theorem each_in (F : Fence) (n : Nat) (hF : F.fn 71) (hro : F.round = none) (cx : Array Value) (w : World) :
    CallsIn F n Tryd.prog 71 #[.agg cx] w fun e w' => e = .returned (.func (.func 86) #[] #[.pointer (some ⟨w.heap.size, 0, none⟩)]) ∧ w' = w.alloc (.cells cx 25) := by
  refine callsIn_of_wp Tryd.func71 rfl hF ?_ hro
  simp only [Tryd.ntmps71, List.size_toArray, List.length_cons, List.length_nil, Nat.reduceAdd, Nat.reduceSub, Array.replicate_succ, Array.replicate_zero, List.push_toArray, List.append_toArray, List.nil_append, List.cons_append]
  gi_wp2
  go_ret
  exact ⟨rfl, rfl⟩
theorem each_stops (F : Fence) (n : Nat) (hF : F.fn 86) (hro : F.round = none) (hn : 1 ≤ n) (Bn : Nat) (h : List Int) (w : World) (hlt : Bn < w.heap.size) (hl : h.length = 32) (hb : ∀ j, 0 ≤ h.getD j 0 ∧ h.getD j 0 ≤ 255)
    (hc : ∀ j, j < 32 → w.cell? ⟨Bn, j, none⟩ = some (.int .u8 (h.getD j 0))) :
    SeqStopsK F n Tryd.prog 86 #[.pointer (some ⟨Bn, 0, none⟩)] encB (KeepC Bn) (fun ys => ys = bitsOf h 256) (fun pre => pre <+: bitsOf h 256) 256 w := fun l J Jx W hW _ _ hY h0 =>
  each1_in F n hF hro hn l Bn h J Jx hl hb hY W (fun j hj => (hW.cell (p := ⟨Bn, j, none⟩) hlt).trans (hc j hj)) h0
end Go.Proofs.YtaahffminoekfaaDoor
