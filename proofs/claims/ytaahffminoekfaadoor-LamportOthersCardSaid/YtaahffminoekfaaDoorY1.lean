/-
  The digits of a hash, one by one: walked.
-/
import Derived.Test.YtaahffminoekfaaDoorA9
import Derived.Test.YtaahffminoekfaaDoorGX
import Derived.RangeFuncNested
import Derived.RangeFuncBound
import Derived.RangeFuncCalls
import Derived.RangeFuncLeaves
import Derived.RangeFuncBox
import Derived.Shelf.Abstract
import Derived.Shelf.RegionOpen
import Derived.OwnWalkIn
import Derived.TacticsInMore
import Derived.LoopNIn
import Derived.LoopIn
import Derived.Maps.AppendAt
namespace Go.Proofs.YtaahffminoekfaaDoor
open Go.RowKit Go.Shelf
attribute [local go_sem] Oper.semAt_some
/-- A digit of a hash. -/
def dgI (h : List Int) (k : Nat) : Int := if k % 2 = 0 then h.getD (k / 2) 0 / 16 else h.getD (k / 2) 0 % 16
def dgs (h : List Int) (n : Nat) : List Int := (List.range n).map (dgI h)
theorem dgs_succ (h : List Int) (n : Nat) : dgs h (n + 1) = dgs h n ++ [dgI h n] := by
  unfold dgs; rw [List.range_succ, List.map_append]; rfl
theorem dgs_len (h : List Int) (n : Nat) : (dgs h n).length = n := by simp [dgs]
theorem dgs_prefix (h : List Int) (n m : Nat) (hn : n ≤ m) : dgs h n <+: dgs h m := by
  obtain ⟨d, rfl⟩ := Nat.exists_eq_add_of_le hn
  exact ⟨(List.range d).map fun k => dgI h (n + k), by simp [dgs, List.range_add, Function.comp_def]⟩
theorem dgI_bd (h : List Int) (hb : Bytes h) (k : Nat) : 0 ≤ dgI h k ∧ dgI h k ≤ 15 := by
  have := hb (k / 2)
  unfold dgI
  split <;> omega
def encD (x : Int) : Array Value := #[.int .i64 x]
set_option maxRecDepth 100000 in
set_option maxHeartbeats 2000000 in
theorem halves1_in (n : Nat) (hn : 1 ≤ n) (l Bn : Nat) (h : List Int) (hl : h.length = 32) (hb : Bytes h) (J Jx : List Int → World → Prop)
    (hY : ∀ pre x W, J pre W → pre.length < 64 → YieldAt Fence.wide (n - 1) Tryd.prog l (encD x) W fun e W' =>
      (e = .returned (.bool true) ∧ J (pre ++ [x]) W' ∧ True) ∨ (e = .returned (.bool false) ∧ Jx (pre ++ [x]) W'))
    (W : World) (hBn : W.heap[Bn]? = some (.cells (u8s h).toArray 25 (0, 0))) (h0 : J [] W) :
    CallsIn Fence.wide n Tryd.prog 84 #[.func (.yield l) #[] #[], .pointer (some ⟨Bn, 0, none⟩)] W fun e W' => (∃ v, e = .returned v) ∧
      ((∃ ys, ys = dgs h 64 ∧ J ys W') ∨ (∃ pre, pre <+: dgs h 64 ∧ Jx pre W')) := by
  have hsz := u8s_size hl
  have hidx := fun k hk W => index25 h k hl hk W
  obtain ⟨hc, hhc⟩ : ∃ hc, (u8s h).toArray = hc := ⟨_, rfl⟩
  rw [hhc] at hsz hidx hBn
  have HSZ := Lib.hid hsz
  have HI := Lib.hid hidx
  have HG := Lib.hid hBn
  have HB := Lib.hid hb
  have HYY := Lib.hid hY
  clear hsz hidx hBn hb hY hhc
  refine callsIn_of_wp Tryd.func84 rfl trivial ?_ rfl
  simp only [Tryd.ntmps84, List.size_toArray, List.length_cons, List.length_nil, Nat.reduceAdd, Nat.reduceSub, Array.replicate_succ, Array.replicate_zero, List.push_toArray, List.append_toArray, List.nil_append, List.cons_append]
  gi_wp2_with (refine wpListIn_gives wideF rfl (fun c hc => by cases hc) (Φ := fun v W' => v = .agg hc ∧ W' = _) (gv_load_row rfl rfl HG.out Tryd.underlying25 rfl HSZ.out ⟨rfl, rfl⟩) ?_; rintro v W' ⟨rfl, rfl⟩)
  gi_loopw [6] (fun i wr => ∃ k : Nat, k ≤ 32 ∧ i = .int .i64 k ∧ J (dgs h (2 * k)) wr) (fun i wr => 32 - (intOf i).toNat)
  case atStart => exact ⟨0, by omega, rfl, h0⟩
  case round =>
    obtain ⟨k, hk, rfl, hJ⟩ := hrel
    by_cases hk2 : (k : Int) < 32
    · obtain ⟨fn, tmps, assign, body, hy, hR⟩ := HYY.out (dgs h (2 * k)) (dgI h (2 * k)) wr hJ (by rw [dgs_len]; omega)
      have i0 := HI.out k (by omega)
      have e1 : dgI h (2 * k) = h.getD k 0 / 16 := by unfold dgI; rw [if_pos (by omega), show 2 * k / 2 = k by omega]
      have e2 : dgI h (2 * k + 1) = h.getD k 0 % 16 := by unfold dgI; rw [if_neg (by omega), show (2 * k + 1) / 2 = k by omega]
      have hx := HB.out k
      have hp1 : dgs h (2 * k) ++ [dgI h (2 * k)] = dgs h (2 * k + 1) := (dgs_succ h _).symm
      have hp2 : dgs h (2 * k + 1) ++ [dgI h (2 * k + 1)] = dgs h (2 * (k + 1)) := (dgs_succ h _).symm
      rw [hp1] at hR
      obtain ⟨x, hxx⟩ : ∃ x, h.getD k 0 = x := ⟨_, rfl⟩
      rw [hxx] at i0 e1 e2 hx
      unfold encD at hy
      rw [e1] at hy
      have E2 := Lib.hid e2
      have P2 := Lib.hid hp2
      have R1 := Lib.hid hR
      clear e1 e2 hp1 hp2 hxx hR
      gi_wp2_with fail
      refine R1.out.mono ?_
      rintro e W3 (⟨rfl, hJ3, _⟩ | ⟨rfl, hJx3⟩)
      · obtain ⟨fn2, tmps2, assign2, body2, hy2, hR2⟩ := HYY.out (dgs h (2 * k + 1)) (dgI h (2 * k + 1)) W3 hJ3 (by rw [dgs_len]; omega)
        rw [P2.out] at hR2
        unfold encD at hy2
        rw [E2.out] at hy2
        have R2 := Lib.hid hR2
        clear hR2 hy
        gi_wp2_with fail
        refine R2.out.mono ?_
        rintro e W4 (⟨rfl, hJ4, _⟩ | ⟨rfl, hJx4⟩)
        · clear hy2
          gi_wp2
          go_roundw
          case rel => exact ⟨k + 1, by omega, by go_num, hJ4⟩
          case measure => simp [intOf]; omega
        · clear hy2
          gi_wp2
          refine bodyPost_ret (results_none rfl _ _ _) rfl ?_
          exact ⟨⟨_, rfl⟩, .inr ⟨_, dgs_prefix h _ _ (by omega), hJx4⟩⟩
      · clear hy
        gi_wp2
        refine ⟨fun _ h => (by cases h), ?_⟩
        gi_wp2
        refine bodyPost_ret (results_none rfl _ _ _) rfl ?_
        exact ⟨⟨_, rfl⟩, .inr ⟨_, dgs_prefix h _ _ (by omega), hJx3⟩⟩
    · obtain rfl : k = 32 := by omega
      gi_wp2
      go_end0
      first | exact ⟨⟨_, rfl⟩, .inl ⟨_, rfl, hJ⟩⟩ | exact ⟨⟨_, rfl⟩, .inl hJ⟩ | exact hJ
set_option maxRecDepth 100000 in
set_option maxHeartbeats 1000000 in
theorem halves_in (n : Nat) (cx : Array Value) (w : World) :
    CallsIn Fence.wide n Tryd.prog 68 #[.agg cx] w fun e w' => e = .returned (.func (.func 84) #[] #[.pointer (some ⟨w.heap.size, 0, none⟩)]) ∧ w' = w.alloc (.cells cx 25) := by
  refine callsIn_of_wp Tryd.func68 rfl trivial ?_ rfl
  simp only [Tryd.ntmps68, List.size_toArray, List.length_cons, List.length_nil, Nat.reduceAdd, Nat.reduceSub, Array.replicate_succ, Array.replicate_zero, List.push_toArray, List.append_toArray, List.nil_append, List.cons_append]
  gi_wp2
  go_ret
  exact ⟨rfl, rfl⟩
theorem halves_stops (n : Nat) (hn : 1 ≤ n) (Bn : Nat) (h : List Int) (w : World) (hlt : Bn < w.heap.size) (hl : h.length = 32) (hb : Bytes h) (hBn : w.heap[Bn]? = some (.cells (u8s h).toArray 25 (0, 0))) :
    SeqStopsK Fence.wide n Tryd.prog 84 #[.pointer (some ⟨Bn, 0, none⟩)] encD (fun _ _ => True) (fun ys => ys = dgs h 64) (fun pre => pre <+: dgs h 64) 64 w := fun l J Jx W hW _ _ hY h0 =>
  halves1_in n hn l Bn h hl hb J Jx hY W ((hW.block Bn hlt).trans hBn) h0
end Go.Proofs.YtaahffminoekfaaDoor
