/-
  Numbers in bytes: walked.
-/
import Derived.Test.YtaahffminoekfaaDoorT2
namespace Go.Proofs.YtaahffminoekfaaDoor
open Go.RowKit
/-- A row of one's own was made. -/
def RowPost (S : Nat) (l : List Int) (w : World) (e : Ending) (w' : World) : Prop := ∃ A c, e = .returned (.slice A S c) ∧ w'.ownsRow w.heap.size 5 1 (.slice A S c) S (u8s l) ∧ Below w.heap.size w w'
set_option maxRecDepth 100000 in
set_option maxHeartbeats 1000000 in
theorem number2_any (n : Int) (w : World) (h1 : -9223372036854775808 ≤ n) (h2 : n ≤ 9223372036854775807) :
    Calls Tryd.prog 67 #[.int .i64 n, .int .i64 2] w (RowPost 2 [n / 256 % 256, n % 256] w) := by
  go_enter Tryd.func67, Tryd.ntmps67
  go_wp2_with fail
  refine wp_loop_rounds 3 ?_
  obtain ⟨A1, c1, w1, r1, o1, g1, _⟩ := push_run (P := Tryd.prog) w 22 22 w.heap.size 5 (.int .u8 0) 1 Tryd.underlying22 (by kernel_rfl) rfl (.slice none 0 0) 0 (u8s []) (World.ownsRow_nil _ _ _ _) [.int .u8 (n / 256 % 256)] 1 rfl (by simp [Value.oneCell']) (by omega) (by omega) (Nat.le_refl _)
  have B1 : Hid (Below w.heap.size w w1) := Lib.hid ((g1.mono (T := fun i => w.heap.size ≤ i) (fun i _ h => by simp [Value.ownBlock] at h)).below (Nat.le_refl _) (fun _ h => h))
  have R1 := Lib.hid r1
  have O1 : Hid (w1.ownsRow w.heap.size 5 1 (.slice A1 1 c1) 1 (u8s [n / 256 % 256])) := Lib.hid (by simpa [u8s] using o1)
  clear r1 o1 g1
  rw [_root_.Go.rounds_succ]
  go_wp2_with (at_builtin; refine wpList_run_append rfl _ _ 22 rfl _ _ rfl rfl 22 rfl R1.out ?_)
  obtain ⟨A2, c2, w2, r2, o2, g2, _⟩ := push_run (P := Tryd.prog) w1 22 22 w.heap.size 5 (.int .u8 0) 1 Tryd.underlying22 (by kernel_rfl) rfl (.slice A1 1 c1) 1 (u8s [n / 256 % 256]) (O1.out) [.int .u8 (n % 256)] 1 rfl (by simp [Value.oneCell']) (by omega) (by omega) (B1.out.size)
  have B2 : Hid (Below w.heap.size w w2) := Lib.hid (((Chg.of_below B1.out (fun i => w.heap.size ≤ i)).then g2 (fun i hi => .inl (O1.out.lt i hi).1)).below (Nat.le_refl _) (fun _ h => h))
  have R2 := Lib.hid r2
  have O2 : Hid (w2.ownsRow w.heap.size 5 1 (.slice A2 2 c2) 2 (u8s [n / 256 % 256, n % 256])) := Lib.hid (by simpa [u8s] using o2)
  clear r2 o2 g2
  rw [_root_.Go.rounds_succ]
  go_wp2_with (at_builtin; refine wpList_run_append rfl _ _ 22 rfl _ _ rfl rfl 22 rfl R2.out ?_)
  rw [_root_.Go.rounds_succ]
  go_wp2
  go_ret
  exact ⟨A2, c2, rfl, O2.out, B2.out⟩
set_option maxRecDepth 100000 in
set_option maxHeartbeats 1000000 in
theorem number4_any (n : Int) (w : World) (h1 : -9223372036854775808 ≤ n) (h2 : n ≤ 9223372036854775807) :
    Calls Tryd.prog 67 #[.int .i64 n, .int .i64 4] w (RowPost 4 [n / 16777216 % 256, n / 65536 % 256, n / 256 % 256, n % 256] w) := by
  go_enter Tryd.func67, Tryd.ntmps67
  go_wp2_with fail
  refine wp_loop_rounds 5 ?_
  obtain ⟨A1, c1, w1, r1, o1, g1, _⟩ := push_run (P := Tryd.prog) w 22 22 w.heap.size 5 (.int .u8 0) 1 Tryd.underlying22 (by kernel_rfl) rfl (.slice none 0 0) 0 (u8s []) (World.ownsRow_nil _ _ _ _) [.int .u8 (n / 16777216 % 256)] 1 rfl (by simp [Value.oneCell']) (by omega) (by omega) (Nat.le_refl _)
  have B1 : Hid (Below w.heap.size w w1) := Lib.hid ((g1.mono (T := fun i => w.heap.size ≤ i) (fun i _ h => by simp [Value.ownBlock] at h)).below (Nat.le_refl _) (fun _ h => h))
  have R1 := Lib.hid r1
  have O1 : Hid (w1.ownsRow w.heap.size 5 1 (.slice A1 1 c1) 1 (u8s [n / 16777216 % 256])) := Lib.hid (by simpa [u8s] using o1)
  clear r1 o1 g1
  rw [_root_.Go.rounds_succ]
  go_wp2_with (at_builtin; refine wpList_run_append rfl _ _ 22 rfl _ _ rfl rfl 22 rfl R1.out ?_)
  obtain ⟨A2, c2, w2, r2, o2, g2, _⟩ := push_run (P := Tryd.prog) w1 22 22 w.heap.size 5 (.int .u8 0) 1 Tryd.underlying22 (by kernel_rfl) rfl (.slice A1 1 c1) 1 (u8s [n / 16777216 % 256]) (O1.out) [.int .u8 (n / 65536 % 256)] 1 rfl (by simp [Value.oneCell']) (by omega) (by omega) (B1.out.size)
  have B2 : Hid (Below w.heap.size w w2) := Lib.hid (((Chg.of_below B1.out (fun i => w.heap.size ≤ i)).then g2 (fun i hi => .inl (O1.out.lt i hi).1)).below (Nat.le_refl _) (fun _ h => h))
  have R2 := Lib.hid r2
  have O2 : Hid (w2.ownsRow w.heap.size 5 1 (.slice A2 2 c2) 2 (u8s [n / 16777216 % 256, n / 65536 % 256])) := Lib.hid (by simpa [u8s] using o2)
  clear r2 o2 g2
  rw [_root_.Go.rounds_succ]
  go_wp2_with (at_builtin; refine wpList_run_append rfl _ _ 22 rfl _ _ rfl rfl 22 rfl R2.out ?_)
  obtain ⟨A3, c3, w3, r3, o3, g3, _⟩ := push_run (P := Tryd.prog) w2 22 22 w.heap.size 5 (.int .u8 0) 1 Tryd.underlying22 (by kernel_rfl) rfl (.slice A2 2 c2) 2 (u8s [n / 16777216 % 256, n / 65536 % 256]) (O2.out) [.int .u8 (n / 256 % 256)] 1 rfl (by simp [Value.oneCell']) (by omega) (by omega) (B2.out.size)
  have B3 : Hid (Below w.heap.size w w3) := Lib.hid (((Chg.of_below B2.out (fun i => w.heap.size ≤ i)).then g3 (fun i hi => .inl (O2.out.lt i hi).1)).below (Nat.le_refl _) (fun _ h => h))
  have R3 := Lib.hid r3
  have O3 : Hid (w3.ownsRow w.heap.size 5 1 (.slice A3 3 c3) 3 (u8s [n / 16777216 % 256, n / 65536 % 256, n / 256 % 256])) := Lib.hid (by simpa [u8s] using o3)
  clear r3 o3 g3
  rw [_root_.Go.rounds_succ]
  go_wp2_with (at_builtin; refine wpList_run_append rfl _ _ 22 rfl _ _ rfl rfl 22 rfl R3.out ?_)
  obtain ⟨A4, c4, w4, r4, o4, g4, _⟩ := push_run (P := Tryd.prog) w3 22 22 w.heap.size 5 (.int .u8 0) 1 Tryd.underlying22 (by kernel_rfl) rfl (.slice A3 3 c3) 3 (u8s [n / 16777216 % 256, n / 65536 % 256, n / 256 % 256]) (O3.out) [.int .u8 (n % 256)] 1 rfl (by simp [Value.oneCell']) (by omega) (by omega) (B3.out.size)
  have B4 : Hid (Below w.heap.size w w4) := Lib.hid (((Chg.of_below B3.out (fun i => w.heap.size ≤ i)).then g4 (fun i hi => .inl (O3.out.lt i hi).1)).below (Nat.le_refl _) (fun _ h => h))
  have R4 := Lib.hid r4
  have O4 : Hid (w4.ownsRow w.heap.size 5 1 (.slice A4 4 c4) 4 (u8s [n / 16777216 % 256, n / 65536 % 256, n / 256 % 256, n % 256])) := Lib.hid (by simpa [u8s] using o4)
  clear r4 o4 g4
  rw [_root_.Go.rounds_succ]
  go_wp2_with (at_builtin; refine wpList_run_append rfl _ _ 22 rfl _ _ rfl rfl 22 rfl R4.out ?_)
  rw [_root_.Go.rounds_succ]
  go_wp2
  go_ret
  exact ⟨A4, c4, rfl, O4.out, B4.out⟩
end Go.Proofs.YtaahffminoekfaaDoor
