/-
  Between: the question, and the first letter that goes.
-/
import Derived.Test.YtofmblkmfbioiaaN25
namespace Go.Proofs.Ytofmblkmfbioiaa
open Go.RowKit
/-- Is a letter from one of two to the other one? -/
def betI (a b f t : Int) : Bool := (f == a && t == b) || (f == b && t == a)
set_option maxRecDepth 100000 in
set_option maxHeartbeats 4000000 in
theorem between_any (w : World) (a b f t : Int) (A : Option Addr) (n c : Nat) : Calls Try.prog 33 #[.agg #[.int .i64 f, .int .i64 t, .slice A n c], .int .i64 a, .int .i64 b] w (fun e w' => e = .returned (.bool (betI a b f t)) ∧ Below w.heap.size w w') := by
  unfold betI
  have HB : Below w.heap.size w (w.alloc (.cells #[.int .i64 f, .int .i64 t, .slice A n c] 29)) := ((Chg.refl (fun _ => False) w).alloc _).below_none (fun _ _ h => h)
  have HB := Lib.hid HB
  go_enter Try.func33, Try.ntmps33
  cases h1 : (f == a) <;> cases h2 : (t == b) <;> cases h3 : (f == b) <;> cases h4 : (t == a) <;>
    (go_wp2_with fail
     go_ret
     exact ⟨rfl, HB.out⟩)
set_option maxRecDepth 100000 in
set_option maxHeartbeats 4000000 in
theorem gone_any (w : World) (a b f t : Int) (A : Option Addr) (n c : Nat) (ga gb : Nat) (ha : w.heap[ga]? = some (.cells #[.int .i64 a] 3 (0, 0))) (hb : w.heap[gb]? = some (.cells #[.int .i64 b] 3 (0, 0))) :
    Calls Try.prog 32 #[.agg #[.int .i64 f, .int .i64 t, .slice A n c], .pointer (some ⟨ga, 0, none⟩), .pointer (some ⟨gb, 0, none⟩)] w (fun e w' => e = .returned (.bool (!betI a b f t)) ∧ Below w.heap.size w w') := by
  obtain ⟨W1, hW1⟩ : ∃ W, W = w.alloc (.cells #[.int .i64 f, .int .i64 t, .slice A n c] 29) := ⟨_, rfl⟩
  have hu1 : Up w W1 := by rw [hW1]; exact (Chg.refl _ w).alloc _
  have c0 : (w.alloc (.cells #[.int .i64 f, .int .i64 t, .slice A n c] 29)).cell? ⟨ga, 0, none⟩ = some (.int .i64 a) := by rw [← hW1]; exact cell_of_row W1 ga 0 _ _ _ (hu1.heap ha (fun h => h))
  have c1 : (w.alloc (.cells #[.int .i64 f, .int .i64 t, .slice A n c] 29)).cell? ⟨gb, 0, none⟩ = some (.int .i64 b) := by rw [← hW1]; exact cell_of_row W1 gb 0 _ _ _ (hu1.heap hb (fun h => h))
  have HW1 := Lib.hid hW1
  have HU1 := Lib.hid hu1
  have HC := Lib.hid (between_any W1 a b f t A n c)
  clear ha hb hu1 hW1
  go_enter Try.func32, Try.ntmps32
  go_wp2_with fail
  rw [← HW1.out]
  refine HC.out.mono ?_
  rintro e W2 ⟨rfl, hb2⟩
  have HB2 := Lib.hid hb2
  clear hb2
  go_wp2_with fail
  go_ret
  exact ⟨rfl, (HU1.out.below_none (fun _ _ h => h)).trans (HB2.out.mono HU1.out.size)⟩
end Go.Proofs.Ytofmblkmfbioiaa
