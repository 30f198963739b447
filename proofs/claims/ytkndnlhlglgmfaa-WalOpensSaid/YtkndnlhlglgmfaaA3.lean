import Derived.Test.YtkndnlhlglgmfaaProg
import Derived.WalkKit
import Derived.Deep.QuietTactic
import Derived.BigQuiet
import Derived.Lib.Hide
import Derived.KernelRfl
import Derived.Laws.MakeOwn
import Derived.Laws.CopyOwn
import Derived.Deep.WholeRow
import Derived.WalkSpells
import Derived.StillTailTactics
import Derived.Test.YtkndnlhlglgmfaaC
import Derived.WalkSpells
namespace Go.Proofs.Ytkndnlhlglgmfaa
open Go.RowKit
def Room (n : Nat) : Prop := n ≤ 140737488355328
def ClonePost (v : Value) (xs : List Int) (w : World) (e : Ending) (w' : World) : Prop :=
  ∃ v', e = .returned v' ∧ w'.ownsRow w.heap.size 5 1 v' xs.length (u8s xs) ∧ Below w.heap.size w w' ∧ (v' = .slice none 0 0 ↔ v = .slice none 0 0)
set_option maxRecDepth 100000 in
/-- bytes.Clone. -/
theorem clone_any (v : Value) (xs : List Int) (w : World) (hs : SlB w v xs) (hn : Room xs.length) :
    Calls Try.prog 50 #[v] w (ClonePost v xs w) := by
  have Hn : Hid (Room xs.length) := Lib.hid hn
  clear hn
  have hq := fun (W : World) (A : Option Addr) (n c : Nat) => Lib.run_eql_slice_nil (P := Try.prog) W 28 5 A n c 0 0 Try.underlying28
  rcases hs with ⟨rfl, h0, h1⟩ | ⟨ad, c, rfl, hl, hc, hc2, hr⟩
  · go_enter Try.func50, Try.ntmps50
    go_wp2
    go_ret
    refine ⟨_, rfl, ?_, Below.refl _ _, by simp⟩
    rw [h0, h1]
    exact World.ownsRow_nil _ _ _ _
  · have HS : Hid (Src w (.slice (some ad) xs.length c) 1 xs.length (u8s xs)) := Lib.hid (.inr ⟨ad, c, rfl, hl, hc, hc2, hr⟩)
    clear hl hr
    go_enter Try.func50, Try.ntmps50
    go_wp2_with (at_builtin; refine ap_own rfl _ _ 28 rfl w.heap.size 5 (.int .u8 0) 1 1 Try.underlying28 (by kernel_rfl) rfl (by decide) _ 0 [] rfl ?_ _ rfl xs.length (u8s xs) ?_ (u8s_one xs) (by have := Hn.out; unfold Room at this; omega) (by have := Hn.out; unfold Room at this; omega) (by simp) ?_)
    case refine_1 => exact World.ownsRow_made w #[] 0 (Nat.le_refl _) (by simp [maxLen]) (by simp)
    case refine_2 => exact HS.out.chg ((Chg.refl (fun _ => False) w).alloc _) (fun _ _ _ h => h) (by decide)
    case refine_3 =>
      intro v' w' ho hg hn hb
      go_wp2
      go_ret
      exact ⟨_, rfl, ho, (((Chg.refl (fun _ => False) w).alloc _).then (Chg.of_grownBy hg) (fun i hi => .inr (by simp [Value.ownBlock] at hi; omega))).below_none (fun _ _ h => h), by simpa using hn⟩
end Go.Proofs.Ytkndnlhlglgmfaa
