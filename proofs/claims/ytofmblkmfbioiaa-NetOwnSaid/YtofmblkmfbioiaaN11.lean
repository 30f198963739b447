/-
  Drop, Copy, walked.
-/
import Derived.Test.YtofmblkmfbioiaaN10
namespace Go.Proofs.Ytofmblkmfbioiaa
open Go.RowKit
/-- What Drop answers. -/
def DropPost (p : Nat) (lv : Value) (ds : List Value) (ls : List Let) (sent i : Int) (w : World) (e : Ending) (w' : World) : Prop :=
  (atI ls i = false ∧ e = .returned (.int .i64 11) ∧ Up w w') ∨
  (atI ls i = true ∧ e = .returned (.int .i64 0) ∧ ∃ lv', NetAt w' p lv' (ds.eraseIdx i.toNat) (ls.eraseIdx i.toNat) sent ∧ lv'.ownBlock = lv.ownBlock ∧ Chg (fun j => j = p ∨ lv.ownBlock = some j) w w')
set_option maxRecDepth 100000 in
set_option maxHeartbeats 4000000 in
theorem drop_any (w : World) (p : Nat) (lv : Value) (ds : List Value) (ls : List Let) (sent i : Int) (h : NetAt w p lv ds ls sent) (hn : ls.length ≤ 100000) :
    Calls Try.prog 14 #[.pointer (some ⟨p, 0, none⟩), .int .i64 i] w (DropPost p lv ds ls sent i w) := by
  have HT := Lib.hid (take_any w p lv ds ls sent i h hn)
  clear h
  go_enter Try.func14, Try.ntmps14
  go_wp2_with fail
  refine HT.out.mono ?_
  rintro e W1 (⟨ha, rfl, hu⟩ | ⟨ha, d, rfl, hd, lv', hn1, hb, hc⟩)
  · have HU := Lib.hid hu
    have HA := Lib.hid ha
    clear hu ha
    go_wp2_with fail
    go_ret
    exact .inl ⟨HA.out, rfl, HU.out.alloc _⟩
  · obtain ⟨A, c, rfl⟩ := own_shape hd
    have HA := Lib.hid ha
    have HN1 := Lib.hid hn1
    have HB := Lib.hid hb
    have HC := Lib.hid hc
    clear ha hd hn1 hb hc
    go_wp2_with fail
    go_ret
    exact .inr ⟨HA.out, rfl, lv', HN1.out.up ((Chg.refl _ W1).alloc _), HB.out, HC.out.alloc _⟩
end Go.Proofs.Ytofmblkmfbioiaa
