/-
  The first letter that goes: slices.IndexFunc, walked.
-/
import Derived.Test.YtofmblkmfbioiaaN27
namespace Go.Proofs.Ytofmblkmfbioiaa
open Go.RowKit
def keepB (a b : Int) (x : Let) : Bool := betI a b x.1 x.2.1
def IdxPost (a b : Int) (ls : List Let) (w : World) (e : Ending) (w' : World) : Prop :=
  Below w.heap.size w w' ∧ ((e = .returned (.int .i64 (-1)) ∧ ∀ j, j < ls.length → keepB a b (ls.getD j default) = true) ∨ ∃ k : Nat, e = .returned (.int .i64 k) ∧ k < ls.length ∧ keepB a b (ls.getD k default) = false ∧ ∀ j, j < k → keepB a b (ls.getD j default) = true)
set_option maxRecDepth 100000 in
set_option maxHeartbeats 4000000 in
theorem index_any (w : World) (a b : Int) (ga gb : Nat) (ha : w.heap[ga]? = some (.cells #[.int .i64 a] 3 (0, 0))) (hb : w.heap[gb]? = some (.cells #[.int .i64 b] 3 (0, 0))) (base : Nat) (v : Value) (ds : List Value) (ls : List Let) (hc : CopR w base v ds ls) (hn : ls.length ≤ 1024) :
    Calls Try.prog 36 #[v, (.func (.func 32) #[] #[.pointer (some ⟨ga, 0, none⟩), .pointer (some ⟨gb, 0, none⟩)])] w (IdxPost a b ls w) := by
  obtain ⟨Aa, ca, rfl⟩ := own_shape hc.2.1
  have HCOP := Lib.hid hc
  have HA := Lib.hid ha
  have HB := Lib.hid hb
  clear hc ha hb
  go_enter Try.func36, Try.ntmps36
  go_wp2_with fail
  go_loopw [8] (fun i wr => ∃ (k : Nat), k ≤ ls.length ∧ i = .int .i64 k ∧ Up w wr ∧ ∀ j, j < k → keepB a b (ls.getD j default) = true) (fun i _ => ls.length - (intOf i).toNat)
  case atStart => exact ⟨0, by omega, rfl, Chg.refl _ _, fun j hj => by omega⟩
  case round =>
    rename World => wr
    obtain ⟨k, hk, rfl, hu, hall⟩ := hrel
    by_cases hk2 : (k : Int) < ls.length
    · have hkk : k < ls.length := by omega
      obtain ⟨ga', rfl⟩ : ∃ g, Aa = some ⟨g, 0, none⟩ := by
        rcases HCOP.out.2.1.2 with ⟨_, hz⟩ | ⟨g, cap, cur, he, _⟩
        · omega
        · injection he with e1; exact ⟨g, e1⟩
      obtain ⟨r0, r1, r2⟩ := row_cells HCOP.out.2.1 HCOP.out.1 k hkk
      have hdat := HCOP.out.2.2 k hkk
      obtain ⟨x, hxe⟩ : ∃ x, ls.getD k default = x := ⟨_, rfl⟩
      rw [hxe] at r0 r1 hdat
      obtain ⟨f, t, xs⟩ := x
      dsimp only at r0 r1 hdat
      obtain ⟨A3, c3, hd3⟩ := own_shape hdat
      rw [hd3] at r2
      have r0 := hu.cell r0 (fun h => h)
      have r1 := hu.cell r1 (fun h => h)
      have r2 := hu.cell r2 (fun h => h)
      have HG := Lib.hid (gone_any wr a b f t A3 xs.length c3 ga gb (hu.heap HA.out (fun h => h)) (hu.heap HB.out (fun h => h)))
      have HU := Lib.hid hu
      have HALL := Lib.hid hall
      have HXE := Lib.hid hxe
      clear hu hall hxe hdat hd3
      cases hbt : betI a b f t
      · rw [hbt] at HG
        simp only [Bool.not_false] at HG
        have HBT := Lib.hid hbt
        clear hbt
        go_wp2_with fail
        refine HG.out.mono ?_
        rintro e W2 ⟨rfl, hb2⟩
        have HB2 := Lib.hid hb2
        clear hb2
        go_wp2_with fail
        go_ret
        refine ⟨(HU.out.below_none (fun _ _ h => h)).trans (HB2.out.mono HU.out.size), .inr ⟨k, rfl, hkk, ?_, HALL.out⟩⟩
        rw [HXE.out]; exact HBT.out
      · rw [hbt] at HG
        simp only [Bool.not_true] at HG
        have HBT := Lib.hid hbt
        clear hbt
        go_wp2_with fail
        refine HG.out.mono ?_
        rintro e W2 ⟨rfl, hb2⟩
        have hu2 := up_below hb2
        have HU2 := Lib.hid hu2
        clear hb2 hu2
        go_wp2_with fail
        exact ⟨⟨k + 1, by omega, by go_num, HU.out.trans HU2.out, fun j hj => by
          by_cases hjk : j = k
          · subst hjk; rw [HXE.out]; exact HBT.out
          · exact HALL.out j (by omega)⟩, by simp [intOf]; omega⟩
    · obtain rfl : k = ls.length := by omega
      have HU := Lib.hid hu
      have HALL := Lib.hid hall
      clear hu hall
      go_wp2_with fail
      go_ret
      exact ⟨HU.out.below_none (fun _ _ h => h), .inl ⟨rfl, HALL.out⟩⟩
end Go.Proofs.Ytofmblkmfbioiaa
