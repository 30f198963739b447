/-
  LamportBits, walked.
-/
import Derived.Test.YtaahffminoekfaaX3
namespace Go.Proofs.Ytaahffminoekfaa
open Go.RowKit
set_option maxRecDepth 100000 in
set_option maxHeartbeats 1000000 in
theorem lamportBits_any (h : List Int) (w : World) (hl : h.length = 32) (hb : ∀ j, 0 ≤ h.getD j 0 ∧ h.getD j 0 ≤ 255) :
    Calls Try.prog 3 #[.agg (u8s h).toArray] w fun e W' => e = .returned (.bool true) ∧ Below w.heap.size w W' := by
  obtain ⟨cx, hcx⟩ : ∃ cx, (u8s h).toArray = cx := ⟨_, rfl⟩
  have hsz : (Try.prog.info? 23).map (·.size) = some cx.size := by rw [size23, ← hcx]; simp [u8s, hl]
  have hx : ∀ j, j < 32 → cx[j]? = some (.int .u8 (h.getD j 0)) := fun j hj => by
    rw [← hcx]; simp [u8s, List.getD_eq_getElem?_getD, List.getElem?_eq_getElem (show j < h.length by omega)]
  rw [hcx]
  have HSZ := Lib.hid hsz
  have HX := Lib.hid hx
  have HB := Lib.hid hb
  have HL := Lib.hid hl
  clear hsz hx hb hl hcx
  go_enter Try.func3, Try.ntmps3
  have HG : Hid ((w.alloc (.cells cx 23)).heap[w.heap.size]? = some (.cells cx 23 (0, 0))) := Lib.hid (heap_alloc_last _ _)
  go_wp2_with (refine wpList_load_row rfl 23 (.tmp 1) rfl w.heap.size (by rfl) 23 cx (0, 0) _ HG.out Try.underlying23 rfl HSZ.out ?_)
  refine (bits_any h cx HL.out HB.out HX.out HSZ.out _).mono ?_
  rintro e W1 ⟨v, rfl, ho, hb1⟩
  obtain ⟨A1, c1, rfl⟩ := own_shape3 ho
  obtain ⟨g, rfl, hg, hc, hc2, hat⟩ := bits_cell ho (by omega)
  have LOW : Hid (Chg (fun _ => False) w W1) := Lib.hid (((Chg.refl (fun _ => False) w).alloc (.cells cx 23)).trans (Chg.of_below hb1 _))
  have HG1 : Hid (W1.heap[w.heap.size]? = some (.cells cx 23 (0, 0))) := Lib.hid ((hb1.block _ (by simp)).trans HG.out)
  have HAT := Lib.hid hat
  clear HG ho hat hb1 hg
  go_wp2_with fail
  go_loopw [13] (fun i wr => ∃ k : Nat, k ≤ 256 ∧ i = .int .i64 k ∧ Chg (fun _ => False) W1 wr) (fun i _ => 256 - (intOf i).toNat)
  case atStart => exact ⟨0, by omega, rfl, Chg.refl _ _⟩
  case round =>
    obtain ⟨k, hk, rfl, hch⟩ := hrel
    have HC := Lib.hid hch
    clear hch
    by_cases hk2 : (k : Int) < 256
    · have b0 := HC.out.cell (HAT.out k (by omega)) (fun h => h)
      rw [bitsI_at _ _ _ (by omega)] at b0
      have HGr := Lib.hid (HC.out.heap HG1.out (fun h => h))
      obtain ⟨y, hy⟩ : ∃ y, bitI h k = y := ⟨_, rfl⟩
      have hrb := refBit_any h cx k (by omega) HB.out HX.out wr
      rw [hy] at b0 hrb
      have HR := Lib.hid hrb
      clear hy hrb
      go_wp2_with (refine wpList_load_row rfl 23 (.tmp 1) rfl w.heap.size (by rfl) 23 cx (0, 0) _ HGr.out Try.underlying23 rfl HSZ.out ?_)
      refine HR.out.mono ?_
      rintro e W2 ⟨rfl, hb2⟩
      have HC2 := Lib.hid (HC.out.trans (Chg.of_below hb2 _))
      clear hb2 HR HGr
      go_wp2
      go_roundw
      case rel => exact ⟨k + 1, by omega, by go_num, HC2.out⟩
      case measure => simp [intOf]; omega
    · obtain rfl : k = 256 := by omega
      go_wp2_with fail
      refine (awakeB_any wr).mono ?_
      rintro e W2 ⟨rfl, hb2⟩
      have HC2 := Lib.hid ((LOW.out.trans HC.out).trans (Chg.of_below hb2 _))
      clear hb2
      go_wp2
      go_ret
      exact ⟨rfl, HC2.out.below_none (fun _ _ h => h)⟩
end Go.Proofs.Ytaahffminoekfaa
