/-
  The law's ends of layer 5, walked; a row of 512 hashes that is written to.
-/
import Derived.Test.YtaahffminoekfaaDoorZ2
namespace Go.Proofs.YtaahffminoekfaaDoor
open Go.RowKit
theorem ends_take (h : List Int) (a : Int) (k b : Nat) (hb : b < 2) : pubL h a k ++ [endL h a k 0, endL h a k 1].take (b + 1) = (pubL h a k ++ [endL h a k 0, endL h a k 1].take b) ++ [endL h a k b] := by
  rw [List.append_assoc]
  congr 1
  have : b = 0 ∨ b = 1 := by omega
  rcases this with rfl | rfl <;> rfl
set_option maxRecDepth 100000 in
set_option maxHeartbeats 4000000 in
theorem ends_any (h : List Int) (a : Int) (w : World) (hl : h.length = 32) (hb : Bytes h) (ha : I64 a) (hla : Laid w) :
    Calls Tryd.prog 58 #[hashV h, .int .i64 a] w (fun e w' => (∃ B c, e = .returned (.slice B 512 c) ∧ SlH w' (.slice B 512 c) (pubL h a 256)) ∧ Below w.heap.size w w') := by
  have hl2 := hla.lt
  obtain ⟨cx, hcx, hux, _, _, hsz, hs32⟩ := hash_parts h hl
  rw [hcx]
  obtain ⟨W1, hW1⟩ : ∃ W1, W1 = w.alloc (.cells cx 25) := ⟨_, rfl⟩
  have HX0 : Hid (W1.heap[w.heap.size]? = some (.cells cx 25 (0, 0))) := Lib.hid (by rw [hW1]; exact heap_alloc_last _ _)
  have hu1 : Up w W1 := by rw [hW1]; exact (Chg.refl _ w).alloc _
  have hwz0 : w.heap.size < W1.heap.size := (Array.getElem?_eq_some_iff.1 HX0.out).1
  have HLA1 := Lib.hid (hla.up hu1)
  have HU1 := Lib.hid hu1
  have HCX := Lib.hid hcx
  have HSX := Lib.hid hsz
  have HB := Lib.hid hb
  have HL := Lib.hid hl
  have HA := Lib.hid ha
  clear hcx hux hl hb hla hsz hs32 ha hu1
  go_enter Tryd.func58, Tryd.ntmps58
  go_wp2_with fail
  rw [← hW1]
  clear hW1
  go_loopw [5, 8] (fun o i wr => ∃ (k c : Nat) (B : Option Addr), k ≤ 256 ∧ i = .int .i64 k ∧ o = .slice B (2 * k) c ∧ wr.ownsRow W1.heap.size 25 32 (.slice B (2 * k) c) (2 * k) (u8s (pubL h a k).flatten) ∧ Up W1 wr) (fun _ i _ => 256 - (intOf i).toNat)
  case atStart => exact ⟨0, 0, none, by omega, rfl, rfl, World.ownsRow_nil _ _ _ _, Chg.refl _ _⟩
  case round =>
    rename World => wo
    obtain ⟨k, c, B, hk, rfl, rfl, ho, hu⟩ := hrel
    by_cases hk2 : (k : Int) < 256
    · have HO := Lib.hid ho
      have HU := Lib.hid hu
      clear ho hu
      go_wp2_with fail
      go_loopw [5, 11] (fun o i wr => ∃ (b c : Nat) (B : Option Addr), b ≤ 2 ∧ i = .int .i64 b ∧ o = .slice B (2 * k + b) c ∧ wr.ownsRow W1.heap.size 25 32 (.slice B (2 * k + b) c) (2 * k + b) (u8s (pubL h a k ++ [endL h a k 0, endL h a k 1].take b).flatten) ∧ Up W1 wr) (fun _ i _ => 2 - (intOf i).toNat)
      case atStart => exact ⟨0, c, B, by omega, rfl, rfl, by simpa using HO.out, HU.out⟩
      case round =>
        rename World => wi
        obtain ⟨b, c2, B2, hb2, rfl, rfl, ho, hu⟩ := hrel
        clear HO HU
        by_cases hb3 : (b : Int) < 2
        · have hsec := secret2_any h a (67 + 2 * (k : Int) + (b : Int)) wi HL.out HB.out HA.out ⟨by omega, by omega⟩ (HLA1.out.up hu)
          have hrs := ends_take h a k b (by omega)
          have hxs := secI_len h a (67 + 2 * (k : Int) + (b : Int))
          have hxb := secI_bytes h a (67 + 2 * (k : Int) + (b : Int))
          have hee := endL_eq h a k b
          have heo := endL_ok h a k b
          obtain ⟨s, hs⟩ : ∃ s, secI h a (67 + 2 * (k : Int) + (b : Int)) = s := ⟨_, rfl⟩
          obtain ⟨x, hx⟩ : ∃ x, endL h a k b = x := ⟨_, rfl⟩
          rw [hs] at hsec hxs hxb hee
          rw [hx] at hrs hee heo
          obtain ⟨cs, hcs, _, _, _, _, _⟩ := hash_parts s hxs
          obtain ⟨cy, hcy, huy, _, _, _, _⟩ := hash_parts x heo.1
          unfold HashPost at hsec
          rw [hcs, HCX.out] at hsec
          have HSEC := Lib.hid hsec
          have HRX := Lib.hid (hu.heap HX0.out (fun h => h))
          have HXS := Lib.hid hxs
          have HXB := Lib.hid hxb
          have HCS := Lib.hid hcs
          have HCY := Lib.hid hcy
          have HEE := Lib.hid hee
          have HXL := Lib.hid heo.1
          have HUY := Lib.hid huy
          have HRS := Lib.hid hrs
          have HO := Lib.hid ho
          have HU := Lib.hid hu
          have huz := hu.size
          clear hsec hxs hxb hs hcs hx heo hcy huy hrs ho hu hee
          go_wp2_with (refine wpList_load_row rfl 25 (.tmp 2) rfl w.heap.size (by rfl) 25 cx (0, 0) _ HRX.out Tryd.underlying25 rfl HSX.out ?_)
          refine HSEC.out.mono ?_
          rintro e W2 ⟨rfl, hb2'⟩
          have hu2 : Up wi W2 := up_below hb2'
          have hcall := chain_any s (67 + (k : Int)) b W2 HXS.out HXB.out (by omega) (by omega) (by omega) (by omega) (HLA1.out.up (HU.out.trans hu2))
          unfold SumPost at hcall
          rw [stepI_eq, HEE.out, HCS.out, HCY.out] at hcall
          have HCALL := Lib.hid hcall
          clear hcall hb2' HSEC
          go_wp2_with fail
          refine HCALL.out.mono ?_
          rintro e W3 ⟨rfl, hb3'⟩
          have hu3 : Up wi W3 := hu2.trans (up_below hb3')
          obtain ⟨A2, c3, w2, hrun, ho2, hc2⟩ := push_hash W3 W1.heap.size _ (2 * k + b) (pubL h a k ++ [endL h a k 0, endL h a k 1].take b) (own_up HO.out hu3) x cy HUY.out HXL.out (by omega) (by have := hu3.size; omega)
          have HRUN := Lib.hid hrun
          have HO2 := Lib.hid ho2
          have HU2 := Lib.hid ((HU.out.trans hu3).then hc2 (fun i hi => .inr (by have := ((own_up HO.out hu3).lt i hi).1; omega)))
          clear hb3' hu2 hu3 hrun ho2 hc2 HCALL
          go_wp2_with (first
            | refine wpList_build_hash rfl (.tmp 26) rfl x cy HUY.out HXL.out (by rfl) ?_
            | (at_builtin; refine wpList_run_append rfl _ _ 49 rfl _ _ rfl rfl 49 rfl HRUN.out ?_))
          go_roundw
          case rel =>
            refine ⟨b + 1, c3, A2, by omega, by go_num, rfl, ?_, HU2.out⟩
            rw [HRS.out]; exact HO2.out
          case measure => simp [intOf]; omega
        · obtain rfl : b = 2 := by omega
          have hrs := pairs_succ (fun k => endL h a k 0) (fun k => endL h a k 1) k
          have HRS : Hid (pubL h a (k + 1) = pubL h a k ++ [endL h a k 0, endL h a k 1]) := Lib.hid hrs
          have HO := Lib.hid ho
          have HU := Lib.hid hu
          clear ho hu hrs
          go_wp2_with fail
          go_roundw
          case rel =>
            refine ⟨k + 1, c2, B2, by omega, by go_num, rfl, ?_, HU.out⟩
            rw [HRS.out]; exact HO.out
          case measure => simp [intOf]; omega
    · obtain rfl : k = 256 := by omega
      have hpl : (pubL h a 256).length = 512 := pairs_len _ _ _
      have hslh : SlH wo (.slice B 512 c) (pubL h a 256) := by
        have h2 := own_slh (w := wo) (base := W1.heap.size) (c := c) (B := B) (hs := pubL h a 256) (by rw [hpl]; exact ho) (by rw [hpl]; exact pubL_each h a 256)
        rwa [hpl] at h2
      have HS := Lib.hid hslh
      have HU := Lib.hid (HU1.out.trans hu)
      clear ho hu hslh hpl
      go_wp2_with fail
      go_ret
      exact ⟨⟨_, _, rfl, HS.out⟩, HU.out.below_none (fun _ _ h => h)⟩
end Go.Proofs.YtaahffminoekfaaDoor
