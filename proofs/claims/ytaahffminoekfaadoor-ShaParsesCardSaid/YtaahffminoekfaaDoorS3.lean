/-
  The document's text of a hash, walked.
-/
import Derived.Test.YtaahffminoekfaaDoorS2
namespace Go.Proofs.YtaahffminoekfaaDoor
open Go.RowKit
set_option maxRecDepth 100000 in
theorem u8s_size24 {l : List Int} (h : l.length = 32) : (Tryd.prog.info? 24).map (·.size) = some (u8s l).toArray.size := by
  have : (Tryd.prog.info? 24).map (·.size) = some 32 := by kernel_rfl
  rw [this]; simp [u8s, h]
set_option maxRecDepth 100000 in
set_option maxHeartbeats 1000000 in
theorem rshow_any (h : List Int) (w : World) (hl : h.length = 32) (hb : Bytes h) :
    Calls Tryd.prog 38 #[hashV h] w (ShowPost h w) := by
  unfold hashV
  obtain ⟨hc, hhc⟩ : ∃ hc, (u8s h).toArray = hc := ⟨_, rfl⟩
  have hat : ∀ k, k < 32 → hc[k]? = some (.int .u8 (h.getD k 0)) := fun k hk => by rw [← hhc]; simpa using u8s_at (l := h) (j := k) (by omega)
  have hsz := u8s_size24 hl
  have hone : hc.all (·.oneCell') = true := by rw [← hhc]; exact all_one (u8s_one _)
  rw [hhc] at hsz ⊢
  have HSZ := Lib.hid hsz
  have HON := Lib.hid hone
  have HAT := Lib.hid hat
  have HB := Lib.hid hb
  have HL := Lib.hid hl
  clear hsz hone hhc hb hl hat
  go_enter Tryd.func38, Tryd.ntmps38
  have hgl : (w.alloc (.cells hc 24)).heap[w.heap.size]? = some (.cells hc 24 (0, 0)) := heap_alloc_last _ _
  have HGL := Lib.hid hgl
  clear hgl
  go_wp2_with fail
  obtain ⟨W0, hW0⟩ : ∃ W0, W0 = w.alloc (.cells hc 24) := ⟨_, rfl⟩
  rw [← hW0] at HGL ⊢
  have hb0 : Hid (Below w.heap.size w W0) := by rw [hW0]; exact Lib.hid ((Below.refl _ _).alloc (Nat.le_refl _) _)
  clear hW0
  go_loopw [3, 4] (fun v i wr => ∃ (k c : Nat) (A : Option Addr), k ≤ 32 ∧ v = .slice A (2 * k) c ∧ i = .int .i64 k ∧ wr.ownsRow (w.heap.size + 1) 5 1 (.slice A (2 * k) c) (2 * k) (u8s (showI (h.take k))) ∧ wr.heap[w.heap.size]? = some (.cells hc 24 (0, 0)) ∧ Below w.heap.size w wr) (fun _ i _ => 32 - (intOf i).toNat)
  case atStart => exact ⟨0, 0, none, by omega, rfl, rfl, World.ownsRow_nil _ _ _ _, HGL.out, hb0.out⟩
  case round =>
    clear hb0 HGL
    rename World => wo
    obtain ⟨k, c, A, hk, rfl, rfl, ho, hg, hbw⟩ := hrel
    have HO := Lib.hid ho
    have HBW := Lib.hid hbw
    have HG := Lib.hid hg
    have hsw : w.heap.size < wo.heap.size := (Array.getElem?_eq_some_iff.1 hg).1
    by_cases hk32 : (k : Int) < 32
    · have hc0 : wo.cell? ⟨w.heap.size, k, none⟩ = some (.int .u8 (h.getD k 0)) := by rw [cell_of_row _ _ _ _ _ _ hg]; exact HAT.out k (by omega)
      obtain ⟨x, hx⟩ : ∃ x, h.getD k 0 = x := ⟨_, rfl⟩
      rw [hx] at hc0
      obtain ⟨x0, x1⟩ : 0 ≤ x ∧ x ≤ 255 := by rw [← hx]; exact HB.out k
      have HX := Lib.hid hx
      clear hx ho hg hbw
      go_wp2_with fail
      go_region
      obtain ⟨W1, hW1⟩ : ∃ W1, W1 = (wo.alloc (.cells #[.int .u8 (x / 16), .int .u8 (x % 16)] 5)).drew := ⟨_, rfl⟩
      rw [← hW1]
      have hg1 : W1.heap[wo.heap.size]? = some (.cells #[.int .u8 (x / 16), .int .u8 (x % 16)] 5 (0, 0)) := by rw [hW1]; exact heap_alloc_last _ _
      have b1 : Below wo.heap.size wo W1 := by rw [hW1]; exact ((Below.refl _ _).alloc (Nat.le_refl _) _).drew
      have hs1 : W1.heap.size = wo.heap.size + 1 := by rw [hW1]; exact World.size_alloc _ _
      have HG1 := Lib.hid hg1
      have B1 := Lib.hid b1
      have o1 : Hid (W1.ownsRow (w.heap.size + 1) 5 1 (.slice A (2 * k) c) (2 * k) (u8s (showI (h.take k)))) := Lib.hid (own_chg HO.out (Chg.of_below b1 (fun _ => False)) (fun _ _ h => h))
      have AB : Hid (∀ i, (Value.slice A (2 * k) c).ownBlock = some i → i < wo.heap.size) := Lib.hid (fun i hi => (HO.out.lt i hi).2)
      clear hW1 hg1 b1
      go_wp2_with fail
      go_loopw [3, 21] (fun v i wr => ∃ (j c : Nat) (A : Option Addr), j ≤ 2 ∧ v = .slice A (2 * k + j) c ∧ i = .int .i64 j ∧ wr.ownsRow (w.heap.size + 1) 5 1 (.slice A (2 * k + j) c) (2 * k + j) (u8s (showI (h.take k) ++ [digI (x / 16), digI (x % 16)].take j)) ∧ (Value.slice A (2 * k + j) c).ownBlock ≠ some wo.heap.size ∧
        wr.heap[wo.heap.size]? = some (.cells #[.int .u8 (x / 16), .int .u8 (x % 16)] 5 (0, 0)) ∧ Chg (fun i => w.heap.size + 1 ≤ i) wo wr) (fun _ i _ => 2 - (intOf i).toNat)
      case atStart => exact ⟨0, c, A, by omega, rfl, rfl, by simpa using o1.out, fun he => by have := AB.out _ he; omega, HG1.out, Chg.of_below B1.out _⟩
      case round =>
        clear o1 AB HG1 B1 HO
        obtain ⟨j, c, A, hj, rfl, rfl, ho, hna, hg, hch⟩ := hrel
        have HO := Lib.hid ho
        have HNA := Lib.hid hna
        have HGJ := Lib.hid hg
        have HCH := Lib.hid hch
        by_cases hj2 : (j : Int) < 2
        · have hcj : ∃ d, 0 ≤ d ∧ d < 16 ∧ wr.cell? ⟨wo.heap.size, j, none⟩ = some (.int .u8 d) ∧ [digI (x / 16), digI (x % 16)].take (j + 1) = [digI (x / 16), digI (x % 16)].take j ++ [digI d] := by
            match j, (show j < 2 by omega) with
            | 0, _ => exact ⟨x / 16, by omega, by omega, by rw [cell_of_row _ _ _ _ _ _ hg]; rfl, rfl⟩
            | 1, _ => exact ⟨x % 16, by omega, by omega, by rw [cell_of_row _ _ _ _ _ _ hg]; rfl, rfl⟩
          obtain ⟨d, d0, d1, hcd, htk⟩ := hcj
          have HTK := Lib.hid htk
          have hbase : w.heap.size + 1 ≤ wr.heap.size := by have := hch.size; omega
          have hpush := push_run (P := Tryd.prog) wr 22 22 (w.heap.size + 1) 5 (.int .u8 0) 1 Tryd.underlying22 (by kernel_rfl) rfl _ _ _ HO.out [.int .u8 (digI d)] 1 rfl (by simp [Value.oneCell']) (by omega) (by omega) hbase
          have hwg : wo.heap.size < wr.heap.size := (Array.getElem?_eq_some_iff.1 hg).1
          clear ho hna hg hch htk
          by_cases hd : d < 10
          · have hdig : digI d = 48 + d := if_pos hd
            rw [hdig] at hpush
            have HDG := Lib.hid hdig
            clear hdig
            obtain ⟨A2, c2, w2, hrun, ho2, hc2, hb2⟩ := hpush
            have HR2 := Lib.hid hrun
            have HO2 := Lib.hid ho2
            have HC2 := Lib.hid hc2
            have HB2 := Lib.hid hb2
            clear hrun ho2 hc2 hb2
            go_wp2_with (at_builtin; refine wpList_run_append rfl _ _ 22 rfl _ _ rfl rfl 22 rfl HR2.out ?_)
            go_roundw
            case rel =>
              refine ⟨j + 1, c2, A2, by omega, by rw [Nat.add_assoc], by go_num, ?_, fun he => ?_, HC2.out.heap HGJ.out HNA.out, HCH.out.then HC2.out (fun i hi => .inl (HO.out.lt i hi).1)⟩
              · have := HO2.out
                rw [HTK.out, HDG.out, ← Nat.add_assoc]
                simpa [u8s] using this
              · rcases HB2.out with h | ⟨g, h, hg⟩
                · exact HNA.out (h.symm.trans (by simpa [Nat.add_assoc] using he))
                · have : some g = some wo.heap.size := h.symm.trans (by simpa [Nat.add_assoc] using he)
                  injection this with this
                  omega
            case measure => simp [intOf]; omega
          · have hdig : digI d = 87 + d := if_neg hd
            rw [hdig] at hpush
            have HDG := Lib.hid hdig
            clear hdig
            obtain ⟨A2, c2, w2, hrun, ho2, hc2, hb2⟩ := hpush
            have HR2 := Lib.hid hrun
            have HO2 := Lib.hid ho2
            have HC2 := Lib.hid hc2
            have HB2 := Lib.hid hb2
            clear hrun ho2 hc2 hb2
            have h87 : 97 + d - 10 = 87 + d := by omega
            go_wp2_with (at_builtin; refine wpList_run_append rfl _ _ 22 rfl _ _ rfl rfl 22 rfl HR2.out ?_)
            go_roundw
            case rel =>
              refine ⟨j + 1, c2, A2, by omega, by rw [Nat.add_assoc], by go_num, ?_, fun he => ?_, HC2.out.heap HGJ.out HNA.out, HCH.out.then HC2.out (fun i hi => .inl (HO.out.lt i hi).1)⟩
              · have := HO2.out
                rw [HTK.out, HDG.out, ← Nat.add_assoc]
                simpa [u8s] using this
              · rcases HB2.out with h | ⟨g, h, hg⟩
                · exact HNA.out (h.symm.trans (by simpa [Nat.add_assoc] using he))
                · have : some g = some wo.heap.size := h.symm.trans (by simpa [Nat.add_assoc] using he)
                  injection this with this
                  omega
            case measure => simp [intOf]; omega
        · obtain rfl : j = 2 := by omega
          clear ho hna hg hch
          go_wp2
          go_roundw
          case rel =>
            refine ⟨k + 1, c, A, by omega, by rw [Nat.mul_add], by go_num, ?_, ?_, ?_⟩
            · have := HO.out
              have hkl : k < h.length := by rw [HL.out]; omega
              have e1 : showI (h.take (k + 1)) = showI (h.take k) ++ [digI (x / 16), digI (x % 16)] := by
                rw [List.take_succ_eq_append_getElem hkl, showI, List.flatMap_append, ← showI]
                have : h[k] = x := by rw [← HX.out, List.getD_eq_getElem?_getD, List.getElem?_eq_getElem hkl]; rfl
                simp [this]
              rw [e1]
              simpa [Nat.mul_add] using this
            · exact HCH.out.heap HG.out (by omega)
            · exact ((Chg.refl (fun i => w.heap.size ≤ i) w).then ((Chg.of_below HBW.out (fun i => w.heap.size ≤ i)).trans (HCH.out.mono (T := fun i => w.heap.size ≤ i) (fun i _ hi => by omega))) (fun i hi => .inl hi)).below (Nat.le_refl _) (fun _ h => h)
          case measure => simp [intOf]; omega
    · obtain rfl : k = 32 := by omega
      have hs := own_string Tryd.underlying22 Tryd.underlying5 Tryd.underlying9 HO.out
      rw [List.take_of_length_le (by rw [HL.out]; omega)] at hs
      clear ho hg hbw
      go_wp2
      go_ret
      exact ⟨rfl, HBW.out⟩
end Go.Proofs.YtaahffminoekfaaDoor
