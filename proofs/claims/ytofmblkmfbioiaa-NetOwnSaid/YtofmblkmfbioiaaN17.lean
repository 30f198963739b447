/-
  The law 'NetFull', walked.
-/
import Derived.Test.YtofmblkmfbioiaaN16
namespace Go.Proofs.Ytofmblkmfbioiaa
open Go.RowKit
theorem SlB.blk_lt {w : World} {v : Value} {xs : List Int} (h : SlB w v xs) (hp : 0 < xs.length) (b : Nat) (hb : Value.blk v = some b) : b < w.heap.size := by
  obtain ⟨g, off, c, rfl, _, _⟩ := h.form hp
  injection hb with hb
  subst hb
  exact World.block_lt_of_cell? _ _ (h.at_ 0 hp)
theorem rep_getD (k j : Nat) (x : Let) (h : j < k) : (List.replicate k x).getD j default = x := by simp [List.getD_eq_getElem?_getD, h]
theorem rep_erase0 (k : Nat) (x : Let) : (List.replicate (k + 1) x).eraseIdx 0 = List.replicate k x := by simp [List.replicate_succ]
set_option maxRecDepth 100000 in
set_option maxHeartbeats 4000000 in
theorem netFull_any (w : World) (more : Int) (hm64 : -9223372036854775808 ≤ more ∧ more ≤ 9223372036854775807) (d : Value) (xs : List Int) (hd : SlB w d xs) : Calls Try.prog 3 #[.int .i64 more, d] w (TruePost w) := by
  obtain ⟨A, c, rfl, hl1, hl2⟩ := hd.shape
  have HA := Lib.hid (awake_any w)
  have HD := Lib.hid hd
  obtain ⟨hma, hmb⟩ := hm64
  clear hd
  by_cases hbad : more < 0 ∨ 20 < more ∨ 50 < xs.length
  · have hpk : (decide (more < 0) || decide (20 < more) || decide ((50 : Int) < xs.length)) = true := by
      rcases hbad with h | h | h
      · simp [h]
      · simp [h]
      · simp [show (50 : Int) < xs.length by omega]
    go_enter Try.func3, Try.ntmps3
    by_cases h1 : more < 0
    · go_wp2_with ((go_at_call 8; refine HA.out.mono ?_; rintro e w' ⟨rfl, hb⟩))
      go_ret
      exact ⟨rfl, hb⟩
    · by_cases h2 : 20 < more
      · go_wp2_with ((go_at_call 8; refine HA.out.mono ?_; rintro e w' ⟨rfl, hb⟩))
        go_ret
        exact ⟨rfl, hb⟩
      · have h3 : (50 : Int) < xs.length := by omega
        go_wp2_with ((go_at_call 8; refine HA.out.mono ?_; rintro e w' ⟨rfl, hb⟩))
        go_ret
        exact ⟨rfl, hb⟩
  · have h1 : 0 ≤ more := by omega
    have h2 : more ≤ 20 := by omega
    have h3 : (xs.length : Int) ≤ 50 := by omega
    clear hbad HA
    go_enter Try.func3, Try.ntmps3
    go_wp2_with fail
    refine (new_any w).mono ?_
    rintro e W0 ⟨rfl, rfl⟩
    have hn0 := net_new w
    obtain ⟨W1, hW1⟩ : ∃ W1, W1 = w.alloc (.cells #[.slice none 0 0, .int .i64 0] 57) := ⟨_, rfl⟩
    rw [← hW1] at hn0 ⊢
    have hc1 : Chg (fun i => w.heap.size ≤ i) w W1 := by rw [hW1]; exact (Chg.refl _ w).alloc _
    have hpw : w.heap.size < W1.heap.size := by rw [hW1]; simp
    have HN0 := Lib.hid hn0
    have HC1 := Lib.hid hc1
    obtain ⟨p, hp⟩ : ∃ p, p = w.heap.size := ⟨_, rfl⟩
    rw [← hp] at HN0 ⊢
    have HP := Lib.hid hp
    clear hn0 hc1 hW1 hp
    go_wp2_with fail
    go_loopw [21] (fun i wr => ∃ (k : Nat) (lv : Value) (ds : List Value), k ≤ 1024 ∧ i = .int .i64 k ∧ NetAt wr p lv ds (List.replicate k (3, 4, xs)) k ∧ (∀ j, lv.ownBlock = some j → w.heap.size ≤ j) ∧ Chg (fun j => w.heap.size ≤ j) w wr) (fun i _ => 1024 - (intOf i).toNat)
    case atStart => exact ⟨0, _, _, by omega, rfl, HN0.out, fun j h => by simp [Value.ownBlock] at h, HC1.out⟩
    case round =>
      rename World => wo
      obtain ⟨k, lv, ds, hk, rfl, hnet, hlv, hch⟩ := hrel
      by_cases hk2 : (k : Int) < 1024
      · have hdo : SlB wo (.slice A xs.length c) xs := Src.chg HD.out hch (fun b hb h0 => by
          have := SlB.blk_lt HD.out h0 b hb
          omega) (by decide)
        have hs := send_any wo p lv ds _ k hnet (by omega) (by omega) 3 4 _ xs hdo (by omega)
        have hsi : sendI (List.replicate k (3, 4, xs)) (3, 4, xs) = 0 := by
          unfold sendI
          rw [List.length_replicate, if_pos (show (whoI 3 && whoI 4) = true by decide), if_pos (by omega)]
        rw [hsi] at hs
        have HS := Lib.hid hs
        have HCH := Lib.hid hch
        have HLV := Lib.hid hlv
        clear hs hsi hdo hnet hlv hch
        go_wp2_with fail
        refine HS.out.mono ?_
        rintro e W2 ⟨rfl, hr⟩
        obtain ⟨_, lv2, d2, hn2, hc2, hb2⟩ := hr.resolve_left (fun h => h.1 rfl)
        have HN2 := Lib.hid (show NetAt W2 p lv2 (ds ++ [d2]) (List.replicate (k + 1) (3, 4, xs)) ((k + 1 : Nat) : Int) by rw [List.replicate_succ']; exact hn2)
        have HLV2 := Lib.hid (show ∀ j, lv2.ownBlock = some j → w.heap.size ≤ j from fun j hj => by
          rcases hb2 with hb | ⟨g, hb, hge⟩
          · rw [hb] at hj; exact HLV.out j hj
          · rw [hb] at hj; injection hj with hj; have := HCH.out.size; omega)
        have HCH2 := Lib.hid (HCH.out.then hc2 (fun i hi => by
          rcases hi with hi | hi
          · exact .inl (by have := HP.out; omega)
          · exact .inl (HLV.out i hi)))
        clear hr hn2 hc2 hb2 HS
        go_wp2_with fail
        go_roundw
        case rel => exact ⟨k + 1, lv2, ds ++ [d2], by omega, by go_num, HN2.out, HLV2.out, HCH2.out⟩
        case measure => simp [intOf]; omega
      · obtain rfl : k = 1024 := by omega
        rw [show (((1024 : Nat) : Int)) = 1024 from rfl] at hnet ⊢
        have hL0 : (List.replicate 1024 ((3, 4, xs) : Let)).length = 1024 := List.length_replicate
        have hL1 : ∀ j, j < 1024 → (List.replicate 1024 ((3, 4, xs) : Let)).getD j default = (3, 4, xs) := fun j hj => rep_getD 1024 j _ hj
        obtain ⟨L, hL⟩ : ∃ L : List Let, L = List.replicate 1024 (3, 4, xs) := ⟨_, rfl⟩
        rw [← hL] at hnet hL0 hL1
        obtain ⟨L', hL'⟩ : ∃ L', L' = L.eraseIdx 0 := ⟨_, rfl⟩
        have hL3 : L' = List.replicate 1023 (3, 4, xs) := by rw [hL', hL]; exact rep_erase0 1023 _
        have hL4 : L'.length = 1023 := by rw [hL3]; exact List.length_replicate
        have hL5 : ∀ j, j < 1023 → L'.getD j default = (3, 4, xs) := fun j hj => by rw [hL3]; exact rep_getD 1023 j _ hj
        have HL4 := Lib.hid hL4
        have HL5 := Lib.hid hL5
        have HL' := Lib.hid hL'
        have HNET := Lib.hid (show NetAt wo p lv ds L 1024 from hnet)
        have HCH := Lib.hid hch
        have HLV := Lib.hid hlv
        have HL0 := Lib.hid hL0
        have HL1 := Lib.hid hL1
        clear hnet hlv hch hL hL0 hL1 hk2 hk hL' hL3 hL4 hL5
        have hnil : ∀ W : World, SlB W (.slice none 0 0) [] := fun W => .inl ⟨rfl, rfl, rfl⟩
        have hfx : ∀ j, j < L.length → (L.getD j default).2.2.length ≤ 1000000 := fun j hj => by rw [HL1.out j (by rw [HL0.out] at hj; exact hj)]; show xs.length ≤ 1000000; omega
        have HNIL := Lib.hid hnil
        have HFX := Lib.hid hfx
        clear hnil hfx
        have hsi : sendI L (3, 4, []) = 12 := by unfold sendI; rw [HL0.out, if_pos (show (whoI 3 && whoI 4) = true by decide), if_neg (by omega)]
        have hti : twiceI L more = 12 := by unfold twiceI atI; rw [HL0.out, if_pos (by simp; omega), if_neg (by omega)]
        have HSI := Lib.hid hsi
        have HTI := Lib.hid hti
        clear hsi hti
        go_wp2_with fail
        go_loopw [30] (fun i wr => ∃ j : Nat, (j : Int) ≤ more ∧ i = .int .i64 j ∧ Up wo wr) (fun i _ => more.toNat - (intOf i).toNat)
        case atStart => exact ⟨0, by omega, rfl, Chg.refl _ _⟩
        case round =>
          rename World => wr
          obtain ⟨j, hj, rfl, hup⟩ := hrel
          by_cases hj2 : (j : Int) < more
          · have hs := send_any wr p lv ds L 1024 (HNET.out.up hup) (by omega) (by omega) 3 4 _ [] (HNIL.out wr) (by simp)
            rw [HSI.out] at hs
            have HS := Lib.hid hs
            have HUP := Lib.hid hup
            clear hs hup
            go_wp2_with fail
            refine HS.out.mono ?_
            rintro e W2 ⟨rfl, hr⟩
            have hu2 := hr.resolve_right (fun h => absurd h.1 (by decide))
            have HU2 := Lib.hid (HUP.out.trans hu2.2)
            clear hr hu2 HS
            have ht := twice_any W2 p lv ds L 1024 more (HNET.out.up HU2.out) HFX.out
            rw [HTI.out] at ht
            have HT := Lib.hid ht
            clear ht
            go_wp2_with fail
            refine HT.out.mono ?_
            rintro e W3 ⟨rfl, hr⟩
            have hu3 := hr.resolve_right (fun h => absurd h.1 (by decide))
            have HU3 := Lib.hid (HU2.out.trans hu3.2)
            clear hr hu3 HT
            go_wp2_with fail
            go_roundw
            case rel => exact ⟨j + 1, by omega, by go_num, HU3.out⟩
            case measure => simp [intOf]; omega
          · have HUP := Lib.hid hup
            clear hup
            have HN1 := Lib.hid (HNET.out.up HUP.out)
            have HLEN := Lib.hid (len_any wr p lv ds L 1024 HN1.out)
            have HSENT := Lib.hid (sent_any wr p lv ds L 1024 HN1.out)
            have HDROP := Lib.hid (drop_any wr p lv ds L 1024 0 HN1.out (by rw [HL0.out]; omega))
            have HLL := Lib.hid (show (Value.int .i64 L.length) = .int .i64 1024 by rw [HL0.out]; rfl)
            rw [HLL.out] at HLEN
            go_wp2_with fail
            refine HLEN.out.mono ?_
            rintro e W3 ⟨rfl, rfl⟩
            go_wp2_with fail
            refine HSENT.out.mono ?_
            rintro e W3 ⟨rfl, rfl⟩
            go_wp2_with fail
            refine HDROP.out.mono ?_
            intro e W3 hdp
            rcases hdp with ⟨hf, _⟩ | ⟨_, rfl, lv3, hn3, hl3, hc3⟩
            · exact absurd hf (by unfold atI; rw [HL0.out]; decide)
            rw [show (0 : Int).toNat = 0 from rfl, ← HL'.out] at hn3
            have HN3 := Lib.hid (show NetAt W3 p lv3 (ds.eraseIdx 0) L' 1024 from hn3)
            have hrow : ∀ j, lv.ownBlock = some j → w.heap.size ≤ j := HLV.out
            have HC3 := Lib.hid (show Chg (fun j => w.heap.size ≤ j) w W3 from (HCH.out.then HUP.out (fun i hi => hi.elim)).then hc3 (fun i hi => by
              rcases hi with hi | hi
              · exact .inl (by have := HP.out; omega)
              · exact .inl (hrow i hi)))
            have HLV3 := Lib.hid (show ∀ j, lv3.ownBlock = some j → w.heap.size ≤ j from fun j hj => hrow j (by rw [← hl3]; exact hj))
            clear hn3 hl3 hc3 hrow
            have htw := twice_any W3 p lv3 _ L' 1024 0 HN3.out (fun j hj => by rw [HL5.out j (by rw [HL4.out] at hj; exact hj)]; show xs.length ≤ 1000000; omega)
            rw [show twiceI L' 0 = 0 by unfold twiceI atI; rw [HL4.out]; decide] at htw
            have HTW := Lib.hid htw
            clear htw
            go_wp2_with fail
            refine HTW.out.mono ?_
            rintro e W4 ⟨rfl, hr⟩
            obtain ⟨_, lv4, d4, hn4, hc4, _⟩ := hr.resolve_left (fun h => h.1 rfl)
            have HLEN4 := Lib.hid (len_any W4 p lv4 _ _ _ hn4)
            have HLL4 := Lib.hid (show (Value.int .i64 ((L' ++ [L'.getD (Int.toNat 0) default]).length : Int)) = .int .i64 1024 by rw [List.length_append, HL4.out]; rfl)
            rw [HLL4.out] at HLEN4
            have HC4 := Lib.hid (show Chg (fun j => w.heap.size ≤ j) w W4 from HC3.out.then hc4 (fun i hi => by
              rcases hi with hi | hi
              · exact .inl (by have := HP.out; omega)
              · exact .inl (HLV3.out i hi)))
            clear hr hn4 hc4
            go_wp2_with fail
            refine HLEN4.out.mono ?_
            rintro e W5 ⟨rfl, rfl⟩
            have HAW := Lib.hid (awake_any W5)
            go_wp2_with fail
            refine HAW.out.mono ?_
            rintro e W6 ⟨rfl, hb6⟩
            have HB6 := Lib.hid hb6
            clear hb6
            go_wp2_with fail
            go_ret
            exact ⟨rfl, (HC4.out.below (Nat.le_refl _) (fun i hi => hi)).trans (HB6.out.mono HC4.out.size)⟩
end Go.Proofs.Ytofmblkmfbioiaa
