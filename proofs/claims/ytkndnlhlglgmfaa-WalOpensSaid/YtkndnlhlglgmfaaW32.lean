/-
  The document's Head and Read: walked.
-/
import Derived.Test.YtkndnlhlglgmfaaW31
namespace Go.Proofs.Ytkndnlhlglgmfaa
open Go.RowKit
theorem wrap_i64' (z : Int) : IntKind.i64.wrap z = wrap64 z := by rw [IntKind.wrap_i64]; unfold wrap64; rfl
theorem i64_or {x y : Int} (hx : x % 256 = 0) (h0 : 0 ≤ y) (h1 : y < 256) : bits .or .i64 x y = wrap64 (x % 18446744073709551616 + y) := by
  have h := u64_or8 (x := x % 18446744073709551616) (y := y) (by omega) (by omega) (by omega) h0 h1
  have e : (BitVec.ofInt 64 (x % 18446744073709551616) ||| BitVec.ofInt 64 y).toNat = (BitVec.ofInt 64 x ||| BitVec.ofInt 64 y).toNat := by
    have : BitVec.ofInt 64 (x % 18446744073709551616) = BitVec.ofInt 64 x := by
      apply BitVec.eq_of_toNat_eq
      simp [BitVec.toNat_ofInt]
    rw [this]
  have h' : IntKind.u64.wrap ((BitVec.ofInt 64 (x % 18446744073709551616) ||| BitVec.ofInt 64 y).toNat : Int) = x % 18446744073709551616 + y := h
  rw [e, wrap_u64] at h'
  show IntKind.i64.wrap ((BitVec.ofInt 64 x ||| BitVec.ofInt 64 y).toNat : Int) = _
  rw [wrap_i64']
  have hb : (BitVec.ofInt 64 x ||| BitVec.ofInt 64 y).toNat < 18446744073709551616 := BitVec.isLt _
  rw [show ((BitVec.ofInt 64 x ||| BitVec.ofInt 64 y).toNat : Int) = x % 18446744073709551616 + y by omega]
def lenV : Value → Nat
  | .slice _ n _ => n
  | _ => 0
/-- One more byte of a number. -/
theorem rd_step (u c : Int) (h0 : 0 ≤ u) (h1 : u < 18446744073709551616) (c0 : 0 ≤ c) (c1 : c ≤ 255) : bits .or .i64 (wrap64 (wrap64 u * 256)) c = wrap64 (u * 256 % 18446744073709551616 + c) := by
  have e : wrap64 (wrap64 u * 256) % 18446744073709551616 = u * 256 % 18446744073709551616 := by unfold wrap64; omega
  rw [i64_or (by unfold wrap64; omega) c0 (by omega), e]
set_option maxRecDepth 100000 in
set_option maxHeartbeats 4000000 in
theorem read73_any (w : World) (v : Value) (xs : List Int) (h : SlB w v xs) (hb : Bytes xs) (at_ : Nat) (ha : at_ + 8 ≤ xs.length) (hl : xs.length ≤ 100000) :
    Calls Try.prog 73 #[v, .int .i64 at_, .int .i64 8] w (fun e w' => e = .returned (.tuple #[.int .i64 (wrap64 (numU ((xs.drop at_).take 8))), .bool true]) ∧ w' = w) := by
  obtain ⟨b, off, c, rfl, hc1, hc2⟩ := h.form (by omega)
  have HS := Lib.hid h
  have HB := Lib.hid (bytes_take (bytes_drop hb at_) 8)
  obtain ⟨l, hle⟩ : ∃ l, (xs.drop at_).take 8 = l := ⟨_, rfl⟩
  have hll : l.length = 8 := by rw [← hle]; simp; omega
  have HLE : Hid (∀ k, k < 8 → l.getD k 0 = xs.getD (at_ + k) 0) := Lib.hid (fun k hk => by rw [← hle, getD_take _ _ _ hk, getD_drop])
  rw [hle] at HB ⊢
  have h15 : ¬ (at_ : Int) + 8 > (xs.length : Int) := by omega
  clear h hb hle
  go_enter Try.func73, Try.ntmps73
  go_wp2_with fail
  go_loopw [8, 9] (fun n t wr => ∃ k : Nat, k ≤ 8 ∧ t = .int .i64 k ∧ n = .int .i64 (wrap64 (numU (l.take k))) ∧ wr = w) (fun _ t _ => 8 - (intOf t).toNat)
  case atStart => exact ⟨0, by omega, rfl, by simp [numU, wrap64], rfl⟩
  case round =>
    obtain ⟨k, hk, rfl, rfl, rfl⟩ := hrel
    rename World => w
    by_cases hk2 : (k : Int) < 8
    · have hce := HS.out.at_ (at_ + k) (by omega)
      have hnx := numU_take l k (by omega)
      obtain ⟨hn1, hn2⟩ := numU_bd l HB.out k (by omega)
      obtain ⟨z1, z2⟩ := HB.out k
      rw [← HLE.out k (by omega)] at hce
      obtain ⟨u, hu⟩ : ∃ u, numU (l.take k) = u := ⟨_, rfl⟩
      obtain ⟨z, hz⟩ : ∃ z, l.getD k 0 = z := ⟨_, rfl⟩
      rw [hu] at hnx hn1 hn2 ⊢
      rw [hz] at hnx hce z1 z2
      have hor := rd_step u z hn1 hn2 z1 z2
      rw [← hnx] at hor
      obtain ⟨t1, ht1⟩ : ∃ t1, wrap64 u = t1 := ⟨_, rfl⟩
      obtain ⟨t2, ht2⟩ : ∃ t2, wrap64 (numU (l.take (k + 1))) = t2 := ⟨_, rfl⟩
      rw [ht1] at hor ⊢
      rw [ht2] at hor
      have HT2 := Lib.hid ht2
      have hlt : (at_ : Int) + k < xs.length := by omega
      have hca : ((at_ + k : Nat) : Int) = (at_ : Int) + k := by omega
      clear hnx hu hz ht1 ht2
      go_wp2_with fail
      exact ⟨⟨k + 1, by omega, by go_num, by rw [HT2.out], trivial⟩, by simp [intOf]; omega⟩
    · obtain rfl : k = 8 := by omega
      rw [show l.take 8 = l by rw [← hll]; exact List.take_length]
      go_wp2_with fail
      go_ret2
      exact ⟨rfl, rfl⟩
set_option maxRecDepth 100000 in
set_option maxHeartbeats 4000000 in
theorem head47_any (w : World) (size : Nat) (v : Value) (ats : List Int) (h : SlI w v ats) (hI : ∀ j, I64 (ats.getD j 0)) (hn : ats.length ≤ 500) (hs : 16 + 8 * ats.length ≤ size) (hs2 : size ≤ 4096) :
    Calls Try.prog 47 #[.int .i64 size, v] w (fun e w' => ∃ r, e = .returned r ∧ w'.ownsRow w.heap.size 5 1 r size (u8s (headI ats size)) ∧ Below w.heap.size w w') := by
  obtain ⟨A, c, rfl, hc1, hc2⟩ := h.shape
  have H := Lib.hid h
  have HI := Lib.hid hI
  have H1 := Lib.hid (rint_any w 1 (by unfold I64; omega))
  have HF : Hid (∀ zs : List Int, zs = headB ats ++ List.replicate (size - (headB ats).length) 0 → headI ats size = zs) := Lib.hid (fun zs e => by
    rw [e]
    unfold headI pad
    rw [List.take_of_length_le (by rw [headB_len]; exact hs)])
  obtain ⟨F, hF⟩ : ∃ F, headI ats size = F := ⟨_, rfl⟩
  rw [hF] at HF ⊢
  clear h hI hF
  go_enter Try.func47, Try.ntmps47
  go_wp2_with fail
  refine H1.out.mono ?_
  rintro e w1 ⟨v1, rfl, hr1, hb1⟩
  obtain ⟨A1, c1, rfl⟩ := own_shape hr1
  have HR1 := Lib.hid hr1
  have HU1 := Lib.hid (up_below hb1)
  have H2 := Lib.hid (rint_any w1 (ats.length : Int) (by unfold I64; omega))
  clear hr1 hb1 H1
  go_wp2_with fail
  refine H2.out.mono ?_
  rintro e w2 ⟨v2, rfl, hr2, hb2⟩
  obtain ⟨A2, c2, rfl⟩ := own_shape hr2
  have hu2 := HU1.out.trans (up_below hb2)
  obtain ⟨W3, hW3⟩ : ∃ W3, W3 = w2.alloc (.cells #[.slice A1 8 c1, .slice A2 8 c2] 28) := ⟨_, rfl⟩
  have hu3 : Up w2 W3 := by rw [hW3]; exact (Chg.refl _ w2).alloc _
  have hlast : W3.heap[w2.heap.size]? = some (.cells #[.slice A1 8 c1, .slice A2 8 c2] 28 (0, 0)) := by rw [hW3]; exact heap_alloc_last w2 _
  have hj := join_any W3 (.slice (some ⟨w2.heap.size, 0, none⟩) 2 2) [.slice A1 8 c1, .slice A2 8 c2] [be8 1 8, be8 ats.length 8]
    (.inr ⟨⟨w2.heap.size, 0, none⟩, 2, rfl, rfl, Nat.le_refl _, by omega, fun j u hu => by
      rw [addr_add, cell_of_row _ _ _ _ _ _ hlast, Nat.zero_add]
      simpa using hu⟩)
    (fun j hj => by
      have : j = 0 ∨ j = 1 := by simp at hj; omega
      rcases this with rfl | rfl
      · exact slb_of (own_chg (own_chg HR1.out (up_below hb2) (fun _ _ h => h)) hu3 (fun _ _ h => h))
      · exact slb_of (own_chg hr2 hu3 (fun _ _ h => h)))
    (by simp) (fun j hj => by
      have : j = 0 ∨ j = 1 := by simp at hj; omega
      rcases this with rfl | rfl
      · show (be8 1 8).length ≤ _; rw [be8_len]; omega
      · show (be8 ats.length 8).length ≤ _; rw [be8_len]; omega)
  rw [show [be8 1 8, be8 (ats.length : Int) 8].flatten = headK ats 0 by simp [headK]] at hj
  have HJ := Lib.hid hj
  have HU3 := Lib.hid (hu2.trans hu3)
  clear hr2 hb2 hu2 hu3 hlast hj H2 HR1 HU1
  go_wp2_with fail
  rw [← hW3]
  clear hW3
  refine HJ.out.mono ?_
  rintro e w4 ⟨v4, rfl, hr4, hb4⟩
  obtain ⟨A4, c4, rfl⟩ := own_shape hr4
  have HR4 := Lib.hid (own_base hr4 (show w.heap.size ≤ W3.heap.size from HU3.out.size))
  have HC4 : Hid (Chg (fun i => w.heap.size ≤ i) w w4) := Lib.hid ((HU3.out.trans (up_below hb4)).mono (fun _ _ h => h.elim))
  clear hr4 hb4 HJ
  go_wp2_with fail
  go_loopw [5, 6] (fun o i wr => ∃ (k c : Nat) (B : Option Addr), k ≤ ats.length ∧ i = .int .i64 k ∧ o = .slice B (headK ats k).length c ∧ wr.ownsRow w.heap.size 5 1 (.slice B (headK ats k).length c) (headK ats k).length (u8s (headK ats k)) ∧ Chg (fun i => w.heap.size ≤ i) w wr) (fun _ i _ => ats.length - (intOf i).toNat)
  case atStart => exact ⟨0, c4, A4, by omega, rfl, rfl, HR4.out, HC4.out⟩
  case round =>
    rename World => wr
    obtain ⟨k, cO, B, hk, rfl, rfl, hrow, hch⟩ := hrel
    have hsz := hch.size
    by_cases hk2 : (k : Int) < ats.length
    · obtain ⟨bb, off, cc, he, _, _, hr⟩ := (src_below H.out (by decide) hch : SlI wr _ ats).form (by simp [i64s]; omega)
      injection he with e1 e2 e3
      subst e1 e3
      clear e2
      have r0 := hr k (.int .i64 (ats.getD k 0)) (i64s_at (by omega))
      have hai := HI.out k
      have hsu := headK_succ ats k (by omega)
      have hkl := headK_len ats k (by omega)
      obtain ⟨a, ha⟩ : ∃ a, ats.getD k 0 = a := ⟨_, rfl⟩
      obtain ⟨zs, hzs⟩ : ∃ zs, headK ats k = zs := ⟨_, rfl⟩
      rw [ha] at r0 hai hsu
      rw [hzs] at hrow hsu hkl ⊢
      have HN := Lib.hid (rint_any wr a hai)
      have HROW := Lib.hid hrow
      have HCH := Lib.hid hch
      have HSU := Lib.hid hsu
      have hkl2 : zs.length ≤ 5000 := by omega
      clear hr ha hai hsu hzs hrow hch hkl
      go_wp2_with fail
      refine HN.out.mono ?_
      rintro e w5 ⟨v5, rfl, hr5, hb5⟩
      obtain ⟨A5, c5, rfl⟩ := own_shape hr5
      have hu5 := up_below hb5
      have hrow5 := own_chg HROW.out hu5 (fun _ _ h => h)
      have hsrc := slb_of (xs := be8 a 8) (by rw [be8_len]; exact hr5)
      rw [show w5.ownsRow wr.heap.size 5 1 (.slice A5 8 c5) 8 (u8s (be8 a 8)) = w5.ownsRow wr.heap.size 5 1 (.slice A5 8 c5) (be8 a 8).length (u8s (be8 a 8)) by rw [be8_len]] at hr5
      obtain ⟨v', w', hrun, ho, hg, _, hb⟩ := ap_run (P := Try.prog) w5 28 28 w.heap.size 5 (.int .u8 0) 1 1 Try.underlying28 (by kernel_rfl) rfl (by decide) _ _ _ hrow5 (.slice A5 8 c5) 8 (u8s (be8 a 8)) (by have := hsrc; unfold SlB at this; rw [be8_len] at this; exact this) (u8s_one _) (by omega) (by omega) (by have := hu5.size; omega)
      rw [show u8s zs ++ u8s (be8 a 8) = u8s (zs ++ be8 a 8) by simp [u8s], show zs.length + 8 = (zs ++ be8 a 8).length by simp [be8_len], ← HSU.out] at ho
      obtain ⟨B2, c2, rfl⟩ := own_shape ho
      obtain ⟨ws, hws⟩ : ∃ ws, headK ats (k + 1) = ws := ⟨_, rfl⟩
      rw [hws] at ho hrun
      have HWS := Lib.hid hws
      have HRUN := Lib.hid hrun
      have HO := Lib.hid ho
      have HC := Lib.hid ((HCH.out.trans (hu5.mono (fun _ _ h => h.elim))).then (Chg.of_grownBy hg) (fun i hi => .inl (own_ge hrow5 i hi.symm)))
      clear hr5 hb5 hu5 hrow5 hsrc hrun ho hg hb hws HN HROW HCH
      go_wp2_with (at_builtin; refine wpList_run_append rfl (.tmp 19) (.tmp 24) 28 rfl _ _ rfl rfl 28 rfl HRUN.out ?_)
      exact ⟨⟨k + 1, c2, B2, by omega, by go_num, by rw [HWS.out], by rw [HWS.out]; exact HO.out, HC.out⟩, by simp [intOf]; omega⟩
    · obtain rfl : k = ats.length := by omega
      rw [headK_all] at hrow ⊢
      have hbl := headB_len ats
      obtain ⟨zs, hzs⟩ : ∃ zs, headB ats = zs := ⟨_, rfl⟩
      rw [hzs] at hrow hbl ⊢
      have HZS := Lib.hid hzs
      have HROW := Lib.hid hrow
      have HCH := Lib.hid hch
      have HBL := Lib.hid hbl
      clear hrow hch hzs hbl
      go_wp2_with fail
      go_loopw [5] (fun o wr => ∃ (m c : Nat) (B : Option Addr) (ys : List Int), ys = zs ++ List.replicate m 0 ∧ ys.length ≤ size ∧ o = .slice B ys.length c ∧ wr.ownsRow w.heap.size 5 1 (.slice B ys.length c) ys.length (u8s ys) ∧ Chg (fun i => w.heap.size ≤ i) w wr) (fun o _ => size - lenV o)
      case atStart => exact ⟨0, cO, B, zs, by simp, by have := HBL.out; omega, rfl, HROW.out, HCH.out⟩
      case round =>
        rename World => wi
        clear HROW HCH
        obtain ⟨m, cO2, B2, ys, hys, hyl, rfl, hrow, hch⟩ := hrel
        by_cases hm : (ys.length : Int) < size
        · obtain ⟨B3, c3, w', hrun, ho, hg, hb⟩ := push_run (P := Try.prog) wi 28 28 w.heap.size 5 (.int .u8 0) 1 Try.underlying28 (by kernel_rfl) rfl _ _ _ hrow [.int .u8 0] 1 rfl (by simp [Value.oneCell']) (by omega) (by omega) hch.size
          rw [show u8s ys ++ [Value.int .u8 0] = u8s (ys ++ [0]) by simp [u8s]] at ho
          have hl1 : (ys ++ [0]).length = ys.length + 1 := by simp
          have HRUN := Lib.hid hrun
          have HO : Hid (w'.ownsRow w.heap.size 5 1 (.slice B3 (ys ++ [0]).length c3) (ys ++ [0]).length (u8s (ys ++ [0]))) := Lib.hid (by rw [hl1]; exact ho)
          have HC := Lib.hid (hch.then hg (fun i hi => .inl (own_ge hrow i hi)))
          have HYS : Hid (ys ++ [0] = zs ++ List.replicate (m + 1) 0) := Lib.hid (by rw [hys, List.append_assoc, ← List.replicate_succ'])
          clear hrow hch hrun ho hg hb hys hl1
          go_wp2_with (at_builtin; refine wpList_run_append rfl (.tmp 30) (.tmp 31) 28 rfl _ _ rfl rfl 28 rfl HRUN.out ?_)
          refine ⟨⟨m + 1, c3, B3, ys ++ [0], HYS.out, by simp; omega, by simp, HO.out, HC.out⟩, by simp [lenV]; omega⟩
        · have HROW := Lib.hid hrow
          have HCH := Lib.hid hch
          have HFE : Hid (F = ys) := Lib.hid (HF.out ys (by
            rw [hys, HZS.out]
            congr 1
            rw [hys] at hyl hm
            have e : (zs ++ List.replicate m (0 : Int)).length = zs.length + m := by simp
            rw [e] at hyl hm
            congr 1
            omega))
          have hle : ys.length = size := by omega
          have HLE := Lib.hid hle
          clear hrow hch hys hle
          go_wp2_with fail
          go_ret
          rw [HFE.out]
          refine ⟨.slice B2 ys.length cO2, rfl, ?_, HCH.out.below (Nat.le_refl _) (fun _ h => h)⟩
          rw [← HLE.out]
          exact HROW.out
end Go.Proofs.Ytkndnlhlglgmfaa
