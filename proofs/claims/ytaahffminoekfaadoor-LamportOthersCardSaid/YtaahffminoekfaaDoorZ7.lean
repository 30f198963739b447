/-
  The law 'LamportRecovers', walked.
-/
import Derived.Test.YtaahffminoekfaaDoorZ6
namespace Go.Proofs.YtaahffminoekfaaDoor
open Go.RowKit
theorem wpList_store_p {P : Program} {ops : Array Oper} {rest : List Oper} {op : Oper} {a : Act} {w : World} {Q : Exit → Act → World → Prop} (hgd : op.guard = none) (ty : TypeId) (x y : Operand) (ho : op.op = .store ty x y)
    (b p : Nat) (cells : Array Value) {o : Nat} (hx : a.eval x = .pointer (some ⟨b, o, none⟩)) (hy : a.eval y = .agg cells) (hop : o = p)
    (ht : w.there b p cells.size) (hi : (P.info? ty).map (·.size) = some cells.size) (h1 : cells.all (·.oneCell') = true)
    (h : wpList P ops Q rest (a.put op.dst undef) (w.setCells b p cells.toList)) : wpList P ops Q (op :: rest) a w := by
  subst hop
  exact wpList_store_mid hgd ty x y ho b o cells hx hy ht hi h1 h
theorem wpList_load_p {P : Program} {ops : Array Oper} {rest : List Oper} {op : Oper} {a : Act} {w : World} {Q : Exit → Act → World → Prop} (hgd : op.guard = none) (ty : TypeId) (x : Operand) (ho : op.op = .load ty x)
    (b p : Nat) {o : Nat} (hx : a.eval x = .pointer (some ⟨b, o, none⟩)) (hop : o = p) (cs : List Value) (d : TypeDesc) (hc : w.rangeAt b p cs)
    (hu : P.underlying ty = some d) (hd : d.isRow = true) (hi : (P.info? ty).map (·.size) = some cs.length)
    (h : wpList P ops Q rest (a.put op.dst (.agg cs.toArray)) w) : wpList P ops Q (op :: rest) a w := by
  subst hop
  exact wpList_load_mid hgd ty x ho b o hx cs d hc hu hd hi h
theorem made_rep (m n : Nat) (v : Value) (hm : 0 < m) : (madeCells (List.replicate m v).toArray n).toList = List.replicate n v := by
  refine List.eq_replicate_iff.2 ⟨by rw [Array.length_toList, size_madeCells], fun b hb => ?_⟩
  unfold madeCells at hb
  simp only [Array.toList_map, Array.toList_range] at hb
  obtain ⟨j, hj, rfl⟩ := List.mem_map.1 hb
  have hlt : j % (List.replicate m v).toArray.size < m := by simpa using Nat.mod_lt j hm
  rw [getElem!_pos _ _ (by simpa using hlt)]
  simp
theorem zs_len : (List.replicate 512 zeroH).length = 512 := List.length_replicate
theorem zs_each (r : Nat) (hr : r < 512) : ((List.replicate 512 zeroH).getD r []).length = 32 ∧ Bytes ((List.replicate 512 zeroH).getD r []) := by
  rw [List.getD_eq_getElem?_getD, List.getElem?_replicate, if_pos hr]
  exact ⟨zero_len, zero_bytes⟩
theorem zs_flat : (List.replicate 512 zeroH).flatten.length = 512 * 32 := by
  rw [flat_len32 _ (fun r hr => (zs_each r (by rw [zs_len] at hr; exact hr)).1), zs_len]
theorem madeZ : (madeCells (Value.agg ((List.replicate 32 (Value.int .u8 0)).toArray)).cells (512 * 32)).toList = u8s (List.replicate 512 zeroH).flatten := by
  have h2 : u8s (List.replicate 512 zeroH).flatten = List.replicate (512 * 32) (Value.int .u8 0) := by
    refine List.eq_replicate_iff.2 ⟨by rw [u8s_len, zs_flat], fun b hb => ?_⟩
    unfold u8s at hb
    obtain ⟨x, hx, rfl⟩ := List.mem_map.1 hb
    obtain ⟨l, hl, hxl⟩ := List.mem_flatten.1 hx
    obtain ⟨_, rfl⟩ := List.mem_replicate.1 hl
    have : x = 0 := (show ∀ x ∈ zeroH, x = 0 by decide) x hxl
    rw [this]
  rw [h2]
  exact made_rep 32 (512 * 32) (Value.int .u8 0) (by omega)
/-- A row of 512 hashes that was just made. -/
theorem made_512 (W : World) : ∃ M, (Instr.makeSlice 49 (.int .i64 512) (.int .i64 512)).run Tryd.prog W = .ok (.slice (some ⟨W.heap.size, 0, none⟩) 512 512) (W.alloc (.cells M 25)) ∧ HRow (W.alloc (.cells M 25)) W.heap.size (List.replicate 512 zeroH) := by
  obtain ⟨i, hi, hzz⟩ := Option.map_eq_some_iff.1 info25z
  simp only [Prod.mk.injEq] at hzz
  obtain ⟨hz0, hz1, hz2⟩ := hzz
  refine ⟨_, run_make (P := Tryd.prog) W 49 25 i _ Tryd.underlying49 hi hz0 .i64 .i64 512 512 (by omega) (by omega) (by rw [hz2]; omega) (by omega), ?_⟩
  rw [hz1]
  refine HRow.of_own (base := W.heap.size) (c := 512) ⟨by rw [u8s_len, zs_flat], .inr ⟨W.heap.size, 512, _, rfl, Nat.le_refl _, heap_alloc_last _ _, Nat.le_refl _, by unfold maxLen; omega, by rw [size_madeCells]; rfl, ?_⟩⟩ zs_len zs_each
  rw [← madeZ]
  exact List.take_of_length_le (by rw [Array.length_toList, size_madeCells]; exact Nat.le_refl _)
set_option maxRecDepth 100000 in
set_option maxHeartbeats 4000000 in
theorem lamportRecovers_any (h : List Int) (v : Value) (sg : List (List Int)) (w : World) (hl : h.length = 32) (hb : Bytes h) (hv : SlH w v sg) (hla : Laid w) :
    Calls Tryd.prog 16 #[hashV h, v] w (TruePost w) := by
  have hl2 := hla.lt
  have hsm := hv.small
  obtain ⟨cx, hcx, hux, _, _, hsz, hs32⟩ := hash_parts h hl
  have hmx : ∀ j, j < 32 → cx[j]? = some (.int .u8 (h.getD j 0)) := fun j hj => hash_at h cx hux hl j hj
  have hsh : ∃ A c, v = .slice A sg.length c := by
    rcases hv with ⟨rfl, rfl⟩ | ⟨a, c, rfl, _⟩
    · exact ⟨_, _, rfl⟩
    · exact ⟨_, _, rfl⟩
  obtain ⟨A, ac, rfl⟩ := hsh
  obtain ⟨W0, hW0⟩ : ∃ W0, W0 = w.alloc (.cells cx 25) := ⟨_, rfl⟩
  have hu0 : Up w W0 := by rw [hW0]; exact (Chg.refl _ w).alloc _
  have HX0 : Hid (W0.heap[w.heap.size]? = some (.cells cx 25 (0, 0))) := Lib.hid (by rw [hW0]; exact heap_alloc_last _ _)
  have hrec := lrec_any h _ sg W0 hl hb (hv.up hu0) (hla.up hu0)
  have haw := awakeB_any W0
  have hbit := fun (k : Nat) hk W => refBit_any h cx k hk hb hmx W
  rw [hcx] at hrec ⊢
  have HU0 := Lib.hid hu0
  have HA := Lib.hid haw
  have HREC := Lib.hid hrec
  have HBIT := Lib.hid hbit
  have HSX := Lib.hid hsz
  have HCX := Lib.hid hcx
  have HB := Lib.hid hb
  have HL := Lib.hid hl
  have HLA := Lib.hid hla
  have HV := Lib.hid hv
  have HW0 := Lib.hid hW0
  clear hcx hux hl hb hla hsz hs32 hv hW0 hu0 hrec haw hbit hmx
  by_cases h100 : (600 : Int) < sg.length
  case pos =>
    have hg : decide ((600 : Int) < sg.length) = true := by simpa using h100
    go_enter Tryd.func16, Tryd.ntmps16
    go_wp2_with (first | (go_at_call 52; rw [← HW0.out]; refine HA.out.mono ?_; rintro e w' ⟨rfl, hb⟩))
    go_ret
    exact ⟨rfl, (HU0.out.trans (up_below hb)).below_none (fun _ _ h => h)⟩
  case neg =>
    have hg : decide ((600 : Int) < sg.length) = false := by simpa using h100
    go_enter Tryd.func16, Tryd.ntmps16
    go_wp2_with (refine wpList_load_row rfl 25 (.tmp 2) rfl w.heap.size (by rfl) 25 cx (0, 0) _ (by rw [← HW0.out]; exact HX0.out) Tryd.underlying25 rfl HSX.out ?_)
    rw [← HW0.out]
    refine HREC.out.mono ?_
    rintro e V1 ⟨hb1, hcase⟩
    have hu1 := HU0.out.trans (up_below hb1)
    have HX1 := Lib.hid ((up_below hb1).heap HX0.out (fun h => h))
    have HU1 := Lib.hid hu1
    clear hb1 hu1 HA HREC HX0 HU0 HW0
    rcases hcase with ⟨hn, rfl⟩ | ⟨hn, rfl⟩
    case inr =>
      have hne : ((sg.length : Int) != 512) = true := by rw [bne_iff_ne]; omega
      obtain ⟨cz, hcz, hzu, hone, _, hszz, hso⟩ := hash_parts zeroH zero_len
      have q1 : ∀ W : World, (binOp .eql 25 (.agg cz) (.agg #[.int .u8 0, .int .u8 0, .int .u8 0, .int .u8 0, .int .u8 0, .int .u8 0, .int .u8 0, .int .u8 0, .int .u8 0, .int .u8 0, .int .u8 0, .int .u8 0, .int .u8 0, .int .u8 0, .int .u8 0, .int .u8 0, .int .u8 0, .int .u8 0, .int .u8 0, .int .u8 0, .int .u8 0, .int .u8 0, .int .u8 0, .int .u8 0, .int .u8 0, .int .u8 0, .int .u8 0, .int .u8 0, .int .u8 0, .int .u8 0, .int .u8 0, .int .u8 0])).run Tryd.prog W = .ok (.bool true) W := fun W => by
        have h := eql25 zeroH zeroH zero_len zero_len W
        rw [show (zeroH == zeroH) = true by simp] at h
        rw [zero_agg, ← hcz]; exact h
      have q2 : ∀ (op : BinOp) (a b : Operand) (W : World), (eqGuard op 25 a b (.agg cz) (.agg #[.int .u8 0, .int .u8 0, .int .u8 0, .int .u8 0, .int .u8 0, .int .u8 0, .int .u8 0, .int .u8 0, .int .u8 0, .int .u8 0, .int .u8 0, .int .u8 0, .int .u8 0, .int .u8 0, .int .u8 0, .int .u8 0, .int .u8 0, .int .u8 0, .int .u8 0, .int .u8 0, .int .u8 0, .int .u8 0, .int .u8 0, .int .u8 0, .int .u8 0, .int .u8 0, .int .u8 0, .int .u8 0, .int .u8 0, .int .u8 0, .int .u8 0, .int .u8 0])).run Tryd.prog W = .ok () W := fun op a b W => by
        rw [zero_agg, ← hcz]; exact guard25 op a b zeroH zeroH W
      rw [hcz]
      have HO := Lib.hid hso
      have HON := Lib.hid hone
      have HSZ := Lib.hid hszz
      clear hcz hzu hone hszz hso
      go_wp2_with (first
        | refine wpList_store_row rfl 25 (.tmp 5) (.tmp 18) rfl V1.heap.size cz (by rfl) (by rfl) 25 _ (heap_alloc_last V1 _) HSZ.out (by rw [HO.out]; rfl) HON.out ?_
        | refine wpList_load_row_g (by rfl) 25 (.tmp 5) rfl V1.heap.size (by rfl) 25 cz (0, 0) _ (setRow_same _ _ cz _ 25 (0, 0) (heap_alloc_last V1 _)) Tryd.underlying25 rfl HSZ.out ?_
        | (go_at_call 52; refine (awakeB_any _).mono ?_; rintro e w' ⟨rfl, hb⟩))
      go_ret
      exact ⟨rfl, (((HU1.out.alloc _).setRow _ (.inr HU1.out.size) cz).trans (up_below hb)).below_none (fun _ _ h => h)⟩
    case inl =>
      have hne : ((sg.length : Int) != 512) = false := by rw [bne_eq_false_iff_eq]; omega
      obtain ⟨b0, off, cap, hvv, hv1, hv2, hb0, hrr⟩ := HV.out.form (by omega)
      injection hvv with h1 h2 h3
      subst h1 h3
      rw [hn] at hne
      have hc512 : 512 ≤ ac := by omega
      have hcm : ac ≤ 9223372036854775807 := by unfold maxLen at hv2; omega
      have HRR := Lib.hid (fun r hr => (hrr r hr).2.2)
      have HLENS := Lib.hid (fun r (hr : r < 512) => HV.out.lens r (by omega))
      have HN512 := Lib.hid hn
      clear hrr hv1 hv2 h2
      rw [hn] at HV HRR ⊢
      have hany := recL_any h sg sg (List.replicate 512 zeroH) hn zs_len
      obtain ⟨x, hx⟩ : ∃ x, shaI (4 :: (recL h sg sg 256).flatten) = x := ⟨_, rfl⟩
      have hxl : x.length = 32 := by rw [← hx]; exact hash_size _
      obtain ⟨hc, hhc, _, hone, _, hsz, hso⟩ := hash_parts x hxl
      rw [hx, hhc]
      rw [hany] at hx
      have HXX := Lib.hid hx
      have HXL := Lib.hid hxl
      have HHC := Lib.hid hhc
      have HO := Lib.hid hso
      have HON := Lib.hid hone
      have HSZ := Lib.hid hsz
      have hwz : w.heap.size < V1.heap.size := (Array.getElem?_eq_some_iff.1 HX1.out).1
      obtain ⟨V3, hV3⟩ : ∃ V3, V3 = (V1.alloc (.cells (#[.int .u8 0, .int .u8 0, .int .u8 0, .int .u8 0, .int .u8 0, .int .u8 0, .int .u8 0, .int .u8 0, .int .u8 0, .int .u8 0, .int .u8 0, .int .u8 0, .int .u8 0, .int .u8 0, .int .u8 0, .int .u8 0, .int .u8 0, .int .u8 0, .int .u8 0, .int .u8 0, .int .u8 0, .int .u8 0, .int .u8 0, .int .u8 0, .int .u8 0, .int .u8 0, .int .u8 0, .int .u8 0, .int .u8 0, .int .u8 0, .int .u8 0, .int .u8 0]) 25)).setRow V1.heap.size hc := ⟨_, rfl⟩
      obtain ⟨M, hM, hrow⟩ := made_512 V3
      rw [hV3] at hM
      clear hx hxl hhc hone hsz hso hg hsm h100 hany
      go_wp2_with (first
        | refine wpList_store_row rfl 25 (.tmp 5) (.tmp 18) rfl V1.heap.size hc (by rfl) (by rfl) 25 _ (heap_alloc_last V1 _) HSZ.out (by rw [HO.out]; rfl) HON.out ?_)
      rw [← hV3]
      obtain ⟨B0, hB0⟩ : ∃ B0, B0 = V1.heap.size := ⟨_, rfl⟩
      rw [← hB0]
      have hs3 : V3.heap[B0]? = some (.cells hc 25 (0, 0)) := by rw [hV3, hB0]; exact setRow_same _ _ hc _ 25 (0, 0) (heap_alloc_last V1 _)
      have hu3 : Up w V3 := by rw [hV3]; exact (HU1.out.alloc _).setRow _ (.inr HU1.out.size) hc
      have hx3 : V3.heap[w.heap.size]? = some (.cells cx 25 (0, 0)) := by rw [hV3]; exact (setRow_other _ _ _ _ (by omega)).trans ((Below.heap_alloc _ _ _ (by omega)).trans HX1.out)
      have hB3 : B0 < V3.heap.size := (Array.getElem?_eq_some_iff.1 hs3).1
      have hw3 : w.heap.size < V3.heap.size := (Array.getElem?_eq_some_iff.1 hx3).1
      obtain ⟨W1, hW1⟩ : ∃ W1, W1 = V3.alloc (.cells M 25) := ⟨_, rfl⟩
      rw [← hW1] at hrow ⊢
      have hgB : V3.heap.size = B0 + 1 := by rw [hV3, hB0]; simp
      obtain ⟨g, hg⟩ : ∃ g, g = B0 + 1 := ⟨_, rfl⟩
      rw [hgB, ← hg] at hrow hB3 hw3
      rw [← hg]
      have hu1 : Up V3 W1 := by rw [hW1]; exact (Chg.refl _ V3).alloc _
      have hgW : g < W1.heap.size := by rw [hW1, hg, ← hgB]; simp
      have HU1' := Lib.hid (hu3.trans hu1)
      have HS1 := Lib.hid (hu1.heap hs3 (fun h => h))
      have HXR1 := Lib.hid (hu1.heap hx3 (fun h => h))
      have HR1 := Lib.hid (fun r hr => Rng.up (HRR.out r hr) (hu3.trans hu1))
      have HLA1 := Lib.hid (HLA.out.up (hu3.trans hu1))
      have HROW := Lib.hid hrow
      have hwg : w.heap.size ≤ g := by omega
      clear hs3 hu3 hx3 hW1 hg hgB hu1 hV3 hB0 hM hrow HX1 HU1 HRR HLA hwz
      go_loopw [34] (fun i wr => ∃ (k : Nat), k ≤ 256 ∧ i = .int .i64 k ∧ Chg (fun i => i = g) W1 wr ∧ HRow wr g (recL h sg (List.replicate 512 zeroH) k)) (fun i _ => 256 - (intOf i).toNat)
      case atStart => exact ⟨0, by omega, rfl, Chg.refl _ _, HROW.out⟩
      case round =>
        rename World => wo
        obtain ⟨k, hk, rfl, hch, hrow⟩ := hrel
        by_cases hk2 : (k : Int) < 256
        · have hbd := bitI_bd h k
          obtain ⟨bn, hbn⟩ : ∃ bn : Nat, bitI h k = bn := ⟨(bitI h k).toNat, by omega⟩
          have hbn2 : bn ≤ 1 := by omega
          have hs0 := HLENS.out (2 * k) (by omega)
          have hy0 := HLENS.out (2 * k + 1) (by omega)
          have hrg0 := HR1.out (2 * k) (by omega)
          have hrg1 := HR1.out (2 * k + 1) (by omega)
          have hrs := recL_succ h sg (List.replicate 512 zeroH) k
          unfold updL at hrs
          rw [Nat.mod_eq_of_lt (show k < 256 by omega), hbn, Int.toNat_natCast] at hrs
          have hbit := HBIT.out k (by omega) wo
          rw [hbn] at hbit
          obtain ⟨s0, hs0'⟩ : ∃ x, sg.getD (2 * k) [] = x := ⟨_, rfl⟩
          obtain ⟨y1, hy1'⟩ : ∃ x, sg.getD (2 * k + 1) [] = x := ⟨_, rfl⟩
          obtain ⟨x1, hx1'⟩ : ∃ x, stepI s0 (67 + (k : Int)) bn = x := ⟨_, rfl⟩
          have HX1L : Hid (x1.length = 32) := Lib.hid (by rw [← hx1']; exact stepI_len _ _ _)
          have HX1B : Hid (Bytes x1) := Lib.hid (by rw [← hx1']; exact stepI_bytes _ _ _)
          rw [hs0'] at hs0 hrg0 hrs
          rw [hy1'] at hy0 hrg1 hrs
          rw [hx1'] at hrs
          have HRS := Lib.hid hrs
          have HX1E := Lib.hid hx1'
          have HS0L := Lib.hid hs0.1
          have HS0B := Lib.hid hs0.2
          have HY1L := Lib.hid hy0.1
          have HY1B := Lib.hid hy0.2
          have HRG0 := Lib.hid (fun j u hu => hch.cell (hrg0 j u hu) (by simp only; omega))
          have HRG1 := Lib.hid (fun j u hu => hch.cell (hrg1 j u hu) (by simp only; omega))
          have HXRo := Lib.hid (hch.heap HXR1.out (by omega))
          have HBITo := Lib.hid hbit
          have HLAo := Lib.hid (HLA1.out.chg hch (by omega) (by omega))
          have HROo := Lib.hid hrow
          have HCH := Lib.hid hch
          clear hbd hbn hs0 hy0 hrg0 hrg1 hrs hbit hs0' hy1' hx1' hch hrow
          go_wp2_with (refine wpList_load_row rfl 25 (.tmp 2) rfl w.heap.size (by rfl) 25 cx (0, 0) _ HXRo.out Tryd.underlying25 rfl HSX.out ?_)
          refine HBITo.out.mono ?_
          rintro e W2 ⟨rfl, hb2⟩
          have hu2 := up_below hb2
          have HRG0 := Lib.hid (fun j u hu => hu2.cell (HRG0.out j u hu) (fun h => h))
          have HRG1 := Lib.hid (fun j u hu => hu2.cell (HRG1.out j u hu) (fun h => h))
          have hcl := chain_any s0 (67 + (k : Int)) bn W2 HS0L.out HS0B.out (by omega) (by omega) (by omega) (by omega) (HLAo.out.up hu2)
          unfold SumPost at hcl
          rw [stepI_eq, HX1E.out] at hcl
          simp only [hashV] at hcl
          have HCL := Lib.hid hcl
          have HRO2 := Lib.hid (HROo.out.chg hu2 (fun h => h))
          have HCH2 := Lib.hid (HCH.out.then hu2 (fun _ h => h.elim))
          clear hb2 hu2 hcl HBITo HROo HCH HLAo HXRo
          go_wp2_with (refine wpList_load_p rfl 25 (.tmp 48) rfl b0 (off + 32 * (2 * k)) (by rfl) (by omega) (u8s s0) _ HRG0.out Tryd.underlying25 rfl (info25l HS0L.out) ?_)
          refine HCL.out.mono ?_
          rintro e W3 ⟨rfl, hb3⟩
          have hu3 := up_below hb3
          have HRG1 := Lib.hid (fun j u hu => hu3.cell (HRG1.out j u hu) (fun h => h))
          have hro3 := HRO2.out.chg hu3 (fun h => h)
          have hp1 := hro3.store (2 * k + bn) (by omega) x1 HX1L.out HX1B.out
          have hp2 := hp1.store (2 * k + 1 - bn) (by omega) y1 HY1L.out HY1B.out
          have ht1 := (hro3.2 (2 * k + bn) (by omega)).2.2.2
          have ht2 := (hp1.2 (2 * k + 1 - bn) (by omega)).2.2.2
          have hrg1' : (W3.setCells g (32 * (2 * k + bn)) (u8s x1)).rangeAt b0 (off + 32 * (2 * k + 1)) (u8s y1) := World.rangeAt_setCells_apart HRG1.out _ _ _ (.inl (by omega))
          have hsx : (u8s x1).toArray.size = 32 := by simp [u8s, HX1L.out]
          have hsy : (u8s y1).toArray.size = 32 := by simp [u8s, HY1L.out]
          have HT1 : Hid (W3.there g (32 * (2 * k + bn)) (u8s x1).toArray.size) := Lib.hid (by rw [hsx]; exact ht1)
          have HT2 : Hid ((W3.setCells g (32 * (2 * k + bn)) (u8s x1)).there g (32 * (2 * k + 1 - bn)) (u8s y1).toArray.size) := Lib.hid (by rw [hsy]; exact ht2)
          have HIX : Hid ((Tryd.prog.info? 25).map (·.size) = some (u8s x1).toArray.size) := Lib.hid (by rw [hsx, size25])
          have HIY : Hid ((Tryd.prog.info? 25).map (·.size) = some (u8s y1).toArray.size) := Lib.hid (by rw [hsy, size25])
          have HP2 := Lib.hid hp2
          have HRG1' := Lib.hid hrg1'
          have HCH4 := Lib.hid (Chg.setCells (S := fun i => i = g) g (.inl rfl) (u8s y1) (32 * (2 * k + 1 - bn)) _ (Chg.setCells (S := fun i => i = g) g (.inl rfl) (u8s x1) (32 * (2 * k + bn)) _ (HCH2.out.then hu3 (fun _ h => h.elim))))
          clear hb3 hu3 hro3 hp1 hp2 ht1 ht2 hrg1' hsx hsy HCL HRO2 HCH2 HRG1 HRG0
          go_wp2_with (first
            | refine wpList_store_p rfl 25 (.tmp 54) (.tmp 53) rfl g (32 * (2 * k + bn)) (u8s x1).toArray (by rfl) (by rfl) (by omega) HT1.out HIX.out (all_one (u8s_one _)) ?_
            | refine wpList_load_p rfl 25 (.tmp 65) rfl b0 (off + 32 * (2 * k + 1)) (by rfl) (by omega) (u8s y1) _ HRG1'.out Tryd.underlying25 rfl (info25l HY1L.out) ?_
            | refine wpList_store_p rfl 25 (.tmp 67) (.tmp 66) rfl g (32 * (2 * k + 1 - bn)) (u8s y1).toArray (by rfl) (by rfl) (by omega) HT2.out HIY.out (all_one (u8s_one _)) ?_)
          go_roundw
          case rel =>
            refine ⟨k + 1, by omega, by go_num, HCH4.out, ?_⟩
            rw [HRS.out]; exact HP2.out
          case measure => simp [intOf]; omega
        · obtain rfl : k = 256 := by omega
          have hud : Up wo wo.drew := (Chg.refl _ _).drew
          have hslh : SlH wo.drew (.slice (some ⟨g, 0, none⟩) 512 512) (recL h sg (List.replicate 512 zeroH) 256) := (hrow.chg hud (fun h => h)).slh (by omega) (by unfold maxLen; omega)
          have HSLH := Lib.hid hslh
          have HS4 := Lib.hid ((hch.then hud (fun _ h => h.elim)).heap HS1.out (by omega))
          have HC4 := Lib.hid ((HU1'.out.mono (T := fun i => i = g) (fun _ _ h => h.elim)).then (hch.then hud (fun _ h => h.elim)) (fun i hi => .inl hi))
          have HLA4 := Lib.hid (HLA1.out.chg (hch.then hud (fun _ h => h.elim)) (by omega) (by omega))
          clear hslh hud hrow hch HS1 HLA1 HR1 HXR1 HROW
          go_wp2_with fail
          refine region_mono Up [fun v _ => v = .int .i64 0,
              fun v _ => v = .bool true,
              fun v _ => v = .bool true,
              fun v _ => v = hashV x,
              fun v _ => v = .slice (some ⟨g, 0, none⟩) 512 512,
              fun v _ => v = hashV x,
              fun v _ => v = .bool true,
              fun v _ => v = .bool true,
              fun v _ => v = .bool true,
              fun v _ => v = .bool true,
              fun v _ => v = .bool true] (by kernel_rfl) (by kernel_rfl) (Chg.refl _) (fun _ _ _ => Chg.trans) (by simp) ?_ ?_ ?_
          · simp only [List.forall_mem_cons]
            exact ⟨fun _ _ _ _ _ h => h, fun _ _ _ _ _ h => h, fun _ _ _ _ _ h => h, fun _ _ _ _ _ h => h, fun _ _ _ _ _ h => h, fun _ _ _ _ _ h => h, fun _ _ _ _ _ h => h, fun _ _ _ _ _ h => h, fun _ _ _ _ _ h => h, fun _ _ _ _ _ h => h, fun _ _ _ _ _ h => h, by simp⟩
          · refine ⟨?_, ?_, ?_, ?_, ?_, ?_, ?_, ?_, ?_, ?_, ?_, trivial⟩
            · intro ρ w1 hw h0 hc hg hf hd
              have s6 : ρ (.tmp 6) = .int .i64 0 := h0 6 (by kernel_rfl)
              refine ⟨fun _ => ?_, fun h => by cases h⟩
              clear h0 hg hd
              exact gives_move rfl ⟨Chg.refl _ _, s6⟩
            · intro ρ w1 hw h0 hc hg hf hd
              have d0 := hd ⟨0, .data⟩ (by simp) rfl _ _ _ rfl rfl rfl
              refine ⟨fun _ => ?_, fun h => by cases h⟩
              clear h0 hg hd
              clear hf
              refine Gives.value (w' := w1) ?_ ⟨Chg.refl _ _, rfl⟩
              go_simp
            · intro ρ w1 hw h0 hc hg hf hd
              have d1 := hd ⟨1, .data⟩ (by simp) rfl _ _ _ rfl rfl rfl
              refine ⟨fun _ => ?_, fun h => by cases h⟩
              clear h0 hg hd
              exact gives_move rfl ⟨Chg.refl _ _, d1⟩
            · intro ρ w1 hw h0 hc hg hf hd
              have d2 := hd ⟨2, .guard⟩ (by simp) rfl _ _ _ rfl rfl rfl
              have s5 : ρ (.tmp 5) = .pointer (some ⟨B0, 0, none⟩) := h0 5 (by kernel_rfl)
              refine ⟨fun _ => ?_, fun h => by rw [wantedBy_true rfl rfl rfl d2] at h; cases h⟩
              clear d2
              clear h0 hg hd
              clear hc hf
              rw [HHC.out]
              exact gives_load_row rfl s5 (hw.heap HS4.out (fun h => h)) Tryd.underlying25 rfl HSZ.out ⟨Chg.refl _ _, rfl⟩
            · intro ρ w1 hw h0 hc hg hf hd
              have d2 := hd ⟨2, .guard⟩ (by simp) rfl _ _ _ rfl rfl rfl
              have s7 : ρ (.tmp 7) = .slice (some ⟨g, 0, none⟩) 512 512 := h0 7 (by kernel_rfl)
              refine ⟨fun _ => ?_, fun h => by rw [wantedBy_true rfl rfl rfl d2] at h; cases h⟩
              clear d2
              clear h0 hg hd
              exact gives_move rfl ⟨Chg.refl _ _, s7⟩
            · intro ρ w1 hw h0 hc hg hf hd
              have d4 := hd ⟨4, .data⟩ (by simp) rfl _ _ _ rfl rfl rfl
              have d2 := hd ⟨2, .chain⟩ (by simp) rfl _ _ _ rfl rfl rfl
              refine ⟨fun _ => ?_, fun h => by rw [wantedBy_true rfl rfl rfl d2] at h; cases h⟩
              clear d2
              clear h0 hg hd
              have hcl := public_any _ _ w1 (HSLH.out.up hw) (by rw [recL_len, zs_len]; omega) (HLA4.out.up hw)
              unfold SumPost at hcl
              rw [HXX.out] at hcl
              refine gives_call rfl hf Tryd.func39 rfl (by kernel_rfl) (args := #[.slice (some ⟨g, 0, none⟩) 512 512]) (by simp [hc, d4]) (hcl.mono ?_)
              rintro e w2 ⟨rfl, hb⟩
              exact ⟨_, rfl, up_below hb, rfl⟩
            · intro ρ w1 hw h0 hc hg hf hd
              have d3 := hd ⟨3, .data⟩ (by simp) rfl _ _ _ rfl rfl rfl
              have d5 := hd ⟨5, .data⟩ (by simp) rfl _ _ _ rfl rfl rfl
              have d2 := hd ⟨2, .guard⟩ (by simp) rfl _ _ _ rfl rfl rfl
              refine ⟨fun _ => ?_, fun h => by rw [wantedBy_true rfl rfl rfl d2] at h; cases h⟩
              clear d2
              clear h0 hg hd
              exact gives_same rfl d3 d5 HXL.out ⟨Chg.refl _ _, rfl⟩
            · intro ρ w1 hw h0 hc hg hf hd
              have d2 := hd ⟨2, .data⟩ (by simp) rfl _ _ _ rfl rfl rfl
              have d6 := hd ⟨6, .data⟩ (by simp) rfl _ _ _ rfl rfl rfl
              refine ⟨fun _ => ?_, fun h => by cases h⟩
              clear h0 hg hd
              clear hf
              refine Gives.value (w' := w1) ?_ ⟨Chg.refl _ _, rfl⟩
              go_simp
            · intro ρ w1 hw h0 hc hg hf hd
              have d7 := hd ⟨7, .data⟩ (by simp) rfl _ _ _ rfl rfl rfl
              refine ⟨fun _ => ?_, fun h => by cases h⟩
              clear h0 hg hd
              exact gives_move rfl ⟨Chg.refl _ _, d7⟩
            · intro ρ w1 hw h0 hc hg hf hd
              have d8 := hd ⟨8, .chain⟩ (by simp) rfl _ _ _ rfl rfl rfl
              refine ⟨fun _ => ?_, fun h => by rw [wantedBy_true rfl rfl rfl d8] at h; cases h⟩
              clear d8
              clear h0 hg hd
              refine gives_call rfl hf Tryd.func52 rfl (by kernel_rfl) (args := #[]) (by simp [hc]) ((awakeB_any w1).mono ?_)
              rintro e w2 ⟨rfl, hb⟩
              exact ⟨_, rfl, up_below hb, rfl⟩
            · intro ρ w1 hw h0 hc hg hf hd
              have d8 := hd ⟨8, .data⟩ (by simp) rfl _ _ _ rfl rfl rfl
              have d9 := hd ⟨9, .data⟩ (by simp) rfl _ _ _ rfl rfl rfl
              refine ⟨fun _ => ?_, fun h => by cases h⟩
              clear h0 hg hd
              clear hf
              refine Gives.value (w' := w1) ?_ ⟨Chg.refl _ _, rfl⟩
              go_simp
          · intro vs w2 hw hr
            have h10 := hr 10 _ rfl
            clear hr
            dsimp only [putsL, restL]
            simp only [Act.put, List.setIfInBounds_toArray, List.set_cons_zero, List.set_cons_succ]
            rw [h10]
            have HU9 := Lib.hid (HC4.out.then hw (fun _ h => h.elim))
            clear hw h10
            go_wp2
            go_ret
            exact ⟨rfl, HU9.out.below (Nat.le_refl _) (fun i hi => by omega)⟩
end Go.Proofs.YtaahffminoekfaaDoor
