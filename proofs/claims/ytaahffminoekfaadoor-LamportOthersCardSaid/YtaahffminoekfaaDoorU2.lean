/-
  TagInputs, walked.
-/
import Derived.Test.YtaahffminoekfaaDoorU1
import Derived.Test.YtaahffminoekfaaDoorR1
import Derived.Lib.Bytes
namespace Go.Proofs.YtaahffminoekfaaDoor
open Go.RowKit
theorem bytesOf_eq : ∀ (xs ys : List Int), Bytes xs → Bytes ys → ((Lib.bytesOf xs == Lib.bytesOf ys) = (xs == ys))
  | [], [], _, _ => rfl
  | [], _ :: _, _, _ => rfl
  | _ :: _, [], _, _ => rfl
  | x :: xs, y :: ys, h, k => by
    have ih := bytesOf_eq xs ys (bytes_tail h) (bytes_tail k)
    have hx := h 0
    have hy := k 0
    simp only [List.getD_cons_zero] at hx hy
    unfold Lib.bytesOf at ih ⊢
    rw [List.map_cons, List.map_cons, List.cons_beq_cons, List.cons_beq_cons, ih]
    congr 1
    rw [Bool.eq_iff_iff]
    simp only [beq_iff_eq]
    constructor
    · intro he
      have := congrArg UInt8.toNat he
      simp at this
      omega
    · rintro rfl; rfl
theorem str_eq (xs ys : List Int) (h : Bytes xs) (k : Bytes ys) : ((strOfNums xs).toList == (strOfNums ys).toList) = (xs == ys) := by
  rw [Lib.strOfNums_toList, Lib.strOfNums_toList]; exact bytesOf_eq xs ys h k
theorem str_add (xs ys : List Int) : strOfNums xs ++ strOfNums ys = strOfNums (xs ++ ys) := by
  apply ByteArray.ext
  show (strOfNums xs ++ strOfNums ys).data = _
  simp [strOfNums]
set_option maxRecDepth 100000 in
theorem sl_string {w : World} {v : Value} {xs : List Int} (h : SlB w v xs) : (convert 22 9 v).run Tryd.prog w = .ok (.string (strOfNums xs)) w := by
  rcases Nat.eq_zero_or_pos xs.length with h0 | h0
  · obtain rfl : xs = [] := List.eq_nil_of_length_eq_zero h0
    rcases h with ⟨rfl, _, _⟩ | ⟨⟨b, off, sp⟩, c, rfl, hl, hc, hc2, hr⟩
    · exact run_convert_bytes_nil w 22 5 Tryd.underlying22 Tryd.underlying5 0 0 9 Tryd.underlying9
    · simp [convert, run_underlying Tryd.underlying22, run_underlying Tryd.underlying9, run_underlying Tryd.underlying5, Conv.bytesToString, loadCells, loadCellsFrom, strOfNums]
      rfl
  · obtain ⟨b, off, c, rfl, hc, hc2⟩ := h.form h0
    exact run_convert_bytes_arg w 22 5 Tryd.underlying22 Tryd.underlying5 b off xs.length c xs rfl (fun i hi => h.at_ i hi) 9 Tryd.underlying9
theorem gives_string {o : Oper} {ρ : Operand → Value} {w : World} {Φ : Value → World → Prop} {x : Operand} {xs : List Int} (ho : o.op = .convert 22 9 x) (h : SlB w (ρ x) xs) (k : Φ (.string (strOfNums xs)) w) : Gives Tryd.prog o ρ w Φ := by
  refine Gives.value (v := .string (strOfNums xs)) (w' := w) ?_ k
  simp [execOp, ho, sl_string h]
theorem gives_streq {P : Program} {o : Oper} {ρ : Operand → Value} {w : World} {Φ : Value → World → Prop} {x y : Operand} {xs ys : List Int} (ho : o.op = .binOp .eql 9 x y 9) (hx : ρ x = .string (strOfNums xs)) (hy : ρ y = .string (strOfNums ys)) (h : Bytes xs) (k : Bytes ys) (kk : Φ (.bool (xs == ys)) w) : Gives P o ρ w Φ := by
  refine Gives.value (v := .bool (xs == ys)) (w' := w) ?_ kk
  simp [execOp, ho, hx, hy, eqGuard, binOp, Op.stringOp]
  exact str_eq xs ys h k
set_option maxRecDepth 100000 in
set_option maxHeartbeats 4000000 in
theorem tagInputs_any (k m : Int) (v : Value) (xs : List Int) (w : World) (hk : I64 k) (hm : I64 m) (h : SlB w v xs) (hx : Bytes xs) (hla : Laid w) :
    Calls Tryd.prog 13 #[.int .i64 k, .int .i64 m, v] w (TruePost w) := by
  have hl2 := hla.lt
  obtain ⟨hk1, hk2⟩ := hk
  obtain ⟨hm1, hm2⟩ := hm
  obtain ⟨A, ac, rfl, _⟩ := h.shape
  have HV := Lib.hid h
  have HX := Lib.hid hx
  have HLA := Lib.hid hla
  clear h hx hla
  by_cases hg : (500 : Int) < xs.length
  · have HA := Lib.hid (awake2_any w HLA.out)
    go_enter Tryd.func13, Tryd.ntmps13
    go_wp2_with (go_at_call 30; refine HA.out.mono ?_; rintro e w' ⟨rfl, hb⟩)
    go_ret
    exact ⟨rfl, hb⟩
  go_enter Tryd.func13, Tryd.ntmps13
  go_wp2_with fail
  refine (input_any k _ [xs] xs _ (rows1 w _ xs HV.out HX.out) (by simp) (by omega)).mono ?_
  rintro e W1 ⟨A7, c7, rfl, o7, b7⟩
  have U1 := Lib.hid (((Chg.refl (fun _ => False) w).alloc (.cells #[.slice A xs.length ac] 22)).trans (up_below b7))
  have P7 := Lib.hid (own_src o7)
  clear o7 b7
  go_wp2_with fail
  refine (input_any m _ [xs] xs _ (rows1 W1 _ xs (HV.out.up U1.out) HX.out) (by simp) (by omega)).mono ?_
  rintro e W2 ⟨A8, c8, rfl, o8, b8⟩
  have V2 := Lib.hid (((Chg.refl (fun _ => False) W1).alloc (.cells #[.slice A xs.length ac] 22)).trans (up_below b8))
  have P8 := Lib.hid (own_src o8)
  clear o8 b8
  go_wp2_with fail
  have q1 : SlB (W2.alloc (.cells #[.int .u8 7] 5)) (.slice A xs.length ac) xs := HV.out.up ((U1.out.trans V2.out).alloc _)
  have q2 : SlB (W2.alloc (.cells #[.int .u8 7] 5)) (.slice (some ⟨W2.heap.size, 0, none⟩) 1 1) [7] := one_slb W2 7
  have q3 := rows2 _ _ _ xs [7] q1 HX.out q2 (Bytes.cons (by omega) (fun j => by simp))
  rw [World.size_alloc] at q3
  refine (input_any k _ [xs, [7]] (xs ++ [7]) _ q3 (by simp) (by simp; omega)).mono ?_
  rintro e W3 ⟨A9, c9, rfl, o9, b9⟩
  have V3 := Lib.hid ((((Chg.refl (fun _ => False) W2).alloc (.cells #[.int .u8 7] 5)).alloc (.cells #[.slice A xs.length ac, .slice (some ⟨W2.heap.size, 0, none⟩) 1 1] 22)).trans (up_below b9))
  have S9 : Hid (SlB W3.drew (.slice A9 (1 + (xs.length + 1)) c9) (k % 256 :: (xs ++ [7]))) := Lib.hid (by have := (own_src o9).up ((Chg.refl (fun _ => False) W3).drew); rwa [List.length_append] at this)
  have S8 : Hid (SlB W3.drew (.slice A8 (1 + xs.length) c8) (m % 256 :: xs)) := Lib.hid (P8.out.up V3.out.drew)
  have S7 : Hid (SlB W3.drew (.slice A7 (1 + xs.length) c7) (k % 256 :: xs)) := Lib.hid (P7.out.up (V2.out.trans V3.out.drew))
  have HC0 : Hid (Up w W3.drew) := Lib.hid (U1.out.trans (V2.out.trans V3.out.drew))
  have HL : Hid (Bytes (k % 256 :: xs)) := Lib.hid (Bytes.cons (by omega) HX.out)
  have HM : Hid (Bytes (m % 256 :: xs)) := Lib.hid (Bytes.cons (by omega) HX.out)
  have HN : Hid (Bytes (k % 256 :: (xs ++ [7]))) := Lib.hid (Bytes.cons (by omega) (HX.out.append (Bytes.cons (by omega) (fun j => by simp))))
  clear q1 q2 q3 o9 b9 P7 P8 U1 V2 V3
  go_wp2_with fail
  refine region_mono Up [fun v _ => v = .slice A7 (1 + xs.length) c7,
      fun v _ => v = .string (strOfNums (k % 256 :: xs)),
      fun v _ => v = .int .i64 k,
      fun v _ => v = .int .u8 (k % 256),
      fun v _ => v = .slice A xs.length ac,
      fun v w' => SlBB w' v [xs],
      fun v w' => SlB w' v (k % 256 :: xs),
      fun v _ => v = .string (strOfNums (k % 256 :: xs)),
      fun v _ => v = .bool true,
      fun v _ => v = .bool true,
      fun v _ => v = .slice A7 (1 + xs.length) c7,
      fun v _ => v = .string (strOfNums (k % 256 :: xs)),
      fun v _ => v = .slice A8 (1 + xs.length) c8,
      fun v _ => v = .string (strOfNums (m % 256 :: xs)),
      fun v _ => v = .bool (k % 256 == m % 256),
      fun v _ => v = .int .i64 k,
      fun v _ => v = .int .u8 (k % 256),
      fun v _ => v = .int .i64 m,
      fun v _ => v = .int .u8 (m % 256),
      fun v _ => v = .bool (k % 256 == m % 256),
      fun v _ => v = .bool true,
      fun v _ => v = .bool true,
      fun v _ => v = .bool true,
      fun v _ => v = .slice A9 (1 + (xs.length + 1)) c9,
      fun v _ => v = .string (strOfNums (k % 256 :: (xs ++ [7]))),
      fun v _ => v = .slice A7 (1 + xs.length) c7,
      fun v _ => v = .string (strOfNums (k % 256 :: xs)),
      fun v _ => v = .string (strOfNums (k % 256 :: (xs ++ [7]))),
      fun v _ => v = .bool true,
      fun v _ => v = .bool true,
      fun v _ => v = .bool true,
      fun v _ => v = .bool true,
      fun v _ => v = .bool true] (by kernel_rfl) (by kernel_rfl) (Chg.refl _) (fun _ _ _ => Chg.trans) (by simp) ?_ ?_ ?_
  · simp only [List.forall_mem_cons]
    exact ⟨fun _ _ _ _ _ h => h, fun _ _ _ _ _ h => h, fun _ _ _ _ _ h => h, fun _ _ _ _ _ h => h, fun _ _ _ _ _ h => h, fun _ _ _ _ hu h => SlBB.up h hu, fun _ _ _ _ hu h => SlB.up h hu, fun _ _ _ _ _ h => h, fun _ _ _ _ _ h => h, fun _ _ _ _ _ h => h, fun _ _ _ _ _ h => h, fun _ _ _ _ _ h => h, fun _ _ _ _ _ h => h, fun _ _ _ _ _ h => h, fun _ _ _ _ _ h => h, fun _ _ _ _ _ h => h, fun _ _ _ _ _ h => h, fun _ _ _ _ _ h => h, fun _ _ _ _ _ h => h, fun _ _ _ _ _ h => h, fun _ _ _ _ _ h => h, fun _ _ _ _ _ h => h, fun _ _ _ _ _ h => h, fun _ _ _ _ _ h => h, fun _ _ _ _ _ h => h, fun _ _ _ _ _ h => h, fun _ _ _ _ _ h => h, fun _ _ _ _ _ h => h, fun _ _ _ _ _ h => h, fun _ _ _ _ _ h => h, fun _ _ _ _ _ h => h, fun _ _ _ _ _ h => h, fun _ _ _ _ _ h => h, by simp⟩
  · refine ⟨?_, ?_, ?_, ?_, ?_, ?_, ?_, ?_, ?_, ?_, ?_, ?_, ?_, ?_, ?_, ?_, ?_, ?_, ?_, ?_, ?_, ?_, ?_, ?_, ?_, ?_, ?_, ?_, ?_, ?_, ?_, ?_, ?_, trivial⟩
    · intro ρ w1 hw h0 hc hg hf hd
      have s7 : ρ (.tmp 7) = .slice A7 (1 + xs.length) c7 := h0 7 (by kernel_rfl)
      refine ⟨fun _ => ?_, fun h => by cases h⟩
      clear h0 hg hd
      exact gives_move rfl ⟨Chg.refl _ _, s7⟩
    · intro ρ w1 hw h0 hc hg hf hd
      have d0 := hd ⟨0, .data⟩ (by simp) rfl _ _ _ rfl rfl rfl
      refine ⟨fun _ => ?_, fun h => by cases h⟩
      clear h0 hg hd
      have hs := (S7.out.up hw)
      rw [← d0] at hs
      exact gives_string rfl hs ⟨Chg.refl _ _, rfl⟩
    · intro ρ w1 hw h0 hc hg hf hd
      have s0 : ρ (.tmp 0) = .int .i64 k := h0 0 (by kernel_rfl)
      refine ⟨fun _ => ?_, fun h => by cases h⟩
      clear h0 hg hd
      exact gives_move rfl ⟨Chg.refl _ _, s0⟩
    · intro ρ w1 hw h0 hc hg hf hd
      have d2 := hd ⟨2, .data⟩ (by simp) rfl _ _ _ rfl rfl rfl
      refine ⟨fun _ => ?_, fun h => by cases h⟩
      clear h0 hg hd
      clear hf
      refine Gives.value (w' := w1) ?_ ⟨Chg.refl _ _, rfl⟩
      go_simp
      exact IntKind.wrap_u8 _
    · intro ρ w1 hw h0 hc hg hf hd
      have s2 : ρ (.tmp 2) = .slice A xs.length ac := h0 2 (by kernel_rfl)
      refine ⟨fun _ => ?_, fun h => by cases h⟩
      clear h0 hg hd
      exact gives_move rfl ⟨Chg.refl _ _, s2⟩
    · intro ρ w1 hw h0 hc hg hf hd
      have d4 := hd ⟨4, .data⟩ (by simp) rfl _ _ _ rfl rfl rfl
      refine ⟨fun _ => ?_, fun h => by cases h⟩
      clear h0 hg hd
      have SL := HV.out.up (HC0.out.trans hw)
      clear hc hf
      have hs := rows1 w1 _ xs SL HX.out
      clear SL
      refine Gives.value ?_ ⟨(Chg.refl _ w1).alloc _, hs⟩
      clear hs
      go_simp
    · intro ρ w1 hw h0 hc hg hf hd
      have d3 := hd ⟨3, .data⟩ (by simp) rfl _ _ _ rfl rfl rfl
      have d5 := hd ⟨5, .data⟩ (by simp) rfl _ _ _ rfl rfl rfl
      refine ⟨fun _ => ?_, fun h => by cases h⟩
      clear h0 hg hd
      refine gives_call rfl hf Tryd.func32 rfl (by kernel_rfl) (args := #[.int .u8 (k % 256), ρ (.tmp 32)]) (by simp [d3]) ((bytes_any (k % 256) _ _ xs w1 d5 (by simp) (by omega)).mono ?_)
      rintro e w2 ⟨A, c, rfl, ho, hb⟩
      exact ⟨_, rfl, up_below hb, own_src ho⟩
    · intro ρ w1 hw h0 hc hg hf hd
      have d6 := hd ⟨6, .data⟩ (by simp) rfl _ _ _ rfl rfl rfl
      refine ⟨fun _ => ?_, fun h => by cases h⟩
      clear h0 hg hd
      exact gives_string rfl d6 ⟨Chg.refl _ _, rfl⟩
    · intro ρ w1 hw h0 hc hg hf hd
      have d1 := hd ⟨1, .data⟩ (by simp) rfl _ _ _ rfl rfl rfl
      have d7 := hd ⟨7, .data⟩ (by simp) rfl _ _ _ rfl rfl rfl
      refine ⟨fun _ => ?_, fun h => by cases h⟩
      clear h0 hg hd
      exact gives_streq rfl d1 d7 HL.out HL.out (by rw [show ((k % 256 :: xs) == (k % 256 :: xs)) = true by simp]; exact ⟨Chg.refl _ _, rfl⟩)
    · intro ρ w1 hw h0 hc hg hf hd
      have d8 := hd ⟨8, .data⟩ (by simp) rfl _ _ _ rfl rfl rfl
      refine ⟨fun _ => ?_, fun h => by cases h⟩
      clear h0 hg hd
      exact gives_move rfl ⟨Chg.refl _ _, d8⟩
    · intro ρ w1 hw h0 hc hg hf hd
      have d9 := hd ⟨9, .guard⟩ (by simp) rfl _ _ _ rfl rfl rfl
      have s7 : ρ (.tmp 7) = .slice A7 (1 + xs.length) c7 := h0 7 (by kernel_rfl)
      refine ⟨fun _ => ?_, fun h => by rw [wantedBy_true rfl rfl rfl d9] at h; cases h⟩
      clear d9
      clear h0 hg hd
      exact gives_move rfl ⟨Chg.refl _ _, s7⟩
    · intro ρ w1 hw h0 hc hg hf hd
      have d10 := hd ⟨10, .data⟩ (by simp) rfl _ _ _ rfl rfl rfl
      have d9 := hd ⟨9, .guard⟩ (by simp) rfl _ _ _ rfl rfl rfl
      refine ⟨fun _ => ?_, fun h => by rw [wantedBy_true rfl rfl rfl d9] at h; cases h⟩
      clear d9
      clear h0 hg hd
      have hs := (S7.out.up hw)
      rw [← d10] at hs
      exact gives_string rfl hs ⟨Chg.refl _ _, rfl⟩
    · intro ρ w1 hw h0 hc hg hf hd
      have d9 := hd ⟨9, .guard⟩ (by simp) rfl _ _ _ rfl rfl rfl
      have s8 : ρ (.tmp 8) = .slice A8 (1 + xs.length) c8 := h0 8 (by kernel_rfl)
      refine ⟨fun _ => ?_, fun h => by rw [wantedBy_true rfl rfl rfl d9] at h; cases h⟩
      clear d9
      clear h0 hg hd
      exact gives_move rfl ⟨Chg.refl _ _, s8⟩
    · intro ρ w1 hw h0 hc hg hf hd
      have d12 := hd ⟨12, .data⟩ (by simp) rfl _ _ _ rfl rfl rfl
      have d9 := hd ⟨9, .guard⟩ (by simp) rfl _ _ _ rfl rfl rfl
      refine ⟨fun _ => ?_, fun h => by rw [wantedBy_true rfl rfl rfl d9] at h; cases h⟩
      clear d9
      clear h0 hg hd
      have hs := (S8.out.up hw)
      rw [← d12] at hs
      exact gives_string rfl hs ⟨Chg.refl _ _, rfl⟩
    · intro ρ w1 hw h0 hc hg hf hd
      have d11 := hd ⟨11, .data⟩ (by simp) rfl _ _ _ rfl rfl rfl
      have d13 := hd ⟨13, .data⟩ (by simp) rfl _ _ _ rfl rfl rfl
      have d9 := hd ⟨9, .guard⟩ (by simp) rfl _ _ _ rfl rfl rfl
      refine ⟨fun _ => ?_, fun h => by rw [wantedBy_true rfl rfl rfl d9] at h; cases h⟩
      clear d9
      clear h0 hg hd
      exact gives_streq rfl d11 d13 HL.out HM.out (by rw [show ((k % 256 :: xs) == (m % 256 :: xs)) = (k % 256 == m % 256) by simp [List.cons_beq_cons]]; exact ⟨Chg.refl _ _, rfl⟩)
    · intro ρ w1 hw h0 hc hg hf hd
      have d9 := hd ⟨9, .guard⟩ (by simp) rfl _ _ _ rfl rfl rfl
      have s0 : ρ (.tmp 0) = .int .i64 k := h0 0 (by kernel_rfl)
      refine ⟨fun _ => ?_, fun h => by rw [wantedBy_true rfl rfl rfl d9] at h; cases h⟩
      clear d9
      clear h0 hg hd
      exact gives_move rfl ⟨Chg.refl _ _, s0⟩
    · intro ρ w1 hw h0 hc hg hf hd
      have d15 := hd ⟨15, .data⟩ (by simp) rfl _ _ _ rfl rfl rfl
      have d9 := hd ⟨9, .guard⟩ (by simp) rfl _ _ _ rfl rfl rfl
      refine ⟨fun _ => ?_, fun h => by rw [wantedBy_true rfl rfl rfl d9] at h; cases h⟩
      clear d9
      clear h0 hg hd
      clear hf
      refine Gives.value (w' := w1) ?_ ⟨Chg.refl _ _, rfl⟩
      go_simp
      exact IntKind.wrap_u8 _
    · intro ρ w1 hw h0 hc hg hf hd
      have d9 := hd ⟨9, .guard⟩ (by simp) rfl _ _ _ rfl rfl rfl
      have s1 : ρ (.tmp 1) = .int .i64 m := h0 1 (by kernel_rfl)
      refine ⟨fun _ => ?_, fun h => by rw [wantedBy_true rfl rfl rfl d9] at h; cases h⟩
      clear d9
      clear h0 hg hd
      exact gives_move rfl ⟨Chg.refl _ _, s1⟩
    · intro ρ w1 hw h0 hc hg hf hd
      have d17 := hd ⟨17, .data⟩ (by simp) rfl _ _ _ rfl rfl rfl
      have d9 := hd ⟨9, .guard⟩ (by simp) rfl _ _ _ rfl rfl rfl
      refine ⟨fun _ => ?_, fun h => by rw [wantedBy_true rfl rfl rfl d9] at h; cases h⟩
      clear d9
      clear h0 hg hd
      clear hf
      refine Gives.value (w' := w1) ?_ ⟨Chg.refl _ _, rfl⟩
      go_simp
      exact IntKind.wrap_u8 _
    · intro ρ w1 hw h0 hc hg hf hd
      have d16 := hd ⟨16, .data⟩ (by simp) rfl _ _ _ rfl rfl rfl
      have d18 := hd ⟨18, .data⟩ (by simp) rfl _ _ _ rfl rfl rfl
      have d9 := hd ⟨9, .guard⟩ (by simp) rfl _ _ _ rfl rfl rfl
      refine ⟨fun _ => ?_, fun h => by rw [wantedBy_true rfl rfl rfl d9] at h; cases h⟩
      clear d9
      clear h0 hg hd
      clear hf
      refine Gives.value (w' := w1) ?_ ⟨Chg.refl _ _, rfl⟩
      go_simp
    · intro ρ w1 hw h0 hc hg hf hd
      have d14 := hd ⟨14, .data⟩ (by simp) rfl _ _ _ rfl rfl rfl
      have d19 := hd ⟨19, .data⟩ (by simp) rfl _ _ _ rfl rfl rfl
      have d9 := hd ⟨9, .guard⟩ (by simp) rfl _ _ _ rfl rfl rfl
      refine ⟨fun _ => ?_, fun h => by rw [wantedBy_true rfl rfl rfl d9] at h; cases h⟩
      clear d9
      clear h0 hg hd
      clear hf
      refine Gives.value (w' := w1) ?_ ⟨Chg.refl _ _, rfl⟩
      go_simp
    · intro ρ w1 hw h0 hc hg hf hd
      have d9 := hd ⟨9, .data⟩ (by simp) rfl _ _ _ rfl rfl rfl
      have d20 := hd ⟨20, .data⟩ (by simp) rfl _ _ _ rfl rfl rfl
      refine ⟨fun _ => ?_, fun h => by cases h⟩
      clear h0 hg hd
      clear hf
      refine Gives.value (w' := w1) ?_ ⟨Chg.refl _ _, rfl⟩
      go_simp
    · intro ρ w1 hw h0 hc hg hf hd
      have d21 := hd ⟨21, .data⟩ (by simp) rfl _ _ _ rfl rfl rfl
      refine ⟨fun _ => ?_, fun h => by cases h⟩
      clear h0 hg hd
      exact gives_move rfl ⟨Chg.refl _ _, d21⟩
    · intro ρ w1 hw h0 hc hg hf hd
      have d22 := hd ⟨22, .guard⟩ (by simp) rfl _ _ _ rfl rfl rfl
      have s9 : ρ (.tmp 9) = .slice A9 (1 + (xs.length + 1)) c9 := h0 9 (by kernel_rfl)
      refine ⟨fun _ => ?_, fun h => by rw [wantedBy_true rfl rfl rfl d22] at h; cases h⟩
      clear d22
      clear h0 hg hd
      exact gives_move rfl ⟨Chg.refl _ _, s9⟩
    · intro ρ w1 hw h0 hc hg hf hd
      have d23 := hd ⟨23, .data⟩ (by simp) rfl _ _ _ rfl rfl rfl
      have d22 := hd ⟨22, .guard⟩ (by simp) rfl _ _ _ rfl rfl rfl
      refine ⟨fun _ => ?_, fun h => by rw [wantedBy_true rfl rfl rfl d22] at h; cases h⟩
      clear d22
      clear h0 hg hd
      have hs := (S9.out.up hw)
      rw [← d23] at hs
      exact gives_string rfl hs ⟨Chg.refl _ _, rfl⟩
    · intro ρ w1 hw h0 hc hg hf hd
      have d22 := hd ⟨22, .guard⟩ (by simp) rfl _ _ _ rfl rfl rfl
      have s7 : ρ (.tmp 7) = .slice A7 (1 + xs.length) c7 := h0 7 (by kernel_rfl)
      refine ⟨fun _ => ?_, fun h => by rw [wantedBy_true rfl rfl rfl d22] at h; cases h⟩
      clear d22
      clear h0 hg hd
      exact gives_move rfl ⟨Chg.refl _ _, s7⟩
    · intro ρ w1 hw h0 hc hg hf hd
      have d25 := hd ⟨25, .data⟩ (by simp) rfl _ _ _ rfl rfl rfl
      have d22 := hd ⟨22, .guard⟩ (by simp) rfl _ _ _ rfl rfl rfl
      refine ⟨fun _ => ?_, fun h => by rw [wantedBy_true rfl rfl rfl d22] at h; cases h⟩
      clear d22
      clear h0 hg hd
      have hs := (S7.out.up hw)
      rw [← d25] at hs
      exact gives_string rfl hs ⟨Chg.refl _ _, rfl⟩
    · intro ρ w1 hw h0 hc hg hf hd
      have d26 := hd ⟨26, .data⟩ (by simp) rfl _ _ _ rfl rfl rfl
      have d22 := hd ⟨22, .guard⟩ (by simp) rfl _ _ _ rfl rfl rfl
      refine ⟨fun _ => ?_, fun h => by rw [wantedBy_true rfl rfl rfl d22] at h; cases h⟩
      clear d22
      clear h0 hg hd
      clear hf
      have e1 : strOfNums (k % 256 :: xs) ++ ⟨#[7]⟩ = strOfNums (k % 256 :: (xs ++ [7])) := by rw [show (⟨#[7]⟩ : ByteArray) = strOfNums [7] from rfl, str_add]; rfl
      have e2 : (strOfNums (k % 256 :: xs)).size + (⟨#[7]⟩ : ByteArray).size ≤ 9223372036854775807 := by
        rw [strOfNums_size]; show _ + 1 ≤ _; simp only [List.length_cons]; omega
      have e3 := run_string_add_sum (P := Tryd.prog) w1 _ _ e2
      rw [e1] at e3
      clear e1 e2
      refine Gives.value (w' := w1) ?_ ⟨Chg.refl _ _, rfl⟩
      simp [execOp, d26, hc, eqGuard, binOp, e3]
    · intro ρ w1 hw h0 hc hg hf hd
      have d24 := hd ⟨24, .data⟩ (by simp) rfl _ _ _ rfl rfl rfl
      have d27 := hd ⟨27, .data⟩ (by simp) rfl _ _ _ rfl rfl rfl
      have d22 := hd ⟨22, .guard⟩ (by simp) rfl _ _ _ rfl rfl rfl
      refine ⟨fun _ => ?_, fun h => by rw [wantedBy_true rfl rfl rfl d22] at h; cases h⟩
      clear d22
      clear h0 hg hd
      exact gives_streq rfl d24 d27 HN.out HN.out (by rw [show ((k % 256 :: (xs ++ [7])) == (k % 256 :: (xs ++ [7]))) = true by simp]; exact ⟨Chg.refl _ _, rfl⟩)
    · intro ρ w1 hw h0 hc hg hf hd
      have d22 := hd ⟨22, .data⟩ (by simp) rfl _ _ _ rfl rfl rfl
      have d28 := hd ⟨28, .data⟩ (by simp) rfl _ _ _ rfl rfl rfl
      refine ⟨fun _ => ?_, fun h => by cases h⟩
      clear h0 hg hd
      clear hf
      refine Gives.value (w' := w1) ?_ ⟨Chg.refl _ _, rfl⟩
      go_simp
    · intro ρ w1 hw h0 hc hg hf hd
      have d29 := hd ⟨29, .data⟩ (by simp) rfl _ _ _ rfl rfl rfl
      refine ⟨fun _ => ?_, fun h => by cases h⟩
      clear h0 hg hd
      exact gives_move rfl ⟨Chg.refl _ _, d29⟩
    · intro ρ w1 hw h0 hc hg hf hd
      have d30 := hd ⟨30, .chain⟩ (by simp) rfl _ _ _ rfl rfl rfl
      refine ⟨fun _ => ?_, fun h => by rw [wantedBy_true rfl rfl rfl d30] at h; cases h⟩
      clear d30
      clear h0 hg hd
      have LA := HLA.out.up (HC0.out.trans hw)
      refine gives_call rfl hf Tryd.func30 rfl (by kernel_rfl) (args := #[]) (by simp [hc]) ((awake2_any w1 LA).mono ?_)
      rintro e w2 ⟨rfl, hb⟩
      exact ⟨_, rfl, up_below hb, rfl⟩
    · intro ρ w1 hw h0 hc hg hf hd
      have d30 := hd ⟨30, .data⟩ (by simp) rfl _ _ _ rfl rfl rfl
      have d31 := hd ⟨31, .data⟩ (by simp) rfl _ _ _ rfl rfl rfl
      refine ⟨fun _ => ?_, fun h => by cases h⟩
      clear h0 hg hd
      clear hf
      refine Gives.value (w' := w1) ?_ ⟨Chg.refl _ _, rfl⟩
      go_simp
  · intro vs w2 hw hr
    have h32 := hr 32 _ rfl
    clear hr
    dsimp only [putsL, restL]
    simp only [Act.put, List.setIfInBounds_toArray, List.set_cons_zero, List.set_cons_succ]
    rw [h32]
    have HUP := Lib.hid (HC0.out.trans hw)
    clear hw h32
    go_wp2
    go_ret
    exact ⟨rfl, HUP.out.below_none (fun _ _ h => h)⟩
end Go.Proofs.YtaahffminoekfaaDoor
