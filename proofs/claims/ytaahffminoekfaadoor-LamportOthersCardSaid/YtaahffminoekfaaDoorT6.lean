/-
  TagBytes, walked.
-/
import Derived.Test.YtaahffminoekfaaDoorT5
import Derived.Test.YtaahffminoekfaaDoorK2
namespace Go.Proofs.YtaahffminoekfaaDoor
open Go.RowKit
theorem gives_eql {o : Oper} {ρ : Operand → Value} {w : World} {Φ : Value → World → Prop} {x y : Operand} {a b : List Int} (ho : o.op = .binOp .eql 25 x y 25) (hx : ρ x = hashV a) (hy : ρ y = hashV b) (la : a.length = 32) (lb : b.length = 32) (k : Φ (.bool (a == b)) w) : Gives Tryd.prog o ρ w Φ := by
  refine Gives.value (v := .bool (a == b)) (w' := w) ?_ k
  have h1 := eql25 a b la lb w
  have h2 := guard25 .eql x y a b w
  simp [execOp, ho, hx, hy, h1, h2]
theorem gives_same {o : Oper} {ρ : Operand → Value} {w : World} {Φ : Value → World → Prop} {x y : Operand} {a : List Int} (ho : o.op = .binOp .eql 25 x y 25) (hx : ρ x = hashV a) (hy : ρ y = hashV a) (la : a.length = 32) (k : Φ (.bool true) w) : Gives Tryd.prog o ρ w Φ :=
  gives_eql ho hx hy la la (by simpa using k)
set_option maxRecDepth 100000 in
set_option maxHeartbeats 2000000 in
theorem awake2_any (w : World) (hla : Laid w) : Calls Tryd.prog 30 #[] w (TruePost w) := by
  have HL := Lib.hid (leaf_any (.slice none 0 0) [] w (.inl ⟨rfl, rfl, rfl⟩) (fun j => by simp) (by simp) hla)
  clear hla
  go_enter Tryd.func30, Tryd.ntmps30
  go_wp2_with fail
  refine HL.out.mono ?_
  rintro e W2 ⟨rfl, b2⟩
  have HSH := Lib.hid (show_any (shaI [0]) W2 (hash_size _) (shaI_bytes _))
  have HB2 := Lib.hid b2
  clear b2
  go_wp2_with fail
  refine HSH.out.mono ?_
  rintro e W3 ⟨rfl, b3⟩
  rw [leaf_text]
  have HB3 := Lib.hid b3
  have hq := leaf_list
  clear b3
  go_wp2
  go_ret
  exact ⟨rfl, below_then HB2.out HB3.out⟩
theorem gives_load_row {P : Program} {o : Oper} {ρ : Operand → Value} {w : World} {Φ : Value → World → Prop} {x : Operand} {ty : TypeId} {g : Nat} {cs : Array Value} {t : TypeId} {fr : Nat × Nat} {d : TypeDesc} (ho : o.op = .load ty x) (hx : ρ x = .pointer (some ⟨g, 0, none⟩))
    (hg : w.heap[g]? = some (.cells cs t fr)) (hu : P.underlying ty = some d) (hd : (match d with | .struct _ | .array _ _ => true | _ => false) = true) (hi : (P.info? ty).map (·.size) = some cs.size) (k : Φ (.agg cs) w) : Gives P o ρ w Φ := by
  refine Gives.value (v := .agg cs) (w' := w) ?_ k
  unfold execOp
  simp only [ho, hx, Instr.loadAt, Instr.sureAddr, Sem.run_bind, Sem.run_pure, Result.andThen_ok, run_loadVar_row w g t ty cs fr d hg hu hd hi]
set_option maxRecDepth 100000 in
set_option maxHeartbeats 2000000 in
theorem tagBytes_any (xs hs : List Int) (v : Value) (w : World) (h : SlB w v xs) (hx : Bytes xs) (lh : hs.length = 32) (hh : Bytes hs) (hla : Laid w) :
    Calls Tryd.prog 7 #[v, hashV hs] w (TruePost w) := by
  have hl2 := hla.lt
  obtain ⟨A, ac, rfl, _⟩ := h.shape
  obtain ⟨cx, hcx, hux, _, _, hsz, _⟩ := hash_parts hs lh
  have HCX := Lib.hid hcx
  have HUX := Lib.hid hux
  have HSZ := Lib.hid hsz
  have HV := Lib.hid h
  have HX := Lib.hid hx
  have HH := Lib.hid hh
  have HLX := Lib.hid lh
  have HLA := Lib.hid hla
  rw [hcx]
  clear hcx hux hsz h hx hh lh hla
  by_cases hg : (500 : Int) < xs.length
  · have HA : Hid (Calls Tryd.prog 30 #[] (w.alloc (.cells cx 25)) (TruePost (w.alloc (.cells cx 25)))) := Lib.hid (awake2_any _ (HLA.out.up ((Chg.refl _ w).alloc _)))
    go_enter Tryd.func7, Tryd.ntmps7
    go_wp2_with (go_at_call 30; refine HA.out.mono ?_; rintro e w' ⟨rfl, hb⟩)
    go_ret
    exact ⟨rfl, (((Chg.refl (fun _ => False) w).alloc (.cells cx 25)).trans (up_below hb)).below_none (fun _ _ h => h)⟩
  go_enter Tryd.func7, Tryd.ntmps7
  go_wp2_with fail
  obtain ⟨W0, hW0⟩ : ∃ W0, W0 = w.alloc (.cells cx 25) := ⟨_, rfl⟩
  rw [← hW0]
  have HRX : Hid (W0.drew.heap[w.heap.size]? = some (.cells cx 25 (0, 0))) := Lib.hid (by rw [hW0]; exact heap_alloc_last _ _)
  have HC0 : Hid (Up w W0.drew) := Lib.hid (by rw [hW0]; exact ((Chg.refl _ w).alloc _).drew)
  clear hW0
  refine region_mono Up [fun v _ => v = .slice A xs.length ac,
      fun v _ => v = hashV (shaI (0 :: xs)),
      fun v _ => v = .slice A xs.length ac,
      fun v w' => SlBB w' v [xs],
      fun v w' => SlB w' v (0 :: xs),
      fun v _ => v = hashV (shaI (0 :: xs)),
      fun v _ => v = .bool true,
      fun v _ => v = .bool true,
      fun v _ => v = .slice A xs.length ac,
      fun v _ => v = hashV (shaI (5 :: xs)),
      fun v _ => v = .slice A xs.length ac,
      fun v w' => SlBB w' v [xs],
      fun v w' => SlB w' v (5 :: xs),
      fun v _ => v = hashV (shaI (5 :: xs)),
      fun v _ => v = .bool true,
      fun v _ => v = .bool true,
      fun v _ => v = .bool true,
      fun v _ => v = .slice A xs.length ac,
      fun v _ => v = hashV (shaI (6 :: xs)),
      fun v _ => v = .slice A xs.length ac,
      fun v w' => SlBB w' v [xs],
      fun v w' => SlB w' v (6 :: xs),
      fun v _ => v = hashV (shaI (6 :: xs)),
      fun v _ => v = .bool true,
      fun v _ => v = .bool true,
      fun v _ => v = .bool true,
      fun v _ => v = hashV hs,
      fun v _ => v = .slice A xs.length ac,
      fun v _ => v = hashV (shaI (7 :: (hs ++ xs))),
      fun v _ => v = .slice (some ⟨w.heap.size, 0, none⟩) 32 32,
      fun v _ => v = .slice A xs.length ac,
      fun v w' => SlBB w' v [hs, xs],
      fun v w' => SlB w' v (7 :: (hs ++ xs)),
      fun v _ => v = hashV (shaI (7 :: (hs ++ xs))),
      fun v _ => v = .bool true,
      fun v _ => v = .bool true,
      fun v _ => v = .bool true,
      fun v _ => v = .bool true,
      fun v _ => v = .bool true] (by kernel_rfl) (by kernel_rfl) (Chg.refl _) (fun _ _ _ => Chg.trans) (by simp) ?_ ?_ ?_
  · simp only [List.forall_mem_cons]
    exact ⟨fun _ _ _ _ _ h => h, fun _ _ _ _ _ h => h, fun _ _ _ _ _ h => h, fun _ _ _ _ hu h => SlBB.up h hu, fun _ _ _ _ hu h => SlB.up h hu, fun _ _ _ _ _ h => h, fun _ _ _ _ _ h => h, fun _ _ _ _ _ h => h, fun _ _ _ _ _ h => h, fun _ _ _ _ _ h => h, fun _ _ _ _ _ h => h, fun _ _ _ _ hu h => SlBB.up h hu, fun _ _ _ _ hu h => SlB.up h hu, fun _ _ _ _ _ h => h, fun _ _ _ _ _ h => h, fun _ _ _ _ _ h => h, fun _ _ _ _ _ h => h, fun _ _ _ _ _ h => h, fun _ _ _ _ _ h => h, fun _ _ _ _ _ h => h, fun _ _ _ _ hu h => SlBB.up h hu, fun _ _ _ _ hu h => SlB.up h hu, fun _ _ _ _ _ h => h, fun _ _ _ _ _ h => h, fun _ _ _ _ _ h => h, fun _ _ _ _ _ h => h, fun _ _ _ _ _ h => h, fun _ _ _ _ _ h => h, fun _ _ _ _ _ h => h, fun _ _ _ _ _ h => h, fun _ _ _ _ _ h => h, fun _ _ _ _ hu h => SlBB.up h hu, fun _ _ _ _ hu h => SlB.up h hu, fun _ _ _ _ _ h => h, fun _ _ _ _ _ h => h, fun _ _ _ _ _ h => h, fun _ _ _ _ _ h => h, fun _ _ _ _ _ h => h, fun _ _ _ _ _ h => h, by simp⟩
  · refine ⟨?_, ?_, ?_, ?_, ?_, ?_, ?_, ?_, ?_, ?_, ?_, ?_, ?_, ?_, ?_, ?_, ?_, ?_, ?_, ?_, ?_, ?_, ?_, ?_, ?_, ?_, ?_, ?_, ?_, ?_, ?_, ?_, ?_, ?_, ?_, ?_, ?_, ?_, ?_, trivial⟩
    · intro ρ w1 hw h0 hc hg hf hd
      have s0 : ρ (.tmp 0) = .slice A xs.length ac := h0 0 (by kernel_rfl)
      refine ⟨fun _ => ?_, fun h => by cases h⟩
      clear h0 hg hd
      exact gives_move rfl ⟨Chg.refl _ _, s0⟩
    · intro ρ w1 hw h0 hc hg hf hd
      have d0 := hd ⟨0, .data⟩ (by simp) rfl _ _ _ rfl rfl rfl
      refine ⟨fun _ => ?_, fun h => by cases h⟩
      clear h0 hg hd
      have LA := HLA.out.up (HC0.out.trans hw)
      have SL := HV.out.up (HC0.out.trans hw)
      refine gives_call rfl hf Tryd.func31 rfl (by kernel_rfl) (args := #[.slice A xs.length ac]) (by simp [hc, d0]) ((leaf_any _ xs w1 SL HX.out (by omega) LA).mono ?_)
      rintro e w2 ⟨rfl, hb⟩
      exact ⟨_, rfl, up_below hb, rfl⟩
    · intro ρ w1 hw h0 hc hg hf hd
      have s0 : ρ (.tmp 0) = .slice A xs.length ac := h0 0 (by kernel_rfl)
      refine ⟨fun _ => ?_, fun h => by cases h⟩
      clear h0 hg hd
      exact gives_move rfl ⟨Chg.refl _ _, s0⟩
    · intro ρ w1 hw h0 hc hg hf hd
      have d2 := hd ⟨2, .data⟩ (by simp) rfl _ _ _ rfl rfl rfl
      refine ⟨fun _ => ?_, fun h => by cases h⟩
      clear h0 hg hd
      have SL := HV.out.up (HC0.out.trans hw)
      clear hc hf
      have hs := rows1 w1 _ xs SL HX.out
      clear SL
      refine Gives.value ?_ ⟨(Chg.refl _ w1).alloc _, hs⟩
      clear hs
      go_simp
    · intro ρ w1 hw h0 hc hg hf hd
      have d3 := hd ⟨3, .data⟩ (by simp) rfl _ _ _ rfl rfl rfl
      refine ⟨fun _ => ?_, fun h => by cases h⟩
      clear h0 hg hd
      refine gives_call rfl hf Tryd.func32 rfl (by kernel_rfl) (args := #[.int .u8 0, ρ (.tmp 12)]) (by simp [hc]) ((bytes_any 0 _ _ (xs) w1 d3 (by simp) (by omega)).mono ?_)
      rintro e w2 ⟨A, c, rfl, ho, hb⟩
      exact ⟨_, rfl, up_below hb, own_src ho⟩
    · intro ρ w1 hw h0 hc hg hf hd
      have d4 := hd ⟨4, .data⟩ (by simp) rfl _ _ _ rfl rfl rfl
      refine ⟨fun _ => ?_, fun h => by cases h⟩
      clear h0 hg hd
      have LA := HLA.out.up (HC0.out.trans hw)
      refine gives_call rfl hf Tryd.func22 rfl (by kernel_rfl) (args := #[ρ (.tmp 13)]) (by simp) ((shaSum_any (0 :: xs) _ w1 d4 (Bytes.cons (by omega) HX.out) (by simp; omega) LA).mono ?_)
      rintro e w2 ⟨rfl, hb⟩
      exact ⟨_, rfl, up_below hb, rfl⟩
    · intro ρ w1 hw h0 hc hg hf hd
      have d1 := hd ⟨1, .data⟩ (by simp) rfl _ _ _ rfl rfl rfl
      have d5 := hd ⟨5, .data⟩ (by simp) rfl _ _ _ rfl rfl rfl
      refine ⟨fun _ => ?_, fun h => by cases h⟩
      clear h0 hg hd
      exact gives_same rfl d1 d5 (hash_size _) ⟨Chg.refl _ _, rfl⟩
    · intro ρ w1 hw h0 hc hg hf hd
      have d6 := hd ⟨6, .data⟩ (by simp) rfl _ _ _ rfl rfl rfl
      refine ⟨fun _ => ?_, fun h => by cases h⟩
      clear h0 hg hd
      exact gives_move rfl ⟨Chg.refl _ _, d6⟩
    · intro ρ w1 hw h0 hc hg hf hd
      have d7 := hd ⟨7, .guard⟩ (by simp) rfl _ _ _ rfl rfl rfl
      have s0 : ρ (.tmp 0) = .slice A xs.length ac := h0 0 (by kernel_rfl)
      refine ⟨fun _ => ?_, fun h => by rw [wantedBy_true rfl rfl rfl d7] at h; cases h⟩
      clear d7
      clear h0 hg hd
      exact gives_move rfl ⟨Chg.refl _ _, s0⟩
    · intro ρ w1 hw h0 hc hg hf hd
      have d8 := hd ⟨8, .data⟩ (by simp) rfl _ _ _ rfl rfl rfl
      have d7 := hd ⟨7, .chain⟩ (by simp) rfl _ _ _ rfl rfl rfl
      refine ⟨fun _ => ?_, fun h => by rw [wantedBy_true rfl rfl rfl d7] at h; cases h⟩
      clear d7
      clear h0 hg hd
      have LA := HLA.out.up (HC0.out.trans hw)
      have SL := HV.out.up (HC0.out.trans hw)
      refine gives_call rfl hf Tryd.func33 rfl (by kernel_rfl) (args := #[.slice A xs.length ac]) (by simp [hc, d8]) ((message_any _ xs w1 SL HX.out (by omega) LA).mono ?_)
      rintro e w2 ⟨rfl, hb⟩
      exact ⟨_, rfl, up_below hb, rfl⟩
    · intro ρ w1 hw h0 hc hg hf hd
      have d7 := hd ⟨7, .guard⟩ (by simp) rfl _ _ _ rfl rfl rfl
      have s0 : ρ (.tmp 0) = .slice A xs.length ac := h0 0 (by kernel_rfl)
      refine ⟨fun _ => ?_, fun h => by rw [wantedBy_true rfl rfl rfl d7] at h; cases h⟩
      clear d7
      clear h0 hg hd
      exact gives_move rfl ⟨Chg.refl _ _, s0⟩
    · intro ρ w1 hw h0 hc hg hf hd
      have d10 := hd ⟨10, .data⟩ (by simp) rfl _ _ _ rfl rfl rfl
      have d7 := hd ⟨7, .guard⟩ (by simp) rfl _ _ _ rfl rfl rfl
      refine ⟨fun _ => ?_, fun h => by rw [wantedBy_true rfl rfl rfl d7] at h; cases h⟩
      clear d7
      clear h0 hg hd
      have SL := HV.out.up (HC0.out.trans hw)
      clear hc hf
      have hs := rows1 w1 _ xs SL HX.out
      clear SL
      refine Gives.value ?_ ⟨(Chg.refl _ w1).alloc _, hs⟩
      clear hs
      go_simp
    · intro ρ w1 hw h0 hc hg hf hd
      have d11 := hd ⟨11, .data⟩ (by simp) rfl _ _ _ rfl rfl rfl
      have d7 := hd ⟨7, .guard⟩ (by simp) rfl _ _ _ rfl rfl rfl
      refine ⟨fun _ => ?_, fun h => by rw [wantedBy_true rfl rfl rfl d7] at h; cases h⟩
      clear d7
      clear h0 hg hd
      refine gives_call rfl hf Tryd.func32 rfl (by kernel_rfl) (args := #[.int .u8 5, ρ (.tmp 20)]) (by simp [hc]) ((bytes_any 5 _ _ (xs) w1 d11 (by simp) (by omega)).mono ?_)
      rintro e w2 ⟨A, c, rfl, ho, hb⟩
      exact ⟨_, rfl, up_below hb, own_src ho⟩
    · intro ρ w1 hw h0 hc hg hf hd
      have d12 := hd ⟨12, .data⟩ (by simp) rfl _ _ _ rfl rfl rfl
      have d7 := hd ⟨7, .guard⟩ (by simp) rfl _ _ _ rfl rfl rfl
      refine ⟨fun _ => ?_, fun h => by rw [wantedBy_true rfl rfl rfl d7] at h; cases h⟩
      clear d7
      clear h0 hg hd
      have LA := HLA.out.up (HC0.out.trans hw)
      refine gives_call rfl hf Tryd.func22 rfl (by kernel_rfl) (args := #[ρ (.tmp 21)]) (by simp) ((shaSum_any (5 :: xs) _ w1 d12 (Bytes.cons (by omega) HX.out) (by simp; omega) LA).mono ?_)
      rintro e w2 ⟨rfl, hb⟩
      exact ⟨_, rfl, up_below hb, rfl⟩
    · intro ρ w1 hw h0 hc hg hf hd
      have d9 := hd ⟨9, .data⟩ (by simp) rfl _ _ _ rfl rfl rfl
      have d13 := hd ⟨13, .data⟩ (by simp) rfl _ _ _ rfl rfl rfl
      have d7 := hd ⟨7, .guard⟩ (by simp) rfl _ _ _ rfl rfl rfl
      refine ⟨fun _ => ?_, fun h => by rw [wantedBy_true rfl rfl rfl d7] at h; cases h⟩
      clear d7
      clear h0 hg hd
      exact gives_same rfl d9 d13 (hash_size _) ⟨Chg.refl _ _, rfl⟩
    · intro ρ w1 hw h0 hc hg hf hd
      have d7 := hd ⟨7, .data⟩ (by simp) rfl _ _ _ rfl rfl rfl
      have d14 := hd ⟨14, .data⟩ (by simp) rfl _ _ _ rfl rfl rfl
      refine ⟨fun _ => ?_, fun h => by cases h⟩
      clear h0 hg hd
      clear hc hf
      refine Gives.value (w' := w1) ?_ ⟨Chg.refl _ _, rfl⟩
      go_simp
    · intro ρ w1 hw h0 hc hg hf hd
      have d15 := hd ⟨15, .data⟩ (by simp) rfl _ _ _ rfl rfl rfl
      refine ⟨fun _ => ?_, fun h => by cases h⟩
      clear h0 hg hd
      exact gives_move rfl ⟨Chg.refl _ _, d15⟩
    · intro ρ w1 hw h0 hc hg hf hd
      have d16 := hd ⟨16, .guard⟩ (by simp) rfl _ _ _ rfl rfl rfl
      have s0 : ρ (.tmp 0) = .slice A xs.length ac := h0 0 (by kernel_rfl)
      refine ⟨fun _ => ?_, fun h => by rw [wantedBy_true rfl rfl rfl d16] at h; cases h⟩
      clear d16
      clear h0 hg hd
      exact gives_move rfl ⟨Chg.refl _ _, s0⟩
    · intro ρ w1 hw h0 hc hg hf hd
      have d17 := hd ⟨17, .data⟩ (by simp) rfl _ _ _ rfl rfl rfl
      have d16 := hd ⟨16, .chain⟩ (by simp) rfl _ _ _ rfl rfl rfl
      refine ⟨fun _ => ?_, fun h => by rw [wantedBy_true rfl rfl rfl d16] at h; cases h⟩
      clear d16
      clear h0 hg hd
      have LA := HLA.out.up (HC0.out.trans hw)
      have SL := HV.out.up (HC0.out.trans hw)
      refine gives_call rfl hf Tryd.func34 rfl (by kernel_rfl) (args := #[.slice A xs.length ac]) (by simp [hc, d17]) ((file_any _ xs w1 SL HX.out (by omega) LA).mono ?_)
      rintro e w2 ⟨rfl, hb⟩
      exact ⟨_, rfl, up_below hb, rfl⟩
    · intro ρ w1 hw h0 hc hg hf hd
      have d16 := hd ⟨16, .guard⟩ (by simp) rfl _ _ _ rfl rfl rfl
      have s0 : ρ (.tmp 0) = .slice A xs.length ac := h0 0 (by kernel_rfl)
      refine ⟨fun _ => ?_, fun h => by rw [wantedBy_true rfl rfl rfl d16] at h; cases h⟩
      clear d16
      clear h0 hg hd
      exact gives_move rfl ⟨Chg.refl _ _, s0⟩
    · intro ρ w1 hw h0 hc hg hf hd
      have d19 := hd ⟨19, .data⟩ (by simp) rfl _ _ _ rfl rfl rfl
      have d16 := hd ⟨16, .guard⟩ (by simp) rfl _ _ _ rfl rfl rfl
      refine ⟨fun _ => ?_, fun h => by rw [wantedBy_true rfl rfl rfl d16] at h; cases h⟩
      clear d16
      clear h0 hg hd
      have SL := HV.out.up (HC0.out.trans hw)
      clear hc hf
      have hs := rows1 w1 _ xs SL HX.out
      clear SL
      refine Gives.value ?_ ⟨(Chg.refl _ w1).alloc _, hs⟩
      clear hs
      go_simp
    · intro ρ w1 hw h0 hc hg hf hd
      have d20 := hd ⟨20, .data⟩ (by simp) rfl _ _ _ rfl rfl rfl
      have d16 := hd ⟨16, .guard⟩ (by simp) rfl _ _ _ rfl rfl rfl
      refine ⟨fun _ => ?_, fun h => by rw [wantedBy_true rfl rfl rfl d16] at h; cases h⟩
      clear d16
      clear h0 hg hd
      refine gives_call rfl hf Tryd.func32 rfl (by kernel_rfl) (args := #[.int .u8 6, ρ (.tmp 29)]) (by simp [hc]) ((bytes_any 6 _ _ (xs) w1 d20 (by simp) (by omega)).mono ?_)
      rintro e w2 ⟨A, c, rfl, ho, hb⟩
      exact ⟨_, rfl, up_below hb, own_src ho⟩
    · intro ρ w1 hw h0 hc hg hf hd
      have d21 := hd ⟨21, .data⟩ (by simp) rfl _ _ _ rfl rfl rfl
      have d16 := hd ⟨16, .guard⟩ (by simp) rfl _ _ _ rfl rfl rfl
      refine ⟨fun _ => ?_, fun h => by rw [wantedBy_true rfl rfl rfl d16] at h; cases h⟩
      clear d16
      clear h0 hg hd
      have LA := HLA.out.up (HC0.out.trans hw)
      refine gives_call rfl hf Tryd.func22 rfl (by kernel_rfl) (args := #[ρ (.tmp 30)]) (by simp) ((shaSum_any (6 :: xs) _ w1 d21 (Bytes.cons (by omega) HX.out) (by simp; omega) LA).mono ?_)
      rintro e w2 ⟨rfl, hb⟩
      exact ⟨_, rfl, up_below hb, rfl⟩
    · intro ρ w1 hw h0 hc hg hf hd
      have d18 := hd ⟨18, .data⟩ (by simp) rfl _ _ _ rfl rfl rfl
      have d22 := hd ⟨22, .data⟩ (by simp) rfl _ _ _ rfl rfl rfl
      have d16 := hd ⟨16, .guard⟩ (by simp) rfl _ _ _ rfl rfl rfl
      refine ⟨fun _ => ?_, fun h => by rw [wantedBy_true rfl rfl rfl d16] at h; cases h⟩
      clear d16
      clear h0 hg hd
      exact gives_same rfl d18 d22 (hash_size _) ⟨Chg.refl _ _, rfl⟩
    · intro ρ w1 hw h0 hc hg hf hd
      have d16 := hd ⟨16, .data⟩ (by simp) rfl _ _ _ rfl rfl rfl
      have d23 := hd ⟨23, .data⟩ (by simp) rfl _ _ _ rfl rfl rfl
      refine ⟨fun _ => ?_, fun h => by cases h⟩
      clear h0 hg hd
      clear hc hf
      refine Gives.value (w' := w1) ?_ ⟨Chg.refl _ _, rfl⟩
      go_simp
    · intro ρ w1 hw h0 hc hg hf hd
      have d24 := hd ⟨24, .data⟩ (by simp) rfl _ _ _ rfl rfl rfl
      refine ⟨fun _ => ?_, fun h => by cases h⟩
      clear h0 hg hd
      exact gives_move rfl ⟨Chg.refl _ _, d24⟩
    · intro ρ w1 hw h0 hc hg hf hd
      have d25 := hd ⟨25, .guard⟩ (by simp) rfl _ _ _ rfl rfl rfl
      have s3 : ρ (.tmp 3) = .pointer (some ⟨w.heap.size, 0, none⟩) := h0 3 (by kernel_rfl)
      refine ⟨fun _ => ?_, fun h => by rw [wantedBy_true rfl rfl rfl d25] at h; cases h⟩
      clear d25
      clear h0 hg hd
      clear hc hf
      rw [HCX.out]
      have hrow := hw.heap HRX.out (fun h => h)
      exact gives_load_row rfl s3 hrow Tryd.underlying25 rfl HSZ.out ⟨Chg.refl _ _, rfl⟩
    · intro ρ w1 hw h0 hc hg hf hd
      have d25 := hd ⟨25, .guard⟩ (by simp) rfl _ _ _ rfl rfl rfl
      have s0 : ρ (.tmp 0) = .slice A xs.length ac := h0 0 (by kernel_rfl)
      refine ⟨fun _ => ?_, fun h => by rw [wantedBy_true rfl rfl rfl d25] at h; cases h⟩
      clear d25
      clear h0 hg hd
      exact gives_move rfl ⟨Chg.refl _ _, s0⟩
    · intro ρ w1 hw h0 hc hg hf hd
      have d26 := hd ⟨26, .data⟩ (by simp) rfl _ _ _ rfl rfl rfl
      have d27 := hd ⟨27, .data⟩ (by simp) rfl _ _ _ rfl rfl rfl
      have d25 := hd ⟨25, .chain⟩ (by simp) rfl _ _ _ rfl rfl rfl
      refine ⟨fun _ => ?_, fun h => by rw [wantedBy_true rfl rfl rfl d25] at h; cases h⟩
      clear d25
      clear h0 hg hd
      have LA := HLA.out.up (HC0.out.trans hw)
      have SL := HV.out.up (HC0.out.trans hw)
      refine gives_call rfl hf Tryd.func35 rfl (by kernel_rfl) (args := #[hashV hs, .slice A xs.length ac]) (by simp [hc, d26, d27]) ((record_any hs xs _ w1 HLX.out HH.out SL HX.out (by omega) LA).mono ?_)
      rintro e w2 ⟨rfl, hb⟩
      exact ⟨_, rfl, up_below hb, rfl⟩
    · intro ρ w1 hw h0 hc hg hf hd
      have d25 := hd ⟨25, .guard⟩ (by simp) rfl _ _ _ rfl rfl rfl
      have s3 : ρ (.tmp 3) = .pointer (some ⟨w.heap.size, 0, none⟩) := h0 3 (by kernel_rfl)
      refine ⟨fun _ => ?_, fun h => by rw [wantedBy_true rfl rfl rfl d25] at h; cases h⟩
      clear d25
      clear h0 hg hd
      clear hc hf
      refine Gives.value (w' := w1) ?_ ⟨Chg.refl _ _, rfl⟩
      go_simp
    · intro ρ w1 hw h0 hc hg hf hd
      have d25 := hd ⟨25, .guard⟩ (by simp) rfl _ _ _ rfl rfl rfl
      have s0 : ρ (.tmp 0) = .slice A xs.length ac := h0 0 (by kernel_rfl)
      refine ⟨fun _ => ?_, fun h => by rw [wantedBy_true rfl rfl rfl d25] at h; cases h⟩
      clear d25
      clear h0 hg hd
      exact gives_move rfl ⟨Chg.refl _ _, s0⟩
    · intro ρ w1 hw h0 hc hg hf hd
      have d29 := hd ⟨29, .data⟩ (by simp) rfl _ _ _ rfl rfl rfl
      have d30 := hd ⟨30, .data⟩ (by simp) rfl _ _ _ rfl rfl rfl
      have d25 := hd ⟨25, .guard⟩ (by simp) rfl _ _ _ rfl rfl rfl
      refine ⟨fun _ => ?_, fun h => by rw [wantedBy_true rfl rfl rfl d25] at h; cases h⟩
      clear d25
      clear h0 hg hd
      have SL := HV.out.up (HC0.out.trans hw)
      clear hc hf
      have hs := rows2 w1 _ _ hs xs (row_src' HUX.out (hw.heap HRX.out (fun h => h)) HLX.out) HH.out SL HX.out
      clear SL
      refine Gives.value ?_ ⟨(Chg.refl _ w1).alloc _, hs⟩
      clear hs
      go_simp
    · intro ρ w1 hw h0 hc hg hf hd
      have d31 := hd ⟨31, .data⟩ (by simp) rfl _ _ _ rfl rfl rfl
      have d25 := hd ⟨25, .guard⟩ (by simp) rfl _ _ _ rfl rfl rfl
      refine ⟨fun _ => ?_, fun h => by rw [wantedBy_true rfl rfl rfl d25] at h; cases h⟩
      clear d25
      clear h0 hg hd
      refine gives_call rfl hf Tryd.func32 rfl (by kernel_rfl) (args := #[.int .u8 7, ρ (.tmp 40)]) (by simp [hc]) ((bytes_any 7 _ _ (hs ++ xs) w1 d31 (by simp) (by simp [HLX.out]; omega)).mono ?_)
      rintro e w2 ⟨A, c, rfl, ho, hb⟩
      exact ⟨_, rfl, up_below hb, own_src ho⟩
    · intro ρ w1 hw h0 hc hg hf hd
      have d32 := hd ⟨32, .data⟩ (by simp) rfl _ _ _ rfl rfl rfl
      have d25 := hd ⟨25, .guard⟩ (by simp) rfl _ _ _ rfl rfl rfl
      refine ⟨fun _ => ?_, fun h => by rw [wantedBy_true rfl rfl rfl d25] at h; cases h⟩
      clear d25
      clear h0 hg hd
      have LA := HLA.out.up (HC0.out.trans hw)
      refine gives_call rfl hf Tryd.func22 rfl (by kernel_rfl) (args := #[ρ (.tmp 41)]) (by simp) ((shaSum_any (7 :: (hs ++ xs)) _ w1 d32 (Bytes.cons (by omega) (HH.out.append HX.out)) (by simp [HLX.out]; omega) LA).mono ?_)
      rintro e w2 ⟨rfl, hb⟩
      exact ⟨_, rfl, up_below hb, rfl⟩
    · intro ρ w1 hw h0 hc hg hf hd
      have d28 := hd ⟨28, .data⟩ (by simp) rfl _ _ _ rfl rfl rfl
      have d33 := hd ⟨33, .data⟩ (by simp) rfl _ _ _ rfl rfl rfl
      have d25 := hd ⟨25, .guard⟩ (by simp) rfl _ _ _ rfl rfl rfl
      refine ⟨fun _ => ?_, fun h => by rw [wantedBy_true rfl rfl rfl d25] at h; cases h⟩
      clear d25
      clear h0 hg hd
      exact gives_same rfl d28 d33 (hash_size _) ⟨Chg.refl _ _, rfl⟩
    · intro ρ w1 hw h0 hc hg hf hd
      have d25 := hd ⟨25, .data⟩ (by simp) rfl _ _ _ rfl rfl rfl
      have d34 := hd ⟨34, .data⟩ (by simp) rfl _ _ _ rfl rfl rfl
      refine ⟨fun _ => ?_, fun h => by cases h⟩
      clear h0 hg hd
      clear hc hf
      refine Gives.value (w' := w1) ?_ ⟨Chg.refl _ _, rfl⟩
      go_simp
    · intro ρ w1 hw h0 hc hg hf hd
      have d35 := hd ⟨35, .data⟩ (by simp) rfl _ _ _ rfl rfl rfl
      refine ⟨fun _ => ?_, fun h => by cases h⟩
      clear h0 hg hd
      exact gives_move rfl ⟨Chg.refl _ _, d35⟩
    · intro ρ w1 hw h0 hc hg hf hd
      have d36 := hd ⟨36, .chain⟩ (by simp) rfl _ _ _ rfl rfl rfl
      refine ⟨fun _ => ?_, fun h => by rw [wantedBy_true rfl rfl rfl d36] at h; cases h⟩
      clear d36
      clear h0 hg hd
      have LA := HLA.out.up (HC0.out.trans hw)
      refine gives_call rfl hf Tryd.func30 rfl (by kernel_rfl) (args := #[]) (by simp [hc]) ((awake2_any w1 LA).mono ?_)
      rintro e w2 ⟨rfl, hb⟩
      exact ⟨_, rfl, up_below hb, rfl⟩
    · intro ρ w1 hw h0 hc hg hf hd
      have d36 := hd ⟨36, .data⟩ (by simp) rfl _ _ _ rfl rfl rfl
      have d37 := hd ⟨37, .data⟩ (by simp) rfl _ _ _ rfl rfl rfl
      refine ⟨fun _ => ?_, fun h => by cases h⟩
      clear h0 hg hd
      clear hc hf
      refine Gives.value (w' := w1) ?_ ⟨Chg.refl _ _, rfl⟩
      go_simp
  · intro vs w2 hw hr
    have h38 := hr 38 _ rfl
    clear hr
    dsimp only [putsL, restL]
    simp only [Act.put, List.setIfInBounds_toArray, List.set_cons_zero, List.set_cons_succ]
    rw [h38]
    have HUP := Lib.hid (HC0.out.trans hw)
    clear hw h38
    go_wp2
    go_ret
    exact ⟨rfl, HUP.out.below_none (fun _ _ h => h)⟩
end Go.Proofs.YtaahffminoekfaaDoor
