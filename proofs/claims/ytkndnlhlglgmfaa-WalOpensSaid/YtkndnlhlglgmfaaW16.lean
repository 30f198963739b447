/-
  May these be changed? check, walked. The document's Home and Room, walked. Sixty-four bytes alike, walked. A head that is written is read as what was written: the plain law. A head that is written names what it was written for: the plain law.
-/
import Derived.Test.YtkndnlhlglgmfaaW11
namespace Go.Proofs.Ytkndnlhlglgmfaa
open Go.RowKit Go.WideElems Go.MapKept Go.ChangeMaps
theorem zero4 (w : World) : (zeroValue 4).run Try.prog w = .ok (.bool false) w := by
  obtain ⟨i, hi, hz⟩ := Option.map_eq_some_iff.1 (show (Try.prog.info? 4).map (fun i => i.zero) = some (some (.bool false)) by kernel_rfl)
  simp [zeroValue, typeInfo, hi, hz]
theorem look113 {w : World} {b m : Nat} {C : Int → Option Value} (h : CacheAt w b m C) {i : Int} (hi : I64 i) :
    (Instr.lookup 113 (.map (some b)) (.int .i64 i) false).run Try.prog w = .ok ((C i).getD (.bool false)) w := by
  obtain ⟨D, hD, hv⟩ := h
  obtain ⟨v, ps, hrun, hr⟩ := hD.lookup K3 Try.underlying113 (zero4 w) (show RV (.bool false) = some (.held (.bool false), []) from rfl) (key_mk hi)
  rw [(hv i hi).2] at hr
  have : v = (C i).getD (.bool false) := by
    unfold RV at hr
    simp only [Option.some.injEq, Prod.mk.injEq] at hr
    cases hc : C i with
    | none => rw [hc] at hr; simp only [asHeld] at hr; exact (DataW.held.inj hr.1)
    | some u => rw [hc] at hr; simp only [asHeld] at hr; exact (DataW.held.inj hr.1)
  rw [this] at hrun
  exact hrun
theorem store113 {w : World} {b m : Nat} {C : Int → Option Value} (h : CacheAt w b m C) (hm : m ≤ 1000000) {i : Int} (hi : I64 i) (v : Value) :
    ∃ w', (Instr.mapUpdate 113 (.map (some b)) (.int .i64 i) v).run Try.prog w = .ok () w' ∧ CacheAt w' b (m + 1) (upd C i (some v)) ∧ Chg (fun k => k = b) w w' := by
  obtain ⟨D, hD, hv⟩ := h
  obtain ⟨w', hrun, h1, h2⟩ := hD.store K3 Try.underlying113 (by unfold maxLen; omega) (key_mk hi) (show RV v = some (.held v, []) from rfl)
  refine ⟨w', hrun, ⟨_, h1, fun j hj => ?_⟩, turned_chg h2⟩
  have hm := hD.isMap
  have hk : WideAt.IsKeyLit (.int .i64 i) := by first | exact trivial | exact ⟨_, _, rfl⟩ | simp [WideAt.IsKeyLit]
  unfold upd
  by_cases hji : j = i
  · subst hji
    rw [if_pos rfl]
    exact ⟨Maps.has_put_same hm hk _, fun z => Maps.atKey_put_same hm hk _ z⟩
  · rw [if_neg hji]
    have hne : (Lit.int .i64 j) ≠ .int .i64 i := fun e => hji (by injection e)
    rw [Maps.has_put_other hne]
    exact ⟨(hv j hj).1, fun z => by rw [Maps.atKey_put_other hne]; exact (hv j hj).2 z⟩
/-- Wrong sizes, and a sector twice. -/
def chkE (size : Nat) (cs : List ChI) : Nat → Int
  | 0 => 0
  | k + 1 => if (cs.getD k default).dat.length ≠ size ∨ (cs.getD k default).at_ ∈ atsOf (cs.take k) then 10 else chkE size cs k
def outC (home : Int) (c : ChI) : Bool := decide (c.at_ < 0) || decide (home ≤ c.at_)
/-- What check tells. -/
def chkI (size : Nat) (home room : Int) (cs : List ChI) : Int := if cs.any (outC home) then 11 else if chkE size cs cs.length = 0 ∧ room < cs.length then 31 else chkE size cs cs.length
def seenC (cs : List ChI) (k : Nat) : Int → Option Value := fun i => if i ∈ atsOf (cs.take k) then some (.bool true) else none
theorem seenC_succ (cs : List ChI) (k : Nat) (h : k < cs.length) : upd (seenC cs k) (cs.getD k default).at_ (some (.bool true)) = seenC cs (k + 1) := by
  funext i
  unfold upd seenC
  have e0 : cs.take (k + 1) = cs.take k ++ [cs.getD k default] := by
    rw [List.take_add_one, List.getElem?_eq_getElem h]
    simp [List.getD_eq_getElem?_getD, List.getElem?_eq_getElem h]
  have e : atsOf (cs.take (k + 1)) = atsOf (cs.take k) ++ [(cs.getD k default).at_] := by
    rw [e0]; unfold atsOf; rw [List.map_append, List.map_singleton]
  rw [e]
  obtain ⟨a, ha⟩ : ∃ a, (cs.getD k default).at_ = a := ⟨_, rfl⟩
  rw [ha]
  by_cases hi : i = a
  · subst hi; simp
  · simp [hi]
set_option maxRecDepth 100000 in
set_option maxHeartbeats 4000000 in
theorem wcheck_any (w : World) (q p b : Nat) (sv : Value) (x : Dk) (kk : Nat) (home : Int) (dn : Bool) (hw : WalAt w q p home dn) (hd : DskV w p b sv x kk) (hnb : x.has.length ≤ 65536) (hz : x.size ≤ 4096) (hz16 : 16 ≤ x.size) (hh : 0 ≤ home ∧ home ≤ 65536) (v : Value) (cs : List ChI) (ds : List Value) (hok : ChsOk w p b sv v cs ds) (hI : ∀ j, j < cs.length → I64 (cs.getD j default).at_) :
    Calls Try.prog 62 #[.pointer (some ⟨q, 0, none⟩), v] w (fun e w' => e = .returned (.int .i64 (chkI x.size home (roomI x.has.length x.size home) cs)) ∧ Below w.heap.size w w') := by
  obtain ⟨A, c0, rfl, hc1, hc2⟩ := hok.ch.shape
  have hn1000 := hok.n
  have HOK := Lib.hid hok
  have HWL := Lib.hid hw
  have HD0 := Lib.hid hd
  have HI := Lib.hid hI
  obtain ⟨z, hzz⟩ : ∃ z, x.size = z := ⟨_, rfl⟩
  have HZZ := Lib.hid hzz
  have HNB := Lib.hid hnb
  have HZ4 := Lib.hid hz
  have HZ16 := Lib.hid hz16
  obtain ⟨hh1, hh2⟩ := hh
  have hmk := fun w1 => run_makeMap (P := Try.prog) 113 w1
  obtain ⟨mb, hmb⟩ : ∃ mb, w.heap.size = mb := ⟨_, rfl⟩
  have hnew := cache_new w
  rw [hmb] at hnew
  have HNEW := Lib.hid hnew
  have HC0 : Hid (Chg (fun i => w.heap.size ≤ i) w (w.alloc (.map #[] 0))) := Lib.hid ((Chg.refl _ w).alloc _)
  have HMB : Hid (w.heap.size ≤ mb) := Lib.hid (by omega)
  have HMBE := Lib.hid hmb
  clear hok hw hd hI hzz hnew hmb hnb hz hz16
  go_enter Try.func62, Try.ntmps62
  go_wp2_with fail
  rw [HMBE.out]
  go_loopw [6, 12] (fun ev t wr => ∃ k m : Nat, k ≤ cs.length ∧ t = .int .i64 k ∧ ev = .int .i64 (chkE z cs k) ∧ CacheAt wr mb m (seenC cs k) ∧ m ≤ k ∧ (∀ j, j < k → outC home (cs.getD j default) = false) ∧ Chg (fun i => w.heap.size ≤ i) w wr) (fun _ t _ => cs.length - (intOf t).toNat)
  case atStart => exact ⟨0, 0, by omega, rfl, rfl, HNEW.out, by omega, fun j hj => by omega, HC0.out⟩
  case round =>
    rename World => wr
    obtain ⟨k, m, hk, rfl, rfl, hca, hm, hpre, hch⟩ := hrel
    by_cases hk2 : (k : Int) < cs.length
    · have hup := hch.below_none (fun i hi h => by omega) |> up_below
      obtain ⟨bb, off, cc, he, hcells⟩ := (HOK.out.ch.up hup).cells (by omega)
      injection he with e1 e2 e3
      subst e1 e3
      obtain ⟨r0, r1⟩ := hcells k (by omega)
      have hdd := HOK.out.dat k (by omega)
      have hia := HI.out k (by omega)
      have hss := seenC_succ cs k (by omega)
      have hces : chkE z cs (k + 1) = if (cs.getD k default).dat.length ≠ z ∨ (cs.getD k default).at_ ∈ atsOf (cs.take k) then 10 else chkE z cs k := rfl
      have hmem : cs.getD k default ∈ cs := by rw [List.getD_eq_getElem?_getD, List.getElem?_eq_getElem (show k < cs.length by omega)]; exact List.getElem_mem _
      obtain ⟨d, hde⟩ : ∃ d, ds.getD k undef = d := ⟨_, rfl⟩
      obtain ⟨c, hce⟩ : ∃ c, cs.getD k default = c := ⟨_, rfl⟩
      rw [hde] at r1 hdd
      rw [hce] at r0 hdd hia hss hces hmem
      obtain ⟨A1, c1, rfl, _, _⟩ := hdd.shape
      obtain ⟨a, hae⟩ : ∃ a, c.at_ = a := ⟨_, rfl⟩
      obtain ⟨nd, hnd⟩ : ∃ nd, c.dat.length = nd := ⟨_, rfl⟩
      rw [hae] at r0 hia hss hces
      rw [hnd] at r1 hces
      have hu : Up wr (wr.alloc (.cells #[.int .i64 a, .slice A1 nd c1] 89)) := (Chg.refl _ wr).alloc _
      obtain ⟨W5, hW5⟩ : ∃ W5, W5 = wr.alloc (.cells #[.int .i64 a, .slice A1 nd c1] 89) := ⟨_, rfl⟩
      have hcell5 := heap_alloc_last wr (.cells #[.int .i64 a, .slice A1 nd c1] 89)
      obtain ⟨g5, hg5⟩ : ∃ g5, g5 = wr.heap.size := ⟨_, rfl⟩
      rw [← hW5] at hu hcell5
      rw [← hg5] at hcell5
      have HB0 : Hid (W5.drew.cell? ⟨g5, 0, none⟩ = some (.int .i64 a)) := Lib.hid (cell_of_row W5 g5 0 _ _ _ hcell5)
      have HB1 : Hid (W5.drew.cell? ⟨g5, 1, none⟩ = some (.slice A1 nd c1)) := Lib.hid (cell_of_row W5 g5 1 _ _ _ hcell5)
      have HBX : Hid (W5.drew.heap[g5]? = some (.cells #[.int .i64 a, .slice A1 nd c1] 89 (0, 0))) := Lib.hid hcell5
      have HQ0 : Hid (W5.drew.cell? ⟨q, 0, none⟩ = some (.pointer (some ⟨p, 0, none⟩))) := Lib.hid ((HWL.out.up hup).up hu).c0
      have HQ1 : Hid (W5.drew.cell? ⟨q, 1, none⟩ = some (.int .i64 home)) := Lib.hid ((HWL.out.up hup).up hu).c1
      have HD : Hid (DskV W5.drew p b sv x kk) := Lib.hid (((HD0.out.up hup).up hu).up (Chg.refl _ _).drew)
      have HCA : Hid (CacheAt W5.drew mb m (seenC cs k)) := Lib.hid ((hca.chg hu (fun h => h)).chg (Chg.refl (fun _ => False) W5).drew (fun h => h))
      have HC5 : Hid (Chg (fun i => w.heap.size ≤ i) w W5.drew) := Lib.hid ((hch.then hu (fun _ h => h.elim)).drew)
      have HIA := Lib.hid hia
      have HSS := Lib.hid hss
      have HCES := Lib.hid hces
      have HPRE := Lib.hid hpre
      have HOUT : Hid (outC home (cs.getD k default) = (decide (a < 0) || decide (home ≤ a))) := Lib.hid (by rw [hce, ← hae]; rfl)
      have H11 : Hid (a < 0 ∨ home ≤ a → chkI x.size home (roomI x.has.length x.size home) cs = 11) := Lib.hid (fun ho => by
        unfold chkI
        rw [if_pos]
        rw [List.any_eq_true]
        refine ⟨c, hmem, ?_⟩
        unfold outC
        rw [hae]
        simpa using ho)
      clear hup hcells hdd hia hss hces hmem hde hce hae hnd hu hcell5 hca hpre hch
      go_wp2_with fail
      rw [← hW5, ← hg5]
      clear hW5 hg5 r0 r1
      by_cases hneg : a < 0
      · go_wp2_with fail
        refine MT.region_mono Up [fun v _ => v = .pointer (some ⟨g5, 0, none⟩),
            fun v _ => v = .int .i64 a,
            fun v _ => v = .bool true,
            fun v _ => v = .bool true,
            fun _ _ => True,
            fun _ _ => True,
            fun _ _ => True,
            fun _ _ => True,
            fun _ _ => True,
            fun _ _ => True,
            fun _ _ => True,
            fun v _ => v = .bool true] (by kernel_rfl) (by kernel_rfl) (Chg.refl _) (fun _ _ _ => Chg.trans) (by simp) ?_ ?_ ?_
        · simp only [List.forall_mem_cons]
          exact ⟨fun _ _ _ _ _ h => h, fun _ _ _ _ _ h => h, fun _ _ _ _ _ h => h, fun _ _ _ _ _ h => h, fun _ _ _ _ _ h => h, fun _ _ _ _ _ h => h, fun _ _ _ _ _ h => h, fun _ _ _ _ _ h => h, fun _ _ _ _ _ h => h, fun _ _ _ _ _ h => h, fun _ _ _ _ _ h => h, fun _ _ _ _ _ h => h, by simp⟩
        · refine ⟨?_, ?_, ?_, ?_, ?_, ?_, ?_, ?_, ?_, ?_, ?_, ?_, trivial⟩
          · intro ρ w1 hw h0 hc hg hf hd
            have s8 : ρ (.tmp 8) = .pointer (some ⟨g5, 0, none⟩) := h0 8 (by kernel_rfl)
            refine ⟨fun _ => ?_, fun h => by cases h⟩
            clear h0 hg hd
            clear hf hc
            refine Gives.value (w' := w1) ?_ ⟨Chg.refl _ _, rfl⟩
            go_simp
          · intro ρ w1 hw h0 hc hg hf hd
            have d0 := hd ⟨0, .data⟩ (by simp) rfl _ _ _ rfl rfl rfl
            refine ⟨fun _ => ?_, fun h => by cases h⟩
            clear h0 hg hd
            clear hc hf
            have c1 := hw.cell HB0.out (fun h => h)
            refine Gives.value (w' := w1) ?_ ⟨Chg.refl _ _, rfl⟩
            go_simp
          · intro ρ w1 hw h0 hc hg hf hd
            have d1 := hd ⟨1, .data⟩ (by simp) rfl _ _ _ rfl rfl rfl
            refine ⟨fun _ => ?_, fun h => by cases h⟩
            clear h0 hg hd
            clear hf
            refine Gives.value (w' := w1) ?_ ⟨Chg.refl _ _, rfl⟩
            go_simp
          · intro ρ w1 hw h0 hc hg hf hd
            have d2 := hd ⟨2, .data⟩ (by simp) rfl _ _ _ rfl rfl rfl
            refine ⟨fun _ => ?_, fun h => by cases h⟩
            clear h0 hg hd
            exact gives_move rfl ⟨Chg.refl _ _, d2⟩
          · intro ρ w1 hw h0 hc hg hf hd
            have d3 := hd ⟨3, .guard⟩ (by simp) rfl _ _ _ rfl rfl rfl
            exact ⟨fun hx => (by rw [wantedBy_false rfl rfl rfl d3] at hx; cases hx), fun _ => trivial⟩
          · intro ρ w1 hw h0 hc hg hf hd
            have d3 := hd ⟨3, .guard⟩ (by simp) rfl _ _ _ rfl rfl rfl
            exact ⟨fun hx => (by rw [wantedBy_false rfl rfl rfl d3] at hx; cases hx), fun _ => trivial⟩
          · intro ρ w1 hw h0 hc hg hf hd
            have d3 := hd ⟨3, .guard⟩ (by simp) rfl _ _ _ rfl rfl rfl
            exact ⟨fun hx => (by rw [wantedBy_false rfl rfl rfl d3] at hx; cases hx), fun _ => trivial⟩
          · intro ρ w1 hw h0 hc hg hf hd
            have d3 := hd ⟨3, .guard⟩ (by simp) rfl _ _ _ rfl rfl rfl
            exact ⟨fun hx => (by rw [wantedBy_false rfl rfl rfl d3] at hx; cases hx), fun _ => trivial⟩
          · intro ρ w1 hw h0 hc hg hf hd
            have d3 := hd ⟨3, .guard⟩ (by simp) rfl _ _ _ rfl rfl rfl
            exact ⟨fun hx => (by rw [wantedBy_false rfl rfl rfl d3] at hx; cases hx), fun _ => trivial⟩
          · intro ρ w1 hw h0 hc hg hf hd
            have d3 := hd ⟨3, .guard⟩ (by simp) rfl _ _ _ rfl rfl rfl
            exact ⟨fun hx => (by rw [wantedBy_false rfl rfl rfl d3] at hx; cases hx), fun _ => trivial⟩
          · intro ρ w1 hw h0 hc hg hf hd
            have d3 := hd ⟨3, .guard⟩ (by simp) rfl _ _ _ rfl rfl rfl
            exact ⟨fun hx => (by rw [wantedBy_false rfl rfl rfl d3] at hx; cases hx), fun _ => trivial⟩
          · intro ρ w1 hw h0 hc hg hf hd
            have d3 := hd ⟨3, .data⟩ (by simp) rfl _ _ _ rfl rfl rfl
            have d10 := hd ⟨10, .data⟩ (by simp) rfl _ _ _ rfl rfl rfl
            refine ⟨fun _ => ?_, fun h => by cases h⟩
            clear h0 hg hd
            refine Gives.value (w' := w1) ?_ ⟨Chg.refl _ _, rfl⟩
            go_simp
        · intro vs w2 hw hr
          have h11 := hr 11 _ rfl
          clear hr
          dsimp only [putsL, restL]
          simp only [Act.put, List.setIfInBounds_toArray, List.set_cons_zero, List.set_cons_succ]
          simp only [Nat.zero_add, Nat.reduceAdd]
          rw [h11]
          have HCX : Hid (Chg (fun i => w.heap.size ≤ i) w w2) := Lib.hid (HC5.out.then hw (fun _ h => h.elim))
          clear hw h11
          go_wp2_with fail
          go_ret
          exact ⟨by rw [H11.out (.inl hneg)]; rfl, HCX.out.below (Nat.le_refl _) (fun _ h => h)⟩

      by_cases hov : home ≤ a
      · go_wp2_with fail
        refine MT.region_mono Up [fun v _ => v = .pointer (some ⟨g5, 0, none⟩),
            fun v _ => v = .int .i64 a,
            fun v _ => v = .bool false,
            fun v _ => v = .bool false,
            fun v _ => v = .pointer (some ⟨g5, 0, none⟩),
            fun v _ => v = .int .i64 a,
            fun v _ => v = .pointer (some ⟨q, 0, none⟩),
            fun v _ => v = .pointer (some ⟨q, 0, none⟩),
            fun v _ => v = .pointer (some ⟨q, 1, none⟩),
            fun v _ => v = .int .i64 home,
            fun v _ => v = .bool true,
            fun v _ => v = .bool true] (by kernel_rfl) (by kernel_rfl) (Chg.refl _) (fun _ _ _ => Chg.trans) (by simp) ?_ ?_ ?_
        · simp only [List.forall_mem_cons]
          exact ⟨fun _ _ _ _ _ h => h, fun _ _ _ _ _ h => h, fun _ _ _ _ _ h => h, fun _ _ _ _ _ h => h, fun _ _ _ _ _ h => h, fun _ _ _ _ _ h => h, fun _ _ _ _ _ h => h, fun _ _ _ _ _ h => h, fun _ _ _ _ _ h => h, fun _ _ _ _ _ h => h, fun _ _ _ _ _ h => h, fun _ _ _ _ _ h => h, by simp⟩
        · refine ⟨?_, ?_, ?_, ?_, ?_, ?_, ?_, ?_, ?_, ?_, ?_, ?_, trivial⟩
          · intro ρ w1 hw h0 hc hg hf hd
            have s8 : ρ (.tmp 8) = .pointer (some ⟨g5, 0, none⟩) := h0 8 (by kernel_rfl)
            refine ⟨fun _ => ?_, fun h => by cases h⟩
            clear h0 hg hd
            clear hf hc
            refine Gives.value (w' := w1) ?_ ⟨Chg.refl _ _, rfl⟩
            go_simp
          · intro ρ w1 hw h0 hc hg hf hd
            have d0 := hd ⟨0, .data⟩ (by simp) rfl _ _ _ rfl rfl rfl
            refine ⟨fun _ => ?_, fun h => by cases h⟩
            clear h0 hg hd
            clear hc hf
            have c1 := hw.cell HB0.out (fun h => h)
            refine Gives.value (w' := w1) ?_ ⟨Chg.refl _ _, rfl⟩
            go_simp
          · intro ρ w1 hw h0 hc hg hf hd
            have d1 := hd ⟨1, .data⟩ (by simp) rfl _ _ _ rfl rfl rfl
            refine ⟨fun _ => ?_, fun h => by cases h⟩
            clear h0 hg hd
            clear hf
            refine Gives.value (w' := w1) ?_ ⟨Chg.refl _ _, rfl⟩
            go_simp
          · intro ρ w1 hw h0 hc hg hf hd
            have d2 := hd ⟨2, .data⟩ (by simp) rfl _ _ _ rfl rfl rfl
            refine ⟨fun _ => ?_, fun h => by cases h⟩
            clear h0 hg hd
            exact gives_move rfl ⟨Chg.refl _ _, d2⟩
          · intro ρ w1 hw h0 hc hg hf hd
            have d3 := hd ⟨3, .guard⟩ (by simp) rfl _ _ _ rfl rfl rfl
            have s8 : ρ (.tmp 8) = .pointer (some ⟨g5, 0, none⟩) := h0 8 (by kernel_rfl)
            refine ⟨fun _ => ?_, fun h => by rw [wantedBy_true rfl rfl rfl d3] at h; cases h⟩
            clear d3
            clear h0 hg hd
            clear hf hc
            refine Gives.value (w' := w1) ?_ ⟨Chg.refl _ _, rfl⟩
            go_simp
          · intro ρ w1 hw h0 hc hg hf hd
            have d4 := hd ⟨4, .data⟩ (by simp) rfl _ _ _ rfl rfl rfl
            have d3 := hd ⟨3, .guard⟩ (by simp) rfl _ _ _ rfl rfl rfl
            refine ⟨fun _ => ?_, fun h => by rw [wantedBy_true rfl rfl rfl d3] at h; cases h⟩
            clear d3
            clear h0 hg hd
            clear hc hf
            have c1 := hw.cell HB0.out (fun h => h)
            refine Gives.value (w' := w1) ?_ ⟨Chg.refl _ _, rfl⟩
            go_simp
          · intro ρ w1 hw h0 hc hg hf hd
            have d3 := hd ⟨3, .guard⟩ (by simp) rfl _ _ _ rfl rfl rfl
            have s0 : ρ (.tmp 0) = .pointer (some ⟨q, 0, none⟩) := h0 0 (by kernel_rfl)
            refine ⟨fun _ => ?_, fun h => by rw [wantedBy_true rfl rfl rfl d3] at h; cases h⟩
            clear d3
            clear h0 hg hd
            exact gives_move rfl ⟨Chg.refl _ _, s0⟩
          · intro ρ w1 hw h0 hc hg hf hd
            have d6 := hd ⟨6, .data⟩ (by simp) rfl _ _ _ rfl rfl rfl
            have d3 := hd ⟨3, .guard⟩ (by simp) rfl _ _ _ rfl rfl rfl
            refine ⟨fun _ => ?_, fun h => by rw [wantedBy_true rfl rfl rfl d3] at h; cases h⟩
            clear d3
            clear h0 hg hd
            clear hf hc
            refine Gives.value (w' := w1) ?_ ⟨Chg.refl _ _, rfl⟩
            go_simp
          · intro ρ w1 hw h0 hc hg hf hd
            have d7 := hd ⟨7, .data⟩ (by simp) rfl _ _ _ rfl rfl rfl
            have d3 := hd ⟨3, .guard⟩ (by simp) rfl _ _ _ rfl rfl rfl
            refine ⟨fun _ => ?_, fun h => by rw [wantedBy_true rfl rfl rfl d3] at h; cases h⟩
            clear d3
            clear h0 hg hd
            clear hf hc
            refine Gives.value (w' := w1) ?_ ⟨Chg.refl _ _, rfl⟩
            go_simp
          · intro ρ w1 hw h0 hc hg hf hd
            have d8 := hd ⟨8, .data⟩ (by simp) rfl _ _ _ rfl rfl rfl
            have d3 := hd ⟨3, .guard⟩ (by simp) rfl _ _ _ rfl rfl rfl
            refine ⟨fun _ => ?_, fun h => by rw [wantedBy_true rfl rfl rfl d3] at h; cases h⟩
            clear d3
            clear h0 hg hd
            clear hc hf
            have c1 := hw.cell HQ1.out (fun h => h)
            refine Gives.value (w' := w1) ?_ ⟨Chg.refl _ _, rfl⟩
            go_simp
          · intro ρ w1 hw h0 hc hg hf hd
            have d5 := hd ⟨5, .data⟩ (by simp) rfl _ _ _ rfl rfl rfl
            have d9 := hd ⟨9, .data⟩ (by simp) rfl _ _ _ rfl rfl rfl
            have d3 := hd ⟨3, .guard⟩ (by simp) rfl _ _ _ rfl rfl rfl
            refine ⟨fun _ => ?_, fun h => by rw [wantedBy_true rfl rfl rfl d3] at h; cases h⟩
            clear d3
            clear h0 hg hd
            clear hf
            refine Gives.value (w' := w1) ?_ ⟨Chg.refl _ _, rfl⟩
            go_simp
          · intro ρ w1 hw h0 hc hg hf hd
            have d3 := hd ⟨3, .data⟩ (by simp) rfl _ _ _ rfl rfl rfl
            have d10 := hd ⟨10, .data⟩ (by simp) rfl _ _ _ rfl rfl rfl
            refine ⟨fun _ => ?_, fun h => by cases h⟩
            clear h0 hg hd
            refine Gives.value (w' := w1) ?_ ⟨Chg.refl _ _, rfl⟩
            go_simp
        · intro vs w2 hw hr
          have h11 := hr 11 _ rfl
          clear hr
          dsimp only [putsL, restL]
          simp only [Act.put, List.setIfInBounds_toArray, List.set_cons_zero, List.set_cons_succ]
          simp only [Nat.zero_add, Nat.reduceAdd]
          rw [h11]
          have HCX : Hid (Chg (fun i => w.heap.size ≤ i) w w2) := Lib.hid (HC5.out.then hw (fun _ h => h.elim))
          clear hw h11
          go_wp2_with fail
          go_ret
          exact ⟨by rw [H11.out (.inr hov)]; rfl, HCX.out.below (Nat.le_refl _) (fun _ h => h)⟩

      have HKO : Hid (outC home (cs.getD k default) = false) := Lib.hid (by rw [HOUT.out]; simp; omega)
      go_wp2_with fail
      refine MT.region_mono Up [fun v _ => v = .pointer (some ⟨g5, 0, none⟩),
          fun v _ => v = .int .i64 a,
          fun v _ => v = .bool false,
          fun v _ => v = .bool false,
          fun v _ => v = .pointer (some ⟨g5, 0, none⟩),
          fun v _ => v = .int .i64 a,
          fun v _ => v = .pointer (some ⟨q, 0, none⟩),
          fun v _ => v = .pointer (some ⟨q, 0, none⟩),
          fun v _ => v = .pointer (some ⟨q, 1, none⟩),
          fun v _ => v = .int .i64 home,
          fun v _ => v = .bool false,
          fun v _ => v = .bool false] (by kernel_rfl) (by kernel_rfl) (Chg.refl _) (fun _ _ _ => Chg.trans) (by simp) ?_ ?_ ?_
      · simp only [List.forall_mem_cons]
        exact ⟨fun _ _ _ _ _ h => h, fun _ _ _ _ _ h => h, fun _ _ _ _ _ h => h, fun _ _ _ _ _ h => h, fun _ _ _ _ _ h => h, fun _ _ _ _ _ h => h, fun _ _ _ _ _ h => h, fun _ _ _ _ _ h => h, fun _ _ _ _ _ h => h, fun _ _ _ _ _ h => h, fun _ _ _ _ _ h => h, fun _ _ _ _ _ h => h, by simp⟩
      · refine ⟨?_, ?_, ?_, ?_, ?_, ?_, ?_, ?_, ?_, ?_, ?_, ?_, trivial⟩
        · intro ρ w1 hw h0 hc hg hf hd
          have s8 : ρ (.tmp 8) = .pointer (some ⟨g5, 0, none⟩) := h0 8 (by kernel_rfl)
          refine ⟨fun _ => ?_, fun h => by cases h⟩
          clear h0 hg hd
          clear hf hc
          refine Gives.value (w' := w1) ?_ ⟨Chg.refl _ _, rfl⟩
          go_simp
        · intro ρ w1 hw h0 hc hg hf hd
          have d0 := hd ⟨0, .data⟩ (by simp) rfl _ _ _ rfl rfl rfl
          refine ⟨fun _ => ?_, fun h => by cases h⟩
          clear h0 hg hd
          clear hc hf
          have c1 := hw.cell HB0.out (fun h => h)
          refine Gives.value (w' := w1) ?_ ⟨Chg.refl _ _, rfl⟩
          go_simp
        · intro ρ w1 hw h0 hc hg hf hd
          have d1 := hd ⟨1, .data⟩ (by simp) rfl _ _ _ rfl rfl rfl
          refine ⟨fun _ => ?_, fun h => by cases h⟩
          clear h0 hg hd
          clear hf
          refine Gives.value (w' := w1) ?_ ⟨Chg.refl _ _, rfl⟩
          go_simp
        · intro ρ w1 hw h0 hc hg hf hd
          have d2 := hd ⟨2, .data⟩ (by simp) rfl _ _ _ rfl rfl rfl
          refine ⟨fun _ => ?_, fun h => by cases h⟩
          clear h0 hg hd
          exact gives_move rfl ⟨Chg.refl _ _, d2⟩
        · intro ρ w1 hw h0 hc hg hf hd
          have d3 := hd ⟨3, .guard⟩ (by simp) rfl _ _ _ rfl rfl rfl
          have s8 : ρ (.tmp 8) = .pointer (some ⟨g5, 0, none⟩) := h0 8 (by kernel_rfl)
          refine ⟨fun _ => ?_, fun h => by rw [wantedBy_true rfl rfl rfl d3] at h; cases h⟩
          clear d3
          clear h0 hg hd
          clear hf hc
          refine Gives.value (w' := w1) ?_ ⟨Chg.refl _ _, rfl⟩
          go_simp
        · intro ρ w1 hw h0 hc hg hf hd
          have d4 := hd ⟨4, .data⟩ (by simp) rfl _ _ _ rfl rfl rfl
          have d3 := hd ⟨3, .guard⟩ (by simp) rfl _ _ _ rfl rfl rfl
          refine ⟨fun _ => ?_, fun h => by rw [wantedBy_true rfl rfl rfl d3] at h; cases h⟩
          clear d3
          clear h0 hg hd
          clear hc hf
          have c1 := hw.cell HB0.out (fun h => h)
          refine Gives.value (w' := w1) ?_ ⟨Chg.refl _ _, rfl⟩
          go_simp
        · intro ρ w1 hw h0 hc hg hf hd
          have d3 := hd ⟨3, .guard⟩ (by simp) rfl _ _ _ rfl rfl rfl
          have s0 : ρ (.tmp 0) = .pointer (some ⟨q, 0, none⟩) := h0 0 (by kernel_rfl)
          refine ⟨fun _ => ?_, fun h => by rw [wantedBy_true rfl rfl rfl d3] at h; cases h⟩
          clear d3
          clear h0 hg hd
          exact gives_move rfl ⟨Chg.refl _ _, s0⟩
        · intro ρ w1 hw h0 hc hg hf hd
          have d6 := hd ⟨6, .data⟩ (by simp) rfl _ _ _ rfl rfl rfl
          have d3 := hd ⟨3, .guard⟩ (by simp) rfl _ _ _ rfl rfl rfl
          refine ⟨fun _ => ?_, fun h => by rw [wantedBy_true rfl rfl rfl d3] at h; cases h⟩
          clear d3
          clear h0 hg hd
          clear hf hc
          refine Gives.value (w' := w1) ?_ ⟨Chg.refl _ _, rfl⟩
          go_simp
        · intro ρ w1 hw h0 hc hg hf hd
          have d7 := hd ⟨7, .data⟩ (by simp) rfl _ _ _ rfl rfl rfl
          have d3 := hd ⟨3, .guard⟩ (by simp) rfl _ _ _ rfl rfl rfl
          refine ⟨fun _ => ?_, fun h => by rw [wantedBy_true rfl rfl rfl d3] at h; cases h⟩
          clear d3
          clear h0 hg hd
          clear hf hc
          refine Gives.value (w' := w1) ?_ ⟨Chg.refl _ _, rfl⟩
          go_simp
        · intro ρ w1 hw h0 hc hg hf hd
          have d8 := hd ⟨8, .data⟩ (by simp) rfl _ _ _ rfl rfl rfl
          have d3 := hd ⟨3, .guard⟩ (by simp) rfl _ _ _ rfl rfl rfl
          refine ⟨fun _ => ?_, fun h => by rw [wantedBy_true rfl rfl rfl d3] at h; cases h⟩
          clear d3
          clear h0 hg hd
          clear hc hf
          have c1 := hw.cell HQ1.out (fun h => h)
          refine Gives.value (w' := w1) ?_ ⟨Chg.refl _ _, rfl⟩
          go_simp
        · intro ρ w1 hw h0 hc hg hf hd
          have d5 := hd ⟨5, .data⟩ (by simp) rfl _ _ _ rfl rfl rfl
          have d9 := hd ⟨9, .data⟩ (by simp) rfl _ _ _ rfl rfl rfl
          have d3 := hd ⟨3, .guard⟩ (by simp) rfl _ _ _ rfl rfl rfl
          refine ⟨fun _ => ?_, fun h => by rw [wantedBy_true rfl rfl rfl d3] at h; cases h⟩
          clear d3
          clear h0 hg hd
          clear hf
          refine Gives.value (w' := w1) ?_ ⟨Chg.refl _ _, rfl⟩
          go_simp
        · intro ρ w1 hw h0 hc hg hf hd
          have d3 := hd ⟨3, .data⟩ (by simp) rfl _ _ _ rfl rfl rfl
          have d10 := hd ⟨10, .data⟩ (by simp) rfl _ _ _ rfl rfl rfl
          refine ⟨fun _ => ?_, fun h => by cases h⟩
          clear h0 hg hd
          refine Gives.value (w' := w1) ?_ ⟨Chg.refl _ _, rfl⟩
          go_simp
      · intro vs w2 hw hr
        have h11 := hr 11 _ rfl
        clear hr
        dsimp only [putsL, restL]
        simp only [Act.put, List.setIfInBounds_toArray, List.set_cons_zero, List.set_cons_succ]

        simp only [Nat.zero_add, Nat.reduceAdd]
        rw [h11]
        have HB0' : Hid (w2.drew.cell? ⟨g5, 0, none⟩ = some (.int .i64 a)) := Lib.hid (hw.cell HB0.out (fun h => h))
        have HB1' : Hid (w2.drew.cell? ⟨g5, 1, none⟩ = some (.slice A1 nd c1)) := Lib.hid (hw.cell HB1.out (fun h => h))
        have HBX' : Hid (w2.drew.heap[g5]? = some (.cells #[.int .i64 a, .slice A1 nd c1] 89 (0, 0))) := Lib.hid (hw.heap HBX.out (fun h => h))
        have HQ0' : Hid (w2.drew.cell? ⟨q, 0, none⟩ = some (.pointer (some ⟨p, 0, none⟩))) := Lib.hid (hw.cell HQ0.out (fun h => h))
        have HD' : Hid (DskV w2.drew p b sv x kk) := Lib.hid ((HD.out.up hw).up (Chg.refl _ _).drew)
        have HCA' : Hid (CacheAt w2.drew mb m (seenC cs k)) := Lib.hid ((HCA.out.chg hw (fun h => h)).chg (Chg.refl (fun _ => False) w2).drew (fun h => h))
        have HC2 : Hid (Chg (fun i => w.heap.size ≤ i) w w2.drew) := Lib.hid ((HC5.out.then hw (fun _ h => h.elim)).drew)
        clear hw h11 HB0 HB1 HBX HQ0 HQ1 HD HCA HC5 H11 HOUT
        rename Hid (w2.drew.cell? ⟨g5, 0, none⟩ = some (.int .i64 a)) => HB0
        rename Hid (w2.drew.cell? ⟨g5, 1, none⟩ = some (.slice A1 nd c1)) => HB1
        rename Hid (w2.drew.heap[g5]? = some (.cells #[.int .i64 a, .slice A1 nd c1] 89 (0, 0))) => HBX
        rename Hid (w2.drew.cell? ⟨q, 0, none⟩ = some (.pointer (some ⟨p, 0, none⟩))) => HQ0
        rename Hid (DskV w2.drew p b sv x kk) => HD
        rename Hid (CacheAt w2.drew mb m (seenC cs k)) => HCA
        by_cases hlen : nd ≠ z
        · have hlen' : ((nd : Int) != (z : Int)) = true := by rw [bne_iff_ne]; omega
          have HCE : Hid (chkE z cs (k + 1) = 10) := Lib.hid (by rw [HCES.out, if_pos (.inl hlen)])
          clear hlen
          go_wp2_with fail
          refine MT.region_mono Up [fun v _ => v = .pointer (some ⟨g5, 1, none⟩),
              fun v _ => v = .slice A1 nd c1,
              fun v _ => v = .int .i64 (nd : Int),
              fun v _ => v = .pointer (some ⟨q, 0, none⟩),
              fun v _ => v = .pointer (some ⟨q, 0, none⟩),
              fun v _ => v = .pointer (some ⟨q, 0, none⟩),
              fun v _ => v = .pointer (some ⟨p, 0, none⟩),
              fun v _ => v = .int .i64 (z : Int),
              fun v _ => v = .bool true,
              fun v _ => v = .bool true,
              fun _ _ => True,
              fun _ _ => True,
              fun _ _ => True,
              fun _ _ => True,
              fun v _ => v = .bool true] (by kernel_rfl) (by kernel_rfl) (Chg.refl _) (fun _ _ _ => Chg.trans) (by simp) ?_ ?_ ?_
          · simp only [List.forall_mem_cons]
            exact ⟨fun _ _ _ _ _ h => h, fun _ _ _ _ _ h => h, fun _ _ _ _ _ h => h, fun _ _ _ _ _ h => h, fun _ _ _ _ _ h => h, fun _ _ _ _ _ h => h, fun _ _ _ _ _ h => h, fun _ _ _ _ _ h => h, fun _ _ _ _ _ h => h, fun _ _ _ _ _ h => h, fun _ _ _ _ _ h => h, fun _ _ _ _ _ h => h, fun _ _ _ _ _ h => h, fun _ _ _ _ _ h => h, fun _ _ _ _ _ h => h, by simp⟩
          · refine ⟨?_, ?_, ?_, ?_, ?_, ?_, ?_, ?_, ?_, ?_, ?_, ?_, ?_, ?_, ?_, trivial⟩
            · intro ρ w1 hw h0 hc hg hf hd
              have s8 : ρ (.tmp 8) = .pointer (some ⟨g5, 0, none⟩) := h0 8 (by kernel_rfl)
              refine ⟨fun _ => ?_, fun h => by cases h⟩
              clear h0 hg hd
              clear hf hc
              refine Gives.value (w' := w1) ?_ ⟨Chg.refl _ _, rfl⟩
              go_simp
            · intro ρ w1 hw h0 hc hg hf hd
              have d0 := hd ⟨0, .data⟩ (by simp) rfl _ _ _ rfl rfl rfl
              refine ⟨fun _ => ?_, fun h => by cases h⟩
              clear h0 hg hd
              clear hc hf
              have c1 := hw.cell HB1.out (fun h => h)
              refine Gives.value (w' := w1) ?_ ⟨Chg.refl _ _, rfl⟩
              go_simp
            · intro ρ w1 hw h0 hc hg hf hd
              have d1 := hd ⟨1, .data⟩ (by simp) rfl _ _ _ rfl rfl rfl
              refine ⟨fun _ => ?_, fun h => by cases h⟩
              clear h0 hg hd
              clear hf hc
              refine Gives.value (w' := w1) ?_ ⟨Chg.refl _ _, rfl⟩
              go_simp
            · intro ρ w1 hw h0 hc hg hf hd
              have s0 : ρ (.tmp 0) = .pointer (some ⟨q, 0, none⟩) := h0 0 (by kernel_rfl)
              refine ⟨fun _ => ?_, fun h => by cases h⟩
              clear h0 hg hd
              exact gives_move rfl ⟨Chg.refl _ _, s0⟩
            · intro ρ w1 hw h0 hc hg hf hd
              have d3 := hd ⟨3, .data⟩ (by simp) rfl _ _ _ rfl rfl rfl
              refine ⟨fun _ => ?_, fun h => by cases h⟩
              clear h0 hg hd
              clear hf hc
              refine Gives.value (w' := w1) ?_ ⟨Chg.refl _ _, rfl⟩
              go_simp
            · intro ρ w1 hw h0 hc hg hf hd
              have d4 := hd ⟨4, .data⟩ (by simp) rfl _ _ _ rfl rfl rfl
              refine ⟨fun _ => ?_, fun h => by cases h⟩
              clear h0 hg hd
              clear hf hc
              refine Gives.value (w' := w1) ?_ ⟨Chg.refl _ _, rfl⟩
              go_simp
            · intro ρ w1 hw h0 hc hg hf hd
              have d5 := hd ⟨5, .data⟩ (by simp) rfl _ _ _ rfl rfl rfl
              refine ⟨fun _ => ?_, fun h => by cases h⟩
              clear h0 hg hd
              clear hc hf
              have c1 := hw.cell HQ0.out (fun h => h)
              refine Gives.value (w' := w1) ?_ ⟨Chg.refl _ _, rfl⟩
              go_simp
            · intro ρ w1 hw h0 hc hg hf hd
              have d6 := hd ⟨6, .data⟩ (by simp) rfl _ _ _ rfl rfl rfl
              refine ⟨fun _ => ?_, fun h => by cases h⟩
              clear h0 hg hd
              refine gives_call rfl hf Try.func58 rfl (by kernel_rfl) (args := #[.pointer (some ⟨p, 0, none⟩)]) (by simp [d6]) ((vsize w1 p b sv x kk (HD.out.up hw)).mono ?_)
              rintro e w2 ⟨rfl, rfl⟩
              exact ⟨_, rfl, Chg.refl _ _, by rw [HZZ.out]⟩
            · intro ρ w1 hw h0 hc hg hf hd
              have d2 := hd ⟨2, .data⟩ (by simp) rfl _ _ _ rfl rfl rfl
              have d7 := hd ⟨7, .data⟩ (by simp) rfl _ _ _ rfl rfl rfl
              refine ⟨fun _ => ?_, fun h => by cases h⟩
              clear h0 hg hd
              clear hf hc
              refine Gives.value (w' := w1) ?_ ⟨Chg.refl _ _, rfl⟩
              go_simp
            · intro ρ w1 hw h0 hc hg hf hd
              have d8 := hd ⟨8, .data⟩ (by simp) rfl _ _ _ rfl rfl rfl
              refine ⟨fun _ => ?_, fun h => by cases h⟩
              clear h0 hg hd
              exact gives_move rfl ⟨Chg.refl _ _, d8⟩
            · intro ρ w1 hw h0 hc hg hf hd
              have d9 := hd ⟨9, .guard⟩ (by simp) rfl _ _ _ rfl rfl rfl
              exact ⟨fun hx => (by rw [wantedBy_false rfl rfl rfl d9] at hx; cases hx), fun _ => trivial⟩
            · intro ρ w1 hw h0 hc hg hf hd
              have d9 := hd ⟨9, .guard⟩ (by simp) rfl _ _ _ rfl rfl rfl
              exact ⟨fun hx => (by rw [wantedBy_false rfl rfl rfl d9] at hx; cases hx), fun _ => trivial⟩
            · intro ρ w1 hw h0 hc hg hf hd
              have d9 := hd ⟨9, .guard⟩ (by simp) rfl _ _ _ rfl rfl rfl
              exact ⟨fun hx => (by rw [wantedBy_false rfl rfl rfl d9] at hx; cases hx), fun _ => trivial⟩
            · intro ρ w1 hw h0 hc hg hf hd
              have d9 := hd ⟨9, .guard⟩ (by simp) rfl _ _ _ rfl rfl rfl
              exact ⟨fun hx => (by rw [wantedBy_false rfl rfl rfl d9] at hx; cases hx), fun _ => trivial⟩
            · intro ρ w1 hw h0 hc hg hf hd
              have d9 := hd ⟨9, .data⟩ (by simp) rfl _ _ _ rfl rfl rfl
              have d13 := hd ⟨13, .data⟩ (by simp) rfl _ _ _ rfl rfl rfl
              refine ⟨fun _ => ?_, fun h => by cases h⟩
              clear h0 hg hd
              refine Gives.value (w' := w1) ?_ ⟨Chg.refl _ _, rfl⟩
              go_simp
          · intro vs w3 hw hr
            have h14 := hr 14 _ rfl
            clear hr
            dsimp only [putsL, restL]
            simp only [Act.put, List.setIfInBounds_toArray, List.set_cons_zero, List.set_cons_succ]
            simp only [Nat.zero_add, Nat.reduceAdd]
            rw [h14]
            have hca3 := HCA.out.chg hw (fun h => h)
            obtain ⟨w4, hup, hm4, hc4⟩ := store113 hca3 (by omega) HIA.out (.bool true)
            have HUP := Lib.hid hup
            have q30 := cell_of_row w3 g5 0 _ _ _ (hw.heap HBX.out (fun h => h))
            have HREL : Hid (CacheAt w4 mb (m + 1) (seenC cs (k + 1)) ∧ Chg (fun i => w.heap.size ≤ i) w w4) := Lib.hid ⟨by rw [← HSS.out]; exact hm4, (HC2.out.then hw (fun _ h => h.elim)).then hc4 (fun i hi => .inl (by rw [hi]; exact HMB.out))⟩
            clear hw h14 hca3 hup hm4 hc4
            go_wp2_with (refine wpList_mapU rfl _ _ _ 113 rfl rfl rfl rfl HUP.out ?_)
            exact ⟨⟨k + 1, m + 1, by omega, by go_num, by rw [HCE.out], HREL.out.1, by omega, fun j hj => by
              by_cases e : j = k
              · rw [e]; exact HKO.out
              · exact HPRE.out j (by omega), HREL.out.2⟩, by simp [intOf]; omega⟩

        · have hlen' : ((nd : Int) != (z : Int)) = false := by rw [bne_eq_false_iff_eq]; omega
          by_cases hse : a ∈ atsOf (cs.take k)
          · have HSEE : Hid (seenC cs k a = some (.bool true)) := Lib.hid (by unfold seenC; rw [if_pos hse])
            have HCE : Hid (chkE z cs (k + 1) = 10) := Lib.hid (by rw [HCES.out, if_pos (.inr hse)])
            clear hlen hse
            go_wp2_with fail
            refine MT.region_mono Up [fun v _ => v = .pointer (some ⟨g5, 1, none⟩),
                fun v _ => v = .slice A1 nd c1,
                fun v _ => v = .int .i64 (nd : Int),
                fun v _ => v = .pointer (some ⟨q, 0, none⟩),
                fun v _ => v = .pointer (some ⟨q, 0, none⟩),
                fun v _ => v = .pointer (some ⟨q, 0, none⟩),
                fun v _ => v = .pointer (some ⟨p, 0, none⟩),
                fun v _ => v = .int .i64 (z : Int),
                fun v _ => v = .bool false,
                fun v _ => v = .bool false,
                fun v _ => v = .map (some mb),
                fun v _ => v = .pointer (some ⟨g5, 0, none⟩),
                fun v _ => v = .int .i64 a,
                fun v _ => v = .bool true,
                fun v _ => v = .bool true] (by kernel_rfl) (by kernel_rfl) (Chg.refl _) (fun _ _ _ => Chg.trans) (by simp) ?_ ?_ ?_
            · simp only [List.forall_mem_cons]
              exact ⟨fun _ _ _ _ _ h => h, fun _ _ _ _ _ h => h, fun _ _ _ _ _ h => h, fun _ _ _ _ _ h => h, fun _ _ _ _ _ h => h, fun _ _ _ _ _ h => h, fun _ _ _ _ _ h => h, fun _ _ _ _ _ h => h, fun _ _ _ _ _ h => h, fun _ _ _ _ _ h => h, fun _ _ _ _ _ h => h, fun _ _ _ _ _ h => h, fun _ _ _ _ _ h => h, fun _ _ _ _ _ h => h, fun _ _ _ _ _ h => h, by simp⟩
            · refine ⟨?_, ?_, ?_, ?_, ?_, ?_, ?_, ?_, ?_, ?_, ?_, ?_, ?_, ?_, ?_, trivial⟩
              · intro ρ w1 hw h0 hc hg hf hd
                have s8 : ρ (.tmp 8) = .pointer (some ⟨g5, 0, none⟩) := h0 8 (by kernel_rfl)
                refine ⟨fun _ => ?_, fun h => by cases h⟩
                clear h0 hg hd
                clear hf hc
                refine Gives.value (w' := w1) ?_ ⟨Chg.refl _ _, rfl⟩
                go_simp
              · intro ρ w1 hw h0 hc hg hf hd
                have d0 := hd ⟨0, .data⟩ (by simp) rfl _ _ _ rfl rfl rfl
                refine ⟨fun _ => ?_, fun h => by cases h⟩
                clear h0 hg hd
                clear hc hf
                have c1 := hw.cell HB1.out (fun h => h)
                refine Gives.value (w' := w1) ?_ ⟨Chg.refl _ _, rfl⟩
                go_simp
              · intro ρ w1 hw h0 hc hg hf hd
                have d1 := hd ⟨1, .data⟩ (by simp) rfl _ _ _ rfl rfl rfl
                refine ⟨fun _ => ?_, fun h => by cases h⟩
                clear h0 hg hd
                clear hf hc
                refine Gives.value (w' := w1) ?_ ⟨Chg.refl _ _, rfl⟩
                go_simp
              · intro ρ w1 hw h0 hc hg hf hd
                have s0 : ρ (.tmp 0) = .pointer (some ⟨q, 0, none⟩) := h0 0 (by kernel_rfl)
                refine ⟨fun _ => ?_, fun h => by cases h⟩
                clear h0 hg hd
                exact gives_move rfl ⟨Chg.refl _ _, s0⟩
              · intro ρ w1 hw h0 hc hg hf hd
                have d3 := hd ⟨3, .data⟩ (by simp) rfl _ _ _ rfl rfl rfl
                refine ⟨fun _ => ?_, fun h => by cases h⟩
                clear h0 hg hd
                clear hf hc
                refine Gives.value (w' := w1) ?_ ⟨Chg.refl _ _, rfl⟩
                go_simp
              · intro ρ w1 hw h0 hc hg hf hd
                have d4 := hd ⟨4, .data⟩ (by simp) rfl _ _ _ rfl rfl rfl
                refine ⟨fun _ => ?_, fun h => by cases h⟩
                clear h0 hg hd
                clear hf hc
                refine Gives.value (w' := w1) ?_ ⟨Chg.refl _ _, rfl⟩
                go_simp
              · intro ρ w1 hw h0 hc hg hf hd
                have d5 := hd ⟨5, .data⟩ (by simp) rfl _ _ _ rfl rfl rfl
                refine ⟨fun _ => ?_, fun h => by cases h⟩
                clear h0 hg hd
                clear hc hf
                have c1 := hw.cell HQ0.out (fun h => h)
                refine Gives.value (w' := w1) ?_ ⟨Chg.refl _ _, rfl⟩
                go_simp
              · intro ρ w1 hw h0 hc hg hf hd
                have d6 := hd ⟨6, .data⟩ (by simp) rfl _ _ _ rfl rfl rfl
                refine ⟨fun _ => ?_, fun h => by cases h⟩
                clear h0 hg hd
                refine gives_call rfl hf Try.func58 rfl (by kernel_rfl) (args := #[.pointer (some ⟨p, 0, none⟩)]) (by simp [d6]) ((vsize w1 p b sv x kk (HD.out.up hw)).mono ?_)
                rintro e w2 ⟨rfl, rfl⟩
                exact ⟨_, rfl, Chg.refl _ _, by rw [HZZ.out]⟩
              · intro ρ w1 hw h0 hc hg hf hd
                have d2 := hd ⟨2, .data⟩ (by simp) rfl _ _ _ rfl rfl rfl
                have d7 := hd ⟨7, .data⟩ (by simp) rfl _ _ _ rfl rfl rfl
                refine ⟨fun _ => ?_, fun h => by cases h⟩
                clear h0 hg hd
                clear hf hc
                refine Gives.value (w' := w1) ?_ ⟨Chg.refl _ _, rfl⟩
                go_simp
              · intro ρ w1 hw h0 hc hg hf hd
                have d8 := hd ⟨8, .data⟩ (by simp) rfl _ _ _ rfl rfl rfl
                refine ⟨fun _ => ?_, fun h => by cases h⟩
                clear h0 hg hd
                exact gives_move rfl ⟨Chg.refl _ _, d8⟩
              · intro ρ w1 hw h0 hc hg hf hd
                have d9 := hd ⟨9, .guard⟩ (by simp) rfl _ _ _ rfl rfl rfl
                have s5 : ρ (.tmp 5) = .map (some mb) := h0 5 (by kernel_rfl)
                refine ⟨fun _ => ?_, fun h => by rw [wantedBy_true rfl rfl rfl d9] at h; cases h⟩
                clear d9
                clear h0 hg hd
                exact gives_move rfl ⟨Chg.refl _ _, s5⟩
              · intro ρ w1 hw h0 hc hg hf hd
                have d9 := hd ⟨9, .guard⟩ (by simp) rfl _ _ _ rfl rfl rfl
                have s8 : ρ (.tmp 8) = .pointer (some ⟨g5, 0, none⟩) := h0 8 (by kernel_rfl)
                refine ⟨fun _ => ?_, fun h => by rw [wantedBy_true rfl rfl rfl d9] at h; cases h⟩
                clear d9
                clear h0 hg hd
                clear hf hc
                refine Gives.value (w' := w1) ?_ ⟨Chg.refl _ _, rfl⟩
                go_simp
              · intro ρ w1 hw h0 hc hg hf hd
                have d11 := hd ⟨11, .data⟩ (by simp) rfl _ _ _ rfl rfl rfl
                have d9 := hd ⟨9, .guard⟩ (by simp) rfl _ _ _ rfl rfl rfl
                refine ⟨fun _ => ?_, fun h => by rw [wantedBy_true rfl rfl rfl d9] at h; cases h⟩
                clear d9
                clear h0 hg hd
                clear hc hf
                have c1 := hw.cell HB0.out (fun h => h)
                refine Gives.value (w' := w1) ?_ ⟨Chg.refl _ _, rfl⟩
                go_simp
              · intro ρ w1 hw h0 hc hg hf hd
                have d10 := hd ⟨10, .data⟩ (by simp) rfl _ _ _ rfl rfl rfl
                have d12 := hd ⟨12, .data⟩ (by simp) rfl _ _ _ rfl rfl rfl
                have d9 := hd ⟨9, .guard⟩ (by simp) rfl _ _ _ rfl rfl rfl
                refine ⟨fun _ => ?_, fun h => by rw [wantedBy_true rfl rfl rfl d9] at h; cases h⟩
                clear d9
                clear h0 hg hd
                clear hc hf
                have hlk := look113 (HCA.out.chg hw (fun h => h)) HIA.out
                rw [HSEE.out] at hlk
                simp only [Option.getD_some, Option.getD_none] at hlk
                refine Gives.value (w' := w1) ?_ ⟨Chg.refl _ _, rfl⟩
                go_simp
              · intro ρ w1 hw h0 hc hg hf hd
                have d9 := hd ⟨9, .data⟩ (by simp) rfl _ _ _ rfl rfl rfl
                have d13 := hd ⟨13, .data⟩ (by simp) rfl _ _ _ rfl rfl rfl
                refine ⟨fun _ => ?_, fun h => by cases h⟩
                clear h0 hg hd
                refine Gives.value (w' := w1) ?_ ⟨Chg.refl _ _, rfl⟩
                go_simp
            · intro vs w3 hw hr
              have h14 := hr 14 _ rfl
              clear hr
              dsimp only [putsL, restL]
              simp only [Act.put, List.setIfInBounds_toArray, List.set_cons_zero, List.set_cons_succ]
              simp only [Nat.zero_add, Nat.reduceAdd]
              rw [h14]
              have hca3 := HCA.out.chg hw (fun h => h)
              obtain ⟨w4, hup, hm4, hc4⟩ := store113 hca3 (by omega) HIA.out (.bool true)
              have HUP := Lib.hid hup
              have q30 := cell_of_row w3 g5 0 _ _ _ (hw.heap HBX.out (fun h => h))
              have HREL : Hid (CacheAt w4 mb (m + 1) (seenC cs (k + 1)) ∧ Chg (fun i => w.heap.size ≤ i) w w4) := Lib.hid ⟨by rw [← HSS.out]; exact hm4, (HC2.out.then hw (fun _ h => h.elim)).then hc4 (fun i hi => .inl (by rw [hi]; exact HMB.out))⟩
              clear hw h14 hca3 hup hm4 hc4
              go_wp2_with (refine wpList_mapU rfl _ _ _ 113 rfl rfl rfl rfl HUP.out ?_)
              exact ⟨⟨k + 1, m + 1, by omega, by go_num, by rw [HCE.out], HREL.out.1, by omega, fun j hj => by
                by_cases e : j = k
                · rw [e]; exact HKO.out
                · exact HPRE.out j (by omega), HREL.out.2⟩, by simp [intOf]; omega⟩

          · have HSEE : Hid (seenC cs k a = none) := Lib.hid (by unfold seenC; rw [if_neg hse])
            have HCE : Hid (chkE z cs (k + 1) = chkE z cs k) := Lib.hid (by rw [HCES.out, if_neg (by intro h; rcases h with h | h; exact hlen h; exact hse h)])
            clear hlen hse
            go_wp2_with fail
            refine MT.region_mono Up [fun v _ => v = .pointer (some ⟨g5, 1, none⟩),
                fun v _ => v = .slice A1 nd c1,
                fun v _ => v = .int .i64 (nd : Int),
                fun v _ => v = .pointer (some ⟨q, 0, none⟩),
                fun v _ => v = .pointer (some ⟨q, 0, none⟩),
                fun v _ => v = .pointer (some ⟨q, 0, none⟩),
                fun v _ => v = .pointer (some ⟨p, 0, none⟩),
                fun v _ => v = .int .i64 (z : Int),
                fun v _ => v = .bool false,
                fun v _ => v = .bool false,
                fun v _ => v = .map (some mb),
                fun v _ => v = .pointer (some ⟨g5, 0, none⟩),
                fun v _ => v = .int .i64 a,
                fun v _ => v = .bool false,
                fun v _ => v = .bool false] (by kernel_rfl) (by kernel_rfl) (Chg.refl _) (fun _ _ _ => Chg.trans) (by simp) ?_ ?_ ?_
            · simp only [List.forall_mem_cons]
              exact ⟨fun _ _ _ _ _ h => h, fun _ _ _ _ _ h => h, fun _ _ _ _ _ h => h, fun _ _ _ _ _ h => h, fun _ _ _ _ _ h => h, fun _ _ _ _ _ h => h, fun _ _ _ _ _ h => h, fun _ _ _ _ _ h => h, fun _ _ _ _ _ h => h, fun _ _ _ _ _ h => h, fun _ _ _ _ _ h => h, fun _ _ _ _ _ h => h, fun _ _ _ _ _ h => h, fun _ _ _ _ _ h => h, fun _ _ _ _ _ h => h, by simp⟩
            · refine ⟨?_, ?_, ?_, ?_, ?_, ?_, ?_, ?_, ?_, ?_, ?_, ?_, ?_, ?_, ?_, trivial⟩
              · intro ρ w1 hw h0 hc hg hf hd
                have s8 : ρ (.tmp 8) = .pointer (some ⟨g5, 0, none⟩) := h0 8 (by kernel_rfl)
                refine ⟨fun _ => ?_, fun h => by cases h⟩
                clear h0 hg hd
                clear hf hc
                refine Gives.value (w' := w1) ?_ ⟨Chg.refl _ _, rfl⟩
                go_simp
              · intro ρ w1 hw h0 hc hg hf hd
                have d0 := hd ⟨0, .data⟩ (by simp) rfl _ _ _ rfl rfl rfl
                refine ⟨fun _ => ?_, fun h => by cases h⟩
                clear h0 hg hd
                clear hc hf
                have c1 := hw.cell HB1.out (fun h => h)
                refine Gives.value (w' := w1) ?_ ⟨Chg.refl _ _, rfl⟩
                go_simp
              · intro ρ w1 hw h0 hc hg hf hd
                have d1 := hd ⟨1, .data⟩ (by simp) rfl _ _ _ rfl rfl rfl
                refine ⟨fun _ => ?_, fun h => by cases h⟩
                clear h0 hg hd
                clear hf hc
                refine Gives.value (w' := w1) ?_ ⟨Chg.refl _ _, rfl⟩
                go_simp
              · intro ρ w1 hw h0 hc hg hf hd
                have s0 : ρ (.tmp 0) = .pointer (some ⟨q, 0, none⟩) := h0 0 (by kernel_rfl)
                refine ⟨fun _ => ?_, fun h => by cases h⟩
                clear h0 hg hd
                exact gives_move rfl ⟨Chg.refl _ _, s0⟩
              · intro ρ w1 hw h0 hc hg hf hd
                have d3 := hd ⟨3, .data⟩ (by simp) rfl _ _ _ rfl rfl rfl
                refine ⟨fun _ => ?_, fun h => by cases h⟩
                clear h0 hg hd
                clear hf hc
                refine Gives.value (w' := w1) ?_ ⟨Chg.refl _ _, rfl⟩
                go_simp
              · intro ρ w1 hw h0 hc hg hf hd
                have d4 := hd ⟨4, .data⟩ (by simp) rfl _ _ _ rfl rfl rfl
                refine ⟨fun _ => ?_, fun h => by cases h⟩
                clear h0 hg hd
                clear hf hc
                refine Gives.value (w' := w1) ?_ ⟨Chg.refl _ _, rfl⟩
                go_simp
              · intro ρ w1 hw h0 hc hg hf hd
                have d5 := hd ⟨5, .data⟩ (by simp) rfl _ _ _ rfl rfl rfl
                refine ⟨fun _ => ?_, fun h => by cases h⟩
                clear h0 hg hd
                clear hc hf
                have c1 := hw.cell HQ0.out (fun h => h)
                refine Gives.value (w' := w1) ?_ ⟨Chg.refl _ _, rfl⟩
                go_simp
              · intro ρ w1 hw h0 hc hg hf hd
                have d6 := hd ⟨6, .data⟩ (by simp) rfl _ _ _ rfl rfl rfl
                refine ⟨fun _ => ?_, fun h => by cases h⟩
                clear h0 hg hd
                refine gives_call rfl hf Try.func58 rfl (by kernel_rfl) (args := #[.pointer (some ⟨p, 0, none⟩)]) (by simp [d6]) ((vsize w1 p b sv x kk (HD.out.up hw)).mono ?_)
                rintro e w2 ⟨rfl, rfl⟩
                exact ⟨_, rfl, Chg.refl _ _, by rw [HZZ.out]⟩
              · intro ρ w1 hw h0 hc hg hf hd
                have d2 := hd ⟨2, .data⟩ (by simp) rfl _ _ _ rfl rfl rfl
                have d7 := hd ⟨7, .data⟩ (by simp) rfl _ _ _ rfl rfl rfl
                refine ⟨fun _ => ?_, fun h => by cases h⟩
                clear h0 hg hd
                clear hf hc
                refine Gives.value (w' := w1) ?_ ⟨Chg.refl _ _, rfl⟩
                go_simp
              · intro ρ w1 hw h0 hc hg hf hd
                have d8 := hd ⟨8, .data⟩ (by simp) rfl _ _ _ rfl rfl rfl
                refine ⟨fun _ => ?_, fun h => by cases h⟩
                clear h0 hg hd
                exact gives_move rfl ⟨Chg.refl _ _, d8⟩
              · intro ρ w1 hw h0 hc hg hf hd
                have d9 := hd ⟨9, .guard⟩ (by simp) rfl _ _ _ rfl rfl rfl
                have s5 : ρ (.tmp 5) = .map (some mb) := h0 5 (by kernel_rfl)
                refine ⟨fun _ => ?_, fun h => by rw [wantedBy_true rfl rfl rfl d9] at h; cases h⟩
                clear d9
                clear h0 hg hd
                exact gives_move rfl ⟨Chg.refl _ _, s5⟩
              · intro ρ w1 hw h0 hc hg hf hd
                have d9 := hd ⟨9, .guard⟩ (by simp) rfl _ _ _ rfl rfl rfl
                have s8 : ρ (.tmp 8) = .pointer (some ⟨g5, 0, none⟩) := h0 8 (by kernel_rfl)
                refine ⟨fun _ => ?_, fun h => by rw [wantedBy_true rfl rfl rfl d9] at h; cases h⟩
                clear d9
                clear h0 hg hd
                clear hf hc
                refine Gives.value (w' := w1) ?_ ⟨Chg.refl _ _, rfl⟩
                go_simp
              · intro ρ w1 hw h0 hc hg hf hd
                have d11 := hd ⟨11, .data⟩ (by simp) rfl _ _ _ rfl rfl rfl
                have d9 := hd ⟨9, .guard⟩ (by simp) rfl _ _ _ rfl rfl rfl
                refine ⟨fun _ => ?_, fun h => by rw [wantedBy_true rfl rfl rfl d9] at h; cases h⟩
                clear d9
                clear h0 hg hd
                clear hc hf
                have c1 := hw.cell HB0.out (fun h => h)
                refine Gives.value (w' := w1) ?_ ⟨Chg.refl _ _, rfl⟩
                go_simp
              · intro ρ w1 hw h0 hc hg hf hd
                have d10 := hd ⟨10, .data⟩ (by simp) rfl _ _ _ rfl rfl rfl
                have d12 := hd ⟨12, .data⟩ (by simp) rfl _ _ _ rfl rfl rfl
                have d9 := hd ⟨9, .guard⟩ (by simp) rfl _ _ _ rfl rfl rfl
                refine ⟨fun _ => ?_, fun h => by rw [wantedBy_true rfl rfl rfl d9] at h; cases h⟩
                clear d9
                clear h0 hg hd
                clear hc hf
                have hlk := look113 (HCA.out.chg hw (fun h => h)) HIA.out
                rw [HSEE.out] at hlk
                simp only [Option.getD_some, Option.getD_none] at hlk
                refine Gives.value (w' := w1) ?_ ⟨Chg.refl _ _, rfl⟩
                go_simp
              · intro ρ w1 hw h0 hc hg hf hd
                have d9 := hd ⟨9, .data⟩ (by simp) rfl _ _ _ rfl rfl rfl
                have d13 := hd ⟨13, .data⟩ (by simp) rfl _ _ _ rfl rfl rfl
                refine ⟨fun _ => ?_, fun h => by cases h⟩
                clear h0 hg hd
                refine Gives.value (w' := w1) ?_ ⟨Chg.refl _ _, rfl⟩
                go_simp
            · intro vs w3 hw hr
              have h14 := hr 14 _ rfl
              clear hr
              dsimp only [putsL, restL]
              simp only [Act.put, List.setIfInBounds_toArray, List.set_cons_zero, List.set_cons_succ]
              simp only [Nat.zero_add, Nat.reduceAdd]
              rw [h14]
              have hca3 := HCA.out.chg hw (fun h => h)
              obtain ⟨w4, hup, hm4, hc4⟩ := store113 hca3 (by omega) HIA.out (.bool true)
              have HUP := Lib.hid hup
              have q30 := cell_of_row w3 g5 0 _ _ _ (hw.heap HBX.out (fun h => h))
              have HREL : Hid (CacheAt w4 mb (m + 1) (seenC cs (k + 1)) ∧ Chg (fun i => w.heap.size ≤ i) w w4) := Lib.hid ⟨by rw [← HSS.out]; exact hm4, (HC2.out.then hw (fun _ h => h.elim)).then hc4 (fun i hi => .inl (by rw [hi]; exact HMB.out))⟩
              clear hw h14 hca3 hup hm4 hc4
              go_wp2_with (refine wpList_mapU rfl _ _ _ 113 rfl rfl rfl rfl HUP.out ?_)
              exact ⟨⟨k + 1, m + 1, by omega, by go_num, by rw [HCE.out], HREL.out.1, by omega, fun j hj => by
                by_cases e : j = k
                · rw [e]; exact HKO.out
                · exact HPRE.out j (by omega), HREL.out.2⟩, by simp [intOf]; omega⟩

    · have hke : k = cs.length := by omega
      subst hke
      have hany : cs.any (outC home) = false := by
        rw [List.any_eq_false]
        intro c hc
        obtain ⟨j, hj, rfl⟩ := List.mem_iff_getElem.1 hc
        have := hpre j hj
        rw [List.getD_eq_getElem?_getD, List.getElem?_eq_getElem hj] at this
        simpa using this
      have hup := hch.below_none (fun i hi h => by omega) |> up_below
      have HRM := Lib.hid (room_any wr q p b sv x kk home dn (HWL.out.up hup) (HD0.out.up hup) HNB.out HZ4.out HZ16.out ⟨hh1, hh2⟩)
      have HCH := Lib.hid hch
      obtain ⟨room, hroom⟩ : ∃ r, roomI x.has.length x.size home = r := ⟨_, rfl⟩
      rw [hroom] at HRM
      obtain ⟨e0, he0⟩ : ∃ e0, chkE z cs cs.length = e0 := ⟨_, rfl⟩
      have HFIN : Hid (chkI x.size home (roomI x.has.length x.size home) cs = if e0 = 0 ∧ room < cs.length then 31 else e0) := Lib.hid (by
        unfold chkI
        rw [hany, hroom, HZZ.out, he0]
        rfl)
      rw [he0]
      clear hany hup hca hpre hch hroom he0
      by_cases h0 : e0 = 0
      · subst h0
        go_wp2_with fail
        refine HRM.out.mono ?_
        rintro e w5 ⟨rfl, hu5⟩
        have HC5 := Lib.hid (HCH.out.then hu5 (fun _ h => h.elim))
        clear hu5 HRM
        by_cases hr : room < cs.length
        · go_wp2_with fail
          go_ret
          exact ⟨by rw [HFIN.out, if_pos ⟨trivial, hr⟩]; rfl, HC5.out.below (Nat.le_refl _) (fun _ h => h)⟩
        · go_wp2_with fail
          go_ret
          exact ⟨by rw [HFIN.out, if_neg (fun h => by have := h.2; omega)]; rfl, HC5.out.below (Nat.le_refl _) (fun _ h => h)⟩
      · have h0' : (e0 == 0) = false := by rw [beq_eq_false_iff_ne]; exact h0
        go_wp2_with fail
        go_ret
        exact ⟨by rw [HFIN.out, if_neg (fun h => h0 h.1)]; rfl, HCH.out.below (Nat.le_refl _) (fun _ h => h)⟩
end Go.Proofs.Ytkndnlhlglgmfaa
namespace Go.Proofs.Ytkndnlhlglgmfaa
open Go.RowKit
set_option maxRecDepth 100000 in
set_option maxHeartbeats 4000000 in
theorem rhome_any (w : World) (n : Nat) (hn : 1 ≤ n ∧ n ≤ 65536) : Calls Try.prog 27 #[.int .i64 n] w (fun e w' => e = .returned (.int .i64 ((n : Int) / 2)) ∧ w' = w) := by
  obtain ⟨h1, h2⟩ := hn
  have hd : ((n : Int) - 1).tdiv 2 = ((n : Int) - 1) / 2 := Int.tdiv_eq_ediv_of_nonneg (by omega)
  have hm : ((n : Int) - 1).tmod 2 = ((n : Int) - 1) % 2 := Int.tmod_eq_emod_of_nonneg (by omega)
  have hw1 : IntKind.i64.wrap (((n : Int) - 1) / 2) = ((n : Int) - 1) / 2 := wrap_in (by omega) (by omega)
  have hw2 : IntKind.i64.wrap (((n : Int) - 1) % 2) = ((n : Int) - 1) % 2 := wrap_in (by omega) (by omega)
  have hw3 : IntKind.i64.wrap (((n : Int) - 1) / 2 + ((n : Int) - 1) % 2) = (n : Int) / 2 := by rw [wrap_in (by omega) (by omega)]; omega
  have HE : Hid (((n : Int) - 1) / 2 + ((n : Int) - 1) % 2 = (n : Int) / 2) := Lib.hid (by omega)
  go_enter Try.func27, Try.ntmps27
  go_wp2_with fail
  go_ret
  refine ⟨?_, rfl⟩
  rw [← HE.out]
  rfl
set_option maxRecDepth 100000 in
set_option maxHeartbeats 4000000 in
theorem rroom_any (w : World) (n size : Nat) (hn : 1 ≤ n ∧ n ≤ 65536) (hs : 16 ≤ size ∧ size ≤ 4096) : Calls Try.prog 30 #[.int .i64 n, .int .i64 size] w (fun e w' => e = .returned (.int .i64 (roomI n size ((n : Int) / 2))) ∧ w' = w) := by
  obtain ⟨h1, h2⟩ := hn
  obtain ⟨s1, s2⟩ := hs
  have HH := Lib.hid (rhome_any w n ⟨h1, h2⟩)
  obtain ⟨j, hj⟩ : ∃ j : Nat, (n : Int) - 1 - (n : Int) / 2 = j := ⟨((n : Int) - 1 - (n : Int) / 2).toNat, by omega⟩
  have hjb : j ≤ 65536 := by omega
  unfold roomI
  rw [hj]
  obtain ⟨R, hR⟩ : ∃ R : Nat, min (j : Int) (((size : Int) - 16) / 8) = R := ⟨(min (j : Int) (((size : Int) - 16) / 8)).toNat, by omega⟩
  rw [hR]
  have hR1 : R ≤ j ∧ 16 + 8 * R ≤ size := by omega
  have hR2 : ¬ (R < j ∧ 16 + 8 * (R + 1) ≤ size) := by omega
  have HJ := Lib.hid hj
  obtain ⟨hR3, hR4⟩ := hR1
  clear hj hR
  go_enter Try.func30, Try.ntmps30
  go_wp2_with fail
  refine HH.out.mono ?_
  rintro e w1 ⟨rfl, rfl⟩
  rename World => w
  go_wp2_with fail
  rw [HJ.out]
  go_loopw [6] (fun t wr => ∃ k : Nat, k ≤ R ∧ t = .int .i64 k ∧ wr = w) (fun t _ => R - (intOf t).toNat)
  case atStart => exact ⟨0, by omega, rfl, rfl⟩
  case round =>
    obtain ⟨k, hk, rfl, rfl⟩ := hrel
    rename World => w
    by_cases hk2 : (k : Int) < R
    · have hlt : (k : Int) < j := by omega
      have hle : 16 + 8 * ((k : Int) + 1) ≤ size := by omega
      clear HH
      go_wp2_with fail
      exact ⟨⟨k + 1, by omega, by go_num, trivial⟩, by simp [intOf]; omega⟩
    · obtain rfl : R = k := by omega
      clear HH
      by_cases hlt : (R : Int) < j
      · have hle : ¬ 16 + 8 * ((R : Int) + 1) ≤ size := by omega
        go_wp2_with fail
        go_ret
        exact ⟨rfl, rfl⟩
      · go_wp2_with fail
        go_ret
        exact ⟨rfl, rfl⟩
end Go.Proofs.Ytkndnlhlglgmfaa
namespace Go.Proofs.Ytkndnlhlglgmfaa
open Go.RowKit
set_option maxRecDepth 100000 in
set_option maxHeartbeats 4000000 in
theorem full64_any (w : World) (c : Int) : Calls Try.prog 45 #[.int .u8 c] w (fun e w' => ∃ v, e = .returned v ∧ w'.ownsRow w.heap.size 5 1 v 64 (u8s (List.replicate 64 c)) ∧ Below w.heap.size w w') := by
  obtain ⟨i5, hi, hz, hs, hb⟩ := info_parts (P := Try.prog) (e := 5) (z := .int .u8 0) (size := 1) (bytes := 1) (by kernel_rfl)
  go_enter Try.func45, Try.ntmps45
  go_wp2_with (refine wpList_make_full _ rfl (.const (.int .i64 64)) (.const (.int .i64 64)) 28 rfl w.heap.size 5 i5 _ 1 Try.underlying28 hi hz hs .i64 .i64 64 64 64 rfl rfl rfl rfl (by rw [hb]; omega) (by unfold maxLen; omega) (Nat.le_refl _) ?_; intro w1 hr1 hg1)
  obtain ⟨g, hg⟩ : ∃ g, g = w.heap.size := ⟨_, rfl⟩
  rw [← hg] at hr1 ⊢
  rw [show (madeCells (Value.int .u8 0).cells (64 * 1)).toList = List.replicate 64 (.int .u8 0) from toList_madeCells_one _ 64] at hr1
  have hu1 : Up w w1 := ((Chg.of_grownBy hg1).mono (fun i _ hi => by cases hi))
  have HR1 := Lib.hid hr1
  have HU1 := Lib.hid hu1
  have HG := Lib.hid hg
  clear hr1 hg1 hu1 hg hi hz hs hb
  go_loopw [8] (fun i wr => ∃ (k : Nat), k ≤ 64 ∧ i = .int .i64 k ∧ wr.ownsRow g 5 1 (.slice (some ⟨g, 0, none⟩) 64 64) 64 (List.replicate k (.int .u8 c) ++ List.replicate (64 - k) (.int .u8 0)) ∧ Chg (fun i => g ≤ i) w wr) (fun i _ => 64 - (intOf i).toNat)
  case atStart => exact ⟨0, by omega, rfl, HR1.out, HU1.out.mono (fun _ _ h => h.elim)⟩
  case round =>
    rename World => wr
    obtain ⟨k, hk, rfl, hrow, hch⟩ := hrel
    by_cases hk2 : k < 64
    · have hce := World.ownsRow.cells hrow rfl k _ (List.getElem?_eq_getElem (by simp; omega))
      rw [addr_add, Nat.zero_add] at hce
      have hfz : wr.frozen? ⟨g, k, none⟩ = false := World.ownsRow.frozenAt hrow k
      obtain ⟨hs1, hs2⟩ := World.ownsRow.stored hrow k (.int .u8 c)
      rw [set_rep _ _ _ _ hk2] at hs1
      have hlt : (k : Int) < 64 := by omega
      have HS1 := Lib.hid hs1
      have HCH := Lib.hid (hch.setCell ⟨g, k, none⟩ (.inl (Nat.le_refl _)) (.int .u8 c))
      clear hs1 hs2 hrow hch
      go_wp2_with fail
      exact ⟨⟨k + 1, by omega, by go_num, HS1.out, HCH.out⟩, by simp [intOf]; omega⟩
    · obtain rfl : k = 64 := by omega
      have HROW := Lib.hid hrow
      have HCH := Lib.hid hch
      clear hrow hch
      go_wp2_with fail
      go_ret
      refine ⟨_, rfl, ?_, HCH.out.below (by have := HG.out; omega) (fun i hi => by have := HG.out; omega)⟩
      rw [u8s_rep]
      have := HROW.out
      rw [← HG.out]
      simpa using this
end Go.Proofs.Ytkndnlhlglgmfaa
namespace Go.Proofs.Ytkndnlhlglgmfaa
open Go.RowKit
/-- Eight digits of a number, in the base of bytes, are the number. -/
theorem be8_digits (n : Int) (h0 : 0 ≤ n) (h1 : n < 9223372036854775808) : numU (be8 n 8) = n := by
  have e : be8 n 8 = [n / 2 ^ 56 % 256, n / 2 ^ 48 % 256, n / 2 ^ 40 % 256, n / 2 ^ 32 % 256, n / 2 ^ 24 % 256, n / 2 ^ 16 % 256, n / 2 ^ 8 % 256, n / 2 ^ 0 % 256] := by
    unfold be8
    simp only [List.range_succ, List.range_zero, List.nil_append, List.cons_append, List.map_cons, List.map_nil]
    rfl
  rw [e]
  unfold numU
  simp only [List.foldl_cons, List.foldl_nil]
  have p56 : (2 : Int) ^ 56 = 72057594037927936 := by decide
  have p48 : (2 : Int) ^ 48 = 281474976710656 := by decide
  have p40 : (2 : Int) ^ 40 = 1099511627776 := by decide
  have p32 : (2 : Int) ^ 32 = 4294967296 := by decide
  have p24 : (2 : Int) ^ 24 = 16777216 := by decide
  have p16 : (2 : Int) ^ 16 = 65536 := by decide
  have p8 : (2 : Int) ^ 8 = 256 := by decide
  have p0 : (2 : Int) ^ 0 = 1 := by decide
  rw [p56, p48, p40, p32, p24, p16, p8, p0]
  have s : ∀ m k : Int, 0 ≤ m → m < 9223372036854775808 → k = m / 256 → k * 256 % 18446744073709551616 + m % 256 = m := fun m k h0 h1 hk => by omega
  rw [s (n / 72057594037927936) 0 (by omega) (by omega) (by omega), s (n / 281474976710656) _ (by omega) (by omega) (by omega), s (n / 1099511627776) _ (by omega) (by omega) (by omega), s (n / 4294967296) _ (by omega) (by omega) (by omega), s (n / 16777216) _ (by omega) (by omega) (by omega), s (n / 65536) _ (by omega) (by omega) (by omega), s (n / 256) _ (by omega) (by omega) (by omega), s (n / 1) _ (by omega) (by omega) (by omega)]
  omega
/-- The first of what is read back. -/
theorem inI_be8 (n : Int) (h0 : 0 ≤ n) (h1 : n < 9223372036854775808) (rest : List Int) : inI (be8 n 8 ++ rest) false = (n, rest, false) := by
  have hl : (be8 n 8).length = 8 := be8_len n 8
  unfold inI
  rw [if_neg (by simp [hl]), List.take_append_of_le_length (by omega), List.take_of_length_le (by omega), List.drop_append_of_le_length (by omega), List.drop_of_length_le (by omega), be8_digits n h0 h1]
  unfold wrap64
  simp
  omega
theorem cntI_be8 (n : Int) (h1 : n < 9223372036854775808) (rest : List Int) (least most : Int) (hl : 0 ≤ least) (ha : least ≤ n) (hb : n ≤ most) : cntI (be8 n 8 ++ rest) false least most = (n, rest, false) := by
  unfold cntI
  rw [inI_be8 n (by omega) h1]
  rw [if_neg (by simp; omega)]
end Go.Proofs.Ytkndnlhlglgmfaa
namespace Go.Proofs.Ytkndnlhlglgmfaa
open Go.RowKit
def flat8 (l : List Int) : List Int := (l.map (fun a => be8 a 8)).flatten
theorem flat8_cons (a : Int) (l : List Int) : flat8 (a :: l) = be8 a 8 ++ flat8 l := by simp [flat8]
theorem flat8_len (l : List Int) : (flat8 l).length = 8 * l.length := by
  induction l with
  | nil => rfl
  | cons a l ih => rw [flat8_cons, List.length_append, be8_len, ih, List.length_cons]; omega
theorem parL_flat (home : Int) (hh : home ≤ 1000000) (l : List Int) (z : List Int) (hl : ∀ a ∈ l, 0 ≤ a ∧ a < home) : ∀ k, k ≤ l.length → parL home (flat8 l ++ z) false k = (l.take k, flat8 (l.drop k) ++ z, false)
  | 0, _ => by simp [parL]
  | k + 1, hk => by
    have ih := parL_flat home hh l z hl k (by omega)
    have hd : l.drop k = l[k] :: l.drop (k + 1) := (List.getElem_cons_drop (h := by omega)).symm
    have hb := hl l[k] (List.getElem_mem _)
    have hc : cntI (flat8 (l.drop k) ++ z) false 0 (home - 1) = (l[k], flat8 (l.drop (k + 1)) ++ z, false) := by
      rw [hd, flat8_cons, List.append_assoc]
      exact cntI_be8 _ (by omega) _ _ _ (by omega) hb.1 (by omega)
    unfold parL
    rw [ih]
    dsimp only
    rw [hc, List.take_add_one, List.getElem?_eq_getElem (by omega)]
    rfl
theorem headB_eq (l : List Int) : headB l = be8 1 8 ++ (be8 l.length 8 ++ flat8 l) := by unfold headB flat8; rw [List.append_assoc]
theorem headB_len (l : List Int) : (headB l).length = 16 + 8 * l.length := by rw [headB_eq, List.length_append, List.length_append, be8_len, be8_len, flat8_len]; omega
theorem headI_eq (l : List Int) (size : Nat) (h : 16 + 8 * l.length ≤ size) : headI l size = be8 1 8 ++ (be8 l.length 8 ++ (flat8 l ++ List.replicate (size - (headB l).length) 0)) := by
  unfold headI pad
  rw [List.take_of_length_le (by rw [headB_len]; exact h), headB_eq, List.append_assoc, List.append_assoc]
theorem head_not0 (l : List Int) (size : Nat) (h : 16 + 8 * l.length ≤ size) : cnt0 (headI l size) ≠ (headI l size).length := fun e => by
  have := cnt0_all.1 e
  have hm : (1 : Int) ∈ headI l size := by
    rw [headI_eq l size h]
    refine List.mem_append_left _ ?_
    simp [be8, List.range_succ]
  rw [this] at hm
  have := List.eq_of_mem_replicate hm
  omega
/-- What is written is read. -/
theorem parse_head (l : List Int) (size : Nat) (home room : Int) (h : 16 + 8 * l.length ≤ size) (hh : home ≤ 1000000) (hl : ∀ a ∈ l, 0 ≤ a ∧ a < home) (hr : (l.length : Int) ≤ room) (hsz : size ≤ 100000) : parseI (headI l size) home room size = (l, true) := by
  unfold parseI
  rw [if_neg (head_not0 l size h)]
  have e := headI_eq l size h
  obtain ⟨z, hz⟩ : ∃ z, List.replicate (size - (headB l).length) (0 : Int) = z := ⟨_, rfl⟩
  rw [hz] at e
  have q1 : cntI (headI l size) false 1 1 = (1, be8 l.length 8 ++ (flat8 l ++ z), false) := by rw [e]; exact cntI_be8 1 (by omega) _ 1 1 (by omega) (by omega) (by omega)
  have q2 : cntI (be8 l.length 8 ++ (flat8 l ++ z)) false 0 room = ((l.length : Int), flat8 l ++ z, false) := cntI_be8 _ (by omega) _ _ _ (by omega) (by omega) hr
  have q3 := parL_flat home hh l z hl l.length (Nat.le_refl _)
  dsimp only
  rw [q1]
  dsimp only
  rw [q2]
  dsimp only
  rw [Int.toNat_natCast, q3]
  dsimp only
  rw [List.take_length, eqS_refl]
  rfl
end Go.Proofs.Ytkndnlhlglgmfaa
