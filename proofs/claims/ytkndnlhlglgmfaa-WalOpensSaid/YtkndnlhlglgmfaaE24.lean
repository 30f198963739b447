/-
  Write, of bytes that are turned behind it: what the disk keeps is its own.
-/
import Derived.Test.YtkndnlhlglgmfaaE23
namespace Go.Proofs.Ytkndnlhlglgmfaa
open Go.RowKit
def DatM (base : Nat) (xs : List Int) (v : Value) (W : World) : Prop := ∃ A c, v = .slice A xs.length c ∧ W.ownsRow base 5 1 (.slice A xs.length c) xs.length (u8s xs)
theorem DatM.up {base : Nat} {xs : List Int} {v : Value} {W W' : World} (h : DatM base xs v W) (hu : Up W W') : DatM base xs v W' := by
  obtain ⟨A, c, e, h1⟩ := h
  exact ⟨A, c, e, own_chg h1 hu (fun _ _ h => h)⟩
theorem gives_cloneM {o : Oper} {ρ : Operand → Value} {w : World} {Φ : Value → World → Prop} {x : Operand} {d : Value} {xs : List Int} (base : Nat) (hbase : base ≤ w.heap.size) (ho : o.op = .call { callee := .value (.func 50), args := #[x], argTypes := #[28] }) (hf : ∀ f, ρ (.func f) = .func (.func f) #[] #[]) (hx : ρ x = d)
    (h : SlB w d xs) (hn : xs.length ≤ 1000000) (k : ∀ v w', Up w w' → DatM base xs v w' → Φ v w') : Gives Try.prog o ρ w Φ := by
  refine gives_call ho hf Try.func50 rfl (by kernel_rfl) (args := #[d]) (by simp [hx]) ((clone_any d xs w h (by unfold Room; omega)).mono ?_)
  rintro e w2 ⟨d', rfl, hown, hb, _⟩
  obtain ⟨A, c, rfl⟩ := own_shape hown
  exact ⟨_, rfl, k _ _ (up_below hb) ⟨A, c, rfl, own_base hown hbase⟩⟩
set_option maxRecDepth 100000 in
set_option maxHeartbeats 4000000 in
theorem write2_any (w : World) (p b m : Nat) (sv : Value) (ss : List Value) (C : Int → Option Value) (x : Dk) (h : DiskAt w p b m sv ss C x) (hl : -1 ≤ x.left ∧ x.left ≤ 9223372036854775807) (hdn : 0 ≤ x.done ∧ x.done ≤ 1000000) (hm : m ≤ 1000000) (hnb : x.has.length ≤ 65536) (i : Int) (d : Value) (xs : List Int) (hd : SlB w d xs) (hnx : xs.length ≤ 1000000) :
    Calls Try.prog 16 #[.pointer (some ⟨p, 0, none⟩), .int .i64 i, d] w (fun e w' => ∃ m' C', e = .returned (.int .i64 (writeI x i xs).2) ∧ DiskAt w' p b m' sv ss C' (writeI x i xs).1 ∧ m' ≤ m + 1 ∧ Chg (Own2 p b) w w' ∧ ∀ j v g, C' j = some v → v.ownBlock = some g → w.heap.size ≤ g ∨ C j = some v) := by
  obtain ⟨A, c, rfl, _, _⟩ := hd.shape
  have c5 := h.c5
  have HC2 : Hid (w.drew.cell? ⟨p, 2, none⟩ = some (.map (some b))) := Lib.hid h.c2
  have HCK := Lib.hid (check_any w p b m sv ss C x h i _ xs hd)
  have H := Lib.hid h
  have HD : Hid (SlB w.drew (.slice A xs.length c) xs) := Lib.hid hd
  have HL := Lib.hid hl
  have HDN := Lib.hid hdn
  clear h hd hl hdn
  unfold writeI
  by_cases h1 : x.down = true
  · rw [if_pos h1]
    rw [h1] at c5
    have h1' := h1
    clear h1
    go_enter Try.func16, Try.ntmps16
    go_wp2_with fail
    go_ret
    exact ⟨m, C, rfl, H.out, by omega, Chg.refl _ _, fun j v g hv _ => .inr hv⟩
  · have h1' : x.down = false := by simpa using h1
    rw [if_neg h1]
    rw [h1'] at c5
    clear h1
    by_cases h2 : checkI x i xs.length ≠ 0
    · rw [if_pos h2]
      obtain ⟨r, hr⟩ : ∃ r, checkI x i xs.length = r := ⟨_, rfl⟩
      rw [hr] at h2 HCK ⊢
      have h2' : (r != 0) = true := by rw [bne_iff_ne]; exact h2
      clear hr
      go_enter Try.func16, Try.ntmps16
      go_wp2_with fail
      refine HCK.out.mono ?_
      rintro e w1 ⟨rfl, rfl⟩
      go_wp2_with fail
      go_ret
      exact ⟨m, C, rfl, H.out, by omega, Chg.refl _ _, fun j v g hv _ => .inr hv⟩
    · have h2' : checkI x i xs.length = 0 := by omega
      rw [if_neg h2]
      rw [h2'] at HCK
      have hi : 0 ≤ i ∧ i < x.has.length := by
        unfold checkI at h2'
        split at h2'
        · omega
        · omega
      have HI := Lib.hid hi
      clear h2 h2' h1' hi
      go_enter Try.func16, Try.ntmps16
      go_wp2_with fail
      refine HCK.out.mono ?_
      rintro e w1 ⟨rfl, rfl⟩
      rename World => w
      go_wp2_with fail
      refine MT.region_mono Up [fun v _ => v = .pointer (some ⟨p, 0, none⟩),
          fun v _ => v = .pointer (some ⟨p, 0, none⟩),
          fun v _ => v = .pointer (some ⟨p, 2, none⟩),
          fun v _ => v = .map (some b),
          fun v _ => v = .int .i64 i,
          fun v _ => v = .slice A xs.length c,
          DatM w.heap.size xs] (by kernel_rfl) (by kernel_rfl) (Chg.refl _) (fun _ _ _ => Chg.trans) (by simp) ?_ ?_ ?_
      · simp only [List.forall_mem_cons]
        exact ⟨fun _ _ _ _ _ h => h, fun _ _ _ _ _ h => h, fun _ _ _ _ _ h => h, fun _ _ _ _ _ h => h, fun _ _ _ _ _ h => h, fun _ _ _ _ _ h => h, fun _ _ _ _ hu h => DatM.up h hu, by simp⟩
      · refine ⟨?_, ?_, ?_, ?_, ?_, ?_, ?_, trivial⟩
        · intro ρ w1 hw h0 hc hg hf hd
          have s0 : ρ (.tmp 0) = .pointer (some ⟨p, 0, none⟩) := h0 0 (by kernel_rfl)
          refine ⟨fun _ => ?_, fun h => by cases h⟩
          clear h0 hg hd
          exact gives_move rfl ⟨Chg.refl _ _, s0⟩
        · intro ρ w1 hw h0 hc hg hf hd
          have d0 := hd ⟨0, .data⟩ (by simp) rfl _ _ _ rfl rfl rfl
          refine ⟨fun _ => ?_, fun h => by cases h⟩
          clear h0 hg hd
          clear hf
          refine Gives.value (w' := w1) ?_ ⟨Chg.refl _ _, rfl⟩
          go_simp
        · intro ρ w1 hw h0 hc hg hf hd
          have d1 := hd ⟨1, .data⟩ (by simp) rfl _ _ _ rfl rfl rfl
          refine ⟨fun _ => ?_, fun h => by cases h⟩
          clear h0 hg hd
          clear hf
          refine Gives.value (w' := w1) ?_ ⟨Chg.refl _ _, rfl⟩
          go_simp
        · intro ρ w1 hw h0 hc hg hf hd
          have d2 := hd ⟨2, .data⟩ (by simp) rfl _ _ _ rfl rfl rfl
          refine ⟨fun _ => ?_, fun h => by cases h⟩
          clear h0 hg hd
          clear hc hf
          have c2 := hw.cell HC2.out (fun h => h)
          refine Gives.value (w' := w1) ?_ ⟨Chg.refl _ _, rfl⟩
          go_simp
        · intro ρ w1 hw h0 hc hg hf hd
          have s1 : ρ (.tmp 1) = .int .i64 i := h0 1 (by kernel_rfl)
          refine ⟨fun _ => ?_, fun h => by cases h⟩
          clear h0 hg hd
          exact gives_move rfl ⟨Chg.refl _ _, s1⟩
        · intro ρ w1 hw h0 hc hg hf hd
          have s2 : ρ (.tmp 2) = .slice A xs.length c := h0 2 (by kernel_rfl)
          refine ⟨fun _ => ?_, fun h => by cases h⟩
          clear h0 hg hd
          exact gives_move rfl ⟨Chg.refl _ _, s2⟩
        · intro ρ w1 hw h0 hc hg hf hd
          have d5 := hd ⟨5, .data⟩ (by simp) rfl _ _ _ rfl rfl rfl
          refine ⟨fun _ => ?_, fun h => by cases h⟩
          clear h0 hg hd
          exact gives_cloneM w.heap.size hw.size rfl hf d5 (Src.chg HD.out hw (fun _ _ _ h => h) (by decide)) hnx (fun v w2 hu hv => ⟨hu, hv⟩)
      · intro vs w2 hw hr
        have h3 := hr 3 _ rfl
        have h4 := hr 4 _ rfl
        have h6 := hr 6 _ rfl
        clear hr
        dsimp only [putsL, restL]
        simp only [Act.put, List.setIfInBounds_toArray, List.set_cons_zero, List.set_cons_succ]
        obtain ⟨A2, c2, e6, hdat0⟩ := h6
        have hdat : DatB w2 (.slice A2 xs.length c2) xs := own_base hdat0 (Nat.zero_le _)
        have HB0 : Hid (∀ g, (Value.slice A2 xs.length c2).ownBlock = some g → w.heap.size ≤ g) := Lib.hid (fun g hg => by
          rcases hdat0.2 with ⟨e, _⟩ | ⟨g', cap, cur, e, hg', _⟩
          · rw [e] at hg; simp [Value.ownBlock] at hg
          · rw [e] at hg; simp [Value.ownBlock] at hg; omega)
        simp only [Nat.zero_add, Nat.reduceAdd]
        rw [h3, h4, e6]
        have hu2 : Up w w2 := (Chg.refl (fun _ => False) w).drew.trans hw
        have h2 := H.out.up hu2
        obtain ⟨w3, hrun, hm3, hc3⟩ := cache_store h2.map hm (show I64 i by have := HI.out; unfold I64; omega) (.slice A2 xs.length c2)
        have h3' : DiskAt w3 p b (m + 1) sv ss (upd C i (some (.slice A2 xs.length c2))) { x with ca := updI x.ca i (some xs) } := h2.mapped hc3 hm3 (fun j v hv => by
            unfold upd at hv
            by_cases hj : j = i
            · rw [if_pos hj] at hv
              injection hv with hv
              subst hv hj
              exact ⟨HI.out.1, HI.out.2, xs, by unfold updI; rw [if_pos rfl], h2.kept hc3 hdat⟩
            · rw [if_neg hj] at hv
              obtain ⟨k1, k2, ys, k3, k4⟩ := h2.key j v hv
              exact ⟨k1, k2, ys, by unfold updI; rw [if_neg hj]; exact k3, h2.kept hc3 k4⟩) (fun j hv => by
            unfold upd at hv
            unfold updI
            by_cases hj : j = i
            · rw [if_pos hj] at hv; cases hv
            · rw [if_neg hj] at hv ⊢; exact h2.non j hv)
        have HCOM := Lib.hid (command_any w3 p b (m + 1) sv ss _ _ h3' HL.out HDN.out)
        have HRUN := Lib.hid hrun
        have HC3 := Lib.hid (show Chg (Own2 p b) w w3 from (hu2.mono (fun _ _ h => h.elim)).then hc3 (fun k hk => .inl (.inr hk)))
        clear hw h3 h4 e6 hdat hdat0 hu2 h2 hrun hm3 hc3 h3'
        go_wp2_with (refine wpList_mapU rfl _ _ _ 79 rfl rfl rfl rfl HRUN.out ?_)
        refine HCOM.out.mono ?_
        rintro e w4 ⟨rfl, h4, hc4⟩
        have H4 := Lib.hid h4
        have HC4 := Lib.hid hc4
        clear h4 hc4 HCOM
        go_wp2_with fail
        go_ret
        refine ⟨m + 1, _, rfl, H4.out, Nat.le_refl _, HC3.out.then HC4.out (fun k hk => .inl (.inl hk)), fun j v g hv hg => ?_⟩
        unfold upd at hv
        by_cases hj : j = i
        · rw [if_pos hj] at hv
          injection hv with hv
          subst hv
          exact .inl (HB0.out g hg)
        · rw [if_neg hj] at hv
          exact .inr hv
/-- The disk, none of whose bytes lie in block g. -/
def DskG (w : World) (p b : Nat) (sv : Value) (x : Dk) (k g : Nat) : Prop := ∃ m ss C, DiskAt w p b m sv ss C x ∧ m ≤ k ∧ (∀ (j : Nat) (v : Value), ss[j]? = some v → v.ownBlock ≠ some g) ∧ ∀ (i : Int) (v : Value), C i = some v → v.ownBlock ≠ some g
theorem DskV.toG {w : World} {p b : Nat} {sv : Value} {x : Dk} {k : Nat} (h : DskV w p b sv x k) (g : Nat) (hg : w.heap.size ≤ g) : DskG w p b sv x k g := by
  obtain ⟨m, ss, C, h1, h2⟩ := h
  refine ⟨m, ss, C, h1, h2, fun j v hj hv => ?_, fun i v hi hv => ?_⟩
  · have hl := (List.getElem?_eq_some_iff.1 hj).1
    have := h1.sec j (by rw [← h1.len]; exact hl)
    rw [List.getD_eq_getElem?_getD, hj] at this
    obtain ⟨cu, fu, hh⟩ := own_type this g hv
    have := (Array.getElem?_eq_some_iff.1 hh).1
    omega
  · obtain ⟨_, _, xs, _, hd⟩ := h1.key i v hi
    obtain ⟨cu, fu, hh⟩ := own_type hd g hv
    have := (Array.getElem?_eq_some_iff.1 hh).1
    omega
theorem DskG.toV {w : World} {p b : Nat} {sv : Value} {x : Dk} {k g : Nat} (h : DskG w p b sv x k g) : DskV w p b sv x k := by
  obtain ⟨m, ss, C, h1, h2, _⟩ := h
  exact ⟨m, ss, C, h1, h2⟩
theorem DskG.chg {S : Nat → Prop} {w w' : World} {p b : Nat} {sv : Value} {x : Dk} {k g : Nat} (h : DskG w p b sv x k g) (hc : Chg S w w') (hS : ∀ j, OwnD p b sv j → ¬ S j) (h5 : ∀ k cur fr, S k → w.heap[k]? ≠ some (.cells cur 5 fr)) : DskG w' p b sv x k g := by
  obtain ⟨m, ss, C, h1, h2, h3, h4⟩ := h
  exact ⟨m, ss, C, h1.chg hc (hS p (.inl rfl)) (hS b (.inr (.inl rfl))) (fun j hj => hS j (.inr (.inr hj))) h5, h2, h3, h4⟩
/-- Block g turns: the disk is as it was. -/
theorem DskG.turn {w w' : World} {p b : Nat} {sv : Value} {x : Dk} {k g : Nat} (h : DskG w p b sv x k g) (hc : Chg (fun j => j = g) w w') (hg : ¬ OwnD p b sv g) : DskG w' p b sv x k g := by
  obtain ⟨m, ss, C, h1, h2, h3, h4⟩ := h
  have hd : ∀ v xs, DatB w v xs → v.ownBlock ≠ some g → DatB w' v xs := fun v xs hd hv => own_chg hd hc (fun j hj e => hv (by rw [hj, e]))
  refine ⟨m, ss, C, ⟨hc.heap h1.obj (fun e => hg (by rw [← e]; exact .inl rfl)), own_chg h1.row hc (fun j hj e => hg (by rw [← e]; exact .inr (.inr hj))), h1.len, fun j hj => ?_, h1.map.chg hc (fun e => hg (by rw [← e]; exact .inr (.inl rfl))), fun i v hv => ?_, h1.non⟩, h2, h3, h4⟩
  · have hl : j < ss.length := by rw [h1.len]; exact hj
    refine hd _ _ (h1.sec j hj) ?_
    rw [List.getD_eq_getElem?_getD, List.getElem?_eq_getElem hl]
    exact h3 j _ (List.getElem?_eq_getElem hl)
  · obtain ⟨k1, k2, xs, k3, k4⟩ := h1.key i v hv
    exact ⟨k1, k2, xs, k3, hd v xs k4 (h4 i v hv)⟩
theorem gwrite (w : World) (p b : Nat) (sv : Value) (x : Dk) (k g : Nat) (h : DskG w p b sv x k g) (hg : g < w.heap.size) (hw : Wf x k) (hk : k ≤ 100000) (i : Int) (d : Value) (xs : List Int) (hd : SlB w d xs) (hx : xs.length ≤ 1000000) :
    Calls Try.prog 16 #[.pointer (some ⟨p, 0, none⟩), .int .i64 i, d] w (fun e w' => e = .returned (.int .i64 (writeI x i xs).2) ∧ DskG w' p b sv (writeI x i xs).1 (k + 1) g ∧ Chg (OwnD p b sv) w w') := by
  obtain ⟨m, ss, C, h1, h2, h3, h4⟩ := h
  refine (write2_any w p b m sv ss C x h1 hw.left (by have := hw.done; omega) (by omega) hw.num i d xs hd hx).mono ?_
  rintro e w' ⟨m', C', rfl, hd', hm', hc, hC⟩
  refine ⟨rfl, ⟨m', ss, C', hd', by omega, h3, fun j v hv e => ?_⟩, hc.mono (fun j _ hj => hj.elim .inl (fun h => .inr (.inl h)))⟩
  rcases hC j v g hv e with h | h
  · omega
  · exact h4 j v h e
/-- The two disks are apart: their blocks are of other types. -/
theorem own_apart {w : World} {p b q : Nat} {sv s1 s2 : Value} {x y : Dk} {k : Nat} (h : DskV w p b sv x k) (hx : RefX w q s1 s2 y) (j : Nat) (h1 : OwnD p b sv j) : ¬ OwnR q s1 s2 j := by
  obtain ⟨m, ss, C, hd, _⟩ := h
  obtain ⟨L, ar, hf, _⟩ := hx
  have ho : ∃ cu t fu, w.heap[j]? = some (.cells cu t fu) ∧ (t = 103 ∨ t = 9) ∨ ¬ OwnR q s1 s2 j := by
    by_cases hr : OwnR q s1 s2 j
    · rcases hr with rfl | hr | hr
      · exact ⟨_, _, _, .inl ⟨hf.obj, .inl rfl⟩⟩
      · obtain ⟨cu, fu, hh⟩ := own_type hf.r1 j hr
        exact ⟨_, _, _, .inl ⟨hh, .inr rfl⟩⟩
      · obtain ⟨cu, fu, hh⟩ := own_type hf.r2 j hr
        exact ⟨_, _, _, .inl ⟨hh, .inr rfl⟩⟩
    · exact ⟨#[], 0, (0, 0), .inr hr⟩
  obtain ⟨cu, t, fu, ⟨hh, ht⟩ | hr⟩ := ho
  · intro _
    rcases h1 with rfl | rfl | h1
    · rw [hd.obj] at hh
      injection hh with hh
      injection hh with _ h2
      rcases ht with rfl | rfl <;> cases h2
    · obtain ⟨es, cl, hb⟩ := hd.map.block
      rw [hb] at hh; cases hh
    · obtain ⟨cu2, fu2, hg⟩ := own_type hd.row j h1
      rw [hg] at hh
      injection hh with hh
      injection hh with _ h2
      rcases ht with rfl | rfl <;> cases h2
  · exact hr
theorem RefX.not5 {w : World} {q : Nat} {s1 s2 : Value} {y : Dk} (hx : RefX w q s1 s2 y) : ∀ j cur fr, OwnR q s1 s2 j → w.heap[j]? ≠ some (.cells cur 5 fr) := by
  obtain ⟨L, ar, hf, _⟩ := hx
  intro j cur fr hj hh
  rcases hj with rfl | hj | hj
  · rw [hf.obj] at hh; cases hh
  · obtain ⟨cu, fu, hg⟩ := own_type hf.r1 j hj
    rw [hg] at hh; cases hh
  · obtain ⟨cu, fu, hg⟩ := own_type hf.r2 j hj
    rw [hg] at hh; cases hh
/-- What the document's disk does leaves the disk, and the other way. -/
theorem DskV.keepR {w w' : World} {p b q : Nat} {sv s1 s2 : Value} {x y : Dk} {k : Nat} (h : DskV w p b sv x k) (hx : RefX w q s1 s2 y) (hc : Chg (OwnR q s1 s2) w w') : DskV w' p b sv x k := by
  have ha := own_apart h hx
  obtain ⟨m, ss, C, h1, h2⟩ := h
  exact ⟨m, ss, C, h1.chg hc (ha p (.inl rfl)) (ha b (.inr (.inl rfl))) (fun j hj => ha j (.inr (.inr hj))) hx.not5, h2⟩
theorem DskG.keepR {w w' : World} {p b q : Nat} {sv s1 s2 : Value} {x y : Dk} {k g : Nat} (h : DskG w p b sv x k g) (hx : RefX w q s1 s2 y) (hc : Chg (OwnR q s1 s2) w w') : DskG w' p b sv x k g :=
  h.chg hc (own_apart h.toV hx) hx.not5
theorem RefX.keepD {w w' : World} {p b q : Nat} {sv s1 s2 : Value} {x y : Dk} {k : Nat} (hx : RefX w q s1 s2 y) (h : DskV w p b sv x k) (hc : Chg (OwnD p b sv) w w') : RefX w' q s1 s2 y :=
  hx.chg hc (fun j hj hd => own_apart h hx j hd hj)
end Go.Proofs.Ytkndnlhlglgmfaa
