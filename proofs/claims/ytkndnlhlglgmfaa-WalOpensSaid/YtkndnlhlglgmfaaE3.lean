/-
  Write, walked.
-/
import Derived.Test.YtkndnlhlglgmfaaE2
namespace Go.Proofs.Ytkndnlhlglgmfaa
open Go.RowKit
theorem wpList_mapU {P : Program} {ops : Array Oper} {rest : List Oper} {o : Oper} {a : Act} {w w' : World} {Q : Exit → Act → World → Prop} (hg : o.guard = none) (m x v : Operand) (t : TypeId) (hop : o.op = Op.mapUpdate t m x v) {M K V : Value} (hm : a.eval m = M) (hx : a.eval x = K) (hv : a.eval v = V)
    (hrun : (Instr.mapUpdate t M K V).run P w = .ok () w') (h : wpList P ops Q rest (a.put o.dst undef) w') : wpList P ops Q (o :: rest) a w := by
  refine wpList_plain hg fun K' hK' => ?_
  unfold Oper.wp
  simp [execOp, hop, hm, hx, hv, hrun, Result.andThen]
  exact hK' _ _ h
def DatN (xs : List Int) (v : Value) (W : World) : Prop := ∃ A c, v = .slice A xs.length c ∧ DatB W (.slice A xs.length c) xs
theorem DatN.up {xs : List Int} {v : Value} {W W' : World} (h : DatN xs v W) (hu : Up W W') : DatN xs v W' := by
  obtain ⟨A, c, e, h1⟩ := h
  exact ⟨A, c, e, own_chg h1 hu (fun _ _ h => h)⟩
theorem gives_clone {o : Oper} {ρ : Operand → Value} {w : World} {Φ : Value → World → Prop} {x : Operand} {d : Value} {xs : List Int} (ho : o.op = .call { callee := .value (.func 50), args := #[x], argTypes := #[28] }) (hf : ∀ f, ρ (.func f) = .func (.func f) #[] #[]) (hx : ρ x = d)
    (h : SlB w d xs) (hn : xs.length ≤ 1000000) (k : ∀ v w', Up w w' → DatN xs v w' → Φ v w') : Gives Try.prog o ρ w Φ := by
  refine gives_call ho hf Try.func50 rfl (by kernel_rfl) (args := #[d]) (by simp [hx]) ((clone_any d xs w h (by unfold Room; omega)).mono ?_)
  rintro e w2 ⟨d', rfl, hown, hb, _⟩
  obtain ⟨A, c, rfl⟩ := own_shape hown
  exact ⟨_, rfl, k _ _ (up_below hb) ⟨A, c, rfl, own_base hown (Nat.zero_le _)⟩⟩
def updI (ca : Int → Option (List Int)) (i : Int) (c : Option (List Int)) : Int → Option (List Int) := fun j => if j = i then c else ca j
/-- The map alone turns. -/
theorem DiskAt.mapped {w w' : World} {p b m m' : Nat} {sv : Value} {ss : List Value} {C C' : Int → Option Value} {x : Dk} {ca' : Int → Option (List Int)} (h : DiskAt w p b m sv ss C x) (hc : Chg (fun k => k = b) w w') (hm : CacheAt w' b m' C')
    (hk : ∀ i v, C' i = some v → 0 ≤ i ∧ i < x.has.length ∧ ∃ xs, ca' i = some xs ∧ DatB w' v xs) (hn : ∀ i, C' i = none → ca' i = none) : DiskAt w' p b m' sv ss C' { x with ca := ca' } := by
  obtain ⟨es, cl, hb⟩ := h.map.block
  have h5 : ∀ k cur (t : TypeId) fr, k = b → w.heap[k]? ≠ some (.cells cur t fr) := fun k cur t fr e hh => by subst e; rw [hb] at hh; cases hh
  exact ⟨hc.heap h.obj (fun e => h5 _ _ _ _ e h.obj), own_chg' h.row hc (fun k cur fr e => h5 k cur _ fr e), h.len, fun j hj => own_chg' (h.sec j hj) hc (fun k cur fr e => h5 k cur _ fr e), hm, hk, hn⟩
theorem DiskAt.kept {w w' : World} {p b m : Nat} {sv : Value} {ss : List Value} {C : Int → Option Value} {x : Dk} (h : DiskAt w p b m sv ss C x) (hc : Chg (fun k => k = b) w w') {v : Value} {xs : List Int} (hd : DatB w v xs) : DatB w' v xs := by
  obtain ⟨es, cl, hb⟩ := h.map.block
  exact own_chg' hd hc (fun k cur fr e hh => by subst e; rw [hb] at hh; cases hh)
/-- What Write does. -/
def writeI (x : Dk) (i : Int) (xs : List Int) : Dk × Int := if x.down = true then (x, 30) else if checkI x i xs.length ≠ 0 then (x, checkI x i xs.length) else commI { x with ca := updI x.ca i (some xs) }
def Own2 (p b : Nat) (k : Nat) : Prop := k = p ∨ k = b
set_option maxRecDepth 100000 in
set_option maxHeartbeats 4000000 in
theorem write_any (w : World) (p b m : Nat) (sv : Value) (ss : List Value) (C : Int → Option Value) (x : Dk) (h : DiskAt w p b m sv ss C x) (hl : -1 ≤ x.left ∧ x.left ≤ 9223372036854775807) (hdn : 0 ≤ x.done ∧ x.done ≤ 1000000) (hm : m ≤ 1000000) (hnb : x.has.length ≤ 65536) (i : Int) (d : Value) (xs : List Int) (hd : SlB w d xs) (hnx : xs.length ≤ 1000000) :
    Calls Try.prog 16 #[.pointer (some ⟨p, 0, none⟩), .int .i64 i, d] w (fun e w' => ∃ m' C', e = .returned (.int .i64 (writeI x i xs).2) ∧ DiskAt w' p b m' sv ss C' (writeI x i xs).1 ∧ m' ≤ m + 1 ∧ Chg (Own2 p b) w w') := by
  obtain ⟨A, c, rfl, _, _⟩ := hd.shape
  have c5 := h.c5
  have HC2 : Hid (w.drew.cell? ⟨p, 2, none⟩ = some (.map (some b))) := Lib.hid h.c2
  have HCK := Lib.hid (check_any w p b m sv ss C x h i _ xs hd)
  have H := Lib.hid h
  have HD : Hid (SlB w.drew (.slice A xs.length c) xs) := Lib.hid hd
  have HL := Lib.hid hl
  have HDN := Lib.hid hdn
  clear h hd hl hdn
  unfold writeI
  by_cases h1 : x.down = true
  · rw [if_pos h1]
    rw [h1] at c5
    have h1' := h1
    clear h1
    go_enter Try.func16, Try.ntmps16
    go_wp2_with fail
    go_ret
    exact ⟨m, C, rfl, H.out, by omega, Chg.refl _ _⟩
  · have h1' : x.down = false := by simpa using h1
    rw [if_neg h1]
    rw [h1'] at c5
    clear h1
    by_cases h2 : checkI x i xs.length ≠ 0
    · rw [if_pos h2]
      obtain ⟨r, hr⟩ : ∃ r, checkI x i xs.length = r := ⟨_, rfl⟩
      rw [hr] at h2 HCK ⊢
      have h2' : (r != 0) = true := by rw [bne_iff_ne]; exact h2
      clear hr
      go_enter Try.func16, Try.ntmps16
      go_wp2_with fail
      refine HCK.out.mono ?_
      rintro e w1 ⟨rfl, rfl⟩
      go_wp2_with fail
      go_ret
      exact ⟨m, C, rfl, H.out, by omega, Chg.refl _ _⟩
    · have h2' : checkI x i xs.length = 0 := by omega
      rw [if_neg h2]
      rw [h2'] at HCK
      have hi : 0 ≤ i ∧ i < x.has.length := by
        unfold checkI at h2'
        split at h2'
        · omega
        · omega
      have HI := Lib.hid hi
      clear h2 h2' h1' hi
      go_enter Try.func16, Try.ntmps16
      go_wp2_with fail
      refine HCK.out.mono ?_
      rintro e w1 ⟨rfl, rfl⟩
      rename World => w
      go_wp2_with fail
      refine MT.region_mono Up [fun v _ => v = .pointer (some ⟨p, 0, none⟩),
          fun v _ => v = .pointer (some ⟨p, 0, none⟩),
          fun v _ => v = .pointer (some ⟨p, 2, none⟩),
          fun v _ => v = .map (some b),
          fun v _ => v = .int .i64 i,
          fun v _ => v = .slice A xs.length c,
          DatN xs] (by kernel_rfl) (by kernel_rfl) (Chg.refl _) (fun _ _ _ => Chg.trans) (by simp) ?_ ?_ ?_
      · simp only [List.forall_mem_cons]
        exact ⟨fun _ _ _ _ _ h => h, fun _ _ _ _ _ h => h, fun _ _ _ _ _ h => h, fun _ _ _ _ _ h => h, fun _ _ _ _ _ h => h, fun _ _ _ _ _ h => h, fun _ _ _ _ hu h => DatN.up h hu, by simp⟩
      · refine ⟨?_, ?_, ?_, ?_, ?_, ?_, ?_, trivial⟩
        · intro ρ w1 hw h0 hc hg hf hd
          have s0 : ρ (.tmp 0) = .pointer (some ⟨p, 0, none⟩) := h0 0 (by kernel_rfl)
          refine ⟨fun _ => ?_, fun h => by cases h⟩
          clear h0 hg hd
          exact gives_move rfl ⟨Chg.refl _ _, s0⟩
        · intro ρ w1 hw h0 hc hg hf hd
          have d0 := hd ⟨0, .data⟩ (by simp) rfl _ _ _ rfl rfl rfl
          refine ⟨fun _ => ?_, fun h => by cases h⟩
          clear h0 hg hd
          clear hf
          refine Gives.value (w' := w1) ?_ ⟨Chg.refl _ _, rfl⟩
          go_simp
        · intro ρ w1 hw h0 hc hg hf hd
          have d1 := hd ⟨1, .data⟩ (by simp) rfl _ _ _ rfl rfl rfl
          refine ⟨fun _ => ?_, fun h => by cases h⟩
          clear h0 hg hd
          clear hf
          refine Gives.value (w' := w1) ?_ ⟨Chg.refl _ _, rfl⟩
          go_simp
        · intro ρ w1 hw h0 hc hg hf hd
          have d2 := hd ⟨2, .data⟩ (by simp) rfl _ _ _ rfl rfl rfl
          refine ⟨fun _ => ?_, fun h => by cases h⟩
          clear h0 hg hd
          clear hc hf
          have c2 := hw.cell HC2.out (fun h => h)
          refine Gives.value (w' := w1) ?_ ⟨Chg.refl _ _, rfl⟩
          go_simp
        · intro ρ w1 hw h0 hc hg hf hd
          have s1 : ρ (.tmp 1) = .int .i64 i := h0 1 (by kernel_rfl)
          refine ⟨fun _ => ?_, fun h => by cases h⟩
          clear h0 hg hd
          exact gives_move rfl ⟨Chg.refl _ _, s1⟩
        · intro ρ w1 hw h0 hc hg hf hd
          have s2 : ρ (.tmp 2) = .slice A xs.length c := h0 2 (by kernel_rfl)
          refine ⟨fun _ => ?_, fun h => by cases h⟩
          clear h0 hg hd
          exact gives_move rfl ⟨Chg.refl _ _, s2⟩
        · intro ρ w1 hw h0 hc hg hf hd
          have d5 := hd ⟨5, .data⟩ (by simp) rfl _ _ _ rfl rfl rfl
          refine ⟨fun _ => ?_, fun h => by cases h⟩
          clear h0 hg hd
          exact gives_clone rfl hf d5 (Src.chg HD.out hw (fun _ _ _ h => h) (by decide)) hnx (fun v w2 hu hv => ⟨hu, hv⟩)
      · intro vs w2 hw hr
        have h3 := hr 3 _ rfl
        have h4 := hr 4 _ rfl
        have h6 := hr 6 _ rfl
        clear hr
        dsimp only [putsL, restL]
        simp only [Act.put, List.setIfInBounds_toArray, List.set_cons_zero, List.set_cons_succ]
        obtain ⟨A2, c2, e6, hdat⟩ := h6
        simp only [Nat.zero_add, Nat.reduceAdd]
        rw [h3, h4, e6]
        have hu2 : Up w w2 := (Chg.refl (fun _ => False) w).drew.trans hw
        have h2 := H.out.up hu2
        obtain ⟨w3, hrun, hm3, hc3⟩ := cache_store h2.map hm (show I64 i by have := HI.out; unfold I64; omega) (.slice A2 xs.length c2)
        have h3' : DiskAt w3 p b (m + 1) sv ss (upd C i (some (.slice A2 xs.length c2))) { x with ca := updI x.ca i (some xs) } := h2.mapped hc3 hm3 (fun j v hv => by
            unfold upd at hv
            by_cases hj : j = i
            · rw [if_pos hj] at hv
              injection hv with hv
              subst hv hj
              exact ⟨HI.out.1, HI.out.2, xs, by unfold updI; rw [if_pos rfl], h2.kept hc3 hdat⟩
            · rw [if_neg hj] at hv
              obtain ⟨k1, k2, ys, k3, k4⟩ := h2.key j v hv
              exact ⟨k1, k2, ys, by unfold updI; rw [if_neg hj]; exact k3, h2.kept hc3 k4⟩) (fun j hv => by
            unfold upd at hv
            unfold updI
            by_cases hj : j = i
            · rw [if_pos hj] at hv; cases hv
            · rw [if_neg hj] at hv ⊢; exact h2.non j hv)
        have HCOM := Lib.hid (command_any w3 p b (m + 1) sv ss _ _ h3' HL.out HDN.out)
        have HRUN := Lib.hid hrun
        have HC3 := Lib.hid (show Chg (Own2 p b) w w3 from (hu2.mono (fun _ _ h => h.elim)).then hc3 (fun k hk => .inl (.inr hk)))
        clear hw h3 h4 e6 hdat hu2 h2 hrun hm3 hc3 h3'
        go_wp2_with (refine wpList_mapU rfl _ _ _ 79 rfl rfl rfl rfl HRUN.out ?_)
        refine HCOM.out.mono ?_
        rintro e w4 ⟨rfl, h4, hc4⟩
        have H4 := Lib.hid h4
        have HC4 := Lib.hid hc4
        clear h4 hc4 HCOM
        go_wp2_with fail
        go_ret
        exact ⟨m + 1, _, rfl, H4.out, Nat.le_refl _, HC3.out.then HC4.out (fun k hk => .inl (.inl hk))⟩
end Go.Proofs.Ytkndnlhlglgmfaa
