/-
  Tamper, Copy, walked; a disk by its blocks.
-/
import Derived.Test.YtkndnlhlglgmfaaE12
namespace Go.Proofs.Ytkndnlhlglgmfaa
open Go.RowKit
/-- What Tamper does. -/
def tamperI (x : Dk) (i : Int) (xs : List Int) : Dk × Int := if checkI x i xs.length ≠ 0 then (x, checkI x i xs.length) else ({ x with has := x.has.set i.toNat xs, ca := updI x.ca i none }, 0)
/-- A sector is another one. -/
theorem DiskAt.sector {w : World} {p b m : Nat} {g n c : Nat} {ss : List Value} {C : Int → Option Value} {x : Dk} (h : DiskAt w p b m (.slice (some ⟨g, 0, none⟩) n c) ss C x) (k : Nat) (d : Value) (xs : List Int) (hd : DatB w d xs) :
    DiskAt (w.setCell ⟨g, k, none⟩ d) p b m (.slice (some ⟨g, 0, none⟩) n c) (ss.set k d) C { x with has := x.has.set k xs } := by
  have hnl : n = ss.length := by
    rcases h.row.2 with ⟨h1, _⟩ | ⟨g', cap, cur, he, _⟩
    · cases h1
    · injection he
  subst hnl
  obtain ⟨cu, fu, hg⟩ := own_type h.row g rfl
  have hc : Chg (fun k => k = g) w (w.setCell ⟨g, k, none⟩ d) := (Chg.refl (fun k => k = g) w).setCell ⟨g, k, none⟩ (.inl rfl) _
  have h5 : ∀ k cur fr, k = g → w.heap[k]? ≠ some (.cells cur 5 fr) := fun k cur fr e hh => by subst e; rw [hg] at hh; cases hh
  have hpg : p ≠ g := fun e => by have := h.obj; rw [e, hg] at this; cases this
  have hbg : b ≠ g := fun e => by
    obtain ⟨es, cl, hb⟩ := h.map.block
    rw [e, hg] at hb; cases hb
  obtain ⟨hs1, _⟩ := World.ownsRow.stored h.row k d
  refine ⟨hc.heap h.obj hpg, by rw [List.length_set]; exact hs1, by rw [List.length_set, List.length_set]; exact h.len, fun j hj => ?_, h.map.chg hc hbg, fun i v hv => ?_, h.non⟩
  · have hj' : j < x.has.length := by simpa using hj
    have hl := h.len
    by_cases hjk : j = k
    · subst hjk
      rw [List.getD_eq_getElem?_getD, List.getElem?_set_self (by omega), List.getD_eq_getElem?_getD, List.getElem?_set_self (by omega)]
      exact own_chg' hd hc h5
    · have e1 : (ss.set k d).getD j undef = ss.getD j undef := by rw [List.getD_eq_getElem?_getD, List.getElem?_set_ne (fun e => hjk e.symm), ← List.getD_eq_getElem?_getD]
      have e2 : (x.has.set k xs).getD j [] = x.has.getD j [] := by rw [List.getD_eq_getElem?_getD, List.getElem?_set_ne (fun e => hjk e.symm), ← List.getD_eq_getElem?_getD]
      rw [e1]
      dsimp only
      rw [e2]
      exact own_chg' (h.sec j hj') hc h5
  · obtain ⟨k1, k2, ys, k3, k4⟩ := h.key i v hv
    exact ⟨k1, by simpa using k2, ys, k3, own_chg' k4 hc h5⟩
def TamPost (w : World) (p b m : Nat) (sv : Value) (y : Dk) (r : Int) (e : Ending) (w' : World) : Prop := ∃ m' ss' C', e = .returned (.int .i64 r) ∧ DiskAt w' p b m' sv ss' C' y ∧ m' ≤ m ∧ Chg (OwnD p b sv) w w'
set_option maxRecDepth 100000 in
set_option maxHeartbeats 4000000 in
theorem tamper_any (w : World) (p b m : Nat) (sv : Value) (ss : List Value) (C : Int → Option Value) (x : Dk) (h : DiskAt w p b m sv ss C x) (hnb : x.has.length ≤ 65536) (i : Int) (d : Value) (xs : List Int) (hd : SlB w d xs) (hnx : xs.length ≤ 1000000) :
    Calls Try.prog 23 #[.pointer (some ⟨p, 0, none⟩), .int .i64 i, d] w (TamPost w p b m sv (tamperI x i xs).1 (tamperI x i xs).2) := by
  obtain ⟨A1, c1v, rfl, _, _⟩ := hd.shape
  have HCK := Lib.hid (check_any w p b m sv ss C x h i _ xs hd)
  unfold tamperI
  by_cases h2 : checkI x i xs.length ≠ 0
  · rw [if_pos h2]
    have H := Lib.hid h
    clear h hd
    obtain ⟨r, hr⟩ : ∃ r, checkI x i xs.length = r := ⟨_, rfl⟩
    rw [hr] at h2 HCK ⊢
    have h2' : (r != 0) = true := by rw [bne_iff_ne]; exact h2
    clear hr
    go_enter Try.func23, Try.ntmps23
    go_wp2_with fail
    refine HCK.out.mono ?_
    rintro e w1 ⟨rfl, rfl⟩
    go_wp2_with fail
    go_ret
    exact ⟨m, ss, C, rfl, H.out, by omega, Chg.refl _ _⟩
  · have h2' : checkI x i xs.length = 0 := by omega
    rw [if_neg h2]
    rw [h2'] at HCK
    obtain ⟨hi1, hi2, hi3⟩ := checkI_ok h2'
    obtain ⟨k, rfl⟩ : ∃ k : Nat, i = k := ⟨i.toNat, by omega⟩
    rw [Int.toNat_natCast]
    have hl := h.len
    obtain ⟨A, cs, rfl⟩ := own_shape h.row
    obtain ⟨g, rfl⟩ : ∃ g, A = some ⟨g, 0, none⟩ := by
      rcases h.row.2 with ⟨_, hz⟩ | ⟨g, cap, cur, he, _⟩
      · omega
      · injection he with e1; exact ⟨g, e1⟩
    have hc1 := h.c1
    rw [hl] at h hc1 ⊢
    have HC1 : Hid (w.drew.cell? ⟨p, 1, none⟩ = some (.slice (some ⟨g, 0, none⟩) x.has.length cs)) := Lib.hid hc1
    have H := Lib.hid h
    have HD : Hid (SlB w.drew (.slice A1 xs.length c1v) xs) := Lib.hid hd
    have HL := Lib.hid hl
    clear h hd h2 h2' hi1 hi3 hc1 hl
    go_enter Try.func23, Try.ntmps23
    go_wp2_with fail
    refine HCK.out.mono ?_
    rintro e w1 ⟨rfl, rfl⟩
    rename World => w
    go_wp2_with fail
    refine MT.region_mono Up [fun v _ => v = .pointer (some ⟨p, 0, none⟩),
        fun v _ => v = .pointer (some ⟨p, 0, none⟩),
        fun v _ => v = .pointer (some ⟨p, 1, none⟩),
        fun v _ => v = .slice (some ⟨g, 0, none⟩) x.has.length cs,
        fun v _ => v = .int .i64 (k : Int),
        fun v _ => v = .slice A1 xs.length c1v,
        DatN xs] (by kernel_rfl) (by kernel_rfl) (Chg.refl _) (fun _ _ _ => Chg.trans) (by simp) ?_ ?_ ?_
    · simp only [List.forall_mem_cons]
      exact ⟨fun _ _ _ _ _ h => h, fun _ _ _ _ _ h => h, fun _ _ _ _ _ h => h, fun _ _ _ _ _ h => h, fun _ _ _ _ _ h => h, fun _ _ _ _ _ h => h, fun _ _ _ _ hu h => DatN.up h hu, by simp⟩
    · refine ⟨?_, ?_, ?_, ?_, ?_, ?_, ?_, trivial⟩
      · intro ρ w1 hw h0 hc hg hf hd
        have s0 : ρ (.tmp 0) = .pointer (some ⟨p, 0, none⟩) := h0 0 (by kernel_rfl)
        refine ⟨fun _ => ?_, fun h => by cases h⟩
        clear h0 hg hd
        exact gives_move rfl ⟨Chg.refl _ _, s0⟩
      · intro ρ w1 hw h0 hc hg hf hd
        have d0 := hd ⟨0, .data⟩ (by simp) rfl _ _ _ rfl rfl rfl
        refine ⟨fun _ => ?_, fun h => by cases h⟩
        clear h0 hg hd
        clear hf
        refine Gives.value (w' := w1) ?_ ⟨Chg.refl _ _, rfl⟩
        go_simp
      · intro ρ w1 hw h0 hc hg hf hd
        have d1 := hd ⟨1, .data⟩ (by simp) rfl _ _ _ rfl rfl rfl
        refine ⟨fun _ => ?_, fun h => by cases h⟩
        clear h0 hg hd
        clear hf
        refine Gives.value (w' := w1) ?_ ⟨Chg.refl _ _, rfl⟩
        go_simp
      · intro ρ w1 hw h0 hc hg hf hd
        have d2 := hd ⟨2, .data⟩ (by simp) rfl _ _ _ rfl rfl rfl
        refine ⟨fun _ => ?_, fun h => by cases h⟩
        clear h0 hg hd
        clear hc hf
        have c1 := hw.cell HC1.out (fun h => h)
        refine Gives.value (w' := w1) ?_ ⟨Chg.refl _ _, rfl⟩
        go_simp
      · intro ρ w1 hw h0 hc hg hf hd
        have s1 : ρ (.tmp 1) = .int .i64 (k : Int) := h0 1 (by kernel_rfl)
        refine ⟨fun _ => ?_, fun h => by cases h⟩
        clear h0 hg hd
        exact gives_move rfl ⟨Chg.refl _ _, s1⟩
      · intro ρ w1 hw h0 hc hg hf hd
        have s2 : ρ (.tmp 2) = .slice A1 xs.length c1v := h0 2 (by kernel_rfl)
        refine ⟨fun _ => ?_, fun h => by cases h⟩
        clear h0 hg hd
        exact gives_move rfl ⟨Chg.refl _ _, s2⟩
      · intro ρ w1 hw h0 hc hg hf hd
        have d5 := hd ⟨5, .data⟩ (by simp) rfl _ _ _ rfl rfl rfl
        refine ⟨fun _ => ?_, fun h => by cases h⟩
        clear h0 hg hd
        exact gives_clone rfl hf d5 (Src.chg HD.out hw (fun _ _ _ h => h) (by decide)) hnx (fun v w2 hu hv => ⟨hu, hv⟩)
    · intro vs w2 hw hr
      have h3 := hr 3 _ rfl
      have h4 := hr 4 _ rfl
      have h6 := hr 6 _ rfl
      clear hr
      dsimp only [putsL, restL]
      simp only [Act.put, List.setIfInBounds_toArray, List.set_cons_zero, List.set_cons_succ]
      obtain ⟨A2, c2, e6, hdat⟩ := h6
      simp only [Nat.zero_add, Nat.reduceAdd]
      rw [h3, h4, e6]
      have hu2 : Up w w2 := (Chg.refl (fun _ => False) w).drew.trans hw
      have h2 := H.out.up hu2
      have hkl : k < ss.length := by have := HL.out; omega
      have hce := World.ownsRow.cells h2.row rfl k _ (List.getElem?_eq_getElem hkl)
      rw [addr_add, Nat.zero_add] at hce
      have hrw := h2.row
      rw [HL.out] at hrw
      have hfz : w2.frozen? ⟨g, k, none⟩ = false := World.ownsRow.frozenAt hrw k
      have h3' := h2.sector k (.slice A2 xs.length c2) xs hdat
      have hcs : Chg (OwnD p b (.slice (some ⟨g, 0, none⟩) x.has.length cs)) w (w2.setCell ⟨g, k, none⟩ (.slice A2 xs.length c2)) := (hu2.mono (fun _ _ h => h.elim)).setCell ⟨g, k, none⟩ (.inl (.inr (.inr rfl))) _
      have q2 := h3'.c2
      obtain ⟨w4, hrun, hm4, hc4⟩ := cache_drop h3'.map (show I64 (k : Int) by unfold I64; omega) 0
      have h4' := h3'.dropped k hc4 hm4
      dsimp only at h4'
      have H4 := Lib.hid h4'
      have HC4 := Lib.hid (hcs.then hc4 (fun k hk => .inl (.inr (.inl hk))))
      clear hw h3 h4 e6 hdat hu2 h2 hm4 hc4 h3' h4' hcs hrw
      go_wp2_with fail
      go_ret
      exact ⟨m, _, _, rfl, H4.out, Nat.le_refl _, HC4.out⟩
end Go.Proofs.Ytkndnlhlglgmfaa
