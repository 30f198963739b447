/-
  A wal that is opened while the power goes, again and again: walked.
-/
import Derived.Test.YtkndnlhlglgmfaaW29
namespace Go.Proofs.Ytkndnlhlglgmfaa
open Go.RowKit
theorem fm12 : Fm 12 64 (6 : Nat) := ⟨by omega, by omega, by omega, by omega, by decide⟩
def RestPost (w : World) (p b : Nat) (sv : Value) (x : Dk) (k : Nat) (e : Ending) (w' : World) : Prop :=
  ∃ q y, e = .returned (.tuple #[.pointer (some ⟨q, 0, none⟩), .int .i64 0]) ∧ WalAt w' q p 6 false ∧ DskV w' p b sv y (k + 700) ∧ Wf y (k + 700) ∧ y.down = false ∧ y.has.length = 12 ∧ homesN y 6 = wantL 12 64 6 x ∧ Chg (OwnD p b sv) w w'
theorem open_rest (w : World) (p b : Nat) (sv : Value) (x : Dk) (k : Nat) (hd : DskV w p b sv x k) (hR : Rest 12 64 6 x k) (hk : k ≤ 70000) : Calls Try.prog 26 #[.pointer (some ⟨p, 0, none⟩)] w (RestPost w p b sv x k) := by
  obtain ⟨o1, o2, _⟩ := reopen_ok fm12 hR.form hR.wf hR.live.2 hR.ca hR.hg
  have hf := open_form x (6 : Nat)
  have hw := open_wf fm12 hR.form hR.wf
  refine (open_any w p b sv x k hd hR.wf hk hR.live.2 (by rw [hR.form.1]; omega) (by rw [hR.form.2]; omega) hR.hby 6 (by rw [hR.form.1]; decide)).mono ?_
  obtain ⟨l1, l2⟩ := o1.live hR.live
  rintro e w' ⟨h | h, hd', hc⟩
  · obtain ⟨h0, q, rfl, hwl, _⟩ := h
    exact ⟨q, _, rfl, hwl, hd', hw, (o1.ok h0).1, hf.1.trans hR.form.1, o2 h0, hc⟩
  · exact absurd l1 h.1
def ArmPost (w : World) (p b : Nat) (sv : Value) (x : Dk) (k : Nat) (e : Ending) (w' : World) : Prop :=
  ∃ y, DskV w' p b sv y (k + 700) ∧ Wf y (k + 700) ∧ y.has.length = 12 ∧ Chg (OwnD p b sv) w w' ∧ (∀ zs, Rest 12 64 6 (crashI y zs) (k + 700) ∧ wantL 12 64 6 (crashI y zs) = wantL 12 64 6 x) ∧
    ((∃ q, e = .returned (.tuple #[.pointer (some ⟨q, 0, none⟩), .int .i64 0]) ∧ WalAt w' q p 6 false ∧ y.down = false ∧ homesN y 6 = wantL 12 64 6 x) ∨ e = .returned (.tuple #[.pointer none, .int .i64 30]))
theorem open_armed (w : World) (p b : Nat) (sv : Value) (x : Dk) (k : Nat) (a : Int) (ha : I64 a) (hd : DskV w p b sv { x with left := max a (-1) } k) (hR : Rest 12 64 6 x k) (hk : k ≤ 70000) : Calls Try.prog 26 #[.pointer (some ⟨p, 0, none⟩)] w (ArmPost w p b sv x k) := by
  have hall := fun zs => Rest.arm fm12 hR a ha zs
  obtain ⟨o1, o2, _, _, hw⟩ := hall []
  have hf := open_form { x with left := max a (-1) } (6 : Nat)
  refine (open_any w p b sv { x with left := max a (-1) } k hd (hR.wf.arm a ha) hk hR.live.2 (by show 3 ≤ x.has.length; rw [hR.form.1]; omega) (by show 32 ≤ x.size; rw [hR.form.2]; omega) hR.hby 6 (by show (x.has.length : Int) / 2 = 6; rw [hR.form.1]; decide)).mono ?_
  rintro e w' ⟨h, hd', hc⟩
  refine ⟨_, hd', hw, hf.1.trans hR.form.1, hc, fun zs => ⟨(hall zs).2.2.1, (hall zs).2.2.2.1⟩, ?_⟩
  rcases h with ⟨h0, q, rfl, hwl, _⟩ | ⟨h0, rfl⟩
  · exact .inl ⟨q, rfl, hwl, (o1.ok h0).1, o2 h0⟩
  · right
    have : (openI { x with left := max a (-1) } ((6 : Nat) : Int)).2 = 30 := by rcases o1.err with h | h; exact absurd h h0; exact h
    rw [show ((6 : Int)) = ((6 : Nat) : Int) from rfl, this]
set_option maxRecDepth 100000 in
set_option maxHeartbeats 4000000 in
theorem reopens_any (w : World) (v0 : Value) (os : List WOp) (ds : List (Value × Value)) (es : List (List Value)) (h : WOpsAt w v0 os ds es) (hok : ∀ j, j < os.length → WOpOk (os.getD j default)) (v1 : Value) (ar : List Int) (ha : SlI w v1 ar) (haI : ∀ j, I64 (ar.getD j 0)) (v2 : Value) (zs : List Int) (hz : SlI w v2 zs) (hzI : ∀ j, I64 (zs.getD j 0)) :
    Calls Try.prog 6 #[v0, v1, v2] w (TruePost w) := by
  have HAW : Hid (∀ w1, Calls Try.prog 25 #[] w1 (TruePost w1)) := Lib.hid (fun w1 => wawake_any w1)
  obtain ⟨A, c, rfl, hc1, hc2⟩ := h.shape
  obtain ⟨AA, cA, rfl, ha1, ha2⟩ := ha.shape
  obtain ⟨AZ, cZ, rfl, hz1, hz2⟩ := hz.shape
  obtain ⟨sm, hsme⟩ : ∃ sm, (smallW os && decide ((os.length : Int) ≤ 20)) = sm := ⟨_, rfl⟩
  have HSM : Hid (∀ w1, Chg (fun i => w.heap.size ≤ i) w w1 → Calls Try.prog 24 #[.slice A os.length c, .int .i64 20] w1 (fun e w' => e = .returned (.bool sm) ∧ Below w1.heap.size w1 w')) := Lib.hid (fun w1 hw1 => by rw [← hsme]; exact wsmall_any w1 (.slice A os.length c) os ds es (h.below hw1) 20)
  have HSME := Lib.hid hsme
  have HO := Lib.hid h
  have HOK := Lib.hid hok
  have HA := Lib.hid ha
  have HAI := Lib.hid haI
  have HZ := Lib.hid hz
  have HZI := Lib.hid hzI
  have HNEW := Lib.hid (vnew w 12 64 ⟨by omega, by omega, by omega, by omega⟩)
  clear h hok ha haI hz hzI hsme
  have hgd : gd 12 64 (6 : Nat) (List.replicate 64 0) := by unfold gd; rw [parse_zero]
  have HGZ := Lib.hid hgd
  clear hgd
  by_cases g1 : ar.length < 1 ∨ 8 < ar.length ∨ 40 < zs.length ∨ sm = false
  · go_enter Try.func6, Try.ntmps6
    go_wp2_with fail
    refine HNEW.out.mono ?_
    rintro e w1 hp
    obtain ⟨p, b, sv, rfl, _, _, hb1⟩ := hp
    have HSM1 := Lib.hid (HSM.out w1 ((up_below hb1).mono (fun _ _ h => h.elim)))
    have HB1 := Lib.hid hb1
    clear hb1 HNEW HSM
    go_wp2_with fail
    refine HSM1.out.mono ?_
    rintro e w2 ⟨rfl, hb2⟩
    have HBX : Below w.heap.size w w2 := HB1.out.trans (hb2.mono HB1.out.size)
    clear hb2 HSM1
    cases sm with
    | false =>
      go_wp2_with fail
      refine (HAW.out _).mono ?_
      rintro e w9 ⟨rfl, hb9⟩
      go_wp2_with fail
      go_ret
      exact ⟨rfl, HBX.trans (hb9.mono HBX.size)⟩

    | true =>
      by_cases g2 : (ar.length : Int) < 1
      · go_wp2_with fail
        refine (HAW.out _).mono ?_
        rintro e w9 ⟨rfl, hb9⟩
        go_wp2_with fail
        go_ret
        exact ⟨rfl, HBX.trans (hb9.mono HBX.size)⟩

      by_cases g3 : (8 : Int) < ar.length
      · go_wp2_with fail
        refine (HAW.out _).mono ?_
        rintro e w9 ⟨rfl, hb9⟩
        go_wp2_with fail
        go_ret
        exact ⟨rfl, HBX.trans (hb9.mono HBX.size)⟩

      have g4 : (40 : Int) < zs.length := by
        rcases g1 with g | g | g | g
        · omega
        · omega
        · omega
        · cases g
      go_wp2_with fail
      refine (HAW.out _).mono ?_
      rintro e w9 ⟨rfl, hb9⟩
      go_wp2_with fail
      go_ret
      exact ⟨rfl, HBX.trans (hb9.mono HBX.size)⟩

  have g2 : ¬ (ar.length : Int) < 1 := fun h => g1 (.inl (by omega))
  have g3 : ¬ (8 : Int) < ar.length := fun h => g1 (.inr (.inl (by omega)))
  have g4 : ¬ (40 : Int) < zs.length := fun h => g1 (.inr (.inr (.inl (by omega))))
  have g5 : sm = true := by
    cases sm
    · exact absurd (.inr (.inr (.inr rfl))) g1
    · rfl
  subst g5
  have hsmb : smallW os = true ∧ os.length ≤ 20 := by
    have := HSME.out
    rw [Bool.and_eq_true, decide_eq_true_eq] at this
    exact ⟨this.1, by omega⟩
  have HBD := Lib.hid (fun j hj => small_bd hsmb.1 j hj)
  have hos := hsmb.2
  clear g1 hsmb HSME
  go_enter Try.func6, Try.ntmps6
  go_wp2_with fail
  refine HNEW.out.mono ?_
  rintro e w1 hp
  obtain ⟨p, b, sv, rfl, hd, hown, hb1⟩ := hp
  have HSM1 := Lib.hid (HSM.out w1 ((up_below hb1).mono (fun _ _ h => h.elim)))
  have HB1 := Lib.hid hb1
  have HD1 := Lib.hid hd
  have HOWN := Lib.hid hown
  clear hb1 HNEW HSM hd hown
  go_wp2_with fail
  refine HSM1.out.mono ?_
  rintro e w2 ⟨rfl, hb2⟩
  have hop := open_any w2 p b sv (freshI 12 64) 0 (HD1.out.up (up_below hb2)) (Wf.fresh 12 64 (by omega) (by omega)) (by omega) rfl (by simp [freshI]) (by show 32 ≤ 64; omega) (by rw [fresh_now 12 64 0 (by omega) (by omega)]; exact bytes_zero 64) 6 (by simp [freshI])
  rw [show (6 : Int) = ((6 : Nat) : Int) from rfl, fresh_open fm12] at hop
  have HOP := Lib.hid hop
  have HC2 : Hid (Chg (fun i => w.heap.size ≤ i) w w2) := Lib.hid (((up_below HB1.out).mono (fun _ _ h => h.elim)).trans ((up_below hb2).mono (fun _ _ h => h.elim)))
  clear hb2 HSM1 hop HB1 HD1
  go_wp2_with fail
  refine HOP.out.mono ?_
  rintro e w3 ⟨h1, hd, hc⟩
  rcases h1 with ⟨_, q, rfl, hw, hq⟩ | ⟨h1, _⟩
  rotate_left
  · exact absurd rfl h1
  dsimp only at hd
  have HD0 : Hid (DskV w3 p b sv (freshI 12 64) (700 + 60 * 0)) := Lib.hid (hd.le (by omega))
  have HW0 : Hid (WalAt w3 q p 6 false) := Lib.hid hw
  have HQ : Hid (w.heap.size ≤ q) := Lib.hid (by have := HC2.out.size; omega)
  have HC0 : Hid (Chg (fun i => w.heap.size ≤ i) w w3) := Lib.hid (HC2.out.then hc (fun i hi => .inl (HOWN.out i hi)))
  have HWF0 : Hid (Wf (freshI 12 64) (700 + 60 * 0)) := Lib.hid ((Wf.fresh 12 64 (by omega) (by omega)).mono (by omega))
  have HG0 : Hid (HP (gd 12 64 (6 : Nat)) (freshI 12 64)) := Lib.hid ⟨HGZ.out, HGZ.out⟩
  have HB0 : Hid (HP Bytes (freshI 12 64)) := Lib.hid ⟨bytes_zero 64, bytes_zero 64⟩
  clear hd hw hq hc HOP HC2 HGZ
  go_wp2_with fail
  go_loopw [66] (fun t wr => ∃ (k : Nat) (x : Dk) (dn : Bool), k ≤ os.length ∧ t = .int .i64 k ∧ DskV wr p b sv x (700 + 60 * k) ∧ Wf x (700 + 60 * k) ∧ (x.has.length = 12 ∧ x.size = 64) ∧ HP (gd 12 64 (6 : Nat)) x ∧ HP Bytes x ∧ WalAt wr q p 6 dn ∧ Chg (fun i => w.heap.size ≤ i) w wr) (fun t _ => os.length - (intOf t).toNat)
  case atStart => exact ⟨0, freshI 12 64, false, by omega, rfl, HD0.out, HWF0.out, fresh_form 12 64, HG0.out, HB0.out, HW0.out, HC0.out⟩
  case round =>
    rename World => wr
    clear HD0 HWF0 HG0 HB0 HW0 HC0
    obtain ⟨k, x, dn, hk, rfl, hd, hwf, hform, hg, hby, hw, hch⟩ := hrel
    by_cases hk2 : (k : Int) < os.length
    · have ho := HO.out.below hch
      obtain ⟨bb, off, cc, he, _, _, hcells⟩ := ho.cells (by omega)
      injection he with e1 e2 e3
      subst e1 e3
      clear e2
      obtain ⟨r0, r1, r2, r3⟩ := hcells k (by omega)
      have hcc0 := HO.out.chs k (by omega)
      have hll := ho.lost k (by omega)
      have hbd := HBD.out k (by omega)
      have hokk := (HOK.out k (by omega)).2.2.1
      obtain ⟨⟨d1, d2⟩, hde⟩ : ∃ d, ds.getD k uu = d := ⟨_, rfl⟩
      obtain ⟨o, hoe⟩ : ∃ o, os.getD k default = o := ⟨_, rfl⟩
      obtain ⟨ec, hece⟩ : ∃ o, es.getD k [] = o := ⟨_, rfl⟩
      rw [hde] at r2 r3 hll hcc0
      rw [hoe] at r0 r1 hll hbd hcc0 hokk
      rw [hece] at hcc0
      dsimp only at r2 r3 hll hcc0
      obtain ⟨A1, c1, rfl, x1, x2⟩ := hcc0.ch.shape
      obtain ⟨A2, c2, rfl, y1, y2⟩ := hll.shape
      obtain ⟨W5, hW5⟩ : ∃ W5, W5 = wr.alloc (.cells #[.int .i64 o.kind, .int .i64 o.num, .slice A1 o.chs.length c1, .slice A2 o.lost.length c2] 54) := ⟨_, rfl⟩
      have hu5 : Up wr W5 := by rw [hW5]; exact (Chg.refl _ wr).alloc _
      have hlast : W5.heap[wr.heap.size]? = some (.cells #[.int .i64 o.kind, .int .i64 o.num, .slice A1 o.chs.length c1, .slice A2 o.lost.length c2] 54 (0, 0)) := by rw [hW5]; exact heap_alloc_last wr _
      obtain ⟨g5, hg5⟩ : ∃ g5, g5 = wr.heap.size := ⟨_, rfl⟩
      rw [← hg5] at hlast
      have hwl := hw.lt
      have HD := Lib.hid (hd.up hu5)
      have HWF := Lib.hid hwf
      have HFO := Lib.hid hform
      have HG := Lib.hid hg
      have HBY := Lib.hid hby
      have HW := Lib.hid (hw.up hu5)
      have HCH := Lib.hid (hch.trans (hu5.mono (fun _ _ h => h.elim)))
      have HCC0 := Lib.hid hcc0
      have HOKK := Lib.hid hokk
      have HL5 := Lib.hid hlast
      have HQN : Hid (g5 ≠ q) := Lib.hid (by omega)
      have HG5 : Hid (¬ OwnD p b sv g5) := Lib.hid (fun h => by have := hd.lt g5 h; omega)
      have HAPQ : Hid (¬ OwnD p b sv q) := Lib.hid (hw.apart hd)
      obtain ⟨hb1, _, hb3⟩ := hbd
      have HB3 := Lib.hid hb3
      clear ho hcells hll hokk hde hoe hece hd hwf hform hg hby hw hch hcc0 hu5 hwl hb3
      have hfa := (src_below HA.out (by decide) HCH.out : SlI W5 _ ar)
      obtain ⟨ba, offa, ca, hae, _, _, hra⟩ := Src.form hfa (by simp [i64s]; omega)
      injection hae with e1 e2 e3
      subst e1 e3
      clear e2
      have ra := hra 0 (.int .i64 (ar.getD 0 0)) (i64s_at (by omega))
      rw [Nat.add_zero] at ra
      have hai := HAI.out 0
      obtain ⟨a0, ha0⟩ : ∃ a0, ar.getD 0 0 = a0 := ⟨_, rfl⟩
      rw [ha0] at ra hai
      have HAI0 := Lib.hid hai
      clear hfa hra ha0 hai
      have q52 := cell_of_row W5 g5 2 _ _ _ HL5.out
      rw [hg5] at q52
      by_cases hlst : (k : Int) = (os.length : Int) - 1
      · have hlst' : ((k : Int) == (os.length : Int) - 1) = true := by rw [beq_iff_eq]; exact hlst
        have HARM := Lib.hid (varm W5 p b sv x (700 + 60 * k) HD.out a0)
        rw [hW5] at ra
        clear hlst q52
        go_wp2_with fail
        rw [← hW5]
        refine HARM.out.mono ?_
        rintro e w6 ⟨⟨u, rfl⟩, hd6, hc6⟩
        have HD6 := Lib.hid hd6
        have HW6 := Lib.hid (HW.out.chg hc6 HAPQ.out)
        have HC6 := Lib.hid (HCH.out.then hc6 (fun i hi => .inl (HOWN.out i hi)))
        have q62 := cell_of_row w6 g5 2 _ _ _ (hc6.heap HL5.out HG5.out)
        rw [hg5] at q62
        have HWF6 : Hid (Wf { x with left := max a0 (-1) } (700 + 60 * k)) := Lib.hid (HWF.out.arm a0 HAI0.out)
        clear hd6 hc6 HARM ra hW5
        go_wp2_with fail
        have hcm := commit_any w6 q p b sv { x with left := max a0 (-1) } (700 + 60 * k) 6 dn HW6.out HD6.out HWF6.out (by omega) (by have := HFO.out.2; show 16 ≤ x.size; omega) ⟨by omega, by omega⟩ (.slice A1 o.chs.length c1) o.chs ec
          (HCC0.out.ok HC6.out (by omega) (fun j hj => by have := HB3.out j hj; omega) HOWN.out) (fun j hj => (HOKK.out j hj).1) (HCC0.out.q q HQ.out)
        have HCM := Lib.hid hcm
        clear hcm
        refine HCM.out.mono ?_
        rintro e w7 ⟨rfl, hd7, hw7, hc7⟩
        have hg7 := Go.Proofs.Ytkndnlhlglgmfaa.HG.commit fm12 (x := { x with left := max a0 (-1) }) HFO.out HG.out dn o.chs
        have hby7 := HP.commit fm12 (x := { x with left := max a0 (-1) }) HFO.out HBY.out (fun l => headI_bytes l 64) dn o.chs
        have hwf7 := commit_wf HWF6.out 6 dn o.chs
        have hfo7 := commit_form { x with left := max a0 (-1) } 6 dn o.chs
        have HR7 := Lib.hid (show DskV w7 p b sv (commitI { x with left := max a0 (-1) } 6 dn o.chs).1 (700 + 60 * (k + 1)) ∧ Wf (commitI { x with left := max a0 (-1) } 6 dn o.chs).1 (700 + 60 * (k + 1)) ∧ ((commitI { x with left := max a0 (-1) } 6 dn o.chs).1.has.length = 12 ∧ (commitI { x with left := max a0 (-1) } 6 dn o.chs).1.size = 64) ∧ HP (gd 12 64 (6 : Nat)) (commitI { x with left := max a0 (-1) } 6 dn o.chs).1 ∧ HP Bytes (commitI { x with left := max a0 (-1) } 6 dn o.chs).1 ∧ WalAt w7 q p 6 (dn || (commitI { x with left := max a0 (-1) } 6 dn o.chs).2 == 30) ∧ Chg (fun i => w.heap.size ≤ i) w w7 from
          ⟨hd7.le (by omega), hwf7.mono (by omega), ⟨hfo7.1.trans HFO.out.1, hfo7.2.trans HFO.out.2⟩, hg7, hby7, hw7, HC6.out.then hc7 (fun i hi => .inl (hi.elim (HOWN.out i) (fun e => by rw [e]; exact HQ.out)))⟩)
        clear hd7 hw7 hc7 hg7 hby7 hwf7 hfo7 HCM
        obtain ⟨r, hr⟩ : ∃ r, commitI { x with left := max a0 (-1) } 6 dn o.chs = r := ⟨_, rfl⟩
        rw [hr] at HR7 ⊢
        clear hr
        obtain ⟨y, e⟩ := r
        dsimp only at HR7 ⊢
        go_wp2_with fail
        exact ⟨⟨k + 1, y, _, by omega, by go_num, HR7.out⟩, by simp [intOf]; omega⟩

      · have hlst' : ((k : Int) == (os.length : Int) - 1) = false := by rw [beq_eq_false_iff_ne]; exact hlst
        rw [hW5] at q52
        clear hlst ra
        go_wp2_with fail
        rw [← hW5]
        clear hW5 q52
        have hcm := commit_any W5 q p b sv x (700 + 60 * k) 6 dn HW.out HD.out HWF.out (by omega) (by have := HFO.out.2; show 16 ≤ x.size; omega) ⟨by omega, by omega⟩ (.slice A1 o.chs.length c1) o.chs ec
          (HCC0.out.ok HCH.out (by omega) (fun j hj => by have := HB3.out j hj; omega) HOWN.out) (fun j hj => (HOKK.out j hj).1) (HCC0.out.q q HQ.out)
        have HCM := Lib.hid hcm
        clear hcm
        refine HCM.out.mono ?_
        rintro e w7 ⟨rfl, hd7, hw7, hc7⟩
        have hg7 := Go.Proofs.Ytkndnlhlglgmfaa.HG.commit fm12 (x := x) HFO.out HG.out dn o.chs
        have hby7 := HP.commit fm12 (x := x) HFO.out HBY.out (fun l => headI_bytes l 64) dn o.chs
        have hwf7 := commit_wf HWF.out 6 dn o.chs
        have hfo7 := commit_form x 6 dn o.chs
        have HR7 := Lib.hid (show DskV w7 p b sv (commitI x 6 dn o.chs).1 (700 + 60 * (k + 1)) ∧ Wf (commitI x 6 dn o.chs).1 (700 + 60 * (k + 1)) ∧ ((commitI x 6 dn o.chs).1.has.length = 12 ∧ (commitI x 6 dn o.chs).1.size = 64) ∧ HP (gd 12 64 (6 : Nat)) (commitI x 6 dn o.chs).1 ∧ HP Bytes (commitI x 6 dn o.chs).1 ∧ WalAt w7 q p 6 (dn || (commitI x 6 dn o.chs).2 == 30) ∧ Chg (fun i => w.heap.size ≤ i) w w7 from
          ⟨hd7.le (by omega), hwf7.mono (by omega), ⟨hfo7.1.trans HFO.out.1, hfo7.2.trans HFO.out.2⟩, hg7, hby7, hw7, HCH.out.then hc7 (fun i hi => .inl (hi.elim (HOWN.out i) (fun e => by rw [e]; exact HQ.out)))⟩)
        clear hd7 hw7 hc7 hg7 hby7 hwf7 hfo7 HCM
        obtain ⟨r, hr⟩ : ∃ r, commitI x 6 dn o.chs = r := ⟨_, rfl⟩
        rw [hr] at HR7 ⊢
        clear hr
        obtain ⟨y, e⟩ := r
        dsimp only at HR7 ⊢
        go_wp2_with fail
        exact ⟨⟨k + 1, y, _, by omega, by go_num, HR7.out⟩, by simp [intOf]; omega⟩

    · obtain rfl : k = os.length := by omega
      have hcr := vcrash wr p b sv x (700 + 60 * os.length) hd hwf (.slice AZ zs.length cZ) zs (src_below HZ.out (by decide) hch) HZI.out (by omega) (fun g hg h0 ho => by
        have := src_lt HZ.out h0 (by decide) g hg
        have := HOWN.out g ho
        omega)
      have hrest : Rest 12 64 6 (crashI x zs) (2000) := ⟨⟨(crash_form x zs).1.trans hform.1, (crash_form x zs).2.trans hform.2⟩, (hwf.crash zs).mono (by omega), Live.crash x zs, rfl, (HP.crash hg zs (by omega)).2, HP.crash hby zs (by omega)⟩
      obtain ⟨x1, hx1⟩ : ∃ x1, crashI x zs = x1 := ⟨_, rfl⟩
      rw [hx1] at hcr hrest
      have HCR := Lib.hid hcr
      have HREST := Lib.hid hrest
      have HCH := Lib.hid hch
      clear hd hwf hform hg hby hw hch hcr hrest hx1
      go_wp2_with fail
      refine HCR.out.mono ?_
      rintro e w4 ⟨⟨u, rfl⟩, hd4, hc4⟩
      have hd4' : DskV w4 p b sv x1 2000 := hd4.le (by omega)
      have HCP := Lib.hid (vcopy w4 p b sv x1 2000 hd4' HREST.out.wf)
      have HD4 := Lib.hid hd4'
      have HC4 := Lib.hid (HCH.out.then hc4 (fun i hi => .inl (HOWN.out i hi)))
      clear hd4 hd4' hc4 HCR HCH
      go_wp2_with fail
      refine HCP.out.mono ?_
      rintro e w5 hp
      obtain ⟨p2, b2, sv2, rfl, hd5, hown5, hb5⟩ := hp
      have hu5 := up_below hb5
      have HOP := Lib.hid (open_rest w5 p2 b2 sv2 x1 2000 hd5 HREST.out (by omega))
      have HD5 := Lib.hid hd5
      have HOWN2 := Lib.hid hown5
      have HDA := Lib.hid (HD4.out.up hu5)
      have HC5 := Lib.hid (HC4.out.trans (hu5.mono (fun _ _ h => h.elim)))
      have hsz4 := HC4.out.size
      have HSEP : Hid (∀ j, OwnD p b sv j → ¬ OwnD p2 b2 sv2 j) := Lib.hid (fun j h1 h2 => by have := HD4.out.lt j h1; have := hown5 j h2; omega)
      clear hd5 hown5 hb5 hu5 HCP HD4
      go_wp2_with fail
      refine HOP.out.mono ?_
      rintro e w6 hp
      obtain ⟨q2, y, rfl, hw6, hd6, hwf6, hdn6, hn6, hho, hc6⟩ := hp
      have HHM := homes_any w6 q2 p2 b2 sv2 y (2000 + 700) 6 hw6 hd6 hwf6 hdn6 (by omega) (by omega)
      rw [hho] at HHM
      have HHM := Lib.hid HHM
      have HC6 := Lib.hid (HC5.out.then hc6 (fun i hi => .inl (by have := HOWN2.out i hi; omega)))
      have HD6 := Lib.hid (HDA.out.keep HD5.out HSEP.out hc6)
      have HRH := Lib.hid (rhome_any w6 12 ⟨by omega, by omega⟩)
      rw [show ((12 : Nat) : Int) / 2 = 6 by decide] at HRH
      obtain ⟨W0, hW0⟩ : ∃ W0, wantL 12 64 6 x1 = W0 := ⟨_, rfl⟩
      have hWl : W0.length = 6 := by rw [← hW0]; exact wantL_len 12 64 6 x1
      rw [hW0] at HHM
      have HW0 := Lib.hid hW0
      have HWL := Lib.hid hWl
      clear hw6 hd6 hwf6 hdn6 hn6 hho hc6 HOP HC5 HDA HD5 HSEP hW0 hWl
      go_wp2_with fail
      refine HRH.out.mono ?_
      rintro e w7 ⟨rfl, rfl⟩
      rename World => w6
      clear HRH
      go_wp2_with fail
      refine HHM.out.mono ?_
      rintro e w7 ⟨v7, rfl, hrow7, hb7⟩
      rw [HWL.out] at hrow7
      obtain ⟨A7, c7, rfl⟩ := own_shape hrow7
      have HROW := Lib.hid (own_base hrow7 (Nat.zero_le _))
      have HD7 := Lib.hid (HD6.out.up (up_below hb7))
      have HC7 := Lib.hid (HC6.out.trans ((up_below hb7).mono (fun _ _ h => h.elim)))
      obtain ⟨ba, offa, ca, hae, _, _, _⟩ := Src.form (show SlI w _ ar from HA.out) (by simp [i64s]; omega)
      injection hae with e1 e2 e3
      subst e1 e3
      clear e2
      obtain ⟨vt, hvt, hrun⟩ := nums_tail w ba offa ar.length cA ar HA.out (by omega)
      obtain ⟨AT, cT, rfl, _, _⟩ := hvt.shape
      obtain ⟨tl, htl⟩ : ∃ tl, ar.drop 1 = tl := ⟨_, rfl⟩
      have htI : ∀ j, I64 (tl.getD j 0) := fun j => by rw [← htl, getD_drop]; exact HAI.out _
      have htn : tl.length ≤ 8 := by rw [← htl]; simp; omega
      rw [htl] at hvt hrun
      have HVT := Lib.hid hvt
      have HTI := Lib.hid htI
      clear hrow7 hb7 hvt htI htl HHM HC6 HD6
      go_wp2_with fail
      go_loopw [112] (fun t wr => ∃ (k : Nat) (x : Dk), k ≤ tl.length ∧ t = .int .i64 k ∧ DskV wr p b sv x (2000 + 700 * k) ∧ Rest 12 64 6 x (2000 + 700 * k) ∧ wantL 12 64 6 x = W0 ∧ wr.ownsRow 0 9 1 (.slice A7 6 c7) 6 (strV W0) ∧ Chg (fun i => w.heap.size ≤ i) w wr) (fun t _ => tl.length - (intOf t).toNat)
      case atStart => exact ⟨0, x1, by omega, rfl, HD7.out, HREST.out, HW0.out, HROW.out, HC7.out⟩
      case round =>
        rename World => wr
        clear HD7 HREST HW0 HROW HC7
        obtain ⟨k, x, hk, rfl, hd, hre, hwa, hrow, hch⟩ := hrel
        by_cases hk2 : (k : Int) < tl.length
        · have hvt := (src_below HVT.out (by decide) hch : SlI wr _ tl)
          obtain ⟨bt, offt, ct, hte, _, _, hrt⟩ := Src.form hvt (by simp [i64s]; omega)
          injection hte with e1 e2 e3
          subst e1 e3
          clear e2
          have rt := hrt k (.int .i64 (tl.getD k 0)) (i64s_at (by omega))
          have hai := HTI.out k
          obtain ⟨a0, ha0⟩ : ∃ a0, tl.getD k 0 = a0 := ⟨_, rfl⟩
          rw [ha0] at rt hai
          have HAI0 := Lib.hid hai
          have HARM := Lib.hid (varm wr p b sv x (2000 + 700 * k) hd a0)
          have HDW := Lib.hid hd
          have HRE := Lib.hid hre
          have HWA := Lib.hid hwa
          have HRW := Lib.hid hrow
          have HCW := Lib.hid hch
          clear hvt hrt ha0 hai hd hre hwa hrow hch
          go_wp2_with fail
          refine HARM.out.mono ?_
          rintro e w5 ⟨⟨u, rfl⟩, hd5, hc5⟩
          have HOPN := Lib.hid (open_armed w5 p b sv x (2000 + 700 * k) a0 HAI0.out hd5 HRE.out (by omega))
          have HD5 := Lib.hid hd5
          have HR5 := Lib.hid (str_keepD HRW.out HDW.out hc5)
          have HC5 := Lib.hid (HCW.out.then hc5 (fun i hi => .inl (HOWN.out i hi)))
          clear hd5 hc5 HARM HDW HRW HCW
          go_wp2_with fail
          refine HOPN.out.mono ?_
          rintro e w6 hp
          obtain ⟨y, hd6, hwf6, hn6, hc6, hall6, hcase⟩ := hp
          have HD6 := Lib.hid hd6
          have HWFY := Lib.hid hwf6
          have HR6 := Lib.hid (str_keepD HR5.out HD5.out hc6)
          have HC6 := Lib.hid (HC5.out.then hc6 (fun i hi => .inl (HOWN.out i hi)))
          have HALL := Lib.hid hall6
          rcases hcase with ⟨q3, rfl, hw6, hdn6, hho⟩ | rfl
          · have HHM := homes_any w6 q3 p b sv y (2000 + 700 * k + 700) 6 hw6 hd6 hwf6 hdn6 (by omega) (by omega)
            rw [hho, HWA.out] at HHM
            have HHX := Lib.hid HHM
            clear HHM hd6 hwf6 hn6 hc6 hall6 hw6 hdn6 hho HOPN HD5 HR5 HC5
            go_wp2_with fail
            refine HHX.out.mono ?_
            rintro e w7 ⟨v9, rfl, hrow9, hb9⟩
            rw [HWL.out] at hrow9
            obtain ⟨A9, c9, rfl⟩ := own_shape hrow9
            have hu9 := up_below hb9
            have hrwx := own_chg HR6.out hu9 (fun _ _ h => h)
            have hsm := wsame_any w7 (.slice A9 6 c9) (.slice A7 6 c7) W0 W0 (slS_of hrow9 HWL.out.symm) (slS_of hrwx HWL.out.symm)
            rw [sameL_refl] at hsm
            have HSA := Lib.hid hsm
            have HU9 := Lib.hid hu9
            clear hrow9 hb9 hu9 hsm hrwx HHX
            go_wp2_with fail
            refine HSA.out.mono ?_
            rintro e w8 ⟨rfl, hu10⟩
            have HU10 := Lib.hid (HU9.out.trans hu10)
            clear hu10 HSA
            have HD8 := Lib.hid (HD6.out.up HU10.out)
            have HC8 := Lib.hid (HC6.out.trans (HU10.out.mono (fun _ _ h => h.elim)))
            have HR8 := Lib.hid (own_chg HR6.out HU10.out (fun _ _ h => h))
            go_wp2_with fail
            have hcrr := vcrash w8 p b sv y (2000 + 700 * k + 700) HD8.out HWFY.out (.slice AZ zs.length cZ) zs (src_below HZ.out (by decide) HC8.out) HZI.out (by omega) (fun g hg h0 ho => by
              have := src_lt HZ.out h0 (by decide) g hg
              have := HOWN.out g ho
              omega)
            have HCRR := Lib.hid hcrr
            clear hcrr
            go_wp2_with fail
            refine HCRR.out.mono ?_
            rintro e w9 ⟨⟨u9, rfl⟩, hd9, hc9⟩
            obtain ⟨hre9, hwa9⟩ := HALL.out zs
            have hrow9 := str_keepD HR8.out HD8.out hc9
            have HRL := Lib.hid (show DskV w9 p b sv (crashI y zs) (2000 + 700 * (k + 1)) ∧ Rest 12 64 6 (crashI y zs) (2000 + 700 * (k + 1)) ∧ wantL 12 64 6 (crashI y zs) = W0 ∧ w9.ownsRow 0 9 1 (.slice A7 6 c7) 6 (strV W0) ∧ Chg (fun i => w.heap.size ≤ i) w w9 from
              ⟨hd9.le (by omega), hre9, hwa9.trans HWA.out, hrow9, HC8.out.then hc9 (fun i hi => .inl (HOWN.out i hi))⟩)
            clear hd9 hc9 hre9 hwa9 hrow9 HCRR
            obtain ⟨z, hz9⟩ : ∃ z, crashI y zs = z := ⟨_, rfl⟩
            rw [hz9] at HRL
            clear hz9
            go_wp2_with fail
            exact ⟨⟨k + 1, z, by omega, by go_num, HRL.out⟩, by simp [intOf]; omega⟩
          · clear hd6 hwf6 hn6 hc6 hall6 HOPN HD5 HR5 HC5
            go_wp2_with fail
            have hcrr := vcrash w6 p b sv y (2000 + 700 * k + 700) HD6.out HWFY.out (.slice AZ zs.length cZ) zs (src_below HZ.out (by decide) HC6.out) HZI.out (by omega) (fun g hg h0 ho => by
              have := src_lt HZ.out h0 (by decide) g hg
              have := HOWN.out g ho
              omega)
            have HCRR := Lib.hid hcrr
            clear hcrr
            go_wp2_with fail
            refine HCRR.out.mono ?_
            rintro e w9 ⟨⟨u9, rfl⟩, hd9, hc9⟩
            obtain ⟨hre9, hwa9⟩ := HALL.out zs
            have hrow9 := str_keepD HR6.out HD6.out hc9
            have HRL := Lib.hid (show DskV w9 p b sv (crashI y zs) (2000 + 700 * (k + 1)) ∧ Rest 12 64 6 (crashI y zs) (2000 + 700 * (k + 1)) ∧ wantL 12 64 6 (crashI y zs) = W0 ∧ w9.ownsRow 0 9 1 (.slice A7 6 c7) 6 (strV W0) ∧ Chg (fun i => w.heap.size ≤ i) w w9 from
              ⟨hd9.le (by omega), hre9, hwa9.trans HWA.out, hrow9, HC6.out.then hc9 (fun i hi => .inl (HOWN.out i hi))⟩)
            clear hd9 hc9 hre9 hwa9 hrow9 HCRR
            obtain ⟨z, hz9⟩ : ∃ z, crashI y zs = z := ⟨_, rfl⟩
            rw [hz9] at HRL
            clear hz9
            go_wp2_with fail
            exact ⟨⟨k + 1, z, by omega, by go_num, HRL.out⟩, by simp [intOf]; omega⟩
        · obtain rfl : k = tl.length := by omega
          have HOPN := Lib.hid (open_rest wr p b sv x (2000 + 700 * tl.length) hd hre (by omega))
          have HDW := Lib.hid hd
          have HWA := Lib.hid hwa
          have HRW := Lib.hid hrow
          have HCW := Lib.hid hch
          clear hd hre hwa hrow hch
          go_wp2_with fail
          refine HOPN.out.mono ?_
          rintro e w6 hp
          obtain ⟨q3, y, rfl, hw6, hd6, hwf6, hdn6, hn6, hho, hc6⟩ := hp
          have HHM := homes_any w6 q3 p b sv y (2000 + 700 * tl.length + 700) 6 hw6 hd6 hwf6 hdn6 (by omega) (by omega)
          rw [hho, HWA.out] at HHM
          have HHX := Lib.hid HHM
          have HR6 := Lib.hid (str_keepD HRW.out HDW.out hc6)
          have HC6 := Lib.hid (HCW.out.then hc6 (fun i hi => .inl (HOWN.out i hi)))
          clear HHM hd6 hwf6 hn6 hc6 hw6 hdn6 hho HOPN HDW HRW HCW
          go_wp2_with fail
          refine HHX.out.mono ?_
          rintro e w7 ⟨v9, rfl, hrow9, hb9⟩
          rw [HWL.out] at hrow9
          obtain ⟨A9, c9, rfl⟩ := own_shape hrow9
          have hu9 := up_below hb9
          have hrwx := own_chg HR6.out hu9 (fun _ _ h => h)
          have hsm := wsame_any w7 (.slice A9 6 c9) (.slice A7 6 c7) W0 W0 (slS_of hrow9 HWL.out.symm) (slS_of hrwx HWL.out.symm)
          rw [sameL_refl] at hsm
          have HSA := Lib.hid hsm
          have HU9 := Lib.hid hu9
          clear hrow9 hb9 hu9 hsm hrwx HHX
          go_wp2_with fail
          refine HSA.out.mono ?_
          rintro e w8 ⟨rfl, hu10⟩
          have HU10 := Lib.hid (HU9.out.trans hu10)
          clear hu10 HSA
          have HC8 := Lib.hid (HC6.out.trans (HU10.out.mono (fun _ _ h => h.elim)))
          go_wp2_with fail
          refine (HAW.out _).mono ?_
          rintro e w9 ⟨rfl, hb9⟩
          go_wp2_with fail
          go_ret
          exact ⟨rfl, (HC8.out.below (Nat.le_refl _) (fun _ h => h)).trans (hb9.mono HC8.out.size)⟩
end Go.Proofs.Ytkndnlhlglgmfaa
