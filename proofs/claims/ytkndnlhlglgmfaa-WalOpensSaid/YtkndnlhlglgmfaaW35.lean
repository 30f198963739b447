/-
  A disk is opened just if its head is right: walked.
-/
import Derived.Test.YtkndnlhlglgmfaaW34
namespace Go.Proofs.Ytkndnlhlglgmfaa
open Go.RowKit
theorem fm9 : Fm 9 64 (4 : Nat) := ⟨by omega, by omega, by omega, by omega, by decide⟩
/-- The journal's data. -/
def datJ (js : List (List Int)) (i : Nat) : List Int := if i < js.length ∧ (js.getD i []).length = 64 then js.getD i [] else rep 64 0
theorem datJ_bytes {js : List (List Int)} (h : ∀ j, j < js.length → Bytes (js.getD j [])) (i : Nat) : Bytes (datJ js i) := by
  unfold datJ
  split
  · rename_i h1; exact h i h1.1
  · exact rep_bytes 64 0 (by omega)
theorem datJ_len (js : List (List Int)) (i : Nat) : (datJ js i).length = 64 := by
  unfold datJ
  split
  · rename_i h1; exact h1.2
  · exact rep_len 64 0
set_option maxRecDepth 100000 in
set_option maxHeartbeats 4000000 in
theorem vtamper_no (w : World) (p b : Nat) (sv : Value) (x : Dk) (k : Nat) (h : DskV w p b sv x k) (i : Int) (d : Value) (xs : List Int) (hd : SlB w d xs) (hc : checkI x i xs.length ≠ 0) :
    Calls Try.prog 23 #[.pointer (some ⟨p, 0, none⟩), .int .i64 i, d] w (fun e w' => e = .returned (.int .i64 (checkI x i xs.length)) ∧ w' = w) := by
  obtain ⟨m, ss, C, h1, _⟩ := h
  have HCK := Lib.hid (check_any w p b m sv ss C x h1 i d xs hd)
  obtain ⟨A1, c1, rfl, _, _⟩ := hd.shape
  clear h1 hd
  obtain ⟨r, hr⟩ : ∃ r, checkI x i xs.length = r := ⟨_, rfl⟩
  rw [hr] at hc HCK ⊢
  have h2' : (r != 0) = true := by rw [bne_iff_ne]; exact hc
  clear hr
  go_enter Try.func23, Try.ntmps23
  go_wp2_with fail
  refine HCK.out.mono ?_
  rintro e w1 ⟨rfl, rfl⟩
  go_wp2_with fail
  go_ret
  exact ⟨rfl, rfl⟩
/-- A disk stays where a row of strings is turned. -/
theorem DskV.row9 {w w' : World} {p b : Nat} {sv : Value} {x : Dk} {k : Nat} (h : DskV w p b sv x k) {base n g : Nat} {v : Value} {us : List Value} (hr : w.ownsRow base 9 1 v n us) (hg : v.ownBlock = some g) (hc : Chg (fun i => i = g) w w') : DskV w' p b sv x k := by
  obtain ⟨cu, fu, hh⟩ := own_type hr g hg
  have hn : ¬ OwnD p b sv g := fun ho => h.not9 g cu fu ho hh
  obtain ⟨m, ss, C, h1, h2⟩ := h
  exact ⟨m, ss, C, h1.chg hc (fun e => hn (.inl e.symm)) (fun e => hn (.inr (.inl e.symm))) (fun k hk e => hn (.inr (.inr (e ▸ hk)))) (fun k cur fr e h2 => by subst e; rw [hh] at h2; cases h2), h2⟩
theorem room94 : roomI 9 64 ((4 : Nat) : Int) = 4 := by decide
/-- Opened: what the law asks. -/
theorem opens_plain {x : Dk} {F : Nat → List Int} (h : TD x F) {js : List (List Int)} (h1 : ∀ i, i < 4 → F (1 + i) = rep 64 ((i : Int) + 1)) (h2 : ∀ i, i < 4 → F (5 + i) = datJ js i) (ok : (parseI (F 0) 4 4 64).2 = true) :
    (openI x (4 : Nat)).2 = 0 ∧ Live (openI x (4 : Nat)).1 ∧ (openI x (4 : Nat)).1.ca = (fun _ => none) ∧ (nowI (openI x (4 : Nat)).1 0 = headI [] 64 ∨ ((parseI (F 0) 4 4 64).1 = [] ∧ nowI (openI x (4 : Nat)).1 0 = F 0)) ∧
      ∀ i : Nat, i < 4 → nowI (openI x (4 : Nat)).1 (1 + (i : Int)) = recW (fun k => datJ js k) (fun i => rep 64 (i + 1)) (parseI (F 0) 4 4 64).1 (parseI (F 0) 4 4 64).1.length i := by
  have hn0 : nowI x 0 = F 0 := h.now 0 (by omega)
  have hg : gd 9 64 (4 : Nat) (nowI x 0) := by unfold gd; rw [room94, hn0]; exact ok
  have ho := open_law fm9 h.form (fun i a b => by rw [h.wf.sz i a (by rw [h.form.1]; exact b)]; exact h.form.2) h.live.2 h.ca hg
  obtain ⟨l1, l2⟩ := ho.live h.live
  obtain ⟨_, k2, k3, k4⟩ := ho.ok l1
  refine ⟨l1, l2, k2, ?_, fun i hi => ?_⟩
  · rcases k4 with ⟨e1, e2⟩ | e
    · right
      rw [room94, hn0] at e2
      exact ⟨e2, by rw [e1]; exact hn0⟩
    · exact .inl e
  · rw [k3 i (by omega) (by omega)]
    unfold recH
    rw [room94, hn0]
    have hpb := parse_bd (F 0) 4 4 64 (by omega) (by omega)
    show recW _ _ (parseI (F 0) 4 4 64).1 (parseI (F 0) 4 4 64).1.length i = _
    refine recW_eq _ (fun j hj => ?_) (fun _ => ?_)
    · show nowI x (1 + 4 + (j : Int)) = _
      have := h.now (5 + j) (by omega)
      rw [show ((5 + j : Nat) : Int) = 1 + 4 + (j : Int) by omega] at this
      rw [this, h2 j (by omega)]
    · show nowI x (1 + (i : Int)) = _
      have := h.now (1 + i) (by omega)
      rw [show ((1 + i : Nat) : Int) = 1 + (i : Int) by omega] at this
      rw [this, h1 i hi]
set_option maxRecDepth 100000 in
set_option maxHeartbeats 4000000 in
theorem opens12_any (w : World) (v0 : Value) (hd : List Int) (h : SlB w v0 hd) (hby : Bytes hd) (v1 : Value) (js : List (List Int)) (ds : List Value) (hj : RowsAt w v1 js ds) (hjb : ∀ j, j < js.length → Bytes (js.getD j [])) :
    Calls Try.prog 10 #[v0, v1] w (TruePost w) := by
  have HAW : Hid (∀ w1, Calls Try.prog 25 #[] w1 (TruePost w1)) := Lib.hid (fun w1 => wawake_any w1)
  obtain ⟨A, c, rfl, hc1, hc2⟩ := h.shape
  obtain ⟨AJ, cJ, rfl, hj1, hj2⟩ := hj.shape
  have HV := Lib.hid h
  have HBY := Lib.hid hby
  have HJ := Lib.hid hj
  have HJB := Lib.hid hjb
  have HNEW := Lib.hid (vnew w 9 64 ⟨by omega, by omega, by omega, by omega⟩)
  obtain ⟨i9, hi9, hz9, hs9, hb9⟩ := info_parts (P := Try.prog) (e := 9) (z := .string ⟨#[]⟩) (size := 1) (bytes := 16) (by kernel_rfl)
  clear h hby hj hjb
  by_cases hjl : (10 : Int) < js.length
  · go_enter Try.func10, Try.ntmps10
    go_wp2_with fail
    refine HNEW.out.mono ?_
    rintro e w1 hp
    obtain ⟨p, b, sv, rfl, _, _, hb1⟩ := hp
    have HBX := hb1
    clear hb1 HNEW
    go_wp2_with fail
    refine (HAW.out _).mono ?_
    rintro e w9 ⟨rfl, hb9⟩
    go_wp2_with fail
    go_ret
    exact ⟨rfl, HBX.trans (hb9.mono HBX.size)⟩

  go_enter Try.func10, Try.ntmps10
  go_wp2_with fail
  refine HNEW.out.mono ?_
  rintro e w1 hp
  obtain ⟨p, b, sv, rfl, hd1, hown, hb1⟩ := hp
  have HOWN := Lib.hid hown
  have HB1 := Lib.hid hb1
  by_cases hl64 : hd.length ≠ 64
  · have hck : checkI (freshI 9 64) 0 hd.length = 10 := by
      unfold checkI
      rw [if_neg (show ¬ ((0 : Int) < 0 ∨ ((freshI 9 64).has.length : Int) ≤ 0) by rw [(fresh_form 9 64).1]; omega), if_pos (by rw [(fresh_form 9 64).2]; exact hl64)]
    have ht0 := vtamper_no w1 p b sv (freshI 9 64) 0 hd1 0 (.slice A hd.length c) hd (Src.chg HV.out (up_below hb1) (fun _ _ _ h => h) (by decide)) (by rw [hck]; simp)
    rw [hck] at ht0
    have HT0 := Lib.hid ht0
    have hl64' : ((hd.length : Int) != 64) = true := by rw [bne_iff_ne]; omega
    clear hd1 hown hb1 hl64 HNEW hck ht0
    go_wp2_with fail
    refine HT0.out.mono ?_
    rintro e w2 ⟨rfl, rfl⟩
    have HBX := HB1.out
    clear HT0
    go_wp2_with fail
    refine (HAW.out _).mono ?_
    rintro e w9 ⟨rfl, hb9⟩
    go_wp2_with fail
    go_ret
    exact ⟨rfl, HBX.trans (hb9.mono HBX.size)⟩

  have hl : hd.length = 64 := Classical.not_not.1 hl64
  have HT0 := Lib.hid (vtamper w1 p b sv (freshI 9 64) 0 hd1 TD.fresh.wf 0 (.slice A hd.length c) hd (Src.chg HV.out (up_below hb1) (fun _ _ _ h => h) (by decide)) (by omega))
  have hte := tamper_err TD.fresh 0 (by omega) hd
  obtain ⟨x1, hx1⟩ : ∃ x1, tamperI (freshI 9 64) ((0 : Nat) : Int) hd = x1 := ⟨_, rfl⟩
  rw [hx1] at hte
  rw [show (0 : Int) = ((0 : Nat) : Int) from rfl, hx1] at HT0
  have htd := (TD.fresh.tamper 0 (by omega) hd hl).2
  rw [if_pos hl] at hte
  rw [hx1] at htd
  obtain ⟨x, e⟩ := x1
  obtain rfl : e = 0 := hte
  dsimp only at HT0 htd
  have HTD := Lib.hid htd
  have HHL := Lib.hid hl
  rw [hl] at hc1 HV
  have hm1 : i9.bytes * 4 ≤ 281474976710656 := by rw [hb9]; omega
  have hm2 : (4 : Nat) ≤ maxLen := by unfold maxLen; omega
  clear hd1 hown hb1 hl64 HNEW hx1 htd
  rw [hl] at HT0 ⊢
  clear hl
  go_wp2_with fail
  refine HT0.out.mono ?_
  rintro e w2 ⟨rfl, hd2, hc2⟩
  have HD2 := Lib.hid hd2
  have HC2 := Lib.hid (((up_below HB1.out).mono (fun _ _ h => h.elim) : Chg (fun i => w.heap.size ≤ i) w w1).then hc2 (fun i hi => .inl (HOWN.out i hi)))
  have hm3 : w.heap.size ≤ w2.heap.size := HC2.out.size
  clear hd2 hc2 HT0 HB1
  go_wp2_with (refine wpList_make_full _ rfl (.const (.int .i64 4)) (.const (.int .i64 4)) 51 rfl 0 9 i9 _ 1 Try.underlying51 hi9 hz9 hs9 .i64 .i64 4 4 4 rfl rfl rfl rfl hm1 hm2 (Nat.zero_le _) ?_; intro w3 hr3 hg3)
  obtain ⟨g, hg⟩ : ∃ g, g = w2.heap.size := ⟨_, rfl⟩
  rw [← hg] at hr3 ⊢
  rw [show (madeCells (Value.string ⟨#[]⟩).cells (4 * 1)).toList = strs 4 (fun _ => []) from by
    show (madeCells #[Value.string ⟨#[]⟩] (4 * 1)).toList = _
    rw [Nat.mul_one, toList_madeCells_one]
    rfl] at hr3
  have HR3 := Lib.hid hr3
  have HU3 : Hid (Up w2 w3) := Lib.hid ((Chg.of_grownBy hg3).mono (fun i _ hi => by cases hi))
  have HG := Lib.hid hg
  have HD3 : Hid (DskV w3 p b sv x 0) := Lib.hid (HD2.out.up HU3.out)
  have HC3 : Hid (Chg (fun i => w.heap.size ≤ i) w w3) := Lib.hid (HC2.out.trans (HU3.out.mono (fun _ _ h => h.elim)))
  have HGN : Hid (¬ OwnD p b sv g ∧ w.heap.size ≤ g) := Lib.hid ⟨fun h => by have := HD2.out.lt g h; omega, by omega⟩
  clear hr3 hg3 hg HD2 HC2 hm3 HU3
  go_loopw [47] (fun t wr => ∃ (k : Nat) (x : Dk) (F f : Nat → List Int), k ≤ 4 ∧ t = .int .i64 k ∧ DskV wr p b sv x 0 ∧ TD x F ∧ F 0 = hd ∧ (∀ i, i < k → F (1 + i) = rep 64 ((i : Int) + 1) ∧ f i = rep 64 ((i : Int) + 1)) ∧ wr.ownsRow 0 9 1 (.slice (some ⟨g, 0, none⟩) 4 4) 4 (strs 4 f) ∧ Chg (fun i => w.heap.size ≤ i) w wr) (fun t _ => 4 - (intOf t).toNat)
  case atStart => exact ⟨0, x, _, fun _ => [], by omega, rfl, HD3.out, HTD.out, by simp, fun i hi => by omega, HR3.out, HC3.out⟩
  case round =>
    rename World => wr
    clear HD3 HC3 HTD HR3
    obtain ⟨k, x, F, f, hk, rfl, hdv, htd, hf0, hff, hrow, hch⟩ := hrel
    by_cases hk2 : (k : Int) < 4
    · have hwz : IntKind.u8.wrap ((k : Int) + 1) = (k : Int) + 1 := by rw [wrap_u8]; omega
      have hF1 := Lib.hid (full64_any wr ((k : Int) + 1))
      have HD := Lib.hid hdv
      have HTD := Lib.hid htd
      have HF0 := Lib.hid hf0
      have HFF := Lib.hid hff
      have HROW := Lib.hid hrow
      have HCH := Lib.hid hch
      clear hdv htd hf0 hff hrow hch
      go_wp2_with fail
      refine hF1.out.mono ?_
      rintro e w4 ⟨v4, rfl, hr4, hb4⟩
      obtain ⟨A4, c4, rfl⟩ := own_shape hr4
      have hu4 := up_below hb4
      have hst := sl_string (xs := List.replicate 64 ((k : Int) + 1)) (slb_of (by simpa using hr4))
      obtain ⟨s, hs⟩ : ∃ s, strOfNums (List.replicate 64 ((k : Int) + 1)) = s := ⟨_, rfl⟩
      rw [hs] at hst
      have hrow4 := own_chg HROW.out hu4 (fun _ _ h => h)
      have hcw := World.ownsRow.cells hrow4 rfl k _ (strs_at (show k < 4 by omega))
      rw [addr_add, Nat.zero_add] at hcw
      obtain ⟨old, hold⟩ : ∃ old, strOfNums (f k) = old := ⟨_, rfl⟩
      rw [hold] at hcw
      have hfz : w4.frozen? ⟨g, k, none⟩ = false := World.ownsRow.frozenAt hrow4 k
      obtain ⟨hs1, _⟩ := World.ownsRow.stored hrow4 k (.string s)
      rw [← hs, strs_set, hs] at hs1
      have HS1 := Lib.hid hs1
      have hc5 : Chg (fun i => i = g) w4 (w4.setCell ⟨g, k, none⟩ (.string s)) := (Chg.refl (fun i => i = g) w4).setCell ⟨g, k, none⟩ (.inl rfl) _
      obtain ⟨W5, hW5⟩ : ∃ W5, w4.setCell ⟨g, k, none⟩ (.string s) = W5 := ⟨_, rfl⟩
      rw [hW5] at HS1 hc5
      have hd5 : DskV W5 p b sv x 0 := (HD.out.up hu4).row9 hrow4 rfl hc5
      have HC5 : Hid (Chg (fun i => w.heap.size ≤ i) w W5) := Lib.hid ((HCH.out.trans (hu4.mono (fun _ _ h => h.elim))).then hc5 (fun i hi => .inl (by rw [hi]; exact HGN.out.2)))
      have HD5 := Lib.hid hd5
      have HF2 := Lib.hid (full64_any W5 ((k : Int) + 1))
      clear hr4 hb4 hu4 hs hrow4 hold hs1 hc5 hd5 hF1 HROW HCH HD
      go_wp2_with fail
      clear hW5 hst hcw hfz
      refine HF2.out.mono ?_
      rintro e w6 ⟨v6, rfl, hr6, hb6⟩
      obtain ⟨A6, c6, rfl⟩ := own_shape hr6
      have hu6 := up_below hb6
      obtain ⟨t1, t2⟩ := HTD.out.tamper (1 + k) (by omega) (List.replicate 64 ((k : Int) + 1)) (by simp)
      have HTM := vtamper w6 p b sv x 0 (HD5.out.up hu6) HTD.out.wf ((1 + k : Nat) : Int) (.slice A6 64 c6) (List.replicate 64 ((k : Int) + 1)) (by have := slb_of (xs := List.replicate 64 ((k : Int) + 1)) (w := w6) (v := .slice A6 64 c6) (by simpa using hr6); exact this) (by simp)
      rw [t1, show ((1 + k : Nat) : Int) = 1 + (k : Int) by omega] at HTM
      rw [show ((1 + k : Nat) : Int) = 1 + (k : Int) by omega] at t2
      obtain ⟨y, hy⟩ : ∃ y, (tamperI x (1 + (k : Int)) (List.replicate 64 ((k : Int) + 1))).1 = y := ⟨_, rfl⟩
      rw [hy] at HTM t2
      have HTM := Lib.hid HTM
      have HT2 := Lib.hid t2
      have HC6 := Lib.hid (HC5.out.trans (hu6.mono (fun _ _ h => h.elim)))
      have HR6 := Lib.hid (own_chg HS1.out hu6 (fun _ _ h => h))
      have HD6 := Lib.hid (HD5.out.up hu6)
      clear hr6 hb6 hu6 t1 t2 hy HF2 HC5 HD5 HS1
      go_wp2_with fail
      refine HTM.out.mono ?_
      rintro e w7 ⟨rfl, hd7, hc7⟩
      have HNX := Lib.hid (show DskV w7 p b sv y 0 ∧ TD y (fun j => if j = 1 + k then List.replicate 64 ((k : Int) + 1) else F j) ∧ (if 0 = 1 + k then List.replicate 64 ((k : Int) + 1) else F 0) = hd ∧ (∀ i, i < k + 1 → (if 1 + i = 1 + k then List.replicate 64 ((k : Int) + 1) else F (1 + i)) = rep 64 ((i : Int) + 1) ∧ updN f k (List.replicate 64 ((k : Int) + 1)) i = rep 64 ((i : Int) + 1)) ∧ w7.ownsRow 0 9 1 (.slice (some ⟨g, 0, none⟩) 4 4) 4 (strs 4 (updN f k (List.replicate 64 ((k : Int) + 1)))) ∧ Chg (fun i => w.heap.size ≤ i) w w7 from by
        refine ⟨hd7, HT2.out, by rw [if_neg (by omega)]; exact HF0.out, fun i hi => ?_, str_keepD HR6.out HD6.out hc7, HC6.out.then hc7 (fun i hi => .inl (HOWN.out i hi))⟩
        by_cases e : i = k
        · subst e
          rw [if_pos rfl]
          exact ⟨rfl, by simp [updN, rep]⟩
        · rw [if_neg (by omega)]
          have := HFF.out i (by omega)
          exact ⟨this.1, by simp [updN, e]; exact this.2⟩)
      clear hd7 hc7 HTM
      go_wp2_with fail
      exact ⟨⟨k + 1, y, _, _, by omega, by go_num, HNX.out⟩, by simp [intOf]; omega⟩
    · obtain rfl : k = 4 := by omega
      have hm1 : i9.bytes * 4 ≤ 281474976710656 := by rw [hb9]; omega
      have HD3 := Lib.hid hdv
      have HTD0 := Lib.hid htd
      have HF00 := Lib.hid hf0
      have HF1 : Hid (∀ i, i < 4 → F (1 + i) = rep 64 ((i : Int) + 1)) := Lib.hid (fun i hi => (hff i hi).1)
      have HFW : Hid (∀ i, i < 4 → f i = rep 64 ((i : Int) + 1)) := Lib.hid (fun i hi => (hff i hi).2)
      have HW3 := Lib.hid hrow
      have HC3 := Lib.hid hch
      clear hdv htd hf0 hff hrow hch hk hk2
      rename World => w2
      go_wp2_with (refine wpList_make_full _ rfl (.const (.int .i64 4)) (.const (.int .i64 4)) 51 rfl 0 9 i9 _ 1 Try.underlying51 hi9 hz9 hs9 .i64 .i64 4 4 4 rfl rfl rfl rfl hm1 hm2 (Nat.zero_le _) ?_; intro w3 hr3 hg3)
      obtain ⟨g2, hg2⟩ : ∃ g2, g2 = w2.heap.size := ⟨_, rfl⟩
      rw [← hg2] at hr3 ⊢
      rw [show (madeCells (Value.string ⟨#[]⟩).cells (4 * 1)).toList = strs 4 (fun _ => []) from by
        show (madeCells #[Value.string ⟨#[]⟩] (4 * 1)).toList = _
        rw [Nat.mul_one, toList_madeCells_one]
        rfl] at hr3
      have hu3 : Up w2 w3 := (Chg.of_grownBy hg3).mono (fun i _ hi => by cases hi)
      have hgl : g < w2.heap.size := by
        obtain ⟨cu, fu, hh⟩ := own_type HW3.out g rfl
        exact (Array.getElem?_eq_some_iff.1 hh).1
      have HGG : Hid (g2 ≠ g ∧ w.heap.size ≤ g2) := Lib.hid ⟨by omega, by have := HC3.out.size; omega⟩
      have HR4 := Lib.hid hr3
      have HD4 : Hid (DskV w3 p b sv x 0) := Lib.hid (HD3.out.up hu3)
      have HW4 := Lib.hid (own_chg HW3.out hu3 (fun _ _ h => h))
      have HC4 : Hid (Chg (fun i => w.heap.size ≤ i) w w3) := Lib.hid (HC3.out.trans (hu3.mono (fun _ _ h => h.elim)))
      obtain ⟨F0f, hF0f⟩ : ∃ F', F = F' := ⟨_, rfl⟩
      subst hF0f
      clear hr3 hg3 hg2 hu3 hgl HD3 HW3 HC3 hi9 hz9 hs9 hb9
      go_loopw [71] (fun t wr => ∃ (k : Nat) (x : Dk) (F gd : Nat → List Int), k ≤ 4 ∧ t = .int .i64 k ∧ DskV wr p b sv x 0 ∧ TD x F ∧ F 0 = hd ∧ (∀ i, i < 4 → F (1 + i) = rep 64 ((i : Int) + 1)) ∧ (∀ i, i < k → F (5 + i) = datJ js i ∧ gd i = datJ js i) ∧ wr.ownsRow 0 9 1 (.slice (some ⟨g2, 0, none⟩) 4 4) 4 (strs 4 gd) ∧ wr.ownsRow 0 9 1 (.slice (some ⟨g, 0, none⟩) 4 4) 4 (strs 4 f) ∧ Chg (fun i => w.heap.size ≤ i) w wr) (fun t _ => 4 - (intOf t).toNat)
      case atStart => exact ⟨0, x, F, fun _ => [], by omega, rfl, HD4.out, HTD0.out, HF00.out, HF1.out, fun i hi => by omega, HR4.out, HW4.out, HC4.out⟩
      case round =>
        rename World => wr
        clear HD4 HTD0 HF00 HF1 HR4 HW4 HC4
        obtain ⟨k, x, F, gd, hk, rfl, hdv, htd, hf0, hf1, hff, hrow, hrw, hch⟩ := hrel
        by_cases hk2 : (k : Int) < 4
        · have hF1 := Lib.hid (full64_any wr 0)
          have HD := Lib.hid hdv
          have HTD := Lib.hid htd
          have HF0 := Lib.hid hf0
          have HF1 := Lib.hid hf1
          have HFF := Lib.hid hff
          have HROW := Lib.hid hrow
          have HRW0 := Lib.hid hrw
          have HCH := Lib.hid hch
          clear hdv htd hf0 hf1 hff hrow hrw hch
          go_wp2_with fail
          refine hF1.out.mono ?_
          rintro e w4 ⟨v4, rfl, hr4, hb4⟩
          obtain ⟨A4, c4, rfl⟩ := own_shape hr4
          have hu4 := up_below hb4
          have hst := sl_string (xs := rep 64 0) (slb_of (by simpa [rep] using hr4))
          obtain ⟨s, hs⟩ : ∃ s, strOfNums (rep 64 0) = s := ⟨_, rfl⟩
          rw [hs] at hst
          have hrow4 := own_chg HROW.out hu4 (fun _ _ h => h)
          have hcw := World.ownsRow.cells hrow4 rfl k _ (strs_at (show k < 4 by omega))
          rw [addr_add, Nat.zero_add] at hcw
          obtain ⟨old, hold⟩ : ∃ old, strOfNums (gd k) = old := ⟨_, rfl⟩
          rw [hold] at hcw
          have hfz : w4.frozen? ⟨g2, k, none⟩ = false := World.ownsRow.frozenAt hrow4 k
          obtain ⟨hs1, _⟩ := World.ownsRow.stored hrow4 k (.string s)
          rw [← hs, strs_set, hs] at hs1
          have hc5 : Chg (fun i => i = g2) w4 (w4.setCell ⟨g2, k, none⟩ (.string s)) := (Chg.refl (fun i => i = g2) w4).setCell ⟨g2, k, none⟩ (.inl rfl) _
          have hrw4 := own_chg HRW0.out hu4 (fun _ _ h => h)
          obtain ⟨W5, hW5⟩ : ∃ W5, w4.setCell ⟨g2, k, none⟩ (.string s) = W5 := ⟨_, rfl⟩
          rw [hW5] at hs1 hc5
          have hrw5 := own_chg hrw4 hc5 (fun j hj e => HGG.out.1 (by
            have : g = j := by simpa [Value.ownBlock] using hj
            omega))
          have hd5 : DskV W5 p b sv x 0 := (HD.out.up hu4).row9 hrow4 rfl hc5
          have hch5 : Chg (fun i => w.heap.size ≤ i) w W5 := (HCH.out.trans (hu4.mono (fun _ _ h => h.elim))).then hc5 (fun i hi => .inl (by rw [hi]; exact HGG.out.2))
          have HS1 := Lib.hid hs1
          have HRW5 := Lib.hid hrw5
          have HD5 := Lib.hid hd5
          have HC5 := Lib.hid hch5
          have HSE := Lib.hid hs
          clear hr4 hb4 hu4 hs hrow4 hold hs1 hc5 hrw4 hrw5 hd5 hch5 hF1 HROW HCH HD HRW0
          by_cases hkj : (k : Int) < js.length
          · have hjs := HJ.out.below HC5.out
            obtain ⟨bj, offj, cj, he, _, _, hcells⟩ := hjs.src.form (by have := hjs.len; omega)
            injection he with e1 e2 e3
            subst e1 e3
            clear e2
            have rj := hcells k (ds.getD k undef) (by rw [List.getD_eq_getElem?_getD, List.getElem?_eq_getElem (show k < ds.length by have := hjs.len; omega)]; rfl)
            have hdj := hjs.dat k (by omega)
            obtain ⟨d, hde⟩ : ∃ d, ds.getD k undef = d := ⟨_, rfl⟩
            rw [hde] at rj hdj
            obtain ⟨A7, c7, rfl, _, _⟩ := hdj.shape
            by_cases hj64 : (js.getD k []).length = 64
            · have hdat : datJ js k = js.getD k [] := by unfold datJ; rw [if_pos ⟨by omega, hj64⟩]
              have hstj := sl_string hdj
              rw [hj64] at rj hstj
              rw [← hdat] at hstj
              obtain ⟨sJ, hsJ⟩ : ∃ sJ, strOfNums (datJ js k) = sJ := ⟨_, rfl⟩
              rw [hsJ] at hstj
              have hcw5 := World.ownsRow.cells HS1.out rfl k _ (strs_at (show k < 4 by omega))
              rw [addr_add, Nat.zero_add] at hcw5
              obtain ⟨old5, hold5⟩ : ∃ old, strOfNums (updN gd k (rep 64 0) k) = old := ⟨_, rfl⟩
              rw [hold5] at hcw5
              have hfz5 : W5.frozen? ⟨g2, k, none⟩ = false := World.ownsRow.frozenAt HS1.out k
              obtain ⟨hs6, _⟩ := World.ownsRow.stored HS1.out k (.string sJ)
              rw [← hsJ, strs_set, hsJ] at hs6
              have hc6 : Chg (fun i => i = g2) W5 (W5.setCell ⟨g2, k, none⟩ (.string sJ)) := (Chg.refl (fun i => i = g2) W5).setCell ⟨g2, k, none⟩ (.inl rfl) _
              obtain ⟨W6, hW6⟩ : ∃ W6, W5.setCell ⟨g2, k, none⟩ (.string sJ) = W6 := ⟨_, rfl⟩
              rw [hW6] at hs6 hc6
              obtain ⟨gk, hgk⟩ : ∃ gk, updN (updN gd k (rep 64 0)) k (datJ js k) = gk := ⟨_, rfl⟩
              rw [hgk] at hs6
              have HGK : Hid (gk k = datJ js k) := Lib.hid (by rw [← hgk]; simp [updN])
              have HGO : Hid (∀ i, i ≠ k → gk i = gd i) := Lib.hid (fun i hi => by rw [← hgk]; simp [updN, hi])
              have HRD := Lib.hid hs6
              have HRW := Lib.hid (own_chg HRW5.out hc6 (fun j hj e => HGG.out.1 (by
                have : g = j := by simpa [Value.ownBlock] using hj
                omega)))
              have HDD : Hid (DskV W6 p b sv x 0) := Lib.hid (HD5.out.row9 HS1.out rfl hc6)
              have HCD := Lib.hid (HC5.out.then hc6 (fun i hi => .inl (by rw [hi]; exact HGG.out.2)))
              clear hjs hcells hdj hde hj64 hdat hsJ hold5 hs6 hc6 hgk HS1 HRW5 HD5 HC5
              obtain ⟨AB, cB, wB, hrunB, hslB, huB⟩ := conv_bytes W6 (datJ js k) (datJ_bytes HJB.out k) (by rw [datJ_len]; omega)
              rw [datJ_len] at hrunB hslB
              obtain ⟨sD, hsD⟩ : ∃ sD, strOfNums (datJ js k) = sD := ⟨_, rfl⟩
              rw [hsD] at hrunB
              have qD := World.ownsRow.cells HRD.out rfl k _ (strs_at (show k < 4 by omega))
              rw [addr_add, Nat.zero_add, HGK.out, hsD] at qD
              obtain ⟨t1, t2⟩ := HTD.out.tamper (5 + k) (by omega) (datJ js k) (datJ_len js k)
              have HTM := vtamper wB p b sv x 0 (HDD.out.up huB) HTD.out.wf ((5 + k : Nat) : Int) (.slice AB 64 cB) (datJ js k) hslB (by rw [datJ_len]; omega)
              rw [t1, show ((5 + k : Nat) : Int) = 5 + (k : Int) by omega] at HTM
              rw [show ((5 + k : Nat) : Int) = 5 + (k : Int) by omega] at t2
              obtain ⟨y, hy⟩ : ∃ y, (tamperI x (5 + (k : Int)) (datJ js k)).1 = y := ⟨_, rfl⟩
              rw [hy] at HTM t2
              have HTM := Lib.hid HTM
              have HT2 := Lib.hid t2
              have HC6 := Lib.hid (HCD.out.trans (huB.mono (fun _ _ h => h.elim)))
              have HR6 := Lib.hid (own_chg HRD.out huB (fun _ _ h => h))
              have HW6 := Lib.hid (own_chg HRW.out huB (fun _ _ h => h))
              have HD6 := Lib.hid (HDD.out.up huB)
              clear hslB huB t1 t2 hy hsD
              go_wp2_with fail
              clear hrunB qD
              refine HTM.out.mono ?_
              rintro e w7 ⟨rfl, hd7, hc7⟩
              have HNX := Lib.hid (show DskV w7 p b sv y 0 ∧ TD y (fun j => if j = 5 + k then datJ js k else F j) ∧ (if 0 = 5 + k then datJ js k else F 0) = hd ∧ (∀ i, i < 4 → (if 1 + i = 5 + k then datJ js k else F (1 + i)) = rep 64 ((i : Int) + 1)) ∧ (∀ i, i < k + 1 → (if 5 + i = 5 + k then datJ js k else F (5 + i)) = datJ js i ∧ gk i = datJ js i) ∧ w7.ownsRow 0 9 1 (.slice (some ⟨g2, 0, none⟩) 4 4) 4 (strs 4 gk) ∧ w7.ownsRow 0 9 1 (.slice (some ⟨g, 0, none⟩) 4 4) 4 (strs 4 f) ∧ Chg (fun i => w.heap.size ≤ i) w w7 from by
                refine ⟨hd7, HT2.out, by rw [if_neg (by omega)]; exact HF0.out, fun i hi => by rw [if_neg (by omega)]; exact HF1.out i hi, fun i hi => ?_, str_keepD HR6.out HD6.out hc7, str_keepD HW6.out HD6.out hc7, HC6.out.then hc7 (fun i hi => .inl (HOWN.out i hi))⟩
                by_cases e : i = k
                · subst e
                  rw [if_pos rfl]
                  exact ⟨rfl, HGK.out⟩
                · rw [if_neg (by omega)]
                  have := HFF.out i (by omega)
                  exact ⟨this.1, (HGO.out i e).trans this.2⟩)
              clear hd7 hc7 HTM
              go_wp2_with fail
              exact ⟨⟨k + 1, y, _, gk, by omega, by go_num, HNX.out⟩, by simp [intOf]; omega⟩
            · have hj64' : ((js.getD k []).length : Int) ≠ 64 := by omega
              have hj64'' : (((js.getD k []).length : Int) == 64) = false := by rw [beq_eq_false_iff_ne]; exact hj64'
              have hdat : datJ js k = rep 64 0 := by unfold datJ; rw [if_neg (fun h => hj64 h.2)]
              obtain ⟨nj, hnj⟩ : ∃ nj, (js.getD k []).length = nj := ⟨_, rfl⟩
              rw [hnj] at rj hj64''
              obtain ⟨gk, hgk⟩ : ∃ gk, updN gd k (rep 64 0) = gk := ⟨_, rfl⟩
              rw [hgk] at HS1
              have HGK : Hid (gk k = datJ js k) := Lib.hid (by rw [← hgk, hdat]; simp [updN])
              have HGO : Hid (∀ i, i ≠ k → gk i = gd i) := Lib.hid (fun i hi => by rw [← hgk]; simp [updN, hi])
              have HRD := HS1
              have HRW := HRW5
              have HDD := HD5
              have HCD := HC5
              clear hjs hcells hdj hde hj64 hj64' hdat hnj hgk HS1 HRW5 HD5 HC5
              obtain ⟨AB, cB, wB, hrunB, hslB, huB⟩ := conv_bytes W5 (datJ js k) (datJ_bytes HJB.out k) (by rw [datJ_len]; omega)
              rw [datJ_len] at hrunB hslB
              obtain ⟨sD, hsD⟩ : ∃ sD, strOfNums (datJ js k) = sD := ⟨_, rfl⟩
              rw [hsD] at hrunB
              have qD := World.ownsRow.cells HRD.out rfl k _ (strs_at (show k < 4 by omega))
              rw [addr_add, Nat.zero_add, HGK.out, hsD] at qD
              obtain ⟨t1, t2⟩ := HTD.out.tamper (5 + k) (by omega) (datJ js k) (datJ_len js k)
              have HTM := vtamper wB p b sv x 0 (HDD.out.up huB) HTD.out.wf ((5 + k : Nat) : Int) (.slice AB 64 cB) (datJ js k) hslB (by rw [datJ_len]; omega)
              rw [t1, show ((5 + k : Nat) : Int) = 5 + (k : Int) by omega] at HTM
              rw [show ((5 + k : Nat) : Int) = 5 + (k : Int) by omega] at t2
              obtain ⟨y, hy⟩ : ∃ y, (tamperI x (5 + (k : Int)) (datJ js k)).1 = y := ⟨_, rfl⟩
              rw [hy] at HTM t2
              have HTM := Lib.hid HTM
              have HT2 := Lib.hid t2
              have HC6 := Lib.hid (HCD.out.trans (huB.mono (fun _ _ h => h.elim)))
              have HR6 := Lib.hid (own_chg HRD.out huB (fun _ _ h => h))
              have HW6 := Lib.hid (own_chg HRW.out huB (fun _ _ h => h))
              have HD6 := Lib.hid (HDD.out.up huB)
              clear hslB huB t1 t2 hy hsD
              go_wp2_with fail
              clear hrunB qD
              refine HTM.out.mono ?_
              rintro e w7 ⟨rfl, hd7, hc7⟩
              have HNX := Lib.hid (show DskV w7 p b sv y 0 ∧ TD y (fun j => if j = 5 + k then datJ js k else F j) ∧ (if 0 = 5 + k then datJ js k else F 0) = hd ∧ (∀ i, i < 4 → (if 1 + i = 5 + k then datJ js k else F (1 + i)) = rep 64 ((i : Int) + 1)) ∧ (∀ i, i < k + 1 → (if 5 + i = 5 + k then datJ js k else F (5 + i)) = datJ js i ∧ gk i = datJ js i) ∧ w7.ownsRow 0 9 1 (.slice (some ⟨g2, 0, none⟩) 4 4) 4 (strs 4 gk) ∧ w7.ownsRow 0 9 1 (.slice (some ⟨g, 0, none⟩) 4 4) 4 (strs 4 f) ∧ Chg (fun i => w.heap.size ≤ i) w w7 from by
                refine ⟨hd7, HT2.out, by rw [if_neg (by omega)]; exact HF0.out, fun i hi => by rw [if_neg (by omega)]; exact HF1.out i hi, fun i hi => ?_, str_keepD HR6.out HD6.out hc7, str_keepD HW6.out HD6.out hc7, HC6.out.then hc7 (fun i hi => .inl (HOWN.out i hi))⟩
                by_cases e : i = k
                · subst e
                  rw [if_pos rfl]
                  exact ⟨rfl, HGK.out⟩
                · rw [if_neg (by omega)]
                  have := HFF.out i (by omega)
                  exact ⟨this.1, (HGO.out i e).trans this.2⟩)
              clear hd7 hc7 HTM
              go_wp2_with fail
              exact ⟨⟨k + 1, y, _, gk, by omega, by go_num, HNX.out⟩, by simp [intOf]; omega⟩
          · have hdat : datJ js k = rep 64 0 := by unfold datJ; rw [if_neg (fun h => hkj (by omega))]
            obtain ⟨gk, hgk⟩ : ∃ gk, updN gd k (rep 64 0) = gk := ⟨_, rfl⟩
            rw [hgk] at HS1
            have HGK : Hid (gk k = datJ js k) := Lib.hid (by rw [← hgk, hdat]; simp [updN])
            have HGO : Hid (∀ i, i ≠ k → gk i = gd i) := Lib.hid (fun i hi => by rw [← hgk]; simp [updN, hi])
            have HRD := HS1
            have HRW := HRW5
            have HDD := HD5
            have HCD := HC5
            clear hdat hgk HS1 HRW5 HD5 HC5
            obtain ⟨AB, cB, wB, hrunB, hslB, huB⟩ := conv_bytes W5 (datJ js k) (datJ_bytes HJB.out k) (by rw [datJ_len]; omega)
            rw [datJ_len] at hrunB hslB
            obtain ⟨sD, hsD⟩ : ∃ sD, strOfNums (datJ js k) = sD := ⟨_, rfl⟩
            rw [hsD] at hrunB
            have qD := World.ownsRow.cells HRD.out rfl k _ (strs_at (show k < 4 by omega))
            rw [addr_add, Nat.zero_add, HGK.out, hsD] at qD
            obtain ⟨t1, t2⟩ := HTD.out.tamper (5 + k) (by omega) (datJ js k) (datJ_len js k)
            have HTM := vtamper wB p b sv x 0 (HDD.out.up huB) HTD.out.wf ((5 + k : Nat) : Int) (.slice AB 64 cB) (datJ js k) hslB (by rw [datJ_len]; omega)
            rw [t1, show ((5 + k : Nat) : Int) = 5 + (k : Int) by omega] at HTM
            rw [show ((5 + k : Nat) : Int) = 5 + (k : Int) by omega] at t2
            obtain ⟨y, hy⟩ : ∃ y, (tamperI x (5 + (k : Int)) (datJ js k)).1 = y := ⟨_, rfl⟩
            rw [hy] at HTM t2
            have HTM := Lib.hid HTM
            have HT2 := Lib.hid t2
            have HC6 := Lib.hid (HCD.out.trans (huB.mono (fun _ _ h => h.elim)))
            have HR6 := Lib.hid (own_chg HRD.out huB (fun _ _ h => h))
            have HW6 := Lib.hid (own_chg HRW.out huB (fun _ _ h => h))
            have HD6 := Lib.hid (HDD.out.up huB)
            clear hslB huB t1 t2 hy hsD
            go_wp2_with fail
            clear hrunB qD
            refine HTM.out.mono ?_
            rintro e w7 ⟨rfl, hd7, hc7⟩
            have HNX := Lib.hid (show DskV w7 p b sv y 0 ∧ TD y (fun j => if j = 5 + k then datJ js k else F j) ∧ (if 0 = 5 + k then datJ js k else F 0) = hd ∧ (∀ i, i < 4 → (if 1 + i = 5 + k then datJ js k else F (1 + i)) = rep 64 ((i : Int) + 1)) ∧ (∀ i, i < k + 1 → (if 5 + i = 5 + k then datJ js k else F (5 + i)) = datJ js i ∧ gk i = datJ js i) ∧ w7.ownsRow 0 9 1 (.slice (some ⟨g2, 0, none⟩) 4 4) 4 (strs 4 gk) ∧ w7.ownsRow 0 9 1 (.slice (some ⟨g, 0, none⟩) 4 4) 4 (strs 4 f) ∧ Chg (fun i => w.heap.size ≤ i) w w7 from by
              refine ⟨hd7, HT2.out, by rw [if_neg (by omega)]; exact HF0.out, fun i hi => by rw [if_neg (by omega)]; exact HF1.out i hi, fun i hi => ?_, str_keepD HR6.out HD6.out hc7, str_keepD HW6.out HD6.out hc7, HC6.out.then hc7 (fun i hi => .inl (HOWN.out i hi))⟩
              by_cases e : i = k
              · subst e
                rw [if_pos rfl]
                exact ⟨rfl, HGK.out⟩
              · rw [if_neg (by omega)]
                have := HFF.out i (by omega)
                exact ⟨this.1, (HGO.out i e).trans this.2⟩)
            clear hd7 hc7 HTM
            go_wp2_with fail
            exact ⟨⟨k + 1, y, _, gk, by omega, by go_num, HNX.out⟩, by simp [intOf]; omega⟩
        · obtain rfl : k = 4 := by omega
          have HPL : Hid (∀ i, i < 4 → F (5 + i) = datJ js i ∧ gd i = datJ js i) := Lib.hid hff
          have hnow0 : nowI x 0 = hd := (htd.now 0 (by omega)).trans hf0
          have hup0 : Chg (fun i => w.heap.size ≤ i) w wr := hch
          have HPR := Lib.hid (parse46_any wr (.slice A 64 c) hd (src_below HV.out (by decide) hch) HBY.out HHL.out)
          have HD := Lib.hid hdv
          have HTD := Lib.hid htd
          have HF0 := Lib.hid hf0
          have HF1 := Lib.hid hf1
          have HROW := Lib.hid hrow
          have HRW := Lib.hid hrw
          have HCH := Lib.hid hch
          have HN0 := Lib.hid hnow0
          have HLT0 : Hid (∀ j, OwnD p b sv j → j < wr.heap.size) := Lib.hid hdv.lt
          have HGL0 : Hid (g < wr.heap.size) := Lib.hid (by
            obtain ⟨cu, fu, hh⟩ := own_type hrw g rfl
            exact (Array.getElem?_eq_some_iff.1 hh).1)
          clear hk hk2 hdv htd hf0 hf1 hff hrow hrw hch hnow0 hup0
          rename World => w0
          go_wp2_with fail
          refine HPR.out.mono ?_
          rintro e w1 ⟨u, at_, ok, rfl, hsl, hok, hat, hblk, hb1⟩
          obtain ⟨AP, cP, rfl, _, _⟩ := hsl.shape
          have hu1 := up_below hb1
          have HSL := Lib.hid hsl
          have HOK := Lib.hid hok
          have HBLK := Lib.hid hblk
          have HAT := Lib.hid hat
          have HOP := Lib.hid (open_any w1 p b sv x 0 (HD.out.up hu1) HTD.out.wf (by omega) HTD.out.live.2 (by rw [HTD.out.form.1]; omega) (by rw [HTD.out.form.2]; omega) (by rw [HN0.out]; exact HBY.out) 4 (by rw [HTD.out.form.1]; decide))
          have HROW1 := Lib.hid (own_chg HROW.out hu1 (fun _ _ h => h))
          have HRW1 := Lib.hid (own_chg HRW.out hu1 (fun _ _ h => h))
          have HD1 := Lib.hid (HD.out.up hu1)
          have HC1 := Lib.hid (HCH.out.trans (hu1.mono (fun _ _ h => h.elim)))
          clear hsl hok hat hblk hb1 hu1 HPR HROW HRW HD HCH
          go_wp2_with fail
          refine HOP.out.mono ?_
          cases ok with
          | false =>
            have hop : openI x 4 = (x, 32) := by
              unfold openI
              rw [HN0.out, HTD.out.form.1, HTD.out.form.2, show roomI 9 64 4 = 4 by decide, ← HOK.out, if_pos rfl]
            rw [hop]
            rintro e w2 ⟨h | h, _, hc2⟩
            · exact absurd h.1 (by simp)
            obtain ⟨_, rfl⟩ := h
            have HBX : Below w.heap.size w w2 := (HC1.out.then hc2 (fun i hi => .inl (HOWN.out i hi))).below (Nat.le_refl _) (fun _ h => h)
            clear hop hc2 HOP
            go_wp2_with fail
            refine (HAW.out _).mono ?_
            rintro e w9 ⟨rfl, hb9⟩
            go_wp2_with fail
            go_ret
            exact ⟨rfl, HBX.trans (hb9.mono HBX.size)⟩
          | true =>
          have hat := HAT.out rfl
          obtain ⟨k1, k2, k3, k4, k5⟩ := opens_plain HTD.out HF1.out (fun i hi => (HPL.out i hi).1) (by rw [HF0.out]; exact HOK.out.symm)
          rw [HF0.out, ← hat] at k4 k5
          have hpb := parse_bd hd 4 4 64 (by omega) (by omega)
          rw [← hat] at hpb
          have hof := open_form x (4 : Nat)
          have hwf := open_wf fm9 HTD.out.form HTD.out.wf
          rw [show (4 : Int) = ((4 : Nat) : Int) from rfl]
          obtain ⟨r, hr⟩ : ∃ r, openI x ((4 : Nat) : Int) = r := ⟨_, rfl⟩
          rw [hr] at k1 k2 k3 k4 k5 hof hwf ⊢
          obtain ⟨y, e⟩ := r
          obtain rfl : e = 0 := k1
          dsimp only at k2 k3 k4 k5 hof hwf
          rintro e w2 ⟨h | h, hd2, hc2⟩
          rotate_left
          · exact absurd rfl h.1
          obtain ⟨_, q, rfl, hw2, _⟩ := h
          dsimp only at hd2
          have HD2 := Lib.hid hd2
          have HW2 := Lib.hid hw2
          have HC2 := Lib.hid (HC1.out.then hc2 (fun i hi => .inl (HOWN.out i hi)))
          have HRG := Lib.hid (str_keepD HROW1.out HD1.out hc2)
          have HRF := Lib.hid (str_keepD HRW1.out HD1.out hc2)
          have HLIVE := Lib.hid k2
          have HCA := Lib.hid k3
          have HB0 := Lib.hid k4
          have HHO := Lib.hid k5
          have HLIN := Lib.hid hpb.2
          have hl4 : at_.length ≤ 4 := by have := hpb.1; omega
          have HYN : Hid (y.has.length = 9) := Lib.hid (hof.1.trans HTD.out.form.1)
          have HYW := Lib.hid hwf
          have HAP : Hid (∀ g', Value.blk (.slice AP at_.length cP) = some g' → 0 < at_.length → ¬ OwnD p b sv g' ∧ g' ≠ g) := Lib.hid (fun g' h1 h2 => by
            have h3 := HBLK.out g' h1 h2
            exact ⟨fun h4 => (by have := HLT0.out g' h4; omega), fun e => (by have := HGL0.out; omega)⟩)
          have HSL2 := Lib.hid (Src.chg HSL.out hc2 (fun g' h1 h2 => (HAP.out g' h1 h2).1) (by decide))
          clear hat k2 k3 k4 k5 hpb hof hwf hr hd2 hw2 hc2 HOP HROW1 HRW1 HD1 HC1 HOK HAT
          have HF00 : Hid (∀ i, i < 4 → f i = rep 64 ((i : Int) + 1)) := HFW
          go_wp2_with fail
          go_loopw [139] (fun t wr => ∃ (k : Nat) (f : Nat → List Int), k ≤ at_.length ∧ t = .int .i64 k ∧ (∀ i : Nat, i < 4 → f i = recW (fun k => datJ js k) (fun i => rep 64 (i + 1)) at_ k i) ∧ DskV wr p b sv y (0 + 700) ∧ WalAt wr q p 4 false ∧ wr.ownsRow 0 9 1 (.slice (some ⟨g2, 0, none⟩) 4 4) 4 (strs 4 gd) ∧ wr.ownsRow 0 9 1 (.slice (some ⟨g, 0, none⟩) 4 4) 4 (strs 4 f) ∧ SlI wr (.slice AP at_.length cP) at_ ∧ Chg (fun i => w.heap.size ≤ i) w wr) (fun t _ => at_.length - (intOf t).toNat)
          case atStart => exact ⟨0, f, by omega, rfl, fun i hi => by rw [HF00.out i hi]; rfl, HD2.out, HW2.out, HRG.out, HRF.out, HSL2.out, HC2.out⟩
          case round =>
            rename World => wr
            clear HD2 HW2 HRG HRF HSL2 HC2 HF00 HFW HSL
            obtain ⟨k, f, hk, rfl, hff, hdv, hwl, hrg, hrf, hsl, hch⟩ := hrel
            by_cases hk2 : (k : Int) < at_.length
            · obtain ⟨ba, offa, ca, he, _, _, hra⟩ := Src.form hsl (by rw [i64s_len]; omega)
              injection he with e1 e2 e3
              subst e1 e3
              clear e2
              have ra := hra k (.int .i64 (at_.getD k 0)) (i64s_at (by omega))
              have hain := getD_all HLIN.out k (by omega)
              have hrs : ∀ i : Nat, recW (fun k => datJ js k) (fun i => rep 64 (i + 1)) at_ (k + 1) i = if (i : Int) = at_.getD k 0 then datJ js k else recW (fun k => datJ js k) (fun i => rep 64 (i + 1)) at_ k i := fun i => rfl
              obtain ⟨a, ha⟩ : ∃ a : Nat, at_.getD k 0 = a := ⟨(at_.getD k 0).toNat, by omega⟩
              rw [ha] at ra hain
              have hgd := (HPL.out k (by omega)).2
              have qg := World.ownsRow.cells hrg rfl k _ (strs_at (show k < 4 by omega))
              rw [addr_add, Nat.zero_add, hgd] at qg
              have qf := World.ownsRow.cells hrf rfl a _ (strs_at (show a < 4 by omega))
              rw [addr_add, Nat.zero_add] at qf
              obtain ⟨old, hold⟩ : ∃ old, strOfNums (f a) = old := ⟨_, rfl⟩
              obtain ⟨sd, hsd⟩ : ∃ sd, strOfNums (datJ js k) = sd := ⟨_, rfl⟩
              rw [hold] at qf
              rw [hsd] at qg
              have hfz : wr.frozen? ⟨g, a, none⟩ = false := World.ownsRow.frozenAt hrf a
              obtain ⟨hs1, _⟩ := World.ownsRow.stored hrf a (.string sd)
              rw [← hsd, strs_set, hsd] at hs1
              have hc5 : Chg (fun i => i = g) wr (wr.setCell ⟨g, a, none⟩ (.string sd)) := (Chg.refl (fun i => i = g) wr).setCell ⟨g, a, none⟩ (.inl rfl) _
              have hqg : q ≠ g := fun e => by
                obtain ⟨cu, fu, hh⟩ := own_type hrf g rfl
                rw [← e, hwl.obj] at hh; cases hh
              have HNX := Lib.hid (show (∀ i : Nat, i < 4 → updN f a (datJ js k) i = recW (fun k => datJ js k) (fun i => rep 64 (i + 1)) at_ (k + 1) i) ∧ DskV (wr.setCell ⟨g, a, none⟩ (.string sd)) p b sv y (0 + 700) ∧ WalAt (wr.setCell ⟨g, a, none⟩ (.string sd)) q p 4 false ∧ (wr.setCell ⟨g, a, none⟩ (.string sd)).ownsRow 0 9 1 (.slice (some ⟨g2, 0, none⟩) 4 4) 4 (strs 4 gd) ∧ (wr.setCell ⟨g, a, none⟩ (.string sd)).ownsRow 0 9 1 (.slice (some ⟨g, 0, none⟩) 4 4) 4 (strs 4 (updN f a (datJ js k))) ∧ SlI (wr.setCell ⟨g, a, none⟩ (.string sd)) (.slice (some ⟨ba, offa, none⟩) at_.length cP) at_ ∧ Chg (fun i => w.heap.size ≤ i) w (wr.setCell ⟨g, a, none⟩ (.string sd)) from by
                refine ⟨fun i hi => ?_, hdv.row9 hrf rfl hc5, hwl.chg hc5 hqg, own_chg hrg hc5 (fun j hj e => HGG.out.1 (by
                  have : g2 = j := by simpa [Value.ownBlock] using hj
                  omega)), hs1, Src.chg hsl hc5 (fun g' h1 h2 e => (HAP.out g' h1 h2).2 e) (by decide), hch.then hc5 (fun i hi => .inl (by rw [hi]; exact HGN.out.2))⟩
                rw [hrs i, ha]
                by_cases e : i = a
                · subst e
                  rw [if_pos rfl]
                  simp [updN]
                · rw [if_neg (by omega), ← hff i hi]
                  simp [updN, e])
              have hal : (a : Int) < 4 := by omega
              have hk4 : (k : Int) < 4 := by omega
              clear hra hain hrs ha hgd hold hsd hs1 hc5 hqg hff hdv hwl hrg hrf hsl hch
              go_wp2_with fail
              exact ⟨⟨k + 1, _, by omega, by go_num, HNX.out⟩, by simp [intOf]; omega⟩
            · obtain rfl : k = at_.length := by omega
              have hho : homesN y 4 = (List.range 4).map f := by
                unfold homesN
                refine List.map_congr_left (fun i hi => ?_)
                have := List.mem_range.1 hi
                rw [HHO.out i this, hff i this]
              have HHM := homes_any wr q p b sv y (0 + 700) 4 hwl hdv HYW.out HLIVE.out.2 (by omega) (by rw [HYN.out]; omega)
              rw [hho] at HHM
              rw [strs_strV] at hrf
              have HHM := Lib.hid HHM
              obtain ⟨WL, hWL⟩ : ∃ WL, (List.range 4).map f = WL := ⟨_, rfl⟩
              have hwll : WL.length = 4 := by rw [← hWL]; simp
              rw [hWL] at HHM hrf
              have HWLL := Lib.hid hwll
              have HD := Lib.hid hdv
              have HRF := Lib.hid hrf
              have HCH := Lib.hid hch
              clear hho hff hdv hwl hrg hrf hsl hch hWL hwll hk hk2 HHO
              go_wp2_with fail
              refine HHM.out.mono ?_
              rintro e w3 ⟨v3, rfl, hrow3, hb3⟩
              rw [HWLL.out] at hrow3
              obtain ⟨A3, c3, rfl⟩ := own_shape hrow3
              have hu3 := up_below hb3
              have hrd := vread w3 p b sv y (0 + 700) (HD.out.up hu3) HYW.out 0 (by unfold I64; omega)
              rw [show readI y 0 = (nowI y 0, 0) from HLIVE.out.read 0 (by rw [HYN.out]; omega)] at hrd
              have HRD := Lib.hid hrd
              have HR3 := Lib.hid hrow3
              have HRF3 := Lib.hid (own_chg HRF.out hu3 (fun _ _ h => h))
              have HC3 := Lib.hid (HCH.out.trans (hu3.mono (fun _ _ h => h.elim)))
              have HD3 := Lib.hid (HD.out.up hu3)
              clear hrow3 hb3 hu3 hrd HHM HRF HCH HD
              go_wp2_with fail
              refine HRD.out.mono ?_
              rintro e w4 ⟨v4, rfl, hrow4, hb4⟩
              obtain ⟨A4, c4, rfl⟩ := own_shape hrow4
              have hu4 := up_below hb4
              have HH47 := Lib.hid (head47_any w4 64 (.slice none 0 0) [] (.inl ⟨rfl, rfl, rfl⟩) (fun j => by simp [I64]) (by simp) (by simp) (by omega))
              obtain ⟨nb, hnb⟩ : ∃ nb, nowI y 0 = nb := ⟨_, rfl⟩
              rw [hnb] at hrow4
              have HB0' : Hid (nb = headI [] 64 ∨ (at_ = [] ∧ nb = hd)) := Lib.hid (by rw [← hnb]; exact HB0.out)
              rw [hnb]
              have HR4 := Lib.hid hrow4
              have HU4 := Lib.hid hu4
              clear hrow4 hb4 hu4 hnb HRD HB0
              go_wp2_with fail
              refine HH47.out.mono ?_
              rintro e w5 ⟨v5, rfl, hrow5, hb5⟩
              obtain ⟨A5, c5, rfl⟩ := own_shape hrow5
              have hu5 := up_below hb5
              have hst5 := sl_string (xs := headI [] 64) (slb_of (by rw [show (headI [] 64).length = 64 from pad_len _ _]; exact hrow5))
              obtain ⟨sn, hsn⟩ : ∃ sn, strOfNums (headI [] 64) = sn := ⟨_, rfl⟩
              rw [hsn] at hst5
              have hu45 := HU4.out.trans hu5
              have HRF5 := Lib.hid (own_chg HRF3.out hu45 (fun _ _ h => h))
              have HR5 := Lib.hid (own_chg HR3.out hu45 (fun _ _ h => h))
              have HB5 := Lib.hid (own_chg HR4.out hu5 (fun _ _ h => h))
              have HC5 := Lib.hid (HC3.out.trans (hu45.mono (fun _ _ h => h.elim)))
              have HD5 := Lib.hid (HD3.out.up hu45)
              have hsm := wsame_any w5 (.slice A3 4 c3) (.slice (some ⟨g, 0, none⟩) 4 4) WL WL (slS_of HR5.out HWLL.out.symm) (slS_of HRF5.out HWLL.out.symm)
              rw [sameL_refl] at hsm
              have HSA := Lib.hid hsm
              clear hrow5 hb5 hu5 hu45 hsm HH47 HR4 HR3 HRF3 HU4 HC3 HD3
              go_wp2_with fail
              refine HSA.out.mono ?_
              rintro e w6 ⟨rfl, hu6⟩
              have hst6 := sl_string (xs := nb) (slb_of (own_chg HB5.out hu6 (fun _ _ h => h)))
              obtain ⟨sb, hsb⟩ : ∃ sb, strOfNums nb = sb := ⟨_, rfl⟩
              have hc6 := HC5.out.trans (hu6.mono (fun _ _ h => h.elim))
              have hst7 := sl_string (src_below HV.out (by decide) hc6 : SlB w6 (.slice A 64 c) hd)
              obtain ⟨sh, hsh⟩ : ∃ sh, strOfNums hd = sh := ⟨_, rfl⟩
              rw [hsb] at hst6
              rw [hsh] at hst7
              have HCD := Lib.hid (vcached w6 p b sv y (0 + 700) (HD5.out.up hu6) (by omega) (by rw [HYN.out]; omega))
              have HC6 := Lib.hid hc6
              have hce : (cachedN y y.has.length).length = 0 := by
                unfold cachedN
                rw [HCA.out]
                simp
              have HCE := Lib.hid hce
              have hcase : (sb.toList == sn.toList) = true ∨ ((sb.toList == sn.toList) = false ∧ at_ = [] ∧ (sb.toList == sh.toList) = true) := by
                rcases HB0'.out with e | ⟨e1, e2⟩
                · left
                  rw [← hsb, ← hsn, e]
                  simp
                · cases hq : (sb.toList == sn.toList) with
                  | true => exact .inl rfl
                  | false =>
                    right
                    exact ⟨rfl, e1, by rw [← hsb, ← hsh, e2]; simp⟩
              have HCASE := Lib.hid hcase
              clear hu6 hsb hsh hsn hc6 hce hcase HSA hst5
              rcases HCASE.out with e1 | ⟨e1, e2, e3⟩
              · clear HCASE HB0'
                go_wp2_with fail
                refine HCD.out.mono ?_
                rintro e w7 ⟨v7, rfl, hrow7, hb7⟩
                rw [HCE.out] at hrow7
                obtain ⟨A7, c7, rfl⟩ := own_shape hrow7
                have HBX : Below w.heap.size w w7 := (HC6.out.trans ((up_below hb7).mono (fun _ _ h => h.elim))).below (Nat.le_refl _) (fun _ h => h)
                clear hrow7 hb7 HCD
                go_wp2_with fail
                refine (HAW.out _).mono ?_
                rintro e w9 ⟨rfl, hb9⟩
                go_wp2_with fail
                go_ret
                exact ⟨rfl, HBX.trans (hb9.mono HBX.size)⟩
              · have hat0 : at_.length = 0 := by rw [e2]; rfl
                clear HCASE HB0' e2
                go_wp2_with fail
                refine HCD.out.mono ?_
                rintro e w7 ⟨v7, rfl, hrow7, hb7⟩
                rw [HCE.out] at hrow7
                obtain ⟨A7, c7, rfl⟩ := own_shape hrow7
                have HBX : Below w.heap.size w w7 := (HC6.out.trans ((up_below hb7).mono (fun _ _ h => h.elim))).below (Nat.le_refl _) (fun _ h => h)
                clear hrow7 hb7 HCD
                go_wp2_with fail
                refine (HAW.out _).mono ?_
                rintro e w9 ⟨rfl, hb9⟩
                go_wp2_with fail
                go_ret
                exact ⟨rfl, HBX.trans (hb9.mono HBX.size)⟩
end Go.Proofs.Ytkndnlhlglgmfaa
