/-
  Without crashes a wal has what was committed: walked.
-/
import Derived.Test.YtkndnlhlglgmfaaW27
namespace Go.Proofs.Ytkndnlhlglgmfaa
open Go.RowKit
theorem small_bd {os : List WOp} (h : smallW os = true) (j : Nat) (hj : j < os.length) : (os.getD j default).chs.length ≤ 20 ∧ (os.getD j default).lost.length ≤ 40 ∧ ∀ i, i < (os.getD j default).chs.length → ((os.getD j default).chs.getD i default).dat.length ≤ 200 := by
  have h1 := List.all_eq_true.1 h (os.getD j default) (by rw [List.getD_eq_getElem?_getD, List.getElem?_eq_getElem hj]; exact List.getElem_mem _)
  unfold smallO at h1
  rw [Bool.and_eq_true, Bool.and_eq_true, decide_eq_true_eq, decide_eq_true_eq] at h1
  refine ⟨h1.1.1, h1.1.2, fun i hi => ?_⟩
  have := List.all_eq_true.1 h1.2 ((os.getD j default).chs.getD i default) (by rw [List.getD_eq_getElem?_getD (l := (os.getD j default).chs), List.getElem?_eq_getElem hi]; exact List.getElem_mem _)
  simpa using this
theorem DskV.not9 {w : World} {p b : Nat} {sv : Value} {x : Dk} {k : Nat} (h : DskV w p b sv x k) : ∀ j cur fr, OwnD p b sv j → w.heap[j]? ≠ some (.cells cur 9 fr) := by
  obtain ⟨m, ss, C, h1, hm⟩ := h
  intro j cur fr hj hh
  rcases hj with rfl | rfl | hj
  · rw [h1.obj] at hh; cases hh
  · obtain ⟨es, cl, hb⟩ := h1.map.block
    rw [hb] at hh; cases hh
  · obtain ⟨cu, fu, hg⟩ := own_type h1.row j hj
    rw [hg] at hh; cases hh
/-- Strings stay where a disk and a wal are turned. -/
theorem str_keep {w w' : World} {q p b base n : Nat} {sv v : Value} {x : Dk} {k : Nat} {home : Int} {dn : Bool} {us : List Value} (h : w.ownsRow base 9 1 v n us) (hd : DskV w p b sv x k) (hw : WalAt w q p home dn) (hc : Chg (fun i => OwnD p b sv i ∨ i = q) w w') : w'.ownsRow base 9 1 v n us :=
  own_chg' h hc (fun j cur fr hj hh => hj.elim (fun hj => hd.not9 j cur fr hj hh) (fun e => by subst e; rw [hw.obj] at hh; cases hh))
theorem chgd_at (l : List (List Int)) (cs : List ChI) (i : Nat) (hi : i < l.length) : ∀ k, k ≤ cs.length → (∀ j, j < cs.length → 0 ≤ (cs.getD j default).at_) → (chgd l cs k).getD i [] = recW (fun k => (cs.getD k default).dat) (fun i => l.getD i.toNat []) (atsOf cs) k i
  | 0, _, _ => rfl
  | k + 1, hk, h => by
    have ih := chgd_at l cs i hi k (by omega) h
    have hg : (atsOf cs).getD k 0 = (cs.getD k default).at_ := by
      simp [atsOf, List.getD_eq_getElem?_getD, List.getElem?_eq_getElem (show k < cs.length by omega)]
    have h0 := h k (by omega)
    unfold chgd recW
    rw [hg]
    by_cases e : (i : Int) = (cs.getD k default).at_
    · rw [if_pos e, List.getD_eq_getElem?_getD, show (cs.getD k default).at_.toNat = i by omega, List.getElem?_set_self (by rw [chgd_len]; exact hi)]
      rfl
    · rw [if_neg e, List.getD_eq_getElem?_getD, List.getElem?_set_ne (by omega), ← List.getD_eq_getElem?_getD]
      exact ih
theorem homesN_at (x : Dk) (k i : Nat) (h : i < k) : (homesN x k).getD i [] = nowI x (1 + (i : Int)) := by simp [homesN, List.getD_eq_getElem?_getD, h]
/-- Home sectors behind a commit. -/
theorem chgd_homes {n size : Nat} {home : Nat} (f : Fm n size home) {x : Dk} (hx : x.has.length = n ∧ x.size = size) (h : Live x) (cs : List ChI) (hc : chkI size home (roomI n size home) cs = 0) : chgd (homesN x home) cs cs.length = homesN (commitI x home false cs).1 home := by
  obtain ⟨_, _, _, l4⟩ := commit_live f hx h cs hc
  have hok := (chk_ok hc).1
  have e1 : (chgd (homesN x home) cs cs.length).length = home := by rw [chgd_len, homesN_len]
  apply List.ext_getElem (by rw [e1, homesN_len])
  intro i h1 h2
  rw [homesN_len] at h2
  have a := chgd_at (homesN x home) cs i (by rw [homesN_len]; exact h2) cs.length (Nat.le_refl _) (fun j hj => (hok j hj).1)
  have b := homesN_at (commitI x home false cs).1 home i h2
  have c := l4 (i : Int) (by omega) (by omega)
  rw [c] at b
  have hl : (atsOf cs).length = cs.length := by simp [atsOf]
  have e : recW (fun k => (cs.getD k default).dat) (fun i => (homesN x home).getD i.toNat []) (atsOf cs) cs.length i = recW (fun k => (cs.getD k default).dat) (fun i => nowI x (1 + i)) (atsOf cs) cs.length i := by
    rw [← hl]
    exact recW_eq _ (fun _ _ => rfl) (fun _ => by rw [Int.toNat_natCast, homesN_at x home i h2])
  rw [List.getD_eq_getElem?_getD, List.getElem?_eq_getElem h1] at a
  rw [List.getD_eq_getElem?_getD, List.getElem?_eq_getElem (by rw [homesN_len]; exact h2)] at b
  simp only [Option.getD_some] at a b
  rw [a, b, e]
theorem chk_nil (size : Nat) (home room : Int) (hr : 0 ≤ room) : chkI size home room [] = 0 := by
  unfold chkI
  rw [if_neg (by simp), if_neg (by simp [chkE]; omega)]
  rfl
theorem commit_no {x : Dk} {home : Int} {cs : List ChI} (hr : 0 ≤ roomI x.has.length x.size home) (h : chkI x.size home (roomI x.has.length x.size home) cs ≠ 0) : commitI x home false cs = (x, chkI x.size home (roomI x.has.length x.size home) cs) := by
  have hn : cs.length ≠ 0 := fun e => by
    obtain rfl : cs = [] := List.eq_nil_of_length_eq_zero e
    exact h (chk_nil _ _ _ hr)
  unfold commitI
  rw [if_neg hn, if_neg (by simp), if_pos h]
theorem homes_fresh (n size k : Nat) (h : k < n) : homesN (freshI n size) k = List.replicate k (List.replicate size 0) := by
  apply List.ext_getElem (by simp [homesN])
  intro i h1 h2
  rw [homesN_len] at h1
  have := homesN_at (freshI n size) k i h1
  rw [fresh_now n size _ (by omega) (by omega), List.getD_eq_getElem?_getD, List.getElem?_eq_getElem (by rw [homesN_len]; exact h1)] at this
  simpa using this
theorem sameL_refl (l : List (List Int)) : sameL l l = true := by
  unfold sameL
  rw [Bool.and_eq_true]
  refine ⟨by simp, List.all_eq_true.2 (fun i _ => eqS_refl _)⟩
set_option maxRecDepth 100000 in
set_option maxHeartbeats 4000000 in
theorem plays12_any (w : World) (n size : Int) (hnI : I64 n) (hsI : I64 size) (v : Value) (os : List WOp) (ds : List (Value × Value)) (es : List (List Value)) (h : WOpsAt w v os ds es) (hok : ∀ j, j < os.length → WOpOk (os.getD j default)) :
    Calls Try.prog 5 #[.int .i64 n, .int .i64 size, v] w (TruePost w) := by
  have HAW : Hid (∀ w1, Calls Try.prog 25 #[] w1 (TruePost w1)) := Lib.hid (fun w1 => wawake_any w1)
  obtain ⟨A, c, rfl, hc1, hc2⟩ := h.shape
  have hsm := wsmall_any w (.slice A os.length c) os ds es h 20
  obtain ⟨sm, hsme⟩ : ∃ sm, (smallW os && decide ((os.length : Int) ≤ 20)) = sm := ⟨_, rfl⟩
  rw [hsme] at hsm
  have HSM := Lib.hid hsm
  have HSME := Lib.hid hsme
  have HO := Lib.hid h
  have HOK := Lib.hid hok
  clear h hok hsm hsme
  by_cases h1 : n < 3
  · go_enter Try.func5, Try.ntmps5
    go_wp2_with fail
    refine (HAW.out _).mono ?_
    rintro e w9 ⟨rfl, hb9⟩
    go_wp2_with fail
    go_ret
    exact ⟨rfl, hb9⟩
  by_cases h2 : n > 40
  · go_enter Try.func5, Try.ntmps5
    go_wp2_with fail
    refine (HAW.out _).mono ?_
    rintro e w9 ⟨rfl, hb9⟩
    go_wp2_with fail
    go_ret
    exact ⟨rfl, hb9⟩
  by_cases h3 : size < 32
  · go_enter Try.func5, Try.ntmps5
    go_wp2_with fail
    refine (HAW.out _).mono ?_
    rintro e w9 ⟨rfl, hb9⟩
    go_wp2_with fail
    go_ret
    exact ⟨rfl, hb9⟩
  by_cases h4 : size > 200
  · go_enter Try.func5, Try.ntmps5
    go_wp2_with fail
    refine (HAW.out _).mono ?_
    rintro e w9 ⟨rfl, hb9⟩
    go_wp2_with fail
    go_ret
    exact ⟨rfl, hb9⟩
  cases sm with
  | false =>
    go_enter Try.func5, Try.ntmps5
    go_wp2_with fail
    refine HSM.out.mono ?_
    rintro e w1 ⟨rfl, hb1⟩
    go_wp2_with fail
    refine (HAW.out _).mono ?_
    rintro e w9 ⟨rfl, hb9⟩
    go_wp2_with fail
    go_ret
    exact ⟨rfl, hb1.trans (hb9.mono hb1.size)⟩
  | true =>
  obtain ⟨N, hN⟩ : ∃ N : Nat, n = N := ⟨n.toNat, by omega⟩
  obtain ⟨Z, hZ⟩ : ∃ Z : Nat, size = Z := ⟨size.toNat, by omega⟩
  subst hN hZ
  obtain ⟨M, hM⟩ : ∃ M : Nat, (N : Int) / 2 = M := ⟨((N : Int) / 2).toNat, by omega⟩
  have hfm : Fm N Z M := ⟨by omega, by omega, by omega, by omega, hM⟩
  have hMb : 1 ≤ M ∧ M ≤ 20 ∧ M < N := by omega
  have hrm := hfm.hh
  have HFM := Lib.hid hfm
  have HRH : Hid (∀ w1, Calls Try.prog 27 #[.int .i64 (N : Int)] w1 (fun e w' => e = .returned (.int .i64 (M : Int)) ∧ w' = w1)) := Lib.hid (fun w1 => by rw [← hM]; exact rhome_any w1 N ⟨by omega, by omega⟩)
  have HRR : Hid (∀ w1, Calls Try.prog 30 #[.int .i64 (N : Int), .int .i64 (Z : Int)] w1 (fun e w' => e = .returned (.int .i64 (roomI N Z M)) ∧ w' = w1)) := Lib.hid (fun w1 => by rw [← hM]; exact rroom_any w1 N Z ⟨by omega, by omega⟩ ⟨by omega, by omega⟩)
  obtain ⟨room, hroom⟩ : ∃ room, roomI N Z M = room := ⟨_, rfl⟩
  rw [hroom] at HRR hrm
  have HROOM := Lib.hid hroom
  have hsmb : smallW os = true ∧ os.length ≤ 20 := by
    have := HSME.out
    rw [Bool.and_eq_true, decide_eq_true_eq] at this
    exact ⟨this.1, by omega⟩
  have HBD := Lib.hid (fun j hj => small_bd hsmb.1 j hj)
  have hos := hsmb.2
  have hM2 : ¬ (N : Int) < 3 := h1
  clear hsmb hroom hM hfm HSME
  obtain ⟨i9, hi9, hz9, hs9, hb9⟩ := info_parts (P := Try.prog) (e := 9) (z := .string ⟨#[]⟩) (size := 1) (bytes := 16) (by kernel_rfl)
  obtain ⟨i5, hi5, hz5, hs5, hb5⟩ := info_parts (P := Try.prog) (e := 5) (z := .int .u8 0) (size := 1) (bytes := 1) (by kernel_rfl)
  go_enter Try.func5, Try.ntmps5
  go_wp2_with fail
  refine HSM.out.mono ?_
  rintro e w1 ⟨rfl, hb1⟩
  have HB1 := Lib.hid hb1
  have HNEW := Lib.hid (vnew w1 N Z ⟨by omega, by omega, by omega, by omega⟩)
  clear hb1 HSM
  go_wp2_with fail
  refine HNEW.out.mono ?_
  rintro e w2 hp
  obtain ⟨p, b, sv, rfl, hd, hown, hb⟩ := hp
  have hop := open_any w2 p b sv (freshI N Z) 0 hd (Wf.fresh N Z (by omega) (by omega)) (by omega) rfl (by simp [freshI]; omega) (by show 32 ≤ Z; omega) (by rw [fresh_now N Z 0 (by omega) (by omega)]; exact bytes_zero Z) M (by rw [(fresh_form N Z).1]; exact HFM.out.h)
  rw [fresh_open HFM.out] at hop
  have HOP := Lib.hid hop
  have HB2 := Lib.hid (HB1.out.trans (hb.mono HB1.out.size))
  have HOWN : Hid (∀ j, OwnD p b sv j → w.heap.size ≤ j) := Lib.hid (fun j hj => by have := hown j hj; have := HB1.out.size; omega)
  clear hd hown hb hop HNEW HB1
  go_wp2_with fail
  refine HOP.out.mono ?_
  rintro e w3 ⟨h1, hd, hc⟩
  rcases h1 with ⟨_, q, rfl, hw, hq⟩ | ⟨h1, _⟩
  rotate_left
  · exact absurd rfl h1
  dsimp only at hd
  have HD := Lib.hid hd
  have HW := Lib.hid hw
  have HQ : Hid (w.heap.size ≤ q) := Lib.hid (by have := HB2.out.size; omega)
  have HC3 : Hid (Chg (fun i => w.heap.size ≤ i) w w3) := Lib.hid (((up_below HB2.out).mono (fun _ _ h => h.elim)).then hc (fun i hi => .inl (HOWN.out i hi)))
  have HH := Lib.hid (whome_any w3 q p M false hw)
  have HR0 := room_any w3 q p b sv (freshI N Z) (0 + 700) M false hw hd (by simp [freshI]; omega) (by show Z ≤ 4096; omega) (by show 16 ≤ Z; omega) ⟨by omega, by omega⟩
  rw [(fresh_form N Z).1, (fresh_form N Z).2, HROOM.out] at HR0
  have HR := Lib.hid HR0
  clear hd hw hq hc HOP HR0 HB2
  go_wp2_with fail
  refine (HRH.out _).mono ?_
  rintro e w4 ⟨rfl, rfl⟩
  rename World => w3
  go_wp2_with fail
  refine HH.out.mono ?_
  rintro e w4 ⟨rfl, rfl⟩
  rename World => w3
  clear HH
  go_wp2_with fail
  refine HR.out.mono ?_
  rintro e w4 ⟨rfl, hu4⟩
  have HU4 := Lib.hid hu4
  clear hu4 HR
  go_wp2_with fail
  refine (HRR.out _).mono ?_
  rintro e w5 ⟨rfl, rfl⟩
  rename World => w4
  clear HRR
  have hszr := wsize_any w4 q p b sv (freshI N Z) (0 + 700) M false (HW.out.up HU4.out) (HD.out.up HU4.out)
  rw [(fresh_form N Z).2] at hszr
  have HSZ := Lib.hid hszr
  clear hszr
  go_wp2_with fail
  refine HSZ.out.mono ?_
  rintro e w5 ⟨rfl, rfl⟩
  rename World => w4
  clear HSZ
  have hm1 : i9.bytes * M ≤ 281474976710656 := by rw [hb9]; omega
  have hm2 : M ≤ maxLen := by unfold maxLen; omega
  have hm5 : w.heap.size ≤ w4.heap.size := by have := HC3.out.size; have := HU4.out.size; omega
  go_wp2_with (refine wpList_make_full _ rfl (.tmp 80) (.tmp 80) 51 rfl w.heap.size 9 i9 _ 1 Try.underlying51 hi9 hz9 hs9 .i64 .i64 M M M rfl rfl rfl rfl hm1 hm2 hm5 ?_; intro w5 hr5 hg5)
  obtain ⟨g, hg⟩ : ∃ g, g = w4.heap.size := ⟨_, rfl⟩
  rw [← hg] at hr5 ⊢
  rw [show (madeCells (Value.string ⟨#[]⟩).cells (M * 1)).toList = strV (List.replicate M []) from by
    show (madeCells #[Value.string ⟨#[]⟩] (M * 1)).toList = _
    rw [Nat.mul_one, toList_madeCells_one]
    simp [strV, str_nil]] at hr5
  have HR5 := Lib.hid hr5
  have HU5 : Hid (Up w4 w5) := Lib.hid ((Chg.of_grownBy hg5).mono (fun i _ hi => by cases hi))
  have HG := Lib.hid hg
  have hm3 : i5.bytes * Z ≤ 281474976710656 := by rw [hb5]; omega
  have hm4 : Z ≤ maxLen := by unfold maxLen; omega
  clear hr5 hg5 hg hm1 hm2 hm5 hi9 hz9 hs9 hb9
  go_loopw [84] (fun t wr => ∃ k : Nat, k ≤ M ∧ t = .int .i64 k ∧ wr.ownsRow w.heap.size 9 1 (.slice (some ⟨g, 0, none⟩) M M) M (strV (List.replicate k (List.replicate Z 0) ++ List.replicate (M - k) [])) ∧ Up w4 wr) (fun t _ => M - (intOf t).toNat)
  case atStart => exact ⟨0, by omega, rfl, by simpa using HR5.out, HU5.out⟩
  case round =>
    rename World => wr
    obtain ⟨k, hk, rfl, hrow, hup⟩ := hrel
    by_cases hk2 : (k : Int) < M
    · have hcw := World.ownsRow.cells hrow rfl k _ (strV_at (by simp; omega))
      rw [addr_add, Nat.zero_add] at hcw
      have hfz : wr.frozen? ⟨g, k, none⟩ = false := World.ownsRow.frozenAt hrow k
      obtain ⟨old, hold⟩ : ∃ old, strOfNums ((List.replicate k (List.replicate Z (0 : Int)) ++ List.replicate (M - k) []).getD k []) = old := ⟨_, rfl⟩
      rw [hold] at hcw
      have HROW := Lib.hid hrow
      have HUP := Lib.hid hup
      have HCW := Lib.hid hcw
      have HFZ := Lib.hid hfz
      clear hold hrow hup hcw hfz
      go_wp2_with (refine wpList_make_full _ rfl (.tmp 89) (.tmp 89) 28 rfl 0 5 i5 _ 1 Try.underlying28 hi5 hz5 hs5 .i64 .i64 Z Z Z rfl rfl rfl rfl hm3 hm4 (Nat.zero_le _) ?_; intro w6 hr6 hg6; have hst := made_str hr6; have hu6 : Up wr w6 := (Chg.of_grownBy hg6).mono (fun i _ hi => by cases hi); have hrow6 := own_chg HROW.out hu6 (fun _ _ h => h); have q6 := hu6.cell HCW.out (fun h => h); have f6 : w6.frozen? ⟨g, k, none⟩ = false := World.ownsRow.frozenAt hrow6 k; have HROW6 := Lib.hid hrow6; have HU6 := Lib.hid hu6; clear hr6 hg6 hu6 hrow6)
      obtain ⟨hs1, _⟩ := World.ownsRow.stored HROW6.out k (.string (strOfNums (List.replicate Z 0)))
      rw [strV_set, set_rep _ _ _ _ (by omega)] at hs1
      exact ⟨⟨k + 1, by omega, by go_num, hs1, (HUP.out.trans HU6.out).setCell ⟨g, k, none⟩ (.inr (by show w4.heap.size ≤ g; have := HG.out; omega)) _⟩, by simp [intOf]; omega⟩
    · obtain rfl : M = k := by omega
      have HROW := Lib.hid hrow
      have HUP := Lib.hid hup
      clear hrow hup hi5 hz5 hs5 hb5 hm3 hm4
      have hrow0 : wr.ownsRow w.heap.size 9 1 (.slice (some ⟨g, 0, none⟩) M M) M (strV (homesN (freshI N Z) M)) := by
        rw [homes_fresh N Z M (by omega)]
        simpa using HROW.out
      have HROW0 := Lib.hid hrow0
      have HD0 : Hid (DskV wr p b sv (freshI N Z) (700 + 60 * 0)) := Lib.hid ((HD.out.up (HU4.out.trans HUP.out)).le (by omega))
      have HW0 : Hid (WalAt wr q p M false) := Lib.hid (HW.out.up (HU4.out.trans HUP.out))
      have HC0 : Hid (Chg (fun i => w.heap.size ≤ i) w wr) := Lib.hid (HC3.out.trans ((HU4.out.trans HUP.out).mono (fun _ _ h => h.elim)))
      have HWF0 : Hid (Wf (freshI N Z) (700 + 60 * 0)) := Lib.hid ((Wf.fresh N Z (by omega) (by omega)).mono (by omega))
      clear hrow0 HROW HUP HR5 HU5 HU4 HD HW HC3 HG hk hk2
      rename World => wl
      go_wp2_with fail
      go_loopw [11, 96] (fun nv t wr => ∃ (k : Nat) (x : Dk) (c : Nat) (B : Option Addr), k ≤ os.length ∧ t = .int .i64 k ∧ nv = .slice B M c ∧ DskV wr p b sv x (700 + 60 * k) ∧ Wf x (700 + 60 * k) ∧ Live x ∧ (x.has.length = N ∧ x.size = Z) ∧ WalAt wr q p M false ∧ wr.ownsRow w.heap.size 9 1 (.slice B M c) M (strV (homesN x M)) ∧ Chg (fun i => w.heap.size ≤ i) w wr) (fun _ t _ => os.length - (intOf t).toNat)
      case atStart => exact ⟨0, freshI N Z, M, _, by omega, rfl, rfl, HD0.out, HWF0.out, Live.fresh N Z, fresh_form N Z, HW0.out, HROW0.out, HC0.out⟩
      case round =>
        rename World => wr
        clear HD0 HWF0 HW0 HROW0 HC0
        obtain ⟨k, x, cN, BN, hk, rfl, rfl, hd, hwf, hlive, hform, hw, hrow, hch⟩ := hrel
        by_cases hk2 : (k : Int) < os.length
        · have ho := HO.out.below hch
          obtain ⟨bb, off, cc, he, _, _, hcells⟩ := ho.cells (by omega)
          injection he with e1 e2 e3
          subst e1 e3
          clear e2
          obtain ⟨r0, r1, r2, r3⟩ := hcells k (by omega)
          have hcc := ho.chs k (by omega)
          have hcc0 := HO.out.chs k (by omega)
          have hll := ho.lost k (by omega)
          have hbd := HBD.out k (by omega)
          have hokk := (HOK.out k (by omega)).2.2.1
          obtain ⟨⟨d1, d2⟩, hde⟩ : ∃ d, ds.getD k uu = d := ⟨_, rfl⟩
          obtain ⟨o, hoe⟩ : ∃ o, os.getD k default = o := ⟨_, rfl⟩
          obtain ⟨ec, hece⟩ : ∃ o, es.getD k [] = o := ⟨_, rfl⟩
          rw [hde] at r2 r3 hcc hll hcc0
          rw [hoe] at r0 r1 hcc hll hbd hcc0 hokk
          rw [hece] at hcc hcc0
          dsimp only at r2 r3 hcc hll hcc0
          obtain ⟨A1, c1, rfl, x1, x2⟩ := hcc.ch.shape
          obtain ⟨A2, c2, rfl, y1, y2⟩ := hll.shape
          obtain ⟨W5, hW5⟩ : ∃ W5, W5 = wr.alloc (.cells #[.int .i64 o.kind, .int .i64 o.num, .slice A1 o.chs.length c1, .slice A2 o.lost.length c2] 54) := ⟨_, rfl⟩
          have hu5 : Up wr W5 := by rw [hW5]; exact (Chg.refl _ wr).alloc _
          have hlast : W5.heap[wr.heap.size]? = some (.cells #[.int .i64 o.kind, .int .i64 o.num, .slice A1 o.chs.length c1, .slice A2 o.lost.length c2] 54 (0, 0)) := by rw [hW5]; exact heap_alloc_last wr _
          obtain ⟨g5, hg5⟩ : ∃ g5, g5 = wr.heap.size := ⟨_, rfl⟩
          rw [← hg5] at hlast
          have hwl := hw.lt
          have HD := Lib.hid (hd.up hu5)
          have HWF := Lib.hid hwf
          have HLIVE := Lib.hid hlive
          have HFORM := Lib.hid hform
          have HW := Lib.hid (hw.up hu5)
          have HROW := Lib.hid (own_chg hrow hu5 (fun _ _ h => h))
          have HCH := Lib.hid (hch.trans (hu5.mono (fun _ _ h => h.elim)))
          have HCC0 := Lib.hid hcc0
          have HOKK := Lib.hid hokk
          have HL5 := Lib.hid hlast
          have HQN : Hid (g5 ≠ q) := Lib.hid (by omega)
          have HG5 : Hid (¬ OwnD p b sv g5) := Lib.hid (fun h => by have := hd.lt g5 h; omega)
          obtain ⟨hb1, _, hb3⟩ := hbd
          have HB3 := Lib.hid hb3
          clear ho hcells hcc hll hokk hde hoe hece hd hwf hlive hform hw hrow hch hcc0 hu5 hwl hb3
          by_cases hkd : o.kind ≠ 1
          · have hkd' : (o.kind != 1) = true := by rw [bne_iff_ne]; exact hkd
            clear hkd
            go_wp2_with fail
            rw [← hW5]
            exact ⟨⟨k + 1, x, cN, BN, by omega, by go_num, rfl, HD.out.le (by omega), HWF.out.mono (by omega), HLIVE.out, HFORM.out, HW.out, HROW.out, HCH.out⟩, by simp [intOf]; omega⟩
          · have hkd' : (o.kind != 1) = false := by rw [bne_eq_false_iff_eq]; exact Classical.not_not.1 hkd
            have hcs5 := HCC0.out.below HCH.out
            have HWR := Lib.hid (wrong_any W5 N Z ⟨by omega, by omega⟩ ⟨by omega, by omega⟩ M HFM.out.h (.slice A1 o.chs.length c1) o.chs ec hcs5 (by omega))
            rw [HROOM.out] at HWR
            obtain ⟨want, hwant⟩ : ∃ want, chkI Z M room o.chs = want := ⟨_, rfl⟩
            rw [hwant] at HWR
            have HWANT := Lib.hid hwant
            have q52 := cell_of_row W5 g5 2 _ _ _ HL5.out
            clear hwant hcs5 hkd
            go_wp2_with fail
            rw [← hW5]
            refine HWR.out.mono ?_
            rintro e w6 ⟨rfl, hb6⟩
            have hu6 := up_below hb6
            have q62 := hu6.cell q52 (fun h => h)
            have hl6 := hu6.heap HL5.out (fun h => h)
            have hcm := commit_any w6 q p b sv x (700 + 60 * k) M false (HW.out.up hu6) (HD.out.up hu6) HWF.out (by omega) (by rw [HFORM.out.2]; omega) ⟨by omega, by omega⟩ (.slice A1 o.chs.length c1) o.chs ec
              (HCC0.out.ok (HCH.out.trans (hu6.mono (fun _ _ h => h.elim))) (by omega) (fun j hj => by have := HB3.out j hj; omega) HOWN.out) (fun j hj => (HOKK.out j hj).1) (HCC0.out.q q HQ.out)
            have HCM := Lib.hid hcm
            have HL6 := Lib.hid hl6
            have HROW6 := Lib.hid (own_chg HROW.out hu6 (fun _ _ h => h))
            have HCH6 := Lib.hid (HCH.out.trans (hu6.mono (fun _ _ h => h.elim)))
            have HD6 := Lib.hid (HD.out.up hu6)
            have HW6 := Lib.hid (HW.out.up hu6)
            clear q52 hu6 hl6 hcm hb6 HWR HL5 HROW HCH HD HW
            rw [hg5] at q62
            clear hW5
            go_wp2_with fail
            refine HCM.out.mono ?_
            rintro e w7 ⟨rfl, hd7, hw7, hc7⟩
            have hrow7 := str_keep HROW6.out HD6.out HW6.out hc7
            have hl7 := hc7.heap HL6.out (fun h => h.elim HG5.out HQN.out)
            have q72 := cell_of_row w7 g5 2 _ _ _ hl7
            rw [hg5] at q72
            have HC7 := Lib.hid (HCH6.out.then hc7 (fun i hi => .inl (hi.elim (HOWN.out i) (fun e => by rw [e]; exact HQ.out))))
            have HROW7 := Lib.hid hrow7
            have hchk : chkI x.size M (roomI x.has.length x.size M) o.chs = want := by rw [HFORM.out.1, HFORM.out.2, HROOM.out]; exact HWANT.out
            by_cases hw0 : want = 0
            · subst hw0
              have hchk' : chkI Z M (roomI N Z M) o.chs = 0 := by rw [HROOM.out]; exact HWANT.out
              obtain ⟨l1, l2, _, _⟩ := commit_live HFM.out HFORM.out HLIVE.out o.chs hchk'
              have hho := chgd_homes HFM.out HFORM.out HLIVE.out o.chs hchk'
              have hwf2 := commit_wf HWF.out M false o.chs
              have hfo2 := commit_form x M false o.chs
              have hats := (chk_ok hchk').1
              obtain ⟨r, hr⟩ : ∃ r, commitI x M false o.chs = r := ⟨_, rfl⟩
              rw [hr] at hd7 hw7 l1 l2 hho hwf2 hfo2 ⊢
              obtain ⟨y, e⟩ := r
              obtain rfl : e = 0 := l1
              dsimp only at hd7 hw7 hwf2 hho
              have hw70 : WalAt w7 q p M false := hw7
              have hchd := changed_any w7 (.slice BN M cN) (homesN x M) (slS_of hrow7 (homesN_len x M).symm) (.slice A1 o.chs.length c1) o.chs ec (HCC0.out.below HC7.out) (by rw [homesN_len]; omega) (fun j hj => by rw [homesN_len]; exact ⟨(hats j hj).1, (hats j hj).2.1⟩)
              rw [hho, homesN_len] at hchd
              have HCHD := Lib.hid hchd
              have HD7 := Lib.hid hd7
              have HW7 := Lib.hid hw70
              have HL7 := Lib.hid (show Live y from l2)
              have HF7 := Lib.hid (show y.has.length = N ∧ y.size = Z from ⟨hfo2.1.trans HFORM.out.1, hfo2.2.trans HFORM.out.2⟩)
              have HWF7 := Lib.hid hwf2
              clear hd7 hw7 hc7 hrow7 hl7 hchk hchk' l2 hho hwf2 hfo2 hats hr hw70 hchd HCM HROW7 HD6 HW6 HROW6 HWF HLIVE HFORM q62
              go_wp2_with fail
              refine HCHD.out.mono ?_
              rintro e w8 ⟨v8, rfl, hrow8, hb8⟩
              obtain ⟨B8, c8, rfl⟩ := own_shape hrow8
              have hu8 := up_below hb8
              have HRW8 := Lib.hid (own_base hrow8 (show w.heap.size ≤ w7.heap.size from HC7.out.size))
              have HMS := Lib.hid (homes_any w8 q p b sv y _ M (HW7.out.up hu8) (HD7.out.up hu8) HWF7.out HL7.out.2 (by omega) (by rw [HF7.out.1]; omega))
              have HC8 := Lib.hid (HC7.out.trans (hu8.mono (fun _ _ h => h.elim)))
              have HD8 := Lib.hid (HD7.out.up hu8)
              have HW8 := Lib.hid (HW7.out.up hu8)
              clear hrow8 hb8 hu8 HCHD HD7 HW7 HC7 q72
              go_wp2_with fail
              refine HMS.out.mono ?_
              rintro e w9 ⟨v9, rfl, hrow9, hb9⟩
              rw [homesN_len] at hrow9
              obtain ⟨B9, c9, rfl⟩ := own_shape hrow9
              have hu9 := up_below hb9
              have hsm := wsame_any w9 (.slice B9 M c9) (.slice B8 M c8) (homesN y M) (homesN y M) (slS_of hrow9 (homesN_len y M).symm) (slS_of (own_chg HRW8.out hu9 (fun _ _ h => h)) (homesN_len y M).symm)
              rw [sameL_refl] at hsm
              have HSA := Lib.hid hsm
              have HU9 := Lib.hid hu9
              clear hrow9 hb9 hu9 hsm HMS
              go_wp2_with fail
              refine HSA.out.mono ?_
              rintro e w10 ⟨rfl, hu10⟩
              have HU10 := Lib.hid (HU9.out.trans hu10)
              clear hu10 HSA
              go_wp2_with fail
              exact ⟨⟨k + 1, y, c8, B8, by omega, by go_num, rfl, (HD8.out.up HU10.out).le (by omega), HWF7.out.mono (by omega), HL7.out, HF7.out, HW8.out.up HU10.out, own_chg HRW8.out HU10.out (fun _ _ h => h), HC8.out.trans (HU10.out.mono (fun _ _ h => h.elim))⟩, by simp [intOf]; omega⟩

            · have hcn := commit_no (x := x) (home := (M : Int)) (cs := o.chs) (by rw [HFORM.out.1, HFORM.out.2, HROOM.out]; omega) (by rw [hchk]; exact hw0)
              rw [hchk] at hcn
              rw [hcn] at hd7 hw7 ⊢
              dsimp only at hd7 hw7
              have hwne := chkI_val x.size M (roomI x.has.length x.size M) o.chs
              rw [hchk] at hwne
              have hw3 : (want == 30) = false := by rw [beq_eq_false_iff_ne]; omega
              have hw00 : (want == 0) = false := by rw [beq_eq_false_iff_ne]; exact hw0
              rw [hw3] at hw7
              have hw70 : WalAt w7 q p M false := hw7
              have HD8 := Lib.hid hd7
              have HW8 := Lib.hid hw70
              have HL7 := HLIVE
              have HF7 := HFORM
              have HWF7 : Hid (Wf x (700 + 60 * k + 2 * (o.chs.length + 4))) := Lib.hid (HWF.out.mono (by omega))
              have HRW8 := HROW7
              have HC8 := HC7
              have HMS := Lib.hid (homes_any w7 q p b sv x _ M hw70 hd7 HWF7.out HL7.out.2 (by omega) (by rw [HF7.out.1]; omega))
              clear hcn hd7 hw7 hc7 hrow7 hl7 hchk hwne hw3 hw70 HCM HROW7 HD6 HW6 HROW6 HWF HLIVE HFORM HC7 q62 q72
              rename World => w8
              obtain ⟨B8, hB8⟩ : ∃ B8, BN = B8 := ⟨_, rfl⟩
              subst hB8
              rename Option Addr => B8
              obtain ⟨c8, hc8⟩ : ∃ c8, cN = c8 := ⟨_, rfl⟩
              subst hc8
              go_wp2_with fail
              refine HMS.out.mono ?_
              rintro e w9 ⟨v9, rfl, hrow9, hb9⟩
              rw [homesN_len] at hrow9
              obtain ⟨B9, c9, rfl⟩ := own_shape hrow9
              have hu9 := up_below hb9
              have hsm := wsame_any w9 (.slice B9 M c9) (.slice BN M cN) (homesN x M) (homesN x M) (slS_of hrow9 (homesN_len x M).symm) (slS_of (own_chg HRW8.out hu9 (fun _ _ h => h)) (homesN_len x M).symm)
              rw [sameL_refl] at hsm
              have HSA := Lib.hid hsm
              have HU9 := Lib.hid hu9
              clear hrow9 hb9 hu9 hsm HMS
              go_wp2_with fail
              refine HSA.out.mono ?_
              rintro e w10 ⟨rfl, hu10⟩
              have HU10 := Lib.hid (HU9.out.trans hu10)
              clear hu10 HSA
              go_wp2_with fail
              exact ⟨⟨k + 1, x, cN, BN, by omega, by go_num, rfl, (HD8.out.up HU10.out).le (by omega), HWF7.out.mono (by omega), HL7.out, HF7.out, HW8.out.up HU10.out, own_chg HRW8.out HU10.out (fun _ _ h => h), HC8.out.trans (HU10.out.mono (fun _ _ h => h.elim))⟩, by simp [intOf]; omega⟩

        · obtain rfl : k = os.length := by omega
          have hr1 := wread_any wr q p b sv x _ M false hw hd hwf ⟨by omega, by omega⟩ (-1) (by unfold I64; omega)
          have hr2 := fun w2 (hu : Up wr w2) => wread_any w2 q p b sv x _ M false (hw.up hu) (hd.up hu) hwf ⟨by omega, by omega⟩ (M : Int) (by unfold I64; omega)
          rw [show wreadI x M false (-1) = ([], 11) from by unfold wreadI; rw [if_neg (by simp), if_pos (by omega)]] at hr1
          rw [show wreadI x M false M = ([], 11) from by unfold wreadI; rw [if_neg (by simp), if_pos (by omega)]] at hr2
          have hdo := fun w2 (hu : Up wr w2) => wdown_any w2 q p M false (hw.up hu)
          have HR1 := Lib.hid hr1
          have HR2 := Lib.hid hr2
          have HDO := Lib.hid hdo
          have HCH := Lib.hid hch
          clear hd hwf hlive hform hw hrow hch hr1 hr2 hdo
          go_wp2_with fail
          refine HR1.out.mono ?_
          rintro e w5 ⟨v5, rfl, hv5, hb5⟩
          obtain ⟨A5, c5, rfl⟩ := own_shape hv5
          have HU5 := Lib.hid (up_below hb5)
          have HR2' := Lib.hid (HR2.out w5 HU5.out)
          clear hv5 hb5 HR1 HR2
          go_wp2_with fail
          refine HR2'.out.mono ?_
          rintro e w6 ⟨v6, rfl, hv6, hb6⟩
          obtain ⟨A6, c6, rfl⟩ := own_shape hv6
          have HU6 := Lib.hid (HU5.out.trans (up_below hb6))
          have HDO' := Lib.hid (HDO.out w6 HU6.out)
          clear hv6 hb6 HR2' HDO
          go_wp2_with fail
          refine HDO'.out.mono ?_
          rintro e w7 ⟨rfl, rfl⟩
          rename World => w6
          clear HDO'
          go_wp2_with fail
          refine (HAW.out _).mono ?_
          rintro e w9 ⟨rfl, hb9⟩
          go_wp2_with fail
          go_ret
          exact ⟨rfl, ((HCH.out.trans (HU6.out.mono (fun _ _ h => h.elim))).below (Nat.le_refl _) (fun _ h => h)).trans (hb9.mono (HCH.out.trans (HU6.out.mono (fun _ _ h => h.elim))).size)⟩
end Go.Proofs.Ytkndnlhlglgmfaa
